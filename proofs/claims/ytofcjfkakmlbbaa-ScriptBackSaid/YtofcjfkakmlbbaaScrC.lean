import Derived.Test.YtofcjfkakmlbbaaScrB
namespace Go.Proofs.Ytofcjfkakmlbbaa
open Go.RowKit
attribute [local go_sem ↓] Go.wp_at_zero Go.wp_at_succ

def lo (n : Int) : UInt8 := UInt8.ofNat (n % 256).toNat
def hi (n : Int) : UInt8 := UInt8.ofNat (n / 256 % 256).toNat
def StepR.put (s : StepR) : List UInt8 := if fitsD s.k s.p s.n s.d.length then [lo s.k, lo s.p, lo s.n, hi s.n, lo s.d.length, hi s.d.length] ++ s.d else []

theorem byteT : ElT Try.prog 23 5 (.int .u8 0) 1 1 := ElT.mk' Try.underlying23 (by kernel_rfl) rfl (by omega)

theorem len_put (s : StepR) (h : s.d.length ≤ 100000) : s.put.length ≤ 100006 := by unfold StepR.put; split <;> simp; omega
theorem len_puts (vs : List StepR) (hd : ∀ s ∈ vs, s.d.length ≤ 100000) : (vs.flatMap StepR.put).length ≤ vs.length * 100006 := by
  induction vs with
  | nil => simp
  | cons a l ih =>
    have := len_put a (hd a (by simp))
    have := ih fun s hs => hd s (by simp [hs])
    simp only [List.flatMap_cons, List.length_append, List.length_cons, Nat.succ_mul]; omega
theorem lo_v (n : Int) : u8v (lo n) = .int .u8 (n % 256) := by
  have h : (n % 256).toNat < 256 := by omega
  simp [lo, u8v]; omega
theorem hi_v (n : Int) : u8v (hi n) = .int .u8 (n / 256 % 256) := by
  simp [hi, u8v]; omega
def six (s : StepR) : List Value := [.int .u8 (s.k % 256), .int .u8 (s.p % 256), .int .u8 (s.n % 256), .int .u8 (s.n / 256 % 256), .int .u8 ((s.d.length : Int) % 256), .int .u8 ((s.d.length : Int) / 256 % 256)]
theorem put_v (s : StepR) (h : fitsD s.k s.p s.n s.d.length = true) : s.put.map u8v = six s ++ s.d.map u8v := by
  simp only [StepR.put, h, if_true, List.map_append, List.map_cons, List.map_nil, lo_v, hi_v, six]
theorem one_bytes (l : List UInt8) : ∀ u ∈ l.map u8v, u.oneCell' = true := by
  intro u hu; obtain ⟨x, _, rfl⟩ := List.mem_map.1 hu; rfl

def Ok (w : World) (s : StepR) : Prop := Rd w s.A (s.d.map u8v)

set_option maxRecDepth 100000 in
set_option maxHeartbeats 1000000 in
theorem put_any (A : Option Addr) (vs : List StepR) (cap : Nat) (w : World) (hl : vs.length ≤ 1000) (hd : ∀ s ∈ vs, s.d.length ≤ 100000) (hr : Rd w A (vs.flatMap StepR.cells)) (hok : ∀ s ∈ vs, Ok w s) :
    Calls Try.prog 11 #[.slice A vs.length cap] w fun e w' =>
      ∃ v, e = .returned v ∧ w'.ownsRow w.heap.size 5 1 v (vs.flatMap StepR.put).length ((vs.flatMap StepR.put).map u8v) ∧ Keep w w' := by
  go_enter Try.func11, Try.ntmps11
  go_wp2
  go_loopw [3, 9] (fun v i wr => ∃ k : Nat, k ≤ vs.length ∧ i = .int .i64 k ∧ wr.ownsRow w.heap.size 5 1 v ((vs.take k).flatMap StepR.put).length (((vs.take k).flatMap StepR.put).map u8v) ∧ Keep w wr)
    (fun _ i _ => vs.length - (intOf i).toNat)
  case atStart => exact ⟨0, Nat.zero_le _, rfl, World.ownsRow_nil _ _ _ _, Below.refl _ _⟩
  case round =>
    obtain ⟨k, hk, rfl, hown, hkeep⟩ := hrel
    have hsz := hkeep.size
    by_cases hlt : k < vs.length
    · obtain ⟨b, off, rfl, hb, F⟩ := StepR.at4 hr hlt
      have hx1 := hd _ (List.getElem_mem hlt)
      have hx2 := hok _ (List.getElem_mem hlt)
      generalize hx : vs[k] = x at F hx1 hx2
      obtain ⟨c0, c1, c2, c3⟩ := F wr hkeep
      have hbr : b < wr.heap.size := by omega
      clear F hr hok
      have hd1 := len_puts (vs.take k) (fun s hs => hd s (List.mem_of_mem_take hs))
      have hd2 : (vs.take k).length ≤ 1000 := by simp; omega
      have hd3 : ((vs.take k).flatMap StepR.put).length ≤ 1000 * 100006 := Nat.le_trans hd1 (Nat.mul_le_mul_right _ hd2)
      clear hd1 hd2 hd
      have hts := take_flat StepR.put vs k hlt
      rw [hx] at hts
      have Hts := Lib.hid hts
      have Hx := Lib.hid hx
      clear hx hts
      by_cases hf : fitsD x.k x.p x.n x.d.length = true
      · have hpv := Lib.hid (put_v x hf)
        have hlp := Lib.hid (show 6 + x.d.length = x.put.length by have h := congrArg List.length (put_v x hf); simp [six] at h; omega)
        go_wp2_with (first
          | (go_at_call 8; refine (fits_any _ _ _ _ _ _ _ (by omega)).mono ?_; rintro e w2 ⟨rfl, hk2⟩
             have b0 := keep_box hk2 0 _ rfl; have b1 := keep_box hk2 1 _ rfl; have b2 := keep_box hk2 2 _ rfl; have b3 := keep_box hk2 3 _ rfl
             have hz2 := hk2.size; simp at hz2)
          | (at_builtin; refine wpList_app byteT rfl (.tmp 19) (.tmp 38) rfl w.heap.size _ _ _ rfl ((own_keep (hown.alloc _) hk2).alloc _) _ 6 6 (six x) rfl rfl (Rd.new _ _ _) (by simp [six, Value.oneCell']) (by omega) (by unfold maxLen; omega) (by simp; omega) ?_
             intro v1 w3 hown3 hg3 hat3
             have b3' := grown_cell hg3 ((Below.refl _ _).alloc (Nat.le_refl _) _ |> fun h => keep_cell h b3) (own_ne hown (Nat.le_refl _))
             have hk3 : Keep w w3 := keep_grown ((keep_trans (hkeep.alloc hsz _) hk2).alloc (by omega) _) (by simp; omega) hg3 ((own_keep (hown.alloc _) hk2).alloc _)
             have hz3 := hk3.size)
          | (at_builtin; refine wpList_app byteT rfl (.tmp 40) (.tmp 42) rfl w.heap.size _ _ _ rfl hown3 _ x.d.length _ (x.d.map u8v) rfl (by simp) (hx2.keep hk3) (one_bytes _) (by omega) (by unfold maxLen; omega) hz3 ?_
             intro v2 w4 hown4 hg4 hat4
             have hk4 : Keep w w4 := keep_grown hk3 hz3 hg4 hown3))
        go_roundw
        case rel => exact ⟨k + 1, by omega, by go_num, own_eq hown4 (by rw [Hts.out, List.length_append, ← hlp.out, Nat.add_assoc]) (by rw [Hts.out, List.map_append, hpv.out, ← List.append_assoc]), hk4⟩
        case measure => simp [intOf]; omega
      · have hpn : Hid (x.put = []) := by unfold StepR.put; rw [if_neg hf]; rfl
        have hf' : fitsD x.k x.p x.n x.d.length = false := by simpa using hf
        clear hf
        go_wp2_with (first
          | (go_at_call 8; refine (fits_any _ _ _ _ _ _ _ (by omega)).mono ?_; rintro e w2 ⟨rfl, hk2⟩))
        go_roundw
        case rel => exact ⟨k + 1, by omega, by go_num, by rw [Hts.out, hpn.out, List.append_nil]; exact own_keep (hown.alloc _) hk2, keep_trans (hkeep.alloc hsz _) hk2⟩
        case measure => simp [intOf]; omega
    · have hk' : k = vs.length := by omega
      go_wp2
      go_ret
      exact ⟨_, rfl, by simpa [hk'] using hown, hkeep⟩
end Go.Proofs.Ytofcjfkakmlbbaa
