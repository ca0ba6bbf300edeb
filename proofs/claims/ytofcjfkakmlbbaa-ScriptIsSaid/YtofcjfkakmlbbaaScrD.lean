import Derived.Test.YtofcjfkakmlbbaaScrC
namespace Go.Proofs.Ytofcjfkakmlbbaa
open Go.RowKit
attribute [local go_sem ↓] Go.wp_at_zero Go.wp_at_succ

theorem rstepT : ElT Try.prog 22 26 (.agg #[.int .i64 0, .int .i64 0, .int .i64 0, .slice none 0 0]) 4 48 :=
  ElT.mk' Try.underlying22 (by kernel_rfl) rfl (by omega)

set_option maxHeartbeats 400000 in
theorem rfits_any (k p n : Int) (A : Option Addr) (len cap : Nat) (w : World) (hl : len ≤ 9223372036854775807) :
    Calls Try.prog 10 #[.agg #[.int .i64 k, .int .i64 p, .int .i64 n, .slice A len cap]] w fun e w' =>
      e = .returned (.bool (fitsD k p n len)) ∧ Keep w w' := by
  go_enter Try.func10, Try.ntmps10
  go_wp2
  all_goals go_ret
  all_goals refine ⟨ret_bool ?_, (Below.refl _ _).alloc (Nat.le_refl _) _⟩
  all_goals unfold fitsD
  all_goals rw [Bool.eq_iff_iff]
  all_goals simp
  all_goals omega

set_option maxRecDepth 100000 in
set_option maxHeartbeats 1000000 in
theorem rows_any (A : Option Addr) (vs : List StepR) (cap : Nat) (w : World) (hl : vs.length ≤ 100000) (hr : Rd w A (vs.flatMap StepR.cells)) :
    Calls Try.prog 14 #[.slice A vs.length cap] w fun e w' =>
      ∃ v, e = .returned v ∧ w'.ownsRow w.heap.size 26 4 v vs.length (vs.flatMap StepR.cells) ∧ Keep w w' := by
  go_enter Try.func14, Try.ntmps14
  go_wp2
  go_loopw [3, 4] (fun v i wr => ∃ k : Nat, k ≤ vs.length ∧ i = .int .i64 k ∧ wr.ownsRow w.heap.size 26 4 v k ((vs.take k).flatMap StepR.cells) ∧ Keep w wr)
    (fun _ i _ => vs.length - (intOf i).toNat)
  case atStart => exact ⟨0, Nat.zero_le _, rfl, World.ownsRow_nil _ _ _ _, Below.refl _ _⟩
  case round =>
    obtain ⟨k, hk, rfl, hown, hkeep⟩ := hrel
    have hsz := hkeep.size
    by_cases hlt : k < vs.length
    · obtain ⟨b, off, rfl, hb, F⟩ := StepR.at4 hr hlt
      have hts := take_flat StepR.cells vs k hlt
      generalize vs[k] = x at F hts
      have Hts := Lib.hid hts
      have HF := Lib.hid F
      obtain ⟨c0, c1, c2, c3⟩ := F wr hkeep
      clear F hts hr
      go_wp2
      go_region_held3 (fun w' => w'.cell? ⟨b, off + k * 4, none⟩ = some (.int .i64 x.k) ∧ w'.cell? ⟨b, off + k * 4 + 1, none⟩ = some (.int .i64 x.p) ∧
          w'.cell? ⟨b, off + k * 4 + 2, none⟩ = some (.int .i64 x.n) ∧ w'.cell? ⟨b, off + k * 4 + 3, none⟩ = some (.slice x.A x.d.length x.cap))
        (first
          | go_keep
          | exact HF.out _ hk1)
        ((refine step_app rstepT (by rfl) _ _ (by rfl) w.heap.size _ k _ (by rfl) ((hown.alloc _).drew) _ 1 1 (StepR.cells x) (by rfl) (by rfl) (Rd.new _ _ _).drew (by simp [StepR.cells, Value.oneCell']) (by omega) (by unfold maxLen; omega) (by simp; omega) ?_
          intro v' w1 hown1 hgrow hat
          have hk1 : Keep w w1 := keep_grown ((hkeep.alloc hsz _).drew) (by simp; omega) hgrow ((hown.alloc _).drew)))
      go_wp2
      go_roundw
      case rel => exact ⟨k + 1, by omega, by go_num, by rw [Hts.out]; exact hown1, hk1⟩
      case measure => simp [intOf]; omega
    · have hk' : k = vs.length := by omega
      go_wp2
      go_ret
      exact ⟨_, rfl, by simpa [hk'] using hown, hkeep⟩
set_option maxRecDepth 100000 in
set_option maxHeartbeats 1000000 in
theorem rput_any (A : Option Addr) (vs : List StepR) (cap : Nat) (w : World) (hl : vs.length ≤ 1000) (hd : ∀ s ∈ vs, s.d.length ≤ 100000) (hr : Rd w A (vs.flatMap StepR.cells)) (hok : ∀ s ∈ vs, Ok w s) :
    Calls Try.prog 12 #[.slice A vs.length cap] w fun e w' =>
      ∃ v, e = .returned v ∧ w'.ownsRow w.heap.size 5 1 v (vs.flatMap StepR.put).length ((vs.flatMap StepR.put).map u8v) ∧ Keep w w' := by
  go_enter Try.func12, Try.ntmps12
  go_wp2
  go_loopw [3, 4] (fun v i wr => ∃ k : Nat, k ≤ vs.length ∧ i = .int .i64 k ∧ wr.ownsRow w.heap.size 5 1 v ((vs.take k).flatMap StepR.put).length (((vs.take k).flatMap StepR.put).map u8v) ∧ Keep w wr)
    (fun _ i _ => vs.length - (intOf i).toNat)
  case atStart => exact ⟨0, Nat.zero_le _, rfl, World.ownsRow_nil _ _ _ _, Below.refl _ _⟩
  case round =>
    obtain ⟨k, hk, rfl, hown, hkeep⟩ := hrel
    have hsz := hkeep.size
    by_cases hlt : k < vs.length
    · obtain ⟨b, off, rfl, hb, F⟩ := StepR.at4 hr hlt
      have hx1 := hd _ (List.getElem_mem hlt)
      have hx2 := hok _ (List.getElem_mem hlt)
      generalize hx : vs[k] = x at F hx1 hx2
      obtain ⟨c0, c1, c2, c3⟩ := F wr hkeep
      have hbr : b < wr.heap.size := by omega
      clear F hr hok
      have hd1 := len_puts (vs.take k) (fun s hs => hd s (List.mem_of_mem_take hs))
      have hd2 : (vs.take k).length ≤ 1000 := by simp; omega
      have hd3 : ((vs.take k).flatMap StepR.put).length ≤ 1000 * 100006 := Nat.le_trans hd1 (Nat.mul_le_mul_right _ hd2)
      clear hd1 hd2 hd
      have hts := take_flat StepR.put vs k hlt
      rw [hx] at hts
      have Hts := Lib.hid hts
      have Hx := Lib.hid hx
      clear hx hts
      by_cases hf : fitsD x.k x.p x.n x.d.length = true
      · have hpv := Lib.hid (put_v x hf)
        have hn0 : 0 ≤ x.n ∧ x.n ≤ 9223372036854775807 := by have := of_decide_eq_true hf; omega
        obtain ⟨hn0, hn1⟩ := hn0
        have hlp := Lib.hid (show 6 + x.d.length = x.put.length by have h := congrArg List.length (put_v x hf); simp [six] at h; omega)
        go_wp2_with (first
          | (go_at_call 10; refine (rfits_any _ _ _ _ _ _ _ (by omega)).mono ?_; rintro e w2 ⟨rfl, hk2⟩
             have b0 := keep_box hk2 0 _ rfl; have b1 := keep_box hk2 1 _ rfl; have b2 := keep_box hk2 2 _ rfl; have b3 := keep_box hk2 3 _ rfl
             have hz2 := hk2.size; simp at hz2)
          | (at_builtin; refine wpList_app byteT rfl (.tmp 23) (.tmp 44) rfl w.heap.size _ _ _ rfl ((own_keep (hown.alloc _) hk2).alloc _) _ 6 6 (six x) rfl rfl (Rd.new _ _ _) (by simp [six, Value.oneCell']) (by omega) (by unfold maxLen; omega) (by simp; omega) ?_
             intro v1 w3 hown3 hg3 hat3
             have b3' := grown_cell hg3 ((Below.refl _ _).alloc (Nat.le_refl _) _ |> fun h => keep_cell h b3) (own_ne hown (Nat.le_refl _))
             have hk3 : Keep w w3 := keep_grown ((keep_trans (hkeep.alloc hsz _) hk2).alloc (by omega) _) (by simp; omega) hg3 ((own_keep (hown.alloc _) hk2).alloc _)
             have hz3 := hk3.size)
          | (at_builtin; refine wpList_app byteT rfl (.tmp 46) (.tmp 48) rfl w.heap.size _ _ _ rfl hown3 _ x.d.length _ (x.d.map u8v) rfl (by simp) (hx2.keep hk3) (one_bytes _) (by omega) (by unfold maxLen; omega) hz3 ?_
             intro v2 w4 hown4 hg4 hat4
             have hk4 : Keep w w4 := keep_grown hk3 hz3 hg4 hown3))
        go_roundw
        case rel => exact ⟨k + 1, by omega, by go_num, own_eq hown4 (by rw [Hts.out, List.length_append, ← hlp.out, Nat.add_assoc]) (by rw [Hts.out, List.map_append, hpv.out, ← List.append_assoc]), hk4⟩
        case measure => simp [intOf]; omega
      · have hpn : Hid (x.put = []) := by unfold StepR.put; rw [if_neg hf]; rfl
        have hf' : fitsD x.k x.p x.n x.d.length = false := by simpa using hf
        clear hf
        go_wp2_with (first
          | (go_at_call 10; refine (rfits_any _ _ _ _ _ _ _ (by omega)).mono ?_; rintro e w2 ⟨rfl, hk2⟩))
        go_roundw
        case rel => exact ⟨k + 1, by omega, by go_num, by rw [Hts.out, hpn.out, List.append_nil]; exact own_keep (hown.alloc _) hk2, keep_trans (hkeep.alloc hsz _) hk2⟩
        case measure => simp [intOf]; omega
    · have hk' : k = vs.length := by omega
      go_wp2
      go_ret
      exact ⟨_, rfl, by simpa [hk'] using hown, hkeep⟩
end Go.Proofs.Ytofcjfkakmlbbaa
