import Derived.Test.YteoilddiilegmaaDoorClkC
set_option linter.unusedSimpArgs false
set_option linter.unusedVariables false
namespace Go.Proofs.YteoilddiilegmaaDoor
open Go.RowKit
attribute [local go_sem ↓] Go.wp_at_zero Go.wp_at_succ

def Lasted (B : Nat) (ys : List UInt32) (w : World) (e : Ending) (w' : World) : Prop :=
  ∃ v, e = .returned v ∧ w'.ownsRow B 22 1 v ys.length (ys.map u32v) ∧ Keep w w'

theorem fold_take (xs : List UInt32) (k : Nat) (h : k < xs.length) : sortL (xs.take (k + 1)) = insAt (sortL (xs.take k)) xs[k] := by
  rw [List.take_succ_eq_append_getElem h, sortL_snoc]

set_option maxRecDepth 100000 in
set_option maxHeartbeats 2000000 in
theorem last_any (A : Option Addr) (l : List UInt32) (c : Nat) (w : World) (hc : l.length ≤ c) (hm : c ≤ maxLen) (hr : Rd w A (l.map u32v)) :
    Calls Tryd.prog 34 #[.slice A l.length c] w (Lasted (w.heap.size + 1) (lasT l) w) := by
  unfold maxLen at hm
  have hmf : ∀ (fn : Fn) (first cap : Array Value) (w : World), (Instr.makeFunc fn first cap).run Tryd.prog w = .ok (.func fn first cap) w := fun _ _ _ _ => rfl
  have hd : (l.drop (l.length - 11)).length ≤ 11 := by simp; omega
  go_enter Tryd.func34, Tryd.ntmps34
  go_upto_region 3 with fail
  obtain ⟨d, hdd⟩ : ∃ d, d = l.drop (l.length - 11) := ⟨_, rfl⟩
  have hdl : d.length = l.length - (l.length - 11) := by rw [hdd]; simp
  have Hd := Lib.hid hdd; have Hdl := Lib.hid hdl
  have hd11 : d.length ≤ 11 := by omega
  have Hr := Lib.hid hr
  clear hdd hd hdl hr
  have hnb : (w.alloc (.cells #[.slice none 0 0] 41)).cell? ⟨w.heap.size, 0, none⟩ = some (.slice none 0 0) := by go_simp
  have hnf : (w.alloc (.cells #[.slice none 0 0] 41)).frozen? ⟨w.heap.size, 0, none⟩ = false := by go_simp
  go_cut [13, 14, 15] (fun s n i wx => ∃ A2 c2, s = .slice A2 d.length c2 ∧ n = .int .i64 d.length ∧ i = .int .i64 0 ∧ Rd w A2 (d.map u32v) ∧ wx = w.alloc (.cells #[.slice none 0 0] 41))
  case first =>
    by_cases h11 : 11 ≤ l.length
    · obtain ⟨b, off, rfl, hb, F⟩ := Hr.out.at (k := 0) (by simp; omega)
      clear F
      go_wp2
      go_meet
      refine ⟨_, _, by rw [Hdl.out], by rw [Hdl.out], rfl, ?_, rfl⟩
      rw [Hd.out, List.map_drop]
      have h := Hr.out.dropN (k := l.length - 11) (by simp)
      rwa [Option.map_some, add_lit0] at h
    · have hdl0 : d = l := by rw [Hd.out, show l.length - 11 = 0 by omega, List.drop_zero]
      subst hdl0
      by_cases h0 : d.length = 0
      · obtain rfl := List.eq_nil_of_length_eq_zero h0
        go_wp2_with fail
        all_goals go_meet
        all_goals exact ⟨A, c, rfl, rfl, rfl, Rd.nil _ _, rfl⟩
      · obtain ⟨b, off, rfl, hb, F⟩ := Hr.out.at (k := 0) (by simp; omega)
        clear F
        go_wp2
        go_meet
        exact ⟨some ⟨b, off, none⟩, c, rfl, rfl, rfl, Hr.out, rfl⟩
  case rest =>
    obtain ⟨A2, c2, rfl, rfl, rfl, hr2, rfl⟩ := hcut
    go_wp2
    go_loopw [15] (fun i wr => ∃ (k : Nat) (v : Value), k ≤ d.length ∧ i = .int .i64 k ∧ wr.cell? ⟨w.heap.size, 0, none⟩ = some v ∧ wr.frozen? ⟨w.heap.size, 0, none⟩ = false ∧ wr.ownsRow (w.heap.size + 1) 22 1 v k ((sortL (d.take k)).map u32v) ∧ Keep w wr) (fun i _ => d.length - (intOf i).toNat)
    case atStart => exact ⟨0, .slice none 0 0, Nat.zero_le _, rfl, hnb, hnf, World.ownsRow_nil _ _ _ _, keep_new _ _⟩
    case round =>
      obtain ⟨k, v, hk, rfl, e1, f1, hown, hkeep⟩ := hrel
      have hz := hkeep.size
      have hlen : (sortL (d.take k)).length = k := by rw [sortL_len, List.length_take]; omega
      by_cases hlt : k < d.length
      · obtain ⟨b, off, rfl, hb, F⟩ := hr2.at (k := k) (by simpa using hlt)
        have hx := keep_cell hkeep (F k (by simpa using hlt))
        have hts := fold_take d k hlt
        simp only [List.getElem_map] at hx
        generalize d[k] = x at hx hts
        have hp := put1_any w.heap.size v (sortL (d.take k)) x wr e1 f1 (by rw [hlen]; exact hown) (sortL_sorted _) (by omega)
        rw [← hts] at hp
        have Hts := Lib.hid hts; have Hr2 := Lib.hid hr2
        clear F hts hr2 hnb hnf
        go_wp2_with (go_at_call 44; refine hp.mono ?_; rintro e w2 ⟨rfl, v2, e2, f2, hown2, hbel2, hsz2⟩)
        go_roundw
        case rel =>
          exact ⟨k + 1, v2, by omega, by go_num, e2, f2, by have h3 := sortL_len (d.take (k + 1)); rw [List.length_take, Nat.min_eq_left (by omega)] at h3; rw [h3] at hown2; exact hown2, Below.trans hkeep hbel2⟩
        case measure => simp [intOf]; omega
      · have hk' : k = d.length := by omega
        subst hk'
        rw [List.take_length] at hown
        go_wp2
        go_ret
        refine ⟨v, rfl, ?_, hkeep⟩
        unfold lasT
        rw [← Hd.out, sortL_len]
        exact hown
end Go.Proofs.YteoilddiilegmaaDoor
