/- ClockRises: a median never falls, if each time is above it. -/
import Derived.Test.YtbkapapffnmebaaClkF
set_option linter.unusedSimpArgs false
set_option linter.unusedVariables false
namespace Go.Proofs.Ytbkapapffnmebaa
open Go.RowKit
attribute [local go_sem ↓] Go.wp_at_zero Go.wp_at_succ

theorem med_rise (l : List UInt32) (x : UInt32) (hl : 11 ≤ l.length) (hx : (medL l).toNat < x.toNat) : (medL l).toNat ≤ (medL (l ++ [x])).toNat := by
  refine Nat.le_of_not_lt fun h => ?_
  obtain ⟨a1, _, _⟩ := med_law (l := l) (by intro h; rw [h] at hl; simp at hl)
  obtain ⟨_, b2, _⟩ := med_law (l := l ++ [x]) (by simp)
  have e1 : l.drop (l.length - 11) = l[l.length - 11] :: l.drop (l.length - 10) := by
    rw [List.drop_eq_getElem_cons (by omega), show l.length - 11 + 1 = l.length - 10 by omega]
  have e2 : (l ++ [x]).drop ((l ++ [x]).length - 11) = l.drop (l.length - 10) ++ [x] := by
    rw [List.length_append, List.length_singleton, show l.length + 1 - 11 = l.length - 10 by omega, List.drop_append_of_le_length (by omega)]
  have n1 : min l.length 11 = 11 := by omega
  have n2 : min (l ++ [x]).length 11 = 11 := by rw [List.length_append, List.length_singleton]; omega
  rw [e1, n1, List.countP_cons] at a1
  rw [e2, n2, List.countP_append, List.countP_singleton] at b2
  generalize hD : l.drop (l.length - 10) = D at *
  have hDl : D.length = 10 := by rw [← hD, List.length_drop]; omega
  generalize (medL l).toNat = m at *
  generalize (medL (l ++ [x])).toNat = m' at *
  have hp := List.length_eq_countP_add_countP (fun y : UInt32 => decide (y.toNat < m)) (l := D)
  have hmono : D.countP (fun y : UInt32 => decide (¬ (decide (y.toNat < m)) = true)) ≤ D.countP (fun y => decide (m' < y.toNat)) :=
    List.countP_mono_left fun y _ hy => by
      simp only [decide_eq_true_eq, Nat.not_lt] at hy ⊢
      omega
  have hxx : m' < x.toNat := by omega
  simp only [hxx, decide_true, if_true] at b2
  have : D.countP (fun y : UInt32 => decide (¬ (decide (y.toNat < m)) = true)) = 10 - D.countP (fun y => decide (y.toNat < m)) := by omega
  omega

set_option maxRecDepth 100000 in
set_option maxHeartbeats 4000000 in
theorem rises_law (A : Option Addr) (l : List UInt32) (c : Nat) (A' : Option Addr) (more : List UInt32) (c' : Nat) (w : World) (hc : l.length ≤ c) (hm : c ≤ maxLen) (hr : Rd w A (l.map u32v)) (hc' : more.length ≤ c') (hm' : c' ≤ maxLen) (hr' : Rd w A' (more.map u32v)) :
    Calls Try.prog 6 #[.slice A l.length c, .slice A' more.length c'] w (Gave (.bool true) w) := by
  unfold maxLen at hm hm'
  go_enter Try.func6, Try.ntmps6
  go_wp2_with fail
  refine (awake_any w).mono ?_
  rintro e w1 ⟨rfl, k1⟩
  by_cases q1 : 60 < l.length
  · go_wp2
    go_ret
    exact ⟨rfl, k1⟩
  by_cases q2 : 30 < more.length
  · go_wp2
    go_ret
    exact ⟨rfl, k1⟩
  by_cases q3 : l.length < 11
  · go_wp2
    go_ret
    exact ⟨rfl, k1⟩
  have hr1 := hr.keep k1; have hr1' := hr'.keep k1
  have Hr' := Lib.hid hr1'
  clear hr hr' hr1'
  go_wp2_with (at_builtin; refine wpList_app wordT (by rfl) _ _ (by rfl) w1.heap.size _ 0 [] (by rfl) (own_zero _ _ _) _ l.length _ (l.map u32v) (by rfl) (by simp) (hr1.alloc _) (one_words _) (by omega) (by unfold maxLen; omega) (by simp) ?_; intro v2 w2 own2 hg2 hat2; rw [List.nil_append, Nat.zero_add] at own2; have k2 := keep_grown (keep_new _ _) (by simp) hg2 (own_zero _ _ 1); obtain ⟨A2, c2, rfl, hc2, hm2, hrd2⟩ := own_form own2; have Own2 := Lib.hid own2; clear own2 hg2 hat2)
  refine (median_any A2 l c2 w2 hc2 hm2 hrd2).mono ?_
  rintro e w3 ⟨rfl, k3⟩
  have k13 := keep_trans k2 k3
  have own3 := own_keep Own2.out k3
  clear hr1 hrd2 Own2
  go_wp2_with fail
  go_loopw [6, 7, 8] (fun v m i wr => ∃ (k : Nat) (all : List UInt32), k ≤ more.length ∧ i = .int .i64 k ∧ m = u32v (medL all) ∧ 11 ≤ all.length ∧ all.length ≤ l.length + k ∧ wr.ownsRow w1.heap.size 24 1 v all.length (all.map u32v) ∧ Keep w1 wr) (fun _ _ i _ => more.length - (intOf i).toNat)
  case atStart => exact ⟨0, l, Nat.zero_le _, rfl, rfl, by omega, by omega, own3, k13⟩
  case round =>
    obtain ⟨k, all, hk, rfl, rfl, ha1, ha2, hown, hkr⟩ := hrel
    have hz := hkr.size
    obtain ⟨Av, cv, rfl, hcv, hmv, hrv⟩ := own_form hown
    by_cases hlt : k < more.length
    · obtain ⟨b, off, rfl, hb, F⟩ := Hr'.out.at (k := k) (by simpa using hlt)
      have r0 := keep_cell hkr (F k (by simpa using hlt))
      simp only [List.getElem_map] at r0
      generalize more[k] = x at r0
      clear F
      have hrise := med_rise all x ha1
      have HM := fun (B : Option Addr) (d : Nat) (W : World) => median_any B (all ++ [x]) d W
      have Hown := Lib.hid hown; clear hown hrv
      by_cases hx : x.toNat ≤ (medL all).toNat
      · have Hm := Lib.hid (rfl : medL all = medL all)
        clear hrise HM
        go_wp2
        go_roundw
        case rel => exact ⟨k + 1, all, by omega, by go_num, rfl, ha1, by omega, Hown.out, hkr⟩
        case measure => simp [intOf]; omega
      · have hge := hrise (by omega)
        have HMM := Lib.hid HM
        clear hrise HM
        obtain ⟨m', hm2'⟩ : ∃ m', m' = medL (all ++ [x]) := ⟨_, rfl⟩
        obtain ⟨m0, hm0⟩ : ∃ m0, m0 = medL all := ⟨_, rfl⟩
        have Hm' := Lib.hid hm2'
        rw [← hm2', ← hm0] at hge
        rw [← hm0] at hx ⊢
        clear hm2' hm0
        go_wp2_with (at_builtin; refine wpList_app wordT (by rfl) _ _ (by rfl) w1.heap.size _ all.length _ (by rfl) (Hown.out.alloc _) _ 1 1 [u32v x] (by rfl) (by rfl) (Rd.new _ _ _) (by simp [Value.oneCell']) (by omega) (by unfold maxLen; omega) (by simp; omega) ?_; intro v4 w4 own4 hg4 hat4; have k4 := keep_grown (keep_trans hkr (keep_new _ _)) (by simp; omega) hg4 (Hown.out.alloc _); obtain ⟨A4, c4, rfl, hc4, hm4, hrd4⟩ := own_form own4; have Own4 := Lib.hid own4; have Hrd4 := Lib.hid hrd4; clear own4 hrd4 hg4 hat4)
        have hq := HMM.out A4 c4 w4 (by rw [List.length_append]; exact hc4) hm4 (by rw [List.map_append]; exact Hrd4.out)
        rw [List.length_append, List.length_singleton, ← Hm'.out] at hq
        refine hq.mono ?_
        rintro e w5 ⟨rfl, k5⟩
        clear hq
        go_wp2
        go_roundw
        case rel =>
          refine ⟨k + 1, all ++ [x], by omega, by go_num, by rw [← Hm'.out], by rw [List.length_append]; omega, by rw [List.length_append, List.length_singleton]; omega, ?_, keep_trans k4 k5⟩
          rw [List.length_append, List.map_append]
          exact own_keep Own4.out k5
        case measure => simp [intOf]; omega
    · have hlast := last_any Av all cv wr hcv hmv hrv
      have hll : (lastL all).length = 11 := by rw [lastL_len]; omega
      generalize lastL all = ls at hlast hll
      clear hown hrv
      go_wp2_with fail
      refine hlast.mono ?_
      rintro e w5 ⟨v5, rfl, own5, k5⟩
      obtain ⟨A5, c5, rfl, hc5, hm5, hr5⟩ := own_form own5
      clear own5 hr5
      go_wp2
      go_ret
      exact ⟨rfl, keep_trans k1 (keep_trans hkr k5)⟩
end Go.Proofs.Ytbkapapffnmebaa
