/- target.Meets. -/
import Derived.Test.YteoilddiilegmaaDoorUG
set_option linter.unusedSimpArgs false
set_option linter.unusedVariables false
namespace Go.Proofs.YteoilddiilegmaaDoor
open Go.RowKit
attribute [local go_sem ↓] Go.wp_at_zero Go.wp_at_succ

theorem cmpN_gt (a b : Nat) : decide (0 < cmpN a b) = decide (b < a) := by
  unfold cmpN
  by_cases h1 : a < b
  · rw [if_pos h1, decide_eq_false (by decide), decide_eq_false (by omega)]
  · rw [if_neg h1]
    by_cases h2 : b < a
    · rw [if_pos h2, decide_eq_true h2]; rfl
    · rw [if_neg h2, decide_eq_false h2]; rfl

set_option maxRecDepth 100000 in
set_option maxHeartbeats 4000000 in
theorem meets_any (l : List UInt8) (cs : Array Value) (bits limit : UInt32) (w : World) (hl : l.length = 32) (h : HashA l cs) :
    Calls Tryd.prog 14 #[.agg cs, u32v bits, u32v limit] w fun e w' => e = .returned (.int .i64 (meetN (leN l) bits limit)) ∧ Keep w w' := by
  have hz := h.z; have hn := h.n; have hi := h.i
  have hl256 : leN l < 2 ^ 256 := by have := leN_lt l; rw [hl] at this; exact this
  have N1 : Hid (∀ y, Calls Tryd.prog 33 #[.agg cs] y fun e w' => e = .returned (uV (leN l)) ∧ Keep y w') := Lib.hid fun y => hnum_any l cs y hl h
  have E1 : Hid (∀ y, Calls Tryd.prog 19 #[u32v bits] y fun e w' => e = .returned (.tuple #[uV (expN bits).1, .int .i64 (expN bits).2]) ∧ Keep y w') := Lib.hid fun y => expand_any bits y
  have E2 : Hid (∀ y, Calls Tryd.prog 19 #[u32v limit] y fun e w' => e = .returned (.tuple #[uV (expN limit).1, .int .i64 (expN limit).2]) ∧ Keep y w') := Lib.hid fun y => expand_any limit y
  have b1 := expN_lt bits; have b2 := expN_lt limit
  have v1 := expN_err bits; have v2 := expN_err limit
  have HM : Hid (∀ R, meetN (leN l) bits limit = R → R = if (expN bits).2 ≠ 0 then 7 else if (expN limit).2 ≠ 0 ∨ (expN limit).1 < (expN bits).1 then 7 else if (expN bits).1 < leN l then 6 else 0) := Lib.hid fun R e => by subst e; rfl
  replace HM := Lib.hid (HM.out _ rfl)
  generalize meetN (leN l) bits limit = R at *
  generalize expN bits = X at *
  generalize expN limit = Y at *
  obtain ⟨T, te⟩ := X
  obtain ⟨L, le⟩ := Y
  simp only at b1 b2 v1 v2
  generalize leN l = M at *
  have C1 : Hid (∀ y, Calls Tryd.prog 20 #[uV T, uV L] y fun e w' => e = .returned (.int .i64 (cmpN T L)) ∧ Keep y w') := Lib.hid fun y => cmp_any T L y b1 b2
  have C2 : Hid (∀ y, Calls Tryd.prog 20 #[uV M, uV T] y fun e w' => e = .returned (.int .i64 (cmpN M T)) ∧ Keep y w') := Lib.hid fun y => cmp_any M T y hl256 b1
  have g1 := cmpN_gt T L; have g2 := cmpN_gt M T
  generalize cmpN T L = c1 at *
  generalize cmpN M T = c2 at *
  have H := Lib.hid h
  clear h b1 b2 hl256
  go_enter Tryd.func14, Tryd.ntmps14
  go_upto_region 1 with fail
  obtain ⟨w1, hw1⟩ : ∃ w1, w1 = w.alloc (.cells cs 28) := ⟨_, rfl⟩
  have HA1 : Hid (Blk w1 w.heap.size 28 cs.toList) := by rw [hw1]; exact Blk.new w 28 cs.toList
  have HK1 : Hid (Keep w w1) := by rw [hw1]; exact keep_new _ _
  rw [← hw1]
  clear hw1
  go_wp2_with fail
  refine (E1.out _).mono ?_
  clear E1
  rintro e w2 ⟨rfl, k2⟩
  have HA2 := Lib.hid (HA1.out.keep k2); have HK2 := Lib.hid (keep_trans HK1.out k2)
  have hz2 : w.heap.size < w2.heap.size := HA2.out.lt
  clear k2 HA1 HK1
  go_upto_region 2 with fail
  obtain ⟨w3, hw3⟩ : ∃ w3, w3 = w2.alloc (.cells #[n64 (limb T 0), n64 (limb T 1), n64 (limb T 2), n64 (limb T 3)] 49) := ⟨_, rfl⟩
  have HT3 : Hid (Blk w3 w2.heap.size 49 (uL T)) := by rw [hw3]; exact Blk.new w2 49 (uL T)
  have HA3 : Hid (Blk w3 w.heap.size 28 cs.toList) := by rw [hw3]; exact HA2.out.alloc _
  have HK3 : Hid (Keep w w3) := by rw [hw3]; exact keep_trans HK2.out (keep_new _ _)
  rw [← hw3]
  clear hw3 HA2 HK2
  generalize w2.heap.size = B at *
  by_cases hte : te = 0
  · subst hte
    have hM := HM.out
    rw [if_neg (by simp)] at hM
    replace HM := Lib.hid hM
    clear hM v1
    go_wp2_with fail
    refine (E2.out _).mono ?_
    clear E2
    rintro e w4 ⟨rfl, k4⟩
    have HT4 := Lib.hid (HT3.out.keep k4); have HA4 := Lib.hid (HA3.out.keep k4); have HK4 := Lib.hid (keep_trans HK3.out k4)
    have hz4 : B < w4.heap.size := HT4.out.lt
    clear k4 HT3 HA3 HK3
    go_upto_region 5 with fail
    obtain ⟨w5, hw5⟩ : ∃ w5, w5 = w4.alloc (.cells #[n64 (limb L 0), n64 (limb L 1), n64 (limb L 2), n64 (limb L 3)] 49) := ⟨_, rfl⟩
    have HL5 : Hid (Blk w5 w4.heap.size 49 (uL L)) := by rw [hw5]; exact Blk.new w4 49 (uL L)
    have HT5 : Hid (Blk w5 B 49 (uL T)) := by rw [hw5]; exact HT4.out.alloc _
    have HA5 : Hid (Blk w5 w.heap.size 28 cs.toList) := by rw [hw5]; exact HA4.out.alloc _
    have HK5 : Hid (Keep w w5) := by rw [hw5]; exact keep_trans HK4.out (keep_new _ _)
    rw [← hw5]
    clear hw5 HT4 HA4 HK4
    generalize w4.heap.size = D at *
    by_cases hle : le = 0
    · subst hle
      have hT := HT5.out; have hL := HL5.out
      have t0 := hT.cell 0; have t1 := hT.cell 1; have t2 := hT.cell 2; have t3 := hT.cell 3
      have l0 := hL.cell 0; have l1 := hL.cell 1; have l2 := hL.cell 2; have l3 := hL.cell 3
      simp only [uL, List.getElem?_cons_zero, List.getElem?_cons_succ] at t0 t1 t2 t3 l0 l1 l2 l3
      clear hT hL v2
      go_wp2_with fail
      refine (C1.out _).mono ?_
      clear C1
      rintro e w6 ⟨rfl, k6⟩
      have HT6 := Lib.hid (HT5.out.keep k6); have HA6 := Lib.hid (HA5.out.keep k6); have HK6 := Lib.hid (keep_trans HK5.out k6)
      clear k6 t0 t1 t2 t3 l0 l1 l2 l3 HT5 HA5 HK5 HL5
      by_cases hlt : L < T
      · have hM := HM.out
        rw [if_pos (Or.inr hlt)] at hM
        rw [decide_eq_true hlt] at g1
        subst hM
        clear hlt g2 C2 HM
        go_wp2
        exact bodyPost_ret (v := .int .i64 7) (by simp [results, Tryd.results14]) rfl ⟨rfl, HK6.out⟩
      · have hM := HM.out
        rw [if_neg (by intro h; rcases h with h | h; exact h rfl; exact hlt h)] at hM
        rw [decide_eq_false hlt] at g1
        have HM2 := Lib.hid hM
        clear hM hlt HM
        go_upto_region 7 with fail
        refine wp_region_tree (.take [0,2] (.force [1,3] (.take [4] .done))) [] (by kernel_rfl) (by kernel_rfl) (fun w9 k9 => ?_)
        have HT9 := Lib.hid (HT6.out.keep k9); have HA9 := Lib.hid (HA6.out.keep k9); have HK9 := Lib.hid (keep_trans HK6.out k9)
        have hT := HT9.out
        have t0 := hT.cell 0; have t1 := hT.cell 1; have t2 := hT.cell 2; have t3 := hT.cell 3
        simp only [uL, List.getElem?_cons_zero, List.getElem?_cons_succ] at t0 t1 t2 t3
        have t0' := aft_cell t0; have t1' := aft_cell t1; have t2' := aft_cell t2; have t3' := aft_cell t3
        clear k9 hT t0 t1 t2 t3 HT6 HA6 HK6 g1
        refine mt_take w9 (Below.refl _ _) ?_
        simp only [pick_cons, pick_nil, nth_zero, nth_succ]
        (with_reducible refine wpQuiet_load_partg w.heap.size 0 cs (Eq.trans ?_ rfl) (range_of HA9.out 0 cs.toList (by rw [List.drop_zero, List.take_of_length_le (Nat.le_refl _)])) (.array 32 5) hash_under (arr_row _ _) hi (Eq.trans ?_ rfl) ?_)
        rfl
        rfl
        simp only [Act.put, Array.set!_eq_setIfInBounds, List.setIfInBounds_toArray, List.set_cons_succ, List.set_cons_zero]
        repeat (go_big_quiet_step (fail))
        refine wpQuiet_nil (mt_force ?_)
        simp only [pick_cons, pick_nil, nth_zero, nth_succ]
        refine fc_step rfl (fun K hK => ?_)
        go_simp
        (with_reducible refine (N1.out _).mono ?_)
        rintro e wa ⟨rfl, ka⟩
        refine hK _ _ ka ?_
        clear hK K t0' t1' t2' t3'
        have HKa := Lib.hid (keep_trans HK9.out ka)
        clear ka
        refine fc_step rfl (fun K hK => ?_)
        go_simp
        (with_reducible refine (C2.out _).mono ?_)
        rintro e wb ⟨rfl, kb⟩
        refine hK _ _ kb ?_
        clear hK K
        have HKb := Lib.hid (keep_trans HKa.out kb)
        clear kb
        refine fc_nil (mt_take wb (Below.refl _ _) ?_)
        simp only [pick_cons, pick_nil, nth_zero, nth_succ]
        repeat (go_big_quiet_step (fail))
        refine wpQuiet_nil (mt_end ?_)
        by_cases hw : T < M
        · have hM := HM2.out
          rw [if_pos hw] at hM
          have d9 : decide (T < M) = true := decide_eq_true hw
          subst hM
          clear HM2 g2
          go_wp2
          exact bodyPost_ret (v := .int .i64 6) (by simp [results, Tryd.results14]) rfl ⟨rfl, HKb.out⟩
        · have hM := HM2.out
          rw [if_neg hw] at hM
          have d9 : decide (T < M) = false := decide_eq_false hw
          subst hM
          clear HM2 g2
          go_wp2
          exact bodyPost_ret (v := .int .i64 0) (by simp [results, Tryd.results14]) rfl ⟨rfl, HKb.out⟩
    · have hM := HM.out
      rw [if_pos (Or.inl hle)] at hM
      subst hM
      have d1 : (le != 0) = true := by simp [hle]
      clear hle HM v2
      go_wp2
      exact bodyPost_ret (v := .int .i64 7) (by simp [results, Tryd.results14]) rfl ⟨rfl, HK5.out⟩
  · have hM := HM.out
    rw [if_pos hte] at hM
    subst hM
    have d1 : (te != 0) = true := by simp [hte]
    clear hte HM v1
    go_wp2
    exact bodyPost_ret (v := .int .i64 7) (by simp [results, Tryd.results14]) rfl ⟨rfl, HK3.out⟩
end Go.Proofs.YteoilddiilegmaaDoor
