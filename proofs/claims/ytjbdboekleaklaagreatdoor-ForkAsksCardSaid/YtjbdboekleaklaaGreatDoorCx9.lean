/- Texts merged by pack.py: Wd, Bd, Rk, Td. -/
import Derived.Test.YtjbdboekleaklaaGreatDoorCx8
import Derived.Test.YtjbdboekleaklaaGreatDoorCx6
import Derived.Test.YtjbdboekleaklaaGreatDoorCx4
import Derived.Great.BuildSlice
import Derived.Test.YtjbdboekleaklaaGreatDoorCx7
/- target.Work. (printed by gen_wd.py) -/
set_option linter.unusedSimpArgs false
set_option linter.unusedVariables false
namespace Go.Proofs.YtjbdboekleaklaaGreatDoor
open Go.RowKit
attribute [local go_sem ↓] Go.wp_at_zero Go.wp_at_succ

set_option maxRecDepth 100000 in
set_option maxHeartbeats 8000000 in
theorem work_u (x : UInt32) (w : World) : Calls Tryz.prog 38 #[u32v x] w fun e w' => e = .returned (uV (workN x)) ∧ Keep w w' := by
  have EX : Hid (∀ y, Calls Tryz.prog 48 #[u32v x] y fun e w' => e = .returned (.tuple #[uV (expN x).1, .int .i64 (expN x).2]) ∧ Keep y w') := Lib.hid fun y => expand_any x y
  have HW : Hid (∀ r, workN x = r → r = if (expN x).2 ≠ 0 then 0 else (2 ^ 256 - 1 - (expN x).1) / ((expN x).1 + 1) + 1) := Lib.hid fun r e => by subst e; rfl
  replace HW := Lib.hid (HW.out _ rfl)
  have hT := expN_lt x
  have HRL := Lib.hid (workN_lt x)
  generalize workN x = R at *
  generalize expN x = X at *
  obtain ⟨T, te⟩ := X
  simp only at hT
  have HT := Lib.hid hT
  have OF : Hid (∀ y, Calls Tryz.prog 51 #[.int .u64 1] y fun e w' => e = .returned (uV 1) ∧ Keep y w') := Lib.hid fun y => of_any 1 y (by decide)
  clear hT
  go_enter Tryz.func38, Tryz.ntmps38
  go_upto_region 1 with fail
  obtain ⟨w1, hw1⟩ : ∃ w1, w1 = w.alloc (.cells #[.int .u64 0, .int .u64 0, .int .u64 0, .int .u64 0] 42) := ⟨_, rfl⟩
  have HR1 : Hid (Blk w1 w.heap.size 42 [.int .u64 0, .int .u64 0, .int .u64 0, .int .u64 0]) := by rw [hw1]; exact Lib.hid (Blk.new w _ [.int .u64 0, .int .u64 0, .int .u64 0, .int .u64 0])
  have HK1 : Hid (Keep w w1) := by rw [hw1]; exact Lib.hid (keep_new _ _)
  rw [← hw1]
  clear hw1
  go_wp2_with fail
  refine (EX.out _).mono ?_
  clear EX
  rintro e w2 ⟨rfl, k2⟩
  have HR2 := Lib.hid (HR1.out.keep k2)
  have HK2 := Lib.hid (keep_trans HK1.out k2)
  clear k2 HR1 HK1
  go_upto_region 2 with fail
  obtain ⟨w3, hw3⟩ : ∃ w3, w3 = w2.alloc (.cells #[n64 (limb T 0), n64 (limb T 1), n64 (limb T 2), n64 (limb T 3)] 42) := ⟨_, rfl⟩
  have HR3 : Hid (Blk w3 w.heap.size 42 [.int .u64 0, .int .u64 0, .int .u64 0, .int .u64 0]) := by rw [hw3]; exact Lib.hid (HR2.out.alloc _)
  have HX3 : Hid (Blk w3 w2.heap.size 42 #[n64 (limb T 0), n64 (limb T 1), n64 (limb T 2), n64 (limb T 3)].toList) := by rw [hw3]; exact Lib.hid (Blk.new w2 42 #[n64 (limb T 0), n64 (limb T 1), n64 (limb T 2), n64 (limb T 3)].toList)
  have HK3 : Hid (Keep w w3) := by rw [hw3]; exact Lib.hid (keep_trans HK2.out (keep_new _ _))
  rw [← hw3]
  have hgs3 : w.heap.size ≤ w2.heap.size := HK2.out.size
  have hltHR3 := HR2.out.lt
  clear hw3 HR2 HK2
  generalize w2.heap.size = gt at *
  have HT3 : Hid (Blk w3 gt 42 (uL T)) := HX3
  clear HX3
  by_cases hte : te ≠ 0
  · have hR := HW.out
    rw [if_pos hte] at hR
    subst hR
    have hne : (te != 0) = true := by simp [hte]
    have r0 := HR3.out.cell 0; have r1 := HR3.out.cell 1; have r2 := HR3.out.cell 2; have r3 := HR3.out.cell 3
    simp only [List.getElem?_cons_zero, List.getElem?_cons_succ] at r0 r1 r2 r3
    have f0 := HR3.out.frozen 0; have f1 := HR3.out.frozen 1; have f2 := HR3.out.frozen 2; have f3 := HR3.out.frozen 3
    have hb8 := (((HR3.out.set_ 0 (.int .u64 0)).set_ 1 (.int .u64 0)).set_ 2 (.int .u64 0)).set_ 3 (.int .u64 0)
    have HK8 : Hid (Keep w ((((w3.setCell ⟨w.heap.size, 0, none⟩ (.int .u64 0)).setCell ⟨w.heap.size, 1, none⟩ (.int .u64 0)).setCell ⟨w.heap.size, 2, none⟩ (.int .u64 0)).setCell ⟨w.heap.size, 3, none⟩ (.int .u64 0))) := by
      refine Lib.hid ?_
      iterate 4 (refine Below.setCell ?_ (by simp) _)
      exact HK3.out
    have Hb8 := Lib.hid hb8
    clear hb8 HW OF HT HT3
    go_wp2
    exact bodyPost_ret (v := u0) (results_cell_row Tryz.results38 _ _ w.heap.size _ _ _ _ rfl Hb8.out Tryz.underlying42 rfl (by kernel_rfl)) rfl ⟨by rw [uV_zero], HK8.out⟩
  obtain rfl : te = 0 := by omega
  have hR := HW.out
  rw [if_neg (by simp)] at hR
  replace HW := Lib.hid hR
  clear hR hte
  have AD : Hid (∀ y, Calls Tryz.prog 39 #[uV T, uV 1] y fun e w' => e = .returned (.tuple #[uV (sumN T 1), .bool (decide (2 ^ 256 ≤ T + 1))]) ∧ Keep y w') := Lib.hid fun y => add_u T 1 y HT.out (by decide)
  obtain ⟨ov, hov⟩ : ∃ ov, decide (2 ^ 256 ≤ T + 1) = ov := ⟨_, rfl⟩
  obtain ⟨NX, hNX⟩ : ∃ NX, sumN T 1 = NX := ⟨_, rfl⟩
  rw [hov, hNX] at AD
  have HOV := Lib.hid hov; have HNX := Lib.hid hNX
  clear hov hNX
  go_upto_region 4 with fail
  go_cut [5, 6] (fun s5 s6 wx => ∃ g, s5 = .pointer (some ⟨g, 0, none⟩) ∧ s6 = .bool ov ∧ Hid (Blk wx g 42 (uL NX)) ∧ Hid (Blk wx gt 42 (uL T)) ∧ Hid (Blk wx w.heap.size 42 [.int .u64 0, .int .u64 0, .int .u64 0, .int .u64 0]) ∧ Hid (Keep w wx))
  case first =>
    refine wp_region_tree (.take [0] (.fork 1 (.fork 2 (.take [3,4,5] (.force [6] .done)) 6 (.force [2] (.take [3,4,5] .done))) 6 (.force [1,2] (.take [3,4,5] .done)))) [7,8] (by kernel_rfl) (by kernel_rfl) (fun y0 hk => ?_)
    have hgt3 := HT3.out.lt
    have hgr3 := HR3.out.lt
    have Q := Lib.hid hk
    have FT := Lib.hid (HT3.out.keep hk)
    have FR := Lib.hid (HR3.out.keep hk)
    clear hk
    refine mt_take y0 (Below.refl _ _) ?_
    simp only [pick_cons, pick_nil, nth_zero, nth_succ]
    have t0 := aft_cell (FT.out.cell 0); have t1 := aft_cell (FT.out.cell 1); have t2 := aft_cell (FT.out.cell 2); have t3 := aft_cell (FT.out.cell 3)
    repeat (go_big_quiet_step (fail))
    clear t0 t1 t2 t3
    refine wpQuiet_nil (mt_fork ?_ ?_)
    · simp only [pick_cons, pick_nil, nth_zero, nth_succ]
      refine fc_step rfl (fun K hK => ?_)
      go_simp
      (with_reducible refine (OF.out _).mono ?_)
      rintro e y1 ⟨rfl, hk⟩
      refine hK _ _ hk ?_
      clear hK K
      have HQ1 : w3.heap.size ≤ y0.heap.size := Q.out.size
      have Hprev := Q
      replace Q := Lib.hid (keep_trans Q.out hk)
      have hs_y1 : y0.heap.size ≤ y1.heap.size := hk.size
      replace FT := Lib.hid (FT.out.keep hk)
      replace FR := Lib.hid (FR.out.keep hk)
      clear hk
      refine fc_nil (mt_fork ?_ ?_)
      · simp only [pick_cons, pick_nil, nth_zero, nth_succ]
        refine fc_step rfl (fun K hK => ?_)
        go_simp
        (with_reducible refine (AD.out _).mono ?_)
        rintro e y2 ⟨rfl, hk⟩
        refine hK _ _ hk ?_
        clear hK K
        have HQ2 : w3.heap.size ≤ y1.heap.size := Q.out.size
        have Hprev := Q
        replace Q := Lib.hid (keep_trans Q.out hk)
        have hs_y2 : y1.heap.size ≤ y2.heap.size := hk.size
        replace FT := Lib.hid (FT.out.keep hk)
        replace FR := Lib.hid (FR.out.keep hk)
        clear hk
        refine fc_nil (mt_take y2 (Below.refl _ _) ?_)
        simp only [pick_cons, pick_nil, nth_zero, nth_succ]
        repeat (go_big_quiet_step (fail))
        refine wpQuiet_nil (mt_force ?_)
        simp only [pick_cons, pick_nil, nth_zero, nth_succ]
        refine fc_step rfl (fun K hK => ?_)
        go_simp
        refine hK _ _ (keep_new _ _) ?_
        clear hK K
        obtain ⟨y3, hy⟩ : ∃ y3, y3 = y2.alloc (.cells #[.int .u64 0, .int .u64 0, .int .u64 0, .int .u64 0] 42) := ⟨_, rfl⟩
        have F5 : Hid (Blk y3 y2.heap.size 42 #[.int .u64 0, .int .u64 0, .int .u64 0, .int .u64 0].toList) := by rw [hy]; exact Blk.new y2 _ #[.int .u64 0, .int .u64 0, .int .u64 0, .int .u64 0].toList
        have hk : Keep y2 y3 := by rw [hy]; exact keep_new _ _
        rw [← hy]
        clear hy
        have F5s : y2.heap.size < y3.heap.size := F5.out.lt
        have F5n := Q.out.size
        replace Q := Lib.hid (keep_trans Q.out hk)
        have hs_y3 : y2.heap.size ≤ y3.heap.size := hk.size
        replace FT := Lib.hid (FT.out.keep hk)
        replace FR := Lib.hid (FR.out.keep hk)
        clear hk
        generalize hp : y2.heap.size = g5 at *
        have F5a : y2.heap.size ≤ g5 := Nat.le_of_eq hp
        have F5b : g5 ≤ y2.heap.size := Nat.le_of_eq hp.symm
        clear hp
        refine fc_nil (mt_end ?_)
        have r0 := F5.out.cell 0; have r1 := F5.out.cell 1; have r2 := F5.out.cell 2; have r3 := F5.out.cell 3
        simp only [List.getElem?_cons_zero, List.getElem?_cons_succ] at r0 r1 r2 r3
        have f0 := F5.out.frozen 0; have f1 := F5.out.frozen 1; have f2 := F5.out.frozen 2; have f3 := F5.out.frozen 3
        have hb8 := (((F5.out.set_ 0 (n64 (limb NX 0))).set_ 1 (n64 (limb NX 1))).set_ 2 (n64 (limb NX 2))).set_ 3 (n64 (limb NX 3))
        have g1 := Q.out.size
        have hk8 : Keep w ((((y3.setCell ⟨g5, 0, none⟩ (n64 (limb NX 0))).setCell ⟨g5, 1, none⟩ (n64 (limb NX 1))).setCell ⟨g5, 2, none⟩ (n64 (limb NX 2))).setCell ⟨g5, 3, none⟩ (n64 (limb NX 3))) := by
          iterate 4 (refine Below.setCell ?_ (by simp <;> omega) _)
          exact keep_trans HK3.out Q.out
        have T8 := (((FT.out.far (p := ⟨g5, 0, none⟩) (by simp <;> omega) (n64 (limb NX 0))).far (p := ⟨g5, 1, none⟩) (by simp <;> omega) (n64 (limb NX 1))).far (p := ⟨g5, 2, none⟩) (by simp <;> omega) (n64 (limb NX 2))).far (p := ⟨g5, 3, none⟩) (by simp <;> omega) (n64 (limb NX 3))
        have R8 := (((FR.out.far (p := ⟨g5, 0, none⟩) (by simp <;> omega) (n64 (limb NX 0))).far (p := ⟨g5, 1, none⟩) (by simp <;> omega) (n64 (limb NX 1))).far (p := ⟨g5, 2, none⟩) (by simp <;> omega) (n64 (limb NX 2))).far (p := ⟨g5, 3, none⟩) (by simp <;> omega) (n64 (limb NX 3))
        have Hb8 := Lib.hid hb8; have Hk8 := Lib.hid hk8; have HT8 := Lib.hid T8; have HR8 := Lib.hid R8
        clear hb8 hk8 T8 R8
        go_wp2
        go_meet
        exact ⟨g5, rfl, rfl, Hb8, HT8, HR8, Hk8⟩
      · simp only [pick_cons, pick_nil, nth_zero, nth_succ]
        refine fc_step rfl (fun K hK => ?_)
        go_simp
        refine hK _ _ (keep_new _ _) ?_
        clear hK K
        obtain ⟨y4, hy⟩ : ∃ y4, y4 = y1.alloc (.cells #[.int .u64 0, .int .u64 0, .int .u64 0, .int .u64 0] 42) := ⟨_, rfl⟩
        have F5 : Hid (Blk y4 y1.heap.size 42 #[.int .u64 0, .int .u64 0, .int .u64 0, .int .u64 0].toList) := by rw [hy]; exact Blk.new y1 _ #[.int .u64 0, .int .u64 0, .int .u64 0, .int .u64 0].toList
        have hk : Keep y1 y4 := by rw [hy]; exact keep_new _ _
        rw [← hy]
        clear hy
        have F5s : y1.heap.size < y4.heap.size := F5.out.lt
        have F5n := Q.out.size
        replace Q := Lib.hid (keep_trans Q.out hk)
        have hs_y4 : y1.heap.size ≤ y4.heap.size := hk.size
        replace FT := Lib.hid (FT.out.keep hk)
        replace FR := Lib.hid (FR.out.keep hk)
        clear hk
        generalize hp : y1.heap.size = g5 at *
        have F5a : y1.heap.size ≤ g5 := Nat.le_of_eq hp
        have F5b : g5 ≤ y1.heap.size := Nat.le_of_eq hp.symm
        clear hp
        refine fc_nil (mt_force ?_)
        simp only [pick_cons, pick_nil, nth_zero, nth_succ]
        refine fc_step rfl (fun K hK => ?_)
        go_simp
        (with_reducible refine (AD.out _).mono ?_)
        rintro e y5 ⟨rfl, hk⟩
        refine hK _ _ hk ?_
        clear hK K
        have HQ2 : w3.heap.size ≤ y4.heap.size := Q.out.size
        have Hprev := Q
        replace Q := Lib.hid (keep_trans Q.out hk)
        have hs_y5 : y4.heap.size ≤ y5.heap.size := hk.size
        replace FT := Lib.hid (FT.out.keep hk)
        replace FR := Lib.hid (FR.out.keep hk)
        replace F5 := Lib.hid (F5.out.keep hk)
        clear hk
        refine fc_nil (mt_take y5 (Below.refl _ _) ?_)
        simp only [pick_cons, pick_nil, nth_zero, nth_succ]
        repeat (go_big_quiet_step (fail))
        refine wpQuiet_nil (mt_end ?_)
        have r0 := F5.out.cell 0; have r1 := F5.out.cell 1; have r2 := F5.out.cell 2; have r3 := F5.out.cell 3
        simp only [List.getElem?_cons_zero, List.getElem?_cons_succ] at r0 r1 r2 r3
        have f0 := F5.out.frozen 0; have f1 := F5.out.frozen 1; have f2 := F5.out.frozen 2; have f3 := F5.out.frozen 3
        have hb8 := (((F5.out.set_ 0 (n64 (limb NX 0))).set_ 1 (n64 (limb NX 1))).set_ 2 (n64 (limb NX 2))).set_ 3 (n64 (limb NX 3))
        have g1 := Q.out.size
        have hk8 : Keep w ((((y5.setCell ⟨g5, 0, none⟩ (n64 (limb NX 0))).setCell ⟨g5, 1, none⟩ (n64 (limb NX 1))).setCell ⟨g5, 2, none⟩ (n64 (limb NX 2))).setCell ⟨g5, 3, none⟩ (n64 (limb NX 3))) := by
          iterate 4 (refine Below.setCell ?_ (by simp <;> omega) _)
          exact keep_trans HK3.out Q.out
        have T8 := (((FT.out.far (p := ⟨g5, 0, none⟩) (by simp <;> omega) (n64 (limb NX 0))).far (p := ⟨g5, 1, none⟩) (by simp <;> omega) (n64 (limb NX 1))).far (p := ⟨g5, 2, none⟩) (by simp <;> omega) (n64 (limb NX 2))).far (p := ⟨g5, 3, none⟩) (by simp <;> omega) (n64 (limb NX 3))
        have R8 := (((FR.out.far (p := ⟨g5, 0, none⟩) (by simp <;> omega) (n64 (limb NX 0))).far (p := ⟨g5, 1, none⟩) (by simp <;> omega) (n64 (limb NX 1))).far (p := ⟨g5, 2, none⟩) (by simp <;> omega) (n64 (limb NX 2))).far (p := ⟨g5, 3, none⟩) (by simp <;> omega) (n64 (limb NX 3))
        have Hb8 := Lib.hid hb8; have Hk8 := Lib.hid hk8; have HT8 := Lib.hid T8; have HR8 := Lib.hid R8
        clear hb8 hk8 T8 R8
        go_wp2
        go_meet
        exact ⟨g5, rfl, rfl, Hb8, HT8, HR8, Hk8⟩
    · simp only [pick_cons, pick_nil, nth_zero, nth_succ]
      refine fc_step rfl (fun K hK => ?_)
      go_simp
      refine hK _ _ (keep_new _ _) ?_
      clear hK K
      obtain ⟨y6, hy⟩ : ∃ y6, y6 = y0.alloc (.cells #[.int .u64 0, .int .u64 0, .int .u64 0, .int .u64 0] 42) := ⟨_, rfl⟩
      have F5 : Hid (Blk y6 y0.heap.size 42 #[.int .u64 0, .int .u64 0, .int .u64 0, .int .u64 0].toList) := by rw [hy]; exact Blk.new y0 _ #[.int .u64 0, .int .u64 0, .int .u64 0, .int .u64 0].toList
      have hk : Keep y0 y6 := by rw [hy]; exact keep_new _ _
      rw [← hy]
      clear hy
      have F5s : y0.heap.size < y6.heap.size := F5.out.lt
      have F5n := Q.out.size
      replace Q := Lib.hid (keep_trans Q.out hk)
      have hs_y6 : y0.heap.size ≤ y6.heap.size := hk.size
      replace FT := Lib.hid (FT.out.keep hk)
      replace FR := Lib.hid (FR.out.keep hk)
      clear hk
      generalize hp : y0.heap.size = g5 at *
      have F5a : y0.heap.size ≤ g5 := Nat.le_of_eq hp
      have F5b : g5 ≤ y0.heap.size := Nat.le_of_eq hp.symm
      clear hp
      refine fc_nil (mt_force ?_)
      simp only [pick_cons, pick_nil, nth_zero, nth_succ]
      refine fc_step rfl (fun K hK => ?_)
      go_simp
      (with_reducible refine (OF.out _).mono ?_)
      rintro e y7 ⟨rfl, hk⟩
      refine hK _ _ hk ?_
      clear hK K
      have HQ1 : w3.heap.size ≤ y6.heap.size := Q.out.size
      have Hprev := Q
      replace Q := Lib.hid (keep_trans Q.out hk)
      have hs_y7 : y6.heap.size ≤ y7.heap.size := hk.size
      replace FT := Lib.hid (FT.out.keep hk)
      replace FR := Lib.hid (FR.out.keep hk)
      replace F5 := Lib.hid (F5.out.keep hk)
      clear hk
      refine fc_step rfl (fun K hK => ?_)
      go_simp
      (with_reducible refine (AD.out _).mono ?_)
      rintro e y8 ⟨rfl, hk⟩
      refine hK _ _ hk ?_
      clear hK K
      have HQ2 : w3.heap.size ≤ y7.heap.size := Q.out.size
      have Hprev := Q
      replace Q := Lib.hid (keep_trans Q.out hk)
      have hs_y8 : y7.heap.size ≤ y8.heap.size := hk.size
      replace FT := Lib.hid (FT.out.keep hk)
      replace FR := Lib.hid (FR.out.keep hk)
      replace F5 := Lib.hid (F5.out.keep hk)
      clear hk
      refine fc_nil (mt_take y8 (Below.refl _ _) ?_)
      simp only [pick_cons, pick_nil, nth_zero, nth_succ]
      repeat (go_big_quiet_step (fail))
      refine wpQuiet_nil (mt_end ?_)
      have r0 := F5.out.cell 0; have r1 := F5.out.cell 1; have r2 := F5.out.cell 2; have r3 := F5.out.cell 3
      simp only [List.getElem?_cons_zero, List.getElem?_cons_succ] at r0 r1 r2 r3
      have f0 := F5.out.frozen 0; have f1 := F5.out.frozen 1; have f2 := F5.out.frozen 2; have f3 := F5.out.frozen 3
      have hb8 := (((F5.out.set_ 0 (n64 (limb NX 0))).set_ 1 (n64 (limb NX 1))).set_ 2 (n64 (limb NX 2))).set_ 3 (n64 (limb NX 3))
      have g1 := Q.out.size
      have hk8 : Keep w ((((y8.setCell ⟨g5, 0, none⟩ (n64 (limb NX 0))).setCell ⟨g5, 1, none⟩ (n64 (limb NX 1))).setCell ⟨g5, 2, none⟩ (n64 (limb NX 2))).setCell ⟨g5, 3, none⟩ (n64 (limb NX 3))) := by
        iterate 4 (refine Below.setCell ?_ (by simp <;> omega) _)
        exact keep_trans HK3.out Q.out
      have T8 := (((FT.out.far (p := ⟨g5, 0, none⟩) (by simp <;> omega) (n64 (limb NX 0))).far (p := ⟨g5, 1, none⟩) (by simp <;> omega) (n64 (limb NX 1))).far (p := ⟨g5, 2, none⟩) (by simp <;> omega) (n64 (limb NX 2))).far (p := ⟨g5, 3, none⟩) (by simp <;> omega) (n64 (limb NX 3))
      have R8 := (((FR.out.far (p := ⟨g5, 0, none⟩) (by simp <;> omega) (n64 (limb NX 0))).far (p := ⟨g5, 1, none⟩) (by simp <;> omega) (n64 (limb NX 1))).far (p := ⟨g5, 2, none⟩) (by simp <;> omega) (n64 (limb NX 2))).far (p := ⟨g5, 3, none⟩) (by simp <;> omega) (n64 (limb NX 3))
      have Hb8 := Lib.hid hb8; have Hk8 := Lib.hid hk8; have HT8 := Lib.hid T8; have HR8 := Lib.hid R8
      clear hb8 hk8 T8 R8
      go_wp2
      go_meet
      exact ⟨g5, rfl, rfl, Hb8, HT8, HR8, Hk8⟩
  case rest =>
    obtain ⟨g5, rfl, rfl, HN4, HT4, HR4, HK4⟩ := hcut
    rename World => wq
    cases ov with
    | true =>
      have hov := of_decide_eq_true HOV.out
      have hT := HT.out
      have hR := HW.out
      have hTe : T + 1 = 2 ^ 256 := by omega
      have hRe : R = 1 := by
        rw [hR, show 2 ^ 256 - 1 - T = 0 by omega, Nat.zero_div]
      subst hRe
      clear hov hT hR hTe HOV HNX HW HT AD HN4 HT4
      go_wp2_with fail
      refine (OF.out _).mono ?_
      clear OF
      rintro e w5 ⟨rfl, k5⟩
      have HR5 := Lib.hid (HR4.out.keep k5)
      have HK5 := Lib.hid (keep_trans HK4.out k5)
      clear k5 HR4 HK4
      have r0 := HR5.out.cell 0; have r1 := HR5.out.cell 1; have r2 := HR5.out.cell 2; have r3 := HR5.out.cell 3
      simp only [List.getElem?_cons_zero, List.getElem?_cons_succ] at r0 r1 r2 r3
      have f0 := HR5.out.frozen 0; have f1 := HR5.out.frozen 1; have f2 := HR5.out.frozen 2; have f3 := HR5.out.frozen 3
      have hb8 := (((HR5.out.set_ 0 (n64 (limb 1 0))).set_ 1 (n64 (limb 1 1))).set_ 2 (n64 (limb 1 2))).set_ 3 (n64 (limb 1 3))
      have HK8 : Hid (Keep w ((((w5.setCell ⟨w.heap.size, 0, none⟩ (n64 (limb 1 0))).setCell ⟨w.heap.size, 1, none⟩ (n64 (limb 1 1))).setCell ⟨w.heap.size, 2, none⟩ (n64 (limb 1 2))).setCell ⟨w.heap.size, 3, none⟩ (n64 (limb 1 3)))) := by
        refine Lib.hid ?_
        iterate 4 (refine Below.setCell ?_ (by simp) _)
        exact HK5.out
      have Hb8 := Lib.hid hb8
      clear hb8
      go_wp2
      exact bodyPost_ret (v := uV 1) (results_cell_row Tryz.results38 _ _ w.heap.size _ _ _ _ rfl Hb8.out Tryz.underlying42 rfl (by kernel_rfl)) rfl ⟨rfl, HK8.out⟩
    | false =>
    have hov := of_decide_eq_false HOV.out
    have hNXe : NX = T + 1 := by rw [← HNX.out]; unfold sumN; exact Nat.mod_eq_of_lt (by omega)
    have hNXl : NX < 2 ^ 256 := by omega
    have NT : Hid (∀ y, Calls Tryz.prog 53 #[uV T] y fun e w' => e = .returned (uV (notN T)) ∧ Keep y w') := Lib.hid fun y => not_u T y HT.out
    have hNl : notN T < 2 ^ 256 := by unfold notN; omega
    have DV : Hid (∀ y, Calls Tryz.prog 52 #[uV (notN T), uV NX] y fun e w' => e = .returned (.tuple #[uV (notN T / NX), uV (notN T % NX), .bool true]) ∧ Keep y w') := Lib.hid fun y => div_u _ NX y hNl hNXl (by omega)
    have hR := HW.out
    have hQ : notN T / NX < 2 ^ 256 := Nat.lt_of_le_of_lt (Nat.div_le_self _ _) hNl
    have hRs : sumN (notN T / NX) 1 = R := by
      have h1 : R = notN T / NX + 1 := by rw [hR, hNXe]; rfl
      have h2 := HRL.out
      unfold sumN
      rw [← h1]; exact Nat.mod_eq_of_lt h2
    have A2 : Hid (∀ y, Calls Tryz.prog 39 #[uV (notN T / NX), uV 1] y fun e w' => ∃ b, e = .returned (.tuple #[uV R, .bool b]) ∧ Keep y w') := Lib.hid fun y => (add_u _ 1 y hQ (by decide)).mono fun e w' ⟨h1, h2⟩ => ⟨decide (2 ^ 256 ≤ notN T / NX + 1), by rw [h1, hRs], h2⟩
    clear hov hNXe hNXl hNl hR hQ hRs HOV HNX HW HT HRL AD
    generalize notN T / NX = QD at *
    generalize notN T % NX = RD at *
    generalize notN T = NTV at *
    go_upto_region 7 with fail
    go_cut [7, 8, 9] (fun s7 s8 s9 wx => ∃ g, s7 = .pointer (some ⟨g, 0, none⟩) ∧ w.heap.size < g ∧ Hid (Blk wx g 42 (uL QD)) ∧ Hid (Blk wx w.heap.size 42 [.int .u64 0, .int .u64 0, .int .u64 0, .int .u64 0]) ∧ Hid (Keep w wx))
    case first =>
      refine wp_region_tree (.take [0,2] (.fork3 1 (.fork3 3 (.take [4,5,6,7] (.fork 8 (.force [9] .done) 9 (.force [8] .done))) 8 (.fork 3 (.take [4,5,6,7] (.force [9] .done)) 9 (.force [3] (.take [4,5,6,7] .done))) 9 (.fork 3 (.take [4,5,6,7] (.force [8] .done)) 8 (.force [3] (.take [4,5,6,7] .done)))) 8 (.fork 1 (.fork 3 (.take [4,5,6,7] (.force [9] .done)) 9 (.force [3] (.take [4,5,6,7] .done))) 9 (.force [1,3] (.take [4,5,6,7] .done))) 9 (.fork 1 (.fork 3 (.take [4,5,6,7] (.force [8] .done)) 8 (.force [3] (.take [4,5,6,7] .done))) 8 (.force [1,3] (.take [4,5,6,7] .done))))) [10,11,12] (by kernel_rfl) (by kernel_rfl) (fun y0 hk => ?_)
      have hgt4 := HT4.out.lt
      have hgn4 := HN4.out.lt
      have hgr4 := HR4.out.lt
      have Q := Lib.hid hk
      have FT := Lib.hid (HT4.out.keep hk)
      have FN := Lib.hid (HN4.out.keep hk)
      have FR := Lib.hid (HR4.out.keep hk)
      clear hk
      refine mt_take y0 (Below.refl _ _) ?_
      simp only [pick_cons, pick_nil, nth_zero, nth_succ]
      have t0 := aft_cell (FT.out.cell 0); have t1 := aft_cell (FT.out.cell 1); have t2 := aft_cell (FT.out.cell 2); have t3 := aft_cell (FT.out.cell 3)
      have n0 := aft_cell (FN.out.cell 0); have n1 := aft_cell (FN.out.cell 1); have n2 := aft_cell (FN.out.cell 2); have n3 := aft_cell (FN.out.cell 3)
      repeat (go_big_quiet_step (fail))
      clear t0 t1 t2 t3 n0 n1 n2 n3
      refine wpQuiet_nil (mt_fork3 ?_ ?_ ?_)
      · simp only [pick_cons, pick_nil, nth_zero, nth_succ]
        refine fc_step rfl (fun K hK => ?_)
        go_simp
        (with_reducible refine (NT.out _).mono ?_)
        rintro e y1 ⟨rfl, hk⟩
        refine hK _ _ hk ?_
        clear hK K
        have HQ1 : wq.heap.size ≤ y0.heap.size := Q.out.size
        have Hprev := Q
        replace Q := Lib.hid (keep_trans Q.out hk)
        have hs_y1 : y0.heap.size ≤ y1.heap.size := hk.size
        replace FT := Lib.hid (FT.out.keep hk)
        replace FN := Lib.hid (FN.out.keep hk)
        replace FR := Lib.hid (FR.out.keep hk)
        clear hk
        refine fc_nil (mt_fork3 ?_ ?_ ?_)
        · simp only [pick_cons, pick_nil, nth_zero, nth_succ]
          refine fc_step rfl (fun K hK => ?_)
          go_simp
          (with_reducible refine (DV.out _).mono ?_)
          rintro e y2 ⟨rfl, hk⟩
          refine hK _ _ hk ?_
          clear hK K
          have HQ3 : wq.heap.size ≤ y1.heap.size := Q.out.size
          have Hprev := Q
          replace Q := Lib.hid (keep_trans Q.out hk)
          have hs_y2 : y1.heap.size ≤ y2.heap.size := hk.size
          replace FT := Lib.hid (FT.out.keep hk)
          replace FN := Lib.hid (FN.out.keep hk)
          replace FR := Lib.hid (FR.out.keep hk)
          clear hk
          refine fc_nil (mt_take y2 (Below.refl _ _) ?_)
          simp only [pick_cons, pick_nil, nth_zero, nth_succ]
          repeat (go_big_quiet_step (fail))
          refine wpQuiet_nil (mt_fork ?_ ?_)
          · simp only [pick_cons, pick_nil, nth_zero, nth_succ]
            refine fc_step rfl (fun K hK => ?_)
            go_simp
            refine hK _ _ (keep_new _ _) ?_
            clear hK K
            obtain ⟨y3, hy⟩ : ∃ y3, y3 = y2.alloc (.cells #[.int .u64 0, .int .u64 0, .int .u64 0, .int .u64 0] 42) := ⟨_, rfl⟩
            have F7 : Hid (Blk y3 y2.heap.size 42 #[.int .u64 0, .int .u64 0, .int .u64 0, .int .u64 0].toList) := by rw [hy]; exact Blk.new y2 _ #[.int .u64 0, .int .u64 0, .int .u64 0, .int .u64 0].toList
            have hk : Keep y2 y3 := by rw [hy]; exact keep_new _ _
            rw [← hy]
            clear hy
            have F7s : y2.heap.size < y3.heap.size := F7.out.lt
            have F7n := Q.out.size
            replace Q := Lib.hid (keep_trans Q.out hk)
            have hs_y3 : y2.heap.size ≤ y3.heap.size := hk.size
            replace FT := Lib.hid (FT.out.keep hk)
            replace FN := Lib.hid (FN.out.keep hk)
            replace FR := Lib.hid (FR.out.keep hk)
            clear hk
            generalize hp : y2.heap.size = g7 at *
            have F7a : y2.heap.size ≤ g7 := Nat.le_of_eq hp
            have F7b : g7 ≤ y2.heap.size := Nat.le_of_eq hp.symm
            clear hp
            refine fc_nil (mt_force ?_)
            simp only [pick_cons, pick_nil, nth_zero, nth_succ]
            refine fc_step rfl (fun K hK => ?_)
            go_simp
            refine hK _ _ (keep_new _ _) ?_
            clear hK K
            obtain ⟨y4, hy⟩ : ∃ y4, y4 = y3.alloc (.cells #[.int .u64 0, .int .u64 0, .int .u64 0, .int .u64 0] 42) := ⟨_, rfl⟩
            have F8 : Hid (Blk y4 y3.heap.size 42 #[.int .u64 0, .int .u64 0, .int .u64 0, .int .u64 0].toList) := by rw [hy]; exact Blk.new y3 _ #[.int .u64 0, .int .u64 0, .int .u64 0, .int .u64 0].toList
            have hk : Keep y3 y4 := by rw [hy]; exact keep_new _ _
            rw [← hy]
            clear hy
            have F8s : y3.heap.size < y4.heap.size := F8.out.lt
            have F8n := Q.out.size
            replace Q := Lib.hid (keep_trans Q.out hk)
            have hs_y4 : y3.heap.size ≤ y4.heap.size := hk.size
            replace FT := Lib.hid (FT.out.keep hk)
            replace FN := Lib.hid (FN.out.keep hk)
            replace FR := Lib.hid (FR.out.keep hk)
            replace F7 := Lib.hid (F7.out.keep hk)
            clear hk
            generalize hp : y3.heap.size = g8 at *
            have F8a : y3.heap.size ≤ g8 := Nat.le_of_eq hp
            have F8b : g8 ≤ y3.heap.size := Nat.le_of_eq hp.symm
            clear hp
            refine fc_nil (mt_end ?_)
            have r0 := F7.out.cell 0; have r1 := F7.out.cell 1; have r2 := F7.out.cell 2; have r3 := F7.out.cell 3
            have s0 := F8.out.cell 0; have s1 := F8.out.cell 1; have s2 := F8.out.cell 2; have s3 := F8.out.cell 3
            simp only [List.getElem?_cons_zero, List.getElem?_cons_succ] at r0 r1 r2 r3 s0 s1 s2 s3
            have f0 := F7.out.frozen 0; have f1 := F7.out.frozen 1; have f2 := F7.out.frozen 2; have f3 := F7.out.frozen 3
            have e0 := F8.out.frozen 0; have e1 := F8.out.frozen 1; have e2 := F8.out.frozen 2; have e3 := F8.out.frozen 3
            have g1 := Q.out.size
            obtain ⟨z1, hz1⟩ : ∃ z1, z1 = ((((y4.setCell ⟨g7, 0, none⟩ (n64 (limb QD 0))).setCell ⟨g7, 1, none⟩ (n64 (limb QD 1))).setCell ⟨g7, 2, none⟩ (n64 (limb QD 2))).setCell ⟨g7, 3, none⟩ (n64 (limb QD 3))) := ⟨_, rfl⟩
            have F7z : Hid (Blk z1 g7 42 (uL QD)) := by rw [hz1]; exact Lib.hid ((((F7.out.set_ 0 _).set_ 1 _).set_ 2 _).set_ 3 _)
            have F8z : Hid (Blk z1 g8 42 #[.int .u64 0, .int .u64 0, .int .u64 0, .int .u64 0].toList) := by rw [hz1]; exact Lib.hid ((((F8.out.far (by simp <;> omega) _).far (by simp <;> omega) _).far (by simp <;> omega) _).far (by simp <;> omega) _)
            have FRz : Hid (Blk z1 w.heap.size 42 [.int .u64 0, .int .u64 0, .int .u64 0, .int .u64 0]) := by rw [hz1]; exact Lib.hid ((((FR.out.far (by simp <;> omega) _).far (by simp <;> omega) _).far (by simp <;> omega) _).far (by simp <;> omega) _)
            have HKz : Hid (Keep w z1) := by
              rw [hz1]
              refine Lib.hid ?_
              iterate 4 (refine Below.setCell ?_ (by simp <;> omega) _)
              exact keep_trans HK4.out Q.out
            have hb8 := (((F8z.out.set_ 0 (n64 (limb RD 0))).set_ 1 (n64 (limb RD 1))).set_ 2 (n64 (limb RD 2))).set_ 3 (n64 (limb RD 3))
            have hk8 : Keep w ((((z1.setCell ⟨g8, 0, none⟩ (n64 (limb RD 0))).setCell ⟨g8, 1, none⟩ (n64 (limb RD 1))).setCell ⟨g8, 2, none⟩ (n64 (limb RD 2))).setCell ⟨g8, 3, none⟩ (n64 (limb RD 3))) := by
              iterate 4 (refine Below.setCell ?_ (by simp <;> omega) _)
              exact HKz.out
            have T8 := (((F7z.out.far (p := ⟨g8, 0, none⟩) (by simp <;> omega) (n64 (limb RD 0))).far (p := ⟨g8, 1, none⟩) (by simp <;> omega) (n64 (limb RD 1))).far (p := ⟨g8, 2, none⟩) (by simp <;> omega) (n64 (limb RD 2))).far (p := ⟨g8, 3, none⟩) (by simp <;> omega) (n64 (limb RD 3))
            have R8 := (((FRz.out.far (p := ⟨g8, 0, none⟩) (by simp <;> omega) (n64 (limb RD 0))).far (p := ⟨g8, 1, none⟩) (by simp <;> omega) (n64 (limb RD 1))).far (p := ⟨g8, 2, none⟩) (by simp <;> omega) (n64 (limb RD 2))).far (p := ⟨g8, 3, none⟩) (by simp <;> omega) (n64 (limb RD 3))
            rw [hz1] at hk8 T8 R8
            have Hk8 := Lib.hid hk8; have HT8 := Lib.hid T8; have HR8 := Lib.hid R8
            have s0' : ((((y4.setCell ⟨g7, 0, none⟩ (n64 (limb QD 0))).setCell ⟨g7, 1, none⟩ (n64 (limb QD 1))).setCell ⟨g7, 2, none⟩ (n64 (limb QD 2))).setCell ⟨g7, 3, none⟩ (n64 (limb QD 3))).cell? ⟨g8, 0, none⟩ = some (.int .u64 0) := by rw [← hz1]; exact F8z.out.cell 0
            have s1' : ((((y4.setCell ⟨g7, 0, none⟩ (n64 (limb QD 0))).setCell ⟨g7, 1, none⟩ (n64 (limb QD 1))).setCell ⟨g7, 2, none⟩ (n64 (limb QD 2))).setCell ⟨g7, 3, none⟩ (n64 (limb QD 3))).cell? ⟨g8, 1, none⟩ = some (.int .u64 0) := by rw [← hz1]; exact F8z.out.cell 1
            have s2' : ((((y4.setCell ⟨g7, 0, none⟩ (n64 (limb QD 0))).setCell ⟨g7, 1, none⟩ (n64 (limb QD 1))).setCell ⟨g7, 2, none⟩ (n64 (limb QD 2))).setCell ⟨g7, 3, none⟩ (n64 (limb QD 3))).cell? ⟨g8, 2, none⟩ = some (.int .u64 0) := by rw [← hz1]; exact F8z.out.cell 2
            have s3' : ((((y4.setCell ⟨g7, 0, none⟩ (n64 (limb QD 0))).setCell ⟨g7, 1, none⟩ (n64 (limb QD 1))).setCell ⟨g7, 2, none⟩ (n64 (limb QD 2))).setCell ⟨g7, 3, none⟩ (n64 (limb QD 3))).cell? ⟨g8, 3, none⟩ = some (.int .u64 0) := by rw [← hz1]; exact F8z.out.cell 3
            clear hb8 hk8 T8 R8 hz1 F7z F8z FRz HKz z1
            have gw : w.heap.size < g7 := by omega
            go_wp2
            go_meet
            exact ⟨g7, rfl, gw, HT8, HR8, Hk8⟩
          · simp only [pick_cons, pick_nil, nth_zero, nth_succ]
            refine fc_step rfl (fun K hK => ?_)
            go_simp
            refine hK _ _ (keep_new _ _) ?_
            clear hK K
            obtain ⟨y5, hy⟩ : ∃ y5, y5 = y2.alloc (.cells #[.int .u64 0, .int .u64 0, .int .u64 0, .int .u64 0] 42) := ⟨_, rfl⟩
            have F8 : Hid (Blk y5 y2.heap.size 42 #[.int .u64 0, .int .u64 0, .int .u64 0, .int .u64 0].toList) := by rw [hy]; exact Blk.new y2 _ #[.int .u64 0, .int .u64 0, .int .u64 0, .int .u64 0].toList
            have hk : Keep y2 y5 := by rw [hy]; exact keep_new _ _
            rw [← hy]
            clear hy
            have F8s : y2.heap.size < y5.heap.size := F8.out.lt
            have F8n := Q.out.size
            replace Q := Lib.hid (keep_trans Q.out hk)
            have hs_y5 : y2.heap.size ≤ y5.heap.size := hk.size
            replace FT := Lib.hid (FT.out.keep hk)
            replace FN := Lib.hid (FN.out.keep hk)
            replace FR := Lib.hid (FR.out.keep hk)
            clear hk
            generalize hp : y2.heap.size = g8 at *
            have F8a : y2.heap.size ≤ g8 := Nat.le_of_eq hp
            have F8b : g8 ≤ y2.heap.size := Nat.le_of_eq hp.symm
            clear hp
            refine fc_nil (mt_force ?_)
            simp only [pick_cons, pick_nil, nth_zero, nth_succ]
            refine fc_step rfl (fun K hK => ?_)
            go_simp
            refine hK _ _ (keep_new _ _) ?_
            clear hK K
            obtain ⟨y6, hy⟩ : ∃ y6, y6 = y5.alloc (.cells #[.int .u64 0, .int .u64 0, .int .u64 0, .int .u64 0] 42) := ⟨_, rfl⟩
            have F7 : Hid (Blk y6 y5.heap.size 42 #[.int .u64 0, .int .u64 0, .int .u64 0, .int .u64 0].toList) := by rw [hy]; exact Blk.new y5 _ #[.int .u64 0, .int .u64 0, .int .u64 0, .int .u64 0].toList
            have hk : Keep y5 y6 := by rw [hy]; exact keep_new _ _
            rw [← hy]
            clear hy
            have F7s : y5.heap.size < y6.heap.size := F7.out.lt
            have F7n := Q.out.size
            replace Q := Lib.hid (keep_trans Q.out hk)
            have hs_y6 : y5.heap.size ≤ y6.heap.size := hk.size
            replace FT := Lib.hid (FT.out.keep hk)
            replace FN := Lib.hid (FN.out.keep hk)
            replace FR := Lib.hid (FR.out.keep hk)
            replace F8 := Lib.hid (F8.out.keep hk)
            clear hk
            generalize hp : y5.heap.size = g7 at *
            have F7a : y5.heap.size ≤ g7 := Nat.le_of_eq hp
            have F7b : g7 ≤ y5.heap.size := Nat.le_of_eq hp.symm
            clear hp
            refine fc_nil (mt_end ?_)
            have r0 := F7.out.cell 0; have r1 := F7.out.cell 1; have r2 := F7.out.cell 2; have r3 := F7.out.cell 3
            have s0 := F8.out.cell 0; have s1 := F8.out.cell 1; have s2 := F8.out.cell 2; have s3 := F8.out.cell 3
            simp only [List.getElem?_cons_zero, List.getElem?_cons_succ] at r0 r1 r2 r3 s0 s1 s2 s3
            have f0 := F7.out.frozen 0; have f1 := F7.out.frozen 1; have f2 := F7.out.frozen 2; have f3 := F7.out.frozen 3
            have e0 := F8.out.frozen 0; have e1 := F8.out.frozen 1; have e2 := F8.out.frozen 2; have e3 := F8.out.frozen 3
            have g1 := Q.out.size
            obtain ⟨z1, hz1⟩ : ∃ z1, z1 = ((((y6.setCell ⟨g7, 0, none⟩ (n64 (limb QD 0))).setCell ⟨g7, 1, none⟩ (n64 (limb QD 1))).setCell ⟨g7, 2, none⟩ (n64 (limb QD 2))).setCell ⟨g7, 3, none⟩ (n64 (limb QD 3))) := ⟨_, rfl⟩
            have F7z : Hid (Blk z1 g7 42 (uL QD)) := by rw [hz1]; exact Lib.hid ((((F7.out.set_ 0 _).set_ 1 _).set_ 2 _).set_ 3 _)
            have F8z : Hid (Blk z1 g8 42 #[.int .u64 0, .int .u64 0, .int .u64 0, .int .u64 0].toList) := by rw [hz1]; exact Lib.hid ((((F8.out.far (by simp <;> omega) _).far (by simp <;> omega) _).far (by simp <;> omega) _).far (by simp <;> omega) _)
            have FRz : Hid (Blk z1 w.heap.size 42 [.int .u64 0, .int .u64 0, .int .u64 0, .int .u64 0]) := by rw [hz1]; exact Lib.hid ((((FR.out.far (by simp <;> omega) _).far (by simp <;> omega) _).far (by simp <;> omega) _).far (by simp <;> omega) _)
            have HKz : Hid (Keep w z1) := by
              rw [hz1]
              refine Lib.hid ?_
              iterate 4 (refine Below.setCell ?_ (by simp <;> omega) _)
              exact keep_trans HK4.out Q.out
            have hb8 := (((F8z.out.set_ 0 (n64 (limb RD 0))).set_ 1 (n64 (limb RD 1))).set_ 2 (n64 (limb RD 2))).set_ 3 (n64 (limb RD 3))
            have hk8 : Keep w ((((z1.setCell ⟨g8, 0, none⟩ (n64 (limb RD 0))).setCell ⟨g8, 1, none⟩ (n64 (limb RD 1))).setCell ⟨g8, 2, none⟩ (n64 (limb RD 2))).setCell ⟨g8, 3, none⟩ (n64 (limb RD 3))) := by
              iterate 4 (refine Below.setCell ?_ (by simp <;> omega) _)
              exact HKz.out
            have T8 := (((F7z.out.far (p := ⟨g8, 0, none⟩) (by simp <;> omega) (n64 (limb RD 0))).far (p := ⟨g8, 1, none⟩) (by simp <;> omega) (n64 (limb RD 1))).far (p := ⟨g8, 2, none⟩) (by simp <;> omega) (n64 (limb RD 2))).far (p := ⟨g8, 3, none⟩) (by simp <;> omega) (n64 (limb RD 3))
            have R8 := (((FRz.out.far (p := ⟨g8, 0, none⟩) (by simp <;> omega) (n64 (limb RD 0))).far (p := ⟨g8, 1, none⟩) (by simp <;> omega) (n64 (limb RD 1))).far (p := ⟨g8, 2, none⟩) (by simp <;> omega) (n64 (limb RD 2))).far (p := ⟨g8, 3, none⟩) (by simp <;> omega) (n64 (limb RD 3))
            rw [hz1] at hk8 T8 R8
            have Hk8 := Lib.hid hk8; have HT8 := Lib.hid T8; have HR8 := Lib.hid R8
            have s0' : ((((y6.setCell ⟨g7, 0, none⟩ (n64 (limb QD 0))).setCell ⟨g7, 1, none⟩ (n64 (limb QD 1))).setCell ⟨g7, 2, none⟩ (n64 (limb QD 2))).setCell ⟨g7, 3, none⟩ (n64 (limb QD 3))).cell? ⟨g8, 0, none⟩ = some (.int .u64 0) := by rw [← hz1]; exact F8z.out.cell 0
            have s1' : ((((y6.setCell ⟨g7, 0, none⟩ (n64 (limb QD 0))).setCell ⟨g7, 1, none⟩ (n64 (limb QD 1))).setCell ⟨g7, 2, none⟩ (n64 (limb QD 2))).setCell ⟨g7, 3, none⟩ (n64 (limb QD 3))).cell? ⟨g8, 1, none⟩ = some (.int .u64 0) := by rw [← hz1]; exact F8z.out.cell 1
            have s2' : ((((y6.setCell ⟨g7, 0, none⟩ (n64 (limb QD 0))).setCell ⟨g7, 1, none⟩ (n64 (limb QD 1))).setCell ⟨g7, 2, none⟩ (n64 (limb QD 2))).setCell ⟨g7, 3, none⟩ (n64 (limb QD 3))).cell? ⟨g8, 2, none⟩ = some (.int .u64 0) := by rw [← hz1]; exact F8z.out.cell 2
            have s3' : ((((y6.setCell ⟨g7, 0, none⟩ (n64 (limb QD 0))).setCell ⟨g7, 1, none⟩ (n64 (limb QD 1))).setCell ⟨g7, 2, none⟩ (n64 (limb QD 2))).setCell ⟨g7, 3, none⟩ (n64 (limb QD 3))).cell? ⟨g8, 3, none⟩ = some (.int .u64 0) := by rw [← hz1]; exact F8z.out.cell 3
            clear hb8 hk8 T8 R8 hz1 F7z F8z FRz HKz z1
            have gw : w.heap.size < g7 := by omega
            go_wp2
            go_meet
            exact ⟨g7, rfl, gw, HT8, HR8, Hk8⟩
        · simp only [pick_cons, pick_nil, nth_zero, nth_succ]
          refine fc_step rfl (fun K hK => ?_)
          go_simp
          refine hK _ _ (keep_new _ _) ?_
          clear hK K
          obtain ⟨y7, hy⟩ : ∃ y7, y7 = y1.alloc (.cells #[.int .u64 0, .int .u64 0, .int .u64 0, .int .u64 0] 42) := ⟨_, rfl⟩
          have F7 : Hid (Blk y7 y1.heap.size 42 #[.int .u64 0, .int .u64 0, .int .u64 0, .int .u64 0].toList) := by rw [hy]; exact Blk.new y1 _ #[.int .u64 0, .int .u64 0, .int .u64 0, .int .u64 0].toList
          have hk : Keep y1 y7 := by rw [hy]; exact keep_new _ _
          rw [← hy]
          clear hy
          have F7s : y1.heap.size < y7.heap.size := F7.out.lt
          have F7n := Q.out.size
          replace Q := Lib.hid (keep_trans Q.out hk)
          have hs_y7 : y1.heap.size ≤ y7.heap.size := hk.size
          replace FT := Lib.hid (FT.out.keep hk)
          replace FN := Lib.hid (FN.out.keep hk)
          replace FR := Lib.hid (FR.out.keep hk)
          clear hk
          generalize hp : y1.heap.size = g7 at *
          have F7a : y1.heap.size ≤ g7 := Nat.le_of_eq hp
          have F7b : g7 ≤ y1.heap.size := Nat.le_of_eq hp.symm
          clear hp
          refine fc_nil (mt_fork ?_ ?_)
          · simp only [pick_cons, pick_nil, nth_zero, nth_succ]
            refine fc_step rfl (fun K hK => ?_)
            go_simp
            (with_reducible refine (DV.out _).mono ?_)
            rintro e y8 ⟨rfl, hk⟩
            refine hK _ _ hk ?_
            clear hK K
            have HQ3 : wq.heap.size ≤ y7.heap.size := Q.out.size
            have Hprev := Q
            replace Q := Lib.hid (keep_trans Q.out hk)
            have hs_y8 : y7.heap.size ≤ y8.heap.size := hk.size
            replace FT := Lib.hid (FT.out.keep hk)
            replace FN := Lib.hid (FN.out.keep hk)
            replace FR := Lib.hid (FR.out.keep hk)
            replace F7 := Lib.hid (F7.out.keep hk)
            clear hk
            refine fc_nil (mt_take y8 (Below.refl _ _) ?_)
            simp only [pick_cons, pick_nil, nth_zero, nth_succ]
            repeat (go_big_quiet_step (fail))
            refine wpQuiet_nil (mt_force ?_)
            simp only [pick_cons, pick_nil, nth_zero, nth_succ]
            refine fc_step rfl (fun K hK => ?_)
            go_simp
            refine hK _ _ (keep_new _ _) ?_
            clear hK K
            obtain ⟨y9, hy⟩ : ∃ y9, y9 = y8.alloc (.cells #[.int .u64 0, .int .u64 0, .int .u64 0, .int .u64 0] 42) := ⟨_, rfl⟩
            have F8 : Hid (Blk y9 y8.heap.size 42 #[.int .u64 0, .int .u64 0, .int .u64 0, .int .u64 0].toList) := by rw [hy]; exact Blk.new y8 _ #[.int .u64 0, .int .u64 0, .int .u64 0, .int .u64 0].toList
            have hk : Keep y8 y9 := by rw [hy]; exact keep_new _ _
            rw [← hy]
            clear hy
            have F8s : y8.heap.size < y9.heap.size := F8.out.lt
            have F8n := Q.out.size
            replace Q := Lib.hid (keep_trans Q.out hk)
            have hs_y9 : y8.heap.size ≤ y9.heap.size := hk.size
            replace FT := Lib.hid (FT.out.keep hk)
            replace FN := Lib.hid (FN.out.keep hk)
            replace FR := Lib.hid (FR.out.keep hk)
            replace F7 := Lib.hid (F7.out.keep hk)
            clear hk
            generalize hp : y8.heap.size = g8 at *
            have F8a : y8.heap.size ≤ g8 := Nat.le_of_eq hp
            have F8b : g8 ≤ y8.heap.size := Nat.le_of_eq hp.symm
            clear hp
            refine fc_nil (mt_end ?_)
            have r0 := F7.out.cell 0; have r1 := F7.out.cell 1; have r2 := F7.out.cell 2; have r3 := F7.out.cell 3
            have s0 := F8.out.cell 0; have s1 := F8.out.cell 1; have s2 := F8.out.cell 2; have s3 := F8.out.cell 3
            simp only [List.getElem?_cons_zero, List.getElem?_cons_succ] at r0 r1 r2 r3 s0 s1 s2 s3
            have f0 := F7.out.frozen 0; have f1 := F7.out.frozen 1; have f2 := F7.out.frozen 2; have f3 := F7.out.frozen 3
            have e0 := F8.out.frozen 0; have e1 := F8.out.frozen 1; have e2 := F8.out.frozen 2; have e3 := F8.out.frozen 3
            have g1 := Q.out.size
            obtain ⟨z1, hz1⟩ : ∃ z1, z1 = ((((y9.setCell ⟨g7, 0, none⟩ (n64 (limb QD 0))).setCell ⟨g7, 1, none⟩ (n64 (limb QD 1))).setCell ⟨g7, 2, none⟩ (n64 (limb QD 2))).setCell ⟨g7, 3, none⟩ (n64 (limb QD 3))) := ⟨_, rfl⟩
            have F7z : Hid (Blk z1 g7 42 (uL QD)) := by rw [hz1]; exact Lib.hid ((((F7.out.set_ 0 _).set_ 1 _).set_ 2 _).set_ 3 _)
            have F8z : Hid (Blk z1 g8 42 #[.int .u64 0, .int .u64 0, .int .u64 0, .int .u64 0].toList) := by rw [hz1]; exact Lib.hid ((((F8.out.far (by simp <;> omega) _).far (by simp <;> omega) _).far (by simp <;> omega) _).far (by simp <;> omega) _)
            have FRz : Hid (Blk z1 w.heap.size 42 [.int .u64 0, .int .u64 0, .int .u64 0, .int .u64 0]) := by rw [hz1]; exact Lib.hid ((((FR.out.far (by simp <;> omega) _).far (by simp <;> omega) _).far (by simp <;> omega) _).far (by simp <;> omega) _)
            have HKz : Hid (Keep w z1) := by
              rw [hz1]
              refine Lib.hid ?_
              iterate 4 (refine Below.setCell ?_ (by simp <;> omega) _)
              exact keep_trans HK4.out Q.out
            have hb8 := (((F8z.out.set_ 0 (n64 (limb RD 0))).set_ 1 (n64 (limb RD 1))).set_ 2 (n64 (limb RD 2))).set_ 3 (n64 (limb RD 3))
            have hk8 : Keep w ((((z1.setCell ⟨g8, 0, none⟩ (n64 (limb RD 0))).setCell ⟨g8, 1, none⟩ (n64 (limb RD 1))).setCell ⟨g8, 2, none⟩ (n64 (limb RD 2))).setCell ⟨g8, 3, none⟩ (n64 (limb RD 3))) := by
              iterate 4 (refine Below.setCell ?_ (by simp <;> omega) _)
              exact HKz.out
            have T8 := (((F7z.out.far (p := ⟨g8, 0, none⟩) (by simp <;> omega) (n64 (limb RD 0))).far (p := ⟨g8, 1, none⟩) (by simp <;> omega) (n64 (limb RD 1))).far (p := ⟨g8, 2, none⟩) (by simp <;> omega) (n64 (limb RD 2))).far (p := ⟨g8, 3, none⟩) (by simp <;> omega) (n64 (limb RD 3))
            have R8 := (((FRz.out.far (p := ⟨g8, 0, none⟩) (by simp <;> omega) (n64 (limb RD 0))).far (p := ⟨g8, 1, none⟩) (by simp <;> omega) (n64 (limb RD 1))).far (p := ⟨g8, 2, none⟩) (by simp <;> omega) (n64 (limb RD 2))).far (p := ⟨g8, 3, none⟩) (by simp <;> omega) (n64 (limb RD 3))
            rw [hz1] at hk8 T8 R8
            have Hk8 := Lib.hid hk8; have HT8 := Lib.hid T8; have HR8 := Lib.hid R8
            have s0' : ((((y9.setCell ⟨g7, 0, none⟩ (n64 (limb QD 0))).setCell ⟨g7, 1, none⟩ (n64 (limb QD 1))).setCell ⟨g7, 2, none⟩ (n64 (limb QD 2))).setCell ⟨g7, 3, none⟩ (n64 (limb QD 3))).cell? ⟨g8, 0, none⟩ = some (.int .u64 0) := by rw [← hz1]; exact F8z.out.cell 0
            have s1' : ((((y9.setCell ⟨g7, 0, none⟩ (n64 (limb QD 0))).setCell ⟨g7, 1, none⟩ (n64 (limb QD 1))).setCell ⟨g7, 2, none⟩ (n64 (limb QD 2))).setCell ⟨g7, 3, none⟩ (n64 (limb QD 3))).cell? ⟨g8, 1, none⟩ = some (.int .u64 0) := by rw [← hz1]; exact F8z.out.cell 1
            have s2' : ((((y9.setCell ⟨g7, 0, none⟩ (n64 (limb QD 0))).setCell ⟨g7, 1, none⟩ (n64 (limb QD 1))).setCell ⟨g7, 2, none⟩ (n64 (limb QD 2))).setCell ⟨g7, 3, none⟩ (n64 (limb QD 3))).cell? ⟨g8, 2, none⟩ = some (.int .u64 0) := by rw [← hz1]; exact F8z.out.cell 2
            have s3' : ((((y9.setCell ⟨g7, 0, none⟩ (n64 (limb QD 0))).setCell ⟨g7, 1, none⟩ (n64 (limb QD 1))).setCell ⟨g7, 2, none⟩ (n64 (limb QD 2))).setCell ⟨g7, 3, none⟩ (n64 (limb QD 3))).cell? ⟨g8, 3, none⟩ = some (.int .u64 0) := by rw [← hz1]; exact F8z.out.cell 3
            clear hb8 hk8 T8 R8 hz1 F7z F8z FRz HKz z1
            have gw : w.heap.size < g7 := by omega
            go_wp2
            go_meet
            exact ⟨g7, rfl, gw, HT8, HR8, Hk8⟩
          · simp only [pick_cons, pick_nil, nth_zero, nth_succ]
            refine fc_step rfl (fun K hK => ?_)
            go_simp
            refine hK _ _ (keep_new _ _) ?_
            clear hK K
            obtain ⟨y10, hy⟩ : ∃ y10, y10 = y7.alloc (.cells #[.int .u64 0, .int .u64 0, .int .u64 0, .int .u64 0] 42) := ⟨_, rfl⟩
            have F8 : Hid (Blk y10 y7.heap.size 42 #[.int .u64 0, .int .u64 0, .int .u64 0, .int .u64 0].toList) := by rw [hy]; exact Blk.new y7 _ #[.int .u64 0, .int .u64 0, .int .u64 0, .int .u64 0].toList
            have hk : Keep y7 y10 := by rw [hy]; exact keep_new _ _
            rw [← hy]
            clear hy
            have F8s : y7.heap.size < y10.heap.size := F8.out.lt
            have F8n := Q.out.size
            replace Q := Lib.hid (keep_trans Q.out hk)
            have hs_y10 : y7.heap.size ≤ y10.heap.size := hk.size
            replace FT := Lib.hid (FT.out.keep hk)
            replace FN := Lib.hid (FN.out.keep hk)
            replace FR := Lib.hid (FR.out.keep hk)
            replace F7 := Lib.hid (F7.out.keep hk)
            clear hk
            generalize hp : y7.heap.size = g8 at *
            have F8a : y7.heap.size ≤ g8 := Nat.le_of_eq hp
            have F8b : g8 ≤ y7.heap.size := Nat.le_of_eq hp.symm
            clear hp
            refine fc_nil (mt_force ?_)
            simp only [pick_cons, pick_nil, nth_zero, nth_succ]
            refine fc_step rfl (fun K hK => ?_)
            go_simp
            (with_reducible refine (DV.out _).mono ?_)
            rintro e y11 ⟨rfl, hk⟩
            refine hK _ _ hk ?_
            clear hK K
            have HQ3 : wq.heap.size ≤ y10.heap.size := Q.out.size
            have Hprev := Q
            replace Q := Lib.hid (keep_trans Q.out hk)
            have hs_y11 : y10.heap.size ≤ y11.heap.size := hk.size
            replace FT := Lib.hid (FT.out.keep hk)
            replace FN := Lib.hid (FN.out.keep hk)
            replace FR := Lib.hid (FR.out.keep hk)
            replace F7 := Lib.hid (F7.out.keep hk)
            replace F8 := Lib.hid (F8.out.keep hk)
            clear hk
            refine fc_nil (mt_take y11 (Below.refl _ _) ?_)
            simp only [pick_cons, pick_nil, nth_zero, nth_succ]
            repeat (go_big_quiet_step (fail))
            refine wpQuiet_nil (mt_end ?_)
            have r0 := F7.out.cell 0; have r1 := F7.out.cell 1; have r2 := F7.out.cell 2; have r3 := F7.out.cell 3
            have s0 := F8.out.cell 0; have s1 := F8.out.cell 1; have s2 := F8.out.cell 2; have s3 := F8.out.cell 3
            simp only [List.getElem?_cons_zero, List.getElem?_cons_succ] at r0 r1 r2 r3 s0 s1 s2 s3
            have f0 := F7.out.frozen 0; have f1 := F7.out.frozen 1; have f2 := F7.out.frozen 2; have f3 := F7.out.frozen 3
            have e0 := F8.out.frozen 0; have e1 := F8.out.frozen 1; have e2 := F8.out.frozen 2; have e3 := F8.out.frozen 3
            have g1 := Q.out.size
            obtain ⟨z1, hz1⟩ : ∃ z1, z1 = ((((y11.setCell ⟨g7, 0, none⟩ (n64 (limb QD 0))).setCell ⟨g7, 1, none⟩ (n64 (limb QD 1))).setCell ⟨g7, 2, none⟩ (n64 (limb QD 2))).setCell ⟨g7, 3, none⟩ (n64 (limb QD 3))) := ⟨_, rfl⟩
            have F7z : Hid (Blk z1 g7 42 (uL QD)) := by rw [hz1]; exact Lib.hid ((((F7.out.set_ 0 _).set_ 1 _).set_ 2 _).set_ 3 _)
            have F8z : Hid (Blk z1 g8 42 #[.int .u64 0, .int .u64 0, .int .u64 0, .int .u64 0].toList) := by rw [hz1]; exact Lib.hid ((((F8.out.far (by simp <;> omega) _).far (by simp <;> omega) _).far (by simp <;> omega) _).far (by simp <;> omega) _)
            have FRz : Hid (Blk z1 w.heap.size 42 [.int .u64 0, .int .u64 0, .int .u64 0, .int .u64 0]) := by rw [hz1]; exact Lib.hid ((((FR.out.far (by simp <;> omega) _).far (by simp <;> omega) _).far (by simp <;> omega) _).far (by simp <;> omega) _)
            have HKz : Hid (Keep w z1) := by
              rw [hz1]
              refine Lib.hid ?_
              iterate 4 (refine Below.setCell ?_ (by simp <;> omega) _)
              exact keep_trans HK4.out Q.out
            have hb8 := (((F8z.out.set_ 0 (n64 (limb RD 0))).set_ 1 (n64 (limb RD 1))).set_ 2 (n64 (limb RD 2))).set_ 3 (n64 (limb RD 3))
            have hk8 : Keep w ((((z1.setCell ⟨g8, 0, none⟩ (n64 (limb RD 0))).setCell ⟨g8, 1, none⟩ (n64 (limb RD 1))).setCell ⟨g8, 2, none⟩ (n64 (limb RD 2))).setCell ⟨g8, 3, none⟩ (n64 (limb RD 3))) := by
              iterate 4 (refine Below.setCell ?_ (by simp <;> omega) _)
              exact HKz.out
            have T8 := (((F7z.out.far (p := ⟨g8, 0, none⟩) (by simp <;> omega) (n64 (limb RD 0))).far (p := ⟨g8, 1, none⟩) (by simp <;> omega) (n64 (limb RD 1))).far (p := ⟨g8, 2, none⟩) (by simp <;> omega) (n64 (limb RD 2))).far (p := ⟨g8, 3, none⟩) (by simp <;> omega) (n64 (limb RD 3))
            have R8 := (((FRz.out.far (p := ⟨g8, 0, none⟩) (by simp <;> omega) (n64 (limb RD 0))).far (p := ⟨g8, 1, none⟩) (by simp <;> omega) (n64 (limb RD 1))).far (p := ⟨g8, 2, none⟩) (by simp <;> omega) (n64 (limb RD 2))).far (p := ⟨g8, 3, none⟩) (by simp <;> omega) (n64 (limb RD 3))
            rw [hz1] at hk8 T8 R8
            have Hk8 := Lib.hid hk8; have HT8 := Lib.hid T8; have HR8 := Lib.hid R8
            have s0' : ((((y11.setCell ⟨g7, 0, none⟩ (n64 (limb QD 0))).setCell ⟨g7, 1, none⟩ (n64 (limb QD 1))).setCell ⟨g7, 2, none⟩ (n64 (limb QD 2))).setCell ⟨g7, 3, none⟩ (n64 (limb QD 3))).cell? ⟨g8, 0, none⟩ = some (.int .u64 0) := by rw [← hz1]; exact F8z.out.cell 0
            have s1' : ((((y11.setCell ⟨g7, 0, none⟩ (n64 (limb QD 0))).setCell ⟨g7, 1, none⟩ (n64 (limb QD 1))).setCell ⟨g7, 2, none⟩ (n64 (limb QD 2))).setCell ⟨g7, 3, none⟩ (n64 (limb QD 3))).cell? ⟨g8, 1, none⟩ = some (.int .u64 0) := by rw [← hz1]; exact F8z.out.cell 1
            have s2' : ((((y11.setCell ⟨g7, 0, none⟩ (n64 (limb QD 0))).setCell ⟨g7, 1, none⟩ (n64 (limb QD 1))).setCell ⟨g7, 2, none⟩ (n64 (limb QD 2))).setCell ⟨g7, 3, none⟩ (n64 (limb QD 3))).cell? ⟨g8, 2, none⟩ = some (.int .u64 0) := by rw [← hz1]; exact F8z.out.cell 2
            have s3' : ((((y11.setCell ⟨g7, 0, none⟩ (n64 (limb QD 0))).setCell ⟨g7, 1, none⟩ (n64 (limb QD 1))).setCell ⟨g7, 2, none⟩ (n64 (limb QD 2))).setCell ⟨g7, 3, none⟩ (n64 (limb QD 3))).cell? ⟨g8, 3, none⟩ = some (.int .u64 0) := by rw [← hz1]; exact F8z.out.cell 3
            clear hb8 hk8 T8 R8 hz1 F7z F8z FRz HKz z1
            have gw : w.heap.size < g7 := by omega
            go_wp2
            go_meet
            exact ⟨g7, rfl, gw, HT8, HR8, Hk8⟩
        · simp only [pick_cons, pick_nil, nth_zero, nth_succ]
          refine fc_step rfl (fun K hK => ?_)
          go_simp
          refine hK _ _ (keep_new _ _) ?_
          clear hK K
          obtain ⟨y12, hy⟩ : ∃ y12, y12 = y1.alloc (.cells #[.int .u64 0, .int .u64 0, .int .u64 0, .int .u64 0] 42) := ⟨_, rfl⟩
          have F8 : Hid (Blk y12 y1.heap.size 42 #[.int .u64 0, .int .u64 0, .int .u64 0, .int .u64 0].toList) := by rw [hy]; exact Blk.new y1 _ #[.int .u64 0, .int .u64 0, .int .u64 0, .int .u64 0].toList
          have hk : Keep y1 y12 := by rw [hy]; exact keep_new _ _
          rw [← hy]
          clear hy
          have F8s : y1.heap.size < y12.heap.size := F8.out.lt
          have F8n := Q.out.size
          replace Q := Lib.hid (keep_trans Q.out hk)
          have hs_y12 : y1.heap.size ≤ y12.heap.size := hk.size
          replace FT := Lib.hid (FT.out.keep hk)
          replace FN := Lib.hid (FN.out.keep hk)
          replace FR := Lib.hid (FR.out.keep hk)
          clear hk
          generalize hp : y1.heap.size = g8 at *
          have F8a : y1.heap.size ≤ g8 := Nat.le_of_eq hp
          have F8b : g8 ≤ y1.heap.size := Nat.le_of_eq hp.symm
          clear hp
          refine fc_nil (mt_fork ?_ ?_)
          · simp only [pick_cons, pick_nil, nth_zero, nth_succ]
            refine fc_step rfl (fun K hK => ?_)
            go_simp
            (with_reducible refine (DV.out _).mono ?_)
            rintro e y13 ⟨rfl, hk⟩
            refine hK _ _ hk ?_
            clear hK K
            have HQ3 : wq.heap.size ≤ y12.heap.size := Q.out.size
            have Hprev := Q
            replace Q := Lib.hid (keep_trans Q.out hk)
            have hs_y13 : y12.heap.size ≤ y13.heap.size := hk.size
            replace FT := Lib.hid (FT.out.keep hk)
            replace FN := Lib.hid (FN.out.keep hk)
            replace FR := Lib.hid (FR.out.keep hk)
            replace F8 := Lib.hid (F8.out.keep hk)
            clear hk
            refine fc_nil (mt_take y13 (Below.refl _ _) ?_)
            simp only [pick_cons, pick_nil, nth_zero, nth_succ]
            repeat (go_big_quiet_step (fail))
            refine wpQuiet_nil (mt_force ?_)
            simp only [pick_cons, pick_nil, nth_zero, nth_succ]
            refine fc_step rfl (fun K hK => ?_)
            go_simp
            refine hK _ _ (keep_new _ _) ?_
            clear hK K
            obtain ⟨y14, hy⟩ : ∃ y14, y14 = y13.alloc (.cells #[.int .u64 0, .int .u64 0, .int .u64 0, .int .u64 0] 42) := ⟨_, rfl⟩
            have F7 : Hid (Blk y14 y13.heap.size 42 #[.int .u64 0, .int .u64 0, .int .u64 0, .int .u64 0].toList) := by rw [hy]; exact Blk.new y13 _ #[.int .u64 0, .int .u64 0, .int .u64 0, .int .u64 0].toList
            have hk : Keep y13 y14 := by rw [hy]; exact keep_new _ _
            rw [← hy]
            clear hy
            have F7s : y13.heap.size < y14.heap.size := F7.out.lt
            have F7n := Q.out.size
            replace Q := Lib.hid (keep_trans Q.out hk)
            have hs_y14 : y13.heap.size ≤ y14.heap.size := hk.size
            replace FT := Lib.hid (FT.out.keep hk)
            replace FN := Lib.hid (FN.out.keep hk)
            replace FR := Lib.hid (FR.out.keep hk)
            replace F8 := Lib.hid (F8.out.keep hk)
            clear hk
            generalize hp : y13.heap.size = g7 at *
            have F7a : y13.heap.size ≤ g7 := Nat.le_of_eq hp
            have F7b : g7 ≤ y13.heap.size := Nat.le_of_eq hp.symm
            clear hp
            refine fc_nil (mt_end ?_)
            have r0 := F7.out.cell 0; have r1 := F7.out.cell 1; have r2 := F7.out.cell 2; have r3 := F7.out.cell 3
            have s0 := F8.out.cell 0; have s1 := F8.out.cell 1; have s2 := F8.out.cell 2; have s3 := F8.out.cell 3
            simp only [List.getElem?_cons_zero, List.getElem?_cons_succ] at r0 r1 r2 r3 s0 s1 s2 s3
            have f0 := F7.out.frozen 0; have f1 := F7.out.frozen 1; have f2 := F7.out.frozen 2; have f3 := F7.out.frozen 3
            have e0 := F8.out.frozen 0; have e1 := F8.out.frozen 1; have e2 := F8.out.frozen 2; have e3 := F8.out.frozen 3
            have g1 := Q.out.size
            obtain ⟨z1, hz1⟩ : ∃ z1, z1 = ((((y14.setCell ⟨g7, 0, none⟩ (n64 (limb QD 0))).setCell ⟨g7, 1, none⟩ (n64 (limb QD 1))).setCell ⟨g7, 2, none⟩ (n64 (limb QD 2))).setCell ⟨g7, 3, none⟩ (n64 (limb QD 3))) := ⟨_, rfl⟩
            have F7z : Hid (Blk z1 g7 42 (uL QD)) := by rw [hz1]; exact Lib.hid ((((F7.out.set_ 0 _).set_ 1 _).set_ 2 _).set_ 3 _)
            have F8z : Hid (Blk z1 g8 42 #[.int .u64 0, .int .u64 0, .int .u64 0, .int .u64 0].toList) := by rw [hz1]; exact Lib.hid ((((F8.out.far (by simp <;> omega) _).far (by simp <;> omega) _).far (by simp <;> omega) _).far (by simp <;> omega) _)
            have FRz : Hid (Blk z1 w.heap.size 42 [.int .u64 0, .int .u64 0, .int .u64 0, .int .u64 0]) := by rw [hz1]; exact Lib.hid ((((FR.out.far (by simp <;> omega) _).far (by simp <;> omega) _).far (by simp <;> omega) _).far (by simp <;> omega) _)
            have HKz : Hid (Keep w z1) := by
              rw [hz1]
              refine Lib.hid ?_
              iterate 4 (refine Below.setCell ?_ (by simp <;> omega) _)
              exact keep_trans HK4.out Q.out
            have hb8 := (((F8z.out.set_ 0 (n64 (limb RD 0))).set_ 1 (n64 (limb RD 1))).set_ 2 (n64 (limb RD 2))).set_ 3 (n64 (limb RD 3))
            have hk8 : Keep w ((((z1.setCell ⟨g8, 0, none⟩ (n64 (limb RD 0))).setCell ⟨g8, 1, none⟩ (n64 (limb RD 1))).setCell ⟨g8, 2, none⟩ (n64 (limb RD 2))).setCell ⟨g8, 3, none⟩ (n64 (limb RD 3))) := by
              iterate 4 (refine Below.setCell ?_ (by simp <;> omega) _)
              exact HKz.out
            have T8 := (((F7z.out.far (p := ⟨g8, 0, none⟩) (by simp <;> omega) (n64 (limb RD 0))).far (p := ⟨g8, 1, none⟩) (by simp <;> omega) (n64 (limb RD 1))).far (p := ⟨g8, 2, none⟩) (by simp <;> omega) (n64 (limb RD 2))).far (p := ⟨g8, 3, none⟩) (by simp <;> omega) (n64 (limb RD 3))
            have R8 := (((FRz.out.far (p := ⟨g8, 0, none⟩) (by simp <;> omega) (n64 (limb RD 0))).far (p := ⟨g8, 1, none⟩) (by simp <;> omega) (n64 (limb RD 1))).far (p := ⟨g8, 2, none⟩) (by simp <;> omega) (n64 (limb RD 2))).far (p := ⟨g8, 3, none⟩) (by simp <;> omega) (n64 (limb RD 3))
            rw [hz1] at hk8 T8 R8
            have Hk8 := Lib.hid hk8; have HT8 := Lib.hid T8; have HR8 := Lib.hid R8
            have s0' : ((((y14.setCell ⟨g7, 0, none⟩ (n64 (limb QD 0))).setCell ⟨g7, 1, none⟩ (n64 (limb QD 1))).setCell ⟨g7, 2, none⟩ (n64 (limb QD 2))).setCell ⟨g7, 3, none⟩ (n64 (limb QD 3))).cell? ⟨g8, 0, none⟩ = some (.int .u64 0) := by rw [← hz1]; exact F8z.out.cell 0
            have s1' : ((((y14.setCell ⟨g7, 0, none⟩ (n64 (limb QD 0))).setCell ⟨g7, 1, none⟩ (n64 (limb QD 1))).setCell ⟨g7, 2, none⟩ (n64 (limb QD 2))).setCell ⟨g7, 3, none⟩ (n64 (limb QD 3))).cell? ⟨g8, 1, none⟩ = some (.int .u64 0) := by rw [← hz1]; exact F8z.out.cell 1
            have s2' : ((((y14.setCell ⟨g7, 0, none⟩ (n64 (limb QD 0))).setCell ⟨g7, 1, none⟩ (n64 (limb QD 1))).setCell ⟨g7, 2, none⟩ (n64 (limb QD 2))).setCell ⟨g7, 3, none⟩ (n64 (limb QD 3))).cell? ⟨g8, 2, none⟩ = some (.int .u64 0) := by rw [← hz1]; exact F8z.out.cell 2
            have s3' : ((((y14.setCell ⟨g7, 0, none⟩ (n64 (limb QD 0))).setCell ⟨g7, 1, none⟩ (n64 (limb QD 1))).setCell ⟨g7, 2, none⟩ (n64 (limb QD 2))).setCell ⟨g7, 3, none⟩ (n64 (limb QD 3))).cell? ⟨g8, 3, none⟩ = some (.int .u64 0) := by rw [← hz1]; exact F8z.out.cell 3
            clear hb8 hk8 T8 R8 hz1 F7z F8z FRz HKz z1
            have gw : w.heap.size < g7 := by omega
            go_wp2
            go_meet
            exact ⟨g7, rfl, gw, HT8, HR8, Hk8⟩
          · simp only [pick_cons, pick_nil, nth_zero, nth_succ]
            refine fc_step rfl (fun K hK => ?_)
            go_simp
            refine hK _ _ (keep_new _ _) ?_
            clear hK K
            obtain ⟨y15, hy⟩ : ∃ y15, y15 = y12.alloc (.cells #[.int .u64 0, .int .u64 0, .int .u64 0, .int .u64 0] 42) := ⟨_, rfl⟩
            have F7 : Hid (Blk y15 y12.heap.size 42 #[.int .u64 0, .int .u64 0, .int .u64 0, .int .u64 0].toList) := by rw [hy]; exact Blk.new y12 _ #[.int .u64 0, .int .u64 0, .int .u64 0, .int .u64 0].toList
            have hk : Keep y12 y15 := by rw [hy]; exact keep_new _ _
            rw [← hy]
            clear hy
            have F7s : y12.heap.size < y15.heap.size := F7.out.lt
            have F7n := Q.out.size
            replace Q := Lib.hid (keep_trans Q.out hk)
            have hs_y15 : y12.heap.size ≤ y15.heap.size := hk.size
            replace FT := Lib.hid (FT.out.keep hk)
            replace FN := Lib.hid (FN.out.keep hk)
            replace FR := Lib.hid (FR.out.keep hk)
            replace F8 := Lib.hid (F8.out.keep hk)
            clear hk
            generalize hp : y12.heap.size = g7 at *
            have F7a : y12.heap.size ≤ g7 := Nat.le_of_eq hp
            have F7b : g7 ≤ y12.heap.size := Nat.le_of_eq hp.symm
            clear hp
            refine fc_nil (mt_force ?_)
            simp only [pick_cons, pick_nil, nth_zero, nth_succ]
            refine fc_step rfl (fun K hK => ?_)
            go_simp
            (with_reducible refine (DV.out _).mono ?_)
            rintro e y16 ⟨rfl, hk⟩
            refine hK _ _ hk ?_
            clear hK K
            have HQ3 : wq.heap.size ≤ y15.heap.size := Q.out.size
            have Hprev := Q
            replace Q := Lib.hid (keep_trans Q.out hk)
            have hs_y16 : y15.heap.size ≤ y16.heap.size := hk.size
            replace FT := Lib.hid (FT.out.keep hk)
            replace FN := Lib.hid (FN.out.keep hk)
            replace FR := Lib.hid (FR.out.keep hk)
            replace F8 := Lib.hid (F8.out.keep hk)
            replace F7 := Lib.hid (F7.out.keep hk)
            clear hk
            refine fc_nil (mt_take y16 (Below.refl _ _) ?_)
            simp only [pick_cons, pick_nil, nth_zero, nth_succ]
            repeat (go_big_quiet_step (fail))
            refine wpQuiet_nil (mt_end ?_)
            have r0 := F7.out.cell 0; have r1 := F7.out.cell 1; have r2 := F7.out.cell 2; have r3 := F7.out.cell 3
            have s0 := F8.out.cell 0; have s1 := F8.out.cell 1; have s2 := F8.out.cell 2; have s3 := F8.out.cell 3
            simp only [List.getElem?_cons_zero, List.getElem?_cons_succ] at r0 r1 r2 r3 s0 s1 s2 s3
            have f0 := F7.out.frozen 0; have f1 := F7.out.frozen 1; have f2 := F7.out.frozen 2; have f3 := F7.out.frozen 3
            have e0 := F8.out.frozen 0; have e1 := F8.out.frozen 1; have e2 := F8.out.frozen 2; have e3 := F8.out.frozen 3
            have g1 := Q.out.size
            obtain ⟨z1, hz1⟩ : ∃ z1, z1 = ((((y16.setCell ⟨g7, 0, none⟩ (n64 (limb QD 0))).setCell ⟨g7, 1, none⟩ (n64 (limb QD 1))).setCell ⟨g7, 2, none⟩ (n64 (limb QD 2))).setCell ⟨g7, 3, none⟩ (n64 (limb QD 3))) := ⟨_, rfl⟩
            have F7z : Hid (Blk z1 g7 42 (uL QD)) := by rw [hz1]; exact Lib.hid ((((F7.out.set_ 0 _).set_ 1 _).set_ 2 _).set_ 3 _)
            have F8z : Hid (Blk z1 g8 42 #[.int .u64 0, .int .u64 0, .int .u64 0, .int .u64 0].toList) := by rw [hz1]; exact Lib.hid ((((F8.out.far (by simp <;> omega) _).far (by simp <;> omega) _).far (by simp <;> omega) _).far (by simp <;> omega) _)
            have FRz : Hid (Blk z1 w.heap.size 42 [.int .u64 0, .int .u64 0, .int .u64 0, .int .u64 0]) := by rw [hz1]; exact Lib.hid ((((FR.out.far (by simp <;> omega) _).far (by simp <;> omega) _).far (by simp <;> omega) _).far (by simp <;> omega) _)
            have HKz : Hid (Keep w z1) := by
              rw [hz1]
              refine Lib.hid ?_
              iterate 4 (refine Below.setCell ?_ (by simp <;> omega) _)
              exact keep_trans HK4.out Q.out
            have hb8 := (((F8z.out.set_ 0 (n64 (limb RD 0))).set_ 1 (n64 (limb RD 1))).set_ 2 (n64 (limb RD 2))).set_ 3 (n64 (limb RD 3))
            have hk8 : Keep w ((((z1.setCell ⟨g8, 0, none⟩ (n64 (limb RD 0))).setCell ⟨g8, 1, none⟩ (n64 (limb RD 1))).setCell ⟨g8, 2, none⟩ (n64 (limb RD 2))).setCell ⟨g8, 3, none⟩ (n64 (limb RD 3))) := by
              iterate 4 (refine Below.setCell ?_ (by simp <;> omega) _)
              exact HKz.out
            have T8 := (((F7z.out.far (p := ⟨g8, 0, none⟩) (by simp <;> omega) (n64 (limb RD 0))).far (p := ⟨g8, 1, none⟩) (by simp <;> omega) (n64 (limb RD 1))).far (p := ⟨g8, 2, none⟩) (by simp <;> omega) (n64 (limb RD 2))).far (p := ⟨g8, 3, none⟩) (by simp <;> omega) (n64 (limb RD 3))
            have R8 := (((FRz.out.far (p := ⟨g8, 0, none⟩) (by simp <;> omega) (n64 (limb RD 0))).far (p := ⟨g8, 1, none⟩) (by simp <;> omega) (n64 (limb RD 1))).far (p := ⟨g8, 2, none⟩) (by simp <;> omega) (n64 (limb RD 2))).far (p := ⟨g8, 3, none⟩) (by simp <;> omega) (n64 (limb RD 3))
            rw [hz1] at hk8 T8 R8
            have Hk8 := Lib.hid hk8; have HT8 := Lib.hid T8; have HR8 := Lib.hid R8
            have s0' : ((((y16.setCell ⟨g7, 0, none⟩ (n64 (limb QD 0))).setCell ⟨g7, 1, none⟩ (n64 (limb QD 1))).setCell ⟨g7, 2, none⟩ (n64 (limb QD 2))).setCell ⟨g7, 3, none⟩ (n64 (limb QD 3))).cell? ⟨g8, 0, none⟩ = some (.int .u64 0) := by rw [← hz1]; exact F8z.out.cell 0
            have s1' : ((((y16.setCell ⟨g7, 0, none⟩ (n64 (limb QD 0))).setCell ⟨g7, 1, none⟩ (n64 (limb QD 1))).setCell ⟨g7, 2, none⟩ (n64 (limb QD 2))).setCell ⟨g7, 3, none⟩ (n64 (limb QD 3))).cell? ⟨g8, 1, none⟩ = some (.int .u64 0) := by rw [← hz1]; exact F8z.out.cell 1
            have s2' : ((((y16.setCell ⟨g7, 0, none⟩ (n64 (limb QD 0))).setCell ⟨g7, 1, none⟩ (n64 (limb QD 1))).setCell ⟨g7, 2, none⟩ (n64 (limb QD 2))).setCell ⟨g7, 3, none⟩ (n64 (limb QD 3))).cell? ⟨g8, 2, none⟩ = some (.int .u64 0) := by rw [← hz1]; exact F8z.out.cell 2
            have s3' : ((((y16.setCell ⟨g7, 0, none⟩ (n64 (limb QD 0))).setCell ⟨g7, 1, none⟩ (n64 (limb QD 1))).setCell ⟨g7, 2, none⟩ (n64 (limb QD 2))).setCell ⟨g7, 3, none⟩ (n64 (limb QD 3))).cell? ⟨g8, 3, none⟩ = some (.int .u64 0) := by rw [← hz1]; exact F8z.out.cell 3
            clear hb8 hk8 T8 R8 hz1 F7z F8z FRz HKz z1
            have gw : w.heap.size < g7 := by omega
            go_wp2
            go_meet
            exact ⟨g7, rfl, gw, HT8, HR8, Hk8⟩
      · simp only [pick_cons, pick_nil, nth_zero, nth_succ]
        refine fc_step rfl (fun K hK => ?_)
        go_simp
        refine hK _ _ (keep_new _ _) ?_
        clear hK K
        obtain ⟨y17, hy⟩ : ∃ y17, y17 = y0.alloc (.cells #[.int .u64 0, .int .u64 0, .int .u64 0, .int .u64 0] 42) := ⟨_, rfl⟩
        have F7 : Hid (Blk y17 y0.heap.size 42 #[.int .u64 0, .int .u64 0, .int .u64 0, .int .u64 0].toList) := by rw [hy]; exact Blk.new y0 _ #[.int .u64 0, .int .u64 0, .int .u64 0, .int .u64 0].toList
        have hk : Keep y0 y17 := by rw [hy]; exact keep_new _ _
        rw [← hy]
        clear hy
        have F7s : y0.heap.size < y17.heap.size := F7.out.lt
        have F7n := Q.out.size
        replace Q := Lib.hid (keep_trans Q.out hk)
        have hs_y17 : y0.heap.size ≤ y17.heap.size := hk.size
        replace FT := Lib.hid (FT.out.keep hk)
        replace FN := Lib.hid (FN.out.keep hk)
        replace FR := Lib.hid (FR.out.keep hk)
        clear hk
        generalize hp : y0.heap.size = g7 at *
        have F7a : y0.heap.size ≤ g7 := Nat.le_of_eq hp
        have F7b : g7 ≤ y0.heap.size := Nat.le_of_eq hp.symm
        clear hp
        refine fc_nil (mt_fork ?_ ?_)
        · simp only [pick_cons, pick_nil, nth_zero, nth_succ]
          refine fc_step rfl (fun K hK => ?_)
          go_simp
          (with_reducible refine (NT.out _).mono ?_)
          rintro e y18 ⟨rfl, hk⟩
          refine hK _ _ hk ?_
          clear hK K
          have HQ1 : wq.heap.size ≤ y17.heap.size := Q.out.size
          have Hprev := Q
          replace Q := Lib.hid (keep_trans Q.out hk)
          have hs_y18 : y17.heap.size ≤ y18.heap.size := hk.size
          replace FT := Lib.hid (FT.out.keep hk)
          replace FN := Lib.hid (FN.out.keep hk)
          replace FR := Lib.hid (FR.out.keep hk)
          replace F7 := Lib.hid (F7.out.keep hk)
          clear hk
          refine fc_nil (mt_fork ?_ ?_)
          · simp only [pick_cons, pick_nil, nth_zero, nth_succ]
            refine fc_step rfl (fun K hK => ?_)
            go_simp
            (with_reducible refine (DV.out _).mono ?_)
            rintro e y19 ⟨rfl, hk⟩
            refine hK _ _ hk ?_
            clear hK K
            have HQ3 : wq.heap.size ≤ y18.heap.size := Q.out.size
            have Hprev := Q
            replace Q := Lib.hid (keep_trans Q.out hk)
            have hs_y19 : y18.heap.size ≤ y19.heap.size := hk.size
            replace FT := Lib.hid (FT.out.keep hk)
            replace FN := Lib.hid (FN.out.keep hk)
            replace FR := Lib.hid (FR.out.keep hk)
            replace F7 := Lib.hid (F7.out.keep hk)
            clear hk
            refine fc_nil (mt_take y19 (Below.refl _ _) ?_)
            simp only [pick_cons, pick_nil, nth_zero, nth_succ]
            repeat (go_big_quiet_step (fail))
            refine wpQuiet_nil (mt_force ?_)
            simp only [pick_cons, pick_nil, nth_zero, nth_succ]
            refine fc_step rfl (fun K hK => ?_)
            go_simp
            refine hK _ _ (keep_new _ _) ?_
            clear hK K
            obtain ⟨y20, hy⟩ : ∃ y20, y20 = y19.alloc (.cells #[.int .u64 0, .int .u64 0, .int .u64 0, .int .u64 0] 42) := ⟨_, rfl⟩
            have F8 : Hid (Blk y20 y19.heap.size 42 #[.int .u64 0, .int .u64 0, .int .u64 0, .int .u64 0].toList) := by rw [hy]; exact Blk.new y19 _ #[.int .u64 0, .int .u64 0, .int .u64 0, .int .u64 0].toList
            have hk : Keep y19 y20 := by rw [hy]; exact keep_new _ _
            rw [← hy]
            clear hy
            have F8s : y19.heap.size < y20.heap.size := F8.out.lt
            have F8n := Q.out.size
            replace Q := Lib.hid (keep_trans Q.out hk)
            have hs_y20 : y19.heap.size ≤ y20.heap.size := hk.size
            replace FT := Lib.hid (FT.out.keep hk)
            replace FN := Lib.hid (FN.out.keep hk)
            replace FR := Lib.hid (FR.out.keep hk)
            replace F7 := Lib.hid (F7.out.keep hk)
            clear hk
            generalize hp : y19.heap.size = g8 at *
            have F8a : y19.heap.size ≤ g8 := Nat.le_of_eq hp
            have F8b : g8 ≤ y19.heap.size := Nat.le_of_eq hp.symm
            clear hp
            refine fc_nil (mt_end ?_)
            have r0 := F7.out.cell 0; have r1 := F7.out.cell 1; have r2 := F7.out.cell 2; have r3 := F7.out.cell 3
            have s0 := F8.out.cell 0; have s1 := F8.out.cell 1; have s2 := F8.out.cell 2; have s3 := F8.out.cell 3
            simp only [List.getElem?_cons_zero, List.getElem?_cons_succ] at r0 r1 r2 r3 s0 s1 s2 s3
            have f0 := F7.out.frozen 0; have f1 := F7.out.frozen 1; have f2 := F7.out.frozen 2; have f3 := F7.out.frozen 3
            have e0 := F8.out.frozen 0; have e1 := F8.out.frozen 1; have e2 := F8.out.frozen 2; have e3 := F8.out.frozen 3
            have g1 := Q.out.size
            obtain ⟨z1, hz1⟩ : ∃ z1, z1 = ((((y20.setCell ⟨g7, 0, none⟩ (n64 (limb QD 0))).setCell ⟨g7, 1, none⟩ (n64 (limb QD 1))).setCell ⟨g7, 2, none⟩ (n64 (limb QD 2))).setCell ⟨g7, 3, none⟩ (n64 (limb QD 3))) := ⟨_, rfl⟩
            have F7z : Hid (Blk z1 g7 42 (uL QD)) := by rw [hz1]; exact Lib.hid ((((F7.out.set_ 0 _).set_ 1 _).set_ 2 _).set_ 3 _)
            have F8z : Hid (Blk z1 g8 42 #[.int .u64 0, .int .u64 0, .int .u64 0, .int .u64 0].toList) := by rw [hz1]; exact Lib.hid ((((F8.out.far (by simp <;> omega) _).far (by simp <;> omega) _).far (by simp <;> omega) _).far (by simp <;> omega) _)
            have FRz : Hid (Blk z1 w.heap.size 42 [.int .u64 0, .int .u64 0, .int .u64 0, .int .u64 0]) := by rw [hz1]; exact Lib.hid ((((FR.out.far (by simp <;> omega) _).far (by simp <;> omega) _).far (by simp <;> omega) _).far (by simp <;> omega) _)
            have HKz : Hid (Keep w z1) := by
              rw [hz1]
              refine Lib.hid ?_
              iterate 4 (refine Below.setCell ?_ (by simp <;> omega) _)
              exact keep_trans HK4.out Q.out
            have hb8 := (((F8z.out.set_ 0 (n64 (limb RD 0))).set_ 1 (n64 (limb RD 1))).set_ 2 (n64 (limb RD 2))).set_ 3 (n64 (limb RD 3))
            have hk8 : Keep w ((((z1.setCell ⟨g8, 0, none⟩ (n64 (limb RD 0))).setCell ⟨g8, 1, none⟩ (n64 (limb RD 1))).setCell ⟨g8, 2, none⟩ (n64 (limb RD 2))).setCell ⟨g8, 3, none⟩ (n64 (limb RD 3))) := by
              iterate 4 (refine Below.setCell ?_ (by simp <;> omega) _)
              exact HKz.out
            have T8 := (((F7z.out.far (p := ⟨g8, 0, none⟩) (by simp <;> omega) (n64 (limb RD 0))).far (p := ⟨g8, 1, none⟩) (by simp <;> omega) (n64 (limb RD 1))).far (p := ⟨g8, 2, none⟩) (by simp <;> omega) (n64 (limb RD 2))).far (p := ⟨g8, 3, none⟩) (by simp <;> omega) (n64 (limb RD 3))
            have R8 := (((FRz.out.far (p := ⟨g8, 0, none⟩) (by simp <;> omega) (n64 (limb RD 0))).far (p := ⟨g8, 1, none⟩) (by simp <;> omega) (n64 (limb RD 1))).far (p := ⟨g8, 2, none⟩) (by simp <;> omega) (n64 (limb RD 2))).far (p := ⟨g8, 3, none⟩) (by simp <;> omega) (n64 (limb RD 3))
            rw [hz1] at hk8 T8 R8
            have Hk8 := Lib.hid hk8; have HT8 := Lib.hid T8; have HR8 := Lib.hid R8
            have s0' : ((((y20.setCell ⟨g7, 0, none⟩ (n64 (limb QD 0))).setCell ⟨g7, 1, none⟩ (n64 (limb QD 1))).setCell ⟨g7, 2, none⟩ (n64 (limb QD 2))).setCell ⟨g7, 3, none⟩ (n64 (limb QD 3))).cell? ⟨g8, 0, none⟩ = some (.int .u64 0) := by rw [← hz1]; exact F8z.out.cell 0
            have s1' : ((((y20.setCell ⟨g7, 0, none⟩ (n64 (limb QD 0))).setCell ⟨g7, 1, none⟩ (n64 (limb QD 1))).setCell ⟨g7, 2, none⟩ (n64 (limb QD 2))).setCell ⟨g7, 3, none⟩ (n64 (limb QD 3))).cell? ⟨g8, 1, none⟩ = some (.int .u64 0) := by rw [← hz1]; exact F8z.out.cell 1
            have s2' : ((((y20.setCell ⟨g7, 0, none⟩ (n64 (limb QD 0))).setCell ⟨g7, 1, none⟩ (n64 (limb QD 1))).setCell ⟨g7, 2, none⟩ (n64 (limb QD 2))).setCell ⟨g7, 3, none⟩ (n64 (limb QD 3))).cell? ⟨g8, 2, none⟩ = some (.int .u64 0) := by rw [← hz1]; exact F8z.out.cell 2
            have s3' : ((((y20.setCell ⟨g7, 0, none⟩ (n64 (limb QD 0))).setCell ⟨g7, 1, none⟩ (n64 (limb QD 1))).setCell ⟨g7, 2, none⟩ (n64 (limb QD 2))).setCell ⟨g7, 3, none⟩ (n64 (limb QD 3))).cell? ⟨g8, 3, none⟩ = some (.int .u64 0) := by rw [← hz1]; exact F8z.out.cell 3
            clear hb8 hk8 T8 R8 hz1 F7z F8z FRz HKz z1
            have gw : w.heap.size < g7 := by omega
            go_wp2
            go_meet
            exact ⟨g7, rfl, gw, HT8, HR8, Hk8⟩
          · simp only [pick_cons, pick_nil, nth_zero, nth_succ]
            refine fc_step rfl (fun K hK => ?_)
            go_simp
            refine hK _ _ (keep_new _ _) ?_
            clear hK K
            obtain ⟨y21, hy⟩ : ∃ y21, y21 = y18.alloc (.cells #[.int .u64 0, .int .u64 0, .int .u64 0, .int .u64 0] 42) := ⟨_, rfl⟩
            have F8 : Hid (Blk y21 y18.heap.size 42 #[.int .u64 0, .int .u64 0, .int .u64 0, .int .u64 0].toList) := by rw [hy]; exact Blk.new y18 _ #[.int .u64 0, .int .u64 0, .int .u64 0, .int .u64 0].toList
            have hk : Keep y18 y21 := by rw [hy]; exact keep_new _ _
            rw [← hy]
            clear hy
            have F8s : y18.heap.size < y21.heap.size := F8.out.lt
            have F8n := Q.out.size
            replace Q := Lib.hid (keep_trans Q.out hk)
            have hs_y21 : y18.heap.size ≤ y21.heap.size := hk.size
            replace FT := Lib.hid (FT.out.keep hk)
            replace FN := Lib.hid (FN.out.keep hk)
            replace FR := Lib.hid (FR.out.keep hk)
            replace F7 := Lib.hid (F7.out.keep hk)
            clear hk
            generalize hp : y18.heap.size = g8 at *
            have F8a : y18.heap.size ≤ g8 := Nat.le_of_eq hp
            have F8b : g8 ≤ y18.heap.size := Nat.le_of_eq hp.symm
            clear hp
            refine fc_nil (mt_force ?_)
            simp only [pick_cons, pick_nil, nth_zero, nth_succ]
            refine fc_step rfl (fun K hK => ?_)
            go_simp
            (with_reducible refine (DV.out _).mono ?_)
            rintro e y22 ⟨rfl, hk⟩
            refine hK _ _ hk ?_
            clear hK K
            have HQ3 : wq.heap.size ≤ y21.heap.size := Q.out.size
            have Hprev := Q
            replace Q := Lib.hid (keep_trans Q.out hk)
            have hs_y22 : y21.heap.size ≤ y22.heap.size := hk.size
            replace FT := Lib.hid (FT.out.keep hk)
            replace FN := Lib.hid (FN.out.keep hk)
            replace FR := Lib.hid (FR.out.keep hk)
            replace F7 := Lib.hid (F7.out.keep hk)
            replace F8 := Lib.hid (F8.out.keep hk)
            clear hk
            refine fc_nil (mt_take y22 (Below.refl _ _) ?_)
            simp only [pick_cons, pick_nil, nth_zero, nth_succ]
            repeat (go_big_quiet_step (fail))
            refine wpQuiet_nil (mt_end ?_)
            have r0 := F7.out.cell 0; have r1 := F7.out.cell 1; have r2 := F7.out.cell 2; have r3 := F7.out.cell 3
            have s0 := F8.out.cell 0; have s1 := F8.out.cell 1; have s2 := F8.out.cell 2; have s3 := F8.out.cell 3
            simp only [List.getElem?_cons_zero, List.getElem?_cons_succ] at r0 r1 r2 r3 s0 s1 s2 s3
            have f0 := F7.out.frozen 0; have f1 := F7.out.frozen 1; have f2 := F7.out.frozen 2; have f3 := F7.out.frozen 3
            have e0 := F8.out.frozen 0; have e1 := F8.out.frozen 1; have e2 := F8.out.frozen 2; have e3 := F8.out.frozen 3
            have g1 := Q.out.size
            obtain ⟨z1, hz1⟩ : ∃ z1, z1 = ((((y22.setCell ⟨g7, 0, none⟩ (n64 (limb QD 0))).setCell ⟨g7, 1, none⟩ (n64 (limb QD 1))).setCell ⟨g7, 2, none⟩ (n64 (limb QD 2))).setCell ⟨g7, 3, none⟩ (n64 (limb QD 3))) := ⟨_, rfl⟩
            have F7z : Hid (Blk z1 g7 42 (uL QD)) := by rw [hz1]; exact Lib.hid ((((F7.out.set_ 0 _).set_ 1 _).set_ 2 _).set_ 3 _)
            have F8z : Hid (Blk z1 g8 42 #[.int .u64 0, .int .u64 0, .int .u64 0, .int .u64 0].toList) := by rw [hz1]; exact Lib.hid ((((F8.out.far (by simp <;> omega) _).far (by simp <;> omega) _).far (by simp <;> omega) _).far (by simp <;> omega) _)
            have FRz : Hid (Blk z1 w.heap.size 42 [.int .u64 0, .int .u64 0, .int .u64 0, .int .u64 0]) := by rw [hz1]; exact Lib.hid ((((FR.out.far (by simp <;> omega) _).far (by simp <;> omega) _).far (by simp <;> omega) _).far (by simp <;> omega) _)
            have HKz : Hid (Keep w z1) := by
              rw [hz1]
              refine Lib.hid ?_
              iterate 4 (refine Below.setCell ?_ (by simp <;> omega) _)
              exact keep_trans HK4.out Q.out
            have hb8 := (((F8z.out.set_ 0 (n64 (limb RD 0))).set_ 1 (n64 (limb RD 1))).set_ 2 (n64 (limb RD 2))).set_ 3 (n64 (limb RD 3))
            have hk8 : Keep w ((((z1.setCell ⟨g8, 0, none⟩ (n64 (limb RD 0))).setCell ⟨g8, 1, none⟩ (n64 (limb RD 1))).setCell ⟨g8, 2, none⟩ (n64 (limb RD 2))).setCell ⟨g8, 3, none⟩ (n64 (limb RD 3))) := by
              iterate 4 (refine Below.setCell ?_ (by simp <;> omega) _)
              exact HKz.out
            have T8 := (((F7z.out.far (p := ⟨g8, 0, none⟩) (by simp <;> omega) (n64 (limb RD 0))).far (p := ⟨g8, 1, none⟩) (by simp <;> omega) (n64 (limb RD 1))).far (p := ⟨g8, 2, none⟩) (by simp <;> omega) (n64 (limb RD 2))).far (p := ⟨g8, 3, none⟩) (by simp <;> omega) (n64 (limb RD 3))
            have R8 := (((FRz.out.far (p := ⟨g8, 0, none⟩) (by simp <;> omega) (n64 (limb RD 0))).far (p := ⟨g8, 1, none⟩) (by simp <;> omega) (n64 (limb RD 1))).far (p := ⟨g8, 2, none⟩) (by simp <;> omega) (n64 (limb RD 2))).far (p := ⟨g8, 3, none⟩) (by simp <;> omega) (n64 (limb RD 3))
            rw [hz1] at hk8 T8 R8
            have Hk8 := Lib.hid hk8; have HT8 := Lib.hid T8; have HR8 := Lib.hid R8
            have s0' : ((((y22.setCell ⟨g7, 0, none⟩ (n64 (limb QD 0))).setCell ⟨g7, 1, none⟩ (n64 (limb QD 1))).setCell ⟨g7, 2, none⟩ (n64 (limb QD 2))).setCell ⟨g7, 3, none⟩ (n64 (limb QD 3))).cell? ⟨g8, 0, none⟩ = some (.int .u64 0) := by rw [← hz1]; exact F8z.out.cell 0
            have s1' : ((((y22.setCell ⟨g7, 0, none⟩ (n64 (limb QD 0))).setCell ⟨g7, 1, none⟩ (n64 (limb QD 1))).setCell ⟨g7, 2, none⟩ (n64 (limb QD 2))).setCell ⟨g7, 3, none⟩ (n64 (limb QD 3))).cell? ⟨g8, 1, none⟩ = some (.int .u64 0) := by rw [← hz1]; exact F8z.out.cell 1
            have s2' : ((((y22.setCell ⟨g7, 0, none⟩ (n64 (limb QD 0))).setCell ⟨g7, 1, none⟩ (n64 (limb QD 1))).setCell ⟨g7, 2, none⟩ (n64 (limb QD 2))).setCell ⟨g7, 3, none⟩ (n64 (limb QD 3))).cell? ⟨g8, 2, none⟩ = some (.int .u64 0) := by rw [← hz1]; exact F8z.out.cell 2
            have s3' : ((((y22.setCell ⟨g7, 0, none⟩ (n64 (limb QD 0))).setCell ⟨g7, 1, none⟩ (n64 (limb QD 1))).setCell ⟨g7, 2, none⟩ (n64 (limb QD 2))).setCell ⟨g7, 3, none⟩ (n64 (limb QD 3))).cell? ⟨g8, 3, none⟩ = some (.int .u64 0) := by rw [← hz1]; exact F8z.out.cell 3
            clear hb8 hk8 T8 R8 hz1 F7z F8z FRz HKz z1
            have gw : w.heap.size < g7 := by omega
            go_wp2
            go_meet
            exact ⟨g7, rfl, gw, HT8, HR8, Hk8⟩
        · simp only [pick_cons, pick_nil, nth_zero, nth_succ]
          refine fc_step rfl (fun K hK => ?_)
          go_simp
          refine hK _ _ (keep_new _ _) ?_
          clear hK K
          obtain ⟨y23, hy⟩ : ∃ y23, y23 = y17.alloc (.cells #[.int .u64 0, .int .u64 0, .int .u64 0, .int .u64 0] 42) := ⟨_, rfl⟩
          have F8 : Hid (Blk y23 y17.heap.size 42 #[.int .u64 0, .int .u64 0, .int .u64 0, .int .u64 0].toList) := by rw [hy]; exact Blk.new y17 _ #[.int .u64 0, .int .u64 0, .int .u64 0, .int .u64 0].toList
          have hk : Keep y17 y23 := by rw [hy]; exact keep_new _ _
          rw [← hy]
          clear hy
          have F8s : y17.heap.size < y23.heap.size := F8.out.lt
          have F8n := Q.out.size
          replace Q := Lib.hid (keep_trans Q.out hk)
          have hs_y23 : y17.heap.size ≤ y23.heap.size := hk.size
          replace FT := Lib.hid (FT.out.keep hk)
          replace FN := Lib.hid (FN.out.keep hk)
          replace FR := Lib.hid (FR.out.keep hk)
          replace F7 := Lib.hid (F7.out.keep hk)
          clear hk
          generalize hp : y17.heap.size = g8 at *
          have F8a : y17.heap.size ≤ g8 := Nat.le_of_eq hp
          have F8b : g8 ≤ y17.heap.size := Nat.le_of_eq hp.symm
          clear hp
          refine fc_nil (mt_force ?_)
          simp only [pick_cons, pick_nil, nth_zero, nth_succ]
          refine fc_step rfl (fun K hK => ?_)
          go_simp
          (with_reducible refine (NT.out _).mono ?_)
          rintro e y24 ⟨rfl, hk⟩
          refine hK _ _ hk ?_
          clear hK K
          have HQ1 : wq.heap.size ≤ y23.heap.size := Q.out.size
          have Hprev := Q
          replace Q := Lib.hid (keep_trans Q.out hk)
          have hs_y24 : y23.heap.size ≤ y24.heap.size := hk.size
          replace FT := Lib.hid (FT.out.keep hk)
          replace FN := Lib.hid (FN.out.keep hk)
          replace FR := Lib.hid (FR.out.keep hk)
          replace F7 := Lib.hid (F7.out.keep hk)
          replace F8 := Lib.hid (F8.out.keep hk)
          clear hk
          refine fc_step rfl (fun K hK => ?_)
          go_simp
          (with_reducible refine (DV.out _).mono ?_)
          rintro e y25 ⟨rfl, hk⟩
          refine hK _ _ hk ?_
          clear hK K
          have HQ3 : wq.heap.size ≤ y24.heap.size := Q.out.size
          have Hprev := Q
          replace Q := Lib.hid (keep_trans Q.out hk)
          have hs_y25 : y24.heap.size ≤ y25.heap.size := hk.size
          replace FT := Lib.hid (FT.out.keep hk)
          replace FN := Lib.hid (FN.out.keep hk)
          replace FR := Lib.hid (FR.out.keep hk)
          replace F7 := Lib.hid (F7.out.keep hk)
          replace F8 := Lib.hid (F8.out.keep hk)
          clear hk
          refine fc_nil (mt_take y25 (Below.refl _ _) ?_)
          simp only [pick_cons, pick_nil, nth_zero, nth_succ]
          repeat (go_big_quiet_step (fail))
          refine wpQuiet_nil (mt_end ?_)
          have r0 := F7.out.cell 0; have r1 := F7.out.cell 1; have r2 := F7.out.cell 2; have r3 := F7.out.cell 3
          have s0 := F8.out.cell 0; have s1 := F8.out.cell 1; have s2 := F8.out.cell 2; have s3 := F8.out.cell 3
          simp only [List.getElem?_cons_zero, List.getElem?_cons_succ] at r0 r1 r2 r3 s0 s1 s2 s3
          have f0 := F7.out.frozen 0; have f1 := F7.out.frozen 1; have f2 := F7.out.frozen 2; have f3 := F7.out.frozen 3
          have e0 := F8.out.frozen 0; have e1 := F8.out.frozen 1; have e2 := F8.out.frozen 2; have e3 := F8.out.frozen 3
          have g1 := Q.out.size
          obtain ⟨z1, hz1⟩ : ∃ z1, z1 = ((((y25.setCell ⟨g7, 0, none⟩ (n64 (limb QD 0))).setCell ⟨g7, 1, none⟩ (n64 (limb QD 1))).setCell ⟨g7, 2, none⟩ (n64 (limb QD 2))).setCell ⟨g7, 3, none⟩ (n64 (limb QD 3))) := ⟨_, rfl⟩
          have F7z : Hid (Blk z1 g7 42 (uL QD)) := by rw [hz1]; exact Lib.hid ((((F7.out.set_ 0 _).set_ 1 _).set_ 2 _).set_ 3 _)
          have F8z : Hid (Blk z1 g8 42 #[.int .u64 0, .int .u64 0, .int .u64 0, .int .u64 0].toList) := by rw [hz1]; exact Lib.hid ((((F8.out.far (by simp <;> omega) _).far (by simp <;> omega) _).far (by simp <;> omega) _).far (by simp <;> omega) _)
          have FRz : Hid (Blk z1 w.heap.size 42 [.int .u64 0, .int .u64 0, .int .u64 0, .int .u64 0]) := by rw [hz1]; exact Lib.hid ((((FR.out.far (by simp <;> omega) _).far (by simp <;> omega) _).far (by simp <;> omega) _).far (by simp <;> omega) _)
          have HKz : Hid (Keep w z1) := by
            rw [hz1]
            refine Lib.hid ?_
            iterate 4 (refine Below.setCell ?_ (by simp <;> omega) _)
            exact keep_trans HK4.out Q.out
          have hb8 := (((F8z.out.set_ 0 (n64 (limb RD 0))).set_ 1 (n64 (limb RD 1))).set_ 2 (n64 (limb RD 2))).set_ 3 (n64 (limb RD 3))
          have hk8 : Keep w ((((z1.setCell ⟨g8, 0, none⟩ (n64 (limb RD 0))).setCell ⟨g8, 1, none⟩ (n64 (limb RD 1))).setCell ⟨g8, 2, none⟩ (n64 (limb RD 2))).setCell ⟨g8, 3, none⟩ (n64 (limb RD 3))) := by
            iterate 4 (refine Below.setCell ?_ (by simp <;> omega) _)
            exact HKz.out
          have T8 := (((F7z.out.far (p := ⟨g8, 0, none⟩) (by simp <;> omega) (n64 (limb RD 0))).far (p := ⟨g8, 1, none⟩) (by simp <;> omega) (n64 (limb RD 1))).far (p := ⟨g8, 2, none⟩) (by simp <;> omega) (n64 (limb RD 2))).far (p := ⟨g8, 3, none⟩) (by simp <;> omega) (n64 (limb RD 3))
          have R8 := (((FRz.out.far (p := ⟨g8, 0, none⟩) (by simp <;> omega) (n64 (limb RD 0))).far (p := ⟨g8, 1, none⟩) (by simp <;> omega) (n64 (limb RD 1))).far (p := ⟨g8, 2, none⟩) (by simp <;> omega) (n64 (limb RD 2))).far (p := ⟨g8, 3, none⟩) (by simp <;> omega) (n64 (limb RD 3))
          rw [hz1] at hk8 T8 R8
          have Hk8 := Lib.hid hk8; have HT8 := Lib.hid T8; have HR8 := Lib.hid R8
          have s0' : ((((y25.setCell ⟨g7, 0, none⟩ (n64 (limb QD 0))).setCell ⟨g7, 1, none⟩ (n64 (limb QD 1))).setCell ⟨g7, 2, none⟩ (n64 (limb QD 2))).setCell ⟨g7, 3, none⟩ (n64 (limb QD 3))).cell? ⟨g8, 0, none⟩ = some (.int .u64 0) := by rw [← hz1]; exact F8z.out.cell 0
          have s1' : ((((y25.setCell ⟨g7, 0, none⟩ (n64 (limb QD 0))).setCell ⟨g7, 1, none⟩ (n64 (limb QD 1))).setCell ⟨g7, 2, none⟩ (n64 (limb QD 2))).setCell ⟨g7, 3, none⟩ (n64 (limb QD 3))).cell? ⟨g8, 1, none⟩ = some (.int .u64 0) := by rw [← hz1]; exact F8z.out.cell 1
          have s2' : ((((y25.setCell ⟨g7, 0, none⟩ (n64 (limb QD 0))).setCell ⟨g7, 1, none⟩ (n64 (limb QD 1))).setCell ⟨g7, 2, none⟩ (n64 (limb QD 2))).setCell ⟨g7, 3, none⟩ (n64 (limb QD 3))).cell? ⟨g8, 2, none⟩ = some (.int .u64 0) := by rw [← hz1]; exact F8z.out.cell 2
          have s3' : ((((y25.setCell ⟨g7, 0, none⟩ (n64 (limb QD 0))).setCell ⟨g7, 1, none⟩ (n64 (limb QD 1))).setCell ⟨g7, 2, none⟩ (n64 (limb QD 2))).setCell ⟨g7, 3, none⟩ (n64 (limb QD 3))).cell? ⟨g8, 3, none⟩ = some (.int .u64 0) := by rw [← hz1]; exact F8z.out.cell 3
          clear hb8 hk8 T8 R8 hz1 F7z F8z FRz HKz z1
          have gw : w.heap.size < g7 := by omega
          go_wp2
          go_meet
          exact ⟨g7, rfl, gw, HT8, HR8, Hk8⟩
      · simp only [pick_cons, pick_nil, nth_zero, nth_succ]
        refine fc_step rfl (fun K hK => ?_)
        go_simp
        refine hK _ _ (keep_new _ _) ?_
        clear hK K
        obtain ⟨y26, hy⟩ : ∃ y26, y26 = y0.alloc (.cells #[.int .u64 0, .int .u64 0, .int .u64 0, .int .u64 0] 42) := ⟨_, rfl⟩
        have F8 : Hid (Blk y26 y0.heap.size 42 #[.int .u64 0, .int .u64 0, .int .u64 0, .int .u64 0].toList) := by rw [hy]; exact Blk.new y0 _ #[.int .u64 0, .int .u64 0, .int .u64 0, .int .u64 0].toList
        have hk : Keep y0 y26 := by rw [hy]; exact keep_new _ _
        rw [← hy]
        clear hy
        have F8s : y0.heap.size < y26.heap.size := F8.out.lt
        have F8n := Q.out.size
        replace Q := Lib.hid (keep_trans Q.out hk)
        have hs_y26 : y0.heap.size ≤ y26.heap.size := hk.size
        replace FT := Lib.hid (FT.out.keep hk)
        replace FN := Lib.hid (FN.out.keep hk)
        replace FR := Lib.hid (FR.out.keep hk)
        clear hk
        generalize hp : y0.heap.size = g8 at *
        have F8a : y0.heap.size ≤ g8 := Nat.le_of_eq hp
        have F8b : g8 ≤ y0.heap.size := Nat.le_of_eq hp.symm
        clear hp
        refine fc_nil (mt_fork ?_ ?_)
        · simp only [pick_cons, pick_nil, nth_zero, nth_succ]
          refine fc_step rfl (fun K hK => ?_)
          go_simp
          (with_reducible refine (NT.out _).mono ?_)
          rintro e y27 ⟨rfl, hk⟩
          refine hK _ _ hk ?_
          clear hK K
          have HQ1 : wq.heap.size ≤ y26.heap.size := Q.out.size
          have Hprev := Q
          replace Q := Lib.hid (keep_trans Q.out hk)
          have hs_y27 : y26.heap.size ≤ y27.heap.size := hk.size
          replace FT := Lib.hid (FT.out.keep hk)
          replace FN := Lib.hid (FN.out.keep hk)
          replace FR := Lib.hid (FR.out.keep hk)
          replace F8 := Lib.hid (F8.out.keep hk)
          clear hk
          refine fc_nil (mt_fork ?_ ?_)
          · simp only [pick_cons, pick_nil, nth_zero, nth_succ]
            refine fc_step rfl (fun K hK => ?_)
            go_simp
            (with_reducible refine (DV.out _).mono ?_)
            rintro e y28 ⟨rfl, hk⟩
            refine hK _ _ hk ?_
            clear hK K
            have HQ3 : wq.heap.size ≤ y27.heap.size := Q.out.size
            have Hprev := Q
            replace Q := Lib.hid (keep_trans Q.out hk)
            have hs_y28 : y27.heap.size ≤ y28.heap.size := hk.size
            replace FT := Lib.hid (FT.out.keep hk)
            replace FN := Lib.hid (FN.out.keep hk)
            replace FR := Lib.hid (FR.out.keep hk)
            replace F8 := Lib.hid (F8.out.keep hk)
            clear hk
            refine fc_nil (mt_take y28 (Below.refl _ _) ?_)
            simp only [pick_cons, pick_nil, nth_zero, nth_succ]
            repeat (go_big_quiet_step (fail))
            refine wpQuiet_nil (mt_force ?_)
            simp only [pick_cons, pick_nil, nth_zero, nth_succ]
            refine fc_step rfl (fun K hK => ?_)
            go_simp
            refine hK _ _ (keep_new _ _) ?_
            clear hK K
            obtain ⟨y29, hy⟩ : ∃ y29, y29 = y28.alloc (.cells #[.int .u64 0, .int .u64 0, .int .u64 0, .int .u64 0] 42) := ⟨_, rfl⟩
            have F7 : Hid (Blk y29 y28.heap.size 42 #[.int .u64 0, .int .u64 0, .int .u64 0, .int .u64 0].toList) := by rw [hy]; exact Blk.new y28 _ #[.int .u64 0, .int .u64 0, .int .u64 0, .int .u64 0].toList
            have hk : Keep y28 y29 := by rw [hy]; exact keep_new _ _
            rw [← hy]
            clear hy
            have F7s : y28.heap.size < y29.heap.size := F7.out.lt
            have F7n := Q.out.size
            replace Q := Lib.hid (keep_trans Q.out hk)
            have hs_y29 : y28.heap.size ≤ y29.heap.size := hk.size
            replace FT := Lib.hid (FT.out.keep hk)
            replace FN := Lib.hid (FN.out.keep hk)
            replace FR := Lib.hid (FR.out.keep hk)
            replace F8 := Lib.hid (F8.out.keep hk)
            clear hk
            generalize hp : y28.heap.size = g7 at *
            have F7a : y28.heap.size ≤ g7 := Nat.le_of_eq hp
            have F7b : g7 ≤ y28.heap.size := Nat.le_of_eq hp.symm
            clear hp
            refine fc_nil (mt_end ?_)
            have r0 := F7.out.cell 0; have r1 := F7.out.cell 1; have r2 := F7.out.cell 2; have r3 := F7.out.cell 3
            have s0 := F8.out.cell 0; have s1 := F8.out.cell 1; have s2 := F8.out.cell 2; have s3 := F8.out.cell 3
            simp only [List.getElem?_cons_zero, List.getElem?_cons_succ] at r0 r1 r2 r3 s0 s1 s2 s3
            have f0 := F7.out.frozen 0; have f1 := F7.out.frozen 1; have f2 := F7.out.frozen 2; have f3 := F7.out.frozen 3
            have e0 := F8.out.frozen 0; have e1 := F8.out.frozen 1; have e2 := F8.out.frozen 2; have e3 := F8.out.frozen 3
            have g1 := Q.out.size
            obtain ⟨z1, hz1⟩ : ∃ z1, z1 = ((((y29.setCell ⟨g7, 0, none⟩ (n64 (limb QD 0))).setCell ⟨g7, 1, none⟩ (n64 (limb QD 1))).setCell ⟨g7, 2, none⟩ (n64 (limb QD 2))).setCell ⟨g7, 3, none⟩ (n64 (limb QD 3))) := ⟨_, rfl⟩
            have F7z : Hid (Blk z1 g7 42 (uL QD)) := by rw [hz1]; exact Lib.hid ((((F7.out.set_ 0 _).set_ 1 _).set_ 2 _).set_ 3 _)
            have F8z : Hid (Blk z1 g8 42 #[.int .u64 0, .int .u64 0, .int .u64 0, .int .u64 0].toList) := by rw [hz1]; exact Lib.hid ((((F8.out.far (by simp <;> omega) _).far (by simp <;> omega) _).far (by simp <;> omega) _).far (by simp <;> omega) _)
            have FRz : Hid (Blk z1 w.heap.size 42 [.int .u64 0, .int .u64 0, .int .u64 0, .int .u64 0]) := by rw [hz1]; exact Lib.hid ((((FR.out.far (by simp <;> omega) _).far (by simp <;> omega) _).far (by simp <;> omega) _).far (by simp <;> omega) _)
            have HKz : Hid (Keep w z1) := by
              rw [hz1]
              refine Lib.hid ?_
              iterate 4 (refine Below.setCell ?_ (by simp <;> omega) _)
              exact keep_trans HK4.out Q.out
            have hb8 := (((F8z.out.set_ 0 (n64 (limb RD 0))).set_ 1 (n64 (limb RD 1))).set_ 2 (n64 (limb RD 2))).set_ 3 (n64 (limb RD 3))
            have hk8 : Keep w ((((z1.setCell ⟨g8, 0, none⟩ (n64 (limb RD 0))).setCell ⟨g8, 1, none⟩ (n64 (limb RD 1))).setCell ⟨g8, 2, none⟩ (n64 (limb RD 2))).setCell ⟨g8, 3, none⟩ (n64 (limb RD 3))) := by
              iterate 4 (refine Below.setCell ?_ (by simp <;> omega) _)
              exact HKz.out
            have T8 := (((F7z.out.far (p := ⟨g8, 0, none⟩) (by simp <;> omega) (n64 (limb RD 0))).far (p := ⟨g8, 1, none⟩) (by simp <;> omega) (n64 (limb RD 1))).far (p := ⟨g8, 2, none⟩) (by simp <;> omega) (n64 (limb RD 2))).far (p := ⟨g8, 3, none⟩) (by simp <;> omega) (n64 (limb RD 3))
            have R8 := (((FRz.out.far (p := ⟨g8, 0, none⟩) (by simp <;> omega) (n64 (limb RD 0))).far (p := ⟨g8, 1, none⟩) (by simp <;> omega) (n64 (limb RD 1))).far (p := ⟨g8, 2, none⟩) (by simp <;> omega) (n64 (limb RD 2))).far (p := ⟨g8, 3, none⟩) (by simp <;> omega) (n64 (limb RD 3))
            rw [hz1] at hk8 T8 R8
            have Hk8 := Lib.hid hk8; have HT8 := Lib.hid T8; have HR8 := Lib.hid R8
            have s0' : ((((y29.setCell ⟨g7, 0, none⟩ (n64 (limb QD 0))).setCell ⟨g7, 1, none⟩ (n64 (limb QD 1))).setCell ⟨g7, 2, none⟩ (n64 (limb QD 2))).setCell ⟨g7, 3, none⟩ (n64 (limb QD 3))).cell? ⟨g8, 0, none⟩ = some (.int .u64 0) := by rw [← hz1]; exact F8z.out.cell 0
            have s1' : ((((y29.setCell ⟨g7, 0, none⟩ (n64 (limb QD 0))).setCell ⟨g7, 1, none⟩ (n64 (limb QD 1))).setCell ⟨g7, 2, none⟩ (n64 (limb QD 2))).setCell ⟨g7, 3, none⟩ (n64 (limb QD 3))).cell? ⟨g8, 1, none⟩ = some (.int .u64 0) := by rw [← hz1]; exact F8z.out.cell 1
            have s2' : ((((y29.setCell ⟨g7, 0, none⟩ (n64 (limb QD 0))).setCell ⟨g7, 1, none⟩ (n64 (limb QD 1))).setCell ⟨g7, 2, none⟩ (n64 (limb QD 2))).setCell ⟨g7, 3, none⟩ (n64 (limb QD 3))).cell? ⟨g8, 2, none⟩ = some (.int .u64 0) := by rw [← hz1]; exact F8z.out.cell 2
            have s3' : ((((y29.setCell ⟨g7, 0, none⟩ (n64 (limb QD 0))).setCell ⟨g7, 1, none⟩ (n64 (limb QD 1))).setCell ⟨g7, 2, none⟩ (n64 (limb QD 2))).setCell ⟨g7, 3, none⟩ (n64 (limb QD 3))).cell? ⟨g8, 3, none⟩ = some (.int .u64 0) := by rw [← hz1]; exact F8z.out.cell 3
            clear hb8 hk8 T8 R8 hz1 F7z F8z FRz HKz z1
            have gw : w.heap.size < g7 := by omega
            go_wp2
            go_meet
            exact ⟨g7, rfl, gw, HT8, HR8, Hk8⟩
          · simp only [pick_cons, pick_nil, nth_zero, nth_succ]
            refine fc_step rfl (fun K hK => ?_)
            go_simp
            refine hK _ _ (keep_new _ _) ?_
            clear hK K
            obtain ⟨y30, hy⟩ : ∃ y30, y30 = y27.alloc (.cells #[.int .u64 0, .int .u64 0, .int .u64 0, .int .u64 0] 42) := ⟨_, rfl⟩
            have F7 : Hid (Blk y30 y27.heap.size 42 #[.int .u64 0, .int .u64 0, .int .u64 0, .int .u64 0].toList) := by rw [hy]; exact Blk.new y27 _ #[.int .u64 0, .int .u64 0, .int .u64 0, .int .u64 0].toList
            have hk : Keep y27 y30 := by rw [hy]; exact keep_new _ _
            rw [← hy]
            clear hy
            have F7s : y27.heap.size < y30.heap.size := F7.out.lt
            have F7n := Q.out.size
            replace Q := Lib.hid (keep_trans Q.out hk)
            have hs_y30 : y27.heap.size ≤ y30.heap.size := hk.size
            replace FT := Lib.hid (FT.out.keep hk)
            replace FN := Lib.hid (FN.out.keep hk)
            replace FR := Lib.hid (FR.out.keep hk)
            replace F8 := Lib.hid (F8.out.keep hk)
            clear hk
            generalize hp : y27.heap.size = g7 at *
            have F7a : y27.heap.size ≤ g7 := Nat.le_of_eq hp
            have F7b : g7 ≤ y27.heap.size := Nat.le_of_eq hp.symm
            clear hp
            refine fc_nil (mt_force ?_)
            simp only [pick_cons, pick_nil, nth_zero, nth_succ]
            refine fc_step rfl (fun K hK => ?_)
            go_simp
            (with_reducible refine (DV.out _).mono ?_)
            rintro e y31 ⟨rfl, hk⟩
            refine hK _ _ hk ?_
            clear hK K
            have HQ3 : wq.heap.size ≤ y30.heap.size := Q.out.size
            have Hprev := Q
            replace Q := Lib.hid (keep_trans Q.out hk)
            have hs_y31 : y30.heap.size ≤ y31.heap.size := hk.size
            replace FT := Lib.hid (FT.out.keep hk)
            replace FN := Lib.hid (FN.out.keep hk)
            replace FR := Lib.hid (FR.out.keep hk)
            replace F8 := Lib.hid (F8.out.keep hk)
            replace F7 := Lib.hid (F7.out.keep hk)
            clear hk
            refine fc_nil (mt_take y31 (Below.refl _ _) ?_)
            simp only [pick_cons, pick_nil, nth_zero, nth_succ]
            repeat (go_big_quiet_step (fail))
            refine wpQuiet_nil (mt_end ?_)
            have r0 := F7.out.cell 0; have r1 := F7.out.cell 1; have r2 := F7.out.cell 2; have r3 := F7.out.cell 3
            have s0 := F8.out.cell 0; have s1 := F8.out.cell 1; have s2 := F8.out.cell 2; have s3 := F8.out.cell 3
            simp only [List.getElem?_cons_zero, List.getElem?_cons_succ] at r0 r1 r2 r3 s0 s1 s2 s3
            have f0 := F7.out.frozen 0; have f1 := F7.out.frozen 1; have f2 := F7.out.frozen 2; have f3 := F7.out.frozen 3
            have e0 := F8.out.frozen 0; have e1 := F8.out.frozen 1; have e2 := F8.out.frozen 2; have e3 := F8.out.frozen 3
            have g1 := Q.out.size
            obtain ⟨z1, hz1⟩ : ∃ z1, z1 = ((((y31.setCell ⟨g7, 0, none⟩ (n64 (limb QD 0))).setCell ⟨g7, 1, none⟩ (n64 (limb QD 1))).setCell ⟨g7, 2, none⟩ (n64 (limb QD 2))).setCell ⟨g7, 3, none⟩ (n64 (limb QD 3))) := ⟨_, rfl⟩
            have F7z : Hid (Blk z1 g7 42 (uL QD)) := by rw [hz1]; exact Lib.hid ((((F7.out.set_ 0 _).set_ 1 _).set_ 2 _).set_ 3 _)
            have F8z : Hid (Blk z1 g8 42 #[.int .u64 0, .int .u64 0, .int .u64 0, .int .u64 0].toList) := by rw [hz1]; exact Lib.hid ((((F8.out.far (by simp <;> omega) _).far (by simp <;> omega) _).far (by simp <;> omega) _).far (by simp <;> omega) _)
            have FRz : Hid (Blk z1 w.heap.size 42 [.int .u64 0, .int .u64 0, .int .u64 0, .int .u64 0]) := by rw [hz1]; exact Lib.hid ((((FR.out.far (by simp <;> omega) _).far (by simp <;> omega) _).far (by simp <;> omega) _).far (by simp <;> omega) _)
            have HKz : Hid (Keep w z1) := by
              rw [hz1]
              refine Lib.hid ?_
              iterate 4 (refine Below.setCell ?_ (by simp <;> omega) _)
              exact keep_trans HK4.out Q.out
            have hb8 := (((F8z.out.set_ 0 (n64 (limb RD 0))).set_ 1 (n64 (limb RD 1))).set_ 2 (n64 (limb RD 2))).set_ 3 (n64 (limb RD 3))
            have hk8 : Keep w ((((z1.setCell ⟨g8, 0, none⟩ (n64 (limb RD 0))).setCell ⟨g8, 1, none⟩ (n64 (limb RD 1))).setCell ⟨g8, 2, none⟩ (n64 (limb RD 2))).setCell ⟨g8, 3, none⟩ (n64 (limb RD 3))) := by
              iterate 4 (refine Below.setCell ?_ (by simp <;> omega) _)
              exact HKz.out
            have T8 := (((F7z.out.far (p := ⟨g8, 0, none⟩) (by simp <;> omega) (n64 (limb RD 0))).far (p := ⟨g8, 1, none⟩) (by simp <;> omega) (n64 (limb RD 1))).far (p := ⟨g8, 2, none⟩) (by simp <;> omega) (n64 (limb RD 2))).far (p := ⟨g8, 3, none⟩) (by simp <;> omega) (n64 (limb RD 3))
            have R8 := (((FRz.out.far (p := ⟨g8, 0, none⟩) (by simp <;> omega) (n64 (limb RD 0))).far (p := ⟨g8, 1, none⟩) (by simp <;> omega) (n64 (limb RD 1))).far (p := ⟨g8, 2, none⟩) (by simp <;> omega) (n64 (limb RD 2))).far (p := ⟨g8, 3, none⟩) (by simp <;> omega) (n64 (limb RD 3))
            rw [hz1] at hk8 T8 R8
            have Hk8 := Lib.hid hk8; have HT8 := Lib.hid T8; have HR8 := Lib.hid R8
            have s0' : ((((y31.setCell ⟨g7, 0, none⟩ (n64 (limb QD 0))).setCell ⟨g7, 1, none⟩ (n64 (limb QD 1))).setCell ⟨g7, 2, none⟩ (n64 (limb QD 2))).setCell ⟨g7, 3, none⟩ (n64 (limb QD 3))).cell? ⟨g8, 0, none⟩ = some (.int .u64 0) := by rw [← hz1]; exact F8z.out.cell 0
            have s1' : ((((y31.setCell ⟨g7, 0, none⟩ (n64 (limb QD 0))).setCell ⟨g7, 1, none⟩ (n64 (limb QD 1))).setCell ⟨g7, 2, none⟩ (n64 (limb QD 2))).setCell ⟨g7, 3, none⟩ (n64 (limb QD 3))).cell? ⟨g8, 1, none⟩ = some (.int .u64 0) := by rw [← hz1]; exact F8z.out.cell 1
            have s2' : ((((y31.setCell ⟨g7, 0, none⟩ (n64 (limb QD 0))).setCell ⟨g7, 1, none⟩ (n64 (limb QD 1))).setCell ⟨g7, 2, none⟩ (n64 (limb QD 2))).setCell ⟨g7, 3, none⟩ (n64 (limb QD 3))).cell? ⟨g8, 2, none⟩ = some (.int .u64 0) := by rw [← hz1]; exact F8z.out.cell 2
            have s3' : ((((y31.setCell ⟨g7, 0, none⟩ (n64 (limb QD 0))).setCell ⟨g7, 1, none⟩ (n64 (limb QD 1))).setCell ⟨g7, 2, none⟩ (n64 (limb QD 2))).setCell ⟨g7, 3, none⟩ (n64 (limb QD 3))).cell? ⟨g8, 3, none⟩ = some (.int .u64 0) := by rw [← hz1]; exact F8z.out.cell 3
            clear hb8 hk8 T8 R8 hz1 F7z F8z FRz HKz z1
            have gw : w.heap.size < g7 := by omega
            go_wp2
            go_meet
            exact ⟨g7, rfl, gw, HT8, HR8, Hk8⟩
        · simp only [pick_cons, pick_nil, nth_zero, nth_succ]
          refine fc_step rfl (fun K hK => ?_)
          go_simp
          refine hK _ _ (keep_new _ _) ?_
          clear hK K
          obtain ⟨y32, hy⟩ : ∃ y32, y32 = y26.alloc (.cells #[.int .u64 0, .int .u64 0, .int .u64 0, .int .u64 0] 42) := ⟨_, rfl⟩
          have F7 : Hid (Blk y32 y26.heap.size 42 #[.int .u64 0, .int .u64 0, .int .u64 0, .int .u64 0].toList) := by rw [hy]; exact Blk.new y26 _ #[.int .u64 0, .int .u64 0, .int .u64 0, .int .u64 0].toList
          have hk : Keep y26 y32 := by rw [hy]; exact keep_new _ _
          rw [← hy]
          clear hy
          have F7s : y26.heap.size < y32.heap.size := F7.out.lt
          have F7n := Q.out.size
          replace Q := Lib.hid (keep_trans Q.out hk)
          have hs_y32 : y26.heap.size ≤ y32.heap.size := hk.size
          replace FT := Lib.hid (FT.out.keep hk)
          replace FN := Lib.hid (FN.out.keep hk)
          replace FR := Lib.hid (FR.out.keep hk)
          replace F8 := Lib.hid (F8.out.keep hk)
          clear hk
          generalize hp : y26.heap.size = g7 at *
          have F7a : y26.heap.size ≤ g7 := Nat.le_of_eq hp
          have F7b : g7 ≤ y26.heap.size := Nat.le_of_eq hp.symm
          clear hp
          refine fc_nil (mt_force ?_)
          simp only [pick_cons, pick_nil, nth_zero, nth_succ]
          refine fc_step rfl (fun K hK => ?_)
          go_simp
          (with_reducible refine (NT.out _).mono ?_)
          rintro e y33 ⟨rfl, hk⟩
          refine hK _ _ hk ?_
          clear hK K
          have HQ1 : wq.heap.size ≤ y32.heap.size := Q.out.size
          have Hprev := Q
          replace Q := Lib.hid (keep_trans Q.out hk)
          have hs_y33 : y32.heap.size ≤ y33.heap.size := hk.size
          replace FT := Lib.hid (FT.out.keep hk)
          replace FN := Lib.hid (FN.out.keep hk)
          replace FR := Lib.hid (FR.out.keep hk)
          replace F8 := Lib.hid (F8.out.keep hk)
          replace F7 := Lib.hid (F7.out.keep hk)
          clear hk
          refine fc_step rfl (fun K hK => ?_)
          go_simp
          (with_reducible refine (DV.out _).mono ?_)
          rintro e y34 ⟨rfl, hk⟩
          refine hK _ _ hk ?_
          clear hK K
          have HQ3 : wq.heap.size ≤ y33.heap.size := Q.out.size
          have Hprev := Q
          replace Q := Lib.hid (keep_trans Q.out hk)
          have hs_y34 : y33.heap.size ≤ y34.heap.size := hk.size
          replace FT := Lib.hid (FT.out.keep hk)
          replace FN := Lib.hid (FN.out.keep hk)
          replace FR := Lib.hid (FR.out.keep hk)
          replace F8 := Lib.hid (F8.out.keep hk)
          replace F7 := Lib.hid (F7.out.keep hk)
          clear hk
          refine fc_nil (mt_take y34 (Below.refl _ _) ?_)
          simp only [pick_cons, pick_nil, nth_zero, nth_succ]
          repeat (go_big_quiet_step (fail))
          refine wpQuiet_nil (mt_end ?_)
          have r0 := F7.out.cell 0; have r1 := F7.out.cell 1; have r2 := F7.out.cell 2; have r3 := F7.out.cell 3
          have s0 := F8.out.cell 0; have s1 := F8.out.cell 1; have s2 := F8.out.cell 2; have s3 := F8.out.cell 3
          simp only [List.getElem?_cons_zero, List.getElem?_cons_succ] at r0 r1 r2 r3 s0 s1 s2 s3
          have f0 := F7.out.frozen 0; have f1 := F7.out.frozen 1; have f2 := F7.out.frozen 2; have f3 := F7.out.frozen 3
          have e0 := F8.out.frozen 0; have e1 := F8.out.frozen 1; have e2 := F8.out.frozen 2; have e3 := F8.out.frozen 3
          have g1 := Q.out.size
          obtain ⟨z1, hz1⟩ : ∃ z1, z1 = ((((y34.setCell ⟨g7, 0, none⟩ (n64 (limb QD 0))).setCell ⟨g7, 1, none⟩ (n64 (limb QD 1))).setCell ⟨g7, 2, none⟩ (n64 (limb QD 2))).setCell ⟨g7, 3, none⟩ (n64 (limb QD 3))) := ⟨_, rfl⟩
          have F7z : Hid (Blk z1 g7 42 (uL QD)) := by rw [hz1]; exact Lib.hid ((((F7.out.set_ 0 _).set_ 1 _).set_ 2 _).set_ 3 _)
          have F8z : Hid (Blk z1 g8 42 #[.int .u64 0, .int .u64 0, .int .u64 0, .int .u64 0].toList) := by rw [hz1]; exact Lib.hid ((((F8.out.far (by simp <;> omega) _).far (by simp <;> omega) _).far (by simp <;> omega) _).far (by simp <;> omega) _)
          have FRz : Hid (Blk z1 w.heap.size 42 [.int .u64 0, .int .u64 0, .int .u64 0, .int .u64 0]) := by rw [hz1]; exact Lib.hid ((((FR.out.far (by simp <;> omega) _).far (by simp <;> omega) _).far (by simp <;> omega) _).far (by simp <;> omega) _)
          have HKz : Hid (Keep w z1) := by
            rw [hz1]
            refine Lib.hid ?_
            iterate 4 (refine Below.setCell ?_ (by simp <;> omega) _)
            exact keep_trans HK4.out Q.out
          have hb8 := (((F8z.out.set_ 0 (n64 (limb RD 0))).set_ 1 (n64 (limb RD 1))).set_ 2 (n64 (limb RD 2))).set_ 3 (n64 (limb RD 3))
          have hk8 : Keep w ((((z1.setCell ⟨g8, 0, none⟩ (n64 (limb RD 0))).setCell ⟨g8, 1, none⟩ (n64 (limb RD 1))).setCell ⟨g8, 2, none⟩ (n64 (limb RD 2))).setCell ⟨g8, 3, none⟩ (n64 (limb RD 3))) := by
            iterate 4 (refine Below.setCell ?_ (by simp <;> omega) _)
            exact HKz.out
          have T8 := (((F7z.out.far (p := ⟨g8, 0, none⟩) (by simp <;> omega) (n64 (limb RD 0))).far (p := ⟨g8, 1, none⟩) (by simp <;> omega) (n64 (limb RD 1))).far (p := ⟨g8, 2, none⟩) (by simp <;> omega) (n64 (limb RD 2))).far (p := ⟨g8, 3, none⟩) (by simp <;> omega) (n64 (limb RD 3))
          have R8 := (((FRz.out.far (p := ⟨g8, 0, none⟩) (by simp <;> omega) (n64 (limb RD 0))).far (p := ⟨g8, 1, none⟩) (by simp <;> omega) (n64 (limb RD 1))).far (p := ⟨g8, 2, none⟩) (by simp <;> omega) (n64 (limb RD 2))).far (p := ⟨g8, 3, none⟩) (by simp <;> omega) (n64 (limb RD 3))
          rw [hz1] at hk8 T8 R8
          have Hk8 := Lib.hid hk8; have HT8 := Lib.hid T8; have HR8 := Lib.hid R8
          have s0' : ((((y34.setCell ⟨g7, 0, none⟩ (n64 (limb QD 0))).setCell ⟨g7, 1, none⟩ (n64 (limb QD 1))).setCell ⟨g7, 2, none⟩ (n64 (limb QD 2))).setCell ⟨g7, 3, none⟩ (n64 (limb QD 3))).cell? ⟨g8, 0, none⟩ = some (.int .u64 0) := by rw [← hz1]; exact F8z.out.cell 0
          have s1' : ((((y34.setCell ⟨g7, 0, none⟩ (n64 (limb QD 0))).setCell ⟨g7, 1, none⟩ (n64 (limb QD 1))).setCell ⟨g7, 2, none⟩ (n64 (limb QD 2))).setCell ⟨g7, 3, none⟩ (n64 (limb QD 3))).cell? ⟨g8, 1, none⟩ = some (.int .u64 0) := by rw [← hz1]; exact F8z.out.cell 1
          have s2' : ((((y34.setCell ⟨g7, 0, none⟩ (n64 (limb QD 0))).setCell ⟨g7, 1, none⟩ (n64 (limb QD 1))).setCell ⟨g7, 2, none⟩ (n64 (limb QD 2))).setCell ⟨g7, 3, none⟩ (n64 (limb QD 3))).cell? ⟨g8, 2, none⟩ = some (.int .u64 0) := by rw [← hz1]; exact F8z.out.cell 2
          have s3' : ((((y34.setCell ⟨g7, 0, none⟩ (n64 (limb QD 0))).setCell ⟨g7, 1, none⟩ (n64 (limb QD 1))).setCell ⟨g7, 2, none⟩ (n64 (limb QD 2))).setCell ⟨g7, 3, none⟩ (n64 (limb QD 3))).cell? ⟨g8, 3, none⟩ = some (.int .u64 0) := by rw [← hz1]; exact F8z.out.cell 3
          clear hb8 hk8 T8 R8 hz1 F7z F8z FRz HKz z1
          have gw : w.heap.size < g7 := by omega
          go_wp2
          go_meet
          exact ⟨g7, rfl, gw, HT8, HR8, Hk8⟩
    case rest =>
      obtain ⟨g7, rfl, hg7, HQ5, HR5, HK5⟩ := hcut
      clear HT4 HN4 HR4 HK4 NT DV
      go_upto_region 8 with fail
      refine wp_region_tree (.take [0] (.force [1,2] (.take [3,4,5] .done))) [6] (by kernel_rfl) (by kernel_rfl) (fun w6 k6 => ?_)
      have HQ6 := Lib.hid (HQ5.out.keep k6)
      have HR6 := Lib.hid (HR5.out.keep k6)
      have HK6 := Lib.hid (keep_trans HK5.out k6)
      clear k6 HQ5 HR5 HK5
      have t0 := aft_cell (HQ6.out.cell 0); have t1 := aft_cell (HQ6.out.cell 1); have t2 := aft_cell (HQ6.out.cell 2); have t3 := aft_cell (HQ6.out.cell 3)
      refine mt_take w6 (Below.refl _ _) ?_
      simp only [pick_cons, pick_nil, nth_zero, nth_succ]
      repeat (go_big_quiet_step (fail))
      clear t0 t1 t2 t3
      refine wpQuiet_nil (mt_force ?_)
      simp only [pick_cons, pick_nil, nth_zero, nth_succ]
      refine fc_step rfl (fun K hK => ?_)
      go_simp
      (with_reducible refine (OF.out _).mono ?_)
      rintro e w7 ⟨rfl, k7⟩
      refine hK _ _ k7 ?_
      clear hK K
      have HQ7 := Lib.hid (HQ6.out.keep k7)
      have HR7 := Lib.hid (HR6.out.keep k7)
      have HK7 := Lib.hid (keep_trans HK6.out k7)
      clear k7 HQ6 HR6 HK6
      refine fc_step rfl (fun K hK => ?_)
      go_simp
      (with_reducible refine (A2.out _).mono ?_)
      rintro e w8 ⟨bb, rfl, k8⟩
      refine hK _ _ k8 ?_
      clear hK K
      have HQ8 := Lib.hid (HQ7.out.keep k8)
      have HR8 := Lib.hid (HR7.out.keep k8)
      have HK8 := Lib.hid (keep_trans HK7.out k8)
      clear k8 HQ7 HR7 HK7
      refine fc_nil (mt_take w8 (Below.refl _ _) ?_)
      simp only [pick_cons, pick_nil, nth_zero, nth_succ]
      repeat (go_big_quiet_step (fail))
      refine wpQuiet_nil (mt_end ?_)
      have t0 := HQ8.out.cell 0; have t1 := HQ8.out.cell 1; have t2 := HQ8.out.cell 2; have t3 := HQ8.out.cell 3
      simp only [uL, List.getElem?_cons_zero, List.getElem?_cons_succ] at t0 t1 t2 t3
      have f0 := HQ8.out.frozen 0; have f1 := HQ8.out.frozen 1; have f2 := HQ8.out.frozen 2; have f3 := HQ8.out.frozen 3
      go_upto_region 9 with fail
      obtain ⟨w9, hw9⟩ : ∃ w9, w9 = ((((w8.setCell ⟨g7, 0, none⟩ (n64 (limb R 0))).setCell ⟨g7, 1, none⟩ (n64 (limb R 1))).setCell ⟨g7, 2, none⟩ (n64 (limb R 2))).setCell ⟨g7, 3, none⟩ (n64 (limb R 3))) := ⟨_, rfl⟩
      have HQ9 : Hid (Blk w9 g7 42 (uL R)) := by rw [hw9]; exact Lib.hid ((((HQ8.out.set_ 0 _).set_ 1 _).set_ 2 _).set_ 3 _)
      have HR9 : Hid (Blk w9 w.heap.size 42 [.int .u64 0, .int .u64 0, .int .u64 0, .int .u64 0]) := by rw [hw9]; exact Lib.hid ((((HR8.out.far (by simp <;> omega) _).far (by simp <;> omega) _).far (by simp <;> omega) _).far (by simp <;> omega) _)
      have HK9 : Hid (Keep w w9) := by
        rw [hw9]
        refine Lib.hid ?_
        iterate 4 (refine Below.setCell ?_ (by simp <;> omega) _)
        exact HK8.out
      rw [← hw9]
      clear hw9 t0 t1 t2 t3 f0 f1 f2 f3 HQ8 HR8 HK8 OF A2
      have t0 := HQ9.out.cell 0; have t1 := HQ9.out.cell 1; have t2 := HQ9.out.cell 2; have t3 := HQ9.out.cell 3
      simp only [uL, List.getElem?_cons_zero, List.getElem?_cons_succ] at t0 t1 t2 t3
      have r0 := HR9.out.cell 0; have r1 := HR9.out.cell 1; have r2 := HR9.out.cell 2; have r3 := HR9.out.cell 3
      simp only [List.getElem?_cons_zero, List.getElem?_cons_succ] at r0 r1 r2 r3
      have f0 := HR9.out.frozen 0; have f1 := HR9.out.frozen 1; have f2 := HR9.out.frozen 2; have f3 := HR9.out.frozen 3
      have hb8 := (((HR9.out.set_ 0 (n64 (limb R 0))).set_ 1 (n64 (limb R 1))).set_ 2 (n64 (limb R 2))).set_ 3 (n64 (limb R 3))
      have HK8 : Hid (Keep w ((((w9.setCell ⟨w.heap.size, 0, none⟩ (n64 (limb R 0))).setCell ⟨w.heap.size, 1, none⟩ (n64 (limb R 1))).setCell ⟨w.heap.size, 2, none⟩ (n64 (limb R 2))).setCell ⟨w.heap.size, 3, none⟩ (n64 (limb R 3)))) := by
        refine Lib.hid ?_
        iterate 4 (refine Below.setCell ?_ (by simp) _)
        exact HK9.out
      have Hb8 := Lib.hid hb8
      clear hb8
      go_wp2
      exact bodyPost_ret (v := uV R) (results_cell_row Tryz.results38 _ _ w.heap.size _ _ _ _ rfl Hb8.out Tryz.underlying42 rfl (by kernel_rfl)) rfl ⟨rfl, HK8.out⟩
end Go.Proofs.YtjbdboekleaklaaGreatDoor

/- A slice of one built; lists of 32. -/
set_option linter.unusedSimpArgs false
set_option linter.unusedVariables false
namespace Go.Proofs.YtjbdboekleaklaaGreatDoor
open Go.RowKit
attribute [local go_sem ↓] Go.wp_at_zero Go.wp_at_succ

theorem foldl_setb : ∀ (l : List Value) (k : Nat) (acc : Array Value), k + l.length = acc.size → (l.zipIdx k).foldl (fun cs x => cs.setIfInBounds (0 + x.2) x.1) acc = (acc.toList.take k ++ l).toArray
  | [], k, acc, h => by
    have : acc.toList.take k = acc.toList := List.take_of_length_le (by simp at h ⊢; omega)
    simp [this]
  | v :: r, k, acc, h => by
    rw [List.zipIdx_cons, List.foldl_cons, foldl_setb r (k + 1) _ (by simp at h ⊢; omega)]
    have hk : k < acc.size := by simp at h; omega
    congr 1
    rw [Array.toList_setIfInBounds, Nat.zero_add, List.take_succ_eq_append_getElem (by simpa using hk), List.getElem_set_self, List.take_set_of_le (Nat.le_refl _)]
    simp
/-- A slice of one struct is built. -/
theorem wp_build1b {P : Program} {t e : TypeId} {zc : Array Value} {size bytes : Nat} (T : ElT P t e (.agg zc) size bytes) {o : Oper} {a : Act} {w : World} {K : Act → World → Prop} {Q : Exit → Act → World → Prop} (x : Operand) (ho : o.op = .buildSlice t 1 #[(0, x)])
    (cs : Array Value) (hz : cs.size = size) (hsm : size ≤ 1000) (hx : a.eval x = .agg cs)
    (h : K (a.put o.dst (.slice (some ⟨w.heap.size, 0, none⟩) 1 1)) (w.alloc (.cells cs e))) : o.wp P a w K Q := by
  obtain ⟨i, hi, hiz, his, _⟩ := T.info
  have hzc : zc.size = size := T.zs
  have hp := T.pos
  refine wp_buildSlice t e 1 _ ho cs i (.agg zc) T.und hi hiz (by rw [his]; omega) (by rw [his]; omega) ?_ h
  have hc : (Value.agg cs).cells = cs := rfl
  simp only [List.map_toArray, List.map_cons, List.map_nil, hx, Instr.fill, hc, his, hz, Nat.zero_mul, Nat.one_mul]
  rw [if_neg (by simp)]
  congr 1
  rw [← Array.foldl_toList, Array.toList_zipIdx]
  have hf := foldl_setb cs.toList 0 ((Array.range size).map fun j => zc[j % zc.size]!) (by simp [hz])
  simp only [List.take_zero, List.nil_append, Array.toArray_toList] at hf
  exact hf

set_option maxRecDepth 100000 in
theorem headTb : ElT Tryz.prog 22 39 (Value.agg zhead) 68 80 := ElT.mk' Tryz.underlying22 (by kernel_rfl) zhead_size (by omega)
set_option maxRecDepth 100000 in
theorem list32b {l : List UInt8} (h : l.length = 32) : ∃ a0 a1 a2 a3 a4 a5 a6 a7 a8 a9 b0 b1 b2 b3 b4 b5 b6 b7 b8 b9 c0 c1 c2 c3 c4 c5 c6 c7 c8 c9 d0 d1 : UInt8, l = [a0, a1, a2, a3, a4, a5, a6, a7, a8, a9, b0, b1, b2, b3, b4, b5, b6, b7, b8, b9, c0, c1, c2, c3, c4, c5, c6, c7, c8, c9, d0, d1] := by
  match l, h with
  | [a0, a1, a2, a3, a4, a5, a6, a7, a8, a9, b0, b1, b2, b3, b4, b5, b6, b7, b8, b9, c0, c1, c2, c3, c4, c5, c6, c7, c8, c9, d0, d1], _ => exact ⟨a0, a1, a2, a3, a4, a5, a6, a7, a8, a9, b0, b1, b2, b3, b4, b5, b6, b7, b8, b9, c0, c1, c2, c3, c4, c5, c6, c7, c8, c9, d0, d1, rfl⟩
end Go.Proofs.YtjbdboekleaklaaGreatDoor

/- rules.Check. -/
set_option linter.unusedSimpArgs false
set_option linter.unusedVariables false
namespace Go.Proofs.YtjbdboekleaklaaGreatDoor
open Go.RowKit
attribute [local go_sem ↓] Go.wp_at_zero Go.wp_at_succ

def lastH (l : List Hd) : Hd := l.getD (l.length - 1) hd0
def checkR (p : Par) (l : List Hd) (h : Hd) (now : Int) : Int :=
  if saneR p = false ∨ l.length = 0 then 15
  else if (h.prev == idL (lastH l)) = false then 9
  else if (h.bits.toNat == (chainR p l).toNat) = false then 7
  else if meetN (leN (idL h)) h.bits p.limit ≠ 0 then meetN (leN (idL h)) h.bits p.limit
  else if chkI h.time (l.map Hd.time) now p.fut ≠ 0 then chkI h.time (l.map Hd.time) now p.fut
  else passR p l.length (idL h)

theorem hd_prevr {h : Hd} (hk : h.ok) {pv : Array Value} (hp : HashA h.prev pv) {w : World} {g : Nat} {t : TypeId} {cs : Array Value} (hb : Blk w g t cs.toList) (hcs : HdA h cs) : w.rangeAt g 1 pv.toList := by
  refine range_of hb 1 pv.toList ?_
  rw [hp.l, hcs.l]
  simp [Hd.cells, hk.1]
theorem lastH_eq {l : List Hd} (h : l.length - 1 < l.length) : lastH l = l[l.length - 1] := by
  unfold lastH
  simp [List.getD_eq_getElem?_getD, List.getElem?_eq_getElem h]

set_option maxRecDepth 100000 in
set_option maxHeartbeats 4000000 in
theorem check_hd (p : Par) (A : Option Addr) (c : Nat) (B : Option Addr) (l : List Hd) (d : Nat) (h : Hd) (cs : Array Value) (now : Int) (w : World) (hS : ShaOk w) (hC : Chks p A w)
    (hl : l.length ≤ 100) (hd : l.length ≤ d) (hdm : d ≤ maxLen) (hr : Rd w B (l.flatMap Hd.cells)) (hk : ∀ h ∈ l, h.ok) (ho : h.ok) (hcs : HdA h cs) :
    Calls Tryz.prog 36 #[parV p A c, .slice B l.length d, .agg cs, iv now] w fun e w' => e = .returned (iv (checkR p l h now)) ∧ Keep w w' := by
  have S1 : Hid (∀ y, Calls Tryz.prog 42 #[parV p A c] y fun e w' => e = .returned (.bool (saneR p)) ∧ Keep y w') := Lib.hid fun y => sane_any p A c y
  have HR : Hid (∀ r, checkR p l h now = r → r = if saneR p = false ∨ l.length = 0 then 15 else if (h.prev == idL (lastH l)) = false then 9 else if (h.bits.toNat == (chainR p l).toNat) = false then 7 else if meetN (leN (idL h)) h.bits p.limit ≠ 0 then meetN (leN (idL h)) h.bits p.limit else if chkI h.time (l.map Hd.time) now p.fut ≠ 0 then chkI h.time (l.map Hd.time) now p.fut else passR p l.length (idL h)) := Lib.hid fun r e => by subst e; rfl
  replace HR := Lib.hid (HR.out _ rfl)
  have I1 : Hid (∀ y, Keep w y → ∀ xs, HdA (lastH l) xs → l.length ≠ 0 → Calls Tryz.prog 21 #[.agg xs] y fun e w' => ∃ ds, e = .returned (.agg ds) ∧ HashA (idL (lastH l)) ds ∧ Keep y w') := Lib.hid fun y hy xs hx h0 => id_any _ xs y (hS.keep hy) (by rw [lastH_eq (by omega)]; exact hk _ (List.getElem_mem _)) hx
  have HAT : Hid (l.length ≠ 0 → ∃ b off, B = some ⟨b, off, none⟩ ∧ ∃ xs, HdA (lastH l) xs ∧ w.rangeAt b (off + (l.length - 1) * 68) xs.toList) := Lib.hid fun h0 => by
    have hlt : l.length - 1 < l.length := by omega
    obtain ⟨b, off, h1, -, h2⟩ := heads_at hr hk hlt
    have hx := HdA.of (hk _ (List.getElem_mem hlt))
    refine ⟨b, off, h1, _, by rw [lastH_eq hlt]; exact hx, ?_⟩
    exact h2
  have C1 : Hid (∀ y, Keep w y → Calls Tryz.prog 44 #[parV p A c, .slice B l.length d] y fun e w' => e = .returned (u32v (chainR p l)) ∧ Keep y w') := Lib.hid fun y hy => chain_any p A c B l d y (by omega) hd (hr.keep hy) hk
  have I2 : Hid (∀ y, Keep w y → Calls Tryz.prog 21 #[.agg cs] y fun e w' => ∃ ds, e = .returned (.agg ds) ∧ HashA (idL h) ds ∧ Keep y w') := Lib.hid fun y hy => id_any h cs y (hS.keep hy) ho hcs
  have M1 : Hid (∀ y ds, HashA (idL h) ds → Calls Tryz.prog 37 #[.agg ds, u32v h.bits, u32v p.limit] y fun e w' => e = .returned (iv (meetN (leN (idL h)) h.bits p.limit)) ∧ Keep y w') := Lib.hid fun y ds hds => meets_any (idL h) ds h.bits p.limit y (idL_len _) hds
  have T1 : Hid (∀ y, Keep w y → Calls Tryz.prog 47 #[.slice B l.length d] y (Lasted y.heap.size (l.map Hd.time) y)) := Lib.hid fun y hy => times_hd B l d y hl (hr.keep hy) hk
  have hml : (l.map Hd.time).length ≤ 100 := by simpa using hl
  have K1 : Hid (∀ y base v, y.ownsRow base 37 1 v (l.map Hd.time).length ((l.map Hd.time).map u32v) → Calls Tryz.prog 46 #[u32v h.time, v, iv now, iv p.fut] y fun e w' => e = .returned (iv (chkI h.time (l.map Hd.time) now p.fut)) ∧ Keep y w') := Lib.hid fun y base v hv => by
    obtain ⟨Av, cv, rfl, hcv, hmv, hrv⟩ := own_form hv
    exact check_any h.time Av _ cv now p.fut y hcv hmv (own_rd hv)
  have P1 : Hid (∀ y, Keep w y → ∀ ds, HashA (idL h) ds → Calls Tryz.prog 43 #[parV p A c, iv l.length, .agg ds] y fun e w' => e = .returned (iv (passR p l.length (idL h))) ∧ Keep y w') := Lib.hid fun y hy ds hds => passes_any p A c l.length (idL h) ds y (hC.keep hy) (idL_len _) hds
  obtain ⟨pv, hpv⟩ : ∃ pv, HashA h.prev pv := ⟨_, HashA.of ho.1⟩
  have HT := Lib.hid (hd_time ho); have HBt := Lib.hid (hd_bits ho)
  have HPV : Hid (∀ y g t, Blk y g t cs.toList → y.rangeAt g 1 pv.toList) := Lib.hid fun y g t hb => hd_prevr ho hpv hb hcs
  have HL1 := Lib.hid ho.1
  have HL2 : Hid ((idL (lastH l)).length = 32) := Lib.hid (idL_len _)
  have hcz := hcs.z; have hcn := hcs.n; have hci := hcs.i
  have hpz := hpv.z; have hpn := hpv.n; have hpi := hpv.i
  rw [← hcs.l] at HT HBt
  have Hpv := Lib.hid hpv
  have HL3 : Hid ((idL h).length = 32) := Lib.hid (idL_len _)
  clear hpv hcs ho hk hr hC hS hml hdm
  generalize checkR p l h now = R at *
  generalize idL h = HI at *
  generalize h.prev = PV at *
  generalize meetN (leN HI) h.bits p.limit = M at *
  generalize passR p l.length HI = PR at *
  generalize chainR p l = CR at *
  generalize idL (lastH l) = LI at *
  generalize lastH l = LH at *
  generalize chkI h.time (l.map Hd.time) now p.fut = CI at *
  generalize l.map Hd.time = ts at *
  generalize l.length = n at *
  generalize h.bits = bits at *
  generalize h.time = tm at *
  generalize saneR p = S at *
  unfold parV at *
  generalize p.limit = limit at *
  generalize p.itv = itv at *
  generalize p.span = span at *
  generalize p.fut = fut at *
  generalize p.idx = idx at *
  generalize p.orp = orp at *
  generalize hm : p.chks.length = m at *
  clear hm
  clear p
  go_enter Tryz.func36, Tryz.ntmps36
  go_upto_region 1 with fail
  obtain ⟨w1, hw1⟩ : ∃ w1, w1 = (w.alloc (.cells #[u32v limit, iv itv, iv span, iv fut, iv idx, iv orp, .slice A m c] 64)).alloc (.cells cs 39) := ⟨_, rfl⟩
  have HP1 : Hid (Blk w1 w.heap.size 64 [u32v limit, iv itv, iv span, iv fut, iv idx, iv orp, .slice A m c]) := by rw [hw1]; exact Lib.hid ((Blk.new w 64 [u32v limit, iv itv, iv span, iv fut, iv idx, iv orp, .slice A m c]).alloc _)
  have HH1 : Hid (Blk w1 (w.heap.size + 1) 39 cs.toList) := by
    rw [hw1]
    have h2 := Blk.new (w.alloc (.cells #[u32v limit, iv itv, iv span, iv fut, iv idx, iv orp, .slice A m c] 64)) 39 cs.toList
    rw [World.size_alloc] at h2
    exact Lib.hid h2
  have HK1 : Hid (Keep w w1) := by rw [hw1]; exact Lib.hid (keep_trans (keep_new _ _) (keep_new _ _))
  rw [← hw1]
  clear hw1
  have p0 := HP1.out.cell 0
  have p1 := HP1.out.cell 1
  have p2 := HP1.out.cell 2
  have p3 := HP1.out.cell 3
  have p4 := HP1.out.cell 4
  have p5 := HP1.out.cell 5
  have p6 := HP1.out.cell 6
  simp only [List.getElem?_cons_succ, List.getElem?_cons_zero] at p0 p1 p2 p3 p4 p5 p6
  go_wp2_with fail
  refine (S1.out _).mono ?_
  clear S1 p0 p1 p2 p3 p4 p5 p6
  rintro e w2 ⟨rfl, k2⟩
  have HP2 := Lib.hid (HP1.out.keep k2)
  have HH2 := Lib.hid (HH1.out.keep k2)
  have HK2 := Lib.hid (keep_trans HK1.out k2)
  clear HP1 HH1 HK1 k2
  by_cases hs0 : S = false ∨ n = 0
  · have hR := HR.out
    rw [if_pos hs0] at hR
    subst hR
    clear HR HP2 HH2
    cases S with
    | false =>
      go_wp2
      exact bodyPost_ret (v := iv 15) (by simp [results, Tryz.results36]) rfl ⟨rfl, HK2.out⟩
    | true =>
      have h0 : n = 0 := hs0.resolve_left (by simp)
      subst h0
      go_wp2
      exact bodyPost_ret (v := iv 15) (by simp [results, Tryz.results36]) rfl ⟨rfl, HK2.out⟩
  have hR := HR.out
  rw [if_neg hs0] at hR
  replace HR := Lib.hid hR
  have hS : S = true := by cases S with | true => rfl | false => exact absurd (Or.inl rfl) hs0
  have h0 : n ≠ 0 := fun e => hs0 (Or.inr e)
  obtain ⟨b, off, rfl, xs, hxs, hrx⟩ := HAT.out h0
  have Hxs := Lib.hid hxs
  have hxz := hxs.z; have hxn := hxs.n; have hxi := hxs.i
  have I1' : Hid (∀ y, Keep w y → Calls Tryz.prog 21 #[.agg xs] y fun e w' => ∃ ds, e = .returned (.agg ds) ∧ HashA LI ds ∧ Keep y w') := Lib.hid fun y hy => I1.out y hy xs Hxs.out h0
  obtain ⟨j, hj⟩ : ∃ j, n - 1 = j := ⟨_, rfl⟩
  have hj2 : (n : Int) - 1 = j := by omega
  have hjn : j < n := by omega
  rw [hj] at hrx
  have HX := Lib.hid hrx
  have g1 : (n == 0) = false := by simp [h0]
  have g2 : ((n : Int) == 0) = false := by rw [beq_eq_false_iff_ne]; omega
  subst hS
  clear hR hs0 hj hrx hxs HAT I1 Hxs
  go_upto_region 3 with fail
  clear g1 g2
  refine wp_region_tree (.take [0,1,2,3,4,5,6,7] (.force [8] (.take [9] .done))) [] (by kernel_rfl) (by kernel_rfl) (fun w3 k3 => ?_)
  have HP3 := Lib.hid (HP2.out.keep k3)
  have HH3 := Lib.hid (HH2.out.keep k3)
  have HK3 := Lib.hid (keep_trans HK2.out k3)
  have RX : Hid (w3.rangeAt b (off + j * 68) xs.toList) := Lib.hid fun i v hv => keep_cell HK3.out (HX.out i v hv)
  have RP : Hid (w3.rangeAt (w.heap.size + 1) 1 pv.toList) := Lib.hid (HPV.out _ _ _ HH3.out)
  clear HP2 HH2 HK2 k3 HX HPV
  refine mt_take w3 (Below.refl _ _) ?_
  simp only [pick_cons, pick_nil, nth_zero, nth_succ]
  repeat (first
    | ((with_reducible refine wpQuiet_load_partg (w.heap.size + 1) 1 pv (Eq.trans ?_ rfl) RP.out _ Tryz.underlying36 rfl hpi rfl ?_); rfl; simp only [Act.put, Array.set!_eq_setIfInBounds, List.setIfInBounds_toArray, List.set_cons_succ, List.set_cons_zero])
    | ((with_reducible refine wpQuiet_load_partg b (off + j * 68) xs (Eq.trans ?_ rfl) RX.out _ Tryz.underlying39 rfl hxi rfl ?_); rfl; simp only [Act.put, Array.set!_eq_setIfInBounds, List.setIfInBounds_toArray, List.set_cons_succ, List.set_cons_zero])
    | go_big_quiet_step (fail))
  refine wpQuiet_nil (mt_force ?_)
  simp only [pick_cons, pick_nil, nth_zero, nth_succ]
  refine fc_step rfl (fun K hK => ?_)
  go_simp
  (with_reducible refine (I1'.out _ HK3.out).mono ?_)
  rintro e w4 ⟨ds, rfl, hds, k4⟩
  refine hK _ _ k4 ?_
  have heq : ∀ x, (Op.equalIn 10000 36 (.agg pv) (.agg ds)).run Tryz.prog (aft w4 x) = .ok (PV == LI) (aft w4 x) := fun x => hash_in Hpv.out hds HL1.out HL2.out _
  have heq2 : ∀ x, (Go.binOp .neq 36 (.agg pv) (.agg ds)).run Tryz.prog (aft w4 x) = .ok (.bool (!(PV == LI))) (aft w4 x) := fun x => hash_neq Hpv.out hds HL1.out HL2.out _
  have hdz := hds.z; have hdn := hds.n; have hdi := hds.i
  have HP4 := Lib.hid (HP3.out.keep k4)
  have HH4 := Lib.hid (HH3.out.keep k4)
  have HK4 := Lib.hid (keep_trans HK3.out k4)
  clear hK K hds k4 HP3 HH3 HK3 RX RP I1' Hpv HL1 HL2
  obtain ⟨b1, hb1⟩ : ∃ b, (PV == LI) = b := ⟨_, rfl⟩
  rw [hb1] at HR heq heq2
  clear hb1
  refine fc_nil (mt_take w4 (Below.refl _ _) ?_)
  simp only [pick_cons, pick_nil, nth_zero, nth_succ]
  repeat (go_big_quiet_step (fail))
  refine wpQuiet_nil (mt_end ?_)
  clear heq heq2
  cases b1 with
  | false =>
    have hR := HR.out
    rw [if_pos rfl] at hR
    subst hR
    clear HR HP4 HH4
    go_wp2
    exact bodyPost_ret (v := iv 9) (by simp [results, Tryz.results36]) rfl ⟨rfl, HK4.out⟩
  | true =>
  have hR := HR.out
  rw [if_neg (by simp)] at hR
  replace HR := Lib.hid hR
  clear hR
  go_upto_region 5 with fail
  refine wp_region_tree (.take [0,1,2,3] (.force [4] (.take [5] .done))) [] (by kernel_rfl) (by kernel_rfl) (fun w5 k5 => ?_)
  have HP5 := Lib.hid (HP4.out.keep k5)
  have HH5 := Lib.hid (HH4.out.keep k5)
  have HK5 := Lib.hid (keep_trans HK4.out k5)
  have q0 := aft_cell (HP5.out.cell 0)
  have q1 := aft_cell (HP5.out.cell 1)
  have q2 := aft_cell (HP5.out.cell 2)
  have q3 := aft_cell (HP5.out.cell 3)
  have q4 := aft_cell (HP5.out.cell 4)
  have q5 := aft_cell (HP5.out.cell 5)
  have q6 := aft_cell (HP5.out.cell 6)
  have r66 := aft_cell ((HH5.out.cell 66).trans HBt.out)
  clear HP4 HH4 HK4 k5
  refine mt_take w5 (Below.refl _ _) ?_
  simp only [pick_cons, pick_nil, nth_zero, nth_succ]
  repeat (go_big_quiet_step (fail))
  refine wpQuiet_nil (mt_force ?_)
  clear r66 q0 q1 q2 q3 q4 q5 q6
  simp only [pick_cons, pick_nil, nth_zero, nth_succ]
  refine fc_step rfl (fun K hK => ?_)
  go_simp
  (with_reducible refine (C1.out _ HK5.out).mono ?_)
  rintro e w6 ⟨rfl, k6⟩
  refine hK _ _ k6 ?_
  have HP6 := Lib.hid (HP5.out.keep k6)
  have HH6 := Lib.hid (HH5.out.keep k6)
  have HK6 := Lib.hid (keep_trans HK5.out k6)
  clear hK K k6 HP5 HH5 HK5 C1
  refine fc_nil (mt_take w6 (Below.refl _ _) ?_)
  simp only [pick_cons, pick_nil, nth_zero, nth_succ]
  repeat (go_big_quiet_step (fail))
  refine wpQuiet_nil (mt_end ?_)
  obtain ⟨b2, hb2⟩ : ∃ b, (bits.toNat == CR.toNat) = b := ⟨_, rfl⟩
  rw [hb2] at HR
  have hbn : ((bits.toNat : Int) != (CR.toNat : Int)) = !b2 := by
    rw [← hb2, Bool.eq_iff_iff]
    simp
    omega
  rw [hbn]
  clear hb2 hbn
  cases b2 with
  | false =>
    have hR := HR.out
    rw [if_pos rfl] at hR
    subst hR
    clear HR HP6 HH6
    go_wp2
    exact bodyPost_ret (v := iv 7) (by simp [results, Tryz.results36]) rfl ⟨rfl, HK6.out⟩
  | true =>
  have hR := HR.out
  rw [if_neg (by simp)] at hR
  replace HR := Lib.hid hR
  clear hR
  have rh : Hid (w6.rangeAt (w.heap.size + 1) 0 cs.toList) := Lib.hid (range_of HH6.out 0 cs.toList (by simp [List.take_of_length_le]))
  go_upto_region 7 with fail
  go_wp2_with ((with_reducible refine load_partg (w.heap.size + 1) 0 cs (Eq.trans ?_ rfl) rh.out _ Tryz.underlying39 rfl hci rfl ?_); rfl)
  refine (I2.out _ HK6.out).mono ?_
  clear I2 rh
  rintro e w7 ⟨es, rfl, hes, k7⟩
  have HP7 := Lib.hid (HP6.out.keep k7)
  have HH7 := Lib.hid (HH6.out.keep k7)
  have HK7 := Lib.hid (keep_trans HK6.out k7)
  have hez := hes.z; have hen := hes.n; have hei := hes.i
  obtain ⟨zs, hz1, hz2, hz3, -⟩ := zhash_letter
  have hst : (storeCells ⟨w7.heap.size, 0, none⟩ es.toList 0).run Tryz.prog (w7.alloc (.cells zs 36)) = .ok () (w7.alloc (.cells es 36)) := run_storeCells_new (P := Tryz.prog) w7 36 zs es hei (hz1.trans hez.symm) (by have := all_oneCell_toArray hes.o; rwa [Array.toArray_toList] at this)
  have Hes := Lib.hid hes
  clear k7 HP6 HH6 HK6 hes
  go_upto_region 8 with fail
  obtain ⟨w8, hw8⟩ : ∃ w8, w8 = w7.alloc (.cells es 36) := ⟨_, rfl⟩
  have HP8 : Hid (Blk w8 w.heap.size 64 [u32v limit, iv itv, iv span, iv fut, iv idx, iv orp, .slice A m c]) := by rw [hw8]; exact Lib.hid (HP7.out.alloc _)
  have HH8 : Hid (Blk w8 (w.heap.size + 1) 39 cs.toList) := by rw [hw8]; exact Lib.hid (HH7.out.alloc _)
  have HE8 : Hid (Blk w8 w7.heap.size 36 es.toList) := by rw [hw8]; exact Lib.hid (Blk.new w7 36 es.toList)
  have HK8 : Hid (Keep w w8) := by rw [hw8]; exact Lib.hid (keep_trans HK7.out (keep_new _ _))
  rw [← hw8]
  clear hw8 hst HP7 HH7 HK7 hz1 hz2 hz3 zs
  generalize w7.heap.size = g at *
  have re : Hid (w8.rangeAt g 0 es.toList) := Lib.hid (range_of HE8.out 0 es.toList (by simp [List.take_of_length_le]))
  have p0 := HP8.out.cell 0
  have r66 := (HH8.out.cell 66).trans HBt.out
  simp only [List.getElem?_cons_succ, List.getElem?_cons_zero] at p0
  go_wp2_with ((with_reducible refine load_partg g 0 es (Eq.trans ?_ rfl) re.out _ Tryz.underlying36 rfl hei rfl ?_); rfl)
  refine (M1.out _ es Hes.out).mono ?_
  clear M1 re p0 r66
  rintro e w9 ⟨rfl, k9⟩
  have HP9 := Lib.hid (HP8.out.keep k9)
  have HH9 := Lib.hid (HH8.out.keep k9)
  have HE9 := Lib.hid (HE8.out.keep k9)
  have HK9 := Lib.hid (keep_trans HK8.out k9)
  clear k9 HP8 HH8 HE8 HK8
  go_wp2_with fail
  refine (wrong_any M _).mono ?_
  rintro e wy ⟨rfl, rfl⟩
  by_cases hM0 : M ≠ 0
  · have hR := HR.out
    rw [if_pos hM0] at hR
    subst hR
    have d1 : (R != 0) = true := by simp [hM0]
    clear HR HP9 HH9 HE9 hM0
    go_wp2
    exact bodyPost_ret (v := iv R) (by simp [results, Tryz.results36]) rfl ⟨rfl, HK9.out⟩
  have hR := HR.out
  rw [if_neg (by simp [hM0])] at hR
  replace HR := Lib.hid hR
  obtain rfl : M = 0 := by omega
  have rh : Hid (wy.rangeAt g 0 es.toList) := Lib.hid (range_of HE9.out 0 es.toList (by simp [List.take_of_length_le]))
  clear hR hM0
  go_upto_region 11 with fail
  refine wp_region_tree (.take [0,1,2,4,5,6] (.force [3,7] (.take [8] .done))) [] (by kernel_rfl) (by kernel_rfl) (fun wa ka => ?_)
  have HPa := Lib.hid (HP9.out.keep ka)
  have HHa := Lib.hid (HH9.out.keep ka)
  have HEa := Lib.hid (HE9.out.keep ka)
  have HKa := Lib.hid (keep_trans HK9.out ka)
  have q3 := aft_cell (HPa.out.cell 3)
  have r65 := aft_cell ((HHa.out.cell 65).trans HT.out)
  clear HP9 HE9 HK9 rh ka
  refine mt_take wa (Below.refl _ _) ?_
  simp only [pick_cons, pick_nil, nth_zero, nth_succ]
  repeat (go_big_quiet_step (fail))
  refine wpQuiet_nil (mt_force ?_)
  clear q3 r65 HHa
  simp only [pick_cons, pick_nil, nth_zero, nth_succ]
  refine fc_step rfl (fun K hK => ?_)
  go_simp
  (with_reducible refine (T1.out _ HKa.out).mono ?_)
  rintro e wb ⟨tv, rfl, htv, kb⟩
  refine hK _ _ kb ?_
  have HTV := Lib.hid htv
  have HPb := Lib.hid (HPa.out.keep kb)
  have HEb := Lib.hid (HEa.out.keep kb)
  have HKb := Lib.hid (keep_trans HKa.out kb)
  clear hK K T1 htv kb HPa HEa HKa
  refine fc_step rfl (fun K hK => ?_)
  go_simp
  (with_reducible refine (K1.out _ _ _ HTV.out).mono ?_)
  rintro e wc ⟨rfl, kc⟩
  refine hK _ _ kc ?_
  have HPc := Lib.hid (HPb.out.keep kc)
  have HEc := Lib.hid (HEb.out.keep kc)
  have HKc := Lib.hid (keep_trans HKb.out kc)
  clear hK K K1 HTV kc HPb HEb HKb
  refine fc_nil (mt_take wc (Below.refl _ _) ?_)
  simp only [pick_cons, pick_nil, nth_zero, nth_succ]
  repeat (go_big_quiet_step (fail))
  refine wpQuiet_nil (mt_end ?_)
  go_wp2_with fail
  refine (wrong_any CI _).mono ?_
  rintro e wd ⟨rfl, rfl⟩
  by_cases hC0 : CI ≠ 0
  · have hR := HR.out
    rw [if_pos hC0] at hR
    subst hR
    have d1 : (R != 0) = true := by simp [hC0]
    clear HR HPc HEc hC0
    go_wp2
    exact bodyPost_ret (v := iv R) (by simp [results, Tryz.results36]) rfl ⟨rfl, HKc.out⟩
  have hR := HR.out
  rw [if_neg hC0] at hR
  subst hR
  obtain rfl : CI = 0 := by omega
  clear HR hC0
  have re : Hid (wd.rangeAt g 0 es.toList) := Lib.hid (range_of HEc.out 0 es.toList (by simp [List.take_of_length_le]))
  go_upto_region 14 with fail
  have p0 := HPc.out.cell 0
  have p1 := HPc.out.cell 1
  have p2 := HPc.out.cell 2
  have p3 := HPc.out.cell 3
  have p4 := HPc.out.cell 4
  have p5 := HPc.out.cell 5
  have p6 := HPc.out.cell 6
  simp only [List.getElem?_cons_succ, List.getElem?_cons_zero] at p0 p1 p2 p3 p4 p5 p6
  go_wp2_with ((with_reducible refine load_partg g 0 es (Eq.trans ?_ rfl) re.out _ Tryz.underlying36 rfl hei rfl ?_); rfl)
  refine (P1.out _ HKc.out es Hes.out).mono ?_
  clear P1 re p0 p1 p2 p3 p4 p5 p6
  rintro e we ⟨rfl, ke⟩
  go_wp2
  exact bodyPost_ret (v := iv R) (by simp [results, Tryz.results36]) rfl ⟨rfl, keep_trans HKc.out ke⟩
end Go.Proofs.YtjbdboekleaklaaGreatDoor

/- tree.New, (*Tree).Add. (printed by gen_td.py) -/
set_option linter.unusedSimpArgs false
set_option linter.unusedVariables false
namespace Go.Proofs.YtjbdboekleaklaaGreatDoor
open Go.RowKit
attribute [local go_sem ↓] Go.wp_at_zero Go.wp_at_succ

/-- Nothing that was there has turned, but the blocks of X. -/
def KeepX (X : Nat → Prop) (w w' : World) : Prop := w'.os = w.os ∧ w'.tape = w.tape ∧ w'.output = w.output ∧ w.heap.size ≤ w'.heap.size ∧ ∀ k, k < w.heap.size → ¬ X k → w'.heap[k]? = w.heap[k]?
theorem KeepX.of {X : Nat → Prop} {a b : World} (h : Keep a b) : KeepX X a b := ⟨h.os, h.tape, h.output, h.size, fun k hk _ => h.block k hk⟩
theorem KeepX.trans {X Y : Nat → Prop} {a b c : World} (h : KeepX X a b) (k : KeepX Y b c) (hY : ∀ j, j < a.heap.size → Y j → X j) : KeepX X a c :=
  ⟨k.1.trans h.1, k.2.1.trans h.2.1, k.2.2.1.trans h.2.2.1, Nat.le_trans h.2.2.2.1 k.2.2.2.1, fun j hj hn => (k.2.2.2.2 j (Nat.lt_of_lt_of_le hj h.2.2.2.1) (fun e => hn (hY j hj e))).trans (h.2.2.2.2 j hj hn)⟩
theorem KeepX.grown {X : Nat → Prop} {a b c : World} {row : Option Nat} (h : KeepX X a b) (hg : b.grownBy c row) (hr : ∀ j, j < a.heap.size → row = some j → X j) : KeepX X a c :=
  h.trans (Y := fun j => row = some j) ⟨hg.os, hg.tape, hg.output, hg.size, fun j hj hn => hg.block j hj (fun e => hn e.symm)⟩ hr
theorem KeepX.keep {X : Nat → Prop} {w0 a b : World} (h : KeepX X a b) (k : Keep w0 a) (hX : ∀ j, X j → w0.heap.size ≤ j) : Keep w0 b :=
  ⟨h.1.trans k.os, h.2.1.trans k.tape, h.2.2.1.trans k.output, Nat.le_trans k.size h.2.2.2.1, fun j hj => (h.2.2.2.2 j (Nat.lt_of_lt_of_le hj k.size) (fun e => by have := hX j e; omega)).trans (k.block j hj)⟩
theorem Blk.kx {X : Nat → Prop} {a b : World} {g : Nat} {t : TypeId} {cs : List Value} (h : Blk a g t cs) (k : KeepX X a b) (hn : ¬ X g) : Blk b g t cs := (k.2.2.2.2 g h.lt hn).trans h
theorem grown_one (w : World) (g o : Nat) (u : Value) : w.grownBy (w.setCell ⟨g, o, none⟩ u) (some g) := grown_set (grown_refl w _)
def XT (T M : Nat) (v : Value) (k : Nat) : Prop := k = T ∨ k = M ∨ v.ownBlock = some k
theorem TrO.x {w : World} {base T M : Nat} {v : Value} {most : Int} {ns : List Nd} (h : TrO w base T M v most ns) : ∀ k, XT T M v k → base ≤ k := fun k hk => by
  rcases hk with rfl | rfl | hk
  · exact h.bT
  · exact h.bM
  · exact (h.o.lt k hk).1

theorem tree_built (x : Int) (M : Nat) : Tryz.prog.built 72 [(0, .int .i64 x), (2, .map (some M))] = some #[.int .i64 x, .slice none 0 0, .map (some M)] := by kernel_rfl
set_option maxRecDepth 100000 in
theorem new_any (m : Int) (w : World) : Calls Tryz.prog 25 #[iv m] w fun e w' => ∃ T M, e = .returned (pT T) ∧ TrO w' w.heap.size T M (.slice none 0 0) (min (max m 0) 1048576) [] ∧ Keep w w' := by
  obtain ⟨x, hx⟩ : ∃ x, min (max m 0) 1048576 = x := ⟨_, rfl⟩
  rw [hx]
  have hmm := @run_makeMap Tryz.prog
  have hB := tree_built x w.heap.size
  go_enter Tryz.func25, Tryz.ntmps25
  go_wp2
  refine bodyPost_ret (v := pT (w.heap.size + 1)) (by simp [results, Tryz.results25]) rfl ⟨w.heap.size + 1, w.heap.size, rfl, ⟨?_, World.ownsRow_nil _ _ _ _, (MapAt.new w).keep (keep_new _ _), by omega, Nat.le_refl _, by omega, by simp [Value.ownBlock], by simp [Value.ownBlock]⟩, keep_trans (keep_new _ _) (keep_new _ _)⟩
  have h2 := Blk.new (w.alloc (.map #[] 0)) 72 [.int .i64 x, .slice none 0 0, .map (some w.heap.size)]
  rw [World.size_alloc] at h2
  exact h2

set_option maxRecDepth 100000 in
theorem node_built {I : List UInt8} {h : Hd} {ds cs : Array Value} (hI : I.length = 32) (hd : HashA I ds) (hk : h.ok) (hc : HdA h cs) (W : Nat) :
    Tryz.prog.built 44 [(0, .agg ds), (1, .agg cs), (2, .int .i64 (-1)), (4, uV W)] = some (Nd.cells ⟨I, h, -1, 0, W⟩).toArray := by
  obtain rfl := hd.e
  have hcs : cs = h.cells.toArray := by rw [← hc.l, Array.toArray_toList]
  subst hcs
  obtain ⟨ver, prev, root, tm, bt, nc⟩ := h
  obtain ⟨h1, h2⟩ := hk
  simp only at h1 h2
  unfold uV Nd.cells uL Hd.cells
  simp only
  clear hc hd
  generalize n64 (limb W 0) = l0
  generalize n64 (limb W 1) = l1
  generalize n64 (limb W 2) = l2
  generalize n64 (limb W 3) = l3
  generalize u32v ver = x0
  generalize u32v tm = x1
  generalize u32v bt = x2
  generalize u32v nc = x3
  obtain ⟨a0, a1, a2, a3, a4, a5, a6, a7, a8, a9, b0, b1, b2, b3, b4, b5, b6, b7, b8, b9, c0, c1, c2, c3, c4, c5, c6, c7, c8, c9, d0, d1, rfl⟩ := list32b hI
  obtain ⟨e0, e1, e2, e3, e4, e5, e6, e7, e8, e9, f0, f1, f2, f3, f4, f5, f6, f7, f8, f9, g0, g1, g2, g3, g4, g5, g6, g7, g8, g9, k0, k1, rfl⟩ := list32b h1
  obtain ⟨m0, m1, m2, m3, m4, m5, m6, m7, m8, m9, n0, n1, n2, n3, n4, n5, n6, n7, n8, n9, o0, o1, o2, o3, o4, o5, o6, o7, o8, o9, p0, p1, rfl⟩ := list32b h2
  clear h1 h2 hI
  show _ = _
  first | kernel_rfl | (with_unfolding_all rfl)
theorem wpQuiet_build {P : Program} {S : World → Prop} {ops : Array Oper} {rest : List Oper} {a : Act} {Q : Act → Prop} {parts : Array (Nat × Operand)} {dst : Option Tmp} {t ty' : TypeId} {pos : String} {af : Array Edge}
    (ps : List (Nat × Value)) (cells : Array Value) (hx : (parts.toList.map fun p => (p.1, a.eval p.2)) = ps) (hb : P.built t ps = some cells)
    (h : wpQuiet P ops S Q rest (a.put dst (.agg cells))) : wpQuiet P ops S Q ({ dst := dst, op := .build t parts, type := ty', pos := pos, after := af, guard := none } :: rest) a := by
  refine BigFrame.wpQuiet_want (by simp [Region.wanted]) fun K hK => ⟨.agg cells, fun w hw => ?_, hK _ h⟩
  have e : (parts.map fun (i, x) => (i, a.eval x)).toList = ps := by rw [Array.toList_map]; exact hx
  have hb2 : P.built t (parts.map fun (i, x) => (i, a.eval x)).toList = some cells := by rw [e]; exact hb
  unfold Oper.quietAt execOp
  simp only [Sem.run_bind, run_build w t _ cells hb2, Result.andThen_ok]
  exact ⟨rfl, rfl⟩
theorem nd_split {n : Nd} : n.cells = (n.id.map u8v ++ n.head.cells) ++ (Value.int .i64 n.par :: Value.int .i64 n.hgt :: uL n.work) := by simp [Nd.cells]
theorem nd_set2 {n : Nd} (h : n.ok) (p : Int) (g : Nat) : (n.cells.set 100 (.int .i64 p)).set 101 (.int .i64 g) = Nd.cells { n with par := p, hgt := g } := by
  have hl : (n.id.map u8v ++ n.head.cells).length = 100 := by simp [h.1, Hd.len h.2.1]
  rw [nd_split, List.set_append_right _ _ (by omega), List.set_append_right _ _ (by omega), hl]
  simp [Nd.cells]
theorem nd_set4 {n : Nd} (h : n.ok) (S : Nat) : (((n.cells.set 102 (n64 (limb S 0))).set 103 (n64 (limb S 1))).set 104 (n64 (limb S 2))).set 105 (n64 (limb S 3)) = Nd.cells { n with work := S } := by
  have hl : (n.id.map u8v ++ n.head.cells).length = 100 := by simp [h.1, Hd.len h.2.1]
  rw [nd_split, List.set_append_right _ _ (by omega), List.set_append_right _ _ (by omega), List.set_append_right _ _ (by omega), List.set_append_right _ _ (by omega), hl]
  simp [Nd.cells, uL]
theorem nd_work {n : Nd} (h : n.ok) : n.cells[102]? = some (n64 (limb n.work 0)) ∧ n.cells[103]? = some (n64 (limb n.work 1)) ∧ n.cells[104]? = some (n64 (limb n.work 2)) ∧ n.cells[105]? = some (n64 (limb n.work 3)) := ⟨nd_tail h 2, nd_tail h 3, nd_tail h 4, nd_tail h 5⟩

end Go.Proofs.YtjbdboekleaklaaGreatDoor
