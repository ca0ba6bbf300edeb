/- florinlaw16's example walked. (printed by gen_rw.py) -/
import Derived.Test.YteoilddiilegmaaDoorRw0
import Derived.Test.YteoilddiilegmaaDoorBd
set_option linter.unusedSimpArgs false
set_option linter.unusedVariables false
namespace Go.Proofs.YteoilddiilegmaaDoor
open Go.RowKit
attribute [local go_sem ↓] Go.wp_at_zero Go.wp_at_succ

theorem ru_B : Tryd.prog.built 25 [(0, .int .u32 545259519), (1, .int .i64 9), (2, .int .i64 90), (3, .int .i64 10)] = some #[u32v 545259519, iv 9, iv 90, iv 10, iv 0, iv 0, .slice none 0 0] := by kernel_rfl
theorem par_info : (Tryd.prog.info? 25).map (·.size) = some 7 := by kernel_rfl
set_option maxRecDepth 100000 in
theorem rule_any (w : World) : Calls Tryd.prog 24 #[] w fun e w' => e = .returned (parV exR none 0) ∧ Keep w w' := by
  have hB := ru_B
  go_enter Tryd.func24, Tryd.ntmps24
  go_wp2
  exact bodyPost_ret (v := parV exR none 0) (results_cell_row Tryd.results24 _ _ w.heap.size _ _ _ _ rfl (heap_alloc_new w _) Tryd.underlying25 rfl par_info) rfl ⟨rfl, keep_new _ _⟩

theorem exA_built : Tryd.prog.built 30 [(3, .int .u32 5), (4, .int .u32 545259519)] = some exA.cells.toArray := by kernel_rfl
theorem exH_built (l : List UInt8) (ds : Array Value) (hl : l.length = 32) (hd : HashA l ds) : Tryd.prog.built 30 [(1, .agg ds), (3, .int .u32 6), (4, .int .u32 545259519)] = some (mkH l).cells.toArray := by
  obtain rfl := hd.e
  obtain ⟨a0, a1, a2, a3, a4, a5, a6, a7, a8, a9, b0, b1, b2, b3, b4, b5, b6, b7, b8, b9, c0, c1, c2, c3, c4, c5, c6, c7, c8, c9, d0, d1, rfl⟩ := list32b hl
  kernel_rfl

set_option maxRecDepth 100000 in
set_option maxHeartbeats 4000000 in
theorem awake_any (w : World) (hS : ShaOk w) : Calls Tryd.prog 8 #[] w fun e w' => e = .returned (.bool true) ∧ Keep w w' := by
  obtain ⟨av, hav⟩ : ∃ av, HdA exA av ∧ exA.cells.toArray = av := ⟨_, HdA.of exA_ok, rfl⟩
  have oH : exH.ok := exH_ok
  obtain ⟨hv, hhv⟩ : ∃ hv, HdA exH hv ∧ exH.cells.toArray = hv := ⟨_, HdA.of oH, rfl⟩
  have BA : Hid (Tryd.prog.built 30 [(3, .int .u32 5), (4, .int .u32 545259519)] = some av) := Lib.hid (by rw [← hav.2]; exact exA_built)
  have BH : Hid (∀ ds, HashA (idL exA) ds → Tryd.prog.built 30 [(1, .agg ds), (3, .int .u32 6), (4, .int .u32 545259519)] = some hv) := Lib.hid fun ds hd => by rw [← hhv.2]; exact exH_built _ ds (idL_len _) hd
  have RU : Hid (∀ y, Calls Tryd.prog 24 #[] y fun e w' => e = .returned (parV exR none 0) ∧ Keep y w') := Lib.hid rule_any
  have I1 : Hid (∀ y, Keep w y → Calls Tryd.prog 11 #[.agg av] y fun e w' => ∃ ds, e = .returned (.agg ds) ∧ HashA (idL exA) ds ∧ Keep y w') := Lib.hid fun y hy => id_any exA av y (hS.keep hy) exA_ok hav.1
  have MI : Hid (∀ y, Keep w y → Calls Tryd.prog 23 #[.agg hv, .int .u32 545259519, .int .i64 200] y fun e w' => ∃ ds, e = .returned (.tuple #[.agg ds, .bool true]) ∧ ds = hv ∧ Keep y w') := Lib.hid fun y hy => by
    refine (mine_any exH hv 545259519 200 0 y (hS.keep hy) oH hhv.1 (by decide) (by decide) (fun j hj => absurd hj (Nat.not_lt_zero _)) ex_meet2).mono ?_
    rintro e w' ⟨ds, h1, h2, h3⟩
    rw [bump_zero] at h2
    exact ⟨ds, h1, by rw [← hhv.2, ← h2.l, Array.toArray_toList], h3⟩
  have CK : ∀ (now : Int) y g, Keep w y → checkR exR [exA] exH now = 0 → Blk y g 30 av.toList → Calls Tryd.prog 9 #[parV exR none 0, .slice (some ⟨g, 0, none⟩) 1 1, .agg hv, iv now] y fun e w' => e = .returned (iv 0) ∧ Keep y w' := fun now y g hy h0 hb => by
    have h1 := check_hd exR none 0 (some ⟨g, 0, none⟩) [exA] 1 exH hv now y (hS.keep hy) ⟨Rd.nil _ _, (fun x hx => absurd hx List.not_mem_nil), by decide⟩ (by decide) (by decide) (by decide) (by rw [List.flatMap_cons, List.flatMap_nil, List.append_nil, ← hav.1.l]; exact hb.rd) (fun h hh => by rw [List.mem_singleton.1 hh]; exact exA_ok) oH hhv.1
    rw [h0] at h1
    exact h1
  have C6 : Hid (∀ y g, Keep w y → Blk y g 30 av.toList → Calls Tryd.prog 9 #[parV exR none 0, .slice (some ⟨g, 0, none⟩) 1 1, .agg hv, iv 6] y fun e w' => e = .returned (iv 0) ∧ Keep y w') := Lib.hid fun y g hy hb => CK 6 y g hy ex_c1 hb
  have C14 : Hid (∀ y g, Keep w y → Blk y g 30 av.toList → Calls Tryd.prog 9 #[parV exR none 0, .slice (some ⟨g, 0, none⟩) 1 1, .agg hv, iv (-5)] y fun e w' => e = .returned (iv 0) ∧ Keep y w') := Lib.hid fun y g hy hb => CK (-5) y g hy ex_c2 hb
  have C20 : Hid (∀ y, Keep w y → Calls Tryd.prog 9 #[parV exR none 0, .slice none 0 0, .agg hv, iv 6] y fun e w' => e = .returned (iv 15) ∧ Keep y w') := Lib.hid fun y hy => by
    have h1 := check_hd exR none 0 none [] 0 exH hv 6 y (hS.keep hy) ⟨Rd.nil _ _, (fun x hx => absurd hx List.not_mem_nil), by decide⟩ (by decide) (by decide) (by decide) (Rd.nil _ _) (fun h hh => absurd hh List.not_mem_nil) oH hhv.1
    rw [ex_c3] at h1
    exact h1
  have C26 : Hid (∀ y, Keep w y → Calls Tryd.prog 21 #[parV exR none 0, .agg av] y fun e w' => e = .returned (iv 0) ∧ Keep y w') := Lib.hid fun y hy => by
    have h1 := begins_any exR none 0 exA av y (hS.keep hy) ⟨Rd.nil _ _, (fun x hx => absurd hx List.not_mem_nil), by decide⟩ exA_ok hav.1
    rw [ex_b] at h1
    exact h1
  have avz := hav.1.z; have avn := hav.1.n; have avi := hav.1.i; have avo := Lib.hid hav.1.o
  have hvz := hhv.1.z; have hvn := hhv.1.n; have hvi := hhv.1.i; have hvo := Lib.hid hhv.1.o
  have Ht := Lib.hid (hd_time oH)
  rw [← hhv.1.l] at Ht
  clear hav hhv CK oH hS
  generalize idL exA = LA at *
  generalize parV exR none 0 = PV at *
  obtain ⟨zs, hz1, hz2, hz3, -⟩ := zhead_letter
  go_enter Tryd.func8, Tryd.ntmps8
  have hsA : (storeCells ⟨w.heap.size, 0, none⟩ av.toList 0).run Tryd.prog (w.alloc (.cells zs 30)) = .ok () (w.alloc (.cells av 30)) := run_storeCells_new (P := Tryd.prog) w 30 zs av avi (hz1.trans avz.symm) (by have := all_oneCell_toArray avo.out; rwa [Array.toArray_toList] at this)
  go_upto_region 2 with ((with_reducible refine list_buildr [(3, .int .u32 5), (4, .int .u32 545259519)] av (Eq.trans ?_ rfl) BA.out ?_); rfl)
  obtain ⟨w1, hw1⟩ : ∃ w1, w1 = w.alloc (.cells av 30) := ⟨_, rfl⟩
  have FA1 : Hid (Blk w1 w.heap.size 30 av.toList) := by rw [hw1]; exact Lib.hid (Blk.new w 30 av.toList)
  have HK1 : Hid (Keep w w1) := by rw [hw1]; exact Lib.hid (keep_new _ _)
  rw [← hw1]
  clear hw1 hsA BA
  have hga : w.heap.size ≤ w.heap.size := Nat.le_refl _
  obtain ⟨ga, hgae⟩ : ∃ g, w.heap.size = g := ⟨_, rfl⟩
  rw [hgae] at FA1 ⊢
  have r1 : Hid (w1.rangeAt ga 0 av.toList) := Lib.hid (range_of FA1.out 0 av.toList (by simp [List.take_of_length_le]))
  go_wp2_with ((with_reducible refine load_partg ga 0 av (Eq.trans ?_ rfl) r1.out _ Tryd.underlying30 rfl avi rfl ?_); rfl)
  refine (I1.out _ HK1.out).mono ?_
  clear I1 r1
  rintro e w2 ⟨ds, rfl, hds, k2⟩
  have BH2 := Lib.hid (BH.out ds hds)
  have FA2 := Lib.hid (FA1.out.keep k2)
  have HK2 := Lib.hid (keep_trans HK1.out k2)
  clear hds k2 FA1 HK1 BH
  go_wp2_with ((with_reducible refine list_buildr [(1, .agg ds), (3, .int .u32 6), (4, .int .u32 545259519)] hv (Eq.trans ?_ rfl) BH2.out ?_); rfl)
  refine (MI.out _ HK2.out).mono ?_
  clear MI BH2
  rintro e w3 ⟨es, rfl, hes, k3⟩
  subst hes
  have FA3 := Lib.hid (FA2.out.keep k3)
  have HK3 := Lib.hid (keep_trans HK2.out k3)
  clear k3 FA2 HK2
  have hsB : (storeCells ⟨w3.heap.size, 0, none⟩ es.toList 0).run Tryd.prog (w3.alloc (.cells zs 30)) = .ok () (w3.alloc (.cells es 30)) := run_storeCells_new (P := Tryd.prog) w3 30 zs es hvi (hz1.trans hvz.symm) (by have := all_oneCell_toArray hvo.out; rwa [Array.toArray_toList] at this)
  go_upto_region 3 with fail
  obtain ⟨w4, hw4⟩ : ∃ w4, w4 = w3.alloc (.cells es 30) := ⟨_, rfl⟩
  have FA4 : Hid (Blk w4 ga 30 av.toList) := by rw [hw4]; exact Lib.hid (FA3.out.alloc _)
  have FH4 : Hid (Blk w4 w3.heap.size 30 es.toList) := by rw [hw4]; exact Lib.hid (Blk.new w3 30 es.toList)
  have HK4 : Hid (Keep w w4) := by rw [hw4]; exact Lib.hid (keep_trans HK3.out (keep_new _ _))
  rw [← hw4]
  clear hw4 hsB FA3
  have hgh : w.heap.size ≤ w3.heap.size := HK3.out.size
  clear HK3
  generalize w3.heap.size = gh at *
  have r1 : Hid (w4.rangeAt gh 0 es.toList) := Lib.hid (range_of FH4.out 0 es.toList (by simp [List.take_of_length_le]))
  have hsC : (storeCells ⟨w4.heap.size, 0, none⟩ es.toList 0).run Tryd.prog (w4.alloc (.cells zs 30)) = .ok () (w4.alloc (.cells es 30)) := run_storeCells_new (P := Tryd.prog) w4 30 zs es hvi (hz1.trans hvz.symm) (by have := all_oneCell_toArray hvo.out; rwa [Array.toArray_toList] at this)
  go_upto_region 4 with ((with_reducible refine load_partg gh 0 es (Eq.trans ?_ rfl) r1.out _ Tryd.underlying30 rfl hvi rfl ?_); rfl)
  obtain ⟨w6, hw6⟩ : ∃ w6, w6 = w4.alloc (.cells es 30) := ⟨_, rfl⟩
  have FA6 : Hid (Blk w6 ga 30 av.toList) := by rw [hw6]; exact Lib.hid (FA4.out.alloc _)
  have FH6 : Hid (Blk w6 gh 30 es.toList) := by rw [hw6]; exact Lib.hid (FH4.out.alloc _)
  have FB6 : Hid (Blk w6 w4.heap.size 30 es.toList) := by rw [hw6]; exact Lib.hid (Blk.new w4 30 es.toList)
  have HK6 : Hid (Keep w w6) := by rw [hw6]; exact Lib.hid (keep_trans HK4.out (keep_new _ _))
  rw [← hw6]
  have ha1 : ga < w4.heap.size := FA4.out.lt
  have ha2 : gh < w4.heap.size := FH4.out.lt
  have ha3 : w.heap.size ≤ w4.heap.size := HK4.out.size
  clear hw6 hsC FA4 FH4 r1 HK4
  generalize w4.heap.size = gb at *
  have c65 := (FB6.out.cell 65).trans Ht.out
  have f65 := FB6.out.frozen 65
  go_upto_region 5 with fail
  clear c65 f65
  obtain ⟨w5, hw5⟩ : ∃ w5, w5 = w6.setCell ⟨gb, 65, none⟩ (.int .u32 17) := ⟨_, rfl⟩
  have FA : Hid (Blk w5 ga 30 av.toList) := by rw [hw5]; exact Lib.hid (FA6.out.far (by simp; omega) _)
  have FH : Hid (Blk w5 gh 30 es.toList) := by rw [hw5]; exact Lib.hid (FH6.out.far (by simp; omega) _)
  have HK5 : Hid (Keep w w5) := by rw [hw5]; exact Lib.hid (Below.setCell HK6.out (by simp; omega) _)
  rw [← hw5]
  clear hw5 FA6 FH6 FB6 HK6 Ht
  obtain ⟨hv, hve⟩ : ∃ hv, es = hv := ⟨_, rfl⟩
  subst hve
  replace C6 : Hid (∀ y g, Keep w5 y → Blk y g 30 av.toList → Calls Tryd.prog 9 #[PV, .slice (some ⟨g, 0, none⟩) 1 1, .agg es, iv 6] y fun e w' => e = .returned (iv 0) ∧ Keep y w') := Lib.hid fun y g hy hb => C6.out y g (keep_trans HK5.out hy) hb
  replace C14 : Hid (∀ y g, Keep w5 y → Blk y g 30 av.toList → Calls Tryd.prog 9 #[PV, .slice (some ⟨g, 0, none⟩) 1 1, .agg es, iv (-5)] y fun e w' => e = .returned (iv 0) ∧ Keep y w') := Lib.hid fun y g hy hb => C14.out y g (keep_trans HK5.out hy) hb
  replace C20 : Hid (∀ y, Keep w5 y → Calls Tryd.prog 9 #[PV, .slice none 0 0, .agg es, iv 6] y fun e w' => e = .returned (iv 15) ∧ Keep y w') := Lib.hid fun y hy => C20.out y (keep_trans HK5.out hy)
  replace C26 : Hid (∀ y, Keep w5 y → Calls Tryd.prog 21 #[PV, .agg av] y fun e w' => e = .returned (iv 0) ∧ Keep y w') := Lib.hid fun y hy => C26.out y (keep_trans HK5.out hy)
  clear hgae hga hgh ha1 ha2 ha3 hz1 hz2 hz3
  refine wp_region_tree (.take [0,1,3,5] (.fork 2 (.force [4,6] (.take [7,8,9,11,13] (.fork 10 (.force [12,14] (.take [15,16,17,19] (.force [18,20] (.take [21,22,23,25] (.force [24,26] (.take [27,28,29] .done)))))) 12 (.force [10,14] (.take [15,16,17,19] (.force [18,20] (.take [21,22,23,25] (.force [24,26] (.take [27,28,29] .done))))))))) 4 (.force [2,6] (.take [7,8,9,11,13] (.fork 10 (.force [12,14] (.take [15,16,17,19] (.force [18,20] (.take [21,22,23,25] (.force [24,26] (.take [27,28,29] .done)))))) 12 (.force [10,14] (.take [15,16,17,19] (.force [18,20] (.take [21,22,23,25] (.force [24,26] (.take [27,28,29] .done))))))))))) [] (by kernel_rfl) (by kernel_rfl) (fun y0 hk => ?_)
  have Q := Lib.hid hk
  have FA := Lib.hid (FA.out.keep hk)
  have FH := Lib.hid (FH.out.keep hk)
  clear hk
  refine mt_take y0 (Below.refl _ _) ?_
  simp only [pick_cons, pick_nil, nth_zero, nth_succ]
  have hA0 : Hid (y0.rangeAt ga 0 av.toList) := Lib.hid (range_of FA.out 0 av.toList (by simp [List.take_of_length_le]))
  have hH0 : Hid (y0.rangeAt gh 0 es.toList) := Lib.hid (range_of FH.out 0 es.toList (by simp [List.take_of_length_le]))
  repeat (first
    | ((with_reducible refine wpQuiet_load_partg ga 0 av (Eq.trans ?_ rfl) hA0.out _ Tryd.underlying30 rfl avi (Eq.trans ?_ rfl) ?_); rfl; rfl; simp only [Act.put, Array.set!_eq_setIfInBounds, List.setIfInBounds_toArray, List.set_cons_succ, List.set_cons_zero])
    | ((with_reducible refine wpQuiet_load_partg gh 0 es (Eq.trans ?_ rfl) hH0.out _ Tryd.underlying30 rfl hvi (Eq.trans ?_ rfl) ?_); rfl; rfl; simp only [Act.put, Array.set!_eq_setIfInBounds, List.setIfInBounds_toArray, List.set_cons_succ, List.set_cons_zero])
    | go_big_quiet_step (fail))
  clear hA0 hH0
  refine wpQuiet_nil (mt_fork ?_ ?_)
  · simp only [pick_cons, pick_nil, nth_zero, nth_succ]
    refine fc_step rfl (fun K hK => ?_)
    go_simp
    (with_reducible refine (RU.out _).mono ?_)
    rintro e y1 ⟨rfl, hk⟩
    refine hK _ _ hk ?_
    clear hK K
    have HQ2 : w5.heap.size ≤ y0.heap.size := Q.out.size
    have Hprev := Q
    replace Q := Lib.hid (keep_trans Q.out hk)
    have hs_y1 : y0.heap.size ≤ y1.heap.size := hk.size
    replace FA := Lib.hid (FA.out.keep hk)
    replace FH := Lib.hid (FH.out.keep hk)
    clear hk
    refine fc_nil (mt_force ?_)
    simp only [pick_cons, pick_nil, nth_zero, nth_succ]
    refine fc_step rfl (fun K hK => ?_)
    refine wp_build1b headTb _ (by rfl) av avz (by omega) (by rfl) ?_
    refine hK _ _ (keep_new _ _) ?_
    clear hK K
    obtain ⟨y2, hy⟩ : ∃ y2, y2 = y1.alloc (.cells av 30) := ⟨_, rfl⟩
    have F4 : Hid (Blk y2 y1.heap.size 30 av.toList) := by rw [hy]; exact Blk.new y1 _ av.toList
    have hk : Keep y1 y2 := by rw [hy]; exact keep_new _ _
    rw [← hy]
    clear hy
    have F4s : y1.heap.size < y2.heap.size := F4.out.lt
    have F4n := Q.out.size
    replace Q := Lib.hid (keep_trans Q.out hk)
    have hs_y2 : y1.heap.size ≤ y2.heap.size := hk.size
    replace FA := Lib.hid (FA.out.keep hk)
    replace FH := Lib.hid (FH.out.keep hk)
    clear hk
    generalize hp : y1.heap.size = g4 at *
    have F4a : y1.heap.size ≤ g4 := Nat.le_of_eq hp
    have F4b : g4 ≤ y1.heap.size := Nat.le_of_eq hp.symm
    clear hp
    refine fc_step rfl (fun K hK => ?_)
    go_simp
    (with_reducible refine (C6.out _ g4 Q.out F4.out).mono ?_)
    rintro e y3 ⟨rfl, hk⟩
    refine hK _ _ hk ?_
    clear hK K
    have HQ6 : w5.heap.size ≤ y2.heap.size := Q.out.size
    have Hprev := Q
    replace Q := Lib.hid (keep_trans Q.out hk)
    have hs_y3 : y2.heap.size ≤ y3.heap.size := hk.size
    replace FA := Lib.hid (FA.out.keep hk)
    replace FH := Lib.hid (FH.out.keep hk)
    replace F4 := Lib.hid (F4.out.keep hk)
    clear hk
    refine fc_nil (mt_take y3 (Below.refl _ _) ?_)
    simp only [pick_cons, pick_nil, nth_zero, nth_succ]
    have hA0 : Hid (y3.rangeAt ga 0 av.toList) := Lib.hid (range_of FA.out 0 av.toList (by simp [List.take_of_length_le]))
    have hH0 : Hid (y3.rangeAt gh 0 es.toList) := Lib.hid (range_of FH.out 0 es.toList (by simp [List.take_of_length_le]))
    repeat (first
      | ((with_reducible refine wpQuiet_load_partg ga 0 av (Eq.trans ?_ rfl) hA0.out _ Tryd.underlying30 rfl avi (Eq.trans ?_ rfl) ?_); rfl; rfl; simp only [Act.put, Array.set!_eq_setIfInBounds, List.setIfInBounds_toArray, List.set_cons_succ, List.set_cons_zero])
      | ((with_reducible refine wpQuiet_load_partg gh 0 es (Eq.trans ?_ rfl) hH0.out _ Tryd.underlying30 rfl hvi (Eq.trans ?_ rfl) ?_); rfl; rfl; simp only [Act.put, Array.set!_eq_setIfInBounds, List.setIfInBounds_toArray, List.set_cons_succ, List.set_cons_zero])
      | go_big_quiet_step (fail))
    clear hA0 hH0
    refine wpQuiet_nil (mt_fork ?_ ?_)
    · simp only [pick_cons, pick_nil, nth_zero, nth_succ]
      refine fc_step rfl (fun K hK => ?_)
      go_simp
      (with_reducible refine (RU.out _).mono ?_)
      rintro e y4 ⟨rfl, hk⟩
      refine hK _ _ hk ?_
      clear hK K
      have HQ10 : w5.heap.size ≤ y3.heap.size := Q.out.size
      have Hprev := Q
      replace Q := Lib.hid (keep_trans Q.out hk)
      have hs_y4 : y3.heap.size ≤ y4.heap.size := hk.size
      replace FA := Lib.hid (FA.out.keep hk)
      replace FH := Lib.hid (FH.out.keep hk)
      replace F4 := Lib.hid (F4.out.keep hk)
      clear hk
      refine fc_nil (mt_force ?_)
      simp only [pick_cons, pick_nil, nth_zero, nth_succ]
      refine fc_step rfl (fun K hK => ?_)
      refine wp_build1b headTb _ (by rfl) av avz (by omega) (by rfl) ?_
      refine hK _ _ (keep_new _ _) ?_
      clear hK K
      obtain ⟨y5, hy⟩ : ∃ y5, y5 = y4.alloc (.cells av 30) := ⟨_, rfl⟩
      have F12 : Hid (Blk y5 y4.heap.size 30 av.toList) := by rw [hy]; exact Blk.new y4 _ av.toList
      have hk : Keep y4 y5 := by rw [hy]; exact keep_new _ _
      rw [← hy]
      clear hy
      have F12s : y4.heap.size < y5.heap.size := F12.out.lt
      have F12n := Q.out.size
      replace Q := Lib.hid (keep_trans Q.out hk)
      have hs_y5 : y4.heap.size ≤ y5.heap.size := hk.size
      replace FA := Lib.hid (FA.out.keep hk)
      replace FH := Lib.hid (FH.out.keep hk)
      replace F4 := Lib.hid (F4.out.keep hk)
      clear hk
      generalize hp : y4.heap.size = g12 at *
      have F12a : y4.heap.size ≤ g12 := Nat.le_of_eq hp
      have F12b : g12 ≤ y4.heap.size := Nat.le_of_eq hp.symm
      clear hp
      refine fc_step rfl (fun K hK => ?_)
      go_simp
      (with_reducible refine (C14.out _ g12 Q.out F12.out).mono ?_)
      rintro e y6 ⟨rfl, hk⟩
      refine hK _ _ hk ?_
      clear hK K
      have HQ14 : w5.heap.size ≤ y5.heap.size := Q.out.size
      have Hprev := Q
      replace Q := Lib.hid (keep_trans Q.out hk)
      have hs_y6 : y5.heap.size ≤ y6.heap.size := hk.size
      replace FA := Lib.hid (FA.out.keep hk)
      replace FH := Lib.hid (FH.out.keep hk)
      replace F4 := Lib.hid (F4.out.keep hk)
      replace F12 := Lib.hid (F12.out.keep hk)
      clear hk
      refine fc_nil (mt_take y6 (Below.refl _ _) ?_)
      simp only [pick_cons, pick_nil, nth_zero, nth_succ]
      have hA0 : Hid (y6.rangeAt ga 0 av.toList) := Lib.hid (range_of FA.out 0 av.toList (by simp [List.take_of_length_le]))
      have hH0 : Hid (y6.rangeAt gh 0 es.toList) := Lib.hid (range_of FH.out 0 es.toList (by simp [List.take_of_length_le]))
      repeat (first
        | ((with_reducible refine wpQuiet_load_partg ga 0 av (Eq.trans ?_ rfl) hA0.out _ Tryd.underlying30 rfl avi (Eq.trans ?_ rfl) ?_); rfl; rfl; simp only [Act.put, Array.set!_eq_setIfInBounds, List.setIfInBounds_toArray, List.set_cons_succ, List.set_cons_zero])
        | ((with_reducible refine wpQuiet_load_partg gh 0 es (Eq.trans ?_ rfl) hH0.out _ Tryd.underlying30 rfl hvi (Eq.trans ?_ rfl) ?_); rfl; rfl; simp only [Act.put, Array.set!_eq_setIfInBounds, List.setIfInBounds_toArray, List.set_cons_succ, List.set_cons_zero])
        | go_big_quiet_step (fail))
      clear hA0 hH0
      refine wpQuiet_nil (mt_force ?_)
      simp only [pick_cons, pick_nil, nth_zero, nth_succ]
      refine fc_step rfl (fun K hK => ?_)
      go_simp
      (with_reducible refine (RU.out _).mono ?_)
      rintro e y7 ⟨rfl, hk⟩
      refine hK _ _ hk ?_
      clear hK K
      have HQ18 : w5.heap.size ≤ y6.heap.size := Q.out.size
      have Hprev := Q
      replace Q := Lib.hid (keep_trans Q.out hk)
      have hs_y7 : y6.heap.size ≤ y7.heap.size := hk.size
      replace FA := Lib.hid (FA.out.keep hk)
      replace FH := Lib.hid (FH.out.keep hk)
      replace F4 := Lib.hid (F4.out.keep hk)
      replace F12 := Lib.hid (F12.out.keep hk)
      clear hk
      refine fc_step rfl (fun K hK => ?_)
      go_simp
      (with_reducible refine (C20.out _ Q.out).mono ?_)
      rintro e y8 ⟨rfl, hk⟩
      refine hK _ _ hk ?_
      clear hK K
      have HQ20 : w5.heap.size ≤ y7.heap.size := Q.out.size
      have Hprev := Q
      replace Q := Lib.hid (keep_trans Q.out hk)
      have hs_y8 : y7.heap.size ≤ y8.heap.size := hk.size
      replace FA := Lib.hid (FA.out.keep hk)
      replace FH := Lib.hid (FH.out.keep hk)
      replace F4 := Lib.hid (F4.out.keep hk)
      replace F12 := Lib.hid (F12.out.keep hk)
      clear hk
      refine fc_nil (mt_take y8 (Below.refl _ _) ?_)
      simp only [pick_cons, pick_nil, nth_zero, nth_succ]
      have hA0 : Hid (y8.rangeAt ga 0 av.toList) := Lib.hid (range_of FA.out 0 av.toList (by simp [List.take_of_length_le]))
      have hH0 : Hid (y8.rangeAt gh 0 es.toList) := Lib.hid (range_of FH.out 0 es.toList (by simp [List.take_of_length_le]))
      repeat (first
        | ((with_reducible refine wpQuiet_load_partg ga 0 av (Eq.trans ?_ rfl) hA0.out _ Tryd.underlying30 rfl avi (Eq.trans ?_ rfl) ?_); rfl; rfl; simp only [Act.put, Array.set!_eq_setIfInBounds, List.setIfInBounds_toArray, List.set_cons_succ, List.set_cons_zero])
        | ((with_reducible refine wpQuiet_load_partg gh 0 es (Eq.trans ?_ rfl) hH0.out _ Tryd.underlying30 rfl hvi (Eq.trans ?_ rfl) ?_); rfl; rfl; simp only [Act.put, Array.set!_eq_setIfInBounds, List.setIfInBounds_toArray, List.set_cons_succ, List.set_cons_zero])
        | go_big_quiet_step (fail))
      clear hA0 hH0
      refine wpQuiet_nil (mt_force ?_)
      simp only [pick_cons, pick_nil, nth_zero, nth_succ]
      refine fc_step rfl (fun K hK => ?_)
      go_simp
      (with_reducible refine (RU.out _).mono ?_)
      rintro e y9 ⟨rfl, hk⟩
      refine hK _ _ hk ?_
      clear hK K
      have HQ24 : w5.heap.size ≤ y8.heap.size := Q.out.size
      have Hprev := Q
      replace Q := Lib.hid (keep_trans Q.out hk)
      have hs_y9 : y8.heap.size ≤ y9.heap.size := hk.size
      replace FA := Lib.hid (FA.out.keep hk)
      replace FH := Lib.hid (FH.out.keep hk)
      replace F4 := Lib.hid (F4.out.keep hk)
      replace F12 := Lib.hid (F12.out.keep hk)
      clear hk
      refine fc_step rfl (fun K hK => ?_)
      go_simp
      (with_reducible refine (C26.out _ Q.out).mono ?_)
      rintro e y10 ⟨rfl, hk⟩
      refine hK _ _ hk ?_
      clear hK K
      have HQ26 : w5.heap.size ≤ y9.heap.size := Q.out.size
      have Hprev := Q
      replace Q := Lib.hid (keep_trans Q.out hk)
      have hs_y10 : y9.heap.size ≤ y10.heap.size := hk.size
      replace FA := Lib.hid (FA.out.keep hk)
      replace FH := Lib.hid (FH.out.keep hk)
      replace F4 := Lib.hid (F4.out.keep hk)
      replace F12 := Lib.hid (F12.out.keep hk)
      clear hk
      refine fc_nil (mt_take y10 (Below.refl _ _) ?_)
      simp only [pick_cons, pick_nil, nth_zero, nth_succ]
      have hA0 : Hid (y10.rangeAt ga 0 av.toList) := Lib.hid (range_of FA.out 0 av.toList (by simp [List.take_of_length_le]))
      have hH0 : Hid (y10.rangeAt gh 0 es.toList) := Lib.hid (range_of FH.out 0 es.toList (by simp [List.take_of_length_le]))
      repeat (first
        | ((with_reducible refine wpQuiet_load_partg ga 0 av (Eq.trans ?_ rfl) hA0.out _ Tryd.underlying30 rfl avi (Eq.trans ?_ rfl) ?_); rfl; rfl; simp only [Act.put, Array.set!_eq_setIfInBounds, List.setIfInBounds_toArray, List.set_cons_succ, List.set_cons_zero])
        | ((with_reducible refine wpQuiet_load_partg gh 0 es (Eq.trans ?_ rfl) hH0.out _ Tryd.underlying30 rfl hvi (Eq.trans ?_ rfl) ?_); rfl; rfl; simp only [Act.put, Array.set!_eq_setIfInBounds, List.setIfInBounds_toArray, List.set_cons_succ, List.set_cons_zero])
        | go_big_quiet_step (fail))
      clear hA0 hH0
      refine wpQuiet_nil (mt_end ?_)
      go_wp2
      exact bodyPost_ret (v := .bool true) (by simp [results, Tryd.results8]) rfl ⟨rfl, keep_trans HK5.out Q.out⟩
    · simp only [pick_cons, pick_nil, nth_zero, nth_succ]
      refine fc_step rfl (fun K hK => ?_)
      refine wp_build1b headTb _ (by rfl) av avz (by omega) (by rfl) ?_
      refine hK _ _ (keep_new _ _) ?_
      clear hK K
      obtain ⟨y11, hy⟩ : ∃ y11, y11 = y3.alloc (.cells av 30) := ⟨_, rfl⟩
      have F12 : Hid (Blk y11 y3.heap.size 30 av.toList) := by rw [hy]; exact Blk.new y3 _ av.toList
      have hk : Keep y3 y11 := by rw [hy]; exact keep_new _ _
      rw [← hy]
      clear hy
      have F12s : y3.heap.size < y11.heap.size := F12.out.lt
      have F12n := Q.out.size
      replace Q := Lib.hid (keep_trans Q.out hk)
      have hs_y11 : y3.heap.size ≤ y11.heap.size := hk.size
      replace FA := Lib.hid (FA.out.keep hk)
      replace FH := Lib.hid (FH.out.keep hk)
      replace F4 := Lib.hid (F4.out.keep hk)
      clear hk
      generalize hp : y3.heap.size = g12 at *
      have F12a : y3.heap.size ≤ g12 := Nat.le_of_eq hp
      have F12b : g12 ≤ y3.heap.size := Nat.le_of_eq hp.symm
      clear hp
      refine fc_nil (mt_force ?_)
      simp only [pick_cons, pick_nil, nth_zero, nth_succ]
      refine fc_step rfl (fun K hK => ?_)
      go_simp
      (with_reducible refine (RU.out _).mono ?_)
      rintro e y12 ⟨rfl, hk⟩
      refine hK _ _ hk ?_
      clear hK K
      have HQ10 : w5.heap.size ≤ y11.heap.size := Q.out.size
      have Hprev := Q
      replace Q := Lib.hid (keep_trans Q.out hk)
      have hs_y12 : y11.heap.size ≤ y12.heap.size := hk.size
      replace FA := Lib.hid (FA.out.keep hk)
      replace FH := Lib.hid (FH.out.keep hk)
      replace F4 := Lib.hid (F4.out.keep hk)
      replace F12 := Lib.hid (F12.out.keep hk)
      clear hk
      refine fc_step rfl (fun K hK => ?_)
      go_simp
      (with_reducible refine (C14.out _ g12 Q.out F12.out).mono ?_)
      rintro e y13 ⟨rfl, hk⟩
      refine hK _ _ hk ?_
      clear hK K
      have HQ14 : w5.heap.size ≤ y12.heap.size := Q.out.size
      have Hprev := Q
      replace Q := Lib.hid (keep_trans Q.out hk)
      have hs_y13 : y12.heap.size ≤ y13.heap.size := hk.size
      replace FA := Lib.hid (FA.out.keep hk)
      replace FH := Lib.hid (FH.out.keep hk)
      replace F4 := Lib.hid (F4.out.keep hk)
      replace F12 := Lib.hid (F12.out.keep hk)
      clear hk
      refine fc_nil (mt_take y13 (Below.refl _ _) ?_)
      simp only [pick_cons, pick_nil, nth_zero, nth_succ]
      have hA0 : Hid (y13.rangeAt ga 0 av.toList) := Lib.hid (range_of FA.out 0 av.toList (by simp [List.take_of_length_le]))
      have hH0 : Hid (y13.rangeAt gh 0 es.toList) := Lib.hid (range_of FH.out 0 es.toList (by simp [List.take_of_length_le]))
      repeat (first
        | ((with_reducible refine wpQuiet_load_partg ga 0 av (Eq.trans ?_ rfl) hA0.out _ Tryd.underlying30 rfl avi (Eq.trans ?_ rfl) ?_); rfl; rfl; simp only [Act.put, Array.set!_eq_setIfInBounds, List.setIfInBounds_toArray, List.set_cons_succ, List.set_cons_zero])
        | ((with_reducible refine wpQuiet_load_partg gh 0 es (Eq.trans ?_ rfl) hH0.out _ Tryd.underlying30 rfl hvi (Eq.trans ?_ rfl) ?_); rfl; rfl; simp only [Act.put, Array.set!_eq_setIfInBounds, List.setIfInBounds_toArray, List.set_cons_succ, List.set_cons_zero])
        | go_big_quiet_step (fail))
      clear hA0 hH0
      refine wpQuiet_nil (mt_force ?_)
      simp only [pick_cons, pick_nil, nth_zero, nth_succ]
      refine fc_step rfl (fun K hK => ?_)
      go_simp
      (with_reducible refine (RU.out _).mono ?_)
      rintro e y14 ⟨rfl, hk⟩
      refine hK _ _ hk ?_
      clear hK K
      have HQ18 : w5.heap.size ≤ y13.heap.size := Q.out.size
      have Hprev := Q
      replace Q := Lib.hid (keep_trans Q.out hk)
      have hs_y14 : y13.heap.size ≤ y14.heap.size := hk.size
      replace FA := Lib.hid (FA.out.keep hk)
      replace FH := Lib.hid (FH.out.keep hk)
      replace F4 := Lib.hid (F4.out.keep hk)
      replace F12 := Lib.hid (F12.out.keep hk)
      clear hk
      refine fc_step rfl (fun K hK => ?_)
      go_simp
      (with_reducible refine (C20.out _ Q.out).mono ?_)
      rintro e y15 ⟨rfl, hk⟩
      refine hK _ _ hk ?_
      clear hK K
      have HQ20 : w5.heap.size ≤ y14.heap.size := Q.out.size
      have Hprev := Q
      replace Q := Lib.hid (keep_trans Q.out hk)
      have hs_y15 : y14.heap.size ≤ y15.heap.size := hk.size
      replace FA := Lib.hid (FA.out.keep hk)
      replace FH := Lib.hid (FH.out.keep hk)
      replace F4 := Lib.hid (F4.out.keep hk)
      replace F12 := Lib.hid (F12.out.keep hk)
      clear hk
      refine fc_nil (mt_take y15 (Below.refl _ _) ?_)
      simp only [pick_cons, pick_nil, nth_zero, nth_succ]
      have hA0 : Hid (y15.rangeAt ga 0 av.toList) := Lib.hid (range_of FA.out 0 av.toList (by simp [List.take_of_length_le]))
      have hH0 : Hid (y15.rangeAt gh 0 es.toList) := Lib.hid (range_of FH.out 0 es.toList (by simp [List.take_of_length_le]))
      repeat (first
        | ((with_reducible refine wpQuiet_load_partg ga 0 av (Eq.trans ?_ rfl) hA0.out _ Tryd.underlying30 rfl avi (Eq.trans ?_ rfl) ?_); rfl; rfl; simp only [Act.put, Array.set!_eq_setIfInBounds, List.setIfInBounds_toArray, List.set_cons_succ, List.set_cons_zero])
        | ((with_reducible refine wpQuiet_load_partg gh 0 es (Eq.trans ?_ rfl) hH0.out _ Tryd.underlying30 rfl hvi (Eq.trans ?_ rfl) ?_); rfl; rfl; simp only [Act.put, Array.set!_eq_setIfInBounds, List.setIfInBounds_toArray, List.set_cons_succ, List.set_cons_zero])
        | go_big_quiet_step (fail))
      clear hA0 hH0
      refine wpQuiet_nil (mt_force ?_)
      simp only [pick_cons, pick_nil, nth_zero, nth_succ]
      refine fc_step rfl (fun K hK => ?_)
      go_simp
      (with_reducible refine (RU.out _).mono ?_)
      rintro e y16 ⟨rfl, hk⟩
      refine hK _ _ hk ?_
      clear hK K
      have HQ24 : w5.heap.size ≤ y15.heap.size := Q.out.size
      have Hprev := Q
      replace Q := Lib.hid (keep_trans Q.out hk)
      have hs_y16 : y15.heap.size ≤ y16.heap.size := hk.size
      replace FA := Lib.hid (FA.out.keep hk)
      replace FH := Lib.hid (FH.out.keep hk)
      replace F4 := Lib.hid (F4.out.keep hk)
      replace F12 := Lib.hid (F12.out.keep hk)
      clear hk
      refine fc_step rfl (fun K hK => ?_)
      go_simp
      (with_reducible refine (C26.out _ Q.out).mono ?_)
      rintro e y17 ⟨rfl, hk⟩
      refine hK _ _ hk ?_
      clear hK K
      have HQ26 : w5.heap.size ≤ y16.heap.size := Q.out.size
      have Hprev := Q
      replace Q := Lib.hid (keep_trans Q.out hk)
      have hs_y17 : y16.heap.size ≤ y17.heap.size := hk.size
      replace FA := Lib.hid (FA.out.keep hk)
      replace FH := Lib.hid (FH.out.keep hk)
      replace F4 := Lib.hid (F4.out.keep hk)
      replace F12 := Lib.hid (F12.out.keep hk)
      clear hk
      refine fc_nil (mt_take y17 (Below.refl _ _) ?_)
      simp only [pick_cons, pick_nil, nth_zero, nth_succ]
      have hA0 : Hid (y17.rangeAt ga 0 av.toList) := Lib.hid (range_of FA.out 0 av.toList (by simp [List.take_of_length_le]))
      have hH0 : Hid (y17.rangeAt gh 0 es.toList) := Lib.hid (range_of FH.out 0 es.toList (by simp [List.take_of_length_le]))
      repeat (first
        | ((with_reducible refine wpQuiet_load_partg ga 0 av (Eq.trans ?_ rfl) hA0.out _ Tryd.underlying30 rfl avi (Eq.trans ?_ rfl) ?_); rfl; rfl; simp only [Act.put, Array.set!_eq_setIfInBounds, List.setIfInBounds_toArray, List.set_cons_succ, List.set_cons_zero])
        | ((with_reducible refine wpQuiet_load_partg gh 0 es (Eq.trans ?_ rfl) hH0.out _ Tryd.underlying30 rfl hvi (Eq.trans ?_ rfl) ?_); rfl; rfl; simp only [Act.put, Array.set!_eq_setIfInBounds, List.setIfInBounds_toArray, List.set_cons_succ, List.set_cons_zero])
        | go_big_quiet_step (fail))
      clear hA0 hH0
      refine wpQuiet_nil (mt_end ?_)
      go_wp2
      exact bodyPost_ret (v := .bool true) (by simp [results, Tryd.results8]) rfl ⟨rfl, keep_trans HK5.out Q.out⟩
  · simp only [pick_cons, pick_nil, nth_zero, nth_succ]
    refine fc_step rfl (fun K hK => ?_)
    refine wp_build1b headTb _ (by rfl) av avz (by omega) (by rfl) ?_
    refine hK _ _ (keep_new _ _) ?_
    clear hK K
    obtain ⟨y18, hy⟩ : ∃ y18, y18 = y0.alloc (.cells av 30) := ⟨_, rfl⟩
    have F4 : Hid (Blk y18 y0.heap.size 30 av.toList) := by rw [hy]; exact Blk.new y0 _ av.toList
    have hk : Keep y0 y18 := by rw [hy]; exact keep_new _ _
    rw [← hy]
    clear hy
    have F4s : y0.heap.size < y18.heap.size := F4.out.lt
    have F4n := Q.out.size
    replace Q := Lib.hid (keep_trans Q.out hk)
    have hs_y18 : y0.heap.size ≤ y18.heap.size := hk.size
    replace FA := Lib.hid (FA.out.keep hk)
    replace FH := Lib.hid (FH.out.keep hk)
    clear hk
    generalize hp : y0.heap.size = g4 at *
    have F4a : y0.heap.size ≤ g4 := Nat.le_of_eq hp
    have F4b : g4 ≤ y0.heap.size := Nat.le_of_eq hp.symm
    clear hp
    refine fc_nil (mt_force ?_)
    simp only [pick_cons, pick_nil, nth_zero, nth_succ]
    refine fc_step rfl (fun K hK => ?_)
    go_simp
    (with_reducible refine (RU.out _).mono ?_)
    rintro e y19 ⟨rfl, hk⟩
    refine hK _ _ hk ?_
    clear hK K
    have HQ2 : w5.heap.size ≤ y18.heap.size := Q.out.size
    have Hprev := Q
    replace Q := Lib.hid (keep_trans Q.out hk)
    have hs_y19 : y18.heap.size ≤ y19.heap.size := hk.size
    replace FA := Lib.hid (FA.out.keep hk)
    replace FH := Lib.hid (FH.out.keep hk)
    replace F4 := Lib.hid (F4.out.keep hk)
    clear hk
    refine fc_step rfl (fun K hK => ?_)
    go_simp
    (with_reducible refine (C6.out _ g4 Q.out F4.out).mono ?_)
    rintro e y20 ⟨rfl, hk⟩
    refine hK _ _ hk ?_
    clear hK K
    have HQ6 : w5.heap.size ≤ y19.heap.size := Q.out.size
    have Hprev := Q
    replace Q := Lib.hid (keep_trans Q.out hk)
    have hs_y20 : y19.heap.size ≤ y20.heap.size := hk.size
    replace FA := Lib.hid (FA.out.keep hk)
    replace FH := Lib.hid (FH.out.keep hk)
    replace F4 := Lib.hid (F4.out.keep hk)
    clear hk
    refine fc_nil (mt_take y20 (Below.refl _ _) ?_)
    simp only [pick_cons, pick_nil, nth_zero, nth_succ]
    have hA0 : Hid (y20.rangeAt ga 0 av.toList) := Lib.hid (range_of FA.out 0 av.toList (by simp [List.take_of_length_le]))
    have hH0 : Hid (y20.rangeAt gh 0 es.toList) := Lib.hid (range_of FH.out 0 es.toList (by simp [List.take_of_length_le]))
    repeat (first
      | ((with_reducible refine wpQuiet_load_partg ga 0 av (Eq.trans ?_ rfl) hA0.out _ Tryd.underlying30 rfl avi (Eq.trans ?_ rfl) ?_); rfl; rfl; simp only [Act.put, Array.set!_eq_setIfInBounds, List.setIfInBounds_toArray, List.set_cons_succ, List.set_cons_zero])
      | ((with_reducible refine wpQuiet_load_partg gh 0 es (Eq.trans ?_ rfl) hH0.out _ Tryd.underlying30 rfl hvi (Eq.trans ?_ rfl) ?_); rfl; rfl; simp only [Act.put, Array.set!_eq_setIfInBounds, List.setIfInBounds_toArray, List.set_cons_succ, List.set_cons_zero])
      | go_big_quiet_step (fail))
    clear hA0 hH0
    refine wpQuiet_nil (mt_fork ?_ ?_)
    · simp only [pick_cons, pick_nil, nth_zero, nth_succ]
      refine fc_step rfl (fun K hK => ?_)
      go_simp
      (with_reducible refine (RU.out _).mono ?_)
      rintro e y21 ⟨rfl, hk⟩
      refine hK _ _ hk ?_
      clear hK K
      have HQ10 : w5.heap.size ≤ y20.heap.size := Q.out.size
      have Hprev := Q
      replace Q := Lib.hid (keep_trans Q.out hk)
      have hs_y21 : y20.heap.size ≤ y21.heap.size := hk.size
      replace FA := Lib.hid (FA.out.keep hk)
      replace FH := Lib.hid (FH.out.keep hk)
      replace F4 := Lib.hid (F4.out.keep hk)
      clear hk
      refine fc_nil (mt_force ?_)
      simp only [pick_cons, pick_nil, nth_zero, nth_succ]
      refine fc_step rfl (fun K hK => ?_)
      refine wp_build1b headTb _ (by rfl) av avz (by omega) (by rfl) ?_
      refine hK _ _ (keep_new _ _) ?_
      clear hK K
      obtain ⟨y22, hy⟩ : ∃ y22, y22 = y21.alloc (.cells av 30) := ⟨_, rfl⟩
      have F12 : Hid (Blk y22 y21.heap.size 30 av.toList) := by rw [hy]; exact Blk.new y21 _ av.toList
      have hk : Keep y21 y22 := by rw [hy]; exact keep_new _ _
      rw [← hy]
      clear hy
      have F12s : y21.heap.size < y22.heap.size := F12.out.lt
      have F12n := Q.out.size
      replace Q := Lib.hid (keep_trans Q.out hk)
      have hs_y22 : y21.heap.size ≤ y22.heap.size := hk.size
      replace FA := Lib.hid (FA.out.keep hk)
      replace FH := Lib.hid (FH.out.keep hk)
      replace F4 := Lib.hid (F4.out.keep hk)
      clear hk
      generalize hp : y21.heap.size = g12 at *
      have F12a : y21.heap.size ≤ g12 := Nat.le_of_eq hp
      have F12b : g12 ≤ y21.heap.size := Nat.le_of_eq hp.symm
      clear hp
      refine fc_step rfl (fun K hK => ?_)
      go_simp
      (with_reducible refine (C14.out _ g12 Q.out F12.out).mono ?_)
      rintro e y23 ⟨rfl, hk⟩
      refine hK _ _ hk ?_
      clear hK K
      have HQ14 : w5.heap.size ≤ y22.heap.size := Q.out.size
      have Hprev := Q
      replace Q := Lib.hid (keep_trans Q.out hk)
      have hs_y23 : y22.heap.size ≤ y23.heap.size := hk.size
      replace FA := Lib.hid (FA.out.keep hk)
      replace FH := Lib.hid (FH.out.keep hk)
      replace F4 := Lib.hid (F4.out.keep hk)
      replace F12 := Lib.hid (F12.out.keep hk)
      clear hk
      refine fc_nil (mt_take y23 (Below.refl _ _) ?_)
      simp only [pick_cons, pick_nil, nth_zero, nth_succ]
      have hA0 : Hid (y23.rangeAt ga 0 av.toList) := Lib.hid (range_of FA.out 0 av.toList (by simp [List.take_of_length_le]))
      have hH0 : Hid (y23.rangeAt gh 0 es.toList) := Lib.hid (range_of FH.out 0 es.toList (by simp [List.take_of_length_le]))
      repeat (first
        | ((with_reducible refine wpQuiet_load_partg ga 0 av (Eq.trans ?_ rfl) hA0.out _ Tryd.underlying30 rfl avi (Eq.trans ?_ rfl) ?_); rfl; rfl; simp only [Act.put, Array.set!_eq_setIfInBounds, List.setIfInBounds_toArray, List.set_cons_succ, List.set_cons_zero])
        | ((with_reducible refine wpQuiet_load_partg gh 0 es (Eq.trans ?_ rfl) hH0.out _ Tryd.underlying30 rfl hvi (Eq.trans ?_ rfl) ?_); rfl; rfl; simp only [Act.put, Array.set!_eq_setIfInBounds, List.setIfInBounds_toArray, List.set_cons_succ, List.set_cons_zero])
        | go_big_quiet_step (fail))
      clear hA0 hH0
      refine wpQuiet_nil (mt_force ?_)
      simp only [pick_cons, pick_nil, nth_zero, nth_succ]
      refine fc_step rfl (fun K hK => ?_)
      go_simp
      (with_reducible refine (RU.out _).mono ?_)
      rintro e y24 ⟨rfl, hk⟩
      refine hK _ _ hk ?_
      clear hK K
      have HQ18 : w5.heap.size ≤ y23.heap.size := Q.out.size
      have Hprev := Q
      replace Q := Lib.hid (keep_trans Q.out hk)
      have hs_y24 : y23.heap.size ≤ y24.heap.size := hk.size
      replace FA := Lib.hid (FA.out.keep hk)
      replace FH := Lib.hid (FH.out.keep hk)
      replace F4 := Lib.hid (F4.out.keep hk)
      replace F12 := Lib.hid (F12.out.keep hk)
      clear hk
      refine fc_step rfl (fun K hK => ?_)
      go_simp
      (with_reducible refine (C20.out _ Q.out).mono ?_)
      rintro e y25 ⟨rfl, hk⟩
      refine hK _ _ hk ?_
      clear hK K
      have HQ20 : w5.heap.size ≤ y24.heap.size := Q.out.size
      have Hprev := Q
      replace Q := Lib.hid (keep_trans Q.out hk)
      have hs_y25 : y24.heap.size ≤ y25.heap.size := hk.size
      replace FA := Lib.hid (FA.out.keep hk)
      replace FH := Lib.hid (FH.out.keep hk)
      replace F4 := Lib.hid (F4.out.keep hk)
      replace F12 := Lib.hid (F12.out.keep hk)
      clear hk
      refine fc_nil (mt_take y25 (Below.refl _ _) ?_)
      simp only [pick_cons, pick_nil, nth_zero, nth_succ]
      have hA0 : Hid (y25.rangeAt ga 0 av.toList) := Lib.hid (range_of FA.out 0 av.toList (by simp [List.take_of_length_le]))
      have hH0 : Hid (y25.rangeAt gh 0 es.toList) := Lib.hid (range_of FH.out 0 es.toList (by simp [List.take_of_length_le]))
      repeat (first
        | ((with_reducible refine wpQuiet_load_partg ga 0 av (Eq.trans ?_ rfl) hA0.out _ Tryd.underlying30 rfl avi (Eq.trans ?_ rfl) ?_); rfl; rfl; simp only [Act.put, Array.set!_eq_setIfInBounds, List.setIfInBounds_toArray, List.set_cons_succ, List.set_cons_zero])
        | ((with_reducible refine wpQuiet_load_partg gh 0 es (Eq.trans ?_ rfl) hH0.out _ Tryd.underlying30 rfl hvi (Eq.trans ?_ rfl) ?_); rfl; rfl; simp only [Act.put, Array.set!_eq_setIfInBounds, List.setIfInBounds_toArray, List.set_cons_succ, List.set_cons_zero])
        | go_big_quiet_step (fail))
      clear hA0 hH0
      refine wpQuiet_nil (mt_force ?_)
      simp only [pick_cons, pick_nil, nth_zero, nth_succ]
      refine fc_step rfl (fun K hK => ?_)
      go_simp
      (with_reducible refine (RU.out _).mono ?_)
      rintro e y26 ⟨rfl, hk⟩
      refine hK _ _ hk ?_
      clear hK K
      have HQ24 : w5.heap.size ≤ y25.heap.size := Q.out.size
      have Hprev := Q
      replace Q := Lib.hid (keep_trans Q.out hk)
      have hs_y26 : y25.heap.size ≤ y26.heap.size := hk.size
      replace FA := Lib.hid (FA.out.keep hk)
      replace FH := Lib.hid (FH.out.keep hk)
      replace F4 := Lib.hid (F4.out.keep hk)
      replace F12 := Lib.hid (F12.out.keep hk)
      clear hk
      refine fc_step rfl (fun K hK => ?_)
      go_simp
      (with_reducible refine (C26.out _ Q.out).mono ?_)
      rintro e y27 ⟨rfl, hk⟩
      refine hK _ _ hk ?_
      clear hK K
      have HQ26 : w5.heap.size ≤ y26.heap.size := Q.out.size
      have Hprev := Q
      replace Q := Lib.hid (keep_trans Q.out hk)
      have hs_y27 : y26.heap.size ≤ y27.heap.size := hk.size
      replace FA := Lib.hid (FA.out.keep hk)
      replace FH := Lib.hid (FH.out.keep hk)
      replace F4 := Lib.hid (F4.out.keep hk)
      replace F12 := Lib.hid (F12.out.keep hk)
      clear hk
      refine fc_nil (mt_take y27 (Below.refl _ _) ?_)
      simp only [pick_cons, pick_nil, nth_zero, nth_succ]
      have hA0 : Hid (y27.rangeAt ga 0 av.toList) := Lib.hid (range_of FA.out 0 av.toList (by simp [List.take_of_length_le]))
      have hH0 : Hid (y27.rangeAt gh 0 es.toList) := Lib.hid (range_of FH.out 0 es.toList (by simp [List.take_of_length_le]))
      repeat (first
        | ((with_reducible refine wpQuiet_load_partg ga 0 av (Eq.trans ?_ rfl) hA0.out _ Tryd.underlying30 rfl avi (Eq.trans ?_ rfl) ?_); rfl; rfl; simp only [Act.put, Array.set!_eq_setIfInBounds, List.setIfInBounds_toArray, List.set_cons_succ, List.set_cons_zero])
        | ((with_reducible refine wpQuiet_load_partg gh 0 es (Eq.trans ?_ rfl) hH0.out _ Tryd.underlying30 rfl hvi (Eq.trans ?_ rfl) ?_); rfl; rfl; simp only [Act.put, Array.set!_eq_setIfInBounds, List.setIfInBounds_toArray, List.set_cons_succ, List.set_cons_zero])
        | go_big_quiet_step (fail))
      clear hA0 hH0
      refine wpQuiet_nil (mt_end ?_)
      go_wp2
      exact bodyPost_ret (v := .bool true) (by simp [results, Tryd.results8]) rfl ⟨rfl, keep_trans HK5.out Q.out⟩
    · simp only [pick_cons, pick_nil, nth_zero, nth_succ]
      refine fc_step rfl (fun K hK => ?_)
      refine wp_build1b headTb _ (by rfl) av avz (by omega) (by rfl) ?_
      refine hK _ _ (keep_new _ _) ?_
      clear hK K
      obtain ⟨y28, hy⟩ : ∃ y28, y28 = y20.alloc (.cells av 30) := ⟨_, rfl⟩
      have F12 : Hid (Blk y28 y20.heap.size 30 av.toList) := by rw [hy]; exact Blk.new y20 _ av.toList
      have hk : Keep y20 y28 := by rw [hy]; exact keep_new _ _
      rw [← hy]
      clear hy
      have F12s : y20.heap.size < y28.heap.size := F12.out.lt
      have F12n := Q.out.size
      replace Q := Lib.hid (keep_trans Q.out hk)
      have hs_y28 : y20.heap.size ≤ y28.heap.size := hk.size
      replace FA := Lib.hid (FA.out.keep hk)
      replace FH := Lib.hid (FH.out.keep hk)
      replace F4 := Lib.hid (F4.out.keep hk)
      clear hk
      generalize hp : y20.heap.size = g12 at *
      have F12a : y20.heap.size ≤ g12 := Nat.le_of_eq hp
      have F12b : g12 ≤ y20.heap.size := Nat.le_of_eq hp.symm
      clear hp
      refine fc_nil (mt_force ?_)
      simp only [pick_cons, pick_nil, nth_zero, nth_succ]
      refine fc_step rfl (fun K hK => ?_)
      go_simp
      (with_reducible refine (RU.out _).mono ?_)
      rintro e y29 ⟨rfl, hk⟩
      refine hK _ _ hk ?_
      clear hK K
      have HQ10 : w5.heap.size ≤ y28.heap.size := Q.out.size
      have Hprev := Q
      replace Q := Lib.hid (keep_trans Q.out hk)
      have hs_y29 : y28.heap.size ≤ y29.heap.size := hk.size
      replace FA := Lib.hid (FA.out.keep hk)
      replace FH := Lib.hid (FH.out.keep hk)
      replace F4 := Lib.hid (F4.out.keep hk)
      replace F12 := Lib.hid (F12.out.keep hk)
      clear hk
      refine fc_step rfl (fun K hK => ?_)
      go_simp
      (with_reducible refine (C14.out _ g12 Q.out F12.out).mono ?_)
      rintro e y30 ⟨rfl, hk⟩
      refine hK _ _ hk ?_
      clear hK K
      have HQ14 : w5.heap.size ≤ y29.heap.size := Q.out.size
      have Hprev := Q
      replace Q := Lib.hid (keep_trans Q.out hk)
      have hs_y30 : y29.heap.size ≤ y30.heap.size := hk.size
      replace FA := Lib.hid (FA.out.keep hk)
      replace FH := Lib.hid (FH.out.keep hk)
      replace F4 := Lib.hid (F4.out.keep hk)
      replace F12 := Lib.hid (F12.out.keep hk)
      clear hk
      refine fc_nil (mt_take y30 (Below.refl _ _) ?_)
      simp only [pick_cons, pick_nil, nth_zero, nth_succ]
      have hA0 : Hid (y30.rangeAt ga 0 av.toList) := Lib.hid (range_of FA.out 0 av.toList (by simp [List.take_of_length_le]))
      have hH0 : Hid (y30.rangeAt gh 0 es.toList) := Lib.hid (range_of FH.out 0 es.toList (by simp [List.take_of_length_le]))
      repeat (first
        | ((with_reducible refine wpQuiet_load_partg ga 0 av (Eq.trans ?_ rfl) hA0.out _ Tryd.underlying30 rfl avi (Eq.trans ?_ rfl) ?_); rfl; rfl; simp only [Act.put, Array.set!_eq_setIfInBounds, List.setIfInBounds_toArray, List.set_cons_succ, List.set_cons_zero])
        | ((with_reducible refine wpQuiet_load_partg gh 0 es (Eq.trans ?_ rfl) hH0.out _ Tryd.underlying30 rfl hvi (Eq.trans ?_ rfl) ?_); rfl; rfl; simp only [Act.put, Array.set!_eq_setIfInBounds, List.setIfInBounds_toArray, List.set_cons_succ, List.set_cons_zero])
        | go_big_quiet_step (fail))
      clear hA0 hH0
      refine wpQuiet_nil (mt_force ?_)
      simp only [pick_cons, pick_nil, nth_zero, nth_succ]
      refine fc_step rfl (fun K hK => ?_)
      go_simp
      (with_reducible refine (RU.out _).mono ?_)
      rintro e y31 ⟨rfl, hk⟩
      refine hK _ _ hk ?_
      clear hK K
      have HQ18 : w5.heap.size ≤ y30.heap.size := Q.out.size
      have Hprev := Q
      replace Q := Lib.hid (keep_trans Q.out hk)
      have hs_y31 : y30.heap.size ≤ y31.heap.size := hk.size
      replace FA := Lib.hid (FA.out.keep hk)
      replace FH := Lib.hid (FH.out.keep hk)
      replace F4 := Lib.hid (F4.out.keep hk)
      replace F12 := Lib.hid (F12.out.keep hk)
      clear hk
      refine fc_step rfl (fun K hK => ?_)
      go_simp
      (with_reducible refine (C20.out _ Q.out).mono ?_)
      rintro e y32 ⟨rfl, hk⟩
      refine hK _ _ hk ?_
      clear hK K
      have HQ20 : w5.heap.size ≤ y31.heap.size := Q.out.size
      have Hprev := Q
      replace Q := Lib.hid (keep_trans Q.out hk)
      have hs_y32 : y31.heap.size ≤ y32.heap.size := hk.size
      replace FA := Lib.hid (FA.out.keep hk)
      replace FH := Lib.hid (FH.out.keep hk)
      replace F4 := Lib.hid (F4.out.keep hk)
      replace F12 := Lib.hid (F12.out.keep hk)
      clear hk
      refine fc_nil (mt_take y32 (Below.refl _ _) ?_)
      simp only [pick_cons, pick_nil, nth_zero, nth_succ]
      have hA0 : Hid (y32.rangeAt ga 0 av.toList) := Lib.hid (range_of FA.out 0 av.toList (by simp [List.take_of_length_le]))
      have hH0 : Hid (y32.rangeAt gh 0 es.toList) := Lib.hid (range_of FH.out 0 es.toList (by simp [List.take_of_length_le]))
      repeat (first
        | ((with_reducible refine wpQuiet_load_partg ga 0 av (Eq.trans ?_ rfl) hA0.out _ Tryd.underlying30 rfl avi (Eq.trans ?_ rfl) ?_); rfl; rfl; simp only [Act.put, Array.set!_eq_setIfInBounds, List.setIfInBounds_toArray, List.set_cons_succ, List.set_cons_zero])
        | ((with_reducible refine wpQuiet_load_partg gh 0 es (Eq.trans ?_ rfl) hH0.out _ Tryd.underlying30 rfl hvi (Eq.trans ?_ rfl) ?_); rfl; rfl; simp only [Act.put, Array.set!_eq_setIfInBounds, List.setIfInBounds_toArray, List.set_cons_succ, List.set_cons_zero])
        | go_big_quiet_step (fail))
      clear hA0 hH0
      refine wpQuiet_nil (mt_force ?_)
      simp only [pick_cons, pick_nil, nth_zero, nth_succ]
      refine fc_step rfl (fun K hK => ?_)
      go_simp
      (with_reducible refine (RU.out _).mono ?_)
      rintro e y33 ⟨rfl, hk⟩
      refine hK _ _ hk ?_
      clear hK K
      have HQ24 : w5.heap.size ≤ y32.heap.size := Q.out.size
      have Hprev := Q
      replace Q := Lib.hid (keep_trans Q.out hk)
      have hs_y33 : y32.heap.size ≤ y33.heap.size := hk.size
      replace FA := Lib.hid (FA.out.keep hk)
      replace FH := Lib.hid (FH.out.keep hk)
      replace F4 := Lib.hid (F4.out.keep hk)
      replace F12 := Lib.hid (F12.out.keep hk)
      clear hk
      refine fc_step rfl (fun K hK => ?_)
      go_simp
      (with_reducible refine (C26.out _ Q.out).mono ?_)
      rintro e y34 ⟨rfl, hk⟩
      refine hK _ _ hk ?_
      clear hK K
      have HQ26 : w5.heap.size ≤ y33.heap.size := Q.out.size
      have Hprev := Q
      replace Q := Lib.hid (keep_trans Q.out hk)
      have hs_y34 : y33.heap.size ≤ y34.heap.size := hk.size
      replace FA := Lib.hid (FA.out.keep hk)
      replace FH := Lib.hid (FH.out.keep hk)
      replace F4 := Lib.hid (F4.out.keep hk)
      replace F12 := Lib.hid (F12.out.keep hk)
      clear hk
      refine fc_nil (mt_take y34 (Below.refl _ _) ?_)
      simp only [pick_cons, pick_nil, nth_zero, nth_succ]
      have hA0 : Hid (y34.rangeAt ga 0 av.toList) := Lib.hid (range_of FA.out 0 av.toList (by simp [List.take_of_length_le]))
      have hH0 : Hid (y34.rangeAt gh 0 es.toList) := Lib.hid (range_of FH.out 0 es.toList (by simp [List.take_of_length_le]))
      repeat (first
        | ((with_reducible refine wpQuiet_load_partg ga 0 av (Eq.trans ?_ rfl) hA0.out _ Tryd.underlying30 rfl avi (Eq.trans ?_ rfl) ?_); rfl; rfl; simp only [Act.put, Array.set!_eq_setIfInBounds, List.setIfInBounds_toArray, List.set_cons_succ, List.set_cons_zero])
        | ((with_reducible refine wpQuiet_load_partg gh 0 es (Eq.trans ?_ rfl) hH0.out _ Tryd.underlying30 rfl hvi (Eq.trans ?_ rfl) ?_); rfl; rfl; simp only [Act.put, Array.set!_eq_setIfInBounds, List.setIfInBounds_toArray, List.set_cons_succ, List.set_cons_zero])
        | go_big_quiet_step (fail))
      clear hA0 hH0
      refine wpQuiet_nil (mt_end ?_)
      go_wp2
      exact bodyPost_ret (v := .bool true) (by simp [results, Tryd.results8]) rfl ⟨rfl, keep_trans HK5.out Q.out⟩
end Go.Proofs.YteoilddiilegmaaDoor
