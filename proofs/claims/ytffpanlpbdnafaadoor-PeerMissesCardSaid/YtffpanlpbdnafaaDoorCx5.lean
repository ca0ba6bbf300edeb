/- Texts merged by pack.py: Vt, Vu, Vv, Qa, Qb, Qc, Qd, Qe, Qf. -/
import Derived.Test.YtffpanlpbdnafaaDoorCx4
import Derived.Test.YtffpanlpbdnafaaDoorCx3
/- wire.others. (printed by gen_vt.py) -/
set_option linter.unusedSimpArgs false
set_option linter.unusedVariables false
namespace Go.Proofs.YtffpanlpbdnafaaDoor
open Go.RowKit
attribute [local go_sem ↓] Go.wp_at_zero Go.wp_at_succ

theorem zhash_letter32 : ∃ zs : Array Value, HashA z32 zs ∧ (∀ w, (zeroValue 39).run Tryd.prog w = .ok (.agg zs) w) :=
  ⟨zhash, ⟨zhash_list, zhash_size, by rw [zhash_size]; kernel_rfl, (fun h => by have := zhash_size; rw [h] at this; cases this), by rw [zhash_list]; exact one_w8 _, by rw [show z32.map u8v = zhash.toList from zhash_list.symm, Array.toArray_toList]⟩, zhash_zero⟩

set_option maxRecDepth 100000 in
set_option maxHeartbeats 8000000 in
theorem others_any (m : MsgR) (cs : Array Value) (hA : MsA m cs) (hk : m.ok) (w : World) :
    Calls Tryd.prog 36 #[.agg cs] w fun e w' => ∃ ds, e = .returned (.agg ds) ∧ MsA (othersM m) ds ∧ Keep w w' := by
  obtain ⟨ys, hyz, hyA⟩ := zmsg_letter
  obtain ⟨zb, hbz, hb0, hbn, hbl, hbi⟩ := zblk_letter
  obtain ⟨zh, hzA, hz0⟩ := zhash_letter32
  have hzn := hzA.n; have hzz := hzA.z
  have hyn := hyA.n
  have hcn := hA.n; have hcz := hA.z; have hci := hA.i
  have HA := Lib.hid hA; have HK := Lib.hid hk; have HY := Lib.hid hyA; have HZ := Lib.hid hzA; have HBL := Lib.hid hbl
  have HOK := Lib.hid (othersM_ok hk)
  have HOM : Hid (∀ X, othersM m = X → X.ok → ∃ ds, MsA X ds ∧ X.ok) := Lib.hid fun X h1 h2 => ⟨_, MsA.of h2, h2⟩
  have HSC : Hid (∀ X, othersM m = X → othersM m = X) := Lib.hid fun X h => h
  clear hA hk hyA hzA hbl
  have e0 : othersM m = othersM m := rfl
  have HD : Hid (othersM m = if m.kind = 0 then { m with proto := 0, nonce := 0, height := 0 }
    else if m.kind = 2 ∨ m.kind = 3 then { m with nonce := 0 }
    else if m.kind = 4 then { m with proto := 0, lA := none, ls := [], lc := 0, stop := z32 }
    else if m.kind = 5 then { m with hA := none, hs := [], hc := 0 }
    else if m.kind = 6 ∨ m.kind = 7 ∨ m.kind = 8 then { m with iA := none, is := [], ic := 0 }
    else if m.kind = 9 then { m with bh := zHdr, total := 0, sA := none, shs := [], sc := 0, fA := none, fs := [], fc := 0 }
    else if m.kind = 10 then { m with t := txZ }
    else m) := Lib.hid rfl
  clear e0 HOM HSC
  generalize othersM m = M at *
  go_enter Tryd.func36, Tryd.ntmps36
  go_upto_region 1 with fail
  obtain ⟨w1, hw1⟩ : ∃ w1, w1 = (w.alloc (.cells cs 50)).alloc (.cells ys 50) := ⟨_, rfl⟩
  have HB1 : Hid (Blk w1 w.heap.size 50 m.cells) := by rw [hw1, ← HA.out.l]; exact (Blk.new w _ cs.toList).alloc _
  have HR1 : Hid (Blk w1 (w.heap.size + 1) 50 ys.toList) := by
    rw [hw1]
    have h2 := Blk.new (w.alloc (.cells cs 50)) 50 ys.toList
    rw [World.size_alloc] at h2
    exact h2
  have HK1 : Hid (Keep w w1) := by rw [hw1]; exact keep_trans (keep_new _ _) (keep_new _ _)
  rw [← hw1]
  clear hw1
  have r0 : w1.cell? ⟨w.heap.size, 0, none⟩ = some (.int .i64 m.kind) := (HB1.out.cell 0).trans rfl
  by_cases h0 : m.kind = 0
  · have HM : Hid (M = { m with proto := 0, nonce := 0, height := 0 }) := Lib.hid (HD.out.trans (by repeat (first | rw [if_pos (by omega)] | rw [if_neg (by omega)])))
    have d0 : (m.kind == 0) = true := by rw [beq_iff_eq]; omega
    clear HD h0 
    have r1 : w1.cell? ⟨w.heap.size, 1, none⟩ = some (u32v m.proto) := (HB1.out.cell 1).trans rfl
    have f1 := HB1.out.frozen 1
    have r2 : w1.cell? ⟨w.heap.size, 2, none⟩ = some (u64v m.nonce) := (HB1.out.cell 2).trans rfl
    have f2 := HB1.out.frozen 2
    have r3 : w1.cell? ⟨w.heap.size, 3, none⟩ = some (u32v m.height) := (HB1.out.cell 3).trans rfl
    have f3 := HB1.out.frozen 3
    go_upto_region 19 with fail
    obtain ⟨wx, hwx⟩ : ∃ wx, wx = (((w1.setCell ⟨w.heap.size, 1, none⟩ (.int .u32 0)).setCell ⟨w.heap.size, 2, none⟩ (.int .u64 0)).setCell ⟨w.heap.size, 3, none⟩ (.int .u32 0)) := ⟨_, rfl⟩
    have HX : Blk wx w.heap.size 50 M.cells := by
      rw [hwx, HM.out]
      have q := (((HB1.out.set_ 1 (.int .u32 0)).set_ 2 (.int .u64 0)).set_ 3 (.int .u32 0))
      exact q
    have HRX : Hid (Blk wx (w.heap.size + 1) 50 ys.toList) := by rw [hwx]; exact Lib.hid (((HR1.out.far (by simp <;> omega) _).far (by simp <;> omega) _).far (by simp <;> omega) _)
    have HKX : Hid (Keep w wx) := by rw [hwx]; exact Lib.hid (Below.setCell (Below.setCell (Below.setCell HK1.out (by simp <;> omega) _) (by simp <;> omega) _) (by simp <;> omega) _)
    rw [← hwx]
    clear hwx r1 f1 r2 f2 r3 f3 r0
    obtain ⟨ds, hds⟩ : ∃ ds, MsA M ds := ⟨_, MsA.of HOK.out⟩
    have hdz := hds.z; have hdn := hds.n; have hdi := hds.i
    have HDS := Lib.hid hds
    have HBx : Hid (Blk wx w.heap.size 50 ds.toList) := by rw [HDS.out.l]; exact HX
    obtain ⟨w8, hst8, hb8, hg8⟩ := run_store_blk (P := Tryd.prog) ds.toList HRX.out (by rw [Array.length_toList, Array.length_toList, hdz, HY.out.z]) HDS.out.o
    have Hb8 := Lib.hid hb8; have Hg8 := Lib.hid hg8
    clear hds hb8 hg8 HX HRX HB1 HR1
    go_wp2_with ((with_reducible refine load_arr w.heap.size ds (Eq.trans ?_ rfl) HBx.out _ Tryd.underlying50 rfl hdi ?_); rfl)
    have hb8 := Hb8.out
    exact bodyPost_ret (v := .agg ds) (results_cell_row Tryd.results36 _ _ (w.heap.size + 1) _ _ _ _ rfl hb8 Tryd.underlying50 rfl (by rw [List.size_toArray, Array.length_toList]; exact hdi)) rfl ⟨ds, rfl, HDS.out, HKX.out.grown Hg8.out HKX.out.size (fun q hq => by injection hq with hq; omega)⟩
  by_cases h2 : m.kind = 2
  · have HM : Hid (M = { m with nonce := 0 }) := Lib.hid (HD.out.trans (by repeat (first | rw [if_pos (by omega)] | rw [if_neg (by omega)])))
    have d0 : (m.kind == 0) = false := by rw [beq_eq_false_iff_ne]; omega
    have d2 : (m.kind == 2) = true := by rw [beq_iff_eq]; omega
    clear HD h2 h0
    have r2 : w1.cell? ⟨w.heap.size, 2, none⟩ = some (u64v m.nonce) := (HB1.out.cell 2).trans rfl
    have f2 := HB1.out.frozen 2
    go_upto_region 19 with fail
    obtain ⟨wx, hwx⟩ : ∃ wx, wx = (w1.setCell ⟨w.heap.size, 2, none⟩ (.int .u64 0)) := ⟨_, rfl⟩
    have HX : Blk wx w.heap.size 50 M.cells := by
      rw [hwx, HM.out]
      have q := (HB1.out.set_ 2 (.int .u64 0))
      exact q
    have HRX : Hid (Blk wx (w.heap.size + 1) 50 ys.toList) := by rw [hwx]; exact Lib.hid (HR1.out.far (by simp <;> omega) _)
    have HKX : Hid (Keep w wx) := by rw [hwx]; exact Lib.hid (Below.setCell HK1.out (by simp <;> omega) _)
    rw [← hwx]
    clear hwx r2 f2 r0
    obtain ⟨ds, hds⟩ : ∃ ds, MsA M ds := ⟨_, MsA.of HOK.out⟩
    have hdz := hds.z; have hdn := hds.n; have hdi := hds.i
    have HDS := Lib.hid hds
    have HBx : Hid (Blk wx w.heap.size 50 ds.toList) := by rw [HDS.out.l]; exact HX
    obtain ⟨w8, hst8, hb8, hg8⟩ := run_store_blk (P := Tryd.prog) ds.toList HRX.out (by rw [Array.length_toList, Array.length_toList, hdz, HY.out.z]) HDS.out.o
    have Hb8 := Lib.hid hb8; have Hg8 := Lib.hid hg8
    clear hds hb8 hg8 HX HRX HB1 HR1
    go_wp2_with ((with_reducible refine load_arr w.heap.size ds (Eq.trans ?_ rfl) HBx.out _ Tryd.underlying50 rfl hdi ?_); rfl)
    have hb8 := Hb8.out
    exact bodyPost_ret (v := .agg ds) (results_cell_row Tryd.results36 _ _ (w.heap.size + 1) _ _ _ _ rfl hb8 Tryd.underlying50 rfl (by rw [List.size_toArray, Array.length_toList]; exact hdi)) rfl ⟨ds, rfl, HDS.out, HKX.out.grown Hg8.out HKX.out.size (fun q hq => by injection hq with hq; omega)⟩
  by_cases h3 : m.kind = 3
  · have HM : Hid (M = { m with nonce := 0 }) := Lib.hid (HD.out.trans (by repeat (first | rw [if_pos (by omega)] | rw [if_neg (by omega)])))
    have d0 : (m.kind == 0) = false := by rw [beq_eq_false_iff_ne]; omega
    have d2 : (m.kind == 2) = false := by rw [beq_eq_false_iff_ne]; omega
    have d3 : (m.kind == 3) = true := by rw [beq_iff_eq]; omega
    clear HD h3 h0 h2
    have r2 : w1.cell? ⟨w.heap.size, 2, none⟩ = some (u64v m.nonce) := (HB1.out.cell 2).trans rfl
    have f2 := HB1.out.frozen 2
    go_upto_region 19 with fail
    obtain ⟨wx, hwx⟩ : ∃ wx, wx = (w1.setCell ⟨w.heap.size, 2, none⟩ (.int .u64 0)) := ⟨_, rfl⟩
    have HX : Blk wx w.heap.size 50 M.cells := by
      rw [hwx, HM.out]
      have q := (HB1.out.set_ 2 (.int .u64 0))
      exact q
    have HRX : Hid (Blk wx (w.heap.size + 1) 50 ys.toList) := by rw [hwx]; exact Lib.hid (HR1.out.far (by simp <;> omega) _)
    have HKX : Hid (Keep w wx) := by rw [hwx]; exact Lib.hid (Below.setCell HK1.out (by simp <;> omega) _)
    rw [← hwx]
    clear hwx r2 f2 r0
    obtain ⟨ds, hds⟩ : ∃ ds, MsA M ds := ⟨_, MsA.of HOK.out⟩
    have hdz := hds.z; have hdn := hds.n; have hdi := hds.i
    have HDS := Lib.hid hds
    have HBx : Hid (Blk wx w.heap.size 50 ds.toList) := by rw [HDS.out.l]; exact HX
    obtain ⟨w8, hst8, hb8, hg8⟩ := run_store_blk (P := Tryd.prog) ds.toList HRX.out (by rw [Array.length_toList, Array.length_toList, hdz, HY.out.z]) HDS.out.o
    have Hb8 := Lib.hid hb8; have Hg8 := Lib.hid hg8
    clear hds hb8 hg8 HX HRX HB1 HR1
    go_wp2_with ((with_reducible refine load_arr w.heap.size ds (Eq.trans ?_ rfl) HBx.out _ Tryd.underlying50 rfl hdi ?_); rfl)
    have hb8 := Hb8.out
    exact bodyPost_ret (v := .agg ds) (results_cell_row Tryd.results36 _ _ (w.heap.size + 1) _ _ _ _ rfl hb8 Tryd.underlying50 rfl (by rw [List.size_toArray, Array.length_toList]; exact hdi)) rfl ⟨ds, rfl, HDS.out, HKX.out.grown Hg8.out HKX.out.size (fun q hq => by injection hq with hq; omega)⟩
  by_cases h4 : m.kind = 4
  · have HM : Hid (M = { m with proto := 0, lA := none, ls := [], lc := 0, stop := z32 }) := Lib.hid (HD.out.trans (by repeat (first | rw [if_pos (by omega)] | rw [if_neg (by omega)])))
    have d0 : (m.kind == 0) = false := by rw [beq_eq_false_iff_ne]; omega
    have d2 : (m.kind == 2) = false := by rw [beq_eq_false_iff_ne]; omega
    have d3 : (m.kind == 3) = false := by rw [beq_eq_false_iff_ne]; omega
    have d4 : (m.kind == 4) = true := by rw [beq_iff_eq]; omega
    clear HD h4 h0 h2 h3
    have r1 : w1.cell? ⟨w.heap.size, 1, none⟩ = some (u32v m.proto) := (HB1.out.cell 1).trans rfl
    have f1 := HB1.out.frozen 1
    have r5 : w1.cell? ⟨w.heap.size, 5, none⟩ = some (.slice m.lA m.ls.length m.lc) := (HB1.out.cell 5).trans rfl
    have f5 := HB1.out.frozen 5
    obtain ⟨wy, hwy⟩ : ∃ wy, wy = ((w1.setCell ⟨w.heap.size, 1, none⟩ (.int .u32 0)).setCell ⟨w.heap.size, 5, none⟩ (.slice none 0 0)) := ⟨_, rfl⟩
    have HBy : Hid (Blk wy w.heap.size 50 (MsgR.cells { m with proto := 0, lA := none, ls := [], lc := 0 })) := by
      rw [hwy]; exact Lib.hid ((HB1.out.set_ 1 (.int .u32 0)).set_ 5 (.slice none 0 0))
    have HRy : Hid (Blk wy (w.heap.size + 1) 50 ys.toList) := by rw [hwy]; exact Lib.hid ((HR1.out.far (by simp <;> omega) _).far (by simp <;> omega) _)
    have HKy : Hid (Keep w wy) := by rw [hwy]; exact Lib.hid (Below.setCell (Below.setCell HK1.out (by simp <;> omega) _) (by simp <;> omega) _)
    have HKo : Hid (MsgR.ok { m with proto := 0, lA := none, ls := [], lc := 0 }) := Lib.hid ⟨HK.out.k, HK.out.n, HK.out.s, HK.out.b, HK.out.h, (fun x q => by cases q), HK.out.i, HK.out.z⟩
    obtain ⟨wx, hst, hbx, hgx⟩ := run_store_prt (P := Tryd.prog) 6 zh.toList HBy.out (by rw [MsgR.len HKo.out, Array.length_toList, HZ.out.z]; omega) HZ.out.o
    have HBX := Lib.hid hbx; have HGX := Lib.hid hgx
    rw [hwy] at hst
    clear hbx hgx
    go_upto_region 19 with fail
    have HX : Blk wx w.heap.size 50 M.cells := by
      rw [HM.out]
      have q := HBX.out
      rw [HZ.out.l, MsgR.splice_stop HKo.out rfl] at q
      exact q
    have HRX : Hid (Blk wx (w.heap.size + 1) 50 ys.toList) := Lib.hid (HRy.out.grown HGX.out (fun q => by injection q with q; omega))
    have HKX : Hid (Keep w wx) := Lib.hid (HKy.out.grown HGX.out HKy.out.size (fun q hq => by injection hq with hq; omega))
    clear hst hwy HBX r1 r5 f1 f5 r0
    obtain ⟨ds, hds⟩ : ∃ ds, MsA M ds := ⟨_, MsA.of HOK.out⟩
    have hdz := hds.z; have hdn := hds.n; have hdi := hds.i
    have HDS := Lib.hid hds
    have HBx : Hid (Blk wx w.heap.size 50 ds.toList) := by rw [HDS.out.l]; exact HX
    obtain ⟨w8, hst8, hb8, hg8⟩ := run_store_blk (P := Tryd.prog) ds.toList HRX.out (by rw [Array.length_toList, Array.length_toList, hdz, HY.out.z]) HDS.out.o
    have Hb8 := Lib.hid hb8; have Hg8 := Lib.hid hg8
    clear hds hb8 hg8 HX HRX HB1 HR1
    go_wp2_with ((with_reducible refine load_arr w.heap.size ds (Eq.trans ?_ rfl) HBx.out _ Tryd.underlying50 rfl hdi ?_); rfl)
    have hb8 := Hb8.out
    exact bodyPost_ret (v := .agg ds) (results_cell_row Tryd.results36 _ _ (w.heap.size + 1) _ _ _ _ rfl hb8 Tryd.underlying50 rfl (by rw [List.size_toArray, Array.length_toList]; exact hdi)) rfl ⟨ds, rfl, HDS.out, HKX.out.grown Hg8.out HKX.out.size (fun q hq => by injection hq with hq; omega)⟩
  by_cases h5 : m.kind = 5
  · have HM : Hid (M = { m with hA := none, hs := [], hc := 0 }) := Lib.hid (HD.out.trans (by repeat (first | rw [if_pos (by omega)] | rw [if_neg (by omega)])))
    have d0 : (m.kind == 0) = false := by rw [beq_eq_false_iff_ne]; omega
    have d2 : (m.kind == 2) = false := by rw [beq_eq_false_iff_ne]; omega
    have d3 : (m.kind == 3) = false := by rw [beq_eq_false_iff_ne]; omega
    have d4 : (m.kind == 4) = false := by rw [beq_eq_false_iff_ne]; omega
    have d5 : (m.kind == 5) = true := by rw [beq_iff_eq]; omega
    clear HD h5 h0 h2 h3 h4
    have r4 : w1.cell? ⟨w.heap.size, 4, none⟩ = some (.slice m.hA m.hs.length m.hc) := (HB1.out.cell 4).trans rfl
    have f4 := HB1.out.frozen 4
    go_upto_region 19 with fail
    obtain ⟨wx, hwx⟩ : ∃ wx, wx = (w1.setCell ⟨w.heap.size, 4, none⟩ (.slice none 0 0)) := ⟨_, rfl⟩
    have HX : Blk wx w.heap.size 50 M.cells := by
      rw [hwx, HM.out]
      have q := (HB1.out.set_ 4 (.slice none 0 0))
      exact q
    have HRX : Hid (Blk wx (w.heap.size + 1) 50 ys.toList) := by rw [hwx]; exact Lib.hid (HR1.out.far (by simp <;> omega) _)
    have HKX : Hid (Keep w wx) := by rw [hwx]; exact Lib.hid (Below.setCell HK1.out (by simp <;> omega) _)
    rw [← hwx]
    clear hwx r4 f4 r0
    obtain ⟨ds, hds⟩ : ∃ ds, MsA M ds := ⟨_, MsA.of HOK.out⟩
    have hdz := hds.z; have hdn := hds.n; have hdi := hds.i
    have HDS := Lib.hid hds
    have HBx : Hid (Blk wx w.heap.size 50 ds.toList) := by rw [HDS.out.l]; exact HX
    obtain ⟨w8, hst8, hb8, hg8⟩ := run_store_blk (P := Tryd.prog) ds.toList HRX.out (by rw [Array.length_toList, Array.length_toList, hdz, HY.out.z]) HDS.out.o
    have Hb8 := Lib.hid hb8; have Hg8 := Lib.hid hg8
    clear hds hb8 hg8 HX HRX HB1 HR1
    go_wp2_with ((with_reducible refine load_arr w.heap.size ds (Eq.trans ?_ rfl) HBx.out _ Tryd.underlying50 rfl hdi ?_); rfl)
    have hb8 := Hb8.out
    exact bodyPost_ret (v := .agg ds) (results_cell_row Tryd.results36 _ _ (w.heap.size + 1) _ _ _ _ rfl hb8 Tryd.underlying50 rfl (by rw [List.size_toArray, Array.length_toList]; exact hdi)) rfl ⟨ds, rfl, HDS.out, HKX.out.grown Hg8.out HKX.out.size (fun q hq => by injection hq with hq; omega)⟩
  by_cases h6 : m.kind = 6
  · have HM : Hid (M = { m with iA := none, is := [], ic := 0 }) := Lib.hid (HD.out.trans (by repeat (first | rw [if_pos (by omega)] | rw [if_neg (by omega)])))
    have d0 : (m.kind == 0) = false := by rw [beq_eq_false_iff_ne]; omega
    have d2 : (m.kind == 2) = false := by rw [beq_eq_false_iff_ne]; omega
    have d3 : (m.kind == 3) = false := by rw [beq_eq_false_iff_ne]; omega
    have d4 : (m.kind == 4) = false := by rw [beq_eq_false_iff_ne]; omega
    have d5 : (m.kind == 5) = false := by rw [beq_eq_false_iff_ne]; omega
    have d6 : (m.kind == 6) = true := by rw [beq_iff_eq]; omega
    clear HD h6 h0 h2 h3 h4 h5
    have r38 : w1.cell? ⟨w.heap.size, 38, none⟩ = some (.slice m.iA m.is.length m.ic) := (HB1.out.cell 38).trans ((MsgR.tail_get HK.out 0).trans rfl)
    have f38 := HB1.out.frozen 38
    go_upto_region 19 with fail
    obtain ⟨wx, hwx⟩ : ∃ wx, wx = (w1.setCell ⟨w.heap.size, 38, none⟩ (.slice none 0 0)) := ⟨_, rfl⟩
    have HX : Blk wx w.heap.size 50 M.cells := by
      rw [hwx, HM.out]
      have q := (HB1.out.set_ 38 (.slice none 0 0))
      rw [MsgR.set38 HK.out] at q; exact q
    have HRX : Hid (Blk wx (w.heap.size + 1) 50 ys.toList) := by rw [hwx]; exact Lib.hid (HR1.out.far (by simp <;> omega) _)
    have HKX : Hid (Keep w wx) := by rw [hwx]; exact Lib.hid (Below.setCell HK1.out (by simp <;> omega) _)
    rw [← hwx]
    clear hwx r38 f38 r0
    obtain ⟨ds, hds⟩ : ∃ ds, MsA M ds := ⟨_, MsA.of HOK.out⟩
    have hdz := hds.z; have hdn := hds.n; have hdi := hds.i
    have HDS := Lib.hid hds
    have HBx : Hid (Blk wx w.heap.size 50 ds.toList) := by rw [HDS.out.l]; exact HX
    obtain ⟨w8, hst8, hb8, hg8⟩ := run_store_blk (P := Tryd.prog) ds.toList HRX.out (by rw [Array.length_toList, Array.length_toList, hdz, HY.out.z]) HDS.out.o
    have Hb8 := Lib.hid hb8; have Hg8 := Lib.hid hg8
    clear hds hb8 hg8 HX HRX HB1 HR1
    go_wp2_with ((with_reducible refine load_arr w.heap.size ds (Eq.trans ?_ rfl) HBx.out _ Tryd.underlying50 rfl hdi ?_); rfl)
    have hb8 := Hb8.out
    exact bodyPost_ret (v := .agg ds) (results_cell_row Tryd.results36 _ _ (w.heap.size + 1) _ _ _ _ rfl hb8 Tryd.underlying50 rfl (by rw [List.size_toArray, Array.length_toList]; exact hdi)) rfl ⟨ds, rfl, HDS.out, HKX.out.grown Hg8.out HKX.out.size (fun q hq => by injection hq with hq; omega)⟩
  by_cases h7 : m.kind = 7
  · have HM : Hid (M = { m with iA := none, is := [], ic := 0 }) := Lib.hid (HD.out.trans (by repeat (first | rw [if_pos (by omega)] | rw [if_neg (by omega)])))
    have d0 : (m.kind == 0) = false := by rw [beq_eq_false_iff_ne]; omega
    have d2 : (m.kind == 2) = false := by rw [beq_eq_false_iff_ne]; omega
    have d3 : (m.kind == 3) = false := by rw [beq_eq_false_iff_ne]; omega
    have d4 : (m.kind == 4) = false := by rw [beq_eq_false_iff_ne]; omega
    have d5 : (m.kind == 5) = false := by rw [beq_eq_false_iff_ne]; omega
    have d6 : (m.kind == 6) = false := by rw [beq_eq_false_iff_ne]; omega
    have d7 : (m.kind == 7) = true := by rw [beq_iff_eq]; omega
    clear HD h7 h0 h2 h3 h4 h5 h6
    have r38 : w1.cell? ⟨w.heap.size, 38, none⟩ = some (.slice m.iA m.is.length m.ic) := (HB1.out.cell 38).trans ((MsgR.tail_get HK.out 0).trans rfl)
    have f38 := HB1.out.frozen 38
    go_upto_region 19 with fail
    obtain ⟨wx, hwx⟩ : ∃ wx, wx = (w1.setCell ⟨w.heap.size, 38, none⟩ (.slice none 0 0)) := ⟨_, rfl⟩
    have HX : Blk wx w.heap.size 50 M.cells := by
      rw [hwx, HM.out]
      have q := (HB1.out.set_ 38 (.slice none 0 0))
      rw [MsgR.set38 HK.out] at q; exact q
    have HRX : Hid (Blk wx (w.heap.size + 1) 50 ys.toList) := by rw [hwx]; exact Lib.hid (HR1.out.far (by simp <;> omega) _)
    have HKX : Hid (Keep w wx) := by rw [hwx]; exact Lib.hid (Below.setCell HK1.out (by simp <;> omega) _)
    rw [← hwx]
    clear hwx r38 f38 r0
    obtain ⟨ds, hds⟩ : ∃ ds, MsA M ds := ⟨_, MsA.of HOK.out⟩
    have hdz := hds.z; have hdn := hds.n; have hdi := hds.i
    have HDS := Lib.hid hds
    have HBx : Hid (Blk wx w.heap.size 50 ds.toList) := by rw [HDS.out.l]; exact HX
    obtain ⟨w8, hst8, hb8, hg8⟩ := run_store_blk (P := Tryd.prog) ds.toList HRX.out (by rw [Array.length_toList, Array.length_toList, hdz, HY.out.z]) HDS.out.o
    have Hb8 := Lib.hid hb8; have Hg8 := Lib.hid hg8
    clear hds hb8 hg8 HX HRX HB1 HR1
    go_wp2_with ((with_reducible refine load_arr w.heap.size ds (Eq.trans ?_ rfl) HBx.out _ Tryd.underlying50 rfl hdi ?_); rfl)
    have hb8 := Hb8.out
    exact bodyPost_ret (v := .agg ds) (results_cell_row Tryd.results36 _ _ (w.heap.size + 1) _ _ _ _ rfl hb8 Tryd.underlying50 rfl (by rw [List.size_toArray, Array.length_toList]; exact hdi)) rfl ⟨ds, rfl, HDS.out, HKX.out.grown Hg8.out HKX.out.size (fun q hq => by injection hq with hq; omega)⟩
  by_cases h8 : m.kind = 8
  · have HM : Hid (M = { m with iA := none, is := [], ic := 0 }) := Lib.hid (HD.out.trans (by repeat (first | rw [if_pos (by omega)] | rw [if_neg (by omega)])))
    have d0 : (m.kind == 0) = false := by rw [beq_eq_false_iff_ne]; omega
    have d2 : (m.kind == 2) = false := by rw [beq_eq_false_iff_ne]; omega
    have d3 : (m.kind == 3) = false := by rw [beq_eq_false_iff_ne]; omega
    have d4 : (m.kind == 4) = false := by rw [beq_eq_false_iff_ne]; omega
    have d5 : (m.kind == 5) = false := by rw [beq_eq_false_iff_ne]; omega
    have d6 : (m.kind == 6) = false := by rw [beq_eq_false_iff_ne]; omega
    have d7 : (m.kind == 7) = false := by rw [beq_eq_false_iff_ne]; omega
    have d8 : (m.kind == 8) = true := by rw [beq_iff_eq]; omega
    clear HD h8 h0 h2 h3 h4 h5 h6 h7
    have r38 : w1.cell? ⟨w.heap.size, 38, none⟩ = some (.slice m.iA m.is.length m.ic) := (HB1.out.cell 38).trans ((MsgR.tail_get HK.out 0).trans rfl)
    have f38 := HB1.out.frozen 38
    go_upto_region 19 with fail
    obtain ⟨wx, hwx⟩ : ∃ wx, wx = (w1.setCell ⟨w.heap.size, 38, none⟩ (.slice none 0 0)) := ⟨_, rfl⟩
    have HX : Blk wx w.heap.size 50 M.cells := by
      rw [hwx, HM.out]
      have q := (HB1.out.set_ 38 (.slice none 0 0))
      rw [MsgR.set38 HK.out] at q; exact q
    have HRX : Hid (Blk wx (w.heap.size + 1) 50 ys.toList) := by rw [hwx]; exact Lib.hid (HR1.out.far (by simp <;> omega) _)
    have HKX : Hid (Keep w wx) := by rw [hwx]; exact Lib.hid (Below.setCell HK1.out (by simp <;> omega) _)
    rw [← hwx]
    clear hwx r38 f38 r0
    obtain ⟨ds, hds⟩ : ∃ ds, MsA M ds := ⟨_, MsA.of HOK.out⟩
    have hdz := hds.z; have hdn := hds.n; have hdi := hds.i
    have HDS := Lib.hid hds
    have HBx : Hid (Blk wx w.heap.size 50 ds.toList) := by rw [HDS.out.l]; exact HX
    obtain ⟨w8, hst8, hb8, hg8⟩ := run_store_blk (P := Tryd.prog) ds.toList HRX.out (by rw [Array.length_toList, Array.length_toList, hdz, HY.out.z]) HDS.out.o
    have Hb8 := Lib.hid hb8; have Hg8 := Lib.hid hg8
    clear hds hb8 hg8 HX HRX HB1 HR1
    go_wp2_with ((with_reducible refine load_arr w.heap.size ds (Eq.trans ?_ rfl) HBx.out _ Tryd.underlying50 rfl hdi ?_); rfl)
    have hb8 := Hb8.out
    exact bodyPost_ret (v := .agg ds) (results_cell_row Tryd.results36 _ _ (w.heap.size + 1) _ _ _ _ rfl hb8 Tryd.underlying50 rfl (by rw [List.size_toArray, Array.length_toList]; exact hdi)) rfl ⟨ds, rfl, HDS.out, HKX.out.grown Hg8.out HKX.out.size (fun q hq => by injection hq with hq; omega)⟩
  by_cases h9 : m.kind = 9
  · have HM : Hid (M = { m with bh := zHdr, total := 0, sA := none, shs := [], sc := 0, fA := none, fs := [], fc := 0 }) := Lib.hid (HD.out.trans (by repeat (first | rw [if_pos (by omega)] | rw [if_neg (by omega)])))
    have d0 : (m.kind == 0) = false := by rw [beq_eq_false_iff_ne]; omega
    have d2 : (m.kind == 2) = false := by rw [beq_eq_false_iff_ne]; omega
    have d3 : (m.kind == 3) = false := by rw [beq_eq_false_iff_ne]; omega
    have d4 : (m.kind == 4) = false := by rw [beq_eq_false_iff_ne]; omega
    have d5 : (m.kind == 5) = false := by rw [beq_eq_false_iff_ne]; omega
    have d6 : (m.kind == 6) = false := by rw [beq_eq_false_iff_ne]; omega
    have d7 : (m.kind == 7) = false := by rw [beq_eq_false_iff_ne]; omega
    have d8 : (m.kind == 8) = false := by rw [beq_eq_false_iff_ne]; omega
    have d9 : (m.kind == 9) = true := by rw [beq_iff_eq]; omega
    clear HD h9 h0 h2 h3 h4 h5 h6 h7 h8
    obtain ⟨wx, hst, hbx, hgx⟩ := run_store_prt (P := Tryd.prog) 39 zb.toList HB1.out (by rw [MsgR.len HK.out, Array.length_toList, hbz]; omega) (by rw [HBL.out]; intro u hu; exact MsgR.one (msgZ 0) u (by rw [MsgR.cells39]; simp [hu]))
    have HBX := Lib.hid hbx; have HGX := Lib.hid hgx
    clear hbx hgx
    go_upto_region 19 with fail
    have HX : Blk wx w.heap.size 50 M.cells := by
      rw [HM.out]
      have q := HBX.out
      rw [HBL.out, MsgR.splice_blk HK.out (show (msgZ 0).bh.ok from ⟨rfl, rfl⟩)] at q
      exact q
    have HRX : Hid (Blk wx (w.heap.size + 1) 50 ys.toList) := Lib.hid (HR1.out.grown HGX.out (fun q => by injection q with q; omega))
    have HKX : Hid (Keep w wx) := Lib.hid (HK1.out.grown HGX.out HK1.out.size (fun q hq => by injection hq with hq; omega))
    clear hst HBX r0
    obtain ⟨ds, hds⟩ : ∃ ds, MsA M ds := ⟨_, MsA.of HOK.out⟩
    have hdz := hds.z; have hdn := hds.n; have hdi := hds.i
    have HDS := Lib.hid hds
    have HBx : Hid (Blk wx w.heap.size 50 ds.toList) := by rw [HDS.out.l]; exact HX
    obtain ⟨w8, hst8, hb8, hg8⟩ := run_store_blk (P := Tryd.prog) ds.toList HRX.out (by rw [Array.length_toList, Array.length_toList, hdz, HY.out.z]) HDS.out.o
    have Hb8 := Lib.hid hb8; have Hg8 := Lib.hid hg8
    clear hds hb8 hg8 HX HRX HB1 HR1
    go_wp2_with ((with_reducible refine load_arr w.heap.size ds (Eq.trans ?_ rfl) HBx.out _ Tryd.underlying50 rfl hdi ?_); rfl)
    have hb8 := Hb8.out
    exact bodyPost_ret (v := .agg ds) (results_cell_row Tryd.results36 _ _ (w.heap.size + 1) _ _ _ _ rfl hb8 Tryd.underlying50 rfl (by rw [List.size_toArray, Array.length_toList]; exact hdi)) rfl ⟨ds, rfl, HDS.out, HKX.out.grown Hg8.out HKX.out.size (fun q hq => by injection hq with hq; omega)⟩
  by_cases h10 : m.kind = 10
  · have HM : Hid (M = { m with t := txZ }) := Lib.hid (HD.out.trans (by repeat (first | rw [if_pos (by omega)] | rw [if_neg (by omega)])))
    have d0 : (m.kind == 0) = false := by rw [beq_eq_false_iff_ne]; omega
    have d2 : (m.kind == 2) = false := by rw [beq_eq_false_iff_ne]; omega
    have d3 : (m.kind == 3) = false := by rw [beq_eq_false_iff_ne]; omega
    have d4 : (m.kind == 4) = false := by rw [beq_eq_false_iff_ne]; omega
    have d5 : (m.kind == 5) = false := by rw [beq_eq_false_iff_ne]; omega
    have d6 : (m.kind == 6) = false := by rw [beq_eq_false_iff_ne]; omega
    have d7 : (m.kind == 7) = false := by rw [beq_eq_false_iff_ne]; omega
    have d8 : (m.kind == 8) = false := by rw [beq_eq_false_iff_ne]; omega
    have d9 : (m.kind == 9) = false := by rw [beq_eq_false_iff_ne]; omega
    have d10 : (m.kind == 10) = true := by rw [beq_iff_eq]; omega
    clear HD h10 h0 h2 h3 h4 h5 h6 h7 h8 h9
    have r110 : w1.cell? ⟨w.heap.size, 110, none⟩ = some (u32v m.t.ver) := (HB1.out.cell 110).trans ((MsgR.tx_get HK.out 0).trans rfl)
    have f110 := HB1.out.frozen 110
    have r111 : w1.cell? ⟨w.heap.size, 111, none⟩ = some (.slice m.t.iA m.t.ins.length m.t.ic) := (HB1.out.cell 111).trans ((MsgR.tx_get HK.out 1).trans rfl)
    have f111 := HB1.out.frozen 111
    have r112 : w1.cell? ⟨w.heap.size, 112, none⟩ = some (.slice m.t.oA m.t.outs.length m.t.oc) := (HB1.out.cell 112).trans ((MsgR.tx_get HK.out 2).trans rfl)
    have f112 := HB1.out.frozen 112
    have r113 : w1.cell? ⟨w.heap.size, 113, none⟩ = some (u32v m.t.lock) := (HB1.out.cell 113).trans ((MsgR.tx_get HK.out 3).trans rfl)
    have f113 := HB1.out.frozen 113
    go_upto_region 19 with fail
    obtain ⟨wx, hwx⟩ : ∃ wx, wx = ((((w1.setCell ⟨w.heap.size, 110, none⟩ (.int .u32 0)).setCell ⟨w.heap.size, 111, none⟩ (.slice none 0 0)).setCell ⟨w.heap.size, 112, none⟩ (.slice none 0 0)).setCell ⟨w.heap.size, 113, none⟩ (.int .u32 0)) := ⟨_, rfl⟩
    have HX : Blk wx w.heap.size 50 M.cells := by
      rw [hwx, HM.out]
      have q := ((((HB1.out.set_ 110 (.int .u32 0)).set_ 111 (.slice none 0 0)).set_ 112 (.slice none 0 0)).set_ 113 (.int .u32 0))
      rw [MsgR.set_tx HK.out] at q; exact q
    have HRX : Hid (Blk wx (w.heap.size + 1) 50 ys.toList) := by rw [hwx]; exact Lib.hid ((((HR1.out.far (by simp <;> omega) _).far (by simp <;> omega) _).far (by simp <;> omega) _).far (by simp <;> omega) _)
    have HKX : Hid (Keep w wx) := by rw [hwx]; exact Lib.hid (Below.setCell (Below.setCell (Below.setCell (Below.setCell HK1.out (by simp <;> omega) _) (by simp <;> omega) _) (by simp <;> omega) _) (by simp <;> omega) _)
    rw [← hwx]
    clear hwx r110 f110 r111 f111 r112 f112 r113 f113 r0
    obtain ⟨ds, hds⟩ : ∃ ds, MsA M ds := ⟨_, MsA.of HOK.out⟩
    have hdz := hds.z; have hdn := hds.n; have hdi := hds.i
    have HDS := Lib.hid hds
    have HBx : Hid (Blk wx w.heap.size 50 ds.toList) := by rw [HDS.out.l]; exact HX
    obtain ⟨w8, hst8, hb8, hg8⟩ := run_store_blk (P := Tryd.prog) ds.toList HRX.out (by rw [Array.length_toList, Array.length_toList, hdz, HY.out.z]) HDS.out.o
    have Hb8 := Lib.hid hb8; have Hg8 := Lib.hid hg8
    clear hds hb8 hg8 HX HRX HB1 HR1
    go_wp2_with ((with_reducible refine load_arr w.heap.size ds (Eq.trans ?_ rfl) HBx.out _ Tryd.underlying50 rfl hdi ?_); rfl)
    have hb8 := Hb8.out
    exact bodyPost_ret (v := .agg ds) (results_cell_row Tryd.results36 _ _ (w.heap.size + 1) _ _ _ _ rfl hb8 Tryd.underlying50 rfl (by rw [List.size_toArray, Array.length_toList]; exact hdi)) rfl ⟨ds, rfl, HDS.out, HKX.out.grown Hg8.out HKX.out.size (fun q hq => by injection hq with hq; omega)⟩
  have HM : Hid (M = m) := Lib.hid (HD.out.trans (by repeat (first | rw [if_pos (by omega)] | rw [if_neg (by omega)])))
  have d0 : (m.kind == 0) = false := by rw [beq_eq_false_iff_ne]; omega
  have d2 : (m.kind == 2) = false := by rw [beq_eq_false_iff_ne]; omega
  have d3 : (m.kind == 3) = false := by rw [beq_eq_false_iff_ne]; omega
  have d4 : (m.kind == 4) = false := by rw [beq_eq_false_iff_ne]; omega
  have d5 : (m.kind == 5) = false := by rw [beq_eq_false_iff_ne]; omega
  have d6 : (m.kind == 6) = false := by rw [beq_eq_false_iff_ne]; omega
  have d7 : (m.kind == 7) = false := by rw [beq_eq_false_iff_ne]; omega
  have d8 : (m.kind == 8) = false := by rw [beq_eq_false_iff_ne]; omega
  have d9 : (m.kind == 9) = false := by rw [beq_eq_false_iff_ne]; omega
  have d10 : (m.kind == 10) = false := by rw [beq_eq_false_iff_ne]; omega
  clear HD h0 h2 h3 h4 h5 h6 h7 h8 h9 h10
  go_upto_region 19 with fail
  obtain ⟨wx, hwx⟩ : ∃ wx, wx = w1 := ⟨_, rfl⟩
  have HX : Blk wx w.heap.size 50 M.cells := by rw [hwx, HM.out]; exact HB1.out
  have HRX : Hid (Blk wx (w.heap.size + 1) 50 ys.toList) := by rw [hwx]; exact HR1
  have HKX : Hid (Keep w wx) := by rw [hwx]; exact HK1
  rw [← hwx]
  clear hwx r0
  obtain ⟨ds, hds⟩ : ∃ ds, MsA M ds := ⟨_, MsA.of HOK.out⟩
  have hdz := hds.z; have hdn := hds.n; have hdi := hds.i
  have HDS := Lib.hid hds
  have HBx : Hid (Blk wx w.heap.size 50 ds.toList) := by rw [HDS.out.l]; exact HX
  obtain ⟨w8, hst8, hb8, hg8⟩ := run_store_blk (P := Tryd.prog) ds.toList HRX.out (by rw [Array.length_toList, Array.length_toList, hdz, HY.out.z]) HDS.out.o
  have Hb8 := Lib.hid hb8; have Hg8 := Lib.hid hg8
  clear hds hb8 hg8 HX HRX HB1 HR1
  go_wp2_with ((with_reducible refine load_arr w.heap.size ds (Eq.trans ?_ rfl) HBx.out _ Tryd.underlying50 rfl hdi ?_); rfl)
  have hb8 := Hb8.out
  exact bodyPost_ret (v := .agg ds) (results_cell_row Tryd.results36 _ _ (w.heap.size + 1) _ _ _ _ rfl hb8 Tryd.underlying50 rfl (by rw [List.size_toArray, Array.length_toList]; exact hdi)) rfl ⟨ds, rfl, HDS.out, HKX.out.grown Hg8.out HKX.out.size (fun q hq => by injection hq with hq; omega)⟩
end Go.Proofs.YtffpanlpbdnafaaDoor

/- wire.nothing. (printed by gen_vu.py) -/
set_option linter.unusedSimpArgs false
set_option linter.unusedVariables false
namespace Go.Proofs.YtffpanlpbdnafaaDoor
open Go.RowKit
attribute [local go_sem ↓] Go.wp_at_zero Go.wp_at_succ

theorem zhead_letterA : ∃ zs : Array Value, HdA zHdr zs ∧ (∀ w, (zeroValue 42).run Tryd.prog w = .ok (.agg zs) w) :=
  ⟨zhead, by
    have h := HdA.of (h := zHdr) ⟨rfl, rfl⟩
    rwa [show zHdr.cells = zhead.toList from zhead_list.symm, Array.toArray_toList] at h, zhead_zero⟩
theorem MsgR.blk_tail {m : MsgR} (h : m.ok) (k : Nat) (hk : k < 3) : m.cells[k + 107]? = [u32v m.total, Value.slice m.sA m.shs.length m.sc, .slice m.fA m.fs.length m.fc][k]? := by
  rw [show k + 107 = (k + 68) + 39 by omega, MsgR.blk_get h _ (by omega)]
  unfold MsgR.blk
  rw [List.getElem?_append_right (by rw [Hd.len h.b]; omega), Hd.len h.b, show k + 68 - 68 = k by omega]
/-- Is a message nothing? -/
def nothingB (m : MsgR) : Bool := (((m.proto.toNat : Int) == 0) && ((m.nonce : Int) == 0) && ((m.height.toNat : Int) == 0) && (m.stop == z32)) && (((m.hs.length : Int) == 0) && ((m.ls.length : Int) == 0) && ((m.is.length : Int) == 0)) && (((hdEq m.bh zHdr) && ((m.total.toNat : Int) == 0)) && ((m.shs.length : Int) == 0) && ((m.fs.length : Int) == 0)) && (((m.t.ver.toNat : Int) == 0) && ((m.t.ins.length : Int) == 0) && ((m.t.outs.length : Int) == 0) && ((m.t.lock.toNat : Int) == 0))

set_option maxRecDepth 100000 in
set_option maxHeartbeats 8000000 in
theorem nothing_any (m : MsgR) (cs : Array Value) (hA : MsA m cs) (hk : m.ok) (w : World) :
    Calls Tryd.prog 35 #[.agg cs] w fun e w' => e = .returned (.bool (nothingB m)) ∧ Keep w w' := by
  obtain ⟨zh, hzA, hz0⟩ := zhash_letter32
  obtain ⟨zd, hzD, hd0⟩ := zhead_letterA
  obtain ⟨ss, hss⟩ : ∃ ss, HashA m.stop ss := ⟨_, HashA.of hk.s⟩
  obtain ⟨hv, hhv⟩ : ∃ hv, HdA m.bh hv := ⟨_, HdA.of hk.b⟩
  have hgd1 := hash_guard; have hgd2 := hd_guard
  have hzn := hzA.n; have hzz := hzA.z; have hdn := hzD.n; have hdz := hzD.z
  have hsn := hss.n; have hsz := hss.z; have hsi := hss.i
  have hvn := hhv.n; have hvz := hhv.z; have hvi := hhv.i
  have HE4 : Hid (∀ w, (Go.binOp .eql 39 (.agg ss) (.agg zh)).run Tryd.prog w = .ok (.bool (m.stop == z32)) w) := Lib.hid fun w => hash_eql hss hzA hk.s rfl w
  have HE8 : Hid (∀ w, (Go.binOp .eql 42 (.agg hv) (.agg zd)).run Tryd.prog w = .ok (.bool (hdEq m.bh zHdr)) w) := Lib.hid fun w => hd_eql hhv hzD hk.b ⟨rfl, rfl⟩ w
  have HS := Lib.hid hss; have HH := Lib.hid hhv
  have hcn := hA.n; have hcz := hA.z; have hci := hA.i
  have HA := Lib.hid hA; have HK := Lib.hid hk
  clear hA hk hzA hzD hss hhv
  generalize hNB : nothingB m = NB
  have HNB := Lib.hid hNB.symm
  clear hNB
  unfold nothingB at HNB
  go_enter Tryd.func35, Tryd.ntmps35
  go_upto_region 1 with fail
  obtain ⟨w1, hw1⟩ : ∃ w1, w1 = w.alloc (.cells cs 50) := ⟨_, rfl⟩
  have HB1 : Hid (Blk w1 w.heap.size 50 m.cells) := by rw [hw1, ← HA.out.l]; exact Blk.new w _ cs.toList
  have HK1 : Hid (Keep w w1) := by rw [hw1]; exact keep_new _ _
  rw [← hw1]
  clear hw1
  have RS : Hid (w1.rangeAt w.heap.size 6 ss.toList) := Lib.hid (range_of HB1.out 6 ss.toList (by
    rw [HS.out.l, MsgR.cells6, List.drop_left' (show m.hd6.length = 6 from rfl), List.take_left' rfl]))
  have RH : Hid (w1.rangeAt w.heap.size 39 hv.toList) := Lib.hid (range_of HB1.out 39 hv.toList (by
    rw [HH.out.l, MsgR.cells39, List.drop_left' (MsgR.hd39_len HK.out.s)]
    unfold MsgR.blk
    rw [List.append_assoc, List.take_left' rfl]))
  obtain ⟨p1, e1⟩ : ∃ p, ((m.proto.toNat : Int) == 0) = p := ⟨_, rfl⟩
  obtain ⟨p2, e2⟩ : ∃ p, ((m.nonce : Int) == 0) = p := ⟨_, rfl⟩
  obtain ⟨p3, e3⟩ : ∃ p, ((m.height.toNat : Int) == 0) = p := ⟨_, rfl⟩
  obtain ⟨p4, e4⟩ : ∃ p, (m.stop == z32) = p := ⟨_, rfl⟩
  obtain ⟨p5, e5⟩ : ∃ p, ((m.hs.length : Int) == 0) = p := ⟨_, rfl⟩
  obtain ⟨p6, e6⟩ : ∃ p, ((m.ls.length : Int) == 0) = p := ⟨_, rfl⟩
  obtain ⟨p7, e7⟩ : ∃ p, ((m.is.length : Int) == 0) = p := ⟨_, rfl⟩
  obtain ⟨p8, e8⟩ : ∃ p, (hdEq m.bh zHdr) = p := ⟨_, rfl⟩
  obtain ⟨p9, e9⟩ : ∃ p, ((m.total.toNat : Int) == 0) = p := ⟨_, rfl⟩
  obtain ⟨p10, e10⟩ : ∃ p, ((m.shs.length : Int) == 0) = p := ⟨_, rfl⟩
  obtain ⟨p11, e11⟩ : ∃ p, ((m.fs.length : Int) == 0) = p := ⟨_, rfl⟩
  obtain ⟨p12, e12⟩ : ∃ p, ((m.t.ver.toNat : Int) == 0) = p := ⟨_, rfl⟩
  obtain ⟨p13, e13⟩ : ∃ p, ((m.t.ins.length : Int) == 0) = p := ⟨_, rfl⟩
  obtain ⟨p14, e14⟩ : ∃ p, ((m.t.outs.length : Int) == 0) = p := ⟨_, rfl⟩
  obtain ⟨p15, e15⟩ : ∃ p, ((m.t.lock.toNat : Int) == 0) = p := ⟨_, rfl⟩
  rw [e1, e2, e3, e4, e5, e6, e7, e8, e9, e10, e11, e12, e13, e14, e15] at HNB
  rw [e4] at HE4
  rw [e8] at HE8
  have EE := Lib.hid (And.intro e1 (And.intro e2 (And.intro e3 (And.intro e5 (And.intro e6 (And.intro e7 (And.intro e9 (And.intro e10 (And.intro e11 (And.intro e12 (And.intro e13 (And.intro e14 e15))))))))))))
  clear e1 e2 e3 e4 e5 e6 e7 e8 e9 e10 e11 e12 e13 e14 e15
  have r1 : w1.cell? ⟨w.heap.size, 1, none⟩ = some (u32v m.proto) := (HB1.out.cell 1).trans rfl
  have g1 := EE.out.1
  have r2 : w1.cell? ⟨w.heap.size, 2, none⟩ = some (u64v m.nonce) := (HB1.out.cell 2).trans rfl
  have g2 := EE.out.2.1
  have r3 : w1.cell? ⟨w.heap.size, 3, none⟩ = some (u32v m.height) := (HB1.out.cell 3).trans rfl
  have g3 := EE.out.2.2.1
  have g4 := HE4.out
  obtain ⟨q3, hq3⟩ : ∃ q : Bool, q = (p1 && p2 && p3 && p4) := ⟨_, rfl⟩
  have Hq3 := Lib.hid hq3
  clear hq3
  go_cut [3] (fun v wx => v = .bool q3 ∧ wx = w1)
  case first =>
    cases p1 with
    | false =>
      have hq := Hq3.out
      simp only [Bool.false_and, Bool.true_and, Bool.and_false, Bool.and_true] at hq
      subst hq
      clear HNB
      go_wp2_with (first | ((with_reducible refine load_partg w.heap.size 6 ss (Eq.trans ?_ rfl) RS.out _ hash_under rfl hsi (Eq.trans ?_ rfl) ?_); rfl; rfl) | ((with_reducible refine load_partg w.heap.size 6 ss (Eq.trans ?_ rfl) RS.out _ hash_under rfl hsi rfl ?_); rfl))
      go_meet
      exact ⟨rfl, rfl⟩
    | true =>
      cases p2 with
      | false =>
        have hq := Hq3.out
        simp only [Bool.false_and, Bool.true_and, Bool.and_false, Bool.and_true] at hq
        subst hq
        clear HNB
        go_wp2_with (first | ((with_reducible refine load_partg w.heap.size 6 ss (Eq.trans ?_ rfl) RS.out _ hash_under rfl hsi (Eq.trans ?_ rfl) ?_); rfl; rfl) | ((with_reducible refine load_partg w.heap.size 6 ss (Eq.trans ?_ rfl) RS.out _ hash_under rfl hsi rfl ?_); rfl))
        go_meet
        exact ⟨rfl, rfl⟩
      | true =>
        cases p3 with
        | false =>
          have hq := Hq3.out
          simp only [Bool.false_and, Bool.true_and, Bool.and_false, Bool.and_true] at hq
          subst hq
          clear HNB
          go_wp2_with (first | ((with_reducible refine load_partg w.heap.size 6 ss (Eq.trans ?_ rfl) RS.out _ hash_under rfl hsi (Eq.trans ?_ rfl) ?_); rfl; rfl) | ((with_reducible refine load_partg w.heap.size 6 ss (Eq.trans ?_ rfl) RS.out _ hash_under rfl hsi rfl ?_); rfl))
          go_meet
          exact ⟨rfl, rfl⟩
        | true =>
          cases p4 with
          | false =>
            have hq := Hq3.out
            simp only [Bool.false_and, Bool.true_and, Bool.and_false, Bool.and_true] at hq
            subst hq
            clear HNB
            go_wp2_with (first | ((with_reducible refine load_partg w.heap.size 6 ss (Eq.trans ?_ rfl) RS.out _ hash_under rfl hsi (Eq.trans ?_ rfl) ?_); rfl; rfl) | ((with_reducible refine load_partg w.heap.size 6 ss (Eq.trans ?_ rfl) RS.out _ hash_under rfl hsi rfl ?_); rfl))
            go_meet
            exact ⟨rfl, rfl⟩
          | true =>
            have hq := Hq3.out
            simp only [Bool.false_and, Bool.true_and, Bool.and_false, Bool.and_true] at hq
            subst hq
            clear HNB
            go_wp2_with (first | ((with_reducible refine load_partg w.heap.size 6 ss (Eq.trans ?_ rfl) RS.out _ hash_under rfl hsi (Eq.trans ?_ rfl) ?_); rfl; rfl) | ((with_reducible refine load_partg w.heap.size 6 ss (Eq.trans ?_ rfl) RS.out _ hash_under rfl hsi rfl ?_); rfl))
            go_meet
            exact ⟨rfl, rfl⟩
  obtain ⟨rfl, hwc⟩ := hcut
  obtain rfl := hwc.symm
  clear r1 g1 r2 g2 r3 g3 g4
  go_upto_region 2 with fail
  have r5 : w1.cell? ⟨w.heap.size, 4, none⟩ = some (.slice m.hA m.hs.length m.hc) := (HB1.out.cell 4).trans rfl
  have g5 := EE.out.2.2.2.1
  have r6 : w1.cell? ⟨w.heap.size, 5, none⟩ = some (.slice m.lA m.ls.length m.lc) := (HB1.out.cell 5).trans rfl
  have g6 := EE.out.2.2.2.2.1
  have r7 : w1.cell? ⟨w.heap.size, 38, none⟩ = some (.slice m.iA m.is.length m.ic) := (HB1.out.cell 38).trans ((MsgR.tail_get HK.out 0).trans rfl)
  have g7 := EE.out.2.2.2.2.2.1
  obtain ⟨q4, hq4⟩ : ∃ q : Bool, q = (p5 && p6 && p7) := ⟨_, rfl⟩
  have Hq4 := Lib.hid hq4
  clear hq4
  go_cut [4] (fun v wx => v = .bool q4 ∧ wx = w1)
  case first =>
    cases p5 with
    | false =>
      have hq := Hq4.out
      simp only [Bool.false_and, Bool.true_and, Bool.and_false, Bool.and_true] at hq
      subst hq
      clear HNB
      go_wp2_with (fail)
      go_meet
      exact ⟨rfl, rfl⟩
    | true =>
      cases p6 with
      | false =>
        have hq := Hq4.out
        simp only [Bool.false_and, Bool.true_and, Bool.and_false, Bool.and_true] at hq
        subst hq
        clear HNB
        go_wp2_with (fail)
        go_meet
        exact ⟨rfl, rfl⟩
      | true =>
        cases p7 with
        | false =>
          have hq := Hq4.out
          simp only [Bool.false_and, Bool.true_and, Bool.and_false, Bool.and_true] at hq
          subst hq
          clear HNB
          go_wp2_with (fail)
          go_meet
          exact ⟨rfl, rfl⟩
        | true =>
          have hq := Hq4.out
          simp only [Bool.false_and, Bool.true_and, Bool.and_false, Bool.and_true] at hq
          subst hq
          clear HNB
          go_wp2_with (fail)
          go_meet
          exact ⟨rfl, rfl⟩
  obtain ⟨rfl, hwc⟩ := hcut
  obtain rfl := hwc.symm
  clear r5 g5 r6 g6 r7 g7
  go_upto_region 3 with fail
  have g8 := HE8.out
  have r9 : w1.cell? ⟨w.heap.size, 107, none⟩ = some (u32v m.total) := (HB1.out.cell 107).trans ((MsgR.blk_tail HK.out 0 (by omega)).trans rfl)
  have g9 := EE.out.2.2.2.2.2.2.1
  obtain ⟨q5, hq5⟩ : ∃ q : Bool, q = (p8 && p9) := ⟨_, rfl⟩
  have Hq5 := Lib.hid hq5
  clear hq5
  go_cut [5] (fun v wx => v = .bool q5 ∧ wx = w1)
  case first =>
    cases p8 with
    | false =>
      have hq := Hq5.out
      simp only [Bool.false_and, Bool.true_and, Bool.and_false, Bool.and_true] at hq
      subst hq
      clear HNB
      go_wp2_with (first | ((with_reducible refine load_partg w.heap.size 39 hv (Eq.trans ?_ rfl) RH.out _ Tryd.underlying42 rfl hvi (Eq.trans ?_ rfl) ?_); rfl; rfl) | ((with_reducible refine load_partg w.heap.size 39 hv (Eq.trans ?_ rfl) RH.out _ Tryd.underlying42 rfl hvi rfl ?_); rfl))
      go_meet
      exact ⟨rfl, rfl⟩
    | true =>
      cases p9 with
      | false =>
        have hq := Hq5.out
        simp only [Bool.false_and, Bool.true_and, Bool.and_false, Bool.and_true] at hq
        subst hq
        clear HNB
        go_wp2_with (first | ((with_reducible refine load_partg w.heap.size 39 hv (Eq.trans ?_ rfl) RH.out _ Tryd.underlying42 rfl hvi (Eq.trans ?_ rfl) ?_); rfl; rfl) | ((with_reducible refine load_partg w.heap.size 39 hv (Eq.trans ?_ rfl) RH.out _ Tryd.underlying42 rfl hvi rfl ?_); rfl))
        go_meet
        exact ⟨rfl, rfl⟩
      | true =>
        have hq := Hq5.out
        simp only [Bool.false_and, Bool.true_and, Bool.and_false, Bool.and_true] at hq
        subst hq
        clear HNB
        go_wp2_with (first | ((with_reducible refine load_partg w.heap.size 39 hv (Eq.trans ?_ rfl) RH.out _ Tryd.underlying42 rfl hvi (Eq.trans ?_ rfl) ?_); rfl; rfl) | ((with_reducible refine load_partg w.heap.size 39 hv (Eq.trans ?_ rfl) RH.out _ Tryd.underlying42 rfl hvi rfl ?_); rfl))
        go_meet
        exact ⟨rfl, rfl⟩
  obtain ⟨rfl, hwc⟩ := hcut
  obtain rfl := hwc.symm
  clear g8 r9 g9
  go_upto_region 4 with fail
  have r10 : w1.cell? ⟨w.heap.size, 108, none⟩ = some (.slice m.sA m.shs.length m.sc) := (HB1.out.cell 108).trans ((MsgR.blk_tail HK.out 1 (by omega)).trans rfl)
  have g10 := EE.out.2.2.2.2.2.2.2.1
  have r11 : w1.cell? ⟨w.heap.size, 109, none⟩ = some (.slice m.fA m.fs.length m.fc) := (HB1.out.cell 109).trans ((MsgR.blk_tail HK.out 2 (by omega)).trans rfl)
  have g11 := EE.out.2.2.2.2.2.2.2.2.1
  obtain ⟨q6, hq6⟩ : ∃ q : Bool, q = (q5 && p10 && p11) := ⟨_, rfl⟩
  have Hq6 := Lib.hid hq6
  clear hq6
  go_cut [6] (fun v wx => v = .bool q6 ∧ wx = w1)
  case first =>
    cases q5 with
    | false =>
      have hq := Hq6.out
      simp only [Bool.false_and, Bool.true_and, Bool.and_false, Bool.and_true] at hq
      subst hq
      clear HNB
      go_wp2_with (fail)
      go_meet
      exact ⟨rfl, rfl⟩
    | true =>
      cases p10 with
      | false =>
        have hq := Hq6.out
        simp only [Bool.false_and, Bool.true_and, Bool.and_false, Bool.and_true] at hq
        subst hq
        clear HNB
        go_wp2_with (fail)
        go_meet
        exact ⟨rfl, rfl⟩
      | true =>
        cases p11 with
        | false =>
          have hq := Hq6.out
          simp only [Bool.false_and, Bool.true_and, Bool.and_false, Bool.and_true] at hq
          subst hq
          clear HNB
          go_wp2_with (fail)
          go_meet
          exact ⟨rfl, rfl⟩
        | true =>
          have hq := Hq6.out
          simp only [Bool.false_and, Bool.true_and, Bool.and_false, Bool.and_true] at hq
          subst hq
          clear HNB
          go_wp2_with (fail)
          go_meet
          exact ⟨rfl, rfl⟩
  obtain ⟨rfl, hwc⟩ := hcut
  obtain rfl := hwc.symm
  clear r10 g10 r11 g11
  go_upto_region 5 with fail
  have r12 : w1.cell? ⟨w.heap.size, 110, none⟩ = some (u32v m.t.ver) := (HB1.out.cell 110).trans ((MsgR.tx_get HK.out 0).trans rfl)
  have g12 := EE.out.2.2.2.2.2.2.2.2.2.1
  have r13 : w1.cell? ⟨w.heap.size, 111, none⟩ = some (.slice m.t.iA m.t.ins.length m.t.ic) := (HB1.out.cell 111).trans ((MsgR.tx_get HK.out 1).trans rfl)
  have g13 := EE.out.2.2.2.2.2.2.2.2.2.2.1
  have r14 : w1.cell? ⟨w.heap.size, 112, none⟩ = some (.slice m.t.oA m.t.outs.length m.t.oc) := (HB1.out.cell 112).trans ((MsgR.tx_get HK.out 2).trans rfl)
  have g14 := EE.out.2.2.2.2.2.2.2.2.2.2.2.1
  have r15 : w1.cell? ⟨w.heap.size, 113, none⟩ = some (u32v m.t.lock) := (HB1.out.cell 113).trans ((MsgR.tx_get HK.out 3).trans rfl)
  have g15 := EE.out.2.2.2.2.2.2.2.2.2.2.2.2
  obtain ⟨q7, hq7⟩ : ∃ q : Bool, q = (p12 && p13 && p14 && p15) := ⟨_, rfl⟩
  have Hq7 := Lib.hid hq7
  clear hq7
  go_cut [7] (fun v wx => v = .bool q7 ∧ wx = w1)
  case first =>
    cases p12 with
    | false =>
      have hq := Hq7.out
      simp only [Bool.false_and, Bool.true_and, Bool.and_false, Bool.and_true] at hq
      subst hq
      clear HNB
      go_wp2_with (fail)
      go_meet
      exact ⟨rfl, rfl⟩
    | true =>
      cases p13 with
      | false =>
        have hq := Hq7.out
        simp only [Bool.false_and, Bool.true_and, Bool.and_false, Bool.and_true] at hq
        subst hq
        clear HNB
        go_wp2_with (fail)
        go_meet
        exact ⟨rfl, rfl⟩
      | true =>
        cases p14 with
        | false =>
          have hq := Hq7.out
          simp only [Bool.false_and, Bool.true_and, Bool.and_false, Bool.and_true] at hq
          subst hq
          clear HNB
          go_wp2_with (fail)
          go_meet
          exact ⟨rfl, rfl⟩
        | true =>
          cases p15 with
          | false =>
            have hq := Hq7.out
            simp only [Bool.false_and, Bool.true_and, Bool.and_false, Bool.and_true] at hq
            subst hq
            clear HNB
            go_wp2_with (fail)
            go_meet
            exact ⟨rfl, rfl⟩
          | true =>
            have hq := Hq7.out
            simp only [Bool.false_and, Bool.true_and, Bool.and_false, Bool.and_true] at hq
            subst hq
            clear HNB
            go_wp2_with (fail)
            go_meet
            exact ⟨rfl, rfl⟩
  obtain ⟨rfl, hwc⟩ := hcut
  obtain rfl := hwc.symm
  clear r12 g12 r13 g13 r14 g14 r15 g15
  go_upto_region 6 with fail
  have hf : NB = (q3 && q4 && q6 && q7) := by rw [HNB.out, Hq3.out, Hq4.out, Hq6.out, Hq5.out, Hq7.out]
  subst hf
  clear HNB Hq3 Hq4 Hq5 Hq6 Hq7 EE HE4 HE8 RS RH
  cases q3 with
  | false =>
    go_wp2
    exact bodyPost_ret (v := .bool _) (by simp [results, Tryd.results35]) rfl ⟨rfl, HK1.out⟩
  | true =>
    cases q4 with
    | false =>
      go_wp2
      exact bodyPost_ret (v := .bool _) (by simp [results, Tryd.results35]) rfl ⟨rfl, HK1.out⟩
    | true =>
      cases q6 with
      | false =>
        go_wp2
        exact bodyPost_ret (v := .bool _) (by simp [results, Tryd.results35]) rfl ⟨rfl, HK1.out⟩
      | true =>
        cases q7 with
        | false =>
          go_wp2
          exact bodyPost_ret (v := .bool _) (by simp [results, Tryd.results35]) rfl ⟨rfl, HK1.out⟩
        | true =>
          go_wp2
          exact bodyPost_ret (v := .bool _) (by simp [results, Tryd.results35]) rfl ⟨rfl, HK1.out⟩
end Go.Proofs.YtffpanlpbdnafaaDoor

/- wire.Fits. (printed by gen_vv.py) -/
set_option linter.unusedSimpArgs false
set_option linter.unusedVariables false
namespace Go.Proofs.YtffpanlpbdnafaaDoor
open Go.RowKit
attribute [local go_sem ↓] Go.wp_at_zero Go.wp_at_succ

set_option maxRecDepth 100000 in
set_option maxHeartbeats 4000000 in
/-- May a transaction be? (However long it is.) -/
theorem tsane_all (t : TxR) (w : World) (h : t.at w) :
    Calls Tryd.prog 34 #[.agg #[u32v t.ver, .slice t.iA t.ins.length t.ic, .slice t.oA t.outs.length t.oc, u32v t.lock]] w fun e w' => e = .returned (.bool (saneT t)) ∧ Keep w w' := by
  by_cases hn : t.ins.length ≤ 1000000
  · by_cases hm : t.outs.length ≤ 1000000
    · exact tsane_any t w h hn hm
    · by_cases g0 : t.ins.length < 1 ∨ 1000 < t.ins.length
      · have hv : saneT t = false := by unfold saneT; rw [decide_eq_false_iff_not]; omega
        rw [hv]
        have HK : Hid (Keep w w) := Lib.hid (Below.refl _ _)
        by_cases g1 : t.ins.length < 1
        · have d1 : (t.ins.length : Int) < 1 := by omega
          clear h hn hm g0 g1 hv
          go_enter Tryd.func34, Tryd.ntmps34
          go_wp2
          exact bodyPost_ret (v := .bool false) (by simp [results, Tryd.results34]) rfl ⟨rfl, (HK.out).alloc (Nat.le_refl _) _⟩
        · have d1 : ¬ (t.ins.length : Int) < 1 := by omega
          have d2 : (1000 : Int) < t.ins.length := by omega
          clear h hn hm g0 g1 hv
          go_enter Tryd.func34, Tryd.ntmps34
          go_wp2
          exact bodyPost_ret (v := .bool false) (by simp [results, Tryd.results34]) rfl ⟨rfl, (HK.out).alloc (Nat.le_refl _) _⟩
      · have hv : saneT t = false := by unfold saneT; rw [decide_eq_false_iff_not]; omega
        rw [hv]
        have HK : Hid (Keep w w) := Lib.hid (Below.refl _ _)
        have d1 : ¬ (t.ins.length : Int) < 1 := by omega
        have d2 : ¬ (1000 : Int) < t.ins.length := by omega
        have d3 : (1000 : Int) < t.outs.length := by omega
        clear h hn hm g0 hv
        go_enter Tryd.func34, Tryd.ntmps34
        go_wp2
        exact bodyPost_ret (v := .bool false) (by simp [results, Tryd.results34]) rfl ⟨rfl, (HK.out).alloc (Nat.le_refl _) _⟩
  · have hv : saneT t = false := by unfold saneT; rw [decide_eq_false_iff_not]; omega
    rw [hv]
    have HK : Hid (Keep w w) := Lib.hid (Below.refl _ _)
    have d1 : ¬ (t.ins.length : Int) < 1 := by omega
    have d2 : (1000 : Int) < t.ins.length := by omega
    clear h hn hv
    go_enter Tryd.func34, Tryd.ntmps34
    go_wp2
    exact bodyPost_ret (v := .bool false) (by simp [results, Tryd.results34]) rfl ⟨rfl, (HK.out).alloc (Nat.le_refl _) _⟩
/-- Does a message fit? -/
def fitsB (m : MsgR) : Bool := decide (0 ≤ m.kind ∧ m.kind < 11 ∧ m.ls.length ≤ 101 ∧ m.hs.length ≤ 2000 ∧ m.is.length ≤ 50000 ∧ m.shs.length ≤ 4096 ∧ m.fs.length ≤ 1024 ∧ (m.kind = 10 → saneT m.t = true) ∧ nothingB (othersM m) = true)
set_option maxRecDepth 100000 in
set_option maxHeartbeats 8000000 in
theorem fits_any (m : MsgR) (cs : Array Value) (hA : MsA m cs) (hk : m.ok) (w : World) (ht : m.t.at w) :
    Calls Tryd.prog 16 #[.agg cs] w fun e w' => e = .returned (.bool (fitsB m)) ∧ Keep w w' := by
  have hcn := hA.n; have hcz := hA.z; have hci := hA.i
  have OT : Hid (∀ y, Calls Tryd.prog 36 #[.agg cs] y fun e w' => ∃ ds, e = .returned (.agg ds) ∧ MsA (othersM m) ds ∧ Keep y w') := Lib.hid fun y => others_any m cs hA hk y
  have NO : Hid (∀ ds y, MsA (othersM m) ds → Calls Tryd.prog 35 #[.agg ds] y fun e w' => e = .returned (.bool (nothingB (othersM m))) ∧ Keep y w') := Lib.hid fun ds y h => nothing_any _ ds h (othersM_ok hk) y
  have TS : Hid (∀ y, Keep w y → Calls Tryd.prog 34 #[.agg #[u32v m.t.ver, .slice m.t.iA m.t.ins.length m.t.ic, .slice m.t.oA m.t.outs.length m.t.oc, u32v m.t.lock]] y fun e w' => e = .returned (.bool (saneT m.t)) ∧ Keep y w') := Lib.hid fun y h => tsane_all _ y (ht.keep h)
  have HF : Hid (fitsB m = decide (0 ≤ m.kind ∧ m.kind < 11 ∧ m.ls.length ≤ 101 ∧ m.hs.length ≤ 2000 ∧ m.is.length ≤ 50000 ∧ m.shs.length ≤ 4096 ∧ m.fs.length ≤ 1024 ∧ (m.kind = 10 → saneT m.t = true) ∧ nothingB (othersM m) = true)) := Lib.hid rfl
  generalize fitsB m = R at *
  generalize saneT m.t = ST at *
  generalize nothingB (othersM m) = NT at *
  have HA := Lib.hid hA; have HK := Lib.hid hk
  clear hA hk ht
  go_enter Tryd.func16, Tryd.ntmps16
  go_upto_region 1 with fail
  obtain ⟨w1, hw1⟩ : ∃ w1, w1 = w.alloc (.cells cs 50) := ⟨_, rfl⟩
  have HB1 : Hid (Blk w1 w.heap.size 50 m.cells) := by rw [hw1, ← HA.out.l]; exact Blk.new w _ cs.toList
  have HBc : Hid (Blk w1 w.heap.size 50 cs.toList) := by rw [hw1]; exact Blk.new w _ cs.toList
  have HK1 : Hid (Keep w w1) := by rw [hw1]; exact keep_new _ _
  rw [← hw1]
  clear hw1
  have rk : w1.cell? ⟨w.heap.size, 0, none⟩ = some (.int .i64 m.kind) := (HB1.out.cell 0).trans rfl
  have rh : w1.cell? ⟨w.heap.size, 4, none⟩ = some (.slice m.hA m.hs.length m.hc) := (HB1.out.cell 4).trans rfl
  have rl : w1.cell? ⟨w.heap.size, 5, none⟩ = some (.slice m.lA m.ls.length m.lc) := (HB1.out.cell 5).trans rfl
  have ri : w1.cell? ⟨w.heap.size, 38, none⟩ = some (.slice m.iA m.is.length m.ic) := (HB1.out.cell 38).trans ((MsgR.tail_get HK.out 0).trans rfl)
  have rs : w1.cell? ⟨w.heap.size, 108, none⟩ = some (.slice m.sA m.shs.length m.sc) := (HB1.out.cell 108).trans ((MsgR.blk_tail HK.out 1 (by omega)).trans rfl)
  have rf : w1.cell? ⟨w.heap.size, 109, none⟩ = some (.slice m.fA m.fs.length m.fc) := (HB1.out.cell 109).trans ((MsgR.blk_tail HK.out 2 (by omega)).trans rfl)
  have rt0 : w1.cell? ⟨w.heap.size, 110, none⟩ = some (u32v m.t.ver) := (HB1.out.cell 110).trans ((MsgR.tx_get HK.out 0).trans rfl)
  have rt1 : w1.cell? ⟨w.heap.size, 111, none⟩ = some (.slice m.t.iA m.t.ins.length m.t.ic) := (HB1.out.cell 111).trans ((MsgR.tx_get HK.out 1).trans rfl)
  have rt2 : w1.cell? ⟨w.heap.size, 112, none⟩ = some (.slice m.t.oA m.t.outs.length m.t.oc) := (HB1.out.cell 112).trans ((MsgR.tx_get HK.out 2).trans rfl)
  have rt3 : w1.cell? ⟨w.heap.size, 113, none⟩ = some (u32v m.t.lock) := (HB1.out.cell 113).trans ((MsgR.tx_get HK.out 3).trans rfl)
  by_cases c0 : m.kind < 0
  · have hv : R = false := by rw [HF.out, decide_eq_false_iff_not]; omega
    subst hv
    have d0 : m.kind < 0 := by omega
    clear HF OT NO TS c0
    go_wp2
    exact bodyPost_ret (v := .bool false) (by simp [results, Tryd.results16]) rfl ⟨rfl, HK1.out⟩
  have d0 : ¬ m.kind < 0 := by omega
  by_cases c1 : 11 ≤ m.kind
  · have hv : R = false := by rw [HF.out, decide_eq_false_iff_not]; omega
    subst hv
    have d1 : (11 : Int) ≤ m.kind := by omega
    clear HF OT NO TS c0 c1
    go_wp2
    exact bodyPost_ret (v := .bool false) (by simp [results, Tryd.results16]) rfl ⟨rfl, HK1.out⟩
  have d1 : ¬ (11 : Int) ≤ m.kind := by omega
  by_cases c2 : 101 < m.ls.length
  · have hv : R = false := by rw [HF.out, decide_eq_false_iff_not]; omega
    subst hv
    have d2 : (101 : Int) < m.ls.length := by omega
    clear HF OT NO TS c0 c1 c2
    go_wp2
    exact bodyPost_ret (v := .bool false) (by simp [results, Tryd.results16]) rfl ⟨rfl, HK1.out⟩
  have d2 : ¬ (101 : Int) < m.ls.length := by omega
  by_cases c3 : 2000 < m.hs.length
  · have hv : R = false := by rw [HF.out, decide_eq_false_iff_not]; omega
    subst hv
    have d3 : (2000 : Int) < m.hs.length := by omega
    clear HF OT NO TS c0 c1 c2 c3
    go_wp2
    exact bodyPost_ret (v := .bool false) (by simp [results, Tryd.results16]) rfl ⟨rfl, HK1.out⟩
  have d3 : ¬ (2000 : Int) < m.hs.length := by omega
  by_cases c4 : 50000 < m.is.length
  · have hv : R = false := by rw [HF.out, decide_eq_false_iff_not]; omega
    subst hv
    have d4 : (50000 : Int) < m.is.length := by omega
    clear HF OT NO TS c0 c1 c2 c3 c4
    go_wp2
    exact bodyPost_ret (v := .bool false) (by simp [results, Tryd.results16]) rfl ⟨rfl, HK1.out⟩
  have d4 : ¬ (50000 : Int) < m.is.length := by omega
  by_cases c5 : 4096 < m.shs.length
  · have hv : R = false := by rw [HF.out, decide_eq_false_iff_not]; omega
    subst hv
    have d5 : (4096 : Int) < m.shs.length := by omega
    clear HF OT NO TS c0 c1 c2 c3 c4 c5
    go_wp2
    exact bodyPost_ret (v := .bool false) (by simp [results, Tryd.results16]) rfl ⟨rfl, HK1.out⟩
  have d5 : ¬ (4096 : Int) < m.shs.length := by omega
  by_cases c6 : 1024 < m.fs.length
  · have hv : R = false := by rw [HF.out, decide_eq_false_iff_not]; omega
    subst hv
    have d6 : (1024 : Int) < m.fs.length := by omega
    clear HF OT NO TS c0 c1 c2 c3 c4 c5 c6
    go_wp2
    exact bodyPost_ret (v := .bool false) (by simp [results, Tryd.results16]) rfl ⟨rfl, HK1.out⟩
  have d6 : ¬ (1024 : Int) < m.fs.length := by omega
  by_cases hk10 : m.kind = 10
  · have d8 : (m.kind == 10) = true := by rw [beq_iff_eq]; exact hk10
    cases ST with
    | false =>
      have hv : R = false := by rw [HF.out, decide_eq_false_iff_not]; intro q; exact absurd (q.2.2.2.2.2.2.2.1 hk10) (by decide)
      subst hv
      clear HF OT NO hk10 c0 c1 c2 c3 c4 c5 c6
      go_wp2_with (go_at_call 34; refine (TS.out _ HK1.out).mono ?_; rintro e w2 ⟨rfl, k2⟩; have HK2 := Lib.hid (keep_trans HK1.out k2); clear k2)
      exact bodyPost_ret (v := .bool false) (by simp [results, Tryd.results16]) rfl ⟨rfl, HK2.out⟩
    | true =>
      have hv : R = NT := by
        rw [HF.out]
        cases NT with
        | false => rw [decide_eq_false_iff_not]; intro q; exact absurd q.2.2.2.2.2.2.2.2 (by decide)
        | true => rw [decide_eq_true_eq]; exact ⟨by omega, by omega, by omega, by omega, by omega, by omega, by omega, fun _ => rfl, rfl⟩
      subst hv
      clear HF hk10 c0 c1 c2 c3 c4 c5 c6
      go_upto_region 9 with (go_at_call 34; refine (TS.out _ HK1.out).mono ?_; rintro e w2 ⟨rfl, k2⟩; have HK2 := Lib.hid (keep_trans HK1.out k2); have HB2 := Lib.hid (HBc.out.keep k2); clear k2)
      go_wp2_with (first | ((with_reducible refine load_arr w.heap.size cs (Eq.trans ?_ rfl) HB2.out _ Tryd.underlying50 rfl hci ?_); rfl) | (go_at_call 36; refine (OT.out _).mono ?_; rintro e w3 ⟨ds, rfl, hds, k3⟩; have hdn := hds.n; have hdz := hds.z; have HDS := Lib.hid hds; have HK3 := Lib.hid (keep_trans HK2.out k3); clear hds k3) | (go_at_call 35; refine (NO.out _ _ HDS.out).mono ?_; rintro e w4 ⟨rfl, k4⟩; have HK4 := Lib.hid (keep_trans HK3.out k4); clear k4))
      exact bodyPost_ret (v := .bool _) (by simp [results, Tryd.results16]) rfl ⟨rfl, HK4.out⟩
  · have d8 : (m.kind == 10) = false := by rw [beq_eq_false_iff_ne]; exact hk10
    have hv : R = NT := by
      rw [HF.out]
      cases NT with
      | false => rw [decide_eq_false_iff_not]; intro q; exact absurd q.2.2.2.2.2.2.2.2 (by decide)
      | true => rw [decide_eq_true_eq]; exact ⟨by omega, by omega, by omega, by omega, by omega, by omega, by omega, fun q => absurd q hk10, rfl⟩
    subst hv
    clear HF hk10 c0 c1 c2 c3 c4 c5 c6
    go_upto_region 9 with fail
    go_wp2_with (first | ((with_reducible refine load_arr w.heap.size cs (Eq.trans ?_ rfl) HBc.out _ Tryd.underlying50 rfl hci ?_); rfl) | (go_at_call 36; refine (OT.out _).mono ?_; rintro e w3 ⟨ds, rfl, hds, k3⟩; have hdn := hds.n; have hdz := hds.z; have HDS := Lib.hid hds; have HK3 := Lib.hid (keep_trans HK1.out k3); clear hds k3) | (go_at_call 35; refine (NO.out _ _ HDS.out).mono ?_; rintro e w4 ⟨rfl, k4⟩; have HK4 := Lib.hid (keep_trans HK3.out k4); clear k4))
    exact bodyPost_ret (v := .bool _) (by simp [results, Tryd.results16]) rfl ⟨rfl, HK4.out⟩
end Go.Proofs.YtffpanlpbdnafaaDoor

/- Peers in memory; frame.bounded, New; peer.New, banned. -/
set_option linter.unusedSimpArgs false
set_option linter.unusedVariables false
namespace Go.Proofs.YtffpanlpbdnafaaDoor
open Go.RowKit
attribute [local go_sem ↓] Go.wp_at_zero Go.wp_at_succ

/-- A peer. -/
structure PeR where
  stage : Int
  nonce : Nat
  height : UInt32
  asked : Bool
  until_ : Int
  misses : Int
  magic : UInt32
  cap : Int
  rA : Option Addr
  rs : List UInt8
  rc : Nat
  bad : Int
namespace PeR
def cells (p : PeR) : List Value := [iv p.stage, u64v p.nonce, u32v p.height, .bool p.asked, iv p.until_, iv p.misses, u32v p.magic, iv p.cap, .slice p.rA p.rs.length p.rc, iv p.bad]
theorem one (p : PeR) : ∀ u ∈ p.cells, u.oneCell' = true := by
  intro u hu
  unfold cells at hu
  simp only [List.mem_cons, List.not_mem_nil, or_false] at hu
  rcases hu with rfl | rfl | rfl | rfl | rfl | rfl | rfl | rfl | rfl | rfl <;> rfl
end PeR
theorem pe_info : (Tryd.prog.info? 31).map (·.size) = some 10 := by kernel_rfl
/-- What a walk has to know of a peer as a value. -/
structure PeA (p : PeR) (cs : Array Value) : Prop where
  l : cs.toList = p.cells
  z : cs.size = 10
  i : (Tryd.prog.info? 31).map (·.size) = some cs.size
  n : ¬ cs = #[]
  o : ∀ v ∈ cs.toList, v.oneCell' = true
theorem PeA.of (p : PeR) : PeA p p.cells.toArray :=
  ⟨rfl, rfl, pe_info, (fun e => by cases e), by simpa using p.one⟩
def peZ : PeR := ⟨0, 0, 0, false, 0, 0, 0, 0, none, [], 0, 0⟩
noncomputable def zpeer : Array Value := match (Tryd.prog.info? 31).bind (·.zero) with | some (.agg c) => c | _ => #[]
theorem zpeer_zero (w : World) : (zeroValue 31).run Tryd.prog w = .ok (.agg zpeer) w := by kernel_rfl
theorem zpeer_list : zpeer.toList = peZ.cells := by kernel_rfl
theorem zpeer_letter : ∃ zs : Array Value, (∀ w, (zeroValue 31).run Tryd.prog w = .ok (.agg zs) w) ∧ PeA peZ zs :=
  ⟨zpeer, zpeer_zero, by
    have h := PeA.of peZ
    rwa [← zpeer_list, Array.toArray_toList] at h⟩
def bndF (n : Int) : Int := min (max n 0) 4000000
def newP (magic : UInt32) (most : Int) : PeR := { peZ with magic := magic, cap := bndF most }
def PeR.ban (p : PeR) : PeR := { p with stage := 3, asked := false, rA := none, rs := [], rc := 0 }

set_option maxRecDepth 100000 in
theorem bounded_any (n : Int) (w : World) : Calls Tryd.prog 42 #[iv n] w fun e w' => e = .returned (iv (bndF n)) ∧ Keep w w' := by
  have HK : Hid (Keep w w) := Lib.hid (Below.refl _ _)
  have HB : Hid (bndF n = min (max n 0) 4000000) := Lib.hid rfl
  generalize bndF n = B at *
  go_enter Tryd.func42, Tryd.ntmps42
  go_wp2
  all_goals
    rename_i h1
    have e : B = _ := HB.out
    first
    | (have e3 : B = 4000000 := by rw [e]; split at h1 <;> omega
       rw [e3]
       exact bodyPost_ret (v := iv 4000000) (by simp [results, Tryd.results42]) rfl ⟨rfl, HK.out⟩)
    | (have e3 : B = 0 := by rw [e]; omega
       rw [e3]
       exact bodyPost_ret (v := iv 0) (by simp [results, Tryd.results42]) rfl ⟨rfl, HK.out⟩)
    | (have e3 : B = n := by rw [e]; split at h1 <;> omega
       rw [e3]
       exact bodyPost_ret (v := iv n) (by simp [results, Tryd.results42]) rfl ⟨rfl, HK.out⟩)

/-- A stream as a value. -/
def bufL (g : UInt32) (c : Int) (A : Option Addr) (n rc : Nat) (b : Int) : List Value := [u32v g, iv c, .slice A n rc, iv b]
theorem buf_info : (Tryd.prog.info? 29).map (·.size) = some 4 := by kernel_rfl
structure BuA (l : List Value) (cs : Array Value) : Prop where
  l : cs.toList = l
  z : cs.size = 4
  i : (Tryd.prog.info? 29).map (·.size) = some cs.size
  n : ¬ cs = #[]
  o : ∀ v ∈ cs.toList, v.oneCell' = true
theorem BuA.of (g : UInt32) (c : Int) (A : Option Addr) (n rc : Nat) (b : Int) : BuA (bufL g c A n rc b) (bufL g c A n rc b).toArray :=
  ⟨rfl, rfl, buf_info, (fun e => by cases e), by
    intro v hv
    have hv : v ∈ bufL g c A n rc b := by simpa using hv
    simp only [bufL, List.mem_cons, List.not_mem_nil, or_false] at hv
    rcases hv with rfl | rfl | rfl | rfl <;> rfl⟩
theorem buf_built (g : UInt32) (c : Int) : ∃ bs, BuA (bufL g c none 0 0 0) bs ∧ Tryd.prog.built 29 [(0, u32v g), (1, iv c)] = some bs := ⟨_, BuA.of .., by kernel_rfl⟩
set_option maxRecDepth 100000 in
theorem pe_built (g : UInt32) (c : Int) (bs : Array Value) (h : BuA (bufL g c none 0 0 0) bs) : ∃ ps, PeA { peZ with magic := g, cap := c } ps ∧ Tryd.prog.built 31 [(6, .agg bs)] = some ps := by
  have e : bs = (bufL g c none 0 0 0).toArray := by rw [← h.l, Array.toArray_toList]
  subst e
  exact ⟨_, PeA.of _, by kernel_rfl⟩
noncomputable def zbuf : Array Value := match (Tryd.prog.info? 29).bind (·.zero) with | some (.agg c) => c | _ => #[]
theorem zbuf_zero (w : World) : (zeroValue 29).run Tryd.prog w = .ok (.agg zbuf) w := by kernel_rfl
theorem zbuf_list : zbuf.toList = bufL 0 0 none 0 0 0 := by kernel_rfl
set_option maxRecDepth 100000 in
theorem zbuf_letter : ∃ zs : Array Value, (∀ w, (zeroValue 29).run Tryd.prog w = .ok (.agg zs) w) ∧ BuA (bufL 0 0 none 0 0 0) zs :=
  ⟨zbuf, zbuf_zero, by
    have h := BuA.of 0 0 none 0 0 0
    rwa [← zbuf_list, Array.toArray_toList] at h⟩

set_option maxRecDepth 100000 in
set_option maxHeartbeats 4000000 in
theorem fnew_any (g : UInt32) (n : Int) (w : World) : Calls Tryd.prog 28 #[u32v g, iv n] w fun e w' => ∃ bs, e = .returned (.agg bs) ∧ BuA (bufL g (bndF n) none 0 0 0) bs ∧ Keep w w' := by
  have BN : Hid (∀ y, Calls Tryd.prog 42 #[iv n] y fun e w' => e = .returned (iv (bndF n)) ∧ Keep y w') := Lib.hid fun y => bounded_any n y
  generalize bndF n = B at *
  obtain ⟨zs, hz0, hzA⟩ := zbuf_letter
  obtain ⟨bs, hbA, hbl⟩ := buf_built g B
  have hzn := hzA.n; have hzz := hzA.z
  have hbn := hbA.n; have hbz := hbA.z; have hbi := hbA.i
  have HZ := Lib.hid hzA; have HBA := Lib.hid hbA
  have HBu := Lib.hid hbl
  clear hzA hbA hbl
  go_enter Tryd.func28, Tryd.ntmps28
  go_wp2_with fail
  refine (BN.out _).mono ?_
  clear BN
  rintro e w2 ⟨rfl, k2⟩
  have HK2 : Hid (Keep w w2) := Lib.hid (keep_trans (keep_new w _) k2)
  have HR2 : Hid (Blk w2 w.heap.size 29 zs.toList) := Lib.hid ((Blk.new w 29 zs.toList).keep k2)
  clear k2
  obtain ⟨w8, hst8, hb8, hg8⟩ := run_store_blk (P := Tryd.prog) bs.toList HR2.out (by rw [Array.length_toList, Array.length_toList, hzz, hbz]) HBA.out.o
  have Hb8 := Lib.hid hb8; have Hg8 := Lib.hid hg8
  clear hb8 hg8
  go_wp2_with ((with_reducible refine list_bldg [(0, u32v g), (1, iv B)] bs (Eq.trans ?_ rfl) HBu.out (Eq.trans ?_ rfl) ?_); rfl; rfl)
  exact bodyPost_ret (v := .agg bs) (results_cell_row Tryd.results28 _ _ w.heap.size _ _ _ _ rfl Hb8.out Tryd.underlying29 rfl (by rw [List.size_toArray, Array.length_toList]; exact hbi)) rfl ⟨bs, rfl, HBA.out, HK2.out.grown Hg8.out HK2.out.size (fun q hq => by injection hq with hq; omega)⟩

set_option maxRecDepth 100000 in
set_option maxHeartbeats 4000000 in
theorem pnew_any (g : UInt32) (n : Int) (w : World) : Calls Tryd.prog 9 #[u32v g, iv n] w fun e w' => ∃ ps, e = .returned (.agg ps) ∧ PeA (newP g n) ps ∧ Keep w w' := by
  have FN : Hid (∀ y, Calls Tryd.prog 28 #[u32v g, iv n] y fun e w' => ∃ bs, e = .returned (.agg bs) ∧ BuA (bufL g (bndF n) none 0 0 0) bs ∧ Keep y w') := Lib.hid fun y => fnew_any g n y
  unfold newP
  generalize bndF n = B at *
  obtain ⟨zs, hz0, hzA⟩ := zpeer_letter
  have hzn := hzA.n; have hzz := hzA.z
  have HZ := Lib.hid hzA
  clear hzA
  go_enter Tryd.func9, Tryd.ntmps9
  go_wp2_with fail
  refine (FN.out _).mono ?_
  clear FN
  rintro e w2 ⟨bs, rfl, hbA, k2⟩
  have hbn := hbA.n; have hbz := hbA.z
  obtain ⟨ps, hpA, hpl⟩ := pe_built g B bs hbA
  have hpn := hpA.n; have hpz := hpA.z; have hpi := hpA.i
  have HP := Lib.hid hpA; have HBu := Lib.hid hpl
  clear hpl
  have HK2 : Hid (Keep w w2) := Lib.hid (keep_trans (keep_new w _) k2)
  have HR2 : Hid (Blk w2 w.heap.size 31 zs.toList) := Lib.hid ((Blk.new w 31 zs.toList).keep k2)
  clear k2 hbA hpA
  obtain ⟨w8, hst8, hb8, hg8⟩ := run_store_blk (P := Tryd.prog) ps.toList HR2.out (by rw [Array.length_toList, Array.length_toList, hzz, hpz]) HP.out.o
  have Hb8 := Lib.hid hb8; have Hg8 := Lib.hid hg8
  clear hb8 hg8
  go_wp2_with ((with_reducible refine list_bldg [(6, .agg bs)] ps (Eq.trans ?_ rfl) HBu.out (Eq.trans ?_ rfl) ?_); rfl; rfl)
  exact bodyPost_ret (v := .agg ps) (results_cell_row Tryd.results9 _ _ w.heap.size _ _ _ _ rfl Hb8.out Tryd.underlying31 rfl (by rw [List.size_toArray, Array.length_toList]; exact hpi)) rfl ⟨ps, rfl, HP.out, HK2.out.grown Hg8.out HK2.out.size (fun q hq => by injection hq with hq; omega)⟩

set_option maxRecDepth 100000 in
set_option maxHeartbeats 4000000 in
theorem banned_any (p : PeR) (cs : Array Value) (hA : PeA p cs) (w : World) : Calls Tryd.prog 27 #[.agg cs] w fun e w' => ∃ ds, e = .returned (.agg ds) ∧ PeA p.ban ds ∧ Keep w w' := by
  obtain ⟨zs, hz0, hzA⟩ := zpeer_letter
  have hzn := hzA.n; have hzz := hzA.z
  have hcn := hA.n; have hcz := hA.z; have hci := hA.i
  have HA := Lib.hid hA; have HZ := Lib.hid hzA
  clear hzA hA
  go_enter Tryd.func27, Tryd.ntmps27
  go_upto_region 1 with fail
  obtain ⟨w1, hw1⟩ : ∃ w1, w1 = (w.alloc (.cells cs 31)).alloc (.cells zs 31) := ⟨_, rfl⟩
  have HB1 : Hid (Blk w1 w.heap.size 31 p.cells) := by rw [hw1, ← HA.out.l]; exact (Blk.new w _ cs.toList).alloc _
  have HR1 : Hid (Blk w1 (w.heap.size + 1) 31 zs.toList) := by
    rw [hw1]
    have h2 := Blk.new (w.alloc (.cells cs 31)) 31 zs.toList
    rw [World.size_alloc] at h2
    exact h2
  have HK1 : Hid (Keep w w1) := by rw [hw1]; exact keep_trans (keep_new _ _) (keep_new _ _)
  rw [← hw1]
  clear hw1
  have r0 : w1.cell? ⟨w.heap.size, 0, none⟩ = some (iv p.stage) := (HB1.out.cell 0).trans rfl
  have r3 : w1.cell? ⟨w.heap.size, 3, none⟩ = some (.bool p.asked) := (HB1.out.cell 3).trans rfl
  have r8 : w1.cell? ⟨w.heap.size, 8, none⟩ = some (.slice p.rA p.rs.length p.rc) := (HB1.out.cell 8).trans rfl
  have f0 := HB1.out.frozen 0; have f3 := HB1.out.frozen 3; have f8 := HB1.out.frozen 8
  go_upto_region 4 with fail
  obtain ⟨wx, hwx⟩ : ∃ wx, wx = (((w1.setCell ⟨w.heap.size, 0, none⟩ (.int .i64 3)).setCell ⟨w.heap.size, 3, none⟩ (.bool false)).setCell ⟨w.heap.size, 8, none⟩ (.slice none 0 0)) := ⟨_, rfl⟩
  have HX : Blk wx w.heap.size 31 p.ban.cells := by
    rw [hwx]
    exact (((HB1.out.set_ 0 (.int .i64 3)).set_ 3 (.bool false)).set_ 8 (.slice none 0 0))
  have HRX : Hid (Blk wx (w.heap.size + 1) 31 zs.toList) := by rw [hwx]; exact Lib.hid (((HR1.out.far (by simp <;> omega) _).far (by simp <;> omega) _).far (by simp <;> omega) _)
  have HKX : Hid (Keep w wx) := by rw [hwx]; exact Lib.hid (Below.setCell (Below.setCell (Below.setCell HK1.out (by simp <;> omega) _) (by simp <;> omega) _) (by simp <;> omega) _)
  rw [← hwx]
  clear hwx r0 f0 r3 f3 r8 f8
  obtain ⟨ds, hds⟩ : ∃ ds, PeA p.ban ds := ⟨_, PeA.of _⟩
  have hdz := hds.z; have hdn := hds.n; have hdi := hds.i
  have HDS := Lib.hid hds
  have HBx : Hid (Blk wx w.heap.size 31 ds.toList) := by rw [HDS.out.l]; exact HX
  obtain ⟨w8, hst8, hb8, hg8⟩ := run_store_blk (P := Tryd.prog) ds.toList HRX.out (by rw [Array.length_toList, Array.length_toList, hdz, hzz]) HDS.out.o
  have Hb8 := Lib.hid hb8; have Hg8 := Lib.hid hg8
  clear hds hb8 hg8 HX HRX HB1 HR1
  go_wp2_with ((with_reducible refine load_arr w.heap.size ds (Eq.trans ?_ rfl) HBx.out _ Tryd.underlying31 rfl hdi ?_); rfl)
  have hb8 := Hb8.out
  exact bodyPost_ret (v := .agg ds) (results_cell_row Tryd.results27 _ _ (w.heap.size + 1) _ _ _ _ rfl hb8 Tryd.underlying31 rfl (by rw [List.size_toArray, Array.length_toList]; exact hdi)) rfl ⟨ds, rfl, HDS.out, HKX.out.grown Hg8.out HKX.out.size (fun q hq => by injection hq with hq; omega)⟩
end Go.Proofs.YtffpanlpbdnafaaDoor

/- frame.Get of nothing, frame.Sane where nothing is left; peer.Sane, taken. -/
set_option linter.unusedSimpArgs false
set_option linter.unusedVariables false
namespace Go.Proofs.YtffpanlpbdnafaaDoor
open Go.RowKit
attribute [local go_sem ↓] Go.wp_at_zero Go.wp_at_succ

theorem fmsg_info : (Tryd.prog.info? 71).map (·.size) = some 2 := by kernel_rfl
noncomputable def zfmsg : Array Value := match (Tryd.prog.info? 71).bind (·.zero) with | some (.agg c) => c | _ => #[]
theorem zfmsg_zero (w : World) : (zeroValue 71).run Tryd.prog w = .ok (.agg zfmsg) w := by kernel_rfl
theorem zfmsg_size : zfmsg.size = 2 := by kernel_rfl
theorem zfmsg_one : ∀ v ∈ zfmsg.toList, v.oneCell' = true := by
  have h : (zfmsg.toList.all fun v => v.oneCell') = true := by kernel_rfl
  exact fun v hv => List.all_eq_true.1 h v hv
theorem zfmsg_letter : ∃ zs : Array Value, (∀ w, (zeroValue 71).run Tryd.prog w = .ok (.agg zs) w) ∧ zs.size = 2 ∧ ¬ zs = #[] ∧ (∀ v ∈ zs.toList, v.oneCell' = true) :=
  ⟨zfmsg, zfmsg_zero, zfmsg_size, (fun h => by have := zfmsg_size; rw [h] at this; cases this), zfmsg_one⟩

set_option maxRecDepth 100000 in
set_option maxHeartbeats 4000000 in
theorem get_nil (g : UInt32) (n : Int) (A : Option Addr) (c : Nat) (w : World) :
    Calls Tryd.prog 18 #[u32v g, iv n, .slice A 0 c] w fun e w' => ∃ v, e = .returned (.tuple #[v, iv 0, iv 1]) ∧ (∃ zs : Array Value, v = .agg zs ∧ zs.size = 2 ∧ ¬ zs = #[] ∧ (∀ u ∈ zs.toList, u.oneCell' = true)) ∧ Keep w w' := by
  obtain ⟨zs, hz0, hzz, hzn, hzo⟩ := zfmsg_letter
  have HZO := Lib.hid hzo
  clear hzo
  go_enter Tryd.func18, Tryd.ntmps18
  go_wp2_with fail
  go_loopw [19] (fun i wr => i = .int .i64 0 ∧ Blk wr w.heap.size 71 zs.toList ∧ Keep w wr) (fun i _ => 0)
  case atStart => exact ⟨rfl, Blk.new w 71 zs.toList, keep_new w _⟩
  case round =>
    obtain ⟨rfl, hb, hkr⟩ := hrel
    have HB := Lib.hid hb
    have HK := Lib.hid hkr
    obtain ⟨w8, hst8, hb8, hg8⟩ := run_store_blk (P := Tryd.prog) zs.toList hb rfl HZO.out
    have Hb8 := Lib.hid hb8; have Hg8 := Lib.hid hg8
    clear hb8 hg8 hb hkr
    go_wp2
    exact bodyPost_ret (v := .tuple #[.agg zs, iv 0, iv 1]) (results_cell_tmp_tmp Tryd.results18 _ _ w.heap.size _ _ _ _ rfl Hb8.out Tryd.underlying71 rfl (by rw [List.size_toArray, Array.length_toList, hzz]; exact fmsg_info)) rfl ⟨_, rfl, ⟨zs, rfl, hzz, hzn, HZO.out⟩, HK.out.grown Hg8.out HK.out.size (fun q hq => by injection hq with hq; omega)⟩

/-- May a stream be, of which nothing is left? -/
def fsaneB (c : Int) : Bool := decide (c = bndF c)
set_option maxRecDepth 100000 in
set_option maxHeartbeats 4000000 in
theorem fsane_nil (g : UInt32) (n : Int) (A : Option Addr) (c : Nat) (b : Int) (bs : Array Value) (h : BuA (bufL g n A 0 c b) bs) (w : World) :
    Calls Tryd.prog 29 #[.agg bs] w fun e w' => e = .returned (.bool (fsaneB n)) ∧ Keep w w' := by
  have BN : Hid (∀ y, Calls Tryd.prog 42 #[iv n] y fun e w' => e = .returned (iv (bndF n)) ∧ Keep y w') := Lib.hid fun y => bounded_any n y
  have GN : Hid (∀ y, Calls Tryd.prog 18 #[u32v g, iv n, .slice A 0 c] y fun e w' => ∃ v, e = .returned (.tuple #[v, iv 0, iv 1]) ∧ (∃ zs : Array Value, v = .agg zs ∧ zs.size = 2 ∧ ¬ zs = #[] ∧ (∀ u ∈ zs.toList, u.oneCell' = true)) ∧ Keep y w') := Lib.hid fun y => get_nil g n A c y
  obtain ⟨zm, hz0, hzz, hzn, hzo⟩ := zfmsg_letter
  have hbn := h.n; have hbz := h.z; have hbi := h.i
  have HA := Lib.hid h
  have HF : Hid (fsaneB n = decide (n = bndF n)) := Lib.hid rfl
  generalize fsaneB n = F at *
  generalize bndF n = B at *
  clear h hzo
  obtain ⟨d, hd⟩ : ∃ d, (n != B) = d := ⟨_, rfl⟩
  have hF : F = !d := by rw [HF.out, ← hd]; simp [bne]; by_cases e : n = B <;> simp [e]
  obtain ⟨p, hp⟩ : ∃ p, (b != 0) = p := ⟨_, rfl⟩
  clear HF
  go_enter Tryd.func29, Tryd.ntmps29
  go_upto_region 1 with fail
  obtain ⟨w1, hw1⟩ : ∃ w1, w1 = w.alloc (.cells bs 29) := ⟨_, rfl⟩
  have HB1 : Hid (Blk w1 w.heap.size 29 (bufL g n A 0 c b)) := by rw [hw1, ← HA.out.l]; exact Lib.hid (Blk.new w _ bs.toList)
  have HK1 : Hid (Keep w w1) := by rw [hw1]; exact Lib.hid (keep_new _ _)
  rw [← hw1]
  clear hw1
  refine wp_region_tree (.take [0,1,2,3] (.force [4] (.take [5] .done))) [] (by kernel_rfl) (by kernel_rfl) (fun w9 k9 => ?_)
  have HB9 := Lib.hid (HB1.out.keep k9)
  have HK9 := Lib.hid (keep_trans HK1.out k9)
  have q1 := aft_cell (HB9.out.cell 1)
  clear HB1 HK1 k9
  refine mt_take w9 (Below.refl _ _) ?_
  simp only [pick_cons, pick_nil, nth_zero, nth_succ]
  repeat (go_big_quiet_step (fail))
  refine wpQuiet_nil (mt_force ?_)
  simp only [pick_cons, pick_nil, nth_zero, nth_succ]
  refine fc_step rfl (fun K hK => ?_)
  go_simp
  (with_reducible refine (BN.out _).mono ?_)
  rintro e w2 ⟨rfl, k2⟩
  refine hK _ _ k2 ?_
  clear hK K BN
  have HB2 := Lib.hid (HB9.out.keep k2)
  have HK2 := Lib.hid (keep_trans HK9.out k2)
  clear HB9 HK9 k2 q1
  refine fc_nil (mt_take w2 (Below.refl _ _) ?_)
  simp only [pick_cons, pick_nil, nth_zero, nth_succ]
  repeat (go_big_quiet_step (fail))
  refine wpQuiet_nil (mt_end ?_)
  have r0 : w2.cell? ⟨w.heap.size, 0, none⟩ = some (u32v g) := (HB2.out.cell 0).trans rfl
  have r1 : w2.cell? ⟨w.heap.size, 1, none⟩ = some (iv n) := (HB2.out.cell 1).trans rfl
  have r2 : w2.cell? ⟨w.heap.size, 2, none⟩ = some (.slice A 0 c) := (HB2.out.cell 2).trans rfl
  have r3 : w2.cell? ⟨w.heap.size, 3, none⟩ = some (iv b) := (HB2.out.cell 3).trans rfl
  cases d
  · cases p
    · go_wp2_with fail
      refine (GN.out _).mono ?_
      clear GN r0 r1 r2 r3
      rintro e w3 ⟨v, rfl, ⟨zs, rfl, hvz, hvn, hvo⟩, k3⟩
      have HK3 := Lib.hid (keep_trans HK2.out k3)
      clear HK2 k3 HB2
      have hst : ∀ ww : World, (storeCells ⟨ww.heap.size, 0, none⟩ zs.toList 0).run Tryd.prog (ww.alloc (.cells zm 71)) = .ok () (ww.alloc (.cells zs 71)) := fun ww =>
        run_storeCells_new (P := Tryd.prog) ww 71 zm zs (by rw [hvz]; exact fmsg_info) (by rw [hzz, hvz]) (by have := all_oneCell_toArray hvo; rwa [Array.toArray_toList] at this)
      clear hvo
      go_wp2
      exact bodyPost_ret (v := .bool F) (by simp [results, Tryd.results29, hF]) rfl ⟨rfl, keep_trans HK3.out (keep_new _ _)⟩
    · go_wp2
      exact bodyPost_ret (v := .bool F) (by simp [results, Tryd.results29, hF]) rfl ⟨rfl, HK2.out⟩
  · go_wp2
    exact bodyPost_ret (v := .bool F) (by simp [results, Tryd.results29, hF]) rfl ⟨rfl, HK2.out⟩
end Go.Proofs.YtffpanlpbdnafaaDoor

/- peer.Sane, taken (where nothing is left of a stream). -/
set_option linter.unusedSimpArgs false
set_option linter.unusedVariables false
namespace Go.Proofs.YtffpanlpbdnafaaDoor
open Go.RowKit
attribute [local go_sem ↓] Go.wp_at_zero Go.wp_at_succ

def saneP (p : PeR) : Bool := decide (0 ≤ p.stage ∧ p.stage ≤ 3) && decide (0 ≤ p.misses ∧ p.misses ≤ 3) && (decide (0 ≤ p.until_) && !decide (1099511627776 < p.until_)) && (!p.asked || p.stage == 2) && fsaneB p.cap

set_option maxRecDepth 100000 in
set_option maxHeartbeats 4000000 in
theorem psane_any (p : PeR) (cs : Array Value) (hA : PeA p cs) (hr : p.rs = []) (w : World) :
    Calls Tryd.prog 12 #[.agg cs] w fun e w' => e = .returned (.bool (saneP p)) ∧ Keep w w' := by
  obtain ⟨bs, hbs⟩ : ∃ bs, BuA (bufL p.magic p.cap p.rA 0 p.rc p.bad) bs := ⟨_, BuA.of ..⟩
  have FS : Hid (∀ y, Calls Tryd.prog 29 #[.agg bs] y fun e w' => e = .returned (.bool (fsaneB p.cap)) ∧ Keep y w') := Lib.hid fun y => fsane_nil _ _ _ _ _ bs hbs y
  have hcn := hA.n; have hcz := hA.z; have hci := hA.i
  have hbn := hbs.n; have hbz := hbs.z; have hbi := hbs.i
  have HS : Hid (saneP p = (decide (0 ≤ p.stage ∧ p.stage ≤ 3) && decide (0 ≤ p.misses ∧ p.misses ≤ 3) && (decide (0 ≤ p.until_) && !decide (1099511627776 < p.until_)) && (!p.asked || p.stage == 2) && fsaneB p.cap)) := Lib.hid rfl
  have HA := Lib.hid hA
  have HBC : Hid (p.cells = [iv p.stage, u64v p.nonce, u32v p.height, .bool p.asked, iv p.until_, iv p.misses] ++ bs.toList) := by
    rw [hbs.l]; unfold PeR.cells bufL; rw [hr]; exact Lib.hid rfl
  clear hA hbs hr
  generalize saneP p = S at *
  generalize fsaneB p.cap = F at *
  go_enter Tryd.func12, Tryd.ntmps12
  go_upto_region 1 with fail
  obtain ⟨w1, hw1⟩ : ∃ w1, w1 = w.alloc (.cells cs 31) := ⟨_, rfl⟩
  have HB1 : Hid (Blk w1 w.heap.size 31 p.cells) := by rw [hw1, ← HA.out.l]; exact Lib.hid (Blk.new w _ cs.toList)
  have HK1 : Hid (Keep w w1) := by rw [hw1]; exact Lib.hid (keep_new _ _)
  rw [← hw1]
  clear hw1
  have r0 : w1.cell? ⟨w.heap.size, 0, none⟩ = some (iv p.stage) := (HB1.out.cell 0).trans rfl
  have r3 : w1.cell? ⟨w.heap.size, 3, none⟩ = some (.bool p.asked) := (HB1.out.cell 3).trans rfl
  have r4 : w1.cell? ⟨w.heap.size, 4, none⟩ = some (iv p.until_) := (HB1.out.cell 4).trans rfl
  have r5 : w1.cell? ⟨w.heap.size, 5, none⟩ = some (iv p.misses) := (HB1.out.cell 5).trans rfl
  have RB : Hid (w1.rangeAt w.heap.size 6 bs.toList) := Lib.hid (range_of HB1.out 6 bs.toList (by rw [HBC.out]; simp [List.take_of_length_le]))
  clear HB1 HBC
  generalize p.stage = st at *
  generalize p.asked = ak at *
  generalize p.until_ = un at *
  generalize p.misses = mi at *
  by_cases h0 : st < 0
  · have hS : S = false := by rw [HS.out, show decide (0 ≤ st ∧ st ≤ 3) = false from by simp; omega]; rfl
    go_wp2
    exact bodyPost_ret (v := .bool false) (by simp [results, Tryd.results12]) rfl ⟨by first | rfl | rw [hS], HK1.out⟩
  by_cases h1 : 3 < st
  · have hS : S = false := by rw [HS.out, show decide (0 ≤ st ∧ st ≤ 3) = false from by simp; omega]; rfl
    go_wp2
    exact bodyPost_ret (v := .bool false) (by simp [results, Tryd.results12]) rfl ⟨by first | rfl | rw [hS], HK1.out⟩
  have e1 : decide (0 ≤ st ∧ st ≤ 3) = true := by rw [decide_eq_true_eq]; omega
  by_cases h2 : mi < 0
  · have hS : S = false := by rw [HS.out, e1, show decide (0 ≤ mi ∧ mi ≤ 3) = false from by simp; omega]; rfl
    go_wp2
    exact bodyPost_ret (v := .bool false) (by simp [results, Tryd.results12]) rfl ⟨by first | rfl | rw [hS], HK1.out⟩
  by_cases h3 : 3 < mi
  · have hS : S = false := by rw [HS.out, e1, show decide (0 ≤ mi ∧ mi ≤ 3) = false from by simp; omega]; rfl
    go_wp2
    exact bodyPost_ret (v := .bool false) (by simp [results, Tryd.results12]) rfl ⟨by first | rfl | rw [hS], HK1.out⟩
  have e2 : decide (0 ≤ mi ∧ mi ≤ 3) = true := by rw [decide_eq_true_eq]; omega
  by_cases h4 : un < 0
  · have hS : S = false := by rw [HS.out, e1, e2, show decide (0 ≤ un) = false from by simp; omega]; rfl
    go_wp2
    exact bodyPost_ret (v := .bool false) (by simp [results, Tryd.results12]) rfl ⟨by first | rfl | rw [hS], HK1.out⟩
  have e4 : decide (0 ≤ un) = true := by rw [decide_eq_true_eq]; omega
  obtain ⟨u, hu⟩ : ∃ u, decide (1099511627776 < un) = u := ⟨_, rfl⟩
  have HS2 : Hid (S = (!u && (!ak || st == 2) && F)) := by rw [HS.out, e1, e2, e4, hu]; exact Lib.hid (by simp)
  clear HS e1 e2 e4
  cases u
  · by_cases hk : ak = true
    · subst hk
      by_cases h6 : st = 2
      · subst h6
        go_wp2_with ((with_reducible refine load_partg w.heap.size 6 bs (Eq.trans ?_ rfl) RB.out _ Tryd.underlying29 rfl hbi rfl ?_); rfl)
        refine (FS.out _).mono ?_
        clear FS r0 r3 r4 r5
        rintro e w3 ⟨rfl, k3⟩
        have HK3 := Lib.hid (keep_trans HK1.out k3)
        clear k3
        go_wp2
        exact bodyPost_ret (v := .bool F) (by simp [results, Tryd.results12]) rfl ⟨by rw [HS2.out]; simp, HK3.out⟩
      · have d6 : (st != 2) = true := by simpa [bne_iff_ne] using h6
        have hS : S = false := by rw [HS2.out]; simp [h6]
        clear h6
        go_wp2
        exact bodyPost_ret (v := .bool false) (by simp [results, Tryd.results12]) rfl ⟨by first | rfl | rw [hS], HK1.out⟩
    · have hk : ak = false := by simpa using hk
      subst hk
      go_wp2_with ((with_reducible refine load_partg w.heap.size 6 bs (Eq.trans ?_ rfl) RB.out _ Tryd.underlying29 rfl hbi rfl ?_); rfl)
      refine (FS.out _).mono ?_
      clear FS r0 r3 r4 r5
      rintro e w3 ⟨rfl, k3⟩
      have HK3 := Lib.hid (keep_trans HK1.out k3)
      clear k3
      go_wp2
      exact bodyPost_ret (v := .bool F) (by simp [results, Tryd.results12]) rfl ⟨by rw [HS2.out]; simp, HK3.out⟩
  · have hS : S = false := by rw [HS2.out]; rfl
    go_wp2
    exact bodyPost_ret (v := .bool false) (by simp [results, Tryd.results12]) rfl ⟨by first | rfl | rw [hS], HK1.out⟩

end Go.Proofs.YtffpanlpbdnafaaDoor

/- peer.taken (where nothing is left of a stream). -/
set_option linter.unusedSimpArgs false
set_option linter.unusedVariables false
namespace Go.Proofs.YtffpanlpbdnafaaDoor
open Go.RowKit
attribute [local go_sem ↓] Go.wp_at_zero Go.wp_at_succ

def takenP (p : PeR) : PeR := if saneP p then p else newP p.magic p.cap
set_option maxRecDepth 100000 in
set_option maxHeartbeats 4000000 in
theorem ptaken_any (p : PeR) (cs : Array Value) (hA : PeA p cs) (hr : p.rs = []) (w : World) :
    Calls Tryd.prog 26 #[.agg cs] w fun e w' => ∃ ds, e = .returned (.agg ds) ∧ PeA (takenP p) ds ∧ Keep w w' := by
  obtain ⟨zs, hz0, hzA⟩ := zpeer_letter
  have PS : Hid (∀ y, Calls Tryd.prog 12 #[.agg cs] y fun e w' => e = .returned (.bool (saneP p)) ∧ Keep y w') := Lib.hid fun y => psane_any p cs hA hr y
  have PN : Hid (∀ y, Calls Tryd.prog 9 #[u32v p.magic, iv p.cap] y fun e w' => ∃ ps, e = .returned (.agg ps) ∧ PeA (newP p.magic p.cap) ps ∧ Keep y w') := Lib.hid fun y => pnew_any _ _ y
  have HT : Hid (takenP p = if saneP p then p else newP p.magic p.cap) := Lib.hid rfl
  have hcn := hA.n; have hcz := hA.z; have hci := hA.i
  have hzn := hzA.n; have hzz := hzA.z
  have HA := Lib.hid hA; have HZ := Lib.hid hzA
  clear hA hzA hr
  generalize takenP p = T at *
  generalize saneP p = S at *
  generalize newP p.magic p.cap = N at *
  go_enter Tryd.func26, Tryd.ntmps26
  go_upto_region 1 with fail
  obtain ⟨w1, hw1⟩ : ∃ w1, w1 = (w.alloc (.cells cs 31)).alloc (.cells zs 31) := ⟨_, rfl⟩
  have HB1 : Hid (Blk w1 w.heap.size 31 cs.toList) := by rw [hw1]; exact Lib.hid ((Blk.new w _ cs.toList).alloc _)
  have HR1 : Hid (Blk w1 (w.heap.size + 1) 31 zs.toList) := by
    rw [hw1]
    have h2 := Blk.new (w.alloc (.cells cs 31)) 31 zs.toList
    rw [World.size_alloc] at h2
    exact Lib.hid h2
  have HK1 : Hid (Keep w w1) := by rw [hw1]; exact Lib.hid (keep_trans (keep_new _ _) (keep_new _ _))
  rw [← hw1]
  clear hw1
  go_wp2_with ((with_reducible refine load_arr w.heap.size cs (Eq.trans ?_ rfl) HB1.out _ Tryd.underlying31 rfl hci ?_); rfl)
  refine (PS.out _).mono ?_
  clear PS
  rintro e w2 ⟨rfl, k2⟩
  have HB2 := Lib.hid (HB1.out.keep k2)
  have HR2 := Lib.hid (HR1.out.keep k2)
  have HK2 := Lib.hid (keep_trans HK1.out k2)
  clear k2 HB1 HR1 HK1
  have HBp : Hid (Blk w2 w.heap.size 31 p.cells) := by rw [← HA.out.l]; exact HB2
  cases S
  · have r6 : w2.cell? ⟨w.heap.size, 6, none⟩ = some (u32v p.magic) := (HBp.out.cell 6).trans rfl
    have r7 : w2.cell? ⟨w.heap.size, 7, none⟩ = some (iv p.cap) := (HBp.out.cell 7).trans rfl
    go_wp2_with fail
    refine (PN.out _).mono ?_
    clear PN r6 r7
    rintro e w3 ⟨ps, rfl, hpA, k3⟩
    have hpn := hpA.n; have hpz := hpA.z; have hpi := hpA.i
    have HP := Lib.hid hpA
    have HK3 := Lib.hid (keep_trans HK2.out k3)
    obtain ⟨w8, hst8, hb8, hg8⟩ := run_store_blk (P := Tryd.prog) ps.toList (HR2.out.keep k3) (by rw [Array.length_toList, Array.length_toList, hzz, hpz]) hpA.o
    have Hb8 := Lib.hid hb8; have Hg8 := Lib.hid hg8
    clear hb8 hg8 hpA k3 HB2 HR2 HK2 HBp
    go_wp2
    exact bodyPost_ret (v := .agg ps) (results_cell_row Tryd.results26 _ _ (w.heap.size + 1) _ _ _ _ rfl Hb8.out Tryd.underlying31 rfl (by rw [List.size_toArray, Array.length_toList]; exact hpi)) rfl ⟨ps, rfl, by rw [HT.out]; exact HP.out, HK3.out.grown Hg8.out HK3.out.size (fun q hq => by injection hq with hq; omega)⟩
  · obtain ⟨w8, hst8, hb8, hg8⟩ := run_store_blk (P := Tryd.prog) cs.toList HR2.out (by rw [Array.length_toList, Array.length_toList, hzz, hcz]) HA.out.o
    have Hb8 := Lib.hid hb8; have Hg8 := Lib.hid hg8
    clear hb8 hg8 HR2 HBp
    go_wp2_with ((with_reducible refine load_arr w.heap.size cs (Eq.trans ?_ rfl) HB2.out _ Tryd.underlying31 rfl hci ?_); rfl)
    exact bodyPost_ret (v := .agg cs) (results_cell_row Tryd.results26 _ _ (w.heap.size + 1) _ _ _ _ rfl Hb8.out Tryd.underlying31 rfl (by rw [List.size_toArray, Array.length_toList]; exact hci)) rfl ⟨cs, rfl, by rw [HT.out]; exact HA.out, HK2.out.grown Hg8.out HK2.out.size (fun q hq => by injection hq with hq; omega)⟩
end Go.Proofs.YtffpanlpbdnafaaDoor

/- peer.Ask (printed by gen_qe.py) -/
set_option linter.unusedSimpArgs false
set_option linter.unusedVariables false
namespace Go.Proofs.YtffpanlpbdnafaaDoor
open Go.RowKit
attribute [local go_sem ↓] Go.wp_at_zero Go.wp_at_succ

def askP (p : PeR) (now wait : Int) : PeR × Bool := if (takenP p).stage = 2 ∧ (takenP p).asked = false then ({ takenP p with asked := true, until_ := now + wait }, true) else (takenP p, false)
set_option maxRecDepth 100000 in
set_option maxHeartbeats 4000000 in
/-- Ask, at times from 0 to 2^39. -/
theorem ask_any (p : PeR) (cs : Array Value) (hA : PeA p cs) (hr : p.rs = []) (now wait : Int) (h1 : 0 ≤ now ∧ now ≤ 549755813888) (h2 : 0 ≤ wait ∧ wait ≤ 549755813888) (w : World) :
    Calls Tryd.prog 10 #[.agg cs, iv now, iv wait] w fun e w' => ∃ ds, e = .returned (.tuple #[.agg ds, .bool (askP p now wait).2]) ∧ PeA (askP p now wait).1 ds ∧ Keep w w' := by
  have HT : Hid (askP p now wait = if (takenP p).stage = 2 ∧ (takenP p).asked = false then ({ takenP p with asked := true, until_ := now + wait }, true) else (takenP p, false)) := Lib.hid rfl
  have a1 : ¬ now < 0 := by omega
  have b1 : ¬ wait < 0 := by omega
  have a2 : decide (549755813888 < now) = false := by rw [decide_eq_false_iff_not]; omega
  have b2 : decide (549755813888 < wait) = false := by rw [decide_eq_false_iff_not]; omega
  have hs : (now + wait) % 18446744073709551616 = now + wait := by omega
  have E1 : Hid ((if 549755813888 < now then 549755813888 else now) = now) := Lib.hid (if_neg (by omega))
  have E2 : Hid ((if 549755813888 < wait then 549755813888 else wait) = wait) := Lib.hid (if_neg (by omega))
  clear h1 h2 hs a2 b2
  generalize askP p now wait = R at *
  obtain ⟨zs, hz0, hzA⟩ := zpeer_letter
  have TK : Hid (∀ y, Calls Tryd.prog 26 #[.agg cs] y fun e w' => ∃ ds, e = .returned (.agg ds) ∧ PeA (takenP p) ds ∧ Keep y w') := Lib.hid fun y => ptaken_any p cs hA hr y
  have hcn := hA.n; have hcz := hA.z; have hci := hA.i
  have hzn := hzA.n; have hzz := hzA.z
  have HA := Lib.hid hA; have HZ := Lib.hid hzA
  clear hA hzA hr
  generalize takenP p = q at *
  go_enter Tryd.func10, Tryd.ntmps10
  go_upto_region 1 with fail
  obtain ⟨w1, hw1⟩ : ∃ w1, w1 = (w.alloc (.cells cs 31)).alloc (.cells zs 31) := ⟨_, rfl⟩
  have HB1 : Hid (Blk w1 w.heap.size 31 cs.toList) := by rw [hw1]; exact Lib.hid ((Blk.new w _ cs.toList).alloc _)
  have HR1 : Hid (Blk w1 (w.heap.size + 1) 31 zs.toList) := by
    rw [hw1]
    have h2 := Blk.new (w.alloc (.cells cs 31)) 31 zs.toList
    rw [World.size_alloc] at h2
    exact Lib.hid h2
  have HK1 : Hid (Keep w w1) := by rw [hw1]; exact Lib.hid (keep_trans (keep_new _ _) (keep_new _ _))
  rw [← hw1]
  clear hw1
  go_wp2_with ((with_reducible refine load_arr w.heap.size cs (Eq.trans ?_ rfl) HB1.out _ Tryd.underlying31 rfl hci ?_); rfl)
  refine (TK.out _).mono ?_
  clear TK
  rintro e w2 ⟨qs, rfl, hqA, k2⟩
  have hqn := hqA.n; have hqz := hqA.z; have hqi := hqA.i
  have HQ := Lib.hid hqA
  have HR2 := Lib.hid (HR1.out.keep k2)
  have HK2 := Lib.hid (keep_trans HK1.out k2)
  obtain ⟨w3, hst3, hb3, hg3⟩ := run_store_blk (P := Tryd.prog) qs.toList (HB1.out.keep k2) (by rw [Array.length_toList, Array.length_toList, hcz, hqz]) HQ.out.o
  have HB3 : Hid (Blk w3 w.heap.size 31 q.cells) := by rw [← HQ.out.l]; exact Lib.hid hb3
  have HBc3 : Hid (Blk w3 w.heap.size 31 qs.toList) := Lib.hid hb3
  have HR3 : Hid (Blk w3 (w.heap.size + 1) 31 zs.toList) := Lib.hid (HR2.out.grown hg3 (fun e => by injection e with e; omega))
  have HK3 : Hid (Keep w w3) := Lib.hid (HK2.out.grown hg3 HK2.out.size (fun q hq => by injection hq with hq; omega))
  clear k2 HB1 HR1 HK1 HR2 HK2 hqA hb3 hg3
  go_upto_region 2 with fail
  clear hst3
  have r0 : w3.cell? ⟨w.heap.size, 0, none⟩ = some (iv q.stage) := (HB3.out.cell 0).trans rfl
  have r3 : w3.cell? ⟨w.heap.size, 3, none⟩ = some (.bool q.asked) := (HB3.out.cell 3).trans rfl
  by_cases h0 : q.stage = 2
  · have d0 : (q.stage != 2) = false := by rw [h0]; rfl
    by_cases hk : q.asked = true
    · have hR : R = (q, false) := by rw [HT.out]; simp [hk]
      rw [hk] at r3
      clear h0
      obtain ⟨w8, hst8, hb8, hg8⟩ := run_store_blk (P := Tryd.prog) qs.toList HR3.out (by rw [Array.length_toList, Array.length_toList, hzz, HQ.out.z]) HQ.out.o
      have Hb8 := Lib.hid hb8; have Hg8 := Lib.hid hg8
      have hdi8 := HQ.out.i
      have hdn8 := HQ.out.n
      have hdz8 := HQ.out.z
      clear hb8 hg8 HT
      go_wp2_with ((with_reducible refine load_arr w.heap.size qs (Eq.trans ?_ rfl) HBc3.out _ Tryd.underlying31 rfl hdi8 ?_); rfl)
      exact bodyPost_ret (v := .tuple #[.agg qs, .bool false]) (results_cell_tmp_row Tryd.results10 _ _ (w.heap.size + 1) _ _ _ _ rfl Hb8.out Tryd.underlying31 rfl (by rw [List.size_toArray, Array.length_toList]; exact hdi8)) rfl ⟨qs, by rw [hR], by rw [hR]; exact HQ.out, HK3.out.grown Hg8.out HK3.out.size (fun q hq => by injection hq with hq; omega)⟩
    · have hk : q.asked = false := by simpa using hk
      have hR : R = ({ q with asked := true, until_ := now + wait }, true) := by rw [HT.out]; simp [hk, h0]
      have HRR := Lib.hid hR
      rw [hk] at r3
      clear h0 HT hR
      have r4 : w3.cell? ⟨w.heap.size, 4, none⟩ = some (iv q.until_) := (HB3.out.cell 4).trans rfl
      have f3 := HB3.out.frozen 3
      have f4 := HB3.out.frozen 4
      go_upto_region 6 with fail
      rw [E1.out, E2.out]
      obtain ⟨wx, hwx⟩ : ∃ wx, wx = ((w3.setCell ⟨w.heap.size, 3, none⟩ (.bool true)).setCell ⟨w.heap.size, 4, none⟩ (.int .i64 (now + wait))) := ⟨_, rfl⟩
      have HX : Blk wx w.heap.size 31 ({ q with asked := true, until_ := now + wait }).cells := by rw [hwx]; exact ((HB3.out.set_ 3 (.bool true)).set_ 4 (.int .i64 (now + wait)))
      have HRX : Hid (Blk wx (w.heap.size + 1) 31 zs.toList) := by rw [hwx]; exact Lib.hid ((HR3.out.far (by simp <;> omega) _).far (by simp <;> omega) _)
      have HKX : Hid (Keep w wx) := by rw [hwx]; exact Lib.hid (Below.setCell (Below.setCell HK3.out (by simp <;> omega) _) (by simp <;> omega) _)
      rw [← hwx]
      clear hwx r0 r3 r4 f3 f4
      obtain ⟨ds, hds⟩ : ∃ ds, PeA ({ q with asked := true, until_ := now + wait }) ds := ⟨_, PeA.of _⟩
      have HDS := Lib.hid hds
      have HBx : Hid (Blk wx w.heap.size 31 ds.toList) := by rw [HDS.out.l]; exact Lib.hid HX
      clear hds HX HR3 HK3 HB3 HBc3
      obtain ⟨w8, hst8, hb8, hg8⟩ := run_store_blk (P := Tryd.prog) ds.toList HRX.out (by rw [Array.length_toList, Array.length_toList, hzz, HDS.out.z]) HDS.out.o
      have Hb8 := Lib.hid hb8; have Hg8 := Lib.hid hg8
      have hdi8 := HDS.out.i
      have hdn8 := HDS.out.n
      have hdz8 := HDS.out.z
      clear hb8 hg8
      go_wp2_with ((with_reducible refine load_arr w.heap.size ds (Eq.trans ?_ rfl) HBx.out _ Tryd.underlying31 rfl hdi8 ?_); rfl)
      exact bodyPost_ret (v := .tuple #[.agg ds, .bool true]) (results_cell_tmp_row Tryd.results10 _ _ (w.heap.size + 1) _ _ _ _ rfl Hb8.out Tryd.underlying31 rfl (by rw [List.size_toArray, Array.length_toList]; exact hdi8)) rfl ⟨ds, by rw [HRR.out], by rw [HRR.out]; exact HDS.out, HKX.out.grown Hg8.out HKX.out.size (fun q hq => by injection hq with hq; omega)⟩
  · have d0 : (q.stage != 2) = true := by simpa [bne_iff_ne] using h0
    have hR : R = (q, false) := by rw [HT.out]; simp [h0]
    clear h0
    obtain ⟨w8, hst8, hb8, hg8⟩ := run_store_blk (P := Tryd.prog) qs.toList HR3.out (by rw [Array.length_toList, Array.length_toList, hzz, HQ.out.z]) HQ.out.o
    have Hb8 := Lib.hid hb8; have Hg8 := Lib.hid hg8
    have hdi8 := HQ.out.i
    have hdn8 := HQ.out.n
    have hdz8 := HQ.out.z
    clear hb8 hg8 HT
    go_wp2_with ((with_reducible refine load_arr w.heap.size qs (Eq.trans ?_ rfl) HBc3.out _ Tryd.underlying31 rfl hdi8 ?_); rfl)
    exact bodyPost_ret (v := .tuple #[.agg qs, .bool false]) (results_cell_tmp_row Tryd.results10 _ _ (w.heap.size + 1) _ _ _ _ rfl Hb8.out Tryd.underlying31 rfl (by rw [List.size_toArray, Array.length_toList]; exact hdi8)) rfl ⟨qs, by rw [hR], by rw [hR]; exact HQ.out, HK3.out.grown Hg8.out HK3.out.size (fun q hq => by injection hq with hq; omega)⟩
end Go.Proofs.YtffpanlpbdnafaaDoor

/- peer.Tick (printed by gen_qe.py) -/
set_option linter.unusedSimpArgs false
set_option linter.unusedVariables false
namespace Go.Proofs.YtffpanlpbdnafaaDoor
open Go.RowKit
attribute [local go_sem ↓] Go.wp_at_zero Go.wp_at_succ

def tickP (p : PeR) (now : Int) : PeR × Bool :=
  if (takenP p).asked = true ∧ (takenP p).until_ < now then
    if 2 ≤ (takenP p).misses then ({ takenP p with asked := false, misses := 3 }.ban, true) else ({ takenP p with asked := false, misses := (takenP p).misses + 1 }, true)
  else (takenP p, false)
theorem taken_miss (p : PeR) : 0 ≤ (takenP p).misses ∧ (takenP p).misses ≤ 3 := by
  unfold takenP
  split
  · rename_i h
    simp only [saneP, Bool.and_eq_true, decide_eq_true_eq] at h
    exact h.1.1.1.2
  · exact ⟨by show (0:Int) ≤ 0; decide, by show (0:Int) ≤ 3; decide⟩
set_option maxRecDepth 100000 in
set_option maxHeartbeats 4000000 in
theorem tick_any (p : PeR) (cs : Array Value) (hA : PeA p cs) (hr : p.rs = []) (now : Int) (w : World) :
    Calls Tryd.prog 11 #[.agg cs, iv now] w fun e w' => ∃ ds, e = .returned (.tuple #[.agg ds, .bool (tickP p now).2]) ∧ PeA (tickP p now).1 ds ∧ Keep w w' := by
  have HT : Hid (tickP p now = if (takenP p).asked = true ∧ (takenP p).until_ < now then
    if 2 ≤ (takenP p).misses then ({ takenP p with asked := false, misses := 3 }.ban, true) else ({ takenP p with asked := false, misses := (takenP p).misses + 1 }, true)
  else (takenP p, false)) := Lib.hid rfl
  have HM := Lib.hid (taken_miss p)
  generalize tickP p now = R at *
  obtain ⟨zs, hz0, hzA⟩ := zpeer_letter
  have TK : Hid (∀ y, Calls Tryd.prog 26 #[.agg cs] y fun e w' => ∃ ds, e = .returned (.agg ds) ∧ PeA (takenP p) ds ∧ Keep y w') := Lib.hid fun y => ptaken_any p cs hA hr y
  have hcn := hA.n; have hcz := hA.z; have hci := hA.i
  have hzn := hzA.n; have hzz := hzA.z
  have HA := Lib.hid hA; have HZ := Lib.hid hzA
  clear hA hzA hr
  generalize takenP p = q at *
  go_enter Tryd.func11, Tryd.ntmps11
  go_upto_region 1 with fail
  obtain ⟨w1, hw1⟩ : ∃ w1, w1 = (w.alloc (.cells cs 31)).alloc (.cells zs 31) := ⟨_, rfl⟩
  have HB1 : Hid (Blk w1 w.heap.size 31 cs.toList) := by rw [hw1]; exact Lib.hid ((Blk.new w _ cs.toList).alloc _)
  have HR1 : Hid (Blk w1 (w.heap.size + 1) 31 zs.toList) := by
    rw [hw1]
    have h2 := Blk.new (w.alloc (.cells cs 31)) 31 zs.toList
    rw [World.size_alloc] at h2
    exact Lib.hid h2
  have HK1 : Hid (Keep w w1) := by rw [hw1]; exact Lib.hid (keep_trans (keep_new _ _) (keep_new _ _))
  rw [← hw1]
  clear hw1
  go_wp2_with ((with_reducible refine load_arr w.heap.size cs (Eq.trans ?_ rfl) HB1.out _ Tryd.underlying31 rfl hci ?_); rfl)
  refine (TK.out _).mono ?_
  clear TK
  rintro e w2 ⟨qs, rfl, hqA, k2⟩
  have hqn := hqA.n; have hqz := hqA.z; have hqi := hqA.i
  have HQ := Lib.hid hqA
  have HR2 := Lib.hid (HR1.out.keep k2)
  have HK2 := Lib.hid (keep_trans HK1.out k2)
  obtain ⟨w3, hst3, hb3, hg3⟩ := run_store_blk (P := Tryd.prog) qs.toList (HB1.out.keep k2) (by rw [Array.length_toList, Array.length_toList, hcz, hqz]) HQ.out.o
  have HB3 : Hid (Blk w3 w.heap.size 31 q.cells) := by rw [← HQ.out.l]; exact Lib.hid hb3
  have HBc3 : Hid (Blk w3 w.heap.size 31 qs.toList) := Lib.hid hb3
  have HR3 : Hid (Blk w3 (w.heap.size + 1) 31 zs.toList) := Lib.hid (HR2.out.grown hg3 (fun e => by injection e with e; omega))
  have HK3 : Hid (Keep w w3) := Lib.hid (HK2.out.grown hg3 HK2.out.size (fun q hq => by injection hq with hq; omega))
  clear k2 HB1 HR1 HK1 HR2 HK2 hqA hb3 hg3
  go_upto_region 2 with fail
  clear hst3
  have r3 : w3.cell? ⟨w.heap.size, 3, none⟩ = some (.bool q.asked) := (HB3.out.cell 3).trans rfl
  have r4 : w3.cell? ⟨w.heap.size, 4, none⟩ = some (iv q.until_) := (HB3.out.cell 4).trans rfl
  have r5 : w3.cell? ⟨w.heap.size, 5, none⟩ = some (iv q.misses) := (HB3.out.cell 5).trans rfl
  by_cases hk : q.asked = true
  · by_cases hn : q.until_ < now
    · rw [hk] at r3
      have hn' : ¬ now ≤ q.until_ := by omega
      have f3 := HB3.out.frozen 3
      have f5 := HB3.out.frozen 5
      by_cases hm : 2 ≤ q.misses
      · have hR : R = ({ q with asked := false, misses := 3 }.ban, true) := by rw [HT.out]; simp [hk, hn, hm]
        have HRR := Lib.hid hR
        have hm3 := HM.out
        have E0 : Hid (wrap64 (q.misses + 1) = q.misses + 1) := Lib.hid (by unfold wrap64; omega)
        have E1 : Hid ((if 3 < q.misses + 1 then 3 else q.misses + 1) = 3) := Lib.hid (by split <;> omega)
        clear hR HT hk hn hm HM hm3
        go_upto_region 6 with fail
        rw [E0.out, E1.out]
        obtain ⟨wx, hwx⟩ : ∃ wx, wx = ((w3.setCell ⟨w.heap.size, 3, none⟩ (.bool false)).setCell ⟨w.heap.size, 5, none⟩ (.int .i64 3)) := ⟨_, rfl⟩
        have HX : Blk wx w.heap.size 31 ({ q with asked := false, misses := 3 }).cells := by rw [hwx]; exact ((HB3.out.set_ 3 (.bool false)).set_ 5 (.int .i64 3))
        have HRX : Hid (Blk wx (w.heap.size + 1) 31 zs.toList) := by rw [hwx]; exact Lib.hid ((HR3.out.far (by simp <;> omega) _).far (by simp <;> omega) _)
        have HKX : Hid (Keep w wx) := by rw [hwx]; exact Lib.hid (Below.setCell (Below.setCell HK3.out (by simp <;> omega) _) (by simp <;> omega) _)
        rw [← hwx]
        clear hwx r3 r4 r5 f3 f5
        obtain ⟨ds, hds⟩ : ∃ ds, PeA ({ q with asked := false, misses := 3 }) ds := ⟨_, PeA.of _⟩
        have HDS := Lib.hid hds
        have HBx : Hid (Blk wx w.heap.size 31 ds.toList) := by rw [HDS.out.l]; exact Lib.hid HX
        have rx : wx.cell? ⟨w.heap.size, 5, none⟩ = some (iv 3) := (HX.cell 5).trans rfl
        have hdi := hds.i; have hdn := hds.n; have hdz := hds.z
        clear hds HX HR3 HK3 HB3 HBc3
        go_wp2_with ((with_reducible refine load_arr w.heap.size ds (Eq.trans ?_ rfl) HBx.out _ Tryd.underlying31 rfl hdi ?_); rfl)
        refine (banned_any _ ds HDS.out _).mono ?_
        clear rx
        rintro e w5 ⟨bs, rfl, hbA, k5⟩
        have hbn := hbA.n; have hbz := hbA.z
        have HBA := Lib.hid hbA
        obtain ⟨w6, hst6, hb6, hg6⟩ := run_store_blk (P := Tryd.prog) bs.toList (HBx.out.keep k5) (by rw [Array.length_toList, Array.length_toList, hdz, hbz]) hbA.o
        have HB6 := Lib.hid hb6
        have HR6 : Hid (Blk w6 (w.heap.size + 1) 31 zs.toList) := Lib.hid ((HRX.out.keep k5).grown hg6 (fun e => by injection e with e; omega))
        have HK6 : Hid (Keep w w6) := Lib.hid ((keep_trans HKX.out k5).grown hg6 (keep_trans HKX.out k5).size (fun q hq => by injection hq with hq; omega))
        clear hbA k5 hb6 hg6 HRX HKX HBx
        obtain ⟨w8, hst8, hb8, hg8⟩ := run_store_blk (P := Tryd.prog) bs.toList HR6.out (by rw [Array.length_toList, Array.length_toList, hzz, HBA.out.z]) HBA.out.o
        have Hb8 := Lib.hid hb8; have Hg8 := Lib.hid hg8
        have hdi8 := HBA.out.i
        have hdn8 := HBA.out.n
        have hdz8 := HBA.out.z
        clear hb8 hg8
        go_wp2_with ((with_reducible refine load_arr w.heap.size bs (Eq.trans ?_ rfl) HB6.out _ Tryd.underlying31 rfl hdi8 ?_); rfl)
        exact bodyPost_ret (v := .tuple #[.agg bs, .bool true]) (results_cell_tmp_row Tryd.results11 _ _ (w.heap.size + 1) _ _ _ _ rfl Hb8.out Tryd.underlying31 rfl (by rw [List.size_toArray, Array.length_toList]; exact hdi8)) rfl ⟨bs, by rw [HRR.out], by rw [HRR.out]; exact HBA.out, HK6.out.grown Hg8.out HK6.out.size (fun q hq => by injection hq with hq; omega)⟩
      · have hR : R = ({ q with asked := false, misses := q.misses + 1 }, true) := by rw [HT.out]; simp [hk, hn, hm]
        have HRR := Lib.hid hR
        have hm3 := HM.out
        have E0 : Hid (wrap64 (q.misses + 1) = q.misses + 1) := Lib.hid (by unfold wrap64; omega)
        have E1 : Hid ((if 3 < q.misses + 1 then 3 else q.misses + 1) = q.misses + 1) := Lib.hid (if_neg (by omega))
        have d3 : (q.misses + 1 == 3) = false := by rw [beq_eq_false_iff_ne]; omega
        have D3 := Lib.hid d3
        clear hR HT hk hn hm HM hm3 d3
        go_upto_region 6 with fail
        rw [E0.out, E1.out]
        obtain ⟨wx, hwx⟩ : ∃ wx, wx = ((w3.setCell ⟨w.heap.size, 3, none⟩ (.bool false)).setCell ⟨w.heap.size, 5, none⟩ (.int .i64 (q.misses + 1))) := ⟨_, rfl⟩
        have HX : Blk wx w.heap.size 31 ({ q with asked := false, misses := q.misses + 1 }).cells := by rw [hwx]; exact ((HB3.out.set_ 3 (.bool false)).set_ 5 (.int .i64 (q.misses + 1)))
        have HRX : Hid (Blk wx (w.heap.size + 1) 31 zs.toList) := by rw [hwx]; exact Lib.hid ((HR3.out.far (by simp <;> omega) _).far (by simp <;> omega) _)
        have HKX : Hid (Keep w wx) := by rw [hwx]; exact Lib.hid (Below.setCell (Below.setCell HK3.out (by simp <;> omega) _) (by simp <;> omega) _)
        rw [← hwx]
        clear hwx r3 r4 r5 f3 f5
        obtain ⟨ds, hds⟩ : ∃ ds, PeA ({ q with asked := false, misses := q.misses + 1 }) ds := ⟨_, PeA.of _⟩
        have HDS := Lib.hid hds
        have HBx : Hid (Blk wx w.heap.size 31 ds.toList) := by rw [HDS.out.l]; exact Lib.hid HX
        have rx : wx.cell? ⟨w.heap.size, 5, none⟩ = some (iv (q.misses + 1)) := (HX.cell 5).trans rfl
        have d3 := D3.out
        clear hds HX HR3 HK3 HB3 HBc3
        obtain ⟨w8, hst8, hb8, hg8⟩ := run_store_blk (P := Tryd.prog) ds.toList HRX.out (by rw [Array.length_toList, Array.length_toList, hzz, HDS.out.z]) HDS.out.o
        have Hb8 := Lib.hid hb8; have Hg8 := Lib.hid hg8
        have hdi8 := HDS.out.i
        have hdn8 := HDS.out.n
        have hdz8 := HDS.out.z
        clear hb8 hg8
        go_wp2_with ((with_reducible refine load_arr w.heap.size ds (Eq.trans ?_ rfl) HBx.out _ Tryd.underlying31 rfl hdi8 ?_); rfl)
        exact bodyPost_ret (v := .tuple #[.agg ds, .bool true]) (results_cell_tmp_row Tryd.results11 _ _ (w.heap.size + 1) _ _ _ _ rfl Hb8.out Tryd.underlying31 rfl (by rw [List.size_toArray, Array.length_toList]; exact hdi8)) rfl ⟨ds, by rw [HRR.out], by rw [HRR.out]; exact HDS.out, HKX.out.grown Hg8.out HKX.out.size (fun q hq => by injection hq with hq; omega)⟩
    · have hR : R = (q, false) := by rw [HT.out]; simp [hn]
      rw [hk] at r3
      have hn' : now ≤ q.until_ := by omega
      clear hk hn
      obtain ⟨w8, hst8, hb8, hg8⟩ := run_store_blk (P := Tryd.prog) qs.toList HR3.out (by rw [Array.length_toList, Array.length_toList, hzz, HQ.out.z]) HQ.out.o
      have Hb8 := Lib.hid hb8; have Hg8 := Lib.hid hg8
      have hdi8 := HQ.out.i
      have hdn8 := HQ.out.n
      have hdz8 := HQ.out.z
      clear hb8 hg8 HT HM
      go_wp2_with ((with_reducible refine load_arr w.heap.size qs (Eq.trans ?_ rfl) HBc3.out _ Tryd.underlying31 rfl hdi8 ?_); rfl)
      exact bodyPost_ret (v := .tuple #[.agg qs, .bool false]) (results_cell_tmp_row Tryd.results11 _ _ (w.heap.size + 1) _ _ _ _ rfl Hb8.out Tryd.underlying31 rfl (by rw [List.size_toArray, Array.length_toList]; exact hdi8)) rfl ⟨qs, by rw [hR], by rw [hR]; exact HQ.out, HK3.out.grown Hg8.out HK3.out.size (fun q hq => by injection hq with hq; omega)⟩
  · have hk : q.asked = false := by simpa using hk
    have hR : R = (q, false) := by rw [HT.out]; simp [hk]
    rw [hk] at r3
    obtain ⟨w8, hst8, hb8, hg8⟩ := run_store_blk (P := Tryd.prog) qs.toList HR3.out (by rw [Array.length_toList, Array.length_toList, hzz, HQ.out.z]) HQ.out.o
    have Hb8 := Lib.hid hb8; have Hg8 := Lib.hid hg8
    have hdi8 := HQ.out.i
    have hdn8 := HQ.out.n
    have hdz8 := HQ.out.z
    clear hb8 hg8 HT HM
    go_wp2_with ((with_reducible refine load_arr w.heap.size qs (Eq.trans ?_ rfl) HBc3.out _ Tryd.underlying31 rfl hdi8 ?_); rfl)
    exact bodyPost_ret (v := .tuple #[.agg qs, .bool false]) (results_cell_tmp_row Tryd.results11 _ _ (w.heap.size + 1) _ _ _ _ rfl Hb8.out Tryd.underlying31 rfl (by rw [List.size_toArray, Array.length_toList]; exact hdi8)) rfl ⟨qs, by rw [hR], by rw [hR]; exact HQ.out, HK3.out.grown Hg8.out HK3.out.size (fun q hq => by injection hq with hq; omega)⟩
end Go.Proofs.YtffpanlpbdnafaaDoor
