/- Texts merged by pack.py: Vt, Vu, Vv, Qa, Arg, Qj. -/
import Derived.Test.YtffpanlpbdnafaaDoorCx4
import Derived.Test.YtffpanlpbdnafaaDoorCx3
import Derived.Test.YtffpanlpbdnafaaDoorCx1
import Derived.ProofKit
import Derived.Deep.Slices
import Derived.Deep.Fields
import Derived.Deep.CutBlock
/- wire.others. (printed by gen_vt.py) -/
set_option linter.unusedSimpArgs false
set_option linter.unusedVariables false
namespace Go.Proofs.YtffpanlpbdnafaaDoor
open Go.RowKit
attribute [local go_sem ↓] Go.wp_at_zero Go.wp_at_succ

theorem zhash_letter32 : ∃ zs : Array Value, HashA z32 zs ∧ (∀ w, (zeroValue 39).run Tryd.prog w = .ok (.agg zs) w) :=
  ⟨zhash, ⟨zhash_list, zhash_size, by rw [zhash_size]; kernel_rfl, (fun h => by have := zhash_size; rw [h] at this; cases this), by rw [zhash_list]; exact one_w8 _, by rw [show z32.map u8v = zhash.toList from zhash_list.symm, Array.toArray_toList]⟩, zhash_zero⟩

set_option maxRecDepth 100000 in
set_option maxHeartbeats 8000000 in
theorem others_any (m : MsgR) (cs : Array Value) (hA : MsA m cs) (hk : m.ok) (w : World) :
    Calls Tryd.prog 36 #[.agg cs] w fun e w' => ∃ ds, e = .returned (.agg ds) ∧ MsA (othersM m) ds ∧ Keep w w' := by
  obtain ⟨ys, hyz, hyA⟩ := zmsg_letter
  obtain ⟨zb, hbz, hb0, hbn, hbl, hbi⟩ := zblk_letter
  obtain ⟨zh, hzA, hz0⟩ := zhash_letter32
  have hzn := hzA.n; have hzz := hzA.z
  have hyn := hyA.n
  have hcn := hA.n; have hcz := hA.z; have hci := hA.i
  have HA := Lib.hid hA; have HK := Lib.hid hk; have HY := Lib.hid hyA; have HZ := Lib.hid hzA; have HBL := Lib.hid hbl
  have HOK := Lib.hid (othersM_ok hk)
  have HOM : Hid (∀ X, othersM m = X → X.ok → ∃ ds, MsA X ds ∧ X.ok) := Lib.hid fun X h1 h2 => ⟨_, MsA.of h2, h2⟩
  have HSC : Hid (∀ X, othersM m = X → othersM m = X) := Lib.hid fun X h => h
  clear hA hk hyA hzA hbl
  have e0 : othersM m = othersM m := rfl
  have HD : Hid (othersM m = if m.kind = 0 then { m with proto := 0, nonce := 0, height := 0 }
    else if m.kind = 2 ∨ m.kind = 3 then { m with nonce := 0 }
    else if m.kind = 4 then { m with proto := 0, lA := none, ls := [], lc := 0, stop := z32 }
    else if m.kind = 5 then { m with hA := none, hs := [], hc := 0 }
    else if m.kind = 6 ∨ m.kind = 7 ∨ m.kind = 8 then { m with iA := none, is := [], ic := 0 }
    else if m.kind = 9 then { m with bh := zHdr, total := 0, sA := none, shs := [], sc := 0, fA := none, fs := [], fc := 0 }
    else if m.kind = 10 then { m with t := txZ }
    else m) := Lib.hid rfl
  clear e0 HOM HSC
  generalize othersM m = M at *
  go_enter Tryd.func36, Tryd.ntmps36
  go_upto_region 1 with fail
  obtain ⟨w1, hw1⟩ : ∃ w1, w1 = (w.alloc (.cells cs 50)).alloc (.cells ys 50) := ⟨_, rfl⟩
  have HB1 : Hid (Blk w1 w.heap.size 50 m.cells) := by rw [hw1, ← HA.out.l]; exact (Blk.new w _ cs.toList).alloc _
  have HR1 : Hid (Blk w1 (w.heap.size + 1) 50 ys.toList) := by
    rw [hw1]
    have h2 := Blk.new (w.alloc (.cells cs 50)) 50 ys.toList
    rw [World.size_alloc] at h2
    exact h2
  have HK1 : Hid (Keep w w1) := by rw [hw1]; exact keep_trans (keep_new _ _) (keep_new _ _)
  rw [← hw1]
  clear hw1
  have r0 : w1.cell? ⟨w.heap.size, 0, none⟩ = some (.int .i64 m.kind) := (HB1.out.cell 0).trans rfl
  by_cases h0 : m.kind = 0
  · have HM : Hid (M = { m with proto := 0, nonce := 0, height := 0 }) := Lib.hid (HD.out.trans (by repeat (first | rw [if_pos (by omega)] | rw [if_neg (by omega)])))
    have d0 : (m.kind == 0) = true := by rw [beq_iff_eq]; omega
    clear HD h0 
    have r1 : w1.cell? ⟨w.heap.size, 1, none⟩ = some (u32v m.proto) := (HB1.out.cell 1).trans rfl
    have f1 := HB1.out.frozen 1
    have r2 : w1.cell? ⟨w.heap.size, 2, none⟩ = some (u64v m.nonce) := (HB1.out.cell 2).trans rfl
    have f2 := HB1.out.frozen 2
    have r3 : w1.cell? ⟨w.heap.size, 3, none⟩ = some (u32v m.height) := (HB1.out.cell 3).trans rfl
    have f3 := HB1.out.frozen 3
    go_upto_region 19 with fail
    obtain ⟨wx, hwx⟩ : ∃ wx, wx = (((w1.setCell ⟨w.heap.size, 1, none⟩ (.int .u32 0)).setCell ⟨w.heap.size, 2, none⟩ (.int .u64 0)).setCell ⟨w.heap.size, 3, none⟩ (.int .u32 0)) := ⟨_, rfl⟩
    have HX : Blk wx w.heap.size 50 M.cells := by
      rw [hwx, HM.out]
      have q := (((HB1.out.set_ 1 (.int .u32 0)).set_ 2 (.int .u64 0)).set_ 3 (.int .u32 0))
      exact q
    have HRX : Hid (Blk wx (w.heap.size + 1) 50 ys.toList) := by rw [hwx]; exact Lib.hid (((HR1.out.far (by simp <;> omega) _).far (by simp <;> omega) _).far (by simp <;> omega) _)
    have HKX : Hid (Keep w wx) := by rw [hwx]; exact Lib.hid (Below.setCell (Below.setCell (Below.setCell HK1.out (by simp <;> omega) _) (by simp <;> omega) _) (by simp <;> omega) _)
    rw [← hwx]
    clear hwx r1 f1 r2 f2 r3 f3 r0
    obtain ⟨ds, hds⟩ : ∃ ds, MsA M ds := ⟨_, MsA.of HOK.out⟩
    have hdz := hds.z; have hdn := hds.n; have hdi := hds.i
    have HDS := Lib.hid hds
    have HBx : Hid (Blk wx w.heap.size 50 ds.toList) := by rw [HDS.out.l]; exact HX
    obtain ⟨w8, hst8, hb8, hg8⟩ := run_store_blk (P := Tryd.prog) ds.toList HRX.out (by rw [Array.length_toList, Array.length_toList, hdz, HY.out.z]) HDS.out.o
    have Hb8 := Lib.hid hb8; have Hg8 := Lib.hid hg8
    clear hds hb8 hg8 HX HRX HB1 HR1
    go_wp2_with ((with_reducible refine load_arr w.heap.size ds (Eq.trans ?_ rfl) HBx.out _ Tryd.underlying50 rfl hdi ?_); rfl)
    have hb8 := Hb8.out
    exact bodyPost_ret (v := .agg ds) (results_cell_row Tryd.results36 _ _ (w.heap.size + 1) _ _ _ _ rfl hb8 Tryd.underlying50 rfl (by rw [List.size_toArray, Array.length_toList]; exact hdi)) rfl ⟨ds, rfl, HDS.out, HKX.out.grown Hg8.out HKX.out.size (fun q hq => by injection hq with hq; omega)⟩
  by_cases h2 : m.kind = 2
  · have HM : Hid (M = { m with nonce := 0 }) := Lib.hid (HD.out.trans (by repeat (first | rw [if_pos (by omega)] | rw [if_neg (by omega)])))
    have d0 : (m.kind == 0) = false := by rw [beq_eq_false_iff_ne]; omega
    have d2 : (m.kind == 2) = true := by rw [beq_iff_eq]; omega
    clear HD h2 h0
    have r2 : w1.cell? ⟨w.heap.size, 2, none⟩ = some (u64v m.nonce) := (HB1.out.cell 2).trans rfl
    have f2 := HB1.out.frozen 2
    go_upto_region 19 with fail
    obtain ⟨wx, hwx⟩ : ∃ wx, wx = (w1.setCell ⟨w.heap.size, 2, none⟩ (.int .u64 0)) := ⟨_, rfl⟩
    have HX : Blk wx w.heap.size 50 M.cells := by
      rw [hwx, HM.out]
      have q := (HB1.out.set_ 2 (.int .u64 0))
      exact q
    have HRX : Hid (Blk wx (w.heap.size + 1) 50 ys.toList) := by rw [hwx]; exact Lib.hid (HR1.out.far (by simp <;> omega) _)
    have HKX : Hid (Keep w wx) := by rw [hwx]; exact Lib.hid (Below.setCell HK1.out (by simp <;> omega) _)
    rw [← hwx]
    clear hwx r2 f2 r0
    obtain ⟨ds, hds⟩ : ∃ ds, MsA M ds := ⟨_, MsA.of HOK.out⟩
    have hdz := hds.z; have hdn := hds.n; have hdi := hds.i
    have HDS := Lib.hid hds
    have HBx : Hid (Blk wx w.heap.size 50 ds.toList) := by rw [HDS.out.l]; exact HX
    obtain ⟨w8, hst8, hb8, hg8⟩ := run_store_blk (P := Tryd.prog) ds.toList HRX.out (by rw [Array.length_toList, Array.length_toList, hdz, HY.out.z]) HDS.out.o
    have Hb8 := Lib.hid hb8; have Hg8 := Lib.hid hg8
    clear hds hb8 hg8 HX HRX HB1 HR1
    go_wp2_with ((with_reducible refine load_arr w.heap.size ds (Eq.trans ?_ rfl) HBx.out _ Tryd.underlying50 rfl hdi ?_); rfl)
    have hb8 := Hb8.out
    exact bodyPost_ret (v := .agg ds) (results_cell_row Tryd.results36 _ _ (w.heap.size + 1) _ _ _ _ rfl hb8 Tryd.underlying50 rfl (by rw [List.size_toArray, Array.length_toList]; exact hdi)) rfl ⟨ds, rfl, HDS.out, HKX.out.grown Hg8.out HKX.out.size (fun q hq => by injection hq with hq; omega)⟩
  by_cases h3 : m.kind = 3
  · have HM : Hid (M = { m with nonce := 0 }) := Lib.hid (HD.out.trans (by repeat (first | rw [if_pos (by omega)] | rw [if_neg (by omega)])))
    have d0 : (m.kind == 0) = false := by rw [beq_eq_false_iff_ne]; omega
    have d2 : (m.kind == 2) = false := by rw [beq_eq_false_iff_ne]; omega
    have d3 : (m.kind == 3) = true := by rw [beq_iff_eq]; omega
    clear HD h3 h0 h2
    have r2 : w1.cell? ⟨w.heap.size, 2, none⟩ = some (u64v m.nonce) := (HB1.out.cell 2).trans rfl
    have f2 := HB1.out.frozen 2
    go_upto_region 19 with fail
    obtain ⟨wx, hwx⟩ : ∃ wx, wx = (w1.setCell ⟨w.heap.size, 2, none⟩ (.int .u64 0)) := ⟨_, rfl⟩
    have HX : Blk wx w.heap.size 50 M.cells := by
      rw [hwx, HM.out]
      have q := (HB1.out.set_ 2 (.int .u64 0))
      exact q
    have HRX : Hid (Blk wx (w.heap.size + 1) 50 ys.toList) := by rw [hwx]; exact Lib.hid (HR1.out.far (by simp <;> omega) _)
    have HKX : Hid (Keep w wx) := by rw [hwx]; exact Lib.hid (Below.setCell HK1.out (by simp <;> omega) _)
    rw [← hwx]
    clear hwx r2 f2 r0
    obtain ⟨ds, hds⟩ : ∃ ds, MsA M ds := ⟨_, MsA.of HOK.out⟩
    have hdz := hds.z; have hdn := hds.n; have hdi := hds.i
    have HDS := Lib.hid hds
    have HBx : Hid (Blk wx w.heap.size 50 ds.toList) := by rw [HDS.out.l]; exact HX
    obtain ⟨w8, hst8, hb8, hg8⟩ := run_store_blk (P := Tryd.prog) ds.toList HRX.out (by rw [Array.length_toList, Array.length_toList, hdz, HY.out.z]) HDS.out.o
    have Hb8 := Lib.hid hb8; have Hg8 := Lib.hid hg8
    clear hds hb8 hg8 HX HRX HB1 HR1
    go_wp2_with ((with_reducible refine load_arr w.heap.size ds (Eq.trans ?_ rfl) HBx.out _ Tryd.underlying50 rfl hdi ?_); rfl)
    have hb8 := Hb8.out
    exact bodyPost_ret (v := .agg ds) (results_cell_row Tryd.results36 _ _ (w.heap.size + 1) _ _ _ _ rfl hb8 Tryd.underlying50 rfl (by rw [List.size_toArray, Array.length_toList]; exact hdi)) rfl ⟨ds, rfl, HDS.out, HKX.out.grown Hg8.out HKX.out.size (fun q hq => by injection hq with hq; omega)⟩
  by_cases h4 : m.kind = 4
  · have HM : Hid (M = { m with proto := 0, lA := none, ls := [], lc := 0, stop := z32 }) := Lib.hid (HD.out.trans (by repeat (first | rw [if_pos (by omega)] | rw [if_neg (by omega)])))
    have d0 : (m.kind == 0) = false := by rw [beq_eq_false_iff_ne]; omega
    have d2 : (m.kind == 2) = false := by rw [beq_eq_false_iff_ne]; omega
    have d3 : (m.kind == 3) = false := by rw [beq_eq_false_iff_ne]; omega
    have d4 : (m.kind == 4) = true := by rw [beq_iff_eq]; omega
    clear HD h4 h0 h2 h3
    have r1 : w1.cell? ⟨w.heap.size, 1, none⟩ = some (u32v m.proto) := (HB1.out.cell 1).trans rfl
    have f1 := HB1.out.frozen 1
    have r5 : w1.cell? ⟨w.heap.size, 5, none⟩ = some (.slice m.lA m.ls.length m.lc) := (HB1.out.cell 5).trans rfl
    have f5 := HB1.out.frozen 5
    obtain ⟨wy, hwy⟩ : ∃ wy, wy = ((w1.setCell ⟨w.heap.size, 1, none⟩ (.int .u32 0)).setCell ⟨w.heap.size, 5, none⟩ (.slice none 0 0)) := ⟨_, rfl⟩
    have HBy : Hid (Blk wy w.heap.size 50 (MsgR.cells { m with proto := 0, lA := none, ls := [], lc := 0 })) := by
      rw [hwy]; exact Lib.hid ((HB1.out.set_ 1 (.int .u32 0)).set_ 5 (.slice none 0 0))
    have HRy : Hid (Blk wy (w.heap.size + 1) 50 ys.toList) := by rw [hwy]; exact Lib.hid ((HR1.out.far (by simp <;> omega) _).far (by simp <;> omega) _)
    have HKy : Hid (Keep w wy) := by rw [hwy]; exact Lib.hid (Below.setCell (Below.setCell HK1.out (by simp <;> omega) _) (by simp <;> omega) _)
    have HKo : Hid (MsgR.ok { m with proto := 0, lA := none, ls := [], lc := 0 }) := Lib.hid ⟨HK.out.k, HK.out.n, HK.out.s, HK.out.b, HK.out.h, (fun x q => by cases q), HK.out.i, HK.out.z⟩
    obtain ⟨wx, hst, hbx, hgx⟩ := run_store_prt (P := Tryd.prog) 6 zh.toList HBy.out (by rw [MsgR.len HKo.out, Array.length_toList, HZ.out.z]; omega) HZ.out.o
    have HBX := Lib.hid hbx; have HGX := Lib.hid hgx
    rw [hwy] at hst
    clear hbx hgx
    go_upto_region 19 with fail
    have HX : Blk wx w.heap.size 50 M.cells := by
      rw [HM.out]
      have q := HBX.out
      rw [HZ.out.l, MsgR.splice_stop HKo.out rfl] at q
      exact q
    have HRX : Hid (Blk wx (w.heap.size + 1) 50 ys.toList) := Lib.hid (HRy.out.grown HGX.out (fun q => by injection q with q; omega))
    have HKX : Hid (Keep w wx) := Lib.hid (HKy.out.grown HGX.out HKy.out.size (fun q hq => by injection hq with hq; omega))
    clear hst hwy HBX r1 r5 f1 f5 r0
    obtain ⟨ds, hds⟩ : ∃ ds, MsA M ds := ⟨_, MsA.of HOK.out⟩
    have hdz := hds.z; have hdn := hds.n; have hdi := hds.i
    have HDS := Lib.hid hds
    have HBx : Hid (Blk wx w.heap.size 50 ds.toList) := by rw [HDS.out.l]; exact HX
    obtain ⟨w8, hst8, hb8, hg8⟩ := run_store_blk (P := Tryd.prog) ds.toList HRX.out (by rw [Array.length_toList, Array.length_toList, hdz, HY.out.z]) HDS.out.o
    have Hb8 := Lib.hid hb8; have Hg8 := Lib.hid hg8
    clear hds hb8 hg8 HX HRX HB1 HR1
    go_wp2_with ((with_reducible refine load_arr w.heap.size ds (Eq.trans ?_ rfl) HBx.out _ Tryd.underlying50 rfl hdi ?_); rfl)
    have hb8 := Hb8.out
    exact bodyPost_ret (v := .agg ds) (results_cell_row Tryd.results36 _ _ (w.heap.size + 1) _ _ _ _ rfl hb8 Tryd.underlying50 rfl (by rw [List.size_toArray, Array.length_toList]; exact hdi)) rfl ⟨ds, rfl, HDS.out, HKX.out.grown Hg8.out HKX.out.size (fun q hq => by injection hq with hq; omega)⟩
  by_cases h5 : m.kind = 5
  · have HM : Hid (M = { m with hA := none, hs := [], hc := 0 }) := Lib.hid (HD.out.trans (by repeat (first | rw [if_pos (by omega)] | rw [if_neg (by omega)])))
    have d0 : (m.kind == 0) = false := by rw [beq_eq_false_iff_ne]; omega
    have d2 : (m.kind == 2) = false := by rw [beq_eq_false_iff_ne]; omega
    have d3 : (m.kind == 3) = false := by rw [beq_eq_false_iff_ne]; omega
    have d4 : (m.kind == 4) = false := by rw [beq_eq_false_iff_ne]; omega
    have d5 : (m.kind == 5) = true := by rw [beq_iff_eq]; omega
    clear HD h5 h0 h2 h3 h4
    have r4 : w1.cell? ⟨w.heap.size, 4, none⟩ = some (.slice m.hA m.hs.length m.hc) := (HB1.out.cell 4).trans rfl
    have f4 := HB1.out.frozen 4
    go_upto_region 19 with fail
    obtain ⟨wx, hwx⟩ : ∃ wx, wx = (w1.setCell ⟨w.heap.size, 4, none⟩ (.slice none 0 0)) := ⟨_, rfl⟩
    have HX : Blk wx w.heap.size 50 M.cells := by
      rw [hwx, HM.out]
      have q := (HB1.out.set_ 4 (.slice none 0 0))
      exact q
    have HRX : Hid (Blk wx (w.heap.size + 1) 50 ys.toList) := by rw [hwx]; exact Lib.hid (HR1.out.far (by simp <;> omega) _)
    have HKX : Hid (Keep w wx) := by rw [hwx]; exact Lib.hid (Below.setCell HK1.out (by simp <;> omega) _)
    rw [← hwx]
    clear hwx r4 f4 r0
    obtain ⟨ds, hds⟩ : ∃ ds, MsA M ds := ⟨_, MsA.of HOK.out⟩
    have hdz := hds.z; have hdn := hds.n; have hdi := hds.i
    have HDS := Lib.hid hds
    have HBx : Hid (Blk wx w.heap.size 50 ds.toList) := by rw [HDS.out.l]; exact HX
    obtain ⟨w8, hst8, hb8, hg8⟩ := run_store_blk (P := Tryd.prog) ds.toList HRX.out (by rw [Array.length_toList, Array.length_toList, hdz, HY.out.z]) HDS.out.o
    have Hb8 := Lib.hid hb8; have Hg8 := Lib.hid hg8
    clear hds hb8 hg8 HX HRX HB1 HR1
    go_wp2_with ((with_reducible refine load_arr w.heap.size ds (Eq.trans ?_ rfl) HBx.out _ Tryd.underlying50 rfl hdi ?_); rfl)
    have hb8 := Hb8.out
    exact bodyPost_ret (v := .agg ds) (results_cell_row Tryd.results36 _ _ (w.heap.size + 1) _ _ _ _ rfl hb8 Tryd.underlying50 rfl (by rw [List.size_toArray, Array.length_toList]; exact hdi)) rfl ⟨ds, rfl, HDS.out, HKX.out.grown Hg8.out HKX.out.size (fun q hq => by injection hq with hq; omega)⟩
  by_cases h6 : m.kind = 6
  · have HM : Hid (M = { m with iA := none, is := [], ic := 0 }) := Lib.hid (HD.out.trans (by repeat (first | rw [if_pos (by omega)] | rw [if_neg (by omega)])))
    have d0 : (m.kind == 0) = false := by rw [beq_eq_false_iff_ne]; omega
    have d2 : (m.kind == 2) = false := by rw [beq_eq_false_iff_ne]; omega
    have d3 : (m.kind == 3) = false := by rw [beq_eq_false_iff_ne]; omega
    have d4 : (m.kind == 4) = false := by rw [beq_eq_false_iff_ne]; omega
    have d5 : (m.kind == 5) = false := by rw [beq_eq_false_iff_ne]; omega
    have d6 : (m.kind == 6) = true := by rw [beq_iff_eq]; omega
    clear HD h6 h0 h2 h3 h4 h5
    have r38 : w1.cell? ⟨w.heap.size, 38, none⟩ = some (.slice m.iA m.is.length m.ic) := (HB1.out.cell 38).trans ((MsgR.tail_get HK.out 0).trans rfl)
    have f38 := HB1.out.frozen 38
    go_upto_region 19 with fail
    obtain ⟨wx, hwx⟩ : ∃ wx, wx = (w1.setCell ⟨w.heap.size, 38, none⟩ (.slice none 0 0)) := ⟨_, rfl⟩
    have HX : Blk wx w.heap.size 50 M.cells := by
      rw [hwx, HM.out]
      have q := (HB1.out.set_ 38 (.slice none 0 0))
      rw [MsgR.set38 HK.out] at q; exact q
    have HRX : Hid (Blk wx (w.heap.size + 1) 50 ys.toList) := by rw [hwx]; exact Lib.hid (HR1.out.far (by simp <;> omega) _)
    have HKX : Hid (Keep w wx) := by rw [hwx]; exact Lib.hid (Below.setCell HK1.out (by simp <;> omega) _)
    rw [← hwx]
    clear hwx r38 f38 r0
    obtain ⟨ds, hds⟩ : ∃ ds, MsA M ds := ⟨_, MsA.of HOK.out⟩
    have hdz := hds.z; have hdn := hds.n; have hdi := hds.i
    have HDS := Lib.hid hds
    have HBx : Hid (Blk wx w.heap.size 50 ds.toList) := by rw [HDS.out.l]; exact HX
    obtain ⟨w8, hst8, hb8, hg8⟩ := run_store_blk (P := Tryd.prog) ds.toList HRX.out (by rw [Array.length_toList, Array.length_toList, hdz, HY.out.z]) HDS.out.o
    have Hb8 := Lib.hid hb8; have Hg8 := Lib.hid hg8
    clear hds hb8 hg8 HX HRX HB1 HR1
    go_wp2_with ((with_reducible refine load_arr w.heap.size ds (Eq.trans ?_ rfl) HBx.out _ Tryd.underlying50 rfl hdi ?_); rfl)
    have hb8 := Hb8.out
    exact bodyPost_ret (v := .agg ds) (results_cell_row Tryd.results36 _ _ (w.heap.size + 1) _ _ _ _ rfl hb8 Tryd.underlying50 rfl (by rw [List.size_toArray, Array.length_toList]; exact hdi)) rfl ⟨ds, rfl, HDS.out, HKX.out.grown Hg8.out HKX.out.size (fun q hq => by injection hq with hq; omega)⟩
  by_cases h7 : m.kind = 7
  · have HM : Hid (M = { m with iA := none, is := [], ic := 0 }) := Lib.hid (HD.out.trans (by repeat (first | rw [if_pos (by omega)] | rw [if_neg (by omega)])))
    have d0 : (m.kind == 0) = false := by rw [beq_eq_false_iff_ne]; omega
    have d2 : (m.kind == 2) = false := by rw [beq_eq_false_iff_ne]; omega
    have d3 : (m.kind == 3) = false := by rw [beq_eq_false_iff_ne]; omega
    have d4 : (m.kind == 4) = false := by rw [beq_eq_false_iff_ne]; omega
    have d5 : (m.kind == 5) = false := by rw [beq_eq_false_iff_ne]; omega
    have d6 : (m.kind == 6) = false := by rw [beq_eq_false_iff_ne]; omega
    have d7 : (m.kind == 7) = true := by rw [beq_iff_eq]; omega
    clear HD h7 h0 h2 h3 h4 h5 h6
    have r38 : w1.cell? ⟨w.heap.size, 38, none⟩ = some (.slice m.iA m.is.length m.ic) := (HB1.out.cell 38).trans ((MsgR.tail_get HK.out 0).trans rfl)
    have f38 := HB1.out.frozen 38
    go_upto_region 19 with fail
    obtain ⟨wx, hwx⟩ : ∃ wx, wx = (w1.setCell ⟨w.heap.size, 38, none⟩ (.slice none 0 0)) := ⟨_, rfl⟩
    have HX : Blk wx w.heap.size 50 M.cells := by
      rw [hwx, HM.out]
      have q := (HB1.out.set_ 38 (.slice none 0 0))
      rw [MsgR.set38 HK.out] at q; exact q
    have HRX : Hid (Blk wx (w.heap.size + 1) 50 ys.toList) := by rw [hwx]; exact Lib.hid (HR1.out.far (by simp <;> omega) _)
    have HKX : Hid (Keep w wx) := by rw [hwx]; exact Lib.hid (Below.setCell HK1.out (by simp <;> omega) _)
    rw [← hwx]
    clear hwx r38 f38 r0
    obtain ⟨ds, hds⟩ : ∃ ds, MsA M ds := ⟨_, MsA.of HOK.out⟩
    have hdz := hds.z; have hdn := hds.n; have hdi := hds.i
    have HDS := Lib.hid hds
    have HBx : Hid (Blk wx w.heap.size 50 ds.toList) := by rw [HDS.out.l]; exact HX
    obtain ⟨w8, hst8, hb8, hg8⟩ := run_store_blk (P := Tryd.prog) ds.toList HRX.out (by rw [Array.length_toList, Array.length_toList, hdz, HY.out.z]) HDS.out.o
    have Hb8 := Lib.hid hb8; have Hg8 := Lib.hid hg8
    clear hds hb8 hg8 HX HRX HB1 HR1
    go_wp2_with ((with_reducible refine load_arr w.heap.size ds (Eq.trans ?_ rfl) HBx.out _ Tryd.underlying50 rfl hdi ?_); rfl)
    have hb8 := Hb8.out
    exact bodyPost_ret (v := .agg ds) (results_cell_row Tryd.results36 _ _ (w.heap.size + 1) _ _ _ _ rfl hb8 Tryd.underlying50 rfl (by rw [List.size_toArray, Array.length_toList]; exact hdi)) rfl ⟨ds, rfl, HDS.out, HKX.out.grown Hg8.out HKX.out.size (fun q hq => by injection hq with hq; omega)⟩
  by_cases h8 : m.kind = 8
  · have HM : Hid (M = { m with iA := none, is := [], ic := 0 }) := Lib.hid (HD.out.trans (by repeat (first | rw [if_pos (by omega)] | rw [if_neg (by omega)])))
    have d0 : (m.kind == 0) = false := by rw [beq_eq_false_iff_ne]; omega
    have d2 : (m.kind == 2) = false := by rw [beq_eq_false_iff_ne]; omega
    have d3 : (m.kind == 3) = false := by rw [beq_eq_false_iff_ne]; omega
    have d4 : (m.kind == 4) = false := by rw [beq_eq_false_iff_ne]; omega
    have d5 : (m.kind == 5) = false := by rw [beq_eq_false_iff_ne]; omega
    have d6 : (m.kind == 6) = false := by rw [beq_eq_false_iff_ne]; omega
    have d7 : (m.kind == 7) = false := by rw [beq_eq_false_iff_ne]; omega
    have d8 : (m.kind == 8) = true := by rw [beq_iff_eq]; omega
    clear HD h8 h0 h2 h3 h4 h5 h6 h7
    have r38 : w1.cell? ⟨w.heap.size, 38, none⟩ = some (.slice m.iA m.is.length m.ic) := (HB1.out.cell 38).trans ((MsgR.tail_get HK.out 0).trans rfl)
    have f38 := HB1.out.frozen 38
    go_upto_region 19 with fail
    obtain ⟨wx, hwx⟩ : ∃ wx, wx = (w1.setCell ⟨w.heap.size, 38, none⟩ (.slice none 0 0)) := ⟨_, rfl⟩
    have HX : Blk wx w.heap.size 50 M.cells := by
      rw [hwx, HM.out]
      have q := (HB1.out.set_ 38 (.slice none 0 0))
      rw [MsgR.set38 HK.out] at q; exact q
    have HRX : Hid (Blk wx (w.heap.size + 1) 50 ys.toList) := by rw [hwx]; exact Lib.hid (HR1.out.far (by simp <;> omega) _)
    have HKX : Hid (Keep w wx) := by rw [hwx]; exact Lib.hid (Below.setCell HK1.out (by simp <;> omega) _)
    rw [← hwx]
    clear hwx r38 f38 r0
    obtain ⟨ds, hds⟩ : ∃ ds, MsA M ds := ⟨_, MsA.of HOK.out⟩
    have hdz := hds.z; have hdn := hds.n; have hdi := hds.i
    have HDS := Lib.hid hds
    have HBx : Hid (Blk wx w.heap.size 50 ds.toList) := by rw [HDS.out.l]; exact HX
    obtain ⟨w8, hst8, hb8, hg8⟩ := run_store_blk (P := Tryd.prog) ds.toList HRX.out (by rw [Array.length_toList, Array.length_toList, hdz, HY.out.z]) HDS.out.o
    have Hb8 := Lib.hid hb8; have Hg8 := Lib.hid hg8
    clear hds hb8 hg8 HX HRX HB1 HR1
    go_wp2_with ((with_reducible refine load_arr w.heap.size ds (Eq.trans ?_ rfl) HBx.out _ Tryd.underlying50 rfl hdi ?_); rfl)
    have hb8 := Hb8.out
    exact bodyPost_ret (v := .agg ds) (results_cell_row Tryd.results36 _ _ (w.heap.size + 1) _ _ _ _ rfl hb8 Tryd.underlying50 rfl (by rw [List.size_toArray, Array.length_toList]; exact hdi)) rfl ⟨ds, rfl, HDS.out, HKX.out.grown Hg8.out HKX.out.size (fun q hq => by injection hq with hq; omega)⟩
  by_cases h9 : m.kind = 9
  · have HM : Hid (M = { m with bh := zHdr, total := 0, sA := none, shs := [], sc := 0, fA := none, fs := [], fc := 0 }) := Lib.hid (HD.out.trans (by repeat (first | rw [if_pos (by omega)] | rw [if_neg (by omega)])))
    have d0 : (m.kind == 0) = false := by rw [beq_eq_false_iff_ne]; omega
    have d2 : (m.kind == 2) = false := by rw [beq_eq_false_iff_ne]; omega
    have d3 : (m.kind == 3) = false := by rw [beq_eq_false_iff_ne]; omega
    have d4 : (m.kind == 4) = false := by rw [beq_eq_false_iff_ne]; omega
    have d5 : (m.kind == 5) = false := by rw [beq_eq_false_iff_ne]; omega
    have d6 : (m.kind == 6) = false := by rw [beq_eq_false_iff_ne]; omega
    have d7 : (m.kind == 7) = false := by rw [beq_eq_false_iff_ne]; omega
    have d8 : (m.kind == 8) = false := by rw [beq_eq_false_iff_ne]; omega
    have d9 : (m.kind == 9) = true := by rw [beq_iff_eq]; omega
    clear HD h9 h0 h2 h3 h4 h5 h6 h7 h8
    obtain ⟨wx, hst, hbx, hgx⟩ := run_store_prt (P := Tryd.prog) 39 zb.toList HB1.out (by rw [MsgR.len HK.out, Array.length_toList, hbz]; omega) (by rw [HBL.out]; intro u hu; exact MsgR.one (msgZ 0) u (by rw [MsgR.cells39]; simp [hu]))
    have HBX := Lib.hid hbx; have HGX := Lib.hid hgx
    clear hbx hgx
    go_upto_region 19 with fail
    have HX : Blk wx w.heap.size 50 M.cells := by
      rw [HM.out]
      have q := HBX.out
      rw [HBL.out, MsgR.splice_blk HK.out (show (msgZ 0).bh.ok from ⟨rfl, rfl⟩)] at q
      exact q
    have HRX : Hid (Blk wx (w.heap.size + 1) 50 ys.toList) := Lib.hid (HR1.out.grown HGX.out (fun q => by injection q with q; omega))
    have HKX : Hid (Keep w wx) := Lib.hid (HK1.out.grown HGX.out HK1.out.size (fun q hq => by injection hq with hq; omega))
    clear hst HBX r0
    obtain ⟨ds, hds⟩ : ∃ ds, MsA M ds := ⟨_, MsA.of HOK.out⟩
    have hdz := hds.z; have hdn := hds.n; have hdi := hds.i
    have HDS := Lib.hid hds
    have HBx : Hid (Blk wx w.heap.size 50 ds.toList) := by rw [HDS.out.l]; exact HX
    obtain ⟨w8, hst8, hb8, hg8⟩ := run_store_blk (P := Tryd.prog) ds.toList HRX.out (by rw [Array.length_toList, Array.length_toList, hdz, HY.out.z]) HDS.out.o
    have Hb8 := Lib.hid hb8; have Hg8 := Lib.hid hg8
    clear hds hb8 hg8 HX HRX HB1 HR1
    go_wp2_with ((with_reducible refine load_arr w.heap.size ds (Eq.trans ?_ rfl) HBx.out _ Tryd.underlying50 rfl hdi ?_); rfl)
    have hb8 := Hb8.out
    exact bodyPost_ret (v := .agg ds) (results_cell_row Tryd.results36 _ _ (w.heap.size + 1) _ _ _ _ rfl hb8 Tryd.underlying50 rfl (by rw [List.size_toArray, Array.length_toList]; exact hdi)) rfl ⟨ds, rfl, HDS.out, HKX.out.grown Hg8.out HKX.out.size (fun q hq => by injection hq with hq; omega)⟩
  by_cases h10 : m.kind = 10
  · have HM : Hid (M = { m with t := txZ }) := Lib.hid (HD.out.trans (by repeat (first | rw [if_pos (by omega)] | rw [if_neg (by omega)])))
    have d0 : (m.kind == 0) = false := by rw [beq_eq_false_iff_ne]; omega
    have d2 : (m.kind == 2) = false := by rw [beq_eq_false_iff_ne]; omega
    have d3 : (m.kind == 3) = false := by rw [beq_eq_false_iff_ne]; omega
    have d4 : (m.kind == 4) = false := by rw [beq_eq_false_iff_ne]; omega
    have d5 : (m.kind == 5) = false := by rw [beq_eq_false_iff_ne]; omega
    have d6 : (m.kind == 6) = false := by rw [beq_eq_false_iff_ne]; omega
    have d7 : (m.kind == 7) = false := by rw [beq_eq_false_iff_ne]; omega
    have d8 : (m.kind == 8) = false := by rw [beq_eq_false_iff_ne]; omega
    have d9 : (m.kind == 9) = false := by rw [beq_eq_false_iff_ne]; omega
    have d10 : (m.kind == 10) = true := by rw [beq_iff_eq]; omega
    clear HD h10 h0 h2 h3 h4 h5 h6 h7 h8 h9
    have r110 : w1.cell? ⟨w.heap.size, 110, none⟩ = some (u32v m.t.ver) := (HB1.out.cell 110).trans ((MsgR.tx_get HK.out 0).trans rfl)
    have f110 := HB1.out.frozen 110
    have r111 : w1.cell? ⟨w.heap.size, 111, none⟩ = some (.slice m.t.iA m.t.ins.length m.t.ic) := (HB1.out.cell 111).trans ((MsgR.tx_get HK.out 1).trans rfl)
    have f111 := HB1.out.frozen 111
    have r112 : w1.cell? ⟨w.heap.size, 112, none⟩ = some (.slice m.t.oA m.t.outs.length m.t.oc) := (HB1.out.cell 112).trans ((MsgR.tx_get HK.out 2).trans rfl)
    have f112 := HB1.out.frozen 112
    have r113 : w1.cell? ⟨w.heap.size, 113, none⟩ = some (u32v m.t.lock) := (HB1.out.cell 113).trans ((MsgR.tx_get HK.out 3).trans rfl)
    have f113 := HB1.out.frozen 113
    go_upto_region 19 with fail
    obtain ⟨wx, hwx⟩ : ∃ wx, wx = ((((w1.setCell ⟨w.heap.size, 110, none⟩ (.int .u32 0)).setCell ⟨w.heap.size, 111, none⟩ (.slice none 0 0)).setCell ⟨w.heap.size, 112, none⟩ (.slice none 0 0)).setCell ⟨w.heap.size, 113, none⟩ (.int .u32 0)) := ⟨_, rfl⟩
    have HX : Blk wx w.heap.size 50 M.cells := by
      rw [hwx, HM.out]
      have q := ((((HB1.out.set_ 110 (.int .u32 0)).set_ 111 (.slice none 0 0)).set_ 112 (.slice none 0 0)).set_ 113 (.int .u32 0))
      rw [MsgR.set_tx HK.out] at q; exact q
    have HRX : Hid (Blk wx (w.heap.size + 1) 50 ys.toList) := by rw [hwx]; exact Lib.hid ((((HR1.out.far (by simp <;> omega) _).far (by simp <;> omega) _).far (by simp <;> omega) _).far (by simp <;> omega) _)
    have HKX : Hid (Keep w wx) := by rw [hwx]; exact Lib.hid (Below.setCell (Below.setCell (Below.setCell (Below.setCell HK1.out (by simp <;> omega) _) (by simp <;> omega) _) (by simp <;> omega) _) (by simp <;> omega) _)
    rw [← hwx]
    clear hwx r110 f110 r111 f111 r112 f112 r113 f113 r0
    obtain ⟨ds, hds⟩ : ∃ ds, MsA M ds := ⟨_, MsA.of HOK.out⟩
    have hdz := hds.z; have hdn := hds.n; have hdi := hds.i
    have HDS := Lib.hid hds
    have HBx : Hid (Blk wx w.heap.size 50 ds.toList) := by rw [HDS.out.l]; exact HX
    obtain ⟨w8, hst8, hb8, hg8⟩ := run_store_blk (P := Tryd.prog) ds.toList HRX.out (by rw [Array.length_toList, Array.length_toList, hdz, HY.out.z]) HDS.out.o
    have Hb8 := Lib.hid hb8; have Hg8 := Lib.hid hg8
    clear hds hb8 hg8 HX HRX HB1 HR1
    go_wp2_with ((with_reducible refine load_arr w.heap.size ds (Eq.trans ?_ rfl) HBx.out _ Tryd.underlying50 rfl hdi ?_); rfl)
    have hb8 := Hb8.out
    exact bodyPost_ret (v := .agg ds) (results_cell_row Tryd.results36 _ _ (w.heap.size + 1) _ _ _ _ rfl hb8 Tryd.underlying50 rfl (by rw [List.size_toArray, Array.length_toList]; exact hdi)) rfl ⟨ds, rfl, HDS.out, HKX.out.grown Hg8.out HKX.out.size (fun q hq => by injection hq with hq; omega)⟩
  have HM : Hid (M = m) := Lib.hid (HD.out.trans (by repeat (first | rw [if_pos (by omega)] | rw [if_neg (by omega)])))
  have d0 : (m.kind == 0) = false := by rw [beq_eq_false_iff_ne]; omega
  have d2 : (m.kind == 2) = false := by rw [beq_eq_false_iff_ne]; omega
  have d3 : (m.kind == 3) = false := by rw [beq_eq_false_iff_ne]; omega
  have d4 : (m.kind == 4) = false := by rw [beq_eq_false_iff_ne]; omega
  have d5 : (m.kind == 5) = false := by rw [beq_eq_false_iff_ne]; omega
  have d6 : (m.kind == 6) = false := by rw [beq_eq_false_iff_ne]; omega
  have d7 : (m.kind == 7) = false := by rw [beq_eq_false_iff_ne]; omega
  have d8 : (m.kind == 8) = false := by rw [beq_eq_false_iff_ne]; omega
  have d9 : (m.kind == 9) = false := by rw [beq_eq_false_iff_ne]; omega
  have d10 : (m.kind == 10) = false := by rw [beq_eq_false_iff_ne]; omega
  clear HD h0 h2 h3 h4 h5 h6 h7 h8 h9 h10
  go_upto_region 19 with fail
  obtain ⟨wx, hwx⟩ : ∃ wx, wx = w1 := ⟨_, rfl⟩
  have HX : Blk wx w.heap.size 50 M.cells := by rw [hwx, HM.out]; exact HB1.out
  have HRX : Hid (Blk wx (w.heap.size + 1) 50 ys.toList) := by rw [hwx]; exact HR1
  have HKX : Hid (Keep w wx) := by rw [hwx]; exact HK1
  rw [← hwx]
  clear hwx r0
  obtain ⟨ds, hds⟩ : ∃ ds, MsA M ds := ⟨_, MsA.of HOK.out⟩
  have hdz := hds.z; have hdn := hds.n; have hdi := hds.i
  have HDS := Lib.hid hds
  have HBx : Hid (Blk wx w.heap.size 50 ds.toList) := by rw [HDS.out.l]; exact HX
  obtain ⟨w8, hst8, hb8, hg8⟩ := run_store_blk (P := Tryd.prog) ds.toList HRX.out (by rw [Array.length_toList, Array.length_toList, hdz, HY.out.z]) HDS.out.o
  have Hb8 := Lib.hid hb8; have Hg8 := Lib.hid hg8
  clear hds hb8 hg8 HX HRX HB1 HR1
  go_wp2_with ((with_reducible refine load_arr w.heap.size ds (Eq.trans ?_ rfl) HBx.out _ Tryd.underlying50 rfl hdi ?_); rfl)
  have hb8 := Hb8.out
  exact bodyPost_ret (v := .agg ds) (results_cell_row Tryd.results36 _ _ (w.heap.size + 1) _ _ _ _ rfl hb8 Tryd.underlying50 rfl (by rw [List.size_toArray, Array.length_toList]; exact hdi)) rfl ⟨ds, rfl, HDS.out, HKX.out.grown Hg8.out HKX.out.size (fun q hq => by injection hq with hq; omega)⟩
end Go.Proofs.YtffpanlpbdnafaaDoor

/- wire.nothing. (printed by gen_vu.py) -/
set_option linter.unusedSimpArgs false
set_option linter.unusedVariables false
namespace Go.Proofs.YtffpanlpbdnafaaDoor
open Go.RowKit
attribute [local go_sem ↓] Go.wp_at_zero Go.wp_at_succ

theorem zhead_letterA : ∃ zs : Array Value, HdA zHdr zs ∧ (∀ w, (zeroValue 42).run Tryd.prog w = .ok (.agg zs) w) :=
  ⟨zhead, by
    have h := HdA.of (h := zHdr) ⟨rfl, rfl⟩
    rwa [show zHdr.cells = zhead.toList from zhead_list.symm, Array.toArray_toList] at h, zhead_zero⟩
theorem MsgR.blk_tail {m : MsgR} (h : m.ok) (k : Nat) (hk : k < 3) : m.cells[k + 107]? = [u32v m.total, Value.slice m.sA m.shs.length m.sc, .slice m.fA m.fs.length m.fc][k]? := by
  rw [show k + 107 = (k + 68) + 39 by omega, MsgR.blk_get h _ (by omega)]
  unfold MsgR.blk
  rw [List.getElem?_append_right (by rw [Hd.len h.b]; omega), Hd.len h.b, show k + 68 - 68 = k by omega]
/-- Is a message nothing? -/
def nothingB (m : MsgR) : Bool := (((m.proto.toNat : Int) == 0) && ((m.nonce : Int) == 0) && ((m.height.toNat : Int) == 0) && (m.stop == z32)) && (((m.hs.length : Int) == 0) && ((m.ls.length : Int) == 0) && ((m.is.length : Int) == 0)) && (((hdEq m.bh zHdr) && ((m.total.toNat : Int) == 0)) && ((m.shs.length : Int) == 0) && ((m.fs.length : Int) == 0)) && (((m.t.ver.toNat : Int) == 0) && ((m.t.ins.length : Int) == 0) && ((m.t.outs.length : Int) == 0) && ((m.t.lock.toNat : Int) == 0))

set_option maxRecDepth 100000 in
set_option maxHeartbeats 8000000 in
theorem nothing_any (m : MsgR) (cs : Array Value) (hA : MsA m cs) (hk : m.ok) (w : World) :
    Calls Tryd.prog 35 #[.agg cs] w fun e w' => e = .returned (.bool (nothingB m)) ∧ Keep w w' := by
  obtain ⟨zh, hzA, hz0⟩ := zhash_letter32
  obtain ⟨zd, hzD, hd0⟩ := zhead_letterA
  obtain ⟨ss, hss⟩ : ∃ ss, HashA m.stop ss := ⟨_, HashA.of hk.s⟩
  obtain ⟨hv, hhv⟩ : ∃ hv, HdA m.bh hv := ⟨_, HdA.of hk.b⟩
  have hgd1 := hash_guard; have hgd2 := hd_guard
  have hzn := hzA.n; have hzz := hzA.z; have hdn := hzD.n; have hdz := hzD.z
  have hsn := hss.n; have hsz := hss.z; have hsi := hss.i
  have hvn := hhv.n; have hvz := hhv.z; have hvi := hhv.i
  have HE4 : Hid (∀ w, (Go.binOp .eql 39 (.agg ss) (.agg zh)).run Tryd.prog w = .ok (.bool (m.stop == z32)) w) := Lib.hid fun w => hash_eql hss hzA hk.s rfl w
  have HE8 : Hid (∀ w, (Go.binOp .eql 42 (.agg hv) (.agg zd)).run Tryd.prog w = .ok (.bool (hdEq m.bh zHdr)) w) := Lib.hid fun w => hd_eql hhv hzD hk.b ⟨rfl, rfl⟩ w
  have HS := Lib.hid hss; have HH := Lib.hid hhv
  have hcn := hA.n; have hcz := hA.z; have hci := hA.i
  have HA := Lib.hid hA; have HK := Lib.hid hk
  clear hA hk hzA hzD hss hhv
  generalize hNB : nothingB m = NB
  have HNB := Lib.hid hNB.symm
  clear hNB
  unfold nothingB at HNB
  go_enter Tryd.func35, Tryd.ntmps35
  go_upto_region 1 with fail
  obtain ⟨w1, hw1⟩ : ∃ w1, w1 = w.alloc (.cells cs 50) := ⟨_, rfl⟩
  have HB1 : Hid (Blk w1 w.heap.size 50 m.cells) := by rw [hw1, ← HA.out.l]; exact Blk.new w _ cs.toList
  have HK1 : Hid (Keep w w1) := by rw [hw1]; exact keep_new _ _
  rw [← hw1]
  clear hw1
  have RS : Hid (w1.rangeAt w.heap.size 6 ss.toList) := Lib.hid (range_of HB1.out 6 ss.toList (by
    rw [HS.out.l, MsgR.cells6, List.drop_left' (show m.hd6.length = 6 from rfl), List.take_left' rfl]))
  have RH : Hid (w1.rangeAt w.heap.size 39 hv.toList) := Lib.hid (range_of HB1.out 39 hv.toList (by
    rw [HH.out.l, MsgR.cells39, List.drop_left' (MsgR.hd39_len HK.out.s)]
    unfold MsgR.blk
    rw [List.append_assoc, List.take_left' rfl]))
  obtain ⟨p1, e1⟩ : ∃ p, ((m.proto.toNat : Int) == 0) = p := ⟨_, rfl⟩
  obtain ⟨p2, e2⟩ : ∃ p, ((m.nonce : Int) == 0) = p := ⟨_, rfl⟩
  obtain ⟨p3, e3⟩ : ∃ p, ((m.height.toNat : Int) == 0) = p := ⟨_, rfl⟩
  obtain ⟨p4, e4⟩ : ∃ p, (m.stop == z32) = p := ⟨_, rfl⟩
  obtain ⟨p5, e5⟩ : ∃ p, ((m.hs.length : Int) == 0) = p := ⟨_, rfl⟩
  obtain ⟨p6, e6⟩ : ∃ p, ((m.ls.length : Int) == 0) = p := ⟨_, rfl⟩
  obtain ⟨p7, e7⟩ : ∃ p, ((m.is.length : Int) == 0) = p := ⟨_, rfl⟩
  obtain ⟨p8, e8⟩ : ∃ p, (hdEq m.bh zHdr) = p := ⟨_, rfl⟩
  obtain ⟨p9, e9⟩ : ∃ p, ((m.total.toNat : Int) == 0) = p := ⟨_, rfl⟩
  obtain ⟨p10, e10⟩ : ∃ p, ((m.shs.length : Int) == 0) = p := ⟨_, rfl⟩
  obtain ⟨p11, e11⟩ : ∃ p, ((m.fs.length : Int) == 0) = p := ⟨_, rfl⟩
  obtain ⟨p12, e12⟩ : ∃ p, ((m.t.ver.toNat : Int) == 0) = p := ⟨_, rfl⟩
  obtain ⟨p13, e13⟩ : ∃ p, ((m.t.ins.length : Int) == 0) = p := ⟨_, rfl⟩
  obtain ⟨p14, e14⟩ : ∃ p, ((m.t.outs.length : Int) == 0) = p := ⟨_, rfl⟩
  obtain ⟨p15, e15⟩ : ∃ p, ((m.t.lock.toNat : Int) == 0) = p := ⟨_, rfl⟩
  rw [e1, e2, e3, e4, e5, e6, e7, e8, e9, e10, e11, e12, e13, e14, e15] at HNB
  rw [e4] at HE4
  rw [e8] at HE8
  have EE := Lib.hid (And.intro e1 (And.intro e2 (And.intro e3 (And.intro e5 (And.intro e6 (And.intro e7 (And.intro e9 (And.intro e10 (And.intro e11 (And.intro e12 (And.intro e13 (And.intro e14 e15))))))))))))
  clear e1 e2 e3 e4 e5 e6 e7 e8 e9 e10 e11 e12 e13 e14 e15
  have r1 : w1.cell? ⟨w.heap.size, 1, none⟩ = some (u32v m.proto) := (HB1.out.cell 1).trans rfl
  have g1 := EE.out.1
  have r2 : w1.cell? ⟨w.heap.size, 2, none⟩ = some (u64v m.nonce) := (HB1.out.cell 2).trans rfl
  have g2 := EE.out.2.1
  have r3 : w1.cell? ⟨w.heap.size, 3, none⟩ = some (u32v m.height) := (HB1.out.cell 3).trans rfl
  have g3 := EE.out.2.2.1
  have g4 := HE4.out
  obtain ⟨q3, hq3⟩ : ∃ q : Bool, q = (p1 && p2 && p3 && p4) := ⟨_, rfl⟩
  have Hq3 := Lib.hid hq3
  clear hq3
  go_cut [3] (fun v wx => v = .bool q3 ∧ wx = w1)
  case first =>
    cases p1 with
    | false =>
      have hq := Hq3.out
      simp only [Bool.false_and, Bool.true_and, Bool.and_false, Bool.and_true] at hq
      subst hq
      clear HNB
      go_wp2_with (first | ((with_reducible refine load_partg w.heap.size 6 ss (Eq.trans ?_ rfl) RS.out _ hash_under rfl hsi (Eq.trans ?_ rfl) ?_); rfl; rfl) | ((with_reducible refine load_partg w.heap.size 6 ss (Eq.trans ?_ rfl) RS.out _ hash_under rfl hsi rfl ?_); rfl))
      go_meet
      exact ⟨rfl, rfl⟩
    | true =>
      cases p2 with
      | false =>
        have hq := Hq3.out
        simp only [Bool.false_and, Bool.true_and, Bool.and_false, Bool.and_true] at hq
        subst hq
        clear HNB
        go_wp2_with (first | ((with_reducible refine load_partg w.heap.size 6 ss (Eq.trans ?_ rfl) RS.out _ hash_under rfl hsi (Eq.trans ?_ rfl) ?_); rfl; rfl) | ((with_reducible refine load_partg w.heap.size 6 ss (Eq.trans ?_ rfl) RS.out _ hash_under rfl hsi rfl ?_); rfl))
        go_meet
        exact ⟨rfl, rfl⟩
      | true =>
        cases p3 with
        | false =>
          have hq := Hq3.out
          simp only [Bool.false_and, Bool.true_and, Bool.and_false, Bool.and_true] at hq
          subst hq
          clear HNB
          go_wp2_with (first | ((with_reducible refine load_partg w.heap.size 6 ss (Eq.trans ?_ rfl) RS.out _ hash_under rfl hsi (Eq.trans ?_ rfl) ?_); rfl; rfl) | ((with_reducible refine load_partg w.heap.size 6 ss (Eq.trans ?_ rfl) RS.out _ hash_under rfl hsi rfl ?_); rfl))
          go_meet
          exact ⟨rfl, rfl⟩
        | true =>
          cases p4 with
          | false =>
            have hq := Hq3.out
            simp only [Bool.false_and, Bool.true_and, Bool.and_false, Bool.and_true] at hq
            subst hq
            clear HNB
            go_wp2_with (first | ((with_reducible refine load_partg w.heap.size 6 ss (Eq.trans ?_ rfl) RS.out _ hash_under rfl hsi (Eq.trans ?_ rfl) ?_); rfl; rfl) | ((with_reducible refine load_partg w.heap.size 6 ss (Eq.trans ?_ rfl) RS.out _ hash_under rfl hsi rfl ?_); rfl))
            go_meet
            exact ⟨rfl, rfl⟩
          | true =>
            have hq := Hq3.out
            simp only [Bool.false_and, Bool.true_and, Bool.and_false, Bool.and_true] at hq
            subst hq
            clear HNB
            go_wp2_with (first | ((with_reducible refine load_partg w.heap.size 6 ss (Eq.trans ?_ rfl) RS.out _ hash_under rfl hsi (Eq.trans ?_ rfl) ?_); rfl; rfl) | ((with_reducible refine load_partg w.heap.size 6 ss (Eq.trans ?_ rfl) RS.out _ hash_under rfl hsi rfl ?_); rfl))
            go_meet
            exact ⟨rfl, rfl⟩
  obtain ⟨rfl, hwc⟩ := hcut
  obtain rfl := hwc.symm
  clear r1 g1 r2 g2 r3 g3 g4
  go_upto_region 2 with fail
  have r5 : w1.cell? ⟨w.heap.size, 4, none⟩ = some (.slice m.hA m.hs.length m.hc) := (HB1.out.cell 4).trans rfl
  have g5 := EE.out.2.2.2.1
  have r6 : w1.cell? ⟨w.heap.size, 5, none⟩ = some (.slice m.lA m.ls.length m.lc) := (HB1.out.cell 5).trans rfl
  have g6 := EE.out.2.2.2.2.1
  have r7 : w1.cell? ⟨w.heap.size, 38, none⟩ = some (.slice m.iA m.is.length m.ic) := (HB1.out.cell 38).trans ((MsgR.tail_get HK.out 0).trans rfl)
  have g7 := EE.out.2.2.2.2.2.1
  obtain ⟨q4, hq4⟩ : ∃ q : Bool, q = (p5 && p6 && p7) := ⟨_, rfl⟩
  have Hq4 := Lib.hid hq4
  clear hq4
  go_cut [4] (fun v wx => v = .bool q4 ∧ wx = w1)
  case first =>
    cases p5 with
    | false =>
      have hq := Hq4.out
      simp only [Bool.false_and, Bool.true_and, Bool.and_false, Bool.and_true] at hq
      subst hq
      clear HNB
      go_wp2_with (fail)
      go_meet
      exact ⟨rfl, rfl⟩
    | true =>
      cases p6 with
      | false =>
        have hq := Hq4.out
        simp only [Bool.false_and, Bool.true_and, Bool.and_false, Bool.and_true] at hq
        subst hq
        clear HNB
        go_wp2_with (fail)
        go_meet
        exact ⟨rfl, rfl⟩
      | true =>
        cases p7 with
        | false =>
          have hq := Hq4.out
          simp only [Bool.false_and, Bool.true_and, Bool.and_false, Bool.and_true] at hq
          subst hq
          clear HNB
          go_wp2_with (fail)
          go_meet
          exact ⟨rfl, rfl⟩
        | true =>
          have hq := Hq4.out
          simp only [Bool.false_and, Bool.true_and, Bool.and_false, Bool.and_true] at hq
          subst hq
          clear HNB
          go_wp2_with (fail)
          go_meet
          exact ⟨rfl, rfl⟩
  obtain ⟨rfl, hwc⟩ := hcut
  obtain rfl := hwc.symm
  clear r5 g5 r6 g6 r7 g7
  go_upto_region 3 with fail
  have g8 := HE8.out
  have r9 : w1.cell? ⟨w.heap.size, 107, none⟩ = some (u32v m.total) := (HB1.out.cell 107).trans ((MsgR.blk_tail HK.out 0 (by omega)).trans rfl)
  have g9 := EE.out.2.2.2.2.2.2.1
  obtain ⟨q5, hq5⟩ : ∃ q : Bool, q = (p8 && p9) := ⟨_, rfl⟩
  have Hq5 := Lib.hid hq5
  clear hq5
  go_cut [5] (fun v wx => v = .bool q5 ∧ wx = w1)
  case first =>
    cases p8 with
    | false =>
      have hq := Hq5.out
      simp only [Bool.false_and, Bool.true_and, Bool.and_false, Bool.and_true] at hq
      subst hq
      clear HNB
      go_wp2_with (first | ((with_reducible refine load_partg w.heap.size 39 hv (Eq.trans ?_ rfl) RH.out _ Tryd.underlying42 rfl hvi (Eq.trans ?_ rfl) ?_); rfl; rfl) | ((with_reducible refine load_partg w.heap.size 39 hv (Eq.trans ?_ rfl) RH.out _ Tryd.underlying42 rfl hvi rfl ?_); rfl))
      go_meet
      exact ⟨rfl, rfl⟩
    | true =>
      cases p9 with
      | false =>
        have hq := Hq5.out
        simp only [Bool.false_and, Bool.true_and, Bool.and_false, Bool.and_true] at hq
        subst hq
        clear HNB
        go_wp2_with (first | ((with_reducible refine load_partg w.heap.size 39 hv (Eq.trans ?_ rfl) RH.out _ Tryd.underlying42 rfl hvi (Eq.trans ?_ rfl) ?_); rfl; rfl) | ((with_reducible refine load_partg w.heap.size 39 hv (Eq.trans ?_ rfl) RH.out _ Tryd.underlying42 rfl hvi rfl ?_); rfl))
        go_meet
        exact ⟨rfl, rfl⟩
      | true =>
        have hq := Hq5.out
        simp only [Bool.false_and, Bool.true_and, Bool.and_false, Bool.and_true] at hq
        subst hq
        clear HNB
        go_wp2_with (first | ((with_reducible refine load_partg w.heap.size 39 hv (Eq.trans ?_ rfl) RH.out _ Tryd.underlying42 rfl hvi (Eq.trans ?_ rfl) ?_); rfl; rfl) | ((with_reducible refine load_partg w.heap.size 39 hv (Eq.trans ?_ rfl) RH.out _ Tryd.underlying42 rfl hvi rfl ?_); rfl))
        go_meet
        exact ⟨rfl, rfl⟩
  obtain ⟨rfl, hwc⟩ := hcut
  obtain rfl := hwc.symm
  clear g8 r9 g9
  go_upto_region 4 with fail
  have r10 : w1.cell? ⟨w.heap.size, 108, none⟩ = some (.slice m.sA m.shs.length m.sc) := (HB1.out.cell 108).trans ((MsgR.blk_tail HK.out 1 (by omega)).trans rfl)
  have g10 := EE.out.2.2.2.2.2.2.2.1
  have r11 : w1.cell? ⟨w.heap.size, 109, none⟩ = some (.slice m.fA m.fs.length m.fc) := (HB1.out.cell 109).trans ((MsgR.blk_tail HK.out 2 (by omega)).trans rfl)
  have g11 := EE.out.2.2.2.2.2.2.2.2.1
  obtain ⟨q6, hq6⟩ : ∃ q : Bool, q = (q5 && p10 && p11) := ⟨_, rfl⟩
  have Hq6 := Lib.hid hq6
  clear hq6
  go_cut [6] (fun v wx => v = .bool q6 ∧ wx = w1)
  case first =>
    cases q5 with
    | false =>
      have hq := Hq6.out
      simp only [Bool.false_and, Bool.true_and, Bool.and_false, Bool.and_true] at hq
      subst hq
      clear HNB
      go_wp2_with (fail)
      go_meet
      exact ⟨rfl, rfl⟩
    | true =>
      cases p10 with
      | false =>
        have hq := Hq6.out
        simp only [Bool.false_and, Bool.true_and, Bool.and_false, Bool.and_true] at hq
        subst hq
        clear HNB
        go_wp2_with (fail)
        go_meet
        exact ⟨rfl, rfl⟩
      | true =>
        cases p11 with
        | false =>
          have hq := Hq6.out
          simp only [Bool.false_and, Bool.true_and, Bool.and_false, Bool.and_true] at hq
          subst hq
          clear HNB
          go_wp2_with (fail)
          go_meet
          exact ⟨rfl, rfl⟩
        | true =>
          have hq := Hq6.out
          simp only [Bool.false_and, Bool.true_and, Bool.and_false, Bool.and_true] at hq
          subst hq
          clear HNB
          go_wp2_with (fail)
          go_meet
          exact ⟨rfl, rfl⟩
  obtain ⟨rfl, hwc⟩ := hcut
  obtain rfl := hwc.symm
  clear r10 g10 r11 g11
  go_upto_region 5 with fail
  have r12 : w1.cell? ⟨w.heap.size, 110, none⟩ = some (u32v m.t.ver) := (HB1.out.cell 110).trans ((MsgR.tx_get HK.out 0).trans rfl)
  have g12 := EE.out.2.2.2.2.2.2.2.2.2.1
  have r13 : w1.cell? ⟨w.heap.size, 111, none⟩ = some (.slice m.t.iA m.t.ins.length m.t.ic) := (HB1.out.cell 111).trans ((MsgR.tx_get HK.out 1).trans rfl)
  have g13 := EE.out.2.2.2.2.2.2.2.2.2.2.1
  have r14 : w1.cell? ⟨w.heap.size, 112, none⟩ = some (.slice m.t.oA m.t.outs.length m.t.oc) := (HB1.out.cell 112).trans ((MsgR.tx_get HK.out 2).trans rfl)
  have g14 := EE.out.2.2.2.2.2.2.2.2.2.2.2.1
  have r15 : w1.cell? ⟨w.heap.size, 113, none⟩ = some (u32v m.t.lock) := (HB1.out.cell 113).trans ((MsgR.tx_get HK.out 3).trans rfl)
  have g15 := EE.out.2.2.2.2.2.2.2.2.2.2.2.2
  obtain ⟨q7, hq7⟩ : ∃ q : Bool, q = (p12 && p13 && p14 && p15) := ⟨_, rfl⟩
  have Hq7 := Lib.hid hq7
  clear hq7
  go_cut [7] (fun v wx => v = .bool q7 ∧ wx = w1)
  case first =>
    cases p12 with
    | false =>
      have hq := Hq7.out
      simp only [Bool.false_and, Bool.true_and, Bool.and_false, Bool.and_true] at hq
      subst hq
      clear HNB
      go_wp2_with (fail)
      go_meet
      exact ⟨rfl, rfl⟩
    | true =>
      cases p13 with
      | false =>
        have hq := Hq7.out
        simp only [Bool.false_and, Bool.true_and, Bool.and_false, Bool.and_true] at hq
        subst hq
        clear HNB
        go_wp2_with (fail)
        go_meet
        exact ⟨rfl, rfl⟩
      | true =>
        cases p14 with
        | false =>
          have hq := Hq7.out
          simp only [Bool.false_and, Bool.true_and, Bool.and_false, Bool.and_true] at hq
          subst hq
          clear HNB
          go_wp2_with (fail)
          go_meet
          exact ⟨rfl, rfl⟩
        | true =>
          cases p15 with
          | false =>
            have hq := Hq7.out
            simp only [Bool.false_and, Bool.true_and, Bool.and_false, Bool.and_true] at hq
            subst hq
            clear HNB
            go_wp2_with (fail)
            go_meet
            exact ⟨rfl, rfl⟩
          | true =>
            have hq := Hq7.out
            simp only [Bool.false_and, Bool.true_and, Bool.and_false, Bool.and_true] at hq
            subst hq
            clear HNB
            go_wp2_with (fail)
            go_meet
            exact ⟨rfl, rfl⟩
  obtain ⟨rfl, hwc⟩ := hcut
  obtain rfl := hwc.symm
  clear r12 g12 r13 g13 r14 g14 r15 g15
  go_upto_region 6 with fail
  have hf : NB = (q3 && q4 && q6 && q7) := by rw [HNB.out, Hq3.out, Hq4.out, Hq6.out, Hq5.out, Hq7.out]
  subst hf
  clear HNB Hq3 Hq4 Hq5 Hq6 Hq7 EE HE4 HE8 RS RH
  cases q3 with
  | false =>
    go_wp2
    exact bodyPost_ret (v := .bool _) (by simp [results, Tryd.results35]) rfl ⟨rfl, HK1.out⟩
  | true =>
    cases q4 with
    | false =>
      go_wp2
      exact bodyPost_ret (v := .bool _) (by simp [results, Tryd.results35]) rfl ⟨rfl, HK1.out⟩
    | true =>
      cases q6 with
      | false =>
        go_wp2
        exact bodyPost_ret (v := .bool _) (by simp [results, Tryd.results35]) rfl ⟨rfl, HK1.out⟩
      | true =>
        cases q7 with
        | false =>
          go_wp2
          exact bodyPost_ret (v := .bool _) (by simp [results, Tryd.results35]) rfl ⟨rfl, HK1.out⟩
        | true =>
          go_wp2
          exact bodyPost_ret (v := .bool _) (by simp [results, Tryd.results35]) rfl ⟨rfl, HK1.out⟩
end Go.Proofs.YtffpanlpbdnafaaDoor

/- wire.Fits. (printed by gen_vv.py) -/
set_option linter.unusedSimpArgs false
set_option linter.unusedVariables false
namespace Go.Proofs.YtffpanlpbdnafaaDoor
open Go.RowKit
attribute [local go_sem ↓] Go.wp_at_zero Go.wp_at_succ

set_option maxRecDepth 100000 in
set_option maxHeartbeats 4000000 in
/-- May a transaction be? (However long it is.) -/
theorem tsane_all (t : TxR) (w : World) (h : t.at w) :
    Calls Tryd.prog 34 #[.agg #[u32v t.ver, .slice t.iA t.ins.length t.ic, .slice t.oA t.outs.length t.oc, u32v t.lock]] w fun e w' => e = .returned (.bool (saneT t)) ∧ Keep w w' := by
  by_cases hn : t.ins.length ≤ 1000000
  · by_cases hm : t.outs.length ≤ 1000000
    · exact tsane_any t w h hn hm
    · by_cases g0 : t.ins.length < 1 ∨ 1000 < t.ins.length
      · have hv : saneT t = false := by unfold saneT; rw [decide_eq_false_iff_not]; omega
        rw [hv]
        have HK : Hid (Keep w w) := Lib.hid (Below.refl _ _)
        by_cases g1 : t.ins.length < 1
        · have d1 : (t.ins.length : Int) < 1 := by omega
          clear h hn hm g0 g1 hv
          go_enter Tryd.func34, Tryd.ntmps34
          go_wp2
          exact bodyPost_ret (v := .bool false) (by simp [results, Tryd.results34]) rfl ⟨rfl, (HK.out).alloc (Nat.le_refl _) _⟩
        · have d1 : ¬ (t.ins.length : Int) < 1 := by omega
          have d2 : (1000 : Int) < t.ins.length := by omega
          clear h hn hm g0 g1 hv
          go_enter Tryd.func34, Tryd.ntmps34
          go_wp2
          exact bodyPost_ret (v := .bool false) (by simp [results, Tryd.results34]) rfl ⟨rfl, (HK.out).alloc (Nat.le_refl _) _⟩
      · have hv : saneT t = false := by unfold saneT; rw [decide_eq_false_iff_not]; omega
        rw [hv]
        have HK : Hid (Keep w w) := Lib.hid (Below.refl _ _)
        have d1 : ¬ (t.ins.length : Int) < 1 := by omega
        have d2 : ¬ (1000 : Int) < t.ins.length := by omega
        have d3 : (1000 : Int) < t.outs.length := by omega
        clear h hn hm g0 hv
        go_enter Tryd.func34, Tryd.ntmps34
        go_wp2
        exact bodyPost_ret (v := .bool false) (by simp [results, Tryd.results34]) rfl ⟨rfl, (HK.out).alloc (Nat.le_refl _) _⟩
  · have hv : saneT t = false := by unfold saneT; rw [decide_eq_false_iff_not]; omega
    rw [hv]
    have HK : Hid (Keep w w) := Lib.hid (Below.refl _ _)
    have d1 : ¬ (t.ins.length : Int) < 1 := by omega
    have d2 : (1000 : Int) < t.ins.length := by omega
    clear h hn hv
    go_enter Tryd.func34, Tryd.ntmps34
    go_wp2
    exact bodyPost_ret (v := .bool false) (by simp [results, Tryd.results34]) rfl ⟨rfl, (HK.out).alloc (Nat.le_refl _) _⟩
/-- Does a message fit? -/
def fitsB (m : MsgR) : Bool := decide (0 ≤ m.kind ∧ m.kind < 11 ∧ m.ls.length ≤ 101 ∧ m.hs.length ≤ 2000 ∧ m.is.length ≤ 50000 ∧ m.shs.length ≤ 4096 ∧ m.fs.length ≤ 1024 ∧ (m.kind = 10 → saneT m.t = true) ∧ nothingB (othersM m) = true)
set_option maxRecDepth 100000 in
set_option maxHeartbeats 8000000 in
theorem fits_any (m : MsgR) (cs : Array Value) (hA : MsA m cs) (hk : m.ok) (w : World) (ht : m.t.at w) :
    Calls Tryd.prog 16 #[.agg cs] w fun e w' => e = .returned (.bool (fitsB m)) ∧ Keep w w' := by
  have hcn := hA.n; have hcz := hA.z; have hci := hA.i
  have OT : Hid (∀ y, Calls Tryd.prog 36 #[.agg cs] y fun e w' => ∃ ds, e = .returned (.agg ds) ∧ MsA (othersM m) ds ∧ Keep y w') := Lib.hid fun y => others_any m cs hA hk y
  have NO : Hid (∀ ds y, MsA (othersM m) ds → Calls Tryd.prog 35 #[.agg ds] y fun e w' => e = .returned (.bool (nothingB (othersM m))) ∧ Keep y w') := Lib.hid fun ds y h => nothing_any _ ds h (othersM_ok hk) y
  have TS : Hid (∀ y, Keep w y → Calls Tryd.prog 34 #[.agg #[u32v m.t.ver, .slice m.t.iA m.t.ins.length m.t.ic, .slice m.t.oA m.t.outs.length m.t.oc, u32v m.t.lock]] y fun e w' => e = .returned (.bool (saneT m.t)) ∧ Keep y w') := Lib.hid fun y h => tsane_all _ y (ht.keep h)
  have HF : Hid (fitsB m = decide (0 ≤ m.kind ∧ m.kind < 11 ∧ m.ls.length ≤ 101 ∧ m.hs.length ≤ 2000 ∧ m.is.length ≤ 50000 ∧ m.shs.length ≤ 4096 ∧ m.fs.length ≤ 1024 ∧ (m.kind = 10 → saneT m.t = true) ∧ nothingB (othersM m) = true)) := Lib.hid rfl
  generalize fitsB m = R at *
  generalize saneT m.t = ST at *
  generalize nothingB (othersM m) = NT at *
  have HA := Lib.hid hA; have HK := Lib.hid hk
  clear hA hk ht
  go_enter Tryd.func16, Tryd.ntmps16
  go_upto_region 1 with fail
  obtain ⟨w1, hw1⟩ : ∃ w1, w1 = w.alloc (.cells cs 50) := ⟨_, rfl⟩
  have HB1 : Hid (Blk w1 w.heap.size 50 m.cells) := by rw [hw1, ← HA.out.l]; exact Blk.new w _ cs.toList
  have HBc : Hid (Blk w1 w.heap.size 50 cs.toList) := by rw [hw1]; exact Blk.new w _ cs.toList
  have HK1 : Hid (Keep w w1) := by rw [hw1]; exact keep_new _ _
  rw [← hw1]
  clear hw1
  have rk : w1.cell? ⟨w.heap.size, 0, none⟩ = some (.int .i64 m.kind) := (HB1.out.cell 0).trans rfl
  have rh : w1.cell? ⟨w.heap.size, 4, none⟩ = some (.slice m.hA m.hs.length m.hc) := (HB1.out.cell 4).trans rfl
  have rl : w1.cell? ⟨w.heap.size, 5, none⟩ = some (.slice m.lA m.ls.length m.lc) := (HB1.out.cell 5).trans rfl
  have ri : w1.cell? ⟨w.heap.size, 38, none⟩ = some (.slice m.iA m.is.length m.ic) := (HB1.out.cell 38).trans ((MsgR.tail_get HK.out 0).trans rfl)
  have rs : w1.cell? ⟨w.heap.size, 108, none⟩ = some (.slice m.sA m.shs.length m.sc) := (HB1.out.cell 108).trans ((MsgR.blk_tail HK.out 1 (by omega)).trans rfl)
  have rf : w1.cell? ⟨w.heap.size, 109, none⟩ = some (.slice m.fA m.fs.length m.fc) := (HB1.out.cell 109).trans ((MsgR.blk_tail HK.out 2 (by omega)).trans rfl)
  have rt0 : w1.cell? ⟨w.heap.size, 110, none⟩ = some (u32v m.t.ver) := (HB1.out.cell 110).trans ((MsgR.tx_get HK.out 0).trans rfl)
  have rt1 : w1.cell? ⟨w.heap.size, 111, none⟩ = some (.slice m.t.iA m.t.ins.length m.t.ic) := (HB1.out.cell 111).trans ((MsgR.tx_get HK.out 1).trans rfl)
  have rt2 : w1.cell? ⟨w.heap.size, 112, none⟩ = some (.slice m.t.oA m.t.outs.length m.t.oc) := (HB1.out.cell 112).trans ((MsgR.tx_get HK.out 2).trans rfl)
  have rt3 : w1.cell? ⟨w.heap.size, 113, none⟩ = some (u32v m.t.lock) := (HB1.out.cell 113).trans ((MsgR.tx_get HK.out 3).trans rfl)
  by_cases c0 : m.kind < 0
  · have hv : R = false := by rw [HF.out, decide_eq_false_iff_not]; omega
    subst hv
    have d0 : m.kind < 0 := by omega
    clear HF OT NO TS c0
    go_wp2
    exact bodyPost_ret (v := .bool false) (by simp [results, Tryd.results16]) rfl ⟨rfl, HK1.out⟩
  have d0 : ¬ m.kind < 0 := by omega
  by_cases c1 : 11 ≤ m.kind
  · have hv : R = false := by rw [HF.out, decide_eq_false_iff_not]; omega
    subst hv
    have d1 : (11 : Int) ≤ m.kind := by omega
    clear HF OT NO TS c0 c1
    go_wp2
    exact bodyPost_ret (v := .bool false) (by simp [results, Tryd.results16]) rfl ⟨rfl, HK1.out⟩
  have d1 : ¬ (11 : Int) ≤ m.kind := by omega
  by_cases c2 : 101 < m.ls.length
  · have hv : R = false := by rw [HF.out, decide_eq_false_iff_not]; omega
    subst hv
    have d2 : (101 : Int) < m.ls.length := by omega
    clear HF OT NO TS c0 c1 c2
    go_wp2
    exact bodyPost_ret (v := .bool false) (by simp [results, Tryd.results16]) rfl ⟨rfl, HK1.out⟩
  have d2 : ¬ (101 : Int) < m.ls.length := by omega
  by_cases c3 : 2000 < m.hs.length
  · have hv : R = false := by rw [HF.out, decide_eq_false_iff_not]; omega
    subst hv
    have d3 : (2000 : Int) < m.hs.length := by omega
    clear HF OT NO TS c0 c1 c2 c3
    go_wp2
    exact bodyPost_ret (v := .bool false) (by simp [results, Tryd.results16]) rfl ⟨rfl, HK1.out⟩
  have d3 : ¬ (2000 : Int) < m.hs.length := by omega
  by_cases c4 : 50000 < m.is.length
  · have hv : R = false := by rw [HF.out, decide_eq_false_iff_not]; omega
    subst hv
    have d4 : (50000 : Int) < m.is.length := by omega
    clear HF OT NO TS c0 c1 c2 c3 c4
    go_wp2
    exact bodyPost_ret (v := .bool false) (by simp [results, Tryd.results16]) rfl ⟨rfl, HK1.out⟩
  have d4 : ¬ (50000 : Int) < m.is.length := by omega
  by_cases c5 : 4096 < m.shs.length
  · have hv : R = false := by rw [HF.out, decide_eq_false_iff_not]; omega
    subst hv
    have d5 : (4096 : Int) < m.shs.length := by omega
    clear HF OT NO TS c0 c1 c2 c3 c4 c5
    go_wp2
    exact bodyPost_ret (v := .bool false) (by simp [results, Tryd.results16]) rfl ⟨rfl, HK1.out⟩
  have d5 : ¬ (4096 : Int) < m.shs.length := by omega
  by_cases c6 : 1024 < m.fs.length
  · have hv : R = false := by rw [HF.out, decide_eq_false_iff_not]; omega
    subst hv
    have d6 : (1024 : Int) < m.fs.length := by omega
    clear HF OT NO TS c0 c1 c2 c3 c4 c5 c6
    go_wp2
    exact bodyPost_ret (v := .bool false) (by simp [results, Tryd.results16]) rfl ⟨rfl, HK1.out⟩
  have d6 : ¬ (1024 : Int) < m.fs.length := by omega
  by_cases hk10 : m.kind = 10
  · have d8 : (m.kind == 10) = true := by rw [beq_iff_eq]; exact hk10
    cases ST with
    | false =>
      have hv : R = false := by rw [HF.out, decide_eq_false_iff_not]; intro q; exact absurd (q.2.2.2.2.2.2.2.1 hk10) (by decide)
      subst hv
      clear HF OT NO hk10 c0 c1 c2 c3 c4 c5 c6
      go_wp2_with (go_at_call 34; refine (TS.out _ HK1.out).mono ?_; rintro e w2 ⟨rfl, k2⟩; have HK2 := Lib.hid (keep_trans HK1.out k2); clear k2)
      exact bodyPost_ret (v := .bool false) (by simp [results, Tryd.results16]) rfl ⟨rfl, HK2.out⟩
    | true =>
      have hv : R = NT := by
        rw [HF.out]
        cases NT with
        | false => rw [decide_eq_false_iff_not]; intro q; exact absurd q.2.2.2.2.2.2.2.2 (by decide)
        | true => rw [decide_eq_true_eq]; exact ⟨by omega, by omega, by omega, by omega, by omega, by omega, by omega, fun _ => rfl, rfl⟩
      subst hv
      clear HF hk10 c0 c1 c2 c3 c4 c5 c6
      go_upto_region 9 with (go_at_call 34; refine (TS.out _ HK1.out).mono ?_; rintro e w2 ⟨rfl, k2⟩; have HK2 := Lib.hid (keep_trans HK1.out k2); have HB2 := Lib.hid (HBc.out.keep k2); clear k2)
      go_wp2_with (first | ((with_reducible refine load_arr w.heap.size cs (Eq.trans ?_ rfl) HB2.out _ Tryd.underlying50 rfl hci ?_); rfl) | (go_at_call 36; refine (OT.out _).mono ?_; rintro e w3 ⟨ds, rfl, hds, k3⟩; have hdn := hds.n; have hdz := hds.z; have HDS := Lib.hid hds; have HK3 := Lib.hid (keep_trans HK2.out k3); clear hds k3) | (go_at_call 35; refine (NO.out _ _ HDS.out).mono ?_; rintro e w4 ⟨rfl, k4⟩; have HK4 := Lib.hid (keep_trans HK3.out k4); clear k4))
      exact bodyPost_ret (v := .bool _) (by simp [results, Tryd.results16]) rfl ⟨rfl, HK4.out⟩
  · have d8 : (m.kind == 10) = false := by rw [beq_eq_false_iff_ne]; exact hk10
    have hv : R = NT := by
      rw [HF.out]
      cases NT with
      | false => rw [decide_eq_false_iff_not]; intro q; exact absurd q.2.2.2.2.2.2.2.2 (by decide)
      | true => rw [decide_eq_true_eq]; exact ⟨by omega, by omega, by omega, by omega, by omega, by omega, by omega, fun q => absurd q hk10, rfl⟩
    subst hv
    clear HF hk10 c0 c1 c2 c3 c4 c5 c6
    go_upto_region 9 with fail
    go_wp2_with (first | ((with_reducible refine load_arr w.heap.size cs (Eq.trans ?_ rfl) HBc.out _ Tryd.underlying50 rfl hci ?_); rfl) | (go_at_call 36; refine (OT.out _).mono ?_; rintro e w3 ⟨ds, rfl, hds, k3⟩; have hdn := hds.n; have hdz := hds.z; have HDS := Lib.hid hds; have HK3 := Lib.hid (keep_trans HK1.out k3); clear hds k3) | (go_at_call 35; refine (NO.out _ _ HDS.out).mono ?_; rintro e w4 ⟨rfl, k4⟩; have HK4 := Lib.hid (keep_trans HK3.out k4); clear k4))
    exact bodyPost_ret (v := .bool _) (by simp [results, Tryd.results16]) rfl ⟨rfl, HK4.out⟩
end Go.Proofs.YtffpanlpbdnafaaDoor

/- Peers in memory; frame.bounded, New; peer.New, banned. -/
set_option linter.unusedSimpArgs false
set_option linter.unusedVariables false
namespace Go.Proofs.YtffpanlpbdnafaaDoor
open Go.RowKit
attribute [local go_sem ↓] Go.wp_at_zero Go.wp_at_succ

/-- A peer. -/
structure PeR where
  stage : Int
  nonce : Nat
  height : UInt32
  asked : Bool
  until_ : Int
  misses : Int
  magic : UInt32
  cap : Int
  rA : Option Addr
  rs : List UInt8
  rc : Nat
  bad : Int
namespace PeR
def cells (p : PeR) : List Value := [iv p.stage, u64v p.nonce, u32v p.height, .bool p.asked, iv p.until_, iv p.misses, u32v p.magic, iv p.cap, .slice p.rA p.rs.length p.rc, iv p.bad]
theorem one (p : PeR) : ∀ u ∈ p.cells, u.oneCell' = true := by
  intro u hu
  unfold cells at hu
  simp only [List.mem_cons, List.not_mem_nil, or_false] at hu
  rcases hu with rfl | rfl | rfl | rfl | rfl | rfl | rfl | rfl | rfl | rfl <;> rfl
end PeR
theorem pe_info : (Tryd.prog.info? 31).map (·.size) = some 10 := by kernel_rfl
/-- What a walk has to know of a peer as a value. -/
structure PeA (p : PeR) (cs : Array Value) : Prop where
  l : cs.toList = p.cells
  z : cs.size = 10
  i : (Tryd.prog.info? 31).map (·.size) = some cs.size
  n : ¬ cs = #[]
  o : ∀ v ∈ cs.toList, v.oneCell' = true
theorem PeA.of (p : PeR) : PeA p p.cells.toArray :=
  ⟨rfl, rfl, pe_info, (fun e => by cases e), by simpa using p.one⟩
def peZ : PeR := ⟨0, 0, 0, false, 0, 0, 0, 0, none, [], 0, 0⟩
noncomputable def zpeer : Array Value := match (Tryd.prog.info? 31).bind (·.zero) with | some (.agg c) => c | _ => #[]
theorem zpeer_zero (w : World) : (zeroValue 31).run Tryd.prog w = .ok (.agg zpeer) w := by kernel_rfl
theorem zpeer_list : zpeer.toList = peZ.cells := by kernel_rfl
theorem zpeer_letter : ∃ zs : Array Value, (∀ w, (zeroValue 31).run Tryd.prog w = .ok (.agg zs) w) ∧ PeA peZ zs :=
  ⟨zpeer, zpeer_zero, by
    have h := PeA.of peZ
    rwa [← zpeer_list, Array.toArray_toList] at h⟩
def bndF (n : Int) : Int := min (max n 0) 4000000
def newP (magic : UInt32) (most : Int) : PeR := { peZ with magic := magic, cap := bndF most }
def PeR.ban (p : PeR) : PeR := { p with stage := 3, asked := false, rA := none, rs := [], rc := 0 }

set_option maxRecDepth 100000 in
theorem bounded_any (n : Int) (w : World) : Calls Tryd.prog 42 #[iv n] w fun e w' => e = .returned (iv (bndF n)) ∧ Keep w w' := by
  have HK : Hid (Keep w w) := Lib.hid (Below.refl _ _)
  have HB : Hid (bndF n = min (max n 0) 4000000) := Lib.hid rfl
  generalize bndF n = B at *
  go_enter Tryd.func42, Tryd.ntmps42
  go_wp2
  all_goals
    rename_i h1
    have e : B = _ := HB.out
    first
    | (have e3 : B = 4000000 := by rw [e]; split at h1 <;> omega
       rw [e3]
       exact bodyPost_ret (v := iv 4000000) (by simp [results, Tryd.results42]) rfl ⟨rfl, HK.out⟩)
    | (have e3 : B = 0 := by rw [e]; omega
       rw [e3]
       exact bodyPost_ret (v := iv 0) (by simp [results, Tryd.results42]) rfl ⟨rfl, HK.out⟩)
    | (have e3 : B = n := by rw [e]; split at h1 <;> omega
       rw [e3]
       exact bodyPost_ret (v := iv n) (by simp [results, Tryd.results42]) rfl ⟨rfl, HK.out⟩)

/-- A stream as a value. -/
def bufL (g : UInt32) (c : Int) (A : Option Addr) (n rc : Nat) (b : Int) : List Value := [u32v g, iv c, .slice A n rc, iv b]
theorem buf_info : (Tryd.prog.info? 29).map (·.size) = some 4 := by kernel_rfl
structure BuA (l : List Value) (cs : Array Value) : Prop where
  l : cs.toList = l
  z : cs.size = 4
  i : (Tryd.prog.info? 29).map (·.size) = some cs.size
  n : ¬ cs = #[]
  o : ∀ v ∈ cs.toList, v.oneCell' = true
theorem BuA.of (g : UInt32) (c : Int) (A : Option Addr) (n rc : Nat) (b : Int) : BuA (bufL g c A n rc b) (bufL g c A n rc b).toArray :=
  ⟨rfl, rfl, buf_info, (fun e => by cases e), by
    intro v hv
    have hv : v ∈ bufL g c A n rc b := by simpa using hv
    simp only [bufL, List.mem_cons, List.not_mem_nil, or_false] at hv
    rcases hv with rfl | rfl | rfl | rfl <;> rfl⟩
theorem buf_built (g : UInt32) (c : Int) : ∃ bs, BuA (bufL g c none 0 0 0) bs ∧ Tryd.prog.built 29 [(0, u32v g), (1, iv c)] = some bs := ⟨_, BuA.of .., by kernel_rfl⟩
set_option maxRecDepth 100000 in
theorem pe_built (g : UInt32) (c : Int) (bs : Array Value) (h : BuA (bufL g c none 0 0 0) bs) : ∃ ps, PeA { peZ with magic := g, cap := c } ps ∧ Tryd.prog.built 31 [(6, .agg bs)] = some ps := by
  have e : bs = (bufL g c none 0 0 0).toArray := by rw [← h.l, Array.toArray_toList]
  subst e
  exact ⟨_, PeA.of _, by kernel_rfl⟩
noncomputable def zbuf : Array Value := match (Tryd.prog.info? 29).bind (·.zero) with | some (.agg c) => c | _ => #[]
theorem zbuf_zero (w : World) : (zeroValue 29).run Tryd.prog w = .ok (.agg zbuf) w := by kernel_rfl
theorem zbuf_list : zbuf.toList = bufL 0 0 none 0 0 0 := by kernel_rfl
set_option maxRecDepth 100000 in
theorem zbuf_letter : ∃ zs : Array Value, (∀ w, (zeroValue 29).run Tryd.prog w = .ok (.agg zs) w) ∧ BuA (bufL 0 0 none 0 0 0) zs :=
  ⟨zbuf, zbuf_zero, by
    have h := BuA.of 0 0 none 0 0 0
    rwa [← zbuf_list, Array.toArray_toList] at h⟩

set_option maxRecDepth 100000 in
set_option maxHeartbeats 4000000 in
theorem fnew_any (g : UInt32) (n : Int) (w : World) : Calls Tryd.prog 28 #[u32v g, iv n] w fun e w' => ∃ bs, e = .returned (.agg bs) ∧ BuA (bufL g (bndF n) none 0 0 0) bs ∧ Keep w w' := by
  have BN : Hid (∀ y, Calls Tryd.prog 42 #[iv n] y fun e w' => e = .returned (iv (bndF n)) ∧ Keep y w') := Lib.hid fun y => bounded_any n y
  generalize bndF n = B at *
  obtain ⟨zs, hz0, hzA⟩ := zbuf_letter
  obtain ⟨bs, hbA, hbl⟩ := buf_built g B
  have hzn := hzA.n; have hzz := hzA.z
  have hbn := hbA.n; have hbz := hbA.z; have hbi := hbA.i
  have HZ := Lib.hid hzA; have HBA := Lib.hid hbA
  have HBu := Lib.hid hbl
  clear hzA hbA hbl
  go_enter Tryd.func28, Tryd.ntmps28
  go_wp2_with fail
  refine (BN.out _).mono ?_
  clear BN
  rintro e w2 ⟨rfl, k2⟩
  have HK2 : Hid (Keep w w2) := Lib.hid (keep_trans (keep_new w _) k2)
  have HR2 : Hid (Blk w2 w.heap.size 29 zs.toList) := Lib.hid ((Blk.new w 29 zs.toList).keep k2)
  clear k2
  obtain ⟨w8, hst8, hb8, hg8⟩ := run_store_blk (P := Tryd.prog) bs.toList HR2.out (by rw [Array.length_toList, Array.length_toList, hzz, hbz]) HBA.out.o
  have Hb8 := Lib.hid hb8; have Hg8 := Lib.hid hg8
  clear hb8 hg8
  go_wp2_with ((with_reducible refine list_bldg [(0, u32v g), (1, iv B)] bs (Eq.trans ?_ rfl) HBu.out (Eq.trans ?_ rfl) ?_); rfl; rfl)
  exact bodyPost_ret (v := .agg bs) (results_cell_row Tryd.results28 _ _ w.heap.size _ _ _ _ rfl Hb8.out Tryd.underlying29 rfl (by rw [List.size_toArray, Array.length_toList]; exact hbi)) rfl ⟨bs, rfl, HBA.out, HK2.out.grown Hg8.out HK2.out.size (fun q hq => by injection hq with hq; omega)⟩

set_option maxRecDepth 100000 in
set_option maxHeartbeats 4000000 in
theorem pnew_any (g : UInt32) (n : Int) (w : World) : Calls Tryd.prog 9 #[u32v g, iv n] w fun e w' => ∃ ps, e = .returned (.agg ps) ∧ PeA (newP g n) ps ∧ Keep w w' := by
  have FN : Hid (∀ y, Calls Tryd.prog 28 #[u32v g, iv n] y fun e w' => ∃ bs, e = .returned (.agg bs) ∧ BuA (bufL g (bndF n) none 0 0 0) bs ∧ Keep y w') := Lib.hid fun y => fnew_any g n y
  unfold newP
  generalize bndF n = B at *
  obtain ⟨zs, hz0, hzA⟩ := zpeer_letter
  have hzn := hzA.n; have hzz := hzA.z
  have HZ := Lib.hid hzA
  clear hzA
  go_enter Tryd.func9, Tryd.ntmps9
  go_wp2_with fail
  refine (FN.out _).mono ?_
  clear FN
  rintro e w2 ⟨bs, rfl, hbA, k2⟩
  have hbn := hbA.n; have hbz := hbA.z
  obtain ⟨ps, hpA, hpl⟩ := pe_built g B bs hbA
  have hpn := hpA.n; have hpz := hpA.z; have hpi := hpA.i
  have HP := Lib.hid hpA; have HBu := Lib.hid hpl
  clear hpl
  have HK2 : Hid (Keep w w2) := Lib.hid (keep_trans (keep_new w _) k2)
  have HR2 : Hid (Blk w2 w.heap.size 31 zs.toList) := Lib.hid ((Blk.new w 31 zs.toList).keep k2)
  clear k2 hbA hpA
  obtain ⟨w8, hst8, hb8, hg8⟩ := run_store_blk (P := Tryd.prog) ps.toList HR2.out (by rw [Array.length_toList, Array.length_toList, hzz, hpz]) HP.out.o
  have Hb8 := Lib.hid hb8; have Hg8 := Lib.hid hg8
  clear hb8 hg8
  go_wp2_with ((with_reducible refine list_bldg [(6, .agg bs)] ps (Eq.trans ?_ rfl) HBu.out (Eq.trans ?_ rfl) ?_); rfl; rfl)
  exact bodyPost_ret (v := .agg ps) (results_cell_row Tryd.results9 _ _ w.heap.size _ _ _ _ rfl Hb8.out Tryd.underlying31 rfl (by rw [List.size_toArray, Array.length_toList]; exact hpi)) rfl ⟨ps, rfl, HP.out, HK2.out.grown Hg8.out HK2.out.size (fun q hq => by injection hq with hq; omega)⟩

set_option maxRecDepth 100000 in
set_option maxHeartbeats 4000000 in
theorem banned_any (p : PeR) (cs : Array Value) (hA : PeA p cs) (w : World) : Calls Tryd.prog 27 #[.agg cs] w fun e w' => ∃ ds, e = .returned (.agg ds) ∧ PeA p.ban ds ∧ Keep w w' := by
  obtain ⟨zs, hz0, hzA⟩ := zpeer_letter
  have hzn := hzA.n; have hzz := hzA.z
  have hcn := hA.n; have hcz := hA.z; have hci := hA.i
  have HA := Lib.hid hA; have HZ := Lib.hid hzA
  clear hzA hA
  go_enter Tryd.func27, Tryd.ntmps27
  go_upto_region 1 with fail
  obtain ⟨w1, hw1⟩ : ∃ w1, w1 = (w.alloc (.cells cs 31)).alloc (.cells zs 31) := ⟨_, rfl⟩
  have HB1 : Hid (Blk w1 w.heap.size 31 p.cells) := by rw [hw1, ← HA.out.l]; exact (Blk.new w _ cs.toList).alloc _
  have HR1 : Hid (Blk w1 (w.heap.size + 1) 31 zs.toList) := by
    rw [hw1]
    have h2 := Blk.new (w.alloc (.cells cs 31)) 31 zs.toList
    rw [World.size_alloc] at h2
    exact h2
  have HK1 : Hid (Keep w w1) := by rw [hw1]; exact keep_trans (keep_new _ _) (keep_new _ _)
  rw [← hw1]
  clear hw1
  have r0 : w1.cell? ⟨w.heap.size, 0, none⟩ = some (iv p.stage) := (HB1.out.cell 0).trans rfl
  have r3 : w1.cell? ⟨w.heap.size, 3, none⟩ = some (.bool p.asked) := (HB1.out.cell 3).trans rfl
  have r8 : w1.cell? ⟨w.heap.size, 8, none⟩ = some (.slice p.rA p.rs.length p.rc) := (HB1.out.cell 8).trans rfl
  have f0 := HB1.out.frozen 0; have f3 := HB1.out.frozen 3; have f8 := HB1.out.frozen 8
  go_upto_region 4 with fail
  obtain ⟨wx, hwx⟩ : ∃ wx, wx = (((w1.setCell ⟨w.heap.size, 0, none⟩ (.int .i64 3)).setCell ⟨w.heap.size, 3, none⟩ (.bool false)).setCell ⟨w.heap.size, 8, none⟩ (.slice none 0 0)) := ⟨_, rfl⟩
  have HX : Blk wx w.heap.size 31 p.ban.cells := by
    rw [hwx]
    exact (((HB1.out.set_ 0 (.int .i64 3)).set_ 3 (.bool false)).set_ 8 (.slice none 0 0))
  have HRX : Hid (Blk wx (w.heap.size + 1) 31 zs.toList) := by rw [hwx]; exact Lib.hid (((HR1.out.far (by simp <;> omega) _).far (by simp <;> omega) _).far (by simp <;> omega) _)
  have HKX : Hid (Keep w wx) := by rw [hwx]; exact Lib.hid (Below.setCell (Below.setCell (Below.setCell HK1.out (by simp <;> omega) _) (by simp <;> omega) _) (by simp <;> omega) _)
  rw [← hwx]
  clear hwx r0 f0 r3 f3 r8 f8
  obtain ⟨ds, hds⟩ : ∃ ds, PeA p.ban ds := ⟨_, PeA.of _⟩
  have hdz := hds.z; have hdn := hds.n; have hdi := hds.i
  have HDS := Lib.hid hds
  have HBx : Hid (Blk wx w.heap.size 31 ds.toList) := by rw [HDS.out.l]; exact HX
  obtain ⟨w8, hst8, hb8, hg8⟩ := run_store_blk (P := Tryd.prog) ds.toList HRX.out (by rw [Array.length_toList, Array.length_toList, hdz, hzz]) HDS.out.o
  have Hb8 := Lib.hid hb8; have Hg8 := Lib.hid hg8
  clear hds hb8 hg8 HX HRX HB1 HR1
  go_wp2_with ((with_reducible refine load_arr w.heap.size ds (Eq.trans ?_ rfl) HBx.out _ Tryd.underlying31 rfl hdi ?_); rfl)
  have hb8 := Hb8.out
  exact bodyPost_ret (v := .agg ds) (results_cell_row Tryd.results27 _ _ (w.heap.size + 1) _ _ _ _ rfl hb8 Tryd.underlying31 rfl (by rw [List.size_toArray, Array.length_toList]; exact hdi)) rfl ⟨ds, rfl, HDS.out, HKX.out.grown Hg8.out HKX.out.size (fun q hq => by injection hq with hq; omega)⟩
end Go.Proofs.YtffpanlpbdnafaaDoor

/- Arguments opened to lists, and the last step of a law: it answers true and leaves what was there. -/
set_option linter.unusedSimpArgs false
set_option linter.unusedVariables false
namespace Go.Proofs.YtffpanlpbdnafaaDoor
open Go.RowKit Go.ChangeShapes Go.WideShapes Go.Deep

theorem addr_plain {w : World} {a : Addr} {v : Value} (h : w.cell? a = some v) : a = ⟨a.block, a.off, none⟩ := by
  obtain ⟨b, o, s⟩ := a
  cases s with
  | none => rfl
  | some x => unfold World.cell? at h; split at h <;> simp at h

theorem Rd.of_add {w : World} {a : Addr} {xs : List Value} (h : ∀ j (hj : j < xs.length), w.cell? (a.add j) = some xs[j]) : Rd w (some a) xs := by
  by_cases h0 : xs = []
  · exact .inl h0
  · have hp : 0 < xs.length := List.length_pos_iff.2 h0
    have h1 := h 0 hp
    have e : a.add 0 = a := by unfold Addr.add; simp
    rw [e] at h1
    have ha := addr_plain h1
    refine .inr ⟨a.block, a.off, by rw [← ha], fun j hj => ?_⟩
    have := h j hj
    rw [ha, add_lit0] at this
    exact this

theorem list_choose {α β : Type} {f : α → β} {p : α → Prop} : ∀ (l : List β), (∀ x ∈ l, ∃ a, x = f a ∧ p a) → ∃ ys : List α, l = ys.map f ∧ ∀ a ∈ ys, p a
  | [], _ => ⟨[], rfl, by simp⟩
  | x :: l, h => by
    obtain ⟨a, rfl, ha⟩ := h x (by simp)
    obtain ⟨ys, rfl, hys⟩ := list_choose l fun y hy => h y (by simp [hy])
    exact ⟨a :: ys, rfl, by simpa using ⟨ha, hys⟩⟩

section
variable {H : Type} {enc : TypeId × Value → H} {P : Program} {w : World} {spare : Nat → Bool} {held : Bool}

theorem slice_open {t e : TypeId} {size fuel : Nat} {cs : List Value} {x : DataW H × List MemPlace} (ht : P.underlying t = some (.slice e)) (hc : P.cellsOf e = size) (hz : 0 < size)
    (h : DataW.trod enc P w 0 spare held fuel t cs = some x) :
    ∃ (A : Option Addr) (n c : Nat) (Cs : List (List Value)), cs = [.slice A n c] ∧ n ≤ c ∧ c ≤ maxLen ∧ Cs.length = n ∧ Rd w A Cs.flatten ∧
      ∀ y ∈ Cs, y.length = size ∧ ∃ m z, DataW.trod enc P w 0 spare held m e y = some z := by
  rcases open_slice ht h with ⟨rfl, _⟩ | ⟨a, len, cap, m, n, D, Pl, rfl, _, hl, hm, hmm, _, hi⟩
  · exact ⟨none, 0, 0, [], rfl, Nat.le_refl _, Nat.zero_le _, rfl, .inl rfl, by simp⟩
  · have hlm : len ≤ m := by rw [hmm]; split <;> omega
    rw [hc] at hi
    obtain ⟨V, hV⟩ := choose_lt (p := fun i (cs' : List Value) => w.cells? 0 (a.add (i * size)) size = some cs' ∧ DataW.trod enc P w 0 spare held n e cs' = some (D i, Pl i)) (n := len) fun i hi' => hi i (by omega)
    have hlen : ∀ y ∈ (List.range len).map V, y.length = size := by
      intro y hy
      obtain ⟨i, hi', rfl⟩ := List.mem_map.1 hy
      exact (World.cells?_some (hV i (List.mem_range.1 hi')).1).2.1
    refine ⟨some a, len, cap, (List.range len).map V, rfl, hl, hm, by simp, Rd.of_add fun j hj => ?_, fun y hy => ⟨hlen y hy, ?_⟩⟩
    · have hfl : ((List.range len).map V).flatten.length = len * size := by
        rw [← List.flatMap_id, flatMap_len' id size _ hlen]; simp
      have hj' : j < len * size := by rw [← hfl]; exact hj
      have hq : j / size < len := by rwa [Nat.div_lt_iff_lt_mul hz]
      have hr : j % size < size := Nat.mod_lt _ hz
      have hcell := (World.cells?_some (hV (j / size) hq).1).2.2 (j % size) hr
      have hjj : j = j / size * size + j % size := by rw [Nat.mul_comm]; exact (Nat.div_add_mod j size).symm
      have hadd : (a.add (j / size * size)).add (j % size) = a.add j := by
        rw [add_add', ← hjj]
      rw [hadd] at hcell
      rw [hcell, ← List.getElem?_eq_getElem hj, ← List.flatMap_id]
      conv => rhs; rw [hjj]
      rw [flatMap_get' id size _ hlen (j / size) (j % size) (by simpa using hq) hr]
      simp
    · obtain ⟨i, hi', rfl⟩ := List.mem_map.1 hy
      exact ⟨n, _, (hV i (List.mem_range.1 hi')).2⟩

theorem fields_open {t : TypeId} {fs : Array Field} {fuel : Nat} {cs : List Value} {x : DataW H × List MemPlace} (ht : P.underlying t = some (.struct fs)) (hone : oneCellFields P fs = true)
    (h : DataW.trod enc P w 0 spare held fuel t cs = some x) (hl : cs.length = fs.size) :
    ∀ (j : Nat) (f : Field), fs[j]? = some f → ∃ v m y, cs[j]? = some v ∧ DataW.trod enc P w 0 spare held m f.type [v] = some y := by
  obtain ⟨ys, n, _, _, _, hyl, hf⟩ := DataW.trod_struct ht h
  intro j f hj
  obtain ⟨ho, hk⟩ := hone_of hone j f hj
  have hjl : j < fs.size := (Array.getElem?_eq_some_iff.1 hj).1
  have h1 := hf j f hj
  rw [ho, hk] at h1
  have hone' : (cs.drop j).take 1 = [cs[j]'(by omega)] := by
    rw [List.drop_eq_getElem_cons (by omega)]; rfl
  rw [hone'] at h1
  have hys : ys[j]? = some (ys[j]'(by omega)) := List.getElem?_eq_getElem (by omega)
  exact ⟨_, n, _, List.getElem?_eq_getElem (by omega), h1.trans hys⟩

theorem bytes_open {t e : TypeId} {fuel : Nat} {cs : List Value} {x : DataW H × List MemPlace} (ht : P.underlying t = some (.slice e)) (he : P.underlying e = some (.int .u8)) (hc : P.cellsOf e = 1)
    (h : DataW.trod enc P w 0 spare held fuel t cs = some x) :
    ∃ (A : Option Addr) (l : List UInt8) (c : Nat), cs = [.slice A l.length c] ∧ l.length ≤ c ∧ c ≤ maxLen ∧ Rd w A (l.map u8v) := by
  obtain ⟨A, n, c, Cs, rfl, h1, h2, rfl, h3, h4⟩ := slice_open ht hc (by omega) h
  obtain ⟨l, rfl, _⟩ := list_choose (f := fun x : UInt8 => [u8v x]) (p := fun _ => True) Cs fun y hy => by
    obtain ⟨_, m, z, hz⟩ := h4 y hy
    obtain ⟨n, rfl, _, hw⟩ := DataW.trod_int he hz
    have hb : 0 ≤ n ∧ n ≤ 255 := by simpa [Lit.wf, IntKind.min, IntKind.max, IntKind.signed, IntKind.bits] using hw
    refine ⟨UInt8.ofNat n.toNat, ?_, trivial⟩
    have : ((UInt8.ofNat n.toNat).toNat : Int) = n := by
      rw [UInt8.toNat_ofNat']
      omega
    show [Value.int .u8 n] = [Value.int .u8 ((UInt8.ofNat n.toNat).toNat : Int)]
    rw [this]
  refine ⟨A, l, c, by simp, by simpa using h1, h2, ?_⟩
  have e : (l.map fun x : UInt8 => [u8v x]).flatten = l.map u8v := by rw [← List.flatMap_def, ← List.map_eq_flatMap]
  rwa [e] at h3
end

section
variable {H : Type} {enc : TypeId × Value → H} {P : Program}

theorem trodAll_below (hl : laidOutB P = true) {W W' : World} (hb : Below W.heap.size W W') : ∀ (ts : List TypeId) (vs : List Value) (ds : List (DataW H)) (ps : List MemPlace),
    (∀ t ∈ ts, P.readableRec t = true ∧ t < P.types.size) → (∀ x ∈ ps, x.block < W.heap.size) → DataW.TrodAll enc P W 0 (fun _ => true) true ts vs ds ps →
    DataW.TrodAll enc P W' 0 (fun b => decide (b < W.heap.size)) true ts vs ds ps
  | [], [], [], ps, _, _, h => h
  | t :: ts, v :: vs, d :: ds, ps, hr, hlt, h => by
    obtain ⟨p, q, h1, h2, rfl⟩ := h
    exact ⟨p, q, Below.trod hl (hr t (by simp)).1 (hr t (by simp)).2 h1 hb fun x hx => hlt x (by simp [hx]),
      trodAll_below hl hb ts vs ds q (fun t ht => hr t (by simp [ht])) (fun x hx => hlt x (by simp [hx])) h2, rfl⟩
  | [], _ :: _, _, _, _, _, h => by cases h
  | [], [], _ :: _, _, _, _, h => by cases h
  | _ :: _, [], _, _, _, _, h => by cases h
  | _ :: _, _ :: _, [], _, _, _, h => by cases h

/-- A law's last step. -/
theorem law_post {f : Func} {s : ChangeSpec} {apart fresh handsOn : Bool} {W W' : World} {args : Array Value} {ds gs : List (DataW H)} {before : List MemPlace} {tb : TypeId}
    (hW : DataW.Whole enc P f.params.toList s.vars apart W args.toList ds gs before) (hv : s.vars = []) (hl : laidOutB P = true)
    (hrB : (f.params.toList.all fun t => P.readableRec t && decide (t < P.types.size)) = true) (hres : f.resultTypes = #[tb]) (htb : P.underlying tb = some .bool)
    (hs : s.fn H ds = { results := [.lit (.bool true)], args := ds }) (hb : Below W.heap.size W W') :
    s.post enc P f apart fresh handsOn false W args (.bool true) W' := by
  have hr : ∀ t ∈ f.params.toList, P.readableRec t = true ∧ t < P.types.size := fun t ht => by
    have := List.all_eq_true.1 hrB t ht
    simpa using this
  have hW' := hW
  obtain ⟨p, q, hA, hV, rfl, hfz, hnd⟩ := hW
  rw [hv] at hV
  obtain ⟨rfl, rfl⟩ := trodVars_none hV
  simp only [List.append_nil] at hW'
  have hlt : ∀ x ∈ p, x.block < W.heap.size := fun x hx => hW'.lt x (by simpa using hx)
  refine ⟨ds, [], p, [], p, [], by simpa using hW', ?_, ?_, ?_, hb.frame _, fun h => by cases h⟩
  · rw [List.append_nil, hs, hres]
    exact trodAll_mk1 (shut_bool htb true)
  · rw [List.append_nil, hs]
    exact trodAll_below hl hb _ _ _ _ hr hlt hA
  · rw [List.append_nil, hs, hv]
    exact rfl
end
end Go.Proofs.YtffpanlpbdnafaaDoor

/- bytes.TrimRight of the byte 0; frame.Command (printed by gen_qj.py) -/
set_option linter.unusedSimpArgs false
set_option linter.unusedVariables false
namespace Go.Proofs.YtffpanlpbdnafaaDoor
open Go.RowKit
attribute [local go_sem ↓] Go.wp_at_zero Go.wp_at_succ
/-- How much is left behind the zeros at the end. -/
def trimN (l : List UInt8) : Nat → Nat
  | 0 => 0
  | n + 1 => if l[n]? = some 0 then trimN l n else n + 1
theorem trimN_le (l : List UInt8) : ∀ n, trimN l n ≤ n
  | 0 => Nat.le_refl _
  | n + 1 => by unfold trimN; split; exact Nat.le_succ_of_le (trimN_le l n); exact Nat.le_refl _
def lenOf : Value → Nat
  | .slice _ n _ => n
  | _ => 0
set_option maxRecDepth 100000 in
set_option maxHeartbeats 4000000 in
theorem trimb_any (A : Option Addr) (l : List UInt8) (N c : Nat) (w : World) (hN : l.length = N) (hc : N ≤ c ∧ c ≤ 9223372036854775807) (hr : Rd w A (l.map u8v)) :
    Calls Tryd.prog 58 #[.slice A N c, .int .u8 0] w fun e w' => e = .returned (.slice A (trimN l N) c) ∧ Keep w w' := by
  have ROW : Hid (∀ k (h : k < N), ∃ b off x, A = some ⟨b, off, none⟩ ∧ b < w.heap.size ∧ w.cell? ⟨b, off + k, none⟩ = some (u8v x) ∧ l[k]? = some x) := Lib.hid fun k h => by
    obtain ⟨b, off, rfl, hb, hcell⟩ := hr.at (k := k) (by simp [hN]; exact h)
    exact ⟨b, off, l[k], rfl, hb, by have q := hcell k (by simp [hN]; exact h); simpa using q, List.getElem?_eq_getElem (by omega)⟩
  have HK : Hid (Keep w w) := Lib.hid (Below.refl _ _)
  have hc1 := hc.1; have hc2 := hc.2
  clear hr hN hc
  go_enter Tryd.func58, Tryd.ntmps58
  go_wp2_with fail
  go_loopw [0] (fun s wr => ∃ n : Nat, n ≤ N ∧ s = .slice A n c ∧ Hid (trimN l n = trimN l N) ∧ Hid (Keep w wr)) (fun s _ => lenOf s)
  case atStart => exact ⟨N, Nat.le_refl _, rfl, Lib.hid rfl, HK⟩
  case round =>
    obtain ⟨n, hn, rfl, HT, HKr⟩ := hrel
    clear HK
    cases n with
    | zero =>
      have d0 : ¬ (0 : Int) < 0 := by omega
      clear ROW
      go_wp2
      exact bodyPost_ret (v := .slice A 0 c) (by simp [results, Tryd.results58]) rfl ⟨by rw [← HT.out]; rfl, HKr.out⟩
    | succ m =>
      obtain ⟨b, off, x, rfl, hb, hx, hlx⟩ := ROW.out m (by omega)
      have rx := keep_cell HKr.out hx
      have HLX := Lib.hid hlx
      have d0 : (0 : Int) < (m : Int) + 1 := by omega
      have d1 : m < m + 1 := by omega
      have d2 : m + 1 ≤ c := by omega
      clear hx hlx ROW
      by_cases h0 : x = 0
      · have e0 : (u8v x) = .int .u8 0 := by rw [h0]; rfl
        rw [e0] at rx
        have HT2 : Hid (trimN l m = trimN l N) := Lib.hid (by rw [← HT.out, trimN, if_pos (by rw [HLX.out, h0])])
        clear e0 HLX HT h0
        go_wp2
        go_roundw
        case rel => exact ⟨m, by omega, rfl, HT2, HKr⟩
        case measure => simp [lenOf]
      · have e1 : (x == 0) = false := by rw [beq_eq_false_iff_ne]; exact h0
        have e2 : ¬ (x.toNat : Int) = 0 := fun q => h0 (UInt8.toNat_inj.1 (by show x.toNat = 0; omega))
        have e3 : ((x.toNat : Int) == 0) = false := by rw [beq_eq_false_iff_ne]; exact e2
        have HT2 : Hid (m + 1 = trimN l N) := Lib.hid (by rw [← HT.out, trimN, if_neg (by rw [HLX.out]; simpa using h0)])
        clear HLX HT h0
        go_wp2
        exact bodyPost_ret (v := .slice (some ⟨b, off, none⟩) (m + 1) c) (by simp [results, Tryd.results58]) rfl ⟨by rw [← HT2.out], HKr.out⟩
theorem zstr : (str [0] : ByteArray) = ⟨#[0]⟩ := rfl
set_option maxRecDepth 100000 in
set_option maxHeartbeats 4000000 in
theorem trim_any (A : Option Addr) (l : List UInt8) (N c : Nat) (w : World) (hN : l.length = N) (h0 : 0 < N) (hc : N ≤ c ∧ c ≤ 9223372036854775807) (hr : Rd w A (l.map u8v)) :
    Calls Tryd.prog 40 #[.slice A N c, .string ⟨#[0]⟩] w fun e w' => e = .returned (.slice A (trimN l N) c) ∧ Keep w w' := by
  have TB : Hid (Calls Tryd.prog 58 #[.slice A N c, .int .u8 0] w fun e w' => e = .returned (.slice A (trimN l N) c) ∧ Keep w w') := Lib.hid (trimb_any A l N c w hN hc hr)
  have d0 : ((N : Int) == 0) = false := by rw [beq_eq_false_iff_ne]; omega
  have d1 : ¬ (N : Int) = 0 := by omega
  have d2 : ¬ N = 0 := by omega
  generalize trimN l N = R at *
  clear hr hc hN h0
  go_enter Tryd.func40, Tryd.ntmps40
  go_wp2_with (go_at_call 58; refine TB.out.mono ?_; rintro e w1 ⟨rfl, k1⟩; have K1 := Lib.hid k1; clear k1)
  exact bodyPost_ret (v := .slice A R c) (by simp [results, Tryd.results40]) rfl ⟨rfl, K1.out⟩
/-- May a command be? -/
def cmdB (l : List UInt8) : Bool := decide (1 ≤ l.length) && decide (l.length ≤ 12) && l.all fun x : UInt8 => decide (33 ≤ x.toNat) && decide (x.toNat ≤ 126)
theorem cmd_all {l : List UInt8} (h : l.all (fun x : UInt8 => decide (33 ≤ x.toNat) && decide (x.toNat ≤ 126)) = false) : ∃ (k : Nat) (x : UInt8), l[k]? = some x ∧ ¬ (33 ≤ x.toNat ∧ x.toNat ≤ 126) ∧ ∀ (j : Nat) (y : UInt8), j < k → l[j]? = some y → 33 ≤ y.toNat ∧ y.toNat ≤ 126 := by
  induction l with
  | nil => cases h
  | cons x l ih =>
    by_cases hx : 33 ≤ x.toNat ∧ x.toNat ≤ 126
    · have h2 : l.all (fun x : UInt8 => decide (33 ≤ x.toNat) && decide (x.toNat ≤ 126)) = false := by simpa [List.all_cons, hx] using h
      obtain ⟨k, y, h3, h4, h5⟩ := ih h2
      refine ⟨k + 1, y, h3, h4, fun j z hj hz => ?_⟩
      cases j with
      | zero => obtain rfl := Option.some.inj hz; exact hx
      | succ j => exact h5 j z (by omega) hz
    · exact ⟨0, x, rfl, hx, fun j y hj => by omega⟩
theorem str_size (l : List UInt8) : (str l).size = l.length := rfl
theorem str_idx (l : List UInt8) (k : Nat) (x : UInt8) (h : l[k]? = some x) (w : World) : (Instr.index 9 (.string (str l)) (.int .i64 (k : Int))).run Tryd.prog w = .ok (u8v x) w := by
  have hk : k < l.length := (List.getElem?_eq_some_iff.1 h).1
  rw [run_index_string w 9 (str l) .i64 (k : Int) Tryd.underlying9, dif_pos ⟨by omega, by rw [str_size]; omega⟩]
  have e : (str l)[k]'(by rw [str_size]; exact hk) = x := by
    have e1 : (str l)[k]'(by rw [str_size]; exact hk) = l[k] := rfl
    rw [e1]; exact (List.getElem?_eq_some_iff.1 h).2
  simp only [Int.toNat_natCast]
  rw [e]
set_option maxRecDepth 100000 in
set_option maxHeartbeats 4000000 in
theorem command_any (l : List UInt8) (w : World) :
    Calls Tryd.prog 41 #[.string (str l)] w fun e w' => e = .returned (.bool (cmdB l)) ∧ Keep w w' := by
  have HK : Hid (Keep w w) := Lib.hid (Below.refl _ _)
  have HZ : Hid ((str l).size = l.length) := Lib.hid (str_size l)
  have HB : Hid (cmdB l = (decide (1 ≤ l.length) && decide (l.length ≤ 12) && l.all fun x : UInt8 => decide (33 ≤ x.toNat) && decide (x.toNat ≤ 126))) := Lib.hid rfl
  generalize cmdB l = R at *
  by_cases h1 : 1 ≤ l.length ∧ l.length ≤ 12
  · have d0 : ¬ ((str l).size : Int) < 1 := by rw [str_size]; omega
    have d1 : ¬ (12 : Int) < (str l).size := by rw [str_size]; omega
    have d2 : ¬ (str l).size < 1 := by rw [str_size]; omega
    have d3 : ¬ 12 < (str l).size := by rw [str_size]; omega
    have d4 : ¬ (str l).size = 0 := by rw [str_size]; omega
    have HR : Hid (R = l.all fun x : UInt8 => decide (33 ≤ x.toNat) && decide (x.toNat ≤ 126)) := Lib.hid (by rw [HB.out]; simp [h1])
    obtain ⟨N, hN⟩ : ∃ N, N = (str l).size := ⟨_, rfl⟩
    have HN := Lib.hid hN
    have ROW : Hid (∀ k, k < N → ∃ x : UInt8, l[k]? = some x ∧ ∀ y, (Instr.index 9 (.string (str l)) (.int .i64 (k : Int))).run Tryd.prog y = .ok (u8v x) y) := Lib.hid fun k hk => by
      have hk2 : k < l.length := by rw [hN, str_size] at hk; exact hk
      exact ⟨l[k], List.getElem?_eq_getElem hk2, str_idx l k _ (List.getElem?_eq_getElem hk2)⟩
    have BAD : Hid (∀ (k : Nat) (x : UInt8), l[k]? = some x → ¬ (33 ≤ x.toNat ∧ x.toNat ≤ 126) → R = false) := Lib.hid fun k x hx hb => by
      rw [HR.out, List.all_eq_false]
      exact ⟨x, List.mem_of_getElem? hx, by simpa using hb⟩
    have GOOD : Hid ((∀ (k : Nat) (x : UInt8), k < N → l[k]? = some x → 33 ≤ x.toNat ∧ x.toNat ≤ 126) → R = true) := Lib.hid fun h => by
      rw [HR.out, List.all_eq_true]
      intro x hx
      obtain ⟨k, hk⟩ := List.getElem?_of_mem hx
      have hkN : k < N := by rw [hN, str_size]; exact (List.getElem?_eq_some_iff.1 hk).1
      simpa using h k x hkN hk
    clear h1 HB HR hN
    go_enter Tryd.func41, Tryd.ntmps41
    go_wp2_with fail
    go_loopw [14] (fun i wr => ∃ k : Nat, k ≤ N ∧ i = .int .i64 k ∧ Hid (∀ (j : Nat) (x : UInt8), j < k → l[j]? = some x → 33 ≤ x.toNat ∧ x.toNat ≤ 126) ∧ Hid (Keep w wr)) (fun i _ => N - (intOf i).toNat)
    case atStart => exact ⟨0, Nat.zero_le _, rfl, Lib.hid (fun j x h => absurd h (Nat.not_lt_zero _)), HK⟩
    case round =>
      obtain ⟨k, hk, rfl, HP, HKr⟩ := hrel
      clear HK
      by_cases hlt : k < N
      · obtain ⟨x, hx, hi⟩ := ROW.out k hlt
        have HX := Lib.hid hx
        have l1 : (k : Int) < (str l).size := by rw [← HN.out]; omega
        have l2 : k < (str l).size := by rw [← HN.out]; exact hlt
        clear ROW hx
        by_cases hg : 33 ≤ x.toNat ∧ x.toNat ≤ 126
        · have g1 : ¬ (x.toNat : Int) < 33 := by omega
          have g2 : ¬ (126 : Int) < x.toNat := by omega
          have g3 : ¬ x.toNat < 33 := by omega
          have g4 : ¬ 126 < x.toNat := by omega
          have HP2 : Hid (∀ (j : Nat) (y : UInt8), j < k + 1 → l[j]? = some y → 33 ≤ y.toNat ∧ y.toNat ≤ 126) := Lib.hid fun j y hj hy => by
            by_cases e : j < k
            · exact HP.out j y e hy
            · obtain rfl : j = k := by omega
              rw [HX.out] at hy
              obtain rfl := Option.some.inj hy
              exact hg
          clear hg HP HX BAD GOOD
          go_wp2
          go_roundw
          case rel => exact ⟨k + 1, by omega, by go_num, HP2, HKr⟩
          case measure => simp [intOf]; omega
        · have hR : R = false := BAD.out k x HX.out hg
          subst hR
          clear BAD GOOD HP HX
          by_cases g : x.toNat < 33
          · have g1 : (x.toNat : Int) < 33 := by omega
            clear hg
            go_wp2
            exact bodyPost_ret (v := .bool false) (by simp [results, Tryd.results41]) rfl ⟨rfl, HKr.out⟩
          · have g1 : ¬ (x.toNat : Int) < 33 := by omega
            have g2 : (126 : Int) < x.toNat := by omega
            have g4 : 126 < x.toNat := by omega
            clear hg
            go_wp2
            exact bodyPost_ret (v := .bool false) (by simp [results, Tryd.results41]) rfl ⟨rfl, HKr.out⟩
      · have l1 : ¬ (k : Int) < (str l).size := by rw [← HN.out]; omega
        have l2 : ¬ k < (str l).size := by rw [← HN.out]; exact hlt
        have hR : R = true := GOOD.out fun j y hj hy => HP.out j y (by omega) hy
        subst hR
        clear ROW BAD GOOD HP
        go_wp2
        exact bodyPost_ret (v := .bool true) (by simp [results, Tryd.results41]) rfl ⟨rfl, HKr.out⟩
  · have hR : R = false := by
      rw [HB.out]
      by_cases h2 : 1 ≤ l.length
      · have h3 : ¬ l.length ≤ 12 := fun q => h1 ⟨h2, q⟩
        simp [h3]
      · simp [h2]
    subst hR
    clear HB
    by_cases h2 : 1 ≤ l.length
    · have d0 : ¬ ((str l).size : Int) < 1 := by rw [str_size]; omega
      have d1 : (12 : Int) < (str l).size := by rw [str_size]; omega
      have d2 : ¬ (str l).size < 1 := by rw [str_size]; omega
      have d3 : 12 < (str l).size := by rw [str_size]; omega
      have d4 : ¬ (str l).size = 0 := by rw [str_size]; omega
      clear h1 h2
      go_enter Tryd.func41, Tryd.ntmps41
      go_wp2
      exact bodyPost_ret (v := .bool false) (by simp [results, Tryd.results41]) rfl ⟨rfl, HK.out⟩
    · have d0 : ((str l).size : Int) < 1 := by rw [str_size]; omega
      have d2 : (str l).size < 1 := by rw [str_size]; omega
      have d4 : (str l).size = 0 := by rw [str_size]; omega
      clear h1 h2
      go_enter Tryd.func41, Tryd.ntmps41
      go_wp2
      exact bodyPost_ret (v := .bool false) (by simp [results, Tryd.results41]) rfl ⟨rfl, HK.out⟩
end Go.Proofs.YtffpanlpbdnafaaDoor
