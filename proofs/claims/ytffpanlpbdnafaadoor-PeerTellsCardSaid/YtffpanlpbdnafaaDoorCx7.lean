/- Texts merged by pack.py: Il, In, Io, Ip, Rgf, Qa, Arg, Qj. -/
import Derived.Test.YtffpanlpbdnafaaDoorCx6
import Derived.Test.YtffpanlpbdnafaaDoorCx2
import Derived.Deep.CutBlock
import Derived.Test.YtffpanlpbdnafaaDoorCx5
import Derived.Test.YtffpanlpbdnafaaDoorCx3
import Derived.Test.YtffpanlpbdnafaaDoorCx1
import Derived.ProofKit
import Derived.Deep.Slices
import Derived.Deep.Fields
/- wire.message. (printed by gen_il.py) -/
set_option linter.unusedSimpArgs false
set_option linter.unusedVariables false
namespace Go.Proofs.YtffpanlpbdnafaaDoor
open Go.RowKit
attribute [local go_sem ↓] Go.wp_at_zero Go.wp_at_succ
theorem hsh_field (A : Option Addr) (n c most : Nat) (y : World) : (Instr.field 143 (.agg #[.slice A n c, u64v most]) 0).run Tryd.prog y = .ok (.slice A n c) y := by kernel_rfl
theorem msg_built (k : Int) : Tryd.prog.built 50 [(0, .int .i64 k)] = some (msgZ k).cells.toArray := by kernel_rfl
namespace MsgR
theorem set38s {m : MsgR} (h : m.ok) (A : Option Addr) (l : List Itm) (c : Nat) : m.cells.set 38 (.slice A l.length c) = cells { m with iA := A, is := l, ic := c } := by
  unfold cells
  rw [List.set_append_right _ _ (by simp), List.set_append_right _ _ (by simp [h.s])]
  simp [h.s, blk]
theorem set_txs {m : MsgR} (h : m.ok) (t : TxR) : (((m.cells.set 110 (u32v t.ver)).set 111 (.slice t.iA t.ins.length t.ic)).set 112 (.slice t.oA t.outs.length t.oc)).set 113 (u32v t.lock) = cells { m with t := t } := by
  rw [cells110, setp m h _ 0, setp m h _ 1, setp m h _ 2, setp m h _ 3, cells110]; rfl
theorem len2 {m : MsgR} (hs : m.stop.length = 32) (hb : m.bh.ok) : m.cells.length = 114 := by
  unfold cells; simp [hs, blk_len hb, TxR.cells]
theorem set_blk {m : MsgR} (hs : m.stop.length = 32) (hb : m.bh.ok) (k : Nat) (v : Value) (hk : k < 71) : m.cells.set (k + 39) v = m.hd39 ++ (m.blk.set k v ++ m.t.cells) := by
  rw [cells39, List.set_append_right _ _ (by rw [hd39_len hs]; omega), hd39_len hs, show k + 39 - 39 = k by omega, List.set_append_left _ _ (by rw [blk_len hb]; omega)]
theorem set107 {m : MsgR} (hs : m.stop.length = 32) (hb : m.bh.ok) (x : UInt32) : m.cells.set 107 (u32v x) = cells { m with total := x } := by
  rw [show (107 : Nat) = 68 + 39 from rfl, set_blk hs hb _ _ (by omega), cells39]
  unfold blk
  rw [List.set_append_right _ _ (by rw [Hd.len hb]; omega), Hd.len hb]; rfl
theorem set108 {m : MsgR} (hs : m.stop.length = 32) (hb : m.bh.ok) (A : Option Addr) (l : List (List UInt8)) (c : Nat) : m.cells.set 108 (.slice A l.length c) = cells { m with sA := A, shs := l, sc := c } := by
  rw [show (108 : Nat) = 69 + 39 from rfl, set_blk hs hb _ _ (by omega), cells39]
  unfold blk
  rw [List.set_append_right _ _ (by rw [Hd.len hb]; omega), Hd.len hb]; rfl
theorem set109 {m : MsgR} (hs : m.stop.length = 32) (hb : m.bh.ok) (A : Option Addr) (l : List UInt8) (c : Nat) : m.cells.set 109 (.slice A l.length c) = cells { m with fA := A, fs := l, fc := c } := by
  rw [show (109 : Nat) = 70 + 39 from rfl, set_blk hs hb _ _ (by omega), cells39]
  unfold blk
  rw [List.set_append_right _ _ (by rw [Hd.len hb]; omega), Hd.len hb]; rfl
theorem splice_stop2 {m : MsgR} (hs : m.stop.length = 32) {l : List UInt8} (hl : l.length = 32) : splice m.cells 6 (l.map u8v) = cells { m with stop := l } := by
  rw [cells6, splice3 (show m.hd6.length = 6 from rfl) (by rw [List.length_map, List.length_map, hs, hl])]; rfl
theorem splice_bh {m : MsgR} (hs : m.stop.length = 32) (hb : m.bh.ok) {x : Hd} (hx : x.ok) : splice m.cells 39 x.cells = cells { m with bh := x } := by
  have e : m.cells = m.hd39 ++ (m.bh.cells ++ ([u32v m.total, .slice m.sA m.shs.length m.sc, .slice m.fA m.fs.length m.fc] ++ m.t.cells)) := by rw [cells39]; unfold blk; rw [List.append_assoc]
  rw [e, splice3 (hd39_len hs) (by rw [Hd.len hx, Hd.len hb]), cells39]
  unfold blk
  rw [List.append_assoc]; rfl
end MsgR
set_option maxRecDepth 100000 in
set_option maxHeartbeats 4000000 in
theorem message_0 (p : UInt32) (n : Nat) (h : UInt32) (A : Option Addr) (c : Nat) (w : World) (hM : MsgR.ok { msgZ 0 with proto := p, nonce := n, height := h }) (hr : Rd w A (([.u32 p, .u64 n, .u32 h] : List PV).map PV.val)) :
    Calls Tryd.prog 57 #[.int .i64 0, .slice A 3 c] w fun e w' => ∃ ds, e = .returned (.agg ds) ∧ MsA { msgZ 0 with proto := p, nonce := n, height := h } ds ∧ Keep w w' := by
  obtain ⟨ys, hyz, hyA⟩ := zmsg_letter
  obtain ⟨ks, hks⟩ : ∃ ks : Array Value, ks = (msgZ 0).cells.toArray := ⟨_, rfl⟩
  have hkA : MsA (msgZ 0) ks := by rw [hks]; exact MsA.of (msgZ_ok _ (by omega))
  have HBu : Hid (Tryd.prog.built 50 [(0, .int .i64 0)] = some ks) := Lib.hid (by rw [hks]; exact msg_built _)
  clear hks
  have hyn := hyA.n; have hkn := hkA.n; have hkz := hkA.z; have hyzz := hyA.z
  have HY := Lib.hid hyA; have HKS := Lib.hid hkA
  have HMO := Lib.hid hM
  have HZO := Lib.hid (msgZ_ok 0 (by omega))
  have HS : Hid ((msgZ 0).stop.length = 32) := Lib.hid rfl
  have HB : Hid ((msgZ 0).bh.ok) := Lib.hid ⟨rfl, rfl⟩
  have hst : (storeCells ⟨w.heap.size + 1, 0, none⟩ ks.toList 0).run Tryd.prog ((w.alloc (.cells ys 50)).alloc (.cells ys 50)) = .ok () ((w.alloc (.cells ys 50)).alloc (.cells ks 50)) := by
    have q := run_storeCells_new (P := Tryd.prog) (w.alloc (.cells ys 50)) 50 ys ks HKS.out.i (hyA.z.trans hkA.z.symm) (by have := all_oneCell_toArray HKS.out.o; simpa using this)
    rw [World.size_alloc] at q
    exact q
  clear hyA hkA hM hyzz
  generalize hMM : { msgZ 0 with proto := p, nonce := n, height := h } = M at *
  have HMM := Lib.hid hMM
  clear hMM
  obtain ⟨g, off, rfl, hgb, hcell⟩ := hr.at (k := 0) (by simp)
  have c0 : w.cell? ⟨g, off, none⟩ = some (.iface 22 (u32v p)) := hcell 0 (by simp)
  have c1 : w.cell? ⟨g, off + 1, none⟩ = some (.iface 25 (u64v n)) := hcell 1 (by simp)
  have c2 : w.cell? ⟨g, off + 2, none⟩ = some (.iface 22 (u32v h)) := hcell 2 (by simp)
  clear hr hcell
  have Y0 : ∀ y, (Instr.typeAssert (.iface 22 (u32v p)) 20 22 false).run Tryd.prog y = .ok (u32v p) y := run_assert_must Tryd.underlying22 rfl _ _
  have Y1 : ∀ y, (Instr.typeAssert (.iface 25 (u64v n)) 20 25 false).run Tryd.prog y = .ok (u64v n) y := run_assert_must Tryd.underlying25 rfl _ _
  have Y2 : ∀ y, (Instr.typeAssert (.iface 22 (u32v h)) 20 22 false).run Tryd.prog y = .ok (u32v h) y := run_assert_must Tryd.underlying22 rfl _ _
  go_enter Tryd.func57, Tryd.ntmps57
  go_upto_region 2 with ((with_reducible refine list_bldg [(0, .int .i64 0)] ks (Eq.trans ?_ rfl) HBu.out (Eq.trans ?_ rfl) ?_); rfl; rfl)
  obtain ⟨w1, hw1⟩ : ∃ w1, w1 = (w.alloc (.cells ys 50)).alloc (.cells ks 50) := ⟨_, rfl⟩
  have HR1 : Hid (Blk w1 w.heap.size 50 ys.toList) := by rw [hw1]; exact Lib.hid ((Blk.new w _ ys.toList).alloc _)
  have HX1 : Hid (Blk w1 (w.heap.size + 1) 50 (msgZ 0).cells) := by
    rw [hw1, ← HKS.out.l]
    have h2 := Blk.new (w.alloc (.cells ys 50)) 50 ks.toList
    rw [World.size_alloc] at h2
    exact Lib.hid h2
  have HK1 : Hid (Keep w w1) := by rw [hw1]; exact Lib.hid (keep_trans (keep_new _ _) (keep_new _ _))
  rw [← hw1]
  clear hw1 hst
  replace c0 := keep_cell HK1.out c0
  replace c1 := keep_cell HK1.out c1
  replace c2 := keep_cell HK1.out c2
  go_upto_region 4 with fail
  letI iM : G.Mk := ⟨some (w.heap.size + 1)⟩
  refine G.wp_region_tree (.take [0,1,2,3,4,5,6,7,8,9,10,11,12] (.force [13] (.take [14] (.force [15] (.take [16] (.force [17] .done)))))) [] (by kernel_rfl) (by kernel_rfl) (fun wa1 ka => ?_)
  have hneG : G.Mk.m ≠ some g := fun q => by have e : w.heap.size + 1 = g := Option.some.inj q; omega
  have HXa := Lib.hid (HX1.out.keep ka); have HRa := Lib.hid (HR1.out.keep ka); have HKa := Lib.hid (keep_trans HK1.out ka)
  replace c0 := keep_cell ka c0
  have b0 := G.aftG_cell c0 hneG
  replace c1 := keep_cell ka c1
  have b1 := G.aftG_cell c1 hneG
  replace c2 := keep_cell ka c2
  have b2 := G.aftG_cell c2 hneG
  clear ka HX1 HR1 HK1
  refine G.mt_take wa1 (G.Gr.refl _) ?_
  simp only [pick_cons, pick_nil, nth_zero, nth_succ]
  repeat (go_big_quiet_step (fail))
  refine wpQuiet_nil (G.mt_force ?_)
  clear b0 b1 b2 hneG
  simp only [pick_cons, pick_nil, nth_zero, nth_succ]
  refine G.fc_step rfl (fun K hK => ?_)
  have z0 : ∃ v, wa1.cell? ⟨w.heap.size + 1, 1, none⟩ = some v := ⟨_, (HXa.out.cell 1).trans (List.getElem?_eq_getElem (by rw [MsgR.len2 (m := (msgZ 0)) HS.out HB.out]; omega))⟩
  obtain ⟨v0, z0⟩ := z0
  have y0 := HXa.out.frozen 1
  go_simp
  refine hK _ _ (show G.Gr wa1 _ from grown_set (grown_refl wa1 _)) ?_
  clear hK K z0 y0
  obtain ⟨wb10, hwb⟩ : ∃ wb, wb = wa1.setCell ⟨w.heap.size + 1, 1, none⟩ (u32v p) := ⟨_, rfl⟩
  have HXb10 : Hid (Blk wb10 (w.heap.size + 1) 50 (MsgR.cells { msgZ 0 with proto := p })) := by
    rw [hwb]
    have q := HXa.out.set_ 1 (u32v p)
    exact Lib.hid q
  have HRb10 : Hid (Blk wb10 w.heap.size 50 ys.toList) := by rw [hwb]; exact Lib.hid (HRa.out.far (by simp) _)
  have HKb10 : Hid (Keep w wb10) := by rw [hwb]; exact Lib.hid (Below.setCell HKa.out (by simp) _)
  rw [← hwb]
  clear hwb HXa HRa HKa
  refine G.fc_nil (G.mt_take _ (G.Gr.refl _) ?_)
  simp only [pick_cons, pick_nil, nth_zero, nth_succ]
  repeat (go_big_quiet_step (fail))
  refine wpQuiet_nil (G.mt_force ?_)
  simp only [pick_cons, pick_nil, nth_zero, nth_succ]
  refine G.fc_step rfl (fun K hK => ?_)
  have z0 : ∃ v, wb10.cell? ⟨w.heap.size + 1, 2, none⟩ = some v := ⟨_, (HXb10.out.cell 2).trans (List.getElem?_eq_getElem (by rw [MsgR.len2 (m := { msgZ 0 with proto := p }) HS.out HB.out]; omega))⟩
  obtain ⟨v0, z0⟩ := z0
  have y0 := HXb10.out.frozen 2
  go_simp
  refine hK _ _ (show G.Gr wb10 _ from grown_set (grown_refl wb10 _)) ?_
  clear hK K z0 y0
  obtain ⟨wb11, hwb⟩ : ∃ wb, wb = wb10.setCell ⟨w.heap.size + 1, 2, none⟩ (u64v n) := ⟨_, rfl⟩
  have HXb11 : Hid (Blk wb11 (w.heap.size + 1) 50 (MsgR.cells { msgZ 0 with proto := p, nonce := n })) := by
    rw [hwb]
    have q := HXb10.out.set_ 2 (u64v n)
    exact Lib.hid q
  have HRb11 : Hid (Blk wb11 w.heap.size 50 ys.toList) := by rw [hwb]; exact Lib.hid (HRb10.out.far (by simp) _)
  have HKb11 : Hid (Keep w wb11) := by rw [hwb]; exact Lib.hid (Below.setCell HKb10.out (by simp) _)
  rw [← hwb]
  clear hwb HXb10 HRb10 HKb10
  refine G.fc_nil (G.mt_take _ (G.Gr.refl _) ?_)
  simp only [pick_cons, pick_nil, nth_zero, nth_succ]
  repeat (go_big_quiet_step (fail))
  refine wpQuiet_nil (G.mt_force ?_)
  simp only [pick_cons, pick_nil, nth_zero, nth_succ]
  refine G.fc_step rfl (fun K hK => ?_)
  have z0 : ∃ v, wb11.cell? ⟨w.heap.size + 1, 3, none⟩ = some v := ⟨_, (HXb11.out.cell 3).trans (List.getElem?_eq_getElem (by rw [MsgR.len2 (m := { msgZ 0 with proto := p, nonce := n }) HS.out HB.out]; omega))⟩
  obtain ⟨v0, z0⟩ := z0
  have y0 := HXb11.out.frozen 3
  go_simp
  refine hK _ _ (show G.Gr wb11 _ from grown_set (grown_refl wb11 _)) ?_
  clear hK K z0 y0
  obtain ⟨wb12, hwb⟩ : ∃ wb, wb = wb11.setCell ⟨w.heap.size + 1, 3, none⟩ (u32v h) := ⟨_, rfl⟩
  have HXb12 : Hid (Blk wb12 (w.heap.size + 1) 50 (MsgR.cells { msgZ 0 with proto := p, nonce := n, height := h })) := by
    rw [hwb]
    have q := HXb11.out.set_ 3 (u32v h)
    exact Lib.hid q
  have HRb12 : Hid (Blk wb12 w.heap.size 50 ys.toList) := by rw [hwb]; exact Lib.hid (HRb11.out.far (by simp) _)
  have HKb12 : Hid (Keep w wb12) := by rw [hwb]; exact Lib.hid (Below.setCell HKb11.out (by simp) _)
  rw [← hwb]
  clear hwb HXb11 HRb11 HKb11
  refine G.fc_nil (G.mt_end ?_)
  clear iM
  go_upto_region 21 with fail
  obtain ⟨wx, hwx⟩ : ∃ wx, wx = wb12 := ⟨_, rfl⟩
  have HX : Hid (Blk wx (w.heap.size + 1) 50 M.cells) := by rw [hwx, ← HMM.out]; exact HXb12
  have HRX : Hid (Blk wx w.heap.size 50 ys.toList) := by rw [hwx]; exact HRb12
  have HKX : Hid (Keep w wx) := by rw [hwx]; exact HKb12
  rw [← hwx]
  clear hwx HXb12 HRb12 HKb12
  obtain ⟨ds, hds⟩ : ∃ ds, MsA M ds := ⟨_, MsA.of HMO.out⟩
  have hdz := hds.z; have hdn := hds.n; have hdi := hds.i
  have HDS := Lib.hid hds
  have HBx : Hid (Blk wx (w.heap.size + 1) 50 ds.toList) := by rw [HDS.out.l]; exact HX.out
  obtain ⟨w8, hst8, hb8, hg8⟩ := run_store_blk (P := Tryd.prog) ds.toList HRX.out (by rw [Array.length_toList, Array.length_toList, hdz, HY.out.z]) HDS.out.o
  have Hb8 := Lib.hid hb8; have Hg8 := Lib.hid hg8
  clear hds hb8 hg8 HX HRX
  go_wp2_with ((with_reducible refine load_arr (w.heap.size + 1) ds (Eq.trans ?_ rfl) HBx.out _ Tryd.underlying50 rfl hdi ?_); rfl)
  have hb8 := Hb8.out
  exact bodyPost_ret (v := .agg ds) (results_cell_row Tryd.results57 _ _ w.heap.size _ _ _ _ rfl hb8 Tryd.underlying50 rfl (by rw [List.size_toArray, Array.length_toList]; exact hdi)) rfl ⟨ds, rfl, HDS.out, HKX.out.grown Hg8.out HKX.out.size (fun q hq => by injection hq with hq; omega)⟩
set_option maxRecDepth 100000 in
set_option maxHeartbeats 4000000 in
theorem message_2 (n : Nat) (A : Option Addr) (c : Nat) (w : World) (hM : MsgR.ok { msgZ 2 with nonce := n }) (hr : Rd w A (([.u64 n] : List PV).map PV.val)) :
    Calls Tryd.prog 57 #[.int .i64 2, .slice A 1 c] w fun e w' => ∃ ds, e = .returned (.agg ds) ∧ MsA { msgZ 2 with nonce := n } ds ∧ Keep w w' := by
  obtain ⟨ys, hyz, hyA⟩ := zmsg_letter
  obtain ⟨ks, hks⟩ : ∃ ks : Array Value, ks = (msgZ 2).cells.toArray := ⟨_, rfl⟩
  have hkA : MsA (msgZ 2) ks := by rw [hks]; exact MsA.of (msgZ_ok _ (by omega))
  have HBu : Hid (Tryd.prog.built 50 [(0, .int .i64 2)] = some ks) := Lib.hid (by rw [hks]; exact msg_built _)
  clear hks
  have hyn := hyA.n; have hkn := hkA.n; have hkz := hkA.z; have hyzz := hyA.z
  have HY := Lib.hid hyA; have HKS := Lib.hid hkA
  have HMO := Lib.hid hM
  have HZO := Lib.hid (msgZ_ok 2 (by omega))
  have HS : Hid ((msgZ 2).stop.length = 32) := Lib.hid rfl
  have HB : Hid ((msgZ 2).bh.ok) := Lib.hid ⟨rfl, rfl⟩
  have hst : (storeCells ⟨w.heap.size + 1, 0, none⟩ ks.toList 0).run Tryd.prog ((w.alloc (.cells ys 50)).alloc (.cells ys 50)) = .ok () ((w.alloc (.cells ys 50)).alloc (.cells ks 50)) := by
    have q := run_storeCells_new (P := Tryd.prog) (w.alloc (.cells ys 50)) 50 ys ks HKS.out.i (hyA.z.trans hkA.z.symm) (by have := all_oneCell_toArray HKS.out.o; simpa using this)
    rw [World.size_alloc] at q
    exact q
  clear hyA hkA hM hyzz
  generalize hMM : { msgZ 2 with nonce := n } = M at *
  have HMM := Lib.hid hMM
  clear hMM
  obtain ⟨g, off, rfl, hgb, hcell⟩ := hr.at (k := 0) (by simp)
  have c0 : w.cell? ⟨g, off, none⟩ = some (.iface 25 (u64v n)) := hcell 0 (by simp)
  clear hr hcell
  have Y0 : ∀ y, (Instr.typeAssert (.iface 25 (u64v n)) 20 25 false).run Tryd.prog y = .ok (u64v n) y := run_assert_must Tryd.underlying25 rfl _ _
  go_enter Tryd.func57, Tryd.ntmps57
  go_upto_region 2 with ((with_reducible refine list_bldg [(0, .int .i64 2)] ks (Eq.trans ?_ rfl) HBu.out (Eq.trans ?_ rfl) ?_); rfl; rfl)
  obtain ⟨w1, hw1⟩ : ∃ w1, w1 = (w.alloc (.cells ys 50)).alloc (.cells ks 50) := ⟨_, rfl⟩
  have HR1 : Hid (Blk w1 w.heap.size 50 ys.toList) := by rw [hw1]; exact Lib.hid ((Blk.new w _ ys.toList).alloc _)
  have HX1 : Hid (Blk w1 (w.heap.size + 1) 50 (msgZ 2).cells) := by
    rw [hw1, ← HKS.out.l]
    have h2 := Blk.new (w.alloc (.cells ys 50)) 50 ks.toList
    rw [World.size_alloc] at h2
    exact Lib.hid h2
  have HK1 : Hid (Keep w w1) := by rw [hw1]; exact Lib.hid (keep_trans (keep_new _ _) (keep_new _ _))
  rw [← hw1]
  clear hw1 hst
  replace c0 := keep_cell HK1.out c0
  go_upto_region 7 with fail
  have r2 := HX1.out.frozen 2
  have x2 : ∃ v, w1.cell? ⟨w.heap.size + 1, 2, none⟩ = some v := ⟨_, (HX1.out.cell 2).trans (List.getElem?_eq_getElem (by rw [MsgR.len2 (m := msgZ 2) HS.out HB.out]; omega))⟩
  obtain ⟨v2, x2⟩ := x2
  go_upto_region 21 with fail
  obtain ⟨wx, hwx⟩ : ∃ wx, wx = (w1.setCell ⟨w.heap.size + 1, 2, none⟩ (u64v n)) := ⟨_, rfl⟩
  have HX : Hid (Blk wx (w.heap.size + 1) 50 M.cells) := by
    rw [hwx, ← HMM.out]
    have q := (HX1.out.set_ 2 (u64v n))
    exact Lib.hid q
  have HRX : Hid (Blk wx w.heap.size 50 ys.toList) := by rw [hwx]; exact Lib.hid (HR1.out.far (by simp) _)
  have HKX : Hid (Keep w wx) := by rw [hwx]; exact Lib.hid (Below.setCell HK1.out (by simp) _)
  rw [← hwx]
  clear hwx r2 x2
  obtain ⟨ds, hds⟩ : ∃ ds, MsA M ds := ⟨_, MsA.of HMO.out⟩
  have hdz := hds.z; have hdn := hds.n; have hdi := hds.i
  have HDS := Lib.hid hds
  have HBx : Hid (Blk wx (w.heap.size + 1) 50 ds.toList) := by rw [HDS.out.l]; exact HX.out
  obtain ⟨w8, hst8, hb8, hg8⟩ := run_store_blk (P := Tryd.prog) ds.toList HRX.out (by rw [Array.length_toList, Array.length_toList, hdz, HY.out.z]) HDS.out.o
  have Hb8 := Lib.hid hb8; have Hg8 := Lib.hid hg8
  clear hds hb8 hg8 HX HRX
  go_wp2_with ((with_reducible refine load_arr (w.heap.size + 1) ds (Eq.trans ?_ rfl) HBx.out _ Tryd.underlying50 rfl hdi ?_); rfl)
  have hb8 := Hb8.out
  exact bodyPost_ret (v := .agg ds) (results_cell_row Tryd.results57 _ _ w.heap.size _ _ _ _ rfl hb8 Tryd.underlying50 rfl (by rw [List.size_toArray, Array.length_toList]; exact hdi)) rfl ⟨ds, rfl, HDS.out, HKX.out.grown Hg8.out HKX.out.size (fun q hq => by injection hq with hq; omega)⟩
set_option maxRecDepth 100000 in
set_option maxHeartbeats 4000000 in
theorem message_3 (n : Nat) (A : Option Addr) (c : Nat) (w : World) (hM : MsgR.ok { msgZ 3 with nonce := n }) (hr : Rd w A (([.u64 n] : List PV).map PV.val)) :
    Calls Tryd.prog 57 #[.int .i64 3, .slice A 1 c] w fun e w' => ∃ ds, e = .returned (.agg ds) ∧ MsA { msgZ 3 with nonce := n } ds ∧ Keep w w' := by
  obtain ⟨ys, hyz, hyA⟩ := zmsg_letter
  obtain ⟨ks, hks⟩ : ∃ ks : Array Value, ks = (msgZ 3).cells.toArray := ⟨_, rfl⟩
  have hkA : MsA (msgZ 3) ks := by rw [hks]; exact MsA.of (msgZ_ok _ (by omega))
  have HBu : Hid (Tryd.prog.built 50 [(0, .int .i64 3)] = some ks) := Lib.hid (by rw [hks]; exact msg_built _)
  clear hks
  have hyn := hyA.n; have hkn := hkA.n; have hkz := hkA.z; have hyzz := hyA.z
  have HY := Lib.hid hyA; have HKS := Lib.hid hkA
  have HMO := Lib.hid hM
  have HZO := Lib.hid (msgZ_ok 3 (by omega))
  have HS : Hid ((msgZ 3).stop.length = 32) := Lib.hid rfl
  have HB : Hid ((msgZ 3).bh.ok) := Lib.hid ⟨rfl, rfl⟩
  have hst : (storeCells ⟨w.heap.size + 1, 0, none⟩ ks.toList 0).run Tryd.prog ((w.alloc (.cells ys 50)).alloc (.cells ys 50)) = .ok () ((w.alloc (.cells ys 50)).alloc (.cells ks 50)) := by
    have q := run_storeCells_new (P := Tryd.prog) (w.alloc (.cells ys 50)) 50 ys ks HKS.out.i (hyA.z.trans hkA.z.symm) (by have := all_oneCell_toArray HKS.out.o; simpa using this)
    rw [World.size_alloc] at q
    exact q
  clear hyA hkA hM hyzz
  generalize hMM : { msgZ 3 with nonce := n } = M at *
  have HMM := Lib.hid hMM
  clear hMM
  obtain ⟨g, off, rfl, hgb, hcell⟩ := hr.at (k := 0) (by simp)
  have c0 : w.cell? ⟨g, off, none⟩ = some (.iface 25 (u64v n)) := hcell 0 (by simp)
  clear hr hcell
  have Y0 : ∀ y, (Instr.typeAssert (.iface 25 (u64v n)) 20 25 false).run Tryd.prog y = .ok (u64v n) y := run_assert_must Tryd.underlying25 rfl _ _
  go_enter Tryd.func57, Tryd.ntmps57
  go_upto_region 2 with ((with_reducible refine list_bldg [(0, .int .i64 3)] ks (Eq.trans ?_ rfl) HBu.out (Eq.trans ?_ rfl) ?_); rfl; rfl)
  obtain ⟨w1, hw1⟩ : ∃ w1, w1 = (w.alloc (.cells ys 50)).alloc (.cells ks 50) := ⟨_, rfl⟩
  have HR1 : Hid (Blk w1 w.heap.size 50 ys.toList) := by rw [hw1]; exact Lib.hid ((Blk.new w _ ys.toList).alloc _)
  have HX1 : Hid (Blk w1 (w.heap.size + 1) 50 (msgZ 3).cells) := by
    rw [hw1, ← HKS.out.l]
    have h2 := Blk.new (w.alloc (.cells ys 50)) 50 ks.toList
    rw [World.size_alloc] at h2
    exact Lib.hid h2
  have HK1 : Hid (Keep w w1) := by rw [hw1]; exact Lib.hid (keep_trans (keep_new _ _) (keep_new _ _))
  rw [← hw1]
  clear hw1 hst
  replace c0 := keep_cell HK1.out c0
  go_upto_region 7 with fail
  have r2 := HX1.out.frozen 2
  have x2 : ∃ v, w1.cell? ⟨w.heap.size + 1, 2, none⟩ = some v := ⟨_, (HX1.out.cell 2).trans (List.getElem?_eq_getElem (by rw [MsgR.len2 (m := msgZ 3) HS.out HB.out]; omega))⟩
  obtain ⟨v2, x2⟩ := x2
  go_upto_region 21 with fail
  obtain ⟨wx, hwx⟩ : ∃ wx, wx = (w1.setCell ⟨w.heap.size + 1, 2, none⟩ (u64v n)) := ⟨_, rfl⟩
  have HX : Hid (Blk wx (w.heap.size + 1) 50 M.cells) := by
    rw [hwx, ← HMM.out]
    have q := (HX1.out.set_ 2 (u64v n))
    exact Lib.hid q
  have HRX : Hid (Blk wx w.heap.size 50 ys.toList) := by rw [hwx]; exact Lib.hid (HR1.out.far (by simp) _)
  have HKX : Hid (Keep w wx) := by rw [hwx]; exact Lib.hid (Below.setCell HK1.out (by simp) _)
  rw [← hwx]
  clear hwx r2 x2
  obtain ⟨ds, hds⟩ : ∃ ds, MsA M ds := ⟨_, MsA.of HMO.out⟩
  have hdz := hds.z; have hdn := hds.n; have hdi := hds.i
  have HDS := Lib.hid hds
  have HBx : Hid (Blk wx (w.heap.size + 1) 50 ds.toList) := by rw [HDS.out.l]; exact HX.out
  obtain ⟨w8, hst8, hb8, hg8⟩ := run_store_blk (P := Tryd.prog) ds.toList HRX.out (by rw [Array.length_toList, Array.length_toList, hdz, HY.out.z]) HDS.out.o
  have Hb8 := Lib.hid hb8; have Hg8 := Lib.hid hg8
  clear hds hb8 hg8 HX HRX
  go_wp2_with ((with_reducible refine load_arr (w.heap.size + 1) ds (Eq.trans ?_ rfl) HBx.out _ Tryd.underlying50 rfl hdi ?_); rfl)
  have hb8 := Hb8.out
  exact bodyPost_ret (v := .agg ds) (results_cell_row Tryd.results57 _ _ w.heap.size _ _ _ _ rfl hb8 Tryd.underlying50 rfl (by rw [List.size_toArray, Array.length_toList]; exact hdi)) rfl ⟨ds, rfl, HDS.out, HKX.out.grown Hg8.out HKX.out.size (fun q hq => by injection hq with hq; omega)⟩
set_option maxRecDepth 100000 in
set_option maxHeartbeats 4000000 in
theorem message_5 (hA : Option Addr) (l : List Hd) (hc : Nat) (A : Option Addr) (c : Nat) (w : World) (hM : MsgR.ok { msgZ 5 with hA := hA, hs := l, hc := hc }) (hr : Rd w A (([.heads hA l hc] : List PV).map PV.val)) :
    Calls Tryd.prog 57 #[.int .i64 5, .slice A 1 c] w fun e w' => ∃ ds, e = .returned (.agg ds) ∧ MsA { msgZ 5 with hA := hA, hs := l, hc := hc } ds ∧ Keep w w' := by
  obtain ⟨ys, hyz, hyA⟩ := zmsg_letter
  obtain ⟨ks, hks⟩ : ∃ ks : Array Value, ks = (msgZ 5).cells.toArray := ⟨_, rfl⟩
  have hkA : MsA (msgZ 5) ks := by rw [hks]; exact MsA.of (msgZ_ok _ (by omega))
  have HBu : Hid (Tryd.prog.built 50 [(0, .int .i64 5)] = some ks) := Lib.hid (by rw [hks]; exact msg_built _)
  clear hks
  have hyn := hyA.n; have hkn := hkA.n; have hkz := hkA.z; have hyzz := hyA.z
  have HY := Lib.hid hyA; have HKS := Lib.hid hkA
  have HMO := Lib.hid hM
  have HZO := Lib.hid (msgZ_ok 5 (by omega))
  have HS : Hid ((msgZ 5).stop.length = 32) := Lib.hid rfl
  have HB : Hid ((msgZ 5).bh.ok) := Lib.hid ⟨rfl, rfl⟩
  have hst : (storeCells ⟨w.heap.size + 1, 0, none⟩ ks.toList 0).run Tryd.prog ((w.alloc (.cells ys 50)).alloc (.cells ys 50)) = .ok () ((w.alloc (.cells ys 50)).alloc (.cells ks 50)) := by
    have q := run_storeCells_new (P := Tryd.prog) (w.alloc (.cells ys 50)) 50 ys ks HKS.out.i (hyA.z.trans hkA.z.symm) (by have := all_oneCell_toArray HKS.out.o; simpa using this)
    rw [World.size_alloc] at q
    exact q
  clear hyA hkA hM hyzz
  generalize hMM : { msgZ 5 with hA := hA, hs := l, hc := hc } = M at *
  have HMM := Lib.hid hMM
  clear hMM
  obtain ⟨g, off, rfl, hgb, hcell⟩ := hr.at (k := 0) (by simp)
  have c0 : w.cell? ⟨g, off, none⟩ = some (.iface 36 (.slice hA l.length hc)) := hcell 0 (by simp)
  clear hr hcell
  have Y0 : ∀ y, (Instr.typeAssert (.iface 36 (.slice hA l.length hc)) 20 36 false).run Tryd.prog y = .ok (.slice hA l.length hc) y := run_assert_must Tryd.underlying36 rfl _ _
  go_enter Tryd.func57, Tryd.ntmps57
  go_upto_region 2 with ((with_reducible refine list_bldg [(0, .int .i64 5)] ks (Eq.trans ?_ rfl) HBu.out (Eq.trans ?_ rfl) ?_); rfl; rfl)
  obtain ⟨w1, hw1⟩ : ∃ w1, w1 = (w.alloc (.cells ys 50)).alloc (.cells ks 50) := ⟨_, rfl⟩
  have HR1 : Hid (Blk w1 w.heap.size 50 ys.toList) := by rw [hw1]; exact Lib.hid ((Blk.new w _ ys.toList).alloc _)
  have HX1 : Hid (Blk w1 (w.heap.size + 1) 50 (msgZ 5).cells) := by
    rw [hw1, ← HKS.out.l]
    have h2 := Blk.new (w.alloc (.cells ys 50)) 50 ks.toList
    rw [World.size_alloc] at h2
    exact Lib.hid h2
  have HK1 : Hid (Keep w w1) := by rw [hw1]; exact Lib.hid (keep_trans (keep_new _ _) (keep_new _ _))
  rw [← hw1]
  clear hw1 hst
  replace c0 := keep_cell HK1.out c0
  go_upto_region 11 with fail
  have r4 := HX1.out.frozen 4
  have x4 : ∃ v, w1.cell? ⟨w.heap.size + 1, 4, none⟩ = some v := ⟨_, (HX1.out.cell 4).trans (List.getElem?_eq_getElem (by rw [MsgR.len2 (m := msgZ 5) HS.out HB.out]; omega))⟩
  obtain ⟨v4, x4⟩ := x4
  go_upto_region 21 with fail
  obtain ⟨wx, hwx⟩ : ∃ wx, wx = (w1.setCell ⟨w.heap.size + 1, 4, none⟩ (.slice hA l.length hc)) := ⟨_, rfl⟩
  have HX : Hid (Blk wx (w.heap.size + 1) 50 M.cells) := by
    rw [hwx, ← HMM.out]
    have q := (HX1.out.set_ 4 (.slice hA l.length hc))
    exact Lib.hid q
  have HRX : Hid (Blk wx w.heap.size 50 ys.toList) := by rw [hwx]; exact Lib.hid (HR1.out.far (by simp) _)
  have HKX : Hid (Keep w wx) := by rw [hwx]; exact Lib.hid (Below.setCell HK1.out (by simp) _)
  rw [← hwx]
  clear hwx r4 x4
  obtain ⟨ds, hds⟩ : ∃ ds, MsA M ds := ⟨_, MsA.of HMO.out⟩
  have hdz := hds.z; have hdn := hds.n; have hdi := hds.i
  have HDS := Lib.hid hds
  have HBx : Hid (Blk wx (w.heap.size + 1) 50 ds.toList) := by rw [HDS.out.l]; exact HX.out
  obtain ⟨w8, hst8, hb8, hg8⟩ := run_store_blk (P := Tryd.prog) ds.toList HRX.out (by rw [Array.length_toList, Array.length_toList, hdz, HY.out.z]) HDS.out.o
  have Hb8 := Lib.hid hb8; have Hg8 := Lib.hid hg8
  clear hds hb8 hg8 HX HRX
  go_wp2_with ((with_reducible refine load_arr (w.heap.size + 1) ds (Eq.trans ?_ rfl) HBx.out _ Tryd.underlying50 rfl hdi ?_); rfl)
  have hb8 := Hb8.out
  exact bodyPost_ret (v := .agg ds) (results_cell_row Tryd.results57 _ _ w.heap.size _ _ _ _ rfl hb8 Tryd.underlying50 rfl (by rw [List.size_toArray, Array.length_toList]; exact hdi)) rfl ⟨ds, rfl, HDS.out, HKX.out.grown Hg8.out HKX.out.size (fun q hq => by injection hq with hq; omega)⟩
set_option maxRecDepth 100000 in
set_option maxHeartbeats 4000000 in
theorem message_6 (iA : Option Addr) (l : List Itm) (ic : Nat) (A : Option Addr) (c : Nat) (w : World) (hM : MsgR.ok { msgZ 6 with iA := iA, is := l, ic := ic }) (hr : Rd w A (([.items iA l ic] : List PV).map PV.val)) :
    Calls Tryd.prog 57 #[.int .i64 6, .slice A 1 c] w fun e w' => ∃ ds, e = .returned (.agg ds) ∧ MsA { msgZ 6 with iA := iA, is := l, ic := ic } ds ∧ Keep w w' := by
  obtain ⟨ys, hyz, hyA⟩ := zmsg_letter
  obtain ⟨ks, hks⟩ : ∃ ks : Array Value, ks = (msgZ 6).cells.toArray := ⟨_, rfl⟩
  have hkA : MsA (msgZ 6) ks := by rw [hks]; exact MsA.of (msgZ_ok _ (by omega))
  have HBu : Hid (Tryd.prog.built 50 [(0, .int .i64 6)] = some ks) := Lib.hid (by rw [hks]; exact msg_built _)
  clear hks
  have hyn := hyA.n; have hkn := hkA.n; have hkz := hkA.z; have hyzz := hyA.z
  have HY := Lib.hid hyA; have HKS := Lib.hid hkA
  have HMO := Lib.hid hM
  have HZO := Lib.hid (msgZ_ok 6 (by omega))
  have HS : Hid ((msgZ 6).stop.length = 32) := Lib.hid rfl
  have HB : Hid ((msgZ 6).bh.ok) := Lib.hid ⟨rfl, rfl⟩
  have hst : (storeCells ⟨w.heap.size + 1, 0, none⟩ ks.toList 0).run Tryd.prog ((w.alloc (.cells ys 50)).alloc (.cells ys 50)) = .ok () ((w.alloc (.cells ys 50)).alloc (.cells ks 50)) := by
    have q := run_storeCells_new (P := Tryd.prog) (w.alloc (.cells ys 50)) 50 ys ks HKS.out.i (hyA.z.trans hkA.z.symm) (by have := all_oneCell_toArray HKS.out.o; simpa using this)
    rw [World.size_alloc] at q
    exact q
  clear hyA hkA hM hyzz
  generalize hMM : { msgZ 6 with iA := iA, is := l, ic := ic } = M at *
  have HMM := Lib.hid hMM
  clear hMM
  obtain ⟨g, off, rfl, hgb, hcell⟩ := hr.at (k := 0) (by simp)
  have c0 : w.cell? ⟨g, off, none⟩ = some (.iface 40 (.slice iA l.length ic)) := hcell 0 (by simp)
  clear hr hcell
  have Y0 : ∀ y, (Instr.typeAssert (.iface 40 (.slice iA l.length ic)) 20 40 false).run Tryd.prog y = .ok (.slice iA l.length ic) y := run_assert_must Tryd.underlying40 rfl _ _
  go_enter Tryd.func57, Tryd.ntmps57
  go_upto_region 2 with ((with_reducible refine list_bldg [(0, .int .i64 6)] ks (Eq.trans ?_ rfl) HBu.out (Eq.trans ?_ rfl) ?_); rfl; rfl)
  obtain ⟨w1, hw1⟩ : ∃ w1, w1 = (w.alloc (.cells ys 50)).alloc (.cells ks 50) := ⟨_, rfl⟩
  have HR1 : Hid (Blk w1 w.heap.size 50 ys.toList) := by rw [hw1]; exact Lib.hid ((Blk.new w _ ys.toList).alloc _)
  have HX1 : Hid (Blk w1 (w.heap.size + 1) 50 (msgZ 6).cells) := by
    rw [hw1, ← HKS.out.l]
    have h2 := Blk.new (w.alloc (.cells ys 50)) 50 ks.toList
    rw [World.size_alloc] at h2
    exact Lib.hid h2
  have HK1 : Hid (Keep w w1) := by rw [hw1]; exact Lib.hid (keep_trans (keep_new _ _) (keep_new _ _))
  rw [← hw1]
  clear hw1 hst
  replace c0 := keep_cell HK1.out c0
  go_upto_region 15 with fail
  have r38 := HX1.out.frozen 38
  have x38 : ∃ v, w1.cell? ⟨w.heap.size + 1, 38, none⟩ = some v := ⟨_, (HX1.out.cell 38).trans (List.getElem?_eq_getElem (by rw [MsgR.len2 (m := msgZ 6) HS.out HB.out]; omega))⟩
  obtain ⟨v38, x38⟩ := x38
  go_upto_region 21 with fail
  obtain ⟨wx, hwx⟩ : ∃ wx, wx = (w1.setCell ⟨w.heap.size + 1, 38, none⟩ (.slice iA l.length ic)) := ⟨_, rfl⟩
  have HX : Hid (Blk wx (w.heap.size + 1) 50 M.cells) := by
    rw [hwx, ← HMM.out]
    have q := (HX1.out.set_ 38 (.slice iA l.length ic))
    rw [MsgR.set38s HZO.out] at q; exact Lib.hid q
  have HRX : Hid (Blk wx w.heap.size 50 ys.toList) := by rw [hwx]; exact Lib.hid (HR1.out.far (by simp) _)
  have HKX : Hid (Keep w wx) := by rw [hwx]; exact Lib.hid (Below.setCell HK1.out (by simp) _)
  rw [← hwx]
  clear hwx r38 x38
  obtain ⟨ds, hds⟩ : ∃ ds, MsA M ds := ⟨_, MsA.of HMO.out⟩
  have hdz := hds.z; have hdn := hds.n; have hdi := hds.i
  have HDS := Lib.hid hds
  have HBx : Hid (Blk wx (w.heap.size + 1) 50 ds.toList) := by rw [HDS.out.l]; exact HX.out
  obtain ⟨w8, hst8, hb8, hg8⟩ := run_store_blk (P := Tryd.prog) ds.toList HRX.out (by rw [Array.length_toList, Array.length_toList, hdz, HY.out.z]) HDS.out.o
  have Hb8 := Lib.hid hb8; have Hg8 := Lib.hid hg8
  clear hds hb8 hg8 HX HRX
  go_wp2_with ((with_reducible refine load_arr (w.heap.size + 1) ds (Eq.trans ?_ rfl) HBx.out _ Tryd.underlying50 rfl hdi ?_); rfl)
  have hb8 := Hb8.out
  exact bodyPost_ret (v := .agg ds) (results_cell_row Tryd.results57 _ _ w.heap.size _ _ _ _ rfl hb8 Tryd.underlying50 rfl (by rw [List.size_toArray, Array.length_toList]; exact hdi)) rfl ⟨ds, rfl, HDS.out, HKX.out.grown Hg8.out HKX.out.size (fun q hq => by injection hq with hq; omega)⟩
set_option maxRecDepth 100000 in
set_option maxHeartbeats 4000000 in
theorem message_7 (iA : Option Addr) (l : List Itm) (ic : Nat) (A : Option Addr) (c : Nat) (w : World) (hM : MsgR.ok { msgZ 7 with iA := iA, is := l, ic := ic }) (hr : Rd w A (([.items iA l ic] : List PV).map PV.val)) :
    Calls Tryd.prog 57 #[.int .i64 7, .slice A 1 c] w fun e w' => ∃ ds, e = .returned (.agg ds) ∧ MsA { msgZ 7 with iA := iA, is := l, ic := ic } ds ∧ Keep w w' := by
  obtain ⟨ys, hyz, hyA⟩ := zmsg_letter
  obtain ⟨ks, hks⟩ : ∃ ks : Array Value, ks = (msgZ 7).cells.toArray := ⟨_, rfl⟩
  have hkA : MsA (msgZ 7) ks := by rw [hks]; exact MsA.of (msgZ_ok _ (by omega))
  have HBu : Hid (Tryd.prog.built 50 [(0, .int .i64 7)] = some ks) := Lib.hid (by rw [hks]; exact msg_built _)
  clear hks
  have hyn := hyA.n; have hkn := hkA.n; have hkz := hkA.z; have hyzz := hyA.z
  have HY := Lib.hid hyA; have HKS := Lib.hid hkA
  have HMO := Lib.hid hM
  have HZO := Lib.hid (msgZ_ok 7 (by omega))
  have HS : Hid ((msgZ 7).stop.length = 32) := Lib.hid rfl
  have HB : Hid ((msgZ 7).bh.ok) := Lib.hid ⟨rfl, rfl⟩
  have hst : (storeCells ⟨w.heap.size + 1, 0, none⟩ ks.toList 0).run Tryd.prog ((w.alloc (.cells ys 50)).alloc (.cells ys 50)) = .ok () ((w.alloc (.cells ys 50)).alloc (.cells ks 50)) := by
    have q := run_storeCells_new (P := Tryd.prog) (w.alloc (.cells ys 50)) 50 ys ks HKS.out.i (hyA.z.trans hkA.z.symm) (by have := all_oneCell_toArray HKS.out.o; simpa using this)
    rw [World.size_alloc] at q
    exact q
  clear hyA hkA hM hyzz
  generalize hMM : { msgZ 7 with iA := iA, is := l, ic := ic } = M at *
  have HMM := Lib.hid hMM
  clear hMM
  obtain ⟨g, off, rfl, hgb, hcell⟩ := hr.at (k := 0) (by simp)
  have c0 : w.cell? ⟨g, off, none⟩ = some (.iface 40 (.slice iA l.length ic)) := hcell 0 (by simp)
  clear hr hcell
  have Y0 : ∀ y, (Instr.typeAssert (.iface 40 (.slice iA l.length ic)) 20 40 false).run Tryd.prog y = .ok (.slice iA l.length ic) y := run_assert_must Tryd.underlying40 rfl _ _
  go_enter Tryd.func57, Tryd.ntmps57
  go_upto_region 2 with ((with_reducible refine list_bldg [(0, .int .i64 7)] ks (Eq.trans ?_ rfl) HBu.out (Eq.trans ?_ rfl) ?_); rfl; rfl)
  obtain ⟨w1, hw1⟩ : ∃ w1, w1 = (w.alloc (.cells ys 50)).alloc (.cells ks 50) := ⟨_, rfl⟩
  have HR1 : Hid (Blk w1 w.heap.size 50 ys.toList) := by rw [hw1]; exact Lib.hid ((Blk.new w _ ys.toList).alloc _)
  have HX1 : Hid (Blk w1 (w.heap.size + 1) 50 (msgZ 7).cells) := by
    rw [hw1, ← HKS.out.l]
    have h2 := Blk.new (w.alloc (.cells ys 50)) 50 ks.toList
    rw [World.size_alloc] at h2
    exact Lib.hid h2
  have HK1 : Hid (Keep w w1) := by rw [hw1]; exact Lib.hid (keep_trans (keep_new _ _) (keep_new _ _))
  rw [← hw1]
  clear hw1 hst
  replace c0 := keep_cell HK1.out c0
  go_upto_region 15 with fail
  have r38 := HX1.out.frozen 38
  have x38 : ∃ v, w1.cell? ⟨w.heap.size + 1, 38, none⟩ = some v := ⟨_, (HX1.out.cell 38).trans (List.getElem?_eq_getElem (by rw [MsgR.len2 (m := msgZ 7) HS.out HB.out]; omega))⟩
  obtain ⟨v38, x38⟩ := x38
  go_upto_region 21 with fail
  obtain ⟨wx, hwx⟩ : ∃ wx, wx = (w1.setCell ⟨w.heap.size + 1, 38, none⟩ (.slice iA l.length ic)) := ⟨_, rfl⟩
  have HX : Hid (Blk wx (w.heap.size + 1) 50 M.cells) := by
    rw [hwx, ← HMM.out]
    have q := (HX1.out.set_ 38 (.slice iA l.length ic))
    rw [MsgR.set38s HZO.out] at q; exact Lib.hid q
  have HRX : Hid (Blk wx w.heap.size 50 ys.toList) := by rw [hwx]; exact Lib.hid (HR1.out.far (by simp) _)
  have HKX : Hid (Keep w wx) := by rw [hwx]; exact Lib.hid (Below.setCell HK1.out (by simp) _)
  rw [← hwx]
  clear hwx r38 x38
  obtain ⟨ds, hds⟩ : ∃ ds, MsA M ds := ⟨_, MsA.of HMO.out⟩
  have hdz := hds.z; have hdn := hds.n; have hdi := hds.i
  have HDS := Lib.hid hds
  have HBx : Hid (Blk wx (w.heap.size + 1) 50 ds.toList) := by rw [HDS.out.l]; exact HX.out
  obtain ⟨w8, hst8, hb8, hg8⟩ := run_store_blk (P := Tryd.prog) ds.toList HRX.out (by rw [Array.length_toList, Array.length_toList, hdz, HY.out.z]) HDS.out.o
  have Hb8 := Lib.hid hb8; have Hg8 := Lib.hid hg8
  clear hds hb8 hg8 HX HRX
  go_wp2_with ((with_reducible refine load_arr (w.heap.size + 1) ds (Eq.trans ?_ rfl) HBx.out _ Tryd.underlying50 rfl hdi ?_); rfl)
  have hb8 := Hb8.out
  exact bodyPost_ret (v := .agg ds) (results_cell_row Tryd.results57 _ _ w.heap.size _ _ _ _ rfl hb8 Tryd.underlying50 rfl (by rw [List.size_toArray, Array.length_toList]; exact hdi)) rfl ⟨ds, rfl, HDS.out, HKX.out.grown Hg8.out HKX.out.size (fun q hq => by injection hq with hq; omega)⟩
set_option maxRecDepth 100000 in
set_option maxHeartbeats 4000000 in
theorem message_8 (iA : Option Addr) (l : List Itm) (ic : Nat) (A : Option Addr) (c : Nat) (w : World) (hM : MsgR.ok { msgZ 8 with iA := iA, is := l, ic := ic }) (hr : Rd w A (([.items iA l ic] : List PV).map PV.val)) :
    Calls Tryd.prog 57 #[.int .i64 8, .slice A 1 c] w fun e w' => ∃ ds, e = .returned (.agg ds) ∧ MsA { msgZ 8 with iA := iA, is := l, ic := ic } ds ∧ Keep w w' := by
  obtain ⟨ys, hyz, hyA⟩ := zmsg_letter
  obtain ⟨ks, hks⟩ : ∃ ks : Array Value, ks = (msgZ 8).cells.toArray := ⟨_, rfl⟩
  have hkA : MsA (msgZ 8) ks := by rw [hks]; exact MsA.of (msgZ_ok _ (by omega))
  have HBu : Hid (Tryd.prog.built 50 [(0, .int .i64 8)] = some ks) := Lib.hid (by rw [hks]; exact msg_built _)
  clear hks
  have hyn := hyA.n; have hkn := hkA.n; have hkz := hkA.z; have hyzz := hyA.z
  have HY := Lib.hid hyA; have HKS := Lib.hid hkA
  have HMO := Lib.hid hM
  have HZO := Lib.hid (msgZ_ok 8 (by omega))
  have HS : Hid ((msgZ 8).stop.length = 32) := Lib.hid rfl
  have HB : Hid ((msgZ 8).bh.ok) := Lib.hid ⟨rfl, rfl⟩
  have hst : (storeCells ⟨w.heap.size + 1, 0, none⟩ ks.toList 0).run Tryd.prog ((w.alloc (.cells ys 50)).alloc (.cells ys 50)) = .ok () ((w.alloc (.cells ys 50)).alloc (.cells ks 50)) := by
    have q := run_storeCells_new (P := Tryd.prog) (w.alloc (.cells ys 50)) 50 ys ks HKS.out.i (hyA.z.trans hkA.z.symm) (by have := all_oneCell_toArray HKS.out.o; simpa using this)
    rw [World.size_alloc] at q
    exact q
  clear hyA hkA hM hyzz
  generalize hMM : { msgZ 8 with iA := iA, is := l, ic := ic } = M at *
  have HMM := Lib.hid hMM
  clear hMM
  obtain ⟨g, off, rfl, hgb, hcell⟩ := hr.at (k := 0) (by simp)
  have c0 : w.cell? ⟨g, off, none⟩ = some (.iface 40 (.slice iA l.length ic)) := hcell 0 (by simp)
  clear hr hcell
  have Y0 : ∀ y, (Instr.typeAssert (.iface 40 (.slice iA l.length ic)) 20 40 false).run Tryd.prog y = .ok (.slice iA l.length ic) y := run_assert_must Tryd.underlying40 rfl _ _
  go_enter Tryd.func57, Tryd.ntmps57
  go_upto_region 2 with ((with_reducible refine list_bldg [(0, .int .i64 8)] ks (Eq.trans ?_ rfl) HBu.out (Eq.trans ?_ rfl) ?_); rfl; rfl)
  obtain ⟨w1, hw1⟩ : ∃ w1, w1 = (w.alloc (.cells ys 50)).alloc (.cells ks 50) := ⟨_, rfl⟩
  have HR1 : Hid (Blk w1 w.heap.size 50 ys.toList) := by rw [hw1]; exact Lib.hid ((Blk.new w _ ys.toList).alloc _)
  have HX1 : Hid (Blk w1 (w.heap.size + 1) 50 (msgZ 8).cells) := by
    rw [hw1, ← HKS.out.l]
    have h2 := Blk.new (w.alloc (.cells ys 50)) 50 ks.toList
    rw [World.size_alloc] at h2
    exact Lib.hid h2
  have HK1 : Hid (Keep w w1) := by rw [hw1]; exact Lib.hid (keep_trans (keep_new _ _) (keep_new _ _))
  rw [← hw1]
  clear hw1 hst
  replace c0 := keep_cell HK1.out c0
  go_upto_region 15 with fail
  have r38 := HX1.out.frozen 38
  have x38 : ∃ v, w1.cell? ⟨w.heap.size + 1, 38, none⟩ = some v := ⟨_, (HX1.out.cell 38).trans (List.getElem?_eq_getElem (by rw [MsgR.len2 (m := msgZ 8) HS.out HB.out]; omega))⟩
  obtain ⟨v38, x38⟩ := x38
  go_upto_region 21 with fail
  obtain ⟨wx, hwx⟩ : ∃ wx, wx = (w1.setCell ⟨w.heap.size + 1, 38, none⟩ (.slice iA l.length ic)) := ⟨_, rfl⟩
  have HX : Hid (Blk wx (w.heap.size + 1) 50 M.cells) := by
    rw [hwx, ← HMM.out]
    have q := (HX1.out.set_ 38 (.slice iA l.length ic))
    rw [MsgR.set38s HZO.out] at q; exact Lib.hid q
  have HRX : Hid (Blk wx w.heap.size 50 ys.toList) := by rw [hwx]; exact Lib.hid (HR1.out.far (by simp) _)
  have HKX : Hid (Keep w wx) := by rw [hwx]; exact Lib.hid (Below.setCell HK1.out (by simp) _)
  rw [← hwx]
  clear hwx r38 x38
  obtain ⟨ds, hds⟩ : ∃ ds, MsA M ds := ⟨_, MsA.of HMO.out⟩
  have hdz := hds.z; have hdn := hds.n; have hdi := hds.i
  have HDS := Lib.hid hds
  have HBx : Hid (Blk wx (w.heap.size + 1) 50 ds.toList) := by rw [HDS.out.l]; exact HX.out
  obtain ⟨w8, hst8, hb8, hg8⟩ := run_store_blk (P := Tryd.prog) ds.toList HRX.out (by rw [Array.length_toList, Array.length_toList, hdz, HY.out.z]) HDS.out.o
  have Hb8 := Lib.hid hb8; have Hg8 := Lib.hid hg8
  clear hds hb8 hg8 HX HRX
  go_wp2_with ((with_reducible refine load_arr (w.heap.size + 1) ds (Eq.trans ?_ rfl) HBx.out _ Tryd.underlying50 rfl hdi ?_); rfl)
  have hb8 := Hb8.out
  exact bodyPost_ret (v := .agg ds) (results_cell_row Tryd.results57 _ _ w.heap.size _ _ _ _ rfl hb8 Tryd.underlying50 rfl (by rw [List.size_toArray, Array.length_toList]; exact hdi)) rfl ⟨ds, rfl, HDS.out, HKX.out.grown Hg8.out HKX.out.size (fun q hq => by injection hq with hq; omega)⟩
set_option maxRecDepth 100000 in
set_option maxHeartbeats 4000000 in
theorem message_10 (t : TxR) (A : Option Addr) (c : Nat) (w : World) (hM : MsgR.ok { msgZ 10 with t := t }) (hr : Rd w A (([.tx t] : List PV).map PV.val)) :
    Calls Tryd.prog 57 #[.int .i64 10, .slice A 1 c] w fun e w' => ∃ ds, e = .returned (.agg ds) ∧ MsA { msgZ 10 with t := t } ds ∧ Keep w w' := by
  obtain ⟨ys, hyz, hyA⟩ := zmsg_letter
  obtain ⟨ks, hks⟩ : ∃ ks : Array Value, ks = (msgZ 10).cells.toArray := ⟨_, rfl⟩
  have hkA : MsA (msgZ 10) ks := by rw [hks]; exact MsA.of (msgZ_ok _ (by omega))
  have HBu : Hid (Tryd.prog.built 50 [(0, .int .i64 10)] = some ks) := Lib.hid (by rw [hks]; exact msg_built _)
  clear hks
  have hyn := hyA.n; have hkn := hkA.n; have hkz := hkA.z; have hyzz := hyA.z
  have HY := Lib.hid hyA; have HKS := Lib.hid hkA
  have HMO := Lib.hid hM
  have HZO := Lib.hid (msgZ_ok 10 (by omega))
  have HS : Hid ((msgZ 10).stop.length = 32) := Lib.hid rfl
  have HB : Hid ((msgZ 10).bh.ok) := Lib.hid ⟨rfl, rfl⟩
  have hst : (storeCells ⟨w.heap.size + 1, 0, none⟩ ks.toList 0).run Tryd.prog ((w.alloc (.cells ys 50)).alloc (.cells ys 50)) = .ok () ((w.alloc (.cells ys 50)).alloc (.cells ks 50)) := by
    have q := run_storeCells_new (P := Tryd.prog) (w.alloc (.cells ys 50)) 50 ys ks HKS.out.i (hyA.z.trans hkA.z.symm) (by have := all_oneCell_toArray HKS.out.o; simpa using this)
    rw [World.size_alloc] at q
    exact q
  clear hyA hkA hM hyzz
  generalize hMM : { msgZ 10 with t := t } = M at *
  have HMM := Lib.hid hMM
  clear hMM
  obtain ⟨g, off, rfl, hgb, hcell⟩ := hr.at (k := 0) (by simp)
  have c0 : w.cell? ⟨g, off, none⟩ = some (.iface 48 (.agg #[u32v t.ver, .slice t.iA t.ins.length t.ic, .slice t.oA t.outs.length t.oc, u32v t.lock])) := hcell 0 (by simp)
  clear hr hcell
  have Y0 : ∀ y, (Instr.typeAssert (.iface 48 (.agg #[u32v t.ver, .slice t.iA t.ins.length t.ic, .slice t.oA t.outs.length t.oc, u32v t.lock])) 20 48 false).run Tryd.prog y = .ok (.agg #[u32v t.ver, .slice t.iA t.ins.length t.ic, .slice t.oA t.outs.length t.oc, u32v t.lock]) y := run_assert_must Tryd.underlying48 rfl _ _
  go_enter Tryd.func57, Tryd.ntmps57
  go_upto_region 2 with ((with_reducible refine list_bldg [(0, .int .i64 10)] ks (Eq.trans ?_ rfl) HBu.out (Eq.trans ?_ rfl) ?_); rfl; rfl)
  obtain ⟨w1, hw1⟩ : ∃ w1, w1 = (w.alloc (.cells ys 50)).alloc (.cells ks 50) := ⟨_, rfl⟩
  have HR1 : Hid (Blk w1 w.heap.size 50 ys.toList) := by rw [hw1]; exact Lib.hid ((Blk.new w _ ys.toList).alloc _)
  have HX1 : Hid (Blk w1 (w.heap.size + 1) 50 (msgZ 10).cells) := by
    rw [hw1, ← HKS.out.l]
    have h2 := Blk.new (w.alloc (.cells ys 50)) 50 ks.toList
    rw [World.size_alloc] at h2
    exact Lib.hid h2
  have HK1 : Hid (Keep w w1) := by rw [hw1]; exact Lib.hid (keep_trans (keep_new _ _) (keep_new _ _))
  rw [← hw1]
  clear hw1 hst
  replace c0 := keep_cell HK1.out c0
  go_upto_region 20 with fail
  have r110 := HX1.out.frozen 110
  have x110 : ∃ v, w1.cell? ⟨w.heap.size + 1, 110, none⟩ = some v := ⟨_, (HX1.out.cell 110).trans (List.getElem?_eq_getElem (by rw [MsgR.len2 (m := msgZ 10) HS.out HB.out]; omega))⟩
  obtain ⟨v110, x110⟩ := x110
  have r111 := HX1.out.frozen 111
  have x111 : ∃ v, w1.cell? ⟨w.heap.size + 1, 111, none⟩ = some v := ⟨_, (HX1.out.cell 111).trans (List.getElem?_eq_getElem (by rw [MsgR.len2 (m := msgZ 10) HS.out HB.out]; omega))⟩
  obtain ⟨v111, x111⟩ := x111
  have r112 := HX1.out.frozen 112
  have x112 : ∃ v, w1.cell? ⟨w.heap.size + 1, 112, none⟩ = some v := ⟨_, (HX1.out.cell 112).trans (List.getElem?_eq_getElem (by rw [MsgR.len2 (m := msgZ 10) HS.out HB.out]; omega))⟩
  obtain ⟨v112, x112⟩ := x112
  have r113 := HX1.out.frozen 113
  have x113 : ∃ v, w1.cell? ⟨w.heap.size + 1, 113, none⟩ = some v := ⟨_, (HX1.out.cell 113).trans (List.getElem?_eq_getElem (by rw [MsgR.len2 (m := msgZ 10) HS.out HB.out]; omega))⟩
  obtain ⟨v113, x113⟩ := x113
  go_upto_region 21 with fail
  obtain ⟨wx, hwx⟩ : ∃ wx, wx = ((((w1.setCell ⟨w.heap.size + 1, 110, none⟩ (u32v t.ver)).setCell ⟨w.heap.size + 1, 111, none⟩ (.slice t.iA t.ins.length t.ic)).setCell ⟨w.heap.size + 1, 112, none⟩ (.slice t.oA t.outs.length t.oc)).setCell ⟨w.heap.size + 1, 113, none⟩ (u32v t.lock)) := ⟨_, rfl⟩
  have HX : Hid (Blk wx (w.heap.size + 1) 50 M.cells) := by
    rw [hwx, ← HMM.out]
    have q := ((((HX1.out.set_ 110 (u32v t.ver)).set_ 111 (.slice t.iA t.ins.length t.ic)).set_ 112 (.slice t.oA t.outs.length t.oc)).set_ 113 (u32v t.lock))
    rw [MsgR.set_txs HZO.out] at q; exact Lib.hid q
  have HRX : Hid (Blk wx w.heap.size 50 ys.toList) := by rw [hwx]; exact Lib.hid ((((HR1.out.far (by simp) _).far (by simp) _).far (by simp) _).far (by simp) _)
  have HKX : Hid (Keep w wx) := by rw [hwx]; exact Lib.hid (Below.setCell (Below.setCell (Below.setCell (Below.setCell HK1.out (by simp) _) (by simp) _) (by simp) _) (by simp) _)
  rw [← hwx]
  clear hwx r110 x110 r111 x111 r112 x112 r113 x113
  obtain ⟨ds, hds⟩ : ∃ ds, MsA M ds := ⟨_, MsA.of HMO.out⟩
  have hdz := hds.z; have hdn := hds.n; have hdi := hds.i
  have HDS := Lib.hid hds
  have HBx : Hid (Blk wx (w.heap.size + 1) 50 ds.toList) := by rw [HDS.out.l]; exact HX.out
  obtain ⟨w8, hst8, hb8, hg8⟩ := run_store_blk (P := Tryd.prog) ds.toList HRX.out (by rw [Array.length_toList, Array.length_toList, hdz, HY.out.z]) HDS.out.o
  have Hb8 := Lib.hid hb8; have Hg8 := Lib.hid hg8
  clear hds hb8 hg8 HX HRX
  go_wp2_with ((with_reducible refine load_arr (w.heap.size + 1) ds (Eq.trans ?_ rfl) HBx.out _ Tryd.underlying50 rfl hdi ?_); rfl)
  have hb8 := Hb8.out
  exact bodyPost_ret (v := .agg ds) (results_cell_row Tryd.results57 _ _ w.heap.size _ _ _ _ rfl hb8 Tryd.underlying50 rfl (by rw [List.size_toArray, Array.length_toList]; exact hdi)) rfl ⟨ds, rfl, HDS.out, HKX.out.grown Hg8.out HKX.out.size (fun q hq => by injection hq with hq; omega)⟩
set_option maxRecDepth 100000 in
set_option maxHeartbeats 4000000 in
theorem message_1 (A : Option Addr) (c : Nat) (w : World) (hM : MsgR.ok (msgZ 1)) (hr : Rd w A (([] : List PV).map PV.val)) :
    Calls Tryd.prog 57 #[.int .i64 1, .slice A 0 c] w fun e w' => ∃ ds, e = .returned (.agg ds) ∧ MsA (msgZ 1) ds ∧ Keep w w' := by
  obtain ⟨ys, hyz, hyA⟩ := zmsg_letter
  obtain ⟨ks, hks⟩ : ∃ ks : Array Value, ks = (msgZ 1).cells.toArray := ⟨_, rfl⟩
  have hkA : MsA (msgZ 1) ks := by rw [hks]; exact MsA.of (msgZ_ok _ (by omega))
  have HBu : Hid (Tryd.prog.built 50 [(0, .int .i64 1)] = some ks) := Lib.hid (by rw [hks]; exact msg_built _)
  clear hks
  have hyn := hyA.n; have hkn := hkA.n; have hkz := hkA.z; have hyzz := hyA.z
  have HY := Lib.hid hyA; have HKS := Lib.hid hkA
  have HMO := Lib.hid hM
  have HZO := Lib.hid (msgZ_ok 1 (by omega))
  have HS : Hid ((msgZ 1).stop.length = 32) := Lib.hid rfl
  have HB : Hid ((msgZ 1).bh.ok) := Lib.hid ⟨rfl, rfl⟩
  have hst : (storeCells ⟨w.heap.size + 1, 0, none⟩ ks.toList 0).run Tryd.prog ((w.alloc (.cells ys 50)).alloc (.cells ys 50)) = .ok () ((w.alloc (.cells ys 50)).alloc (.cells ks 50)) := by
    have q := run_storeCells_new (P := Tryd.prog) (w.alloc (.cells ys 50)) 50 ys ks HKS.out.i (hyA.z.trans hkA.z.symm) (by have := all_oneCell_toArray HKS.out.o; simpa using this)
    rw [World.size_alloc] at q
    exact q
  clear hyA hkA hM hyzz
  obtain ⟨M, hMM⟩ : ∃ M, (msgZ 1) = M := ⟨_, rfl⟩
  rw [hMM] at HMO
  rw [hMM]
  have HMM := Lib.hid hMM
  clear hMM
  clear hr
  go_enter Tryd.func57, Tryd.ntmps57
  go_upto_region 2 with ((with_reducible refine list_bldg [(0, .int .i64 1)] ks (Eq.trans ?_ rfl) HBu.out (Eq.trans ?_ rfl) ?_); rfl; rfl)
  obtain ⟨w1, hw1⟩ : ∃ w1, w1 = (w.alloc (.cells ys 50)).alloc (.cells ks 50) := ⟨_, rfl⟩
  have HR1 : Hid (Blk w1 w.heap.size 50 ys.toList) := by rw [hw1]; exact Lib.hid ((Blk.new w _ ys.toList).alloc _)
  have HX1 : Hid (Blk w1 (w.heap.size + 1) 50 (msgZ 1).cells) := by
    rw [hw1, ← HKS.out.l]
    have h2 := Blk.new (w.alloc (.cells ys 50)) 50 ks.toList
    rw [World.size_alloc] at h2
    exact Lib.hid h2
  have HK1 : Hid (Keep w w1) := by rw [hw1]; exact Lib.hid (keep_trans (keep_new _ _) (keep_new _ _))
  rw [← hw1]
  clear hw1 hst
  go_upto_region 21 with fail
  obtain ⟨wx, hwx⟩ : ∃ wx, wx = w1 := ⟨_, rfl⟩
  have HX : Hid (Blk wx (w.heap.size + 1) 50 M.cells) := by rw [hwx, ← HMM.out]; exact HX1
  have HRX : Hid (Blk wx w.heap.size 50 ys.toList) := by rw [hwx]; exact HR1
  have HKX : Hid (Keep w wx) := by rw [hwx]; exact HK1
  rw [← hwx]
  clear hwx HX1 HR1 HK1
  obtain ⟨ds, hds⟩ : ∃ ds, MsA M ds := ⟨_, MsA.of HMO.out⟩
  have hdz := hds.z; have hdn := hds.n; have hdi := hds.i
  have HDS := Lib.hid hds
  have HBx : Hid (Blk wx (w.heap.size + 1) 50 ds.toList) := by rw [HDS.out.l]; exact HX.out
  obtain ⟨w8, hst8, hb8, hg8⟩ := run_store_blk (P := Tryd.prog) ds.toList HRX.out (by rw [Array.length_toList, Array.length_toList, hdz, HY.out.z]) HDS.out.o
  have Hb8 := Lib.hid hb8; have Hg8 := Lib.hid hg8
  clear hds hb8 hg8 HX HRX
  go_wp2_with ((with_reducible refine load_arr (w.heap.size + 1) ds (Eq.trans ?_ rfl) HBx.out _ Tryd.underlying50 rfl hdi ?_); rfl)
  have hb8 := Hb8.out
  exact bodyPost_ret (v := .agg ds) (results_cell_row Tryd.results57 _ _ w.heap.size _ _ _ _ rfl hb8 Tryd.underlying50 rfl (by rw [List.size_toArray, Array.length_toList]; exact hdi)) rfl ⟨ds, rfl, HDS.out, HKX.out.grown Hg8.out HKX.out.size (fun q hq => by injection hq with hq; omega)⟩
set_option maxRecDepth 100000 in
set_option maxHeartbeats 4000000 in
theorem message_4 (p : UInt32) (lA : Option Addr) (l : List (List UInt8)) (lc most : Nat) (s : List UInt8) (A : Option Addr) (c : Nat) (w : World) (hM : MsgR.ok { msgZ 4 with proto := p, lA := lA, ls := l, lc := lc, stop := s }) (hr : Rd w A (([.u32 p, .hsh lA l lc most, .h32 s] : List PV).map PV.val)) :
    Calls Tryd.prog 57 #[.int .i64 4, .slice A 3 c] w fun e w' => ∃ ds, e = .returned (.agg ds) ∧ MsA { msgZ 4 with proto := p, lA := lA, ls := l, lc := lc, stop := s } ds ∧ Keep w w' := by
  have hs32 : s.length = 32 := hM.s
  obtain ⟨ss, hss⟩ : ∃ ss, HashA s ss := ⟨_, HashA.of hs32⟩
  have hsn := hss.n; have hsz := hss.z; have hsi := hss.i
  have HSS := Lib.hid hss; have HS32 := Lib.hid hs32
  clear hs32
  obtain ⟨ys, hyz, hyA⟩ := zmsg_letter
  obtain ⟨ks, hks⟩ : ∃ ks : Array Value, ks = (msgZ 4).cells.toArray := ⟨_, rfl⟩
  have hkA : MsA (msgZ 4) ks := by rw [hks]; exact MsA.of (msgZ_ok _ (by omega))
  have HBu : Hid (Tryd.prog.built 50 [(0, .int .i64 4)] = some ks) := Lib.hid (by rw [hks]; exact msg_built _)
  clear hks
  have hyn := hyA.n; have hkn := hkA.n; have hkz := hkA.z; have hyzz := hyA.z
  have HY := Lib.hid hyA; have HKS := Lib.hid hkA
  have HMO := Lib.hid hM
  have HZO := Lib.hid (msgZ_ok 4 (by omega))
  have HS : Hid ((msgZ 4).stop.length = 32) := Lib.hid rfl
  have HB : Hid ((msgZ 4).bh.ok) := Lib.hid ⟨rfl, rfl⟩
  have hst : (storeCells ⟨w.heap.size + 1, 0, none⟩ ks.toList 0).run Tryd.prog ((w.alloc (.cells ys 50)).alloc (.cells ys 50)) = .ok () ((w.alloc (.cells ys 50)).alloc (.cells ks 50)) := by
    have q := run_storeCells_new (P := Tryd.prog) (w.alloc (.cells ys 50)) 50 ys ks HKS.out.i (hyA.z.trans hkA.z.symm) (by have := all_oneCell_toArray HKS.out.o; simpa using this)
    rw [World.size_alloc] at q
    exact q
  clear hyA hkA hM hyzz
  generalize hMM : { msgZ 4 with proto := p, lA := lA, ls := l, lc := lc, stop := s } = M at *
  have HMM := Lib.hid hMM
  clear hMM
  obtain ⟨g, off, rfl, hgb, hcell⟩ := hr.at (k := 0) (by simp)
  have c0 : w.cell? ⟨g, off, none⟩ = some (.iface 22 (u32v p)) := hcell 0 (by simp)
  have c1 : w.cell? ⟨g, off + 1, none⟩ = some (.iface 143 (.agg #[.slice lA l.length lc, u64v most])) := hcell 1 (by simp)
  have c2 : w.cell? ⟨g, off + 2, none⟩ = some (.iface 39 (.agg ss)) := by
    have q := hcell 2 (by simp)
    simp only [List.map_cons, List.getElem_cons_succ, List.getElem_cons_zero, PV.val] at q
    rw [hss.e] at q
    exact q
  clear hss
  clear hr hcell
  have Y0 : ∀ y, (Instr.typeAssert (.iface 22 (u32v p)) 20 22 false).run Tryd.prog y = .ok (u32v p) y := run_assert_must Tryd.underlying22 rfl _ _
  have Y1 : ∀ y, (Instr.typeAssert (.iface 143 (.agg #[.slice lA l.length lc, u64v most])) 20 143 false).run Tryd.prog y = .ok (.agg #[.slice lA l.length lc, u64v most]) y := run_assert_must Tryd.underlying143 rfl _ _
  have Y2 : ∀ y, (Instr.typeAssert (.iface 39 (.agg ss)) 20 39 false).run Tryd.prog y = .ok (.agg ss) y := run_assert_must hash_under rfl _ _
  have FD : ∀ y, (Instr.field 143 (.agg #[.slice lA l.length lc, u64v most]) 0).run Tryd.prog y = .ok (.slice lA l.length lc) y := hsh_field _ _ _ _
  go_enter Tryd.func57, Tryd.ntmps57
  go_upto_region 2 with ((with_reducible refine list_bldg [(0, .int .i64 4)] ks (Eq.trans ?_ rfl) HBu.out (Eq.trans ?_ rfl) ?_); rfl; rfl)
  obtain ⟨w1, hw1⟩ : ∃ w1, w1 = (w.alloc (.cells ys 50)).alloc (.cells ks 50) := ⟨_, rfl⟩
  have HR1 : Hid (Blk w1 w.heap.size 50 ys.toList) := by rw [hw1]; exact Lib.hid ((Blk.new w _ ys.toList).alloc _)
  have HX1 : Hid (Blk w1 (w.heap.size + 1) 50 (msgZ 4).cells) := by
    rw [hw1, ← HKS.out.l]
    have h2 := Blk.new (w.alloc (.cells ys 50)) 50 ks.toList
    rw [World.size_alloc] at h2
    exact Lib.hid h2
  have HK1 : Hid (Keep w w1) := by rw [hw1]; exact Lib.hid (keep_trans (keep_new _ _) (keep_new _ _))
  rw [← hw1]
  clear hw1 hst
  replace c0 := keep_cell HK1.out c0
  replace c1 := keep_cell HK1.out c1
  replace c2 := keep_cell HK1.out c2
  go_upto_region 9 with fail
  letI iM : G.Mk := ⟨some (w.heap.size + 1)⟩
  refine G.wp_region_tree (.take [0,1,2,3,4,5,6,7,8,9,10,11,12,13] (.force [14] (.take [15] (.force [16] (.take [17] (.force [18] .done)))))) [] (by kernel_rfl) (by kernel_rfl) (fun wa1 ka => ?_)
  have hneG : G.Mk.m ≠ some g := fun q => by have e : w.heap.size + 1 = g := Option.some.inj q; omega
  have HXa := Lib.hid (HX1.out.keep ka); have HRa := Lib.hid (HR1.out.keep ka); have HKa := Lib.hid (keep_trans HK1.out ka)
  replace c0 := keep_cell ka c0
  have b0 := G.aftG_cell c0 hneG
  replace c1 := keep_cell ka c1
  have b1 := G.aftG_cell c1 hneG
  replace c2 := keep_cell ka c2
  have b2 := G.aftG_cell c2 hneG
  clear ka HX1 HR1 HK1
  refine G.mt_take wa1 (G.Gr.refl _) ?_
  simp only [pick_cons, pick_nil, nth_zero, nth_succ]
  repeat (go_big_quiet_step (fail))
  refine wpQuiet_nil (G.mt_force ?_)
  clear b0 b1 b2 hneG
  simp only [pick_cons, pick_nil, nth_zero, nth_succ]
  refine G.fc_step rfl (fun K hK => ?_)
  have z0 : ∃ v, wa1.cell? ⟨w.heap.size + 1, 1, none⟩ = some v := ⟨_, (HXa.out.cell 1).trans (List.getElem?_eq_getElem (by rw [MsgR.len2 (m := (msgZ 4)) HS.out HB.out]; omega))⟩
  obtain ⟨v0, z0⟩ := z0
  have y0 := HXa.out.frozen 1
  go_simp
  refine hK _ _ (show G.Gr wa1 _ from grown_set (grown_refl wa1 _)) ?_
  clear hK K z0 y0
  obtain ⟨wb10, hwb⟩ : ∃ wb, wb = wa1.setCell ⟨w.heap.size + 1, 1, none⟩ (u32v p) := ⟨_, rfl⟩
  have HXb10 : Hid (Blk wb10 (w.heap.size + 1) 50 (MsgR.cells { msgZ 4 with proto := p })) := by
    rw [hwb]
    have q := HXa.out.set_ 1 (u32v p)
    exact Lib.hid q
  have HRb10 : Hid (Blk wb10 w.heap.size 50 ys.toList) := by rw [hwb]; exact Lib.hid (HRa.out.far (by simp) _)
  have HKb10 : Hid (Keep w wb10) := by rw [hwb]; exact Lib.hid (Below.setCell HKa.out (by simp) _)
  rw [← hwb]
  clear hwb HXa HRa HKa
  refine G.fc_nil (G.mt_take _ (G.Gr.refl _) ?_)
  simp only [pick_cons, pick_nil, nth_zero, nth_succ]
  repeat (go_big_quiet_step (fail))
  refine wpQuiet_nil (G.mt_force ?_)
  simp only [pick_cons, pick_nil, nth_zero, nth_succ]
  refine G.fc_step rfl (fun K hK => ?_)
  have z0 : ∃ v, wb10.cell? ⟨w.heap.size + 1, 5, none⟩ = some v := ⟨_, (HXb10.out.cell 5).trans (List.getElem?_eq_getElem (by rw [MsgR.len2 (m := { msgZ 4 with proto := p }) HS.out HB.out]; omega))⟩
  obtain ⟨v0, z0⟩ := z0
  have y0 := HXb10.out.frozen 5
  go_simp
  refine hK _ _ (show G.Gr wb10 _ from grown_set (grown_refl wb10 _)) ?_
  clear hK K z0 y0
  obtain ⟨wb11, hwb⟩ : ∃ wb, wb = wb10.setCell ⟨w.heap.size + 1, 5, none⟩ (.slice lA l.length lc) := ⟨_, rfl⟩
  have HXb11 : Hid (Blk wb11 (w.heap.size + 1) 50 (MsgR.cells { msgZ 4 with proto := p, lA := lA, ls := l, lc := lc })) := by
    rw [hwb]
    have q := HXb10.out.set_ 5 (.slice lA l.length lc)
    exact Lib.hid q
  have HRb11 : Hid (Blk wb11 w.heap.size 50 ys.toList) := by rw [hwb]; exact Lib.hid (HRb10.out.far (by simp) _)
  have HKb11 : Hid (Keep w wb11) := by rw [hwb]; exact Lib.hid (Below.setCell HKb10.out (by simp) _)
  rw [← hwb]
  clear hwb HXb10 HRb10 HKb10
  refine G.fc_nil (G.mt_take _ (G.Gr.refl _) ?_)
  simp only [pick_cons, pick_nil, nth_zero, nth_succ]
  repeat (go_big_quiet_step (fail))
  refine wpQuiet_nil (G.mt_force ?_)
  simp only [pick_cons, pick_nil, nth_zero, nth_succ]
  refine G.fc_step rfl (fun K hK => ?_)
  obtain ⟨wb12, hstp, hbx, hgx⟩ := run_store_prt (P := Tryd.prog) 6 ss.toList HXb11.out (by rw [MsgR.len2 (m := { msgZ 4 with proto := p, lA := lA, ls := l, lc := lc }) HS.out HB.out, Array.length_toList, HSS.out.z]; omega) HSS.out.o
  have hgx2 := hgx
  have HGX := Lib.hid hgx; have HBX := Lib.hid hbx
  clear hbx hgx
  go_simp
  refine hK _ _ (show G.Gr wb11 _ from hgx2) ?_
  clear hK K hstp hgx2
  have HXb12 : Hid (Blk wb12 (w.heap.size + 1) 50 (MsgR.cells { msgZ 4 with proto := p, lA := lA, ls := l, lc := lc, stop := s })) := by
    have q := HBX.out
    rw [HSS.out.l, MsgR.splice_stop2 (m := { msgZ 4 with proto := p, lA := lA, ls := l, lc := lc }) HS.out HS32.out] at q; exact Lib.hid q
  have HRb12 : Hid (Blk wb12 w.heap.size 50 ys.toList) := Lib.hid (HRb11.out.grown HGX.out (fun q => by have := Option.some.inj q; omega))
  have HKb12 : Hid (Keep w wb12) := Lib.hid (HKb11.out.grown HGX.out HKb11.out.size (fun q hq => by have := Option.some.inj hq; omega))
  clear HXb11 HRb11 HKb11 HBX HGX
  refine G.fc_nil (G.mt_end ?_)
  clear iM
  go_upto_region 21 with fail
  obtain ⟨wx, hwx⟩ : ∃ wx, wx = wb12 := ⟨_, rfl⟩
  have HX : Hid (Blk wx (w.heap.size + 1) 50 M.cells) := by rw [hwx, ← HMM.out]; exact HXb12
  have HRX : Hid (Blk wx w.heap.size 50 ys.toList) := by rw [hwx]; exact HRb12
  have HKX : Hid (Keep w wx) := by rw [hwx]; exact HKb12
  rw [← hwx]
  clear hwx HXb12 HRb12 HKb12
  obtain ⟨ds, hds⟩ : ∃ ds, MsA M ds := ⟨_, MsA.of HMO.out⟩
  have hdz := hds.z; have hdn := hds.n; have hdi := hds.i
  have HDS := Lib.hid hds
  have HBx : Hid (Blk wx (w.heap.size + 1) 50 ds.toList) := by rw [HDS.out.l]; exact HX.out
  obtain ⟨w8, hst8, hb8, hg8⟩ := run_store_blk (P := Tryd.prog) ds.toList HRX.out (by rw [Array.length_toList, Array.length_toList, hdz, HY.out.z]) HDS.out.o
  have Hb8 := Lib.hid hb8; have Hg8 := Lib.hid hg8
  clear hds hb8 hg8 HX HRX
  go_wp2_with ((with_reducible refine load_arr (w.heap.size + 1) ds (Eq.trans ?_ rfl) HBx.out _ Tryd.underlying50 rfl hdi ?_); rfl)
  have hb8 := Hb8.out
  exact bodyPost_ret (v := .agg ds) (results_cell_row Tryd.results57 _ _ w.heap.size _ _ _ _ rfl hb8 Tryd.underlying50 rfl (by rw [List.size_toArray, Array.length_toList]; exact hdi)) rfl ⟨ds, rfl, HDS.out, HKX.out.grown Hg8.out HKX.out.size (fun q hq => by injection hq with hq; omega)⟩
set_option maxRecDepth 100000 in
set_option maxHeartbeats 4000000 in
theorem message_9 (h : Hd) (t : UInt32) (sA : Option Addr) (l : List (List UInt8)) (sc most : Nat) (fA : Option Addr) (f : List UInt8) (fc : Nat) (A : Option Addr) (c : Nat) (w : World) (hM : MsgR.ok { msgZ 9 with bh := h, total := t, sA := sA, shs := l, sc := sc, fA := fA, fs := f, fc := fc }) (hr : Rd w A (([.head h, .u32 t, .hsh sA l sc most, .bytes fA f fc] : List PV).map PV.val)) :
    Calls Tryd.prog 57 #[.int .i64 9, .slice A 4 c] w fun e w' => ∃ ds, e = .returned (.agg ds) ∧ MsA { msgZ 9 with bh := h, total := t, sA := sA, shs := l, sc := sc, fA := fA, fs := f, fc := fc } ds ∧ Keep w w' := by
  have HBH : Hid h.ok := Lib.hid hM.b
  obtain ⟨hv, hhv⟩ : ∃ hv, HdA h hv := ⟨_, HdA.of hM.b⟩
  have hvn := hhv.n; have hvz := hhv.z; have hvi := hhv.i
  have HHV := Lib.hid hhv
  have hve : h.cells.toArray = hv := by rw [← hhv.l, Array.toArray_toList]
  clear hhv
  obtain ⟨ys, hyz, hyA⟩ := zmsg_letter
  obtain ⟨ks, hks⟩ : ∃ ks : Array Value, ks = (msgZ 9).cells.toArray := ⟨_, rfl⟩
  have hkA : MsA (msgZ 9) ks := by rw [hks]; exact MsA.of (msgZ_ok _ (by omega))
  have HBu : Hid (Tryd.prog.built 50 [(0, .int .i64 9)] = some ks) := Lib.hid (by rw [hks]; exact msg_built _)
  clear hks
  have hyn := hyA.n; have hkn := hkA.n; have hkz := hkA.z; have hyzz := hyA.z
  have HY := Lib.hid hyA; have HKS := Lib.hid hkA
  have HMO := Lib.hid hM
  have HZO := Lib.hid (msgZ_ok 9 (by omega))
  have HS : Hid ((msgZ 9).stop.length = 32) := Lib.hid rfl
  have HB : Hid ((msgZ 9).bh.ok) := Lib.hid ⟨rfl, rfl⟩
  have hst : (storeCells ⟨w.heap.size + 1, 0, none⟩ ks.toList 0).run Tryd.prog ((w.alloc (.cells ys 50)).alloc (.cells ys 50)) = .ok () ((w.alloc (.cells ys 50)).alloc (.cells ks 50)) := by
    have q := run_storeCells_new (P := Tryd.prog) (w.alloc (.cells ys 50)) 50 ys ks HKS.out.i (hyA.z.trans hkA.z.symm) (by have := all_oneCell_toArray HKS.out.o; simpa using this)
    rw [World.size_alloc] at q
    exact q
  clear hyA hkA hM hyzz
  generalize hMM : { msgZ 9 with bh := h, total := t, sA := sA, shs := l, sc := sc, fA := fA, fs := f, fc := fc } = M at *
  have HMM := Lib.hid hMM
  clear hMM
  obtain ⟨g, off, rfl, hgb, hcell⟩ := hr.at (k := 0) (by simp)
  have c0 : w.cell? ⟨g, off, none⟩ = some (.iface 42 (.agg hv)) := by
    have q := hcell 0 (by simp)
    simp only [List.map_cons, List.getElem_cons_succ, List.getElem_cons_zero, PV.val] at q
    rw [hve] at q
    exact q
  clear hve
  have c1 : w.cell? ⟨g, off + 1, none⟩ = some (.iface 22 (u32v t)) := hcell 1 (by simp)
  have c2 : w.cell? ⟨g, off + 2, none⟩ = some (.iface 143 (.agg #[.slice sA l.length sc, u64v most])) := hcell 2 (by simp)
  have c3 : w.cell? ⟨g, off + 3, none⟩ = some (.iface 26 (.slice fA f.length fc)) := hcell 3 (by simp)
  clear hr hcell
  have Y0 : ∀ y, (Instr.typeAssert (.iface 42 (.agg hv)) 20 42 false).run Tryd.prog y = .ok (.agg hv) y := run_assert_must Tryd.underlying42 rfl _ _
  have Y1 : ∀ y, (Instr.typeAssert (.iface 22 (u32v t)) 20 22 false).run Tryd.prog y = .ok (u32v t) y := run_assert_must Tryd.underlying22 rfl _ _
  have Y2 : ∀ y, (Instr.typeAssert (.iface 143 (.agg #[.slice sA l.length sc, u64v most])) 20 143 false).run Tryd.prog y = .ok (.agg #[.slice sA l.length sc, u64v most]) y := run_assert_must Tryd.underlying143 rfl _ _
  have Y3 : ∀ y, (Instr.typeAssert (.iface 26 (.slice fA f.length fc)) 20 26 false).run Tryd.prog y = .ok (.slice fA f.length fc) y := run_assert_must Tryd.underlying26 rfl _ _
  have FD : ∀ y, (Instr.field 143 (.agg #[.slice sA l.length sc, u64v most]) 0).run Tryd.prog y = .ok (.slice sA l.length sc) y := hsh_field _ _ _ _
  go_enter Tryd.func57, Tryd.ntmps57
  go_upto_region 2 with ((with_reducible refine list_bldg [(0, .int .i64 9)] ks (Eq.trans ?_ rfl) HBu.out (Eq.trans ?_ rfl) ?_); rfl; rfl)
  obtain ⟨w1, hw1⟩ : ∃ w1, w1 = (w.alloc (.cells ys 50)).alloc (.cells ks 50) := ⟨_, rfl⟩
  have HR1 : Hid (Blk w1 w.heap.size 50 ys.toList) := by rw [hw1]; exact Lib.hid ((Blk.new w _ ys.toList).alloc _)
  have HX1 : Hid (Blk w1 (w.heap.size + 1) 50 (msgZ 9).cells) := by
    rw [hw1, ← HKS.out.l]
    have h2 := Blk.new (w.alloc (.cells ys 50)) 50 ks.toList
    rw [World.size_alloc] at h2
    exact Lib.hid h2
  have HK1 : Hid (Keep w w1) := by rw [hw1]; exact Lib.hid (keep_trans (keep_new _ _) (keep_new _ _))
  rw [← hw1]
  clear hw1 hst
  have C2 := Lib.hid c2
  have C3 := Lib.hid c3
  clear c2 c3
  replace c0 := keep_cell HK1.out c0
  replace c1 := keep_cell HK1.out c1
  go_upto_region 17 with fail
  letI iM : G.Mk := ⟨some (w.heap.size + 1)⟩
  refine G.wp_region_tree (.take [0,1,2,3,4,5,6,7,8,9] (.force [10] (.take [11,12] (.force [13] .done)))) [] (by kernel_rfl) (by kernel_rfl) (fun wa1 ka => ?_)
  have hneG : G.Mk.m ≠ some g := fun q => by have e : w.heap.size + 1 = g := Option.some.inj q; omega
  have HXa := Lib.hid (HX1.out.keep ka); have HRa := Lib.hid (HR1.out.keep ka); have HKa := Lib.hid (keep_trans HK1.out ka)
  replace c0 := keep_cell ka c0
  have b0 := G.aftG_cell c0 hneG
  replace c1 := keep_cell ka c1
  have b1 := G.aftG_cell c1 hneG
  clear ka HX1 HR1 HK1
  refine G.mt_take wa1 (G.Gr.refl _) ?_
  simp only [pick_cons, pick_nil, nth_zero, nth_succ]
  repeat (go_big_quiet_step (fail))
  refine wpQuiet_nil (G.mt_force ?_)
  clear b0 b1 hneG
  simp only [pick_cons, pick_nil, nth_zero, nth_succ]
  refine G.fc_step rfl (fun K hK => ?_)
  obtain ⟨wb10, hstp, hbx, hgx⟩ := run_store_prt (P := Tryd.prog) 39 hv.toList HXa.out (by rw [MsgR.len2 (m := (msgZ 9)) HS.out HB.out, Array.length_toList, HHV.out.z]; omega) HHV.out.o
  have hgx2 := hgx
  have HGX := Lib.hid hgx; have HBX := Lib.hid hbx
  clear hbx hgx
  go_simp
  refine hK _ _ (show G.Gr wa1 _ from hgx2) ?_
  clear hK K hstp hgx2
  have HXb10 : Hid (Blk wb10 (w.heap.size + 1) 50 (MsgR.cells { msgZ 9 with bh := h })) := by
    have q := HBX.out
    rw [HHV.out.l, MsgR.splice_bh HS.out HB.out HBH.out] at q; exact Lib.hid q
  have HRb10 : Hid (Blk wb10 w.heap.size 50 ys.toList) := Lib.hid (HRa.out.grown HGX.out (fun q => by have := Option.some.inj q; omega))
  have HKb10 : Hid (Keep w wb10) := Lib.hid (HKa.out.grown HGX.out HKa.out.size (fun q hq => by have := Option.some.inj hq; omega))
  clear HXa HRa HKa HBX HGX
  clear HB
  have HB := HBH
  refine G.fc_nil (G.mt_take _ (G.Gr.refl _) ?_)
  simp only [pick_cons, pick_nil, nth_zero, nth_succ]
  repeat (go_big_quiet_step (fail))
  refine wpQuiet_nil (G.mt_force ?_)
  simp only [pick_cons, pick_nil, nth_zero, nth_succ]
  refine G.fc_step rfl (fun K hK => ?_)
  have z0 : ∃ v, wb10.cell? ⟨w.heap.size + 1, 107, none⟩ = some v := ⟨_, (HXb10.out.cell 107).trans (List.getElem?_eq_getElem (by rw [MsgR.len2 (m := { msgZ 9 with bh := h }) HS.out HB.out]; omega))⟩
  obtain ⟨v0, z0⟩ := z0
  have y0 := HXb10.out.frozen 107
  go_simp
  refine hK _ _ (show G.Gr wb10 _ from grown_set (grown_refl wb10 _)) ?_
  clear hK K z0 y0
  obtain ⟨wb11, hwb⟩ : ∃ wb, wb = wb10.setCell ⟨w.heap.size + 1, 107, none⟩ (u32v t) := ⟨_, rfl⟩
  have HXb11 : Hid (Blk wb11 (w.heap.size + 1) 50 (MsgR.cells { msgZ 9 with bh := h, total := t })) := by
    rw [hwb]
    have q := HXb10.out.set_ 107 (u32v t)
    rw [MsgR.set107 (m := { msgZ 9 with bh := h }) HS.out HB.out] at q; exact Lib.hid q
  have HRb11 : Hid (Blk wb11 w.heap.size 50 ys.toList) := by rw [hwb]; exact Lib.hid (HRb10.out.far (by simp) _)
  have HKb11 : Hid (Keep w wb11) := by rw [hwb]; exact Lib.hid (Below.setCell HKb10.out (by simp) _)
  rw [← hwb]
  clear hwb HXb10 HRb10 HKb10
  refine G.fc_nil (G.mt_end ?_)
  clear iM
  have c2 := keep_cell HKb11.out C2.out
  have c3 := keep_cell HKb11.out C3.out
  go_upto_region 18 with fail
  letI iM : G.Mk := ⟨some (w.heap.size + 1)⟩
  refine G.wp_region_tree (.take [0,1,2,3,4,5,6,7,8,9,10] (.force [11] (.take [12,13] (.force [14] .done)))) [] (by kernel_rfl) (by kernel_rfl) (fun wa2 ka => ?_)
  have hneG : G.Mk.m ≠ some g := fun q => by have e : w.heap.size + 1 = g := Option.some.inj q; omega
  have HXa := Lib.hid (HXb11.out.keep ka); have HRa := Lib.hid (HRb11.out.keep ka); have HKa := Lib.hid (keep_trans HKb11.out ka)
  replace c2 := keep_cell ka c2
  have b2 := G.aftG_cell c2 hneG
  replace c3 := keep_cell ka c3
  have b3 := G.aftG_cell c3 hneG
  clear ka HXb11 HRb11 HKb11
  refine G.mt_take wa2 (G.Gr.refl _) ?_
  simp only [pick_cons, pick_nil, nth_zero, nth_succ]
  repeat (go_big_quiet_step (fail))
  refine wpQuiet_nil (G.mt_force ?_)
  clear b2 b3 hneG
  simp only [pick_cons, pick_nil, nth_zero, nth_succ]
  refine G.fc_step rfl (fun K hK => ?_)
  have z0 : ∃ v, wa2.cell? ⟨w.heap.size + 1, 108, none⟩ = some v := ⟨_, (HXa.out.cell 108).trans (List.getElem?_eq_getElem (by rw [MsgR.len2 (m := { msgZ 9 with bh := h, total := t }) HS.out HB.out]; omega))⟩
  obtain ⟨v0, z0⟩ := z0
  have y0 := HXa.out.frozen 108
  go_simp
  refine hK _ _ (show G.Gr wa2 _ from grown_set (grown_refl wa2 _)) ?_
  clear hK K z0 y0
  obtain ⟨wb20, hwb⟩ : ∃ wb, wb = wa2.setCell ⟨w.heap.size + 1, 108, none⟩ (.slice sA l.length sc) := ⟨_, rfl⟩
  have HXb20 : Hid (Blk wb20 (w.heap.size + 1) 50 (MsgR.cells { msgZ 9 with bh := h, total := t, sA := sA, shs := l, sc := sc })) := by
    rw [hwb]
    have q := HXa.out.set_ 108 (.slice sA l.length sc)
    rw [MsgR.set108 (m := { msgZ 9 with bh := h, total := t }) HS.out HB.out] at q; exact Lib.hid q
  have HRb20 : Hid (Blk wb20 w.heap.size 50 ys.toList) := by rw [hwb]; exact Lib.hid (HRa.out.far (by simp) _)
  have HKb20 : Hid (Keep w wb20) := by rw [hwb]; exact Lib.hid (Below.setCell HKa.out (by simp) _)
  rw [← hwb]
  clear hwb HXa HRa HKa
  refine G.fc_nil (G.mt_take _ (G.Gr.refl _) ?_)
  simp only [pick_cons, pick_nil, nth_zero, nth_succ]
  repeat (go_big_quiet_step (fail))
  refine wpQuiet_nil (G.mt_force ?_)
  simp only [pick_cons, pick_nil, nth_zero, nth_succ]
  refine G.fc_step rfl (fun K hK => ?_)
  have z0 : ∃ v, wb20.cell? ⟨w.heap.size + 1, 109, none⟩ = some v := ⟨_, (HXb20.out.cell 109).trans (List.getElem?_eq_getElem (by rw [MsgR.len2 (m := { msgZ 9 with bh := h, total := t, sA := sA, shs := l, sc := sc }) HS.out HB.out]; omega))⟩
  obtain ⟨v0, z0⟩ := z0
  have y0 := HXb20.out.frozen 109
  go_simp
  refine hK _ _ (show G.Gr wb20 _ from grown_set (grown_refl wb20 _)) ?_
  clear hK K z0 y0
  obtain ⟨wb21, hwb⟩ : ∃ wb, wb = wb20.setCell ⟨w.heap.size + 1, 109, none⟩ (.slice fA f.length fc) := ⟨_, rfl⟩
  have HXb21 : Hid (Blk wb21 (w.heap.size + 1) 50 (MsgR.cells { msgZ 9 with bh := h, total := t, sA := sA, shs := l, sc := sc, fA := fA, fs := f, fc := fc })) := by
    rw [hwb]
    have q := HXb20.out.set_ 109 (.slice fA f.length fc)
    rw [MsgR.set109 (m := { msgZ 9 with bh := h, total := t, sA := sA, shs := l, sc := sc }) HS.out HB.out] at q; exact Lib.hid q
  have HRb21 : Hid (Blk wb21 w.heap.size 50 ys.toList) := by rw [hwb]; exact Lib.hid (HRb20.out.far (by simp) _)
  have HKb21 : Hid (Keep w wb21) := by rw [hwb]; exact Lib.hid (Below.setCell HKb20.out (by simp) _)
  rw [← hwb]
  clear hwb HXb20 HRb20 HKb20
  refine G.fc_nil (G.mt_end ?_)
  clear iM
  go_upto_region 21 with fail
  obtain ⟨wx, hwx⟩ : ∃ wx, wx = wb21 := ⟨_, rfl⟩
  have HX : Hid (Blk wx (w.heap.size + 1) 50 M.cells) := by rw [hwx, ← HMM.out]; exact HXb21
  have HRX : Hid (Blk wx w.heap.size 50 ys.toList) := by rw [hwx]; exact HRb21
  have HKX : Hid (Keep w wx) := by rw [hwx]; exact HKb21
  rw [← hwx]
  clear hwx HXb21 HRb21 HKb21
  obtain ⟨ds, hds⟩ : ∃ ds, MsA M ds := ⟨_, MsA.of HMO.out⟩
  have hdz := hds.z; have hdn := hds.n; have hdi := hds.i
  have HDS := Lib.hid hds
  have HBx : Hid (Blk wx (w.heap.size + 1) 50 ds.toList) := by rw [HDS.out.l]; exact HX.out
  obtain ⟨w8, hst8, hb8, hg8⟩ := run_store_blk (P := Tryd.prog) ds.toList HRX.out (by rw [Array.length_toList, Array.length_toList, hdz, HY.out.z]) HDS.out.o
  have Hb8 := Lib.hid hb8; have Hg8 := Lib.hid hg8
  clear hds hb8 hg8 HX HRX
  go_wp2_with ((with_reducible refine load_arr (w.heap.size + 1) ds (Eq.trans ?_ rfl) HBx.out _ Tryd.underlying50 rfl hdi ?_); rfl)
  have hb8 := Hb8.out
  exact bodyPost_ret (v := .agg ds) (results_cell_row Tryd.results57 _ _ w.heap.size _ _ _ _ rfl hb8 Tryd.underlying50 rfl (by rw [List.size_toArray, Array.length_toList]; exact hdi)) rfl ⟨ds, rfl, HDS.out, HKX.out.grown Hg8.out HKX.out.size (fun q hq => by injection hq with hq; omega)⟩
end Go.Proofs.YtffpanlpbdnafaaDoor

/- wire.message: whatever the kind; shapes of what was got. -/
set_option linter.unusedSimpArgs false
set_option linter.unusedVariables false
namespace Go.Proofs.YtffpanlpbdnafaaDoor
open Go.RowKit
def PV.tag : PV → Nat
  | .u32 _ => 0
  | .u64 _ => 1
  | .hsh .. => 2
  | .h32 _ => 3
  | .heads .. => 4
  | .items .. => 5
  | .head _ => 6
  | .bytes .. => 7
  | .tx _ => 8
theorem tak_tag (p : PV) (b : List UInt8) : (p.tak b).1.tag = p.tag := by
  cases p <;> first | exact Eq.refl (0 : Nat) | exact Eq.refl (1 : Nat) | exact Eq.refl (2 : Nat) | exact Eq.refl (3 : Nat) | exact Eq.refl (4 : Nat) | exact Eq.refl (5 : Nat) | exact Eq.refl (6 : Nat) | exact Eq.refl (7 : Nat) | exact Eq.refl (8 : Nat)
theorem pl_tag (p : PV) : p.pl.tag = p.tag := by
  cases p <;> first | exact Eq.refl (0 : Nat) | exact Eq.refl (1 : Nat) | exact Eq.refl (2 : Nat) | exact Eq.refl (3 : Nat) | exact Eq.refl (4 : Nat) | exact Eq.refl (5 : Nat) | exact Eq.refl (6 : Nat) | exact Eq.refl (7 : Nat) | exact Eq.refl (8 : Nat)
theorem gets_nil (b : List UInt8) : getsN [] b = ([], b, 0) := rfl
theorem gets_ok (p : PV) (ps : List PV) (b : List UInt8) (h : (p.tak b).2.2 = 0) : getsN (p :: ps) b = ((p.tak b).1 :: (getsN ps (b.drop (p.tak b).2.1)).1, (getsN ps (b.drop (p.tak b).2.1)).2) := by
  rw [getsN, if_pos h]
theorem gets_bad (p : PV) (ps : List PV) (b : List UInt8) (h : ¬ (p.tak b).2.2 = 0) : getsN (p :: ps) b = ([], b, (p.tak b).2.2) := by
  rw [getsN, if_neg h]
theorem gets_tag : ∀ (ps : List PV) (b : List UInt8), (getsN ps b).2.2 = 0 → (getsN ps b).1.map PV.tag = ps.map PV.tag := by
  intro ps
  induction ps with
  | nil => intro b _; rw [gets_nil]
  | cons p ps ih =>
    intro b h
    by_cases h0 : (p.tak b).2.2 = 0
    · rw [gets_ok p ps b h0] at h ⊢
      have q := ih _ h
      have e := tak_tag p b
      generalize getsN ps (b.drop (p.tak b).2.1) = R at *
      generalize (p.tak b).1 = x at *
      rw [List.map_cons, List.map_cons, q, e]
    · rw [gets_bad p ps b h0] at h
      exact absurd h h0
theorem tag0 {p : PV} (h : p.tag = 0) : ∃ x, p = .u32 x := by cases p <;> first | exact ⟨_, rfl⟩ | cases h
theorem tag1 {p : PV} (h : p.tag = 1) : ∃ x, p = .u64 x := by cases p <;> first | exact ⟨_, rfl⟩ | cases h
theorem tag2 {p : PV} (h : p.tag = 2) : ∃ A l c most, p = .hsh A l c most := by cases p <;> first | exact ⟨_, _, _, _, rfl⟩ | cases h
theorem tag3 {p : PV} (h : p.tag = 3) : ∃ x, p = .h32 x := by cases p <;> first | exact ⟨_, rfl⟩ | cases h
theorem tag4 {p : PV} (h : p.tag = 4) : ∃ A l c, p = .heads A l c := by cases p <;> first | exact ⟨_, _, _, rfl⟩ | cases h
theorem tag5 {p : PV} (h : p.tag = 5) : ∃ A l c, p = .items A l c := by cases p <;> first | exact ⟨_, _, _, rfl⟩ | cases h
theorem tag6 {p : PV} (h : p.tag = 6) : ∃ x, p = .head x := by cases p <;> first | exact ⟨_, rfl⟩ | cases h
theorem tag7 {p : PV} (h : p.tag = 7) : ∃ A l c, p = .bytes A l c := by cases p <;> first | exact ⟨_, _, _, rfl⟩ | cases h
theorem tag8 {p : PV} (h : p.tag = 8) : ∃ x, p = .tx x := by cases p <;> first | exact ⟨_, rfl⟩ | cases h
theorem tags1 {qs : List PV} {x : Nat} (h : qs.map PV.tag = [x]) : ∃ a, qs = [a] ∧ a.tag = x := by
  rcases qs with _ | ⟨a, _ | ⟨b, l⟩⟩ <;> simp at h
  exact ⟨a, rfl, h⟩
theorem tags3 {qs : List PV} {x y z : Nat} (h : qs.map PV.tag = [x, y, z]) : ∃ a b c, qs = [a, b, c] ∧ a.tag = x ∧ b.tag = y ∧ c.tag = z := by
  rcases qs with _ | ⟨a, _ | ⟨b, _ | ⟨c, _ | ⟨d, l⟩⟩⟩⟩ <;> simp at h
  exact ⟨a, b, c, rfl, h⟩
theorem tags4 {qs : List PV} {x y z u : Nat} (h : qs.map PV.tag = [x, y, z, u]) : ∃ a b c d, qs = [a, b, c, d] ∧ a.tag = x ∧ b.tag = y ∧ c.tag = z ∧ d.tag = u := by
  rcases qs with _ | ⟨a, _ | ⟨b, _ | ⟨c, _ | ⟨d, _ | ⟨e, l⟩⟩⟩⟩⟩ <;> simp at h
  exact ⟨a, b, c, d, rfl, h⟩
theorem msgZ_at (k : Int) (h : -9223372036854775808 ≤ k ∧ k ≤ 9223372036854775807) (w : World) : (msgZ k).at_ w :=
  ⟨msgZ_ok k h, Rd.nil _ _, ⟨Nat.le_refl _, Nat.zero_le _⟩, Rd.nil _ _, ⟨Nat.le_refl _, Nat.zero_le _⟩, Rd.nil _ _, ⟨Nat.le_refl _, Nat.zero_le _⟩, Rd.nil _ _, ⟨Nat.le_refl _, Nat.zero_le _⟩, Rd.nil _ _, ⟨Nat.le_refl _, Nat.zero_le _⟩, txZ_at w⟩
theorem message_all (k : Nat) (hk : k < 11) (qs : List PV) (ht : qs.map PV.tag = (partsM (msgZ k)).map PV.tag) (w : World) (hat : ∀ q ∈ qs, q.at_ w) (A : Option Addr) (c : Nat) (hr : Rd w A (qs.map PV.val)) :
    (msgOf k qs).at_ w ∧ (msgOf k qs).pl = msgOf k (qs.map PV.pl) ∧ Calls Tryd.prog 57 #[iv k, .slice A qs.length c] w fun e w' => ∃ ds, e = .returned (.agg ds) ∧ MsA (msgOf k qs) ds ∧ Keep w w' := by
  have z := msgZ_at k (by omega) w
  have o := z.o
  clear o z
  obtain rfl | rfl | rfl | rfl | rfl | rfl | rfl | rfl | rfl | rfl | rfl : k = 0 ∨ k = 1 ∨ k = 2 ∨ k = 3 ∨ k = 4 ∨ k = 5 ∨ k = 6 ∨ k = 7 ∨ k = 8 ∨ k = 9 ∨ k = 10 := by omega
  · have z := msgZ_at ((0 : Nat) : Int) (by omega) w
    have o := z.o
    obtain ⟨a, b, d, rfl, ha, hb, hd⟩ := tags3 (x := 0) (y := 1) (z := 0) ht
    obtain ⟨p, rfl⟩ := tag0 ha; obtain ⟨n, rfl⟩ := tag1 hb; obtain ⟨h, rfl⟩ := tag0 hd
    have hn : n < 2 ^ 64 := hat (.u64 n) (by simp)
    have hm : MsgR.at_ { msgZ (0 : Nat) with proto := p, nonce := n, height := h } w := ⟨⟨o.k, hn, o.s, o.b, o.h, o.l, o.i, o.z⟩, z.h, z.hc, z.l, z.lc, z.i, z.ic, z.s, z.sc, z.f, z.fc, z.t⟩
    exact ⟨hm, rfl, message_0 p n h A c w hm.o hr⟩
  · have z := msgZ_at ((1 : Nat) : Int) (by omega) w
    have o := z.o
    have : qs = [] := by cases qs with
      | nil => rfl
      | cons a l => cases ht
    subst this
    exact ⟨z, rfl, message_1 A c w z.o hr⟩
  · have z := msgZ_at ((2 : Nat) : Int) (by omega) w
    have o := z.o
    obtain ⟨a, rfl, ha⟩ := tags1 (x := 1) ht
    obtain ⟨n, rfl⟩ := tag1 ha
    have hn : n < 2 ^ 64 := hat (.u64 n) (by simp)
    have hm : MsgR.at_ { msgZ (2 : Nat) with nonce := n } w := ⟨⟨o.k, hn, o.s, o.b, o.h, o.l, o.i, o.z⟩, z.h, z.hc, z.l, z.lc, z.i, z.ic, z.s, z.sc, z.f, z.fc, z.t⟩
    exact ⟨hm, rfl, message_2 n A c w hm.o hr⟩
  · have z := msgZ_at ((3 : Nat) : Int) (by omega) w
    have o := z.o
    obtain ⟨a, rfl, ha⟩ := tags1 (x := 1) ht
    obtain ⟨n, rfl⟩ := tag1 ha
    have hn : n < 2 ^ 64 := hat (.u64 n) (by simp)
    have hm : MsgR.at_ { msgZ (3 : Nat) with nonce := n } w := ⟨⟨o.k, hn, o.s, o.b, o.h, o.l, o.i, o.z⟩, z.h, z.hc, z.l, z.lc, z.i, z.ic, z.s, z.sc, z.f, z.fc, z.t⟩
    exact ⟨hm, rfl, message_3 n A c w hm.o hr⟩
  · have z := msgZ_at ((4 : Nat) : Int) (by omega) w
    have o := z.o
    obtain ⟨a, b, d, rfl, ha, hb, hd⟩ := tags3 (x := 0) (y := 2) (z := 3) ht
    obtain ⟨p, rfl⟩ := tag0 ha; obtain ⟨lA, l, lc, most, rfl⟩ := tag2 hb; obtain ⟨s, rfl⟩ := tag3 hd
    have hl : (PV.hsh lA l lc most).at_ w := hat _ (by simp)
    have hs : s.length = 32 := hat (.h32 s) (by simp)
    have hm : MsgR.at_ { msgZ (4 : Nat) with proto := p, lA := lA, ls := l, lc := lc, stop := s } w := ⟨⟨o.k, o.n, hs, o.b, o.h, hl.1, o.i, o.z⟩, z.h, z.hc, hl.2.2, hl.2.1, z.i, z.ic, z.s, z.sc, z.f, z.fc, z.t⟩
    exact ⟨hm, rfl, message_4 p lA l lc most s A c w hm.o hr⟩
  · have z := msgZ_at ((5 : Nat) : Int) (by omega) w
    have o := z.o
    obtain ⟨a, rfl, ha⟩ := tags1 (x := 4) ht
    obtain ⟨lA, l, lc, rfl⟩ := tag4 ha
    have hl : (PV.heads lA l lc).at_ w := hat _ (by simp)
    have hm : MsgR.at_ { msgZ (5 : Nat) with hA := lA, hs := l, hc := lc } w := ⟨⟨o.k, o.n, o.s, o.b, hl.1, o.l, o.i, o.z⟩, hl.2.2, hl.2.1, z.l, z.lc, z.i, z.ic, z.s, z.sc, z.f, z.fc, z.t⟩
    exact ⟨hm, rfl, message_5 lA l lc A c w hm.o hr⟩
  · have z := msgZ_at ((6 : Nat) : Int) (by omega) w
    have o := z.o
    obtain ⟨a, rfl, ha⟩ := tags1 (x := 5) ht
    obtain ⟨lA, l, lc, rfl⟩ := tag5 ha
    have hl : (PV.items lA l lc).at_ w := hat _ (by simp)
    have hm : MsgR.at_ { msgZ (6 : Nat) with iA := lA, is := l, ic := lc } w := ⟨⟨o.k, o.n, o.s, o.b, o.h, o.l, hl.1, o.z⟩, z.h, z.hc, z.l, z.lc, hl.2.2, hl.2.1, z.s, z.sc, z.f, z.fc, z.t⟩
    exact ⟨hm, rfl, message_6 lA l lc A c w hm.o hr⟩
  · have z := msgZ_at ((7 : Nat) : Int) (by omega) w
    have o := z.o
    obtain ⟨a, rfl, ha⟩ := tags1 (x := 5) ht
    obtain ⟨lA, l, lc, rfl⟩ := tag5 ha
    have hl : (PV.items lA l lc).at_ w := hat _ (by simp)
    have hm : MsgR.at_ { msgZ (7 : Nat) with iA := lA, is := l, ic := lc } w := ⟨⟨o.k, o.n, o.s, o.b, o.h, o.l, hl.1, o.z⟩, z.h, z.hc, z.l, z.lc, hl.2.2, hl.2.1, z.s, z.sc, z.f, z.fc, z.t⟩
    exact ⟨hm, rfl, message_7 lA l lc A c w hm.o hr⟩
  · have z := msgZ_at ((8 : Nat) : Int) (by omega) w
    have o := z.o
    obtain ⟨a, rfl, ha⟩ := tags1 (x := 5) ht
    obtain ⟨lA, l, lc, rfl⟩ := tag5 ha
    have hl : (PV.items lA l lc).at_ w := hat _ (by simp)
    have hm : MsgR.at_ { msgZ (8 : Nat) with iA := lA, is := l, ic := lc } w := ⟨⟨o.k, o.n, o.s, o.b, o.h, o.l, hl.1, o.z⟩, z.h, z.hc, z.l, z.lc, hl.2.2, hl.2.1, z.s, z.sc, z.f, z.fc, z.t⟩
    exact ⟨hm, rfl, message_8 lA l lc A c w hm.o hr⟩
  · have z := msgZ_at ((9 : Nat) : Int) (by omega) w
    have o := z.o
    obtain ⟨a, b, d, e, rfl, ha, hb, hd, he⟩ := tags4 (x := 6) (y := 0) (z := 2) (u := 7) ht
    obtain ⟨h, rfl⟩ := tag6 ha; obtain ⟨t, rfl⟩ := tag0 hb; obtain ⟨lA, l, lc, most, rfl⟩ := tag2 hd; obtain ⟨fA, f, fc, rfl⟩ := tag7 he
    have hh : h.ok := hat (.head h) (by simp)
    have hl : (PV.hsh lA l lc most).at_ w := hat _ (by simp)
    have hf : (PV.bytes fA f fc).at_ w := hat _ (by simp)
    have hm : MsgR.at_ { msgZ (9 : Nat) with bh := h, total := t, sA := lA, shs := l, sc := lc, fA := fA, fs := f, fc := fc } w := ⟨⟨o.k, o.n, o.s, hh, o.h, o.l, o.i, hl.1⟩, z.h, z.hc, z.l, z.lc, z.i, z.ic, hl.2.2, hl.2.1, hf.2, hf.1, z.t⟩
    exact ⟨hm, rfl, message_9 h t lA l lc most fA f fc A c w hm.o hr⟩
  · have z := msgZ_at ((10 : Nat) : Int) (by omega) w
    have o := z.o
    obtain ⟨a, rfl, ha⟩ := tags1 (x := 8) ht
    obtain ⟨t, rfl⟩ := tag8 ha
    have hl : t.at w := hat (.tx t) (by simp)
    have hm : MsgR.at_ { msgZ (10 : Nat) with t := t } w := ⟨⟨o.k, o.n, o.s, o.b, o.h, o.l, o.i, o.z⟩, z.h, z.hc, z.l, z.lc, z.i, z.ic, z.s, z.sc, z.f, z.fc, hl⟩
    exact ⟨hm, rfl, message_10 t A c w hm.o hr⟩
end Go.Proofs.YtffpanlpbdnafaaDoor

/- wire.Get. (printed by gen_io.py) -/
set_option linter.unusedSimpArgs false
set_option linter.unusedVariables false
namespace Go.Proofs.YtffpanlpbdnafaaDoor
open Go.RowKit
attribute [local go_sem ↓] Go.wp_at_zero Go.wp_at_succ
theorem cntE_le {n : Nat} {p : SP} {L : Nat} (h : p.1 ≤ L) : (cntE n p).1 ≤ L := by unfold cntE; split <;> exact h
theorem tgetS_le (b : List UInt8) : (tgetS b).2.1 ≤ b.length := by
  rw [tgetS_eq]
  exact tkP_le (outsS_le _ (ctP_le (insS_le _ (cntE_le (ctP_le (tkP_le (Nat.zero_le _)))))))
theorem tak_le (p : PV) (b : List UInt8) (h : (p.tak b).2.2 = 0) : (p.tak b).2.1 ≤ b.length := by
  cases p with
  | u32 x =>
    replace h : (if b.length < 4 then (1 : Int) else 0) = 0 := h
    show 4 ≤ b.length
    by_cases q : b.length < 4
    · rw [if_pos q] at h; cases h
    · omega
  | u64 x =>
    replace h : (if b.length < 8 then (1 : Int) else 0) = 0 := h
    show 8 ≤ b.length
    by_cases q : b.length < 8
    · rw [if_pos q] at h; cases h
    · omega
  | hsh A l c most =>
    show (thsN b most).2.1 ≤ _
    unfold thsN
    split
    · split
      · exact Nat.zero_le _
      · show _ + _ ≤ _; omega
    · exact Nat.zero_le _
  | h32 s =>
    replace h : (if b.length < 32 then (1 : Int) else 0) = 0 := h
    show (if b.length < 32 then 0 else 32) ≤ b.length
    by_cases q : b.length < 32
    · rw [if_pos q] at h; cases h
    · rw [if_neg q]; omega
  | heads A l c => exact Nat.le_refl _
  | items A l c =>
    show (titN b).2.1 ≤ _
    unfold titN
    split
    · split
      · exact Nat.zero_le _
      · show _ + _ ≤ _; omega
    · exact Nat.zero_le _
  | head x =>
    replace h : (if b.length < 80 then (1 : Int) else 0) = 0 := h
    show 80 ≤ b.length
    by_cases q : b.length < 80
    · rw [if_pos q] at h; cases h
    · omega
  | bytes A l c => exact (byt_le b 1024).1
  | tx t =>
    show (tgetN b).2.1 ≤ _
    unfold tgetN
    split
    · exact tgetS_le b
    · exact Nat.zero_le _
theorem anyT : ElT Tryd.prog 122 20 .nilIface 1 16 := ElT.mk' Tryd.underlying122 (by kernel_rfl) rfl (by omega)
theorem wp_build_one {P : Program} {t e : TypeId} {bytes : Nat} (T : ElT P t e .nilIface 1 bytes) {o : Oper} {a : Act} {w : World} {K : Act → World → Prop} {Q : Exit → Act → World → Prop} (x : Operand) (ho : o.op = .buildSlice t 1 #[(0, x)])
    (v : Value) (hz : v.cells = #[v]) (hx : a.eval x = v)
    (h : K (a.put o.dst (.slice (some ⟨w.heap.size, 0, none⟩) 1 1)) (w.alloc (.cells #[v] e))) : o.wp P a w K Q := by
  obtain ⟨i, hi, hiz, his, _⟩ := T.info
  refine wp_buildSlice t e 1 _ ho #[v] i .nilIface T.und hi hiz (by rw [his]; omega) (by rw [his]; omega) ?_ h
  have hn : Value.nilIface.cells = #[Value.nilIface] := rfl
  simp only [List.map_toArray, List.map_cons, List.map_nil, hx, Instr.fill, hz, his, hn, Nat.zero_mul, Nat.one_mul]
  simp [Array.range, Array.ofFn_succ]
theorem list_build_one {P : Program} {t e : TypeId} {bytes : Nat} (T : ElT P t e .nilIface 1 bytes) {ops : Array Oper} {rest : List Oper} {a : Act} {w : World} {Q : Exit → Act → World → Prop} {x : Operand} {dst : Option Tmp} {ty' : TypeId} {pos : String} {af : Array Edge}
    (v : Value) (hz : v.cells = #[v]) (hx : a.eval x = v)
    (h : wpList P ops Q rest (a.put dst (.slice (some ⟨w.heap.size, 0, none⟩) 1 1)) (w.alloc (.cells #[v] e))) : wpList P ops Q ({ dst := dst, op := .buildSlice t 1 #[(0, x)], type := ty', pos := pos, after := af, guard := none } :: rest) a w :=
  wpList_plain rfl fun _ hK => wp_build_one T x rfl v hz hx (hK _ _ h)
theorem PV.val_if (p : PV) : ∃ t v, p.val = .iface t v := by cases p <;> exact ⟨_, _, rfl⟩
theorem PV.val_cells (p : PV) : p.val.cells = #[p.val] := by obtain ⟨t, v, e⟩ := p.val_if; rw [e]; rfl
theorem PV.val_one (p : PV) : p.val.oneCell' = true := by obtain ⟨t, v, e⟩ := p.val_if; rw [e]; rfl
theorem parts_like (k : Int) : ∀ p ∈ partsM (msgZ k), p.like := by
  have f7 : (PV.h32 (msgZ k).stop).like := (show z32.length = 32 from rfl)
  have f8 : (PV.head (msgZ k).bh).like := (show zHdr.ok from ⟨rfl, rfl⟩)
  have f1 : (PV.hsh (msgZ k).lA (msgZ k).ls (msgZ k).lc 101).like := (show (101 : Nat) ≤ 1000000 by omega)
  have f4 : (PV.hsh (msgZ k).sA (msgZ k).shs (msgZ k).sc 4096).like := (show (4096 : Nat) ≤ 1000000 by omega)
  generalize msgZ k = m at *
  intro p hp
  unfold partsM at hp
  split at hp
  · simp only [List.mem_cons, List.not_mem_nil, or_false] at hp
    rcases hp with rfl | rfl | rfl <;> trivial
  split at hp
  · simp only [List.mem_cons, List.not_mem_nil, or_false] at hp
    subst hp; trivial
  split at hp
  · simp only [List.mem_cons, List.not_mem_nil, or_false] at hp
    rcases hp with rfl | rfl | rfl <;> first | assumption | trivial
  split at hp
  · simp only [List.mem_cons, List.not_mem_nil, or_false] at hp
    subst hp; trivial
  split at hp
  · simp only [List.mem_cons, List.not_mem_nil, or_false] at hp
    subst hp; trivial
  split at hp
  · simp only [List.mem_cons, List.not_mem_nil, or_false] at hp
    rcases hp with rfl | rfl | rfl | rfl <;> first | assumption | trivial
  split at hp
  · simp only [List.mem_cons, List.not_mem_nil, or_false] at hp
    subst hp; trivial
  · cases hp
def AtAll (B : Nat) (w : World) (v : Value) (qs : List PV) : Prop := ∀ W : World, (∀ k, B ≤ k → k < w.heap.size → v.ownBlock ≠ some k → W.heap[k]? = w.heap[k]?) → ∀ q ∈ qs, q.at_ W
theorem AtAll.more {B : Nat} {wr w4 w5 : World} {v v' : Value} {qs : List PV} {q : PV} {n : Nat} {e : TypeId} {xs : List Value} (h : AtAll B wr v qs) (own : wr.ownsRow B e 1 v n xs) (hB : B ≤ wr.heap.size) (hk : Keep wr w4) (hg : w4.grownBy w5 v.ownBlock)
    (hv : v'.ownBlock = v.ownBlock ∨ v'.ownBlock = some w4.heap.size) (hm : ∀ W, MidF (fun _ => True) wr w4 W → q.at_ W) : AtAll B w5 v' (qs ++ [q]) := by
  intro W hW
  have g4 : ∀ k, B ≤ k → k < w4.heap.size → v.ownBlock ≠ some k → W.heap[k]? = w4.heap[k]? := fun k h1 h2 h3 =>
    (hW k h1 (Nat.lt_of_lt_of_le h2 hg.size) (by
      rcases hv with e | e
      · rw [e]; exact h3
      · rw [e]; intro q; cases q; omega)).trans (hg.block k h2 (Ne.symm h3))
  intro x hx
  rcases List.mem_append.1 hx with hx | hx
  · exact h W (fun k h1 h2 h3 => (g4 k h1 (Nat.lt_of_lt_of_le h2 hk.size) h3).trans (hk.block k h2)) x hx
  · obtain rfl : x = q := by simpa using hx
    exact hm W ⟨trivial, fun k h1 h2 => g4 k (Nat.le_trans hB h1) h2 (fun e => by have := (own.lt k e).2; omega)⟩
def LeftN (G : List PV × List UInt8 × Int) (ps : List PV) (j : Nat) (qs : List PV) (b : List UInt8) : Prop := G = (qs.map PV.pl ++ (getsN (ps.drop j) b).1, (getsN (ps.drop j) b).2)
theorem LeftN.step {G : List PV × List UInt8 × Int} {ps : List PV} {j : Nat} {qs : List PV} {b : List UInt8} (h : LeftN G ps j qs b) {p : PV} (hp : ps[j]? = some p) (h0 : (p.tak b).2.2 = 0) {q : PV} (hq : q.pl = (p.tak b).1) : LeftN G ps (j + 1) (qs ++ [q]) (b.drop (p.tak b).2.1) := by
  unfold LeftN at h ⊢
  obtain ⟨hj, rfl⟩ := List.getElem?_eq_some_iff.1 hp
  rw [h, List.drop_eq_getElem_cons hj, gets_ok _ _ _ h0, List.map_append, ← hq, List.append_assoc]; rfl
theorem LeftN.bad {G : List PV × List UInt8 × Int} {ps : List PV} {j : Nat} {qs : List PV} {b : List UInt8} (h : LeftN G ps j qs b) {p : PV} (hp : ps[j]? = some p) (h0 : ¬ (p.tak b).2.2 = 0) : G.2.2 = (p.tak b).2.2 := by
  unfold LeftN at h
  obtain ⟨hj, rfl⟩ := List.getElem?_eq_some_iff.1 hp
  rw [h, List.drop_eq_getElem_cons hj, gets_bad _ _ _ h0]
theorem LeftN.end {G : List PV × List UInt8 × Int} {ps : List PV} {qs : List PV} {b : List UInt8} (h : LeftN G ps ps.length qs b) : G = (qs.map PV.pl, b, 0) := by
  unfold LeftN at h
  rw [h, List.drop_length, gets_nil, List.append_nil]
end Go.Proofs.YtffpanlpbdnafaaDoor

/- wire.Get. (printed by gen_ip.py) -/
set_option linter.unusedSimpArgs false
set_option linter.unusedVariables false
namespace Go.Proofs.YtffpanlpbdnafaaDoor
open Go.RowKit
attribute [local go_sem ↓] Go.wp_at_zero Go.wp_at_succ
theorem zmsg_built : Tryd.prog.built 50 [] = some zmsg := by kernel_rfl
theorem zmsg_letterB : ∃ zs : Array Value, (∀ w, (zeroValue 50).run Tryd.prog w = .ok (.agg zs) w) ∧ MsA (msgZ 0) zs ∧ Tryd.prog.built 50 [] = some zs :=
  ⟨zmsg, zmsg_zero, by
    have h := MsA.of (msgZ_ok 0 (by omega))
    rwa [← zmsg_list, Array.toArray_toList] at h, zmsg_built⟩
end Go.Proofs.YtffpanlpbdnafaaDoor

/- wire.Get: what comes hangs on nothing that was there before. (printed by gen_rgf.py out of XIp) -/
set_option linter.unusedSimpArgs false
set_option linter.unusedVariables false
namespace Go.Proofs.YtffpanlpbdnafaaDoor
open Go.RowKit
attribute [local go_sem ↓] Go.wp_at_zero Go.wp_at_succ
def WgdF (R : MsgR × Int) (w : World) (e : Ending) (w' : World) : Prop := ∃ m : MsgR, e = .returned (.tuple #[.agg m.cells.toArray, iv R.2]) ∧ m.pl = R.1 ∧ (∀ W, MidF (fun _ => True) w w' W → m.at_ W) ∧ Keep w w'
set_option maxRecDepth 100000 in
set_option maxHeartbeats 4000000 in
theorem get_anyF (s : List UInt8) (A : Option Addr) (b : List UInt8) (c : Nat) (w : World) (hl : b.length ≤ 1000000000) (hc : b.length ≤ c) (hcm : c ≤ maxLen) (hr : Rd w A (b.map u8v)) :
    Calls Tryd.prog 39 #[.string (str s), .slice A b.length c] w (WgdF (wgetN s b) w) := by
  obtain ⟨ys, hyz, hyA, hyb⟩ := zmsg_letterB
  have hyn := hyA.n; have hyi := hyA.i; have hys := hyA.z
  have HY := Lib.hid hyA; have HB0 := Lib.hid hyb
  have HYE : Hid (ys = (msgZ 0).cells.toArray) := Lib.hid (by rw [← hyA.l, Array.toArray_toList])
  have KT : Hid (∀ y, Calls Tryd.prog 38 #[.string (str s)] y fun e w' => e = .returned (.tuple #[iv (kindN s).1, .bool (kindN s).2]) ∧ Keep y w') := Lib.hid fun y => kind_any s y
  have HK11 : Hid ((kindN s).2 = true → (kindN s).1 < 11) := Lib.hid fun h => (kindN_spec h).2
  have HRR : Hid (wgetN s b = if (kindN s).2 = true then
      if (getsN (partsM (msgZ (kindN s).1)) b).2.2 = 0 then
        if (getsN (partsM (msgZ (kindN s).1)) b).2.1 = [] then (msgOf (kindN s).1 (getsN (partsM (msgZ (kindN s).1)) b).1, 0) else (msgZ 0, 2)
      else (msgZ 0, (getsN (partsM (msgZ (kindN s).1)) b).2.2)
    else (msgZ 0, 2)) := Lib.hid rfl
  have HR0 := Lib.hid hr; have HL := Lib.hid hl; have HC := Lib.hid hc; have HCM := Lib.hid hcm
  clear hyA hyb hr hl hc hcm
  generalize wgetN s b = R at *
  generalize kindN s = kn at *
  obtain ⟨k, ok⟩ := kn
  simp only at KT HK11 HRR
  unfold WgdF
  go_enter Tryd.func39, Tryd.ntmps39
  go_upto_region 1 with fail
  obtain ⟨w1, hw1⟩ : ∃ w1, w1 = w.alloc (.cells ys 50) := ⟨_, rfl⟩
  have HR1 : Hid (Blk w1 w.heap.size 50 ys.toList) := by rw [hw1]; exact Lib.hid (Blk.new w _ ys.toList)
  have HK1 : Hid (Keep w w1) := by rw [hw1]; exact Lib.hid (keep_new _ _)
  rw [← hw1]
  clear hw1
  have hszk := HK1.out.size
  cases ok with
  | false =>
    have hR : R = (msgZ 0, 2) := by rw [HRR.out, if_neg (by simp)]
    have HR := Lib.hid hR
    clear hR HRR HK11
    go_upto_region 3 with (go_at_call 38; refine (KT.out _).mono ?_; rintro e w2 ⟨rfl, k2⟩; have HK2 := Lib.hid (keep_trans HK1.out k2); have HR2 := Lib.hid (HR1.out.keep k2); clear k2)
    obtain ⟨w8, hst8, hb8, hg8⟩ := run_store_blk (P := Tryd.prog) ys.toList HR2.out rfl HY.out.o
    have Hb8 := Lib.hid hb8; have Hg8 := Lib.hid hg8
    clear hb8 hg8
    go_wp2_with ((with_reducible refine list_bldg [] ys (Eq.trans ?_ rfl) HB0.out (Eq.trans ?_ rfl) ?_); rfl; rfl)
    exact bodyPost_ret (v := .tuple #[.agg ys, iv 2]) (results_cell_tmp_row Tryd.results39 _ _ w.heap.size _ _ _ _ rfl Hb8.out Tryd.underlying50 rfl (by rw [List.size_toArray, Array.length_toList]; exact hyi)) rfl ⟨msgZ 0, by rw [HR.out]; simp only [HYE.out], by rw [HR.out]; rfl, (fun W _ => msgZ_at 0 (by omega) W), HK2.out.grown Hg8.out HK2.out.size (fun q hq => by injection hq with hq; omega)⟩
  | true =>
    have hk11 := HK11.out rfl
    have PT : Hid (∀ ks, MsA (msgZ k) ks → ∀ y, Calls Tryd.prog 52 #[.agg ks] y fun e w' => ∃ A, e = .returned (.slice A (partsM (msgZ k)).length (partsM (msgZ k)).length) ∧ Rd w' A ((partsM (msgZ k)).map PV.val) ∧ Keep y w') := Lib.hid fun ks h y => parts_any (msgZ k) ks h (msgZ_ok k (by omega)) y
    have PL := Lib.hid (parts_like (k : Int))
    have PN := parts_len (msgZ (k : Int))
    have MS : Hid (∀ qs : List PV, qs.map PV.tag = (partsM (msgZ k)).map PV.tag → ∀ y, (∀ q ∈ qs, q.at_ y) → ∀ A c, Rd y A (qs.map PV.val) → (msgOf k qs).at_ y ∧ (msgOf k qs).pl = msgOf k (qs.map PV.pl) ∧ Calls Tryd.prog 57 #[iv k, .slice A qs.length c] y fun e w' => ∃ ds, e = .returned (.agg ds) ∧ MsA (msgOf k qs) ds ∧ Keep y w') := Lib.hid fun qs h y hat A c hr => message_all k hk11 qs h y hat A c hr
    have GT : Hid ((getsN (partsM (msgZ k)) b).2.2 = 0 → (getsN (partsM (msgZ k)) b).1.map PV.tag = (partsM (msgZ k)).map PV.tag) := Lib.hid (gets_tag _ _)
    have L0 : Hid (LeftN (getsN (partsM (msgZ k)) b) (partsM (msgZ k)) 0 [] b) := Lib.hid rfl
    have hR : R = if (getsN (partsM (msgZ k)) b).2.2 = 0 then
        if (getsN (partsM (msgZ k)) b).2.1 = [] then (msgOf k (getsN (partsM (msgZ k)) b).1, 0) else (msgZ 0, 2)
      else (msgZ 0, (getsN (partsM (msgZ k)) b).2.2) := by rw [HRR.out, if_pos rfl]
    have HR := Lib.hid hR
    clear hR HRR HK11
    generalize getsN (partsM (msgZ k)) b = G at *
    obtain ⟨ks, hks⟩ : ∃ ks : Array Value, ks = (msgZ k).cells.toArray := ⟨_, rfl⟩
    have hkA : MsA (msgZ k) ks := by rw [hks]; exact MsA.of (msgZ_ok _ (by omega))
    have HBu : Hid (Tryd.prog.built 50 [(0, .int .i64 k)] = some ks) := Lib.hid (by rw [hks]; exact msg_built _)
    clear hks
    have PT1 := Lib.hid (PT.out ks hkA)
    have hkn := hkA.n
    clear PT hkA
    generalize partsM (msgZ k) = ps at *
    obtain ⟨n, hn⟩ : ∃ n, ps.length = n := ⟨_, rfl⟩
    have HN := Lib.hid hn
    rw [hn] at PN PT1
    clear hn
    go_upto_region 5 with (go_at_call 38; refine (KT.out _).mono ?_; rintro e w2 ⟨rfl, k2⟩; have HK2 := Lib.hid (keep_trans HK1.out k2); have HR2 := Lib.hid (HR1.out.keep k2); clear k2 HK1 HR1 KT)
    go_upto_region 6 with (first | ((with_reducible refine list_bldg [(0, .int .i64 k)] ks (Eq.trans ?_ rfl) HBu.out (Eq.trans ?_ rfl) ?_); rfl; rfl) | (go_at_call 52; refine (PT1.out _).mono ?_; rintro e w3 ⟨AP, rfl, r3, k3⟩; have HK3 := Lib.hid (keep_trans HK2.out k3); have HR3 := Lib.hid (HR2.out.keep k3); have RP := Lib.hid r3; clear k3 r3 HK2 HR2 PT1))
    have hszk3 := HK3.out.size
    have A0 : Hid (AtAll w3.heap.size w3 (.slice none 0 0) []) := Lib.hid (fun W _ q hq => by cases hq)
    have Own0 : Hid (w3.ownsRow w3.heap.size 20 1 (.slice none 0 0) 0 (([] : List PV).map PV.val)) := Lib.hid (World.ownsRow_nil _ _ _ _)
    have K0 : Hid (Keep w3 w3) := Lib.hid (Below.refl _ _)
    have R0 : Hid (Rd w3 A (b.map u8v)) := Lib.hid (HR0.out.keep HK3.out)
    have CAPS : Hid (b.length ≤ 1000000000 ∧ b.length ≤ c ∧ c ≤ maxLen) := Lib.hid ⟨HL.out, HC.out, HCM.out⟩
    clear HR0 HL HC HCM
    go_wp2_with fail
    go_loopw [1, 8, 26] (fun bv gv i wr => ∃ (j : Nat) (qs : List PV) (b' : List UInt8) (A' : Option Addr) (c' : Nat), j ≤ n ∧ i = .int .i64 j ∧ bv = .slice A' b'.length c' ∧ Hid (qs.length = j) ∧ Hid (b'.length ≤ 1000000000 ∧ b'.length ≤ c' ∧ c' ≤ maxLen) ∧ Hid (Rd w3 A' (b'.map u8v)) ∧ Hid (wr.ownsRow w3.heap.size 20 1 gv j (qs.map PV.val)) ∧ Hid (AtAll w3.heap.size wr gv qs) ∧ Hid (Keep w3 wr) ∧ Hid (LeftN G ps j qs b')) (fun _ _ i _ => n - (intOf i).toNat)
    case atStart => exact ⟨0, [], b, A, c, Nat.zero_le _, rfl, rfl, Lib.hid rfl, CAPS, R0, Own0, A0, K0, L0⟩
    case round =>
      obtain ⟨j, qs, b', A', c', hj, rfl, rfl, HQ, HCP, HRB, Own1, AT1, KR, LE⟩ := hrel
      clear Own0 K0 A0 R0 CAPS L0
      by_cases hlt : j < n
      · have d1 : (j : Int) < n := by omega
        have hjl : j < ps.length := by rw [HN.out]; exact hlt
        obtain ⟨g, off, hA', hgb, FF⟩ := (RP.out.keep KR.out).at (k := j) (by rw [List.length_map]; exact hjl)
        have c0 : wr.cell? ⟨g, off + j, none⟩ = some (ps[j].val) := by rw [FF j (by rw [List.length_map]; exact hjl), List.getElem_map]
        have HPJ : Hid (ps[j]? = some ps[j]) := Lib.hid (List.getElem?_eq_getElem hjl)
        have TK := Lib.hid (take_any ps[j] (PL.out _ (List.getElem_mem hjl)) A' b' c' wr HCP.out.1 HCP.out.2.1 HCP.out.2.2 (HRB.out.keep KR.out))
        have TL := Lib.hid (tak_le ps[j] b')
        have LB := Lib.hid (LE.out.bad HPJ.out)
        have LS : Hid (∀ q : PV, (ps[j].tak b').2.2 = 0 → q.pl = (ps[j].tak b').1 → LeftN G ps (j + 1) (qs ++ [q]) (b'.drop (ps[j].tak b').2.1)) := Lib.hid fun q h1 h2 => LE.out.step HPJ.out h1 h2
        subst hA'
        clear hgb FF HPJ LE
        generalize ps[j].val = pv at *
        generalize ps[j].tak b' = T at *
        generalize ps[j] = p at *
        obtain ⟨T1, T2, T3⟩ := T
        simp only at TK TL LB LS
        obtain ⟨bl, hbl⟩ : ∃ bl, b'.length = bl := ⟨_, rfl⟩
        have HBL := Lib.hid hbl
        by_cases h0 : T3 = 0
        · subst h0
          have hT2 := TL.out rfl
          simp only [hbl] at hT2 TK ⊢
          have hbc := HCP.out.2.1; have hbm := HCP.out.2.2
          rw [hbl] at hbc
          unfold maxLen at hbm
          clear hbl LB TL
          go_upto_region 12 with (first | (go_at_call 56; refine TK.out.mono ?_; rintro e w4 ⟨v4, rfl, q4, k4⟩; obtain ⟨q, hqv, hq1, hq2, hq3⟩ := q4 trivial; have HQ1 := Lib.hid hq1; have HQ2 := Lib.hid hq2; have HQ3 := Lib.hid hq3; have HQC : Hid (v4.cells = #[v4]) := Lib.hid (by rw [hqv]; exact q.val_cells); have HQO : Hid (v4.oneCell' = true) := Lib.hid (by rw [hqv]; exact q.val_one); have HQV := Lib.hid hqv; have K4 := Lib.hid k4; have Own4 := Lib.hid (own_keep Own1.out k4); have HWS : Hid (w3.heap.size ≤ w4.heap.size) := Lib.hid (Nat.le_trans KR.out.size k4.size); clear hqv hq1 hq2 hq3 q4 k4) | ((with_reducible refine list_build_one anyT v4 HQC.out (Eq.trans ?_ rfl) ?_); rfl) | (at_builtin; refine wpList_app anyT (by rfl) _ _ (by rfl) w3.heap.size _ _ _ (by rfl) (Own4.out.alloc _) _ 1 1 [v4] (by rfl) (by rfl) (Rd.new _ _ _) (by intro u hu; rw [List.mem_singleton.1 hu]; exact HQO.out) (by omega) (by unfold maxLen; omega) (by have := HWS.out; simp; omega) ?_; intro v6 w6 own6 hg6 hat6; have Own6 := Lib.hid own6; have HG6 := Lib.hid hg6; have HAT6 := Lib.hid hat6; clear own6 hg6 hat6))
          clear TK
          have RB6 : Hid (Rd w3 (if c' = T2 then A' else A'.map fun x => x.add T2) ((b'.drop T2).map u8v)) := Lib.hid (by
            have q := HRB.out.drop (k := T2) (cap := c') (by rw [List.length_map, HBL.out]; exact hT2) (by rw [List.length_map, HBL.out]; exact hbc)
            rw [Nat.mul_one, ← List.map_drop] at q
            exact q)
          have AT6 : Hid (AtAll w3.heap.size w6 v6 (qs ++ [q])) := Lib.hid (AT1.out.more (w4 := w4.alloc (.cells #[v4] 20)) Own1.out KR.out.size (keep_trans K4.out (keep_new _ _)) HG6.out HAT6.out (fun W hm => HQ3.out W ⟨trivial, fun k h1 h2 => (hm.2 k h1 (by simp; omega)).trans ((keep_new w4 _).block k h2)⟩))
          have KR6 : Hid (Keep w3 w6) := Lib.hid (by
            have k5 : Keep w3 (w4.alloc (.cells #[v4] 20)) := keep_trans (keep_trans KR.out K4.out) (keep_new _ _)
            exact keep_grown k5 k5.size HG6.out (Own4.out.alloc _))
          have LE6 := Lib.hid (LS.out q trivial HQ1.out)
          have HQ6 : Hid ((qs ++ [q]).length = j + 1) := Lib.hid (by rw [List.length_append, HQ.out]; rfl)
          have CP6 : Hid ((b'.drop T2).length ≤ 1000000000 ∧ (b'.drop T2).length ≤ c' - T2 ∧ c' - T2 ≤ maxLen) := Lib.hid (by rw [List.length_drop, HBL.out]; have h1 := HCP.out.1; rw [HBL.out] at h1; refine ⟨by omega, by omega, by unfold maxLen; omega⟩)
          have Own6' : Hid (w6.ownsRow w3.heap.size 20 1 v6 (j + 1) ((qs ++ [q]).map PV.val)) := Lib.hid (own_eq Own6.out rfl (by rw [List.map_append, HQV.out]; rfl))
          clear AT1 Own1 HG6 HAT6 HQ1 HQ2 HQ3 HQC HQO HQV K4 Own4 Own6 LS KR HRB HQ HCP c0 PL
          go_wp2
          go_roundw
          case rel => exact ⟨j + 1, qs ++ [q], b'.drop T2, _, c' - T2, by omega, by go_num, by rw [List.length_drop, HBL.out], HQ6, CP6, RB6, Own6', AT6, KR6, LE6⟩
          case measure => simp [intOf]; omega
        · have hG : G.2.2 = T3 := LB.out h0
          have hR : R = (msgZ 0, T3) := by rw [HR.out, if_neg (by rw [hG]; exact h0), hG]
          have HRX := Lib.hid hR
          have d2 : (T3 != 0) = true := by rw [bne_iff_ne]; exact h0
          clear hG hR HR LB LS TL hbl h0
          go_upto_region 10 with (go_at_call 56; refine TK.out.mono ?_; rintro e w4 ⟨v4, rfl, -, k4⟩; have HK4 := Lib.hid (keep_trans HK3.out (keep_trans KR.out k4)); have HR4 := Lib.hid ((HR3.out.keep KR.out).keep k4); clear k4)
          clear TK
          obtain ⟨w8, hst8, hb8, hg8⟩ := run_store_blk (P := Tryd.prog) ys.toList HR4.out rfl HY.out.o
          have Hb8 := Lib.hid hb8; have Hg8 := Lib.hid hg8
          clear hb8 hg8
          go_wp2_with ((with_reducible refine list_bldg [] ys (Eq.trans ?_ rfl) HB0.out (Eq.trans ?_ rfl) ?_); rfl; rfl)
          exact bodyPost_ret (v := .tuple #[.agg ys, iv T3]) (results_cell_tmp_row Tryd.results39 _ _ w.heap.size _ _ _ _ rfl Hb8.out Tryd.underlying50 rfl (by rw [List.size_toArray, Array.length_toList]; exact hyi)) rfl ⟨msgZ 0, by rw [HRX.out]; simp only [HYE.out], by rw [HRX.out]; rfl, (fun W _ => msgZ_at 0 (by omega) W), HK4.out.grown Hg8.out HK4.out.size (fun q hq => by injection hq with hq; omega)⟩
      · obtain rfl : j = n := by omega
        have d1 : ¬ (j : Int) < j := by omega
        have hG : G = (qs.map PV.pl, b', 0) := by
          have q := LE.out
          rw [← HN.out] at q
          exact q.end
        have HTG : Hid (qs.map PV.tag = ps.map PV.tag) := Lib.hid (by
          have q := GT.out (by rw [hG])
          rw [hG, List.map_map] at q
          rw [← q]
          exact List.map_congr_left fun x _ => (pl_tag x).symm)
        have HAT : Hid (∀ q ∈ qs, q.at_ wr) := Lib.hid (AT1.out wr (fun _ _ _ _ => rfl))
        have HKW := Lib.hid (keep_trans HK3.out KR.out)
        have HRW := Lib.hid (HR3.out.keep KR.out)
        obtain ⟨A2, c2, hu8, -, -, hrd⟩ := own_form Own1.out
        have HRD := Lib.hid hrd
        subst hu8
        have OwnF := Lib.hid Own1.out
        clear hrd GT LE Own1 HRB HCP PL
        by_cases hb : b' = []
        · subst hb
          have hR : R = (msgOf k (qs.map PV.pl), 0) := by rw [HR.out, hG]; simp
          have HRX := Lib.hid hR
          have ME := Lib.hid (MS.out qs HTG.out wr HAT.out A2 c2 HRD.out)
          rw [HQ.out] at ME
          have ME3 := Lib.hid ME.out.2.2; have ME2 := Lib.hid ME.out.2.1
          clear hR hG HR HAT HRD HQ ME
          simp only [List.length_nil]
          go_upto_region 16 with fail
          go_wp2_with (go_at_call 57; refine ME3.out.mono ?_; rintro e w4 ⟨ds, rfl, hA4, k4⟩; have HA4 := Lib.hid hA4; have hdn := hA4.n; have hdz := hA4.z; have hdi := hA4.i; have HK4 := Lib.hid (keep_trans HKW.out k4); have HR4 := Lib.hid (HRW.out.keep k4); have K4 := Lib.hid k4; obtain ⟨w8, hst8, hb8, hg8⟩ := run_store_blk (P := Tryd.prog) ds.toList HR4.out (by rw [Array.length_toList, Array.length_toList, hdz, hys]) HA4.out.o; have Hb8 := Lib.hid hb8; have Hg8 := Lib.hid hg8; clear hA4 k4 hb8 hg8)
          have HM8 : ∀ k, w3.heap.size ≤ k → k < wr.heap.size → w8.heap[k]? = wr.heap[k]? := fun k h1 h2 => (Hg8.out.block k (Nat.lt_of_lt_of_le h2 K4.out.size) (fun e => by have := Option.some.inj e; have := HR3.out.lt; omega)).trans (K4.out.block k h2)
          have HATF : ∀ W, MidF (fun _ => True) w w8 W → (msgOf k qs).at_ W := fun W hW => by
            have HMW : ∀ k, w3.heap.size ≤ k → k < wr.heap.size → W.heap[k]? = wr.heap[k]? := fun k h1 h2 => (hW.2 k (Nat.le_trans HK3.out.size h1) (Nat.lt_of_lt_of_le h2 (Nat.le_trans K4.out.size Hg8.out.size))).trans (HM8 k h1 h2)
            exact (MS.out qs HTG.out W (AT1.out W (fun k h1 h2 _ => HMW k h1 h2)) A2 c2 (own_mid (F := fun _ => True) (w := w3) OwnF.out (Nat.le_refl _) ⟨trivial, HMW⟩)).1
          exact bodyPost_ret (v := .tuple #[.agg ds, iv 0]) (results_cell_tmp_row Tryd.results39 _ _ w.heap.size _ _ _ _ rfl Hb8.out Tryd.underlying50 rfl (by rw [List.size_toArray, Array.length_toList]; exact hdi)) rfl
            ⟨msgOf k qs, by rw [HRX.out, ← HA4.out.l, Array.toArray_toList], by rw [HRX.out]; exact ME2.out, HATF, HK4.out.grown Hg8.out HK4.out.size (fun q hq => by injection hq with hq; omega)⟩
        · have hR : R = (msgZ 0, 2) := by rw [HR.out, hG]; simp [hb]
          have HRX := Lib.hid hR
          have d2 : (0 : Int) < (b'.length : Int) := by have := List.length_pos_iff.2 hb; omega
          clear hR hG HR MS HTG HAT HRD HQ hb
          go_upto_region 15 with fail
          obtain ⟨w8, hst8, hb8, hg8⟩ := run_store_blk (P := Tryd.prog) ys.toList HRW.out rfl HY.out.o
          have Hb8 := Lib.hid hb8; have Hg8 := Lib.hid hg8
          clear hb8 hg8
          go_wp2_with ((with_reducible refine list_bldg [] ys (Eq.trans ?_ rfl) HB0.out (Eq.trans ?_ rfl) ?_); rfl; rfl)
          exact bodyPost_ret (v := .tuple #[.agg ys, iv 2]) (results_cell_tmp_row Tryd.results39 _ _ w.heap.size _ _ _ _ rfl Hb8.out Tryd.underlying50 rfl (by rw [List.size_toArray, Array.length_toList]; exact hyi)) rfl ⟨msgZ 0, by rw [HRX.out]; simp only [HYE.out], by rw [HRX.out]; rfl, (fun W _ => msgZ_at 0 (by omega) W), HKW.out.grown Hg8.out HKW.out.size (fun q hq => by injection hq with hq; omega)⟩
end Go.Proofs.YtffpanlpbdnafaaDoor

/- Peers in memory; frame.bounded, New; peer.New, banned. -/
set_option linter.unusedSimpArgs false
set_option linter.unusedVariables false
namespace Go.Proofs.YtffpanlpbdnafaaDoor
open Go.RowKit
attribute [local go_sem ↓] Go.wp_at_zero Go.wp_at_succ
structure PeR where
  stage : Int
  nonce : Nat
  height : UInt32
  asked : Bool
  until_ : Int
  misses : Int
  magic : UInt32
  cap : Int
  rA : Option Addr
  rs : List UInt8
  rc : Nat
  bad : Int
namespace PeR
def cells (p : PeR) : List Value := [iv p.stage, u64v p.nonce, u32v p.height, .bool p.asked, iv p.until_, iv p.misses, u32v p.magic, iv p.cap, .slice p.rA p.rs.length p.rc, iv p.bad]
theorem one (p : PeR) : ∀ u ∈ p.cells, u.oneCell' = true := by
  intro u hu
  unfold cells at hu
  simp only [List.mem_cons, List.not_mem_nil, or_false] at hu
  rcases hu with rfl | rfl | rfl | rfl | rfl | rfl | rfl | rfl | rfl | rfl <;> rfl
end PeR
theorem pe_info : (Tryd.prog.info? 31).map (·.size) = some 10 := by kernel_rfl
structure PeA (p : PeR) (cs : Array Value) : Prop where
  l : cs.toList = p.cells
  z : cs.size = 10
  i : (Tryd.prog.info? 31).map (·.size) = some cs.size
  n : ¬ cs = #[]
  o : ∀ v ∈ cs.toList, v.oneCell' = true
theorem PeA.of (p : PeR) : PeA p p.cells.toArray :=
  ⟨rfl, rfl, pe_info, (fun e => by cases e), by simpa using p.one⟩
def peZ : PeR := ⟨0, 0, 0, false, 0, 0, 0, 0, none, [], 0, 0⟩
noncomputable def zpeer : Array Value := match (Tryd.prog.info? 31).bind (·.zero) with | some (.agg c) => c | _ => #[]
theorem zpeer_zero (w : World) : (zeroValue 31).run Tryd.prog w = .ok (.agg zpeer) w := by kernel_rfl
theorem zpeer_list : zpeer.toList = peZ.cells := by kernel_rfl
theorem zpeer_letter : ∃ zs : Array Value, (∀ w, (zeroValue 31).run Tryd.prog w = .ok (.agg zs) w) ∧ PeA peZ zs :=
  ⟨zpeer, zpeer_zero, by
    have h := PeA.of peZ
    rwa [← zpeer_list, Array.toArray_toList] at h⟩
def bndF (n : Int) : Int := min (max n 0) 4000000
def newP (magic : UInt32) (most : Int) : PeR := { peZ with magic := magic, cap := bndF most }
def PeR.ban (p : PeR) : PeR := { p with stage := 3, asked := false, rA := none, rs := [], rc := 0 }
set_option maxRecDepth 100000 in
theorem bounded_any (n : Int) (w : World) : Calls Tryd.prog 42 #[iv n] w fun e w' => e = .returned (iv (bndF n)) ∧ Keep w w' := by
  have HK : Hid (Keep w w) := Lib.hid (Below.refl _ _)
  have HB : Hid (bndF n = min (max n 0) 4000000) := Lib.hid rfl
  generalize bndF n = B at *
  go_enter Tryd.func42, Tryd.ntmps42
  go_wp2
  all_goals
    rename_i h1
    have e : B = _ := HB.out
    first
    | (have e3 : B = 4000000 := by rw [e]; split at h1 <;> omega
       rw [e3]
       exact bodyPost_ret (v := iv 4000000) (by simp [results, Tryd.results42]) rfl ⟨rfl, HK.out⟩)
    | (have e3 : B = 0 := by rw [e]; omega
       rw [e3]
       exact bodyPost_ret (v := iv 0) (by simp [results, Tryd.results42]) rfl ⟨rfl, HK.out⟩)
    | (have e3 : B = n := by rw [e]; split at h1 <;> omega
       rw [e3]
       exact bodyPost_ret (v := iv n) (by simp [results, Tryd.results42]) rfl ⟨rfl, HK.out⟩)
def bufL (g : UInt32) (c : Int) (A : Option Addr) (n rc : Nat) (b : Int) : List Value := [u32v g, iv c, .slice A n rc, iv b]
theorem buf_info : (Tryd.prog.info? 29).map (·.size) = some 4 := by kernel_rfl
structure BuA (l : List Value) (cs : Array Value) : Prop where
  l : cs.toList = l
  z : cs.size = 4
  i : (Tryd.prog.info? 29).map (·.size) = some cs.size
  n : ¬ cs = #[]
  o : ∀ v ∈ cs.toList, v.oneCell' = true
theorem BuA.of (g : UInt32) (c : Int) (A : Option Addr) (n rc : Nat) (b : Int) : BuA (bufL g c A n rc b) (bufL g c A n rc b).toArray :=
  ⟨rfl, rfl, buf_info, (fun e => by cases e), by
    intro v hv
    have hv : v ∈ bufL g c A n rc b := by simpa using hv
    simp only [bufL, List.mem_cons, List.not_mem_nil, or_false] at hv
    rcases hv with rfl | rfl | rfl | rfl <;> rfl⟩
theorem buf_built (g : UInt32) (c : Int) : ∃ bs, BuA (bufL g c none 0 0 0) bs ∧ Tryd.prog.built 29 [(0, u32v g), (1, iv c)] = some bs := ⟨_, BuA.of .., by kernel_rfl⟩
set_option maxRecDepth 100000 in
theorem pe_built (g : UInt32) (c : Int) (bs : Array Value) (h : BuA (bufL g c none 0 0 0) bs) : ∃ ps, PeA { peZ with magic := g, cap := c } ps ∧ Tryd.prog.built 31 [(6, .agg bs)] = some ps := by
  have e : bs = (bufL g c none 0 0 0).toArray := by rw [← h.l, Array.toArray_toList]
  subst e
  exact ⟨_, PeA.of _, by kernel_rfl⟩
noncomputable def zbuf : Array Value := match (Tryd.prog.info? 29).bind (·.zero) with | some (.agg c) => c | _ => #[]
theorem zbuf_zero (w : World) : (zeroValue 29).run Tryd.prog w = .ok (.agg zbuf) w := by kernel_rfl
theorem zbuf_list : zbuf.toList = bufL 0 0 none 0 0 0 := by kernel_rfl
set_option maxRecDepth 100000 in
theorem zbuf_letter : ∃ zs : Array Value, (∀ w, (zeroValue 29).run Tryd.prog w = .ok (.agg zs) w) ∧ BuA (bufL 0 0 none 0 0 0) zs :=
  ⟨zbuf, zbuf_zero, by
    have h := BuA.of 0 0 none 0 0 0
    rwa [← zbuf_list, Array.toArray_toList] at h⟩
set_option maxRecDepth 100000 in
set_option maxHeartbeats 4000000 in
theorem fnew_any (g : UInt32) (n : Int) (w : World) : Calls Tryd.prog 28 #[u32v g, iv n] w fun e w' => ∃ bs, e = .returned (.agg bs) ∧ BuA (bufL g (bndF n) none 0 0 0) bs ∧ Keep w w' := by
  have BN : Hid (∀ y, Calls Tryd.prog 42 #[iv n] y fun e w' => e = .returned (iv (bndF n)) ∧ Keep y w') := Lib.hid fun y => bounded_any n y
  generalize bndF n = B at *
  obtain ⟨zs, hz0, hzA⟩ := zbuf_letter
  obtain ⟨bs, hbA, hbl⟩ := buf_built g B
  have hzn := hzA.n; have hzz := hzA.z
  have hbn := hbA.n; have hbz := hbA.z; have hbi := hbA.i
  have HZ := Lib.hid hzA; have HBA := Lib.hid hbA
  have HBu := Lib.hid hbl
  clear hzA hbA hbl
  go_enter Tryd.func28, Tryd.ntmps28
  go_wp2_with fail
  refine (BN.out _).mono ?_
  clear BN
  rintro e w2 ⟨rfl, k2⟩
  have HK2 : Hid (Keep w w2) := Lib.hid (keep_trans (keep_new w _) k2)
  have HR2 : Hid (Blk w2 w.heap.size 29 zs.toList) := Lib.hid ((Blk.new w 29 zs.toList).keep k2)
  clear k2
  obtain ⟨w8, hst8, hb8, hg8⟩ := run_store_blk (P := Tryd.prog) bs.toList HR2.out (by rw [Array.length_toList, Array.length_toList, hzz, hbz]) HBA.out.o
  have Hb8 := Lib.hid hb8; have Hg8 := Lib.hid hg8
  clear hb8 hg8
  go_wp2_with ((with_reducible refine list_bldg [(0, u32v g), (1, iv B)] bs (Eq.trans ?_ rfl) HBu.out (Eq.trans ?_ rfl) ?_); rfl; rfl)
  exact bodyPost_ret (v := .agg bs) (results_cell_row Tryd.results28 _ _ w.heap.size _ _ _ _ rfl Hb8.out Tryd.underlying29 rfl (by rw [List.size_toArray, Array.length_toList]; exact hbi)) rfl ⟨bs, rfl, HBA.out, HK2.out.grown Hg8.out HK2.out.size (fun q hq => by injection hq with hq; omega)⟩
set_option maxRecDepth 100000 in
set_option maxHeartbeats 4000000 in
theorem pnew_any (g : UInt32) (n : Int) (w : World) : Calls Tryd.prog 9 #[u32v g, iv n] w fun e w' => ∃ ps, e = .returned (.agg ps) ∧ PeA (newP g n) ps ∧ Keep w w' := by
  have FN : Hid (∀ y, Calls Tryd.prog 28 #[u32v g, iv n] y fun e w' => ∃ bs, e = .returned (.agg bs) ∧ BuA (bufL g (bndF n) none 0 0 0) bs ∧ Keep y w') := Lib.hid fun y => fnew_any g n y
  unfold newP
  generalize bndF n = B at *
  obtain ⟨zs, hz0, hzA⟩ := zpeer_letter
  have hzn := hzA.n; have hzz := hzA.z
  have HZ := Lib.hid hzA
  clear hzA
  go_enter Tryd.func9, Tryd.ntmps9
  go_wp2_with fail
  refine (FN.out _).mono ?_
  clear FN
  rintro e w2 ⟨bs, rfl, hbA, k2⟩
  have hbn := hbA.n; have hbz := hbA.z
  obtain ⟨ps, hpA, hpl⟩ := pe_built g B bs hbA
  have hpn := hpA.n; have hpz := hpA.z; have hpi := hpA.i
  have HP := Lib.hid hpA; have HBu := Lib.hid hpl
  clear hpl
  have HK2 : Hid (Keep w w2) := Lib.hid (keep_trans (keep_new w _) k2)
  have HR2 : Hid (Blk w2 w.heap.size 31 zs.toList) := Lib.hid ((Blk.new w 31 zs.toList).keep k2)
  clear k2 hbA hpA
  obtain ⟨w8, hst8, hb8, hg8⟩ := run_store_blk (P := Tryd.prog) ps.toList HR2.out (by rw [Array.length_toList, Array.length_toList, hzz, hpz]) HP.out.o
  have Hb8 := Lib.hid hb8; have Hg8 := Lib.hid hg8
  clear hb8 hg8
  go_wp2_with ((with_reducible refine list_bldg [(6, .agg bs)] ps (Eq.trans ?_ rfl) HBu.out (Eq.trans ?_ rfl) ?_); rfl; rfl)
  exact bodyPost_ret (v := .agg ps) (results_cell_row Tryd.results9 _ _ w.heap.size _ _ _ _ rfl Hb8.out Tryd.underlying31 rfl (by rw [List.size_toArray, Array.length_toList]; exact hpi)) rfl ⟨ps, rfl, HP.out, HK2.out.grown Hg8.out HK2.out.size (fun q hq => by injection hq with hq; omega)⟩
set_option maxRecDepth 100000 in
set_option maxHeartbeats 4000000 in
theorem banned_any (p : PeR) (cs : Array Value) (hA : PeA p cs) (w : World) : Calls Tryd.prog 27 #[.agg cs] w fun e w' => ∃ ds, e = .returned (.agg ds) ∧ PeA p.ban ds ∧ Keep w w' := by
  obtain ⟨zs, hz0, hzA⟩ := zpeer_letter
  have hzn := hzA.n; have hzz := hzA.z
  have hcn := hA.n; have hcz := hA.z; have hci := hA.i
  have HA := Lib.hid hA; have HZ := Lib.hid hzA
  clear hzA hA
  go_enter Tryd.func27, Tryd.ntmps27
  go_upto_region 1 with fail
  obtain ⟨w1, hw1⟩ : ∃ w1, w1 = (w.alloc (.cells cs 31)).alloc (.cells zs 31) := ⟨_, rfl⟩
  have HB1 : Hid (Blk w1 w.heap.size 31 p.cells) := by rw [hw1, ← HA.out.l]; exact (Blk.new w _ cs.toList).alloc _
  have HR1 : Hid (Blk w1 (w.heap.size + 1) 31 zs.toList) := by
    rw [hw1]
    have h2 := Blk.new (w.alloc (.cells cs 31)) 31 zs.toList
    rw [World.size_alloc] at h2
    exact h2
  have HK1 : Hid (Keep w w1) := by rw [hw1]; exact keep_trans (keep_new _ _) (keep_new _ _)
  rw [← hw1]
  clear hw1
  have r0 : w1.cell? ⟨w.heap.size, 0, none⟩ = some (iv p.stage) := (HB1.out.cell 0).trans rfl
  have r3 : w1.cell? ⟨w.heap.size, 3, none⟩ = some (.bool p.asked) := (HB1.out.cell 3).trans rfl
  have r8 : w1.cell? ⟨w.heap.size, 8, none⟩ = some (.slice p.rA p.rs.length p.rc) := (HB1.out.cell 8).trans rfl
  have f0 := HB1.out.frozen 0; have f3 := HB1.out.frozen 3; have f8 := HB1.out.frozen 8
  go_upto_region 4 with fail
  obtain ⟨wx, hwx⟩ : ∃ wx, wx = (((w1.setCell ⟨w.heap.size, 0, none⟩ (.int .i64 3)).setCell ⟨w.heap.size, 3, none⟩ (.bool false)).setCell ⟨w.heap.size, 8, none⟩ (.slice none 0 0)) := ⟨_, rfl⟩
  have HX : Blk wx w.heap.size 31 p.ban.cells := by
    rw [hwx]
    exact (((HB1.out.set_ 0 (.int .i64 3)).set_ 3 (.bool false)).set_ 8 (.slice none 0 0))
  have HRX : Hid (Blk wx (w.heap.size + 1) 31 zs.toList) := by rw [hwx]; exact Lib.hid (((HR1.out.far (by simp <;> omega) _).far (by simp <;> omega) _).far (by simp <;> omega) _)
  have HKX : Hid (Keep w wx) := by rw [hwx]; exact Lib.hid (Below.setCell (Below.setCell (Below.setCell HK1.out (by simp <;> omega) _) (by simp <;> omega) _) (by simp <;> omega) _)
  rw [← hwx]
  clear hwx r0 f0 r3 f3 r8 f8
  obtain ⟨ds, hds⟩ : ∃ ds, PeA p.ban ds := ⟨_, PeA.of _⟩
  have hdz := hds.z; have hdn := hds.n; have hdi := hds.i
  have HDS := Lib.hid hds
  have HBx : Hid (Blk wx w.heap.size 31 ds.toList) := by rw [HDS.out.l]; exact HX
  obtain ⟨w8, hst8, hb8, hg8⟩ := run_store_blk (P := Tryd.prog) ds.toList HRX.out (by rw [Array.length_toList, Array.length_toList, hdz, hzz]) HDS.out.o
  have Hb8 := Lib.hid hb8; have Hg8 := Lib.hid hg8
  clear hds hb8 hg8 HX HRX HB1 HR1
  go_wp2_with ((with_reducible refine load_arr w.heap.size ds (Eq.trans ?_ rfl) HBx.out _ Tryd.underlying31 rfl hdi ?_); rfl)
  have hb8 := Hb8.out
  exact bodyPost_ret (v := .agg ds) (results_cell_row Tryd.results27 _ _ (w.heap.size + 1) _ _ _ _ rfl hb8 Tryd.underlying31 rfl (by rw [List.size_toArray, Array.length_toList]; exact hdi)) rfl ⟨ds, rfl, HDS.out, HKX.out.grown Hg8.out HKX.out.size (fun q hq => by injection hq with hq; omega)⟩
end Go.Proofs.YtffpanlpbdnafaaDoor

/- Arguments opened to lists, and the last step of a law: it answers true and leaves what was there. -/
set_option linter.unusedSimpArgs false
set_option linter.unusedVariables false
namespace Go.Proofs.YtffpanlpbdnafaaDoor
open Go.RowKit Go.ChangeShapes Go.WideShapes Go.Deep
theorem addr_plain {w : World} {a : Addr} {v : Value} (h : w.cell? a = some v) : a = ⟨a.block, a.off, none⟩ := by
  obtain ⟨b, o, s⟩ := a
  cases s with
  | none => rfl
  | some x => unfold World.cell? at h; split at h <;> simp at h
theorem Rd.of_add {w : World} {a : Addr} {xs : List Value} (h : ∀ j (hj : j < xs.length), w.cell? (a.add j) = some xs[j]) : Rd w (some a) xs := by
  by_cases h0 : xs = []
  · exact .inl h0
  · have hp : 0 < xs.length := List.length_pos_iff.2 h0
    have h1 := h 0 hp
    have e : a.add 0 = a := by unfold Addr.add; simp
    rw [e] at h1
    have ha := addr_plain h1
    refine .inr ⟨a.block, a.off, by rw [← ha], fun j hj => ?_⟩
    have := h j hj
    rw [ha, add_lit0] at this
    exact this
theorem list_choose {α β : Type} {f : α → β} {p : α → Prop} : ∀ (l : List β), (∀ x ∈ l, ∃ a, x = f a ∧ p a) → ∃ ys : List α, l = ys.map f ∧ ∀ a ∈ ys, p a
  | [], _ => ⟨[], rfl, by simp⟩
  | x :: l, h => by
    obtain ⟨a, rfl, ha⟩ := h x (by simp)
    obtain ⟨ys, rfl, hys⟩ := list_choose l fun y hy => h y (by simp [hy])
    exact ⟨a :: ys, rfl, by simpa using ⟨ha, hys⟩⟩
section
variable {H : Type} {enc : TypeId × Value → H} {P : Program} {w : World} {spare : Nat → Bool} {held : Bool}
theorem slice_open {t e : TypeId} {size fuel : Nat} {cs : List Value} {x : DataW H × List MemPlace} (ht : P.underlying t = some (.slice e)) (hc : P.cellsOf e = size) (hz : 0 < size)
    (h : DataW.trod enc P w 0 spare held fuel t cs = some x) :
    ∃ (A : Option Addr) (n c : Nat) (Cs : List (List Value)), cs = [.slice A n c] ∧ n ≤ c ∧ c ≤ maxLen ∧ Cs.length = n ∧ Rd w A Cs.flatten ∧
      ∀ y ∈ Cs, y.length = size ∧ ∃ m z, DataW.trod enc P w 0 spare held m e y = some z := by
  rcases open_slice ht h with ⟨rfl, _⟩ | ⟨a, len, cap, m, n, D, Pl, rfl, _, hl, hm, hmm, _, hi⟩
  · exact ⟨none, 0, 0, [], rfl, Nat.le_refl _, Nat.zero_le _, rfl, .inl rfl, by simp⟩
  · have hlm : len ≤ m := by rw [hmm]; split <;> omega
    rw [hc] at hi
    obtain ⟨V, hV⟩ := choose_lt (p := fun i (cs' : List Value) => w.cells? 0 (a.add (i * size)) size = some cs' ∧ DataW.trod enc P w 0 spare held n e cs' = some (D i, Pl i)) (n := len) fun i hi' => hi i (by omega)
    have hlen : ∀ y ∈ (List.range len).map V, y.length = size := by
      intro y hy
      obtain ⟨i, hi', rfl⟩ := List.mem_map.1 hy
      exact (World.cells?_some (hV i (List.mem_range.1 hi')).1).2.1
    refine ⟨some a, len, cap, (List.range len).map V, rfl, hl, hm, by simp, Rd.of_add fun j hj => ?_, fun y hy => ⟨hlen y hy, ?_⟩⟩
    · have hfl : ((List.range len).map V).flatten.length = len * size := by
        rw [← List.flatMap_id, flatMap_len' id size _ hlen]; simp
      have hj' : j < len * size := by rw [← hfl]; exact hj
      have hq : j / size < len := by rwa [Nat.div_lt_iff_lt_mul hz]
      have hr : j % size < size := Nat.mod_lt _ hz
      have hcell := (World.cells?_some (hV (j / size) hq).1).2.2 (j % size) hr
      have hjj : j = j / size * size + j % size := by rw [Nat.mul_comm]; exact (Nat.div_add_mod j size).symm
      have hadd : (a.add (j / size * size)).add (j % size) = a.add j := by
        rw [add_add', ← hjj]
      rw [hadd] at hcell
      rw [hcell, ← List.getElem?_eq_getElem hj, ← List.flatMap_id]
      conv => rhs; rw [hjj]
      rw [flatMap_get' id size _ hlen (j / size) (j % size) (by simpa using hq) hr]
      simp
    · obtain ⟨i, hi', rfl⟩ := List.mem_map.1 hy
      exact ⟨n, _, (hV i (List.mem_range.1 hi')).2⟩
theorem bytes_open {t e : TypeId} {fuel : Nat} {cs : List Value} {x : DataW H × List MemPlace} (ht : P.underlying t = some (.slice e)) (he : P.underlying e = some (.int .u8)) (hc : P.cellsOf e = 1)
    (h : DataW.trod enc P w 0 spare held fuel t cs = some x) :
    ∃ (A : Option Addr) (l : List UInt8) (c : Nat), cs = [.slice A l.length c] ∧ l.length ≤ c ∧ c ≤ maxLen ∧ Rd w A (l.map u8v) := by
  obtain ⟨A, n, c, Cs, rfl, h1, h2, rfl, h3, h4⟩ := slice_open ht hc (by omega) h
  obtain ⟨l, rfl, _⟩ := list_choose (f := fun x : UInt8 => [u8v x]) (p := fun _ => True) Cs fun y hy => by
    obtain ⟨_, m, z, hz⟩ := h4 y hy
    obtain ⟨n, rfl, _, hw⟩ := DataW.trod_int he hz
    have hb : 0 ≤ n ∧ n ≤ 255 := by simpa [Lit.wf, IntKind.min, IntKind.max, IntKind.signed, IntKind.bits] using hw
    refine ⟨UInt8.ofNat n.toNat, ?_, trivial⟩
    have : ((UInt8.ofNat n.toNat).toNat : Int) = n := by
      rw [UInt8.toNat_ofNat']
      omega
    show [Value.int .u8 n] = [Value.int .u8 ((UInt8.ofNat n.toNat).toNat : Int)]
    rw [this]
  refine ⟨A, l, c, by simp, by simpa using h1, h2, ?_⟩
  have e : (l.map fun x : UInt8 => [u8v x]).flatten = l.map u8v := by rw [← List.flatMap_def, ← List.map_eq_flatMap]
  rwa [e] at h3
end
section
variable {H : Type} {enc : TypeId × Value → H} {P : Program}
theorem trodAll_below (hl : laidOutB P = true) {W W' : World} (hb : Below W.heap.size W W') : ∀ (ts : List TypeId) (vs : List Value) (ds : List (DataW H)) (ps : List MemPlace),
    (∀ t ∈ ts, P.readableRec t = true ∧ t < P.types.size) → (∀ x ∈ ps, x.block < W.heap.size) → DataW.TrodAll enc P W 0 (fun _ => true) true ts vs ds ps →
    DataW.TrodAll enc P W' 0 (fun b => decide (b < W.heap.size)) true ts vs ds ps
  | [], [], [], ps, _, _, h => h
  | t :: ts, v :: vs, d :: ds, ps, hr, hlt, h => by
    obtain ⟨p, q, h1, h2, rfl⟩ := h
    exact ⟨p, q, Below.trod hl (hr t (by simp)).1 (hr t (by simp)).2 h1 hb fun x hx => hlt x (by simp [hx]),
      trodAll_below hl hb ts vs ds q (fun t ht => hr t (by simp [ht])) (fun x hx => hlt x (by simp [hx])) h2, rfl⟩
  | [], _ :: _, _, _, _, _, h => by cases h
  | [], [], _ :: _, _, _, _, h => by cases h
  | _ :: _, [], _, _, _, _, h => by cases h
  | _ :: _, _ :: _, [], _, _, _, h => by cases h
theorem law_post {f : Func} {s : ChangeSpec} {apart fresh handsOn : Bool} {W W' : World} {args : Array Value} {ds gs : List (DataW H)} {before : List MemPlace} {tb : TypeId}
    (hW : DataW.Whole enc P f.params.toList s.vars apart W args.toList ds gs before) (hv : s.vars = []) (hl : laidOutB P = true)
    (hrB : (f.params.toList.all fun t => P.readableRec t && decide (t < P.types.size)) = true) (hres : f.resultTypes = #[tb]) (htb : P.underlying tb = some .bool)
    (hs : s.fn H ds = { results := [.lit (.bool true)], args := ds }) (hb : Below W.heap.size W W') :
    s.post enc P f apart fresh handsOn false W args (.bool true) W' := by
  have hr : ∀ t ∈ f.params.toList, P.readableRec t = true ∧ t < P.types.size := fun t ht => by
    have := List.all_eq_true.1 hrB t ht
    simpa using this
  have hW' := hW
  obtain ⟨p, q, hA, hV, rfl, hfz, hnd⟩ := hW
  rw [hv] at hV
  obtain ⟨rfl, rfl⟩ := trodVars_none hV
  simp only [List.append_nil] at hW'
  have hlt : ∀ x ∈ p, x.block < W.heap.size := fun x hx => hW'.lt x (by simpa using hx)
  refine ⟨ds, [], p, [], p, [], by simpa using hW', ?_, ?_, ?_, hb.frame _, fun h => by cases h⟩
  · rw [List.append_nil, hs, hres]
    exact trodAll_mk1 (shut_bool htb true)
  · rw [List.append_nil, hs]
    exact trodAll_below hl hb _ _ _ _ hr hlt hA
  · rw [List.append_nil, hs, hv]
    exact rfl
end
end Go.Proofs.YtffpanlpbdnafaaDoor

/- bytes.TrimRight of the byte 0; frame.Command (printed by gen_qj.py) -/
set_option linter.unusedSimpArgs false
set_option linter.unusedVariables false
namespace Go.Proofs.YtffpanlpbdnafaaDoor
open Go.RowKit
attribute [local go_sem ↓] Go.wp_at_zero Go.wp_at_succ
def trimN (l : List UInt8) : Nat → Nat
  | 0 => 0
  | n + 1 => if l[n]? = some 0 then trimN l n else n + 1
theorem trimN_le (l : List UInt8) : ∀ n, trimN l n ≤ n
  | 0 => Nat.le_refl _
  | n + 1 => by unfold trimN; split; exact Nat.le_succ_of_le (trimN_le l n); exact Nat.le_refl _
def lenOf : Value → Nat
  | .slice _ n _ => n
  | _ => 0
set_option maxRecDepth 100000 in
set_option maxHeartbeats 4000000 in
theorem trimb_any (A : Option Addr) (l : List UInt8) (N c : Nat) (w : World) (hN : l.length = N) (hc : N ≤ c ∧ c ≤ 9223372036854775807) (hr : Rd w A (l.map u8v)) :
    Calls Tryd.prog 58 #[.slice A N c, .int .u8 0] w fun e w' => e = .returned (.slice A (trimN l N) c) ∧ Keep w w' := by
  have ROW : Hid (∀ k (h : k < N), ∃ b off x, A = some ⟨b, off, none⟩ ∧ b < w.heap.size ∧ w.cell? ⟨b, off + k, none⟩ = some (u8v x) ∧ l[k]? = some x) := Lib.hid fun k h => by
    obtain ⟨b, off, rfl, hb, hcell⟩ := hr.at (k := k) (by simp [hN]; exact h)
    exact ⟨b, off, l[k], rfl, hb, by have q := hcell k (by simp [hN]; exact h); simpa using q, List.getElem?_eq_getElem (by omega)⟩
  have HK : Hid (Keep w w) := Lib.hid (Below.refl _ _)
  have hc1 := hc.1; have hc2 := hc.2
  clear hr hN hc
  go_enter Tryd.func58, Tryd.ntmps58
  go_wp2_with fail
  go_loopw [0] (fun s wr => ∃ n : Nat, n ≤ N ∧ s = .slice A n c ∧ Hid (trimN l n = trimN l N) ∧ Hid (Keep w wr)) (fun s _ => lenOf s)
  case atStart => exact ⟨N, Nat.le_refl _, rfl, Lib.hid rfl, HK⟩
  case round =>
    obtain ⟨n, hn, rfl, HT, HKr⟩ := hrel
    clear HK
    cases n with
    | zero =>
      have d0 : ¬ (0 : Int) < 0 := by omega
      clear ROW
      go_wp2
      exact bodyPost_ret (v := .slice A 0 c) (by simp [results, Tryd.results58]) rfl ⟨by rw [← HT.out]; rfl, HKr.out⟩
    | succ m =>
      obtain ⟨b, off, x, rfl, hb, hx, hlx⟩ := ROW.out m (by omega)
      have rx := keep_cell HKr.out hx
      have HLX := Lib.hid hlx
      have d0 : (0 : Int) < (m : Int) + 1 := by omega
      have d1 : m < m + 1 := by omega
      have d2 : m + 1 ≤ c := by omega
      clear hx hlx ROW
      by_cases h0 : x = 0
      · have e0 : (u8v x) = .int .u8 0 := by rw [h0]; rfl
        rw [e0] at rx
        have HT2 : Hid (trimN l m = trimN l N) := Lib.hid (by rw [← HT.out, trimN, if_pos (by rw [HLX.out, h0])])
        clear e0 HLX HT h0
        go_wp2
        go_roundw
        case rel => exact ⟨m, by omega, rfl, HT2, HKr⟩
        case measure => simp [lenOf]
      · have e1 : (x == 0) = false := by rw [beq_eq_false_iff_ne]; exact h0
        have e2 : ¬ (x.toNat : Int) = 0 := fun q => h0 (UInt8.toNat_inj.1 (by show x.toNat = 0; omega))
        have e3 : ((x.toNat : Int) == 0) = false := by rw [beq_eq_false_iff_ne]; exact e2
        have HT2 : Hid (m + 1 = trimN l N) := Lib.hid (by rw [← HT.out, trimN, if_neg (by rw [HLX.out]; simpa using h0)])
        clear HLX HT h0
        go_wp2
        exact bodyPost_ret (v := .slice (some ⟨b, off, none⟩) (m + 1) c) (by simp [results, Tryd.results58]) rfl ⟨by rw [← HT2.out], HKr.out⟩
set_option maxRecDepth 100000 in
set_option maxHeartbeats 4000000 in
theorem trim_any (A : Option Addr) (l : List UInt8) (N c : Nat) (w : World) (hN : l.length = N) (h0 : 0 < N) (hc : N ≤ c ∧ c ≤ 9223372036854775807) (hr : Rd w A (l.map u8v)) :
    Calls Tryd.prog 40 #[.slice A N c, .string ⟨#[0]⟩] w fun e w' => e = .returned (.slice A (trimN l N) c) ∧ Keep w w' := by
  have TB : Hid (Calls Tryd.prog 58 #[.slice A N c, .int .u8 0] w fun e w' => e = .returned (.slice A (trimN l N) c) ∧ Keep w w') := Lib.hid (trimb_any A l N c w hN hc hr)
  have d0 : ((N : Int) == 0) = false := by rw [beq_eq_false_iff_ne]; omega
  have d1 : ¬ (N : Int) = 0 := by omega
  have d2 : ¬ N = 0 := by omega
  generalize trimN l N = R at *
  clear hr hc hN h0
  go_enter Tryd.func40, Tryd.ntmps40
  go_wp2_with (go_at_call 58; refine TB.out.mono ?_; rintro e w1 ⟨rfl, k1⟩; have K1 := Lib.hid k1; clear k1)
  exact bodyPost_ret (v := .slice A R c) (by simp [results, Tryd.results40]) rfl ⟨rfl, K1.out⟩
def cmdB (l : List UInt8) : Bool := decide (1 ≤ l.length) && decide (l.length ≤ 12) && l.all fun x : UInt8 => decide (33 ≤ x.toNat) && decide (x.toNat ≤ 126)
theorem str_size (l : List UInt8) : (str l).size = l.length := rfl
theorem str_idx (l : List UInt8) (k : Nat) (x : UInt8) (h : l[k]? = some x) (w : World) : (Instr.index 9 (.string (str l)) (.int .i64 (k : Int))).run Tryd.prog w = .ok (u8v x) w := by
  have hk : k < l.length := (List.getElem?_eq_some_iff.1 h).1
  rw [run_index_string w 9 (str l) .i64 (k : Int) Tryd.underlying9, dif_pos ⟨by omega, by rw [str_size]; omega⟩]
  have e : (str l)[k]'(by rw [str_size]; exact hk) = x := by
    have e1 : (str l)[k]'(by rw [str_size]; exact hk) = l[k] := rfl
    rw [e1]; exact (List.getElem?_eq_some_iff.1 h).2
  simp only [Int.toNat_natCast]
  rw [e]
set_option maxRecDepth 100000 in
set_option maxHeartbeats 4000000 in
theorem command_any (l : List UInt8) (w : World) :
    Calls Tryd.prog 41 #[.string (str l)] w fun e w' => e = .returned (.bool (cmdB l)) ∧ Keep w w' := by
  have HK : Hid (Keep w w) := Lib.hid (Below.refl _ _)
  have HZ : Hid ((str l).size = l.length) := Lib.hid (str_size l)
  have HB : Hid (cmdB l = (decide (1 ≤ l.length) && decide (l.length ≤ 12) && l.all fun x : UInt8 => decide (33 ≤ x.toNat) && decide (x.toNat ≤ 126))) := Lib.hid rfl
  generalize cmdB l = R at *
  by_cases h1 : 1 ≤ l.length ∧ l.length ≤ 12
  · have d0 : ¬ ((str l).size : Int) < 1 := by rw [str_size]; omega
    have d1 : ¬ (12 : Int) < (str l).size := by rw [str_size]; omega
    have d2 : ¬ (str l).size < 1 := by rw [str_size]; omega
    have d3 : ¬ 12 < (str l).size := by rw [str_size]; omega
    have d4 : ¬ (str l).size = 0 := by rw [str_size]; omega
    have HR : Hid (R = l.all fun x : UInt8 => decide (33 ≤ x.toNat) && decide (x.toNat ≤ 126)) := Lib.hid (by rw [HB.out]; simp [h1])
    obtain ⟨N, hN⟩ : ∃ N, N = (str l).size := ⟨_, rfl⟩
    have HN := Lib.hid hN
    have ROW : Hid (∀ k, k < N → ∃ x : UInt8, l[k]? = some x ∧ ∀ y, (Instr.index 9 (.string (str l)) (.int .i64 (k : Int))).run Tryd.prog y = .ok (u8v x) y) := Lib.hid fun k hk => by
      have hk2 : k < l.length := by rw [hN, str_size] at hk; exact hk
      exact ⟨l[k], List.getElem?_eq_getElem hk2, str_idx l k _ (List.getElem?_eq_getElem hk2)⟩
    have BAD : Hid (∀ (k : Nat) (x : UInt8), l[k]? = some x → ¬ (33 ≤ x.toNat ∧ x.toNat ≤ 126) → R = false) := Lib.hid fun k x hx hb => by
      rw [HR.out, List.all_eq_false]
      exact ⟨x, List.mem_of_getElem? hx, by simpa using hb⟩
    have GOOD : Hid ((∀ (k : Nat) (x : UInt8), k < N → l[k]? = some x → 33 ≤ x.toNat ∧ x.toNat ≤ 126) → R = true) := Lib.hid fun h => by
      rw [HR.out, List.all_eq_true]
      intro x hx
      obtain ⟨k, hk⟩ := List.getElem?_of_mem hx
      have hkN : k < N := by rw [hN, str_size]; exact (List.getElem?_eq_some_iff.1 hk).1
      simpa using h k x hkN hk
    clear h1 HB HR hN
    go_enter Tryd.func41, Tryd.ntmps41
    go_wp2_with fail
    go_loopw [14] (fun i wr => ∃ k : Nat, k ≤ N ∧ i = .int .i64 k ∧ Hid (∀ (j : Nat) (x : UInt8), j < k → l[j]? = some x → 33 ≤ x.toNat ∧ x.toNat ≤ 126) ∧ Hid (Keep w wr)) (fun i _ => N - (intOf i).toNat)
    case atStart => exact ⟨0, Nat.zero_le _, rfl, Lib.hid (fun j x h => absurd h (Nat.not_lt_zero _)), HK⟩
    case round =>
      obtain ⟨k, hk, rfl, HP, HKr⟩ := hrel
      clear HK
      by_cases hlt : k < N
      · obtain ⟨x, hx, hi⟩ := ROW.out k hlt
        have HX := Lib.hid hx
        have l1 : (k : Int) < (str l).size := by rw [← HN.out]; omega
        have l2 : k < (str l).size := by rw [← HN.out]; exact hlt
        clear ROW hx
        by_cases hg : 33 ≤ x.toNat ∧ x.toNat ≤ 126
        · have g1 : ¬ (x.toNat : Int) < 33 := by omega
          have g2 : ¬ (126 : Int) < x.toNat := by omega
          have g3 : ¬ x.toNat < 33 := by omega
          have g4 : ¬ 126 < x.toNat := by omega
          have HP2 : Hid (∀ (j : Nat) (y : UInt8), j < k + 1 → l[j]? = some y → 33 ≤ y.toNat ∧ y.toNat ≤ 126) := Lib.hid fun j y hj hy => by
            by_cases e : j < k
            · exact HP.out j y e hy
            · obtain rfl : j = k := by omega
              rw [HX.out] at hy
              obtain rfl := Option.some.inj hy
              exact hg
          clear hg HP HX BAD GOOD
          go_wp2
          go_roundw
          case rel => exact ⟨k + 1, by omega, by go_num, HP2, HKr⟩
          case measure => simp [intOf]; omega
        · have hR : R = false := BAD.out k x HX.out hg
          subst hR
          clear BAD GOOD HP HX
          by_cases g : x.toNat < 33
          · have g1 : (x.toNat : Int) < 33 := by omega
            clear hg
            go_wp2
            exact bodyPost_ret (v := .bool false) (by simp [results, Tryd.results41]) rfl ⟨rfl, HKr.out⟩
          · have g1 : ¬ (x.toNat : Int) < 33 := by omega
            have g2 : (126 : Int) < x.toNat := by omega
            have g4 : 126 < x.toNat := by omega
            clear hg
            go_wp2
            exact bodyPost_ret (v := .bool false) (by simp [results, Tryd.results41]) rfl ⟨rfl, HKr.out⟩
      · have l1 : ¬ (k : Int) < (str l).size := by rw [← HN.out]; omega
        have l2 : ¬ k < (str l).size := by rw [← HN.out]; exact hlt
        have hR : R = true := GOOD.out fun j y hj hy => HP.out j y (by omega) hy
        subst hR
        clear ROW BAD GOOD HP
        go_wp2
        exact bodyPost_ret (v := .bool true) (by simp [results, Tryd.results41]) rfl ⟨rfl, HKr.out⟩
  · have hR : R = false := by
      rw [HB.out]
      by_cases h2 : 1 ≤ l.length
      · have h3 : ¬ l.length ≤ 12 := fun q => h1 ⟨h2, q⟩
        simp [h3]
      · simp [h2]
    subst hR
    clear HB
    by_cases h2 : 1 ≤ l.length
    · have d0 : ¬ ((str l).size : Int) < 1 := by rw [str_size]; omega
      have d1 : (12 : Int) < (str l).size := by rw [str_size]; omega
      have d2 : ¬ (str l).size < 1 := by rw [str_size]; omega
      have d3 : 12 < (str l).size := by rw [str_size]; omega
      have d4 : ¬ (str l).size = 0 := by rw [str_size]; omega
      clear h1 h2
      go_enter Tryd.func41, Tryd.ntmps41
      go_wp2
      exact bodyPost_ret (v := .bool false) (by simp [results, Tryd.results41]) rfl ⟨rfl, HK.out⟩
    · have d0 : ((str l).size : Int) < 1 := by rw [str_size]; omega
      have d2 : (str l).size < 1 := by rw [str_size]; omega
      have d4 : (str l).size = 0 := by rw [str_size]; omega
      clear h1 h2
      go_enter Tryd.func41, Tryd.ntmps41
      go_wp2
      exact bodyPost_ret (v := .bool false) (by simp [results, Tryd.results41]) rfl ⟨rfl, HK.out⟩
end Go.Proofs.YtffpanlpbdnafaaDoor
