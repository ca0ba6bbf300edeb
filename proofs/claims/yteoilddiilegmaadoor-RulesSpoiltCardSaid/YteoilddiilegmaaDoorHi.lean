/- header.Id. -/
import Derived.Test.YteoilddiilegmaaDoorHdE
set_option linter.unusedSimpArgs false
set_option linter.unusedVariables false
namespace Go.Proofs.YteoilddiilegmaaDoor
open Go.RowKit
attribute [local go_sem ↓] Go.wp_at_zero Go.wp_at_succ

/-- A header's hash. -/
def idL (h : Hd) : List UInt8 := dblL (hputL h)
theorem idL_len (h : Hd) : (idL h).length = 32 := dblL_len _

set_option maxRecDepth 100000 in
set_option maxHeartbeats 2000000 in
theorem id_any (h : Hd) (cs : Array Value) (w : World) (hS : ShaOk w) (hk : h.ok) (hcs : HdA h cs) :
    Calls Tryd.prog 11 #[.agg cs] w fun e w' => ∃ ds, e = .returned (.agg ds) ∧ HashA (idL h) ds ∧ Keep w w' := by
  have hpl := hputL_len hk
  have A1 : Hid (∀ w', Calls Tryd.prog 29 #[.agg cs] w' fun e w'' => e = .returned (.agg ((hputL h).map u8v).toArray) ∧ Keep w' w'') := fun w' => array_any h cs w' hk hcs
  obtain ⟨ds, hds⟩ : ∃ ds, HashA (idL h) ds := ⟨_, HashA.of (idL_len h)⟩
  have D1 : Hid (∀ (A : Option Addr) W, Keep w W → Rd W A ((hputL h).map u8v) → Calls Tryd.prog 30 #[.slice A 80 80] W fun e w' => e = .returned (.agg ds) ∧ Keep W w') := Lib.hid fun A W hW hr => by
    have h1 := double_any A (hputL h) 80 W (hS.keep hW) hr (by omega) (by decide) (by omega)
    rw [hpl] at h1
    exact h1.mono fun e w'' ⟨h2, h3⟩ => ⟨by rw [h2]; show Ending.returned (.agg ((dblL (hputL h)).map u8v).toArray) = _; rw [show ((dblL (hputL h)).map u8v).toArray = ds from hds.e], h3⟩
  have HI : Hid (∀ I, idL h = I → HashA I ds) := Lib.hid fun I e => by rw [← e]; exact hds
  replace HI := Lib.hid (HI.out _ rfl)
  generalize idL h = I at *
  generalize hputL h = p at *
  obtain ⟨ps, hps⟩ : ∃ ps : Array Value, ps.toList = p.map u8v := ⟨(p.map u8v).toArray, rfl⟩
  have hpz : ps.size = 80 := by rw [← Array.length_toList, hps, List.length_map, hpl]
  have hpn : ¬ ps = #[] := by intro h; rw [h] at hpz; simp at hpz
  have hpi : (Tryd.prog.info? 65).map (·.size) = some ps.size := by rw [hpz]; kernel_rfl
  rw [show (p.map u8v).toArray = ps by rw [← hps, Array.toArray_toList]] at A1
  obtain ⟨zs, hz1, hz2, hz3⟩ := z80_letter
  obtain ⟨ys, hy1, hy2, hy3, hy4⟩ := zhash_letter
  have hst : ∀ ww : World, (storeCells ⟨ww.heap.size, 0, none⟩ ps.toList 0).run Tryd.prog (ww.alloc (.cells zs 65)) = .ok () (ww.alloc (.cells ps 65)) := fun ww =>
    run_storeCells_new (P := Tryd.prog) ww 65 zs ps hpi (hz1.trans hpz.symm) (by have := all_oneCell_toArray (show ∀ v ∈ ps.toList, v.oneCell' = true by rw [hps]; exact one_w8 _); rwa [Array.toArray_toList] at this)
  have Hps := Lib.hid hps
  have hcz := hcs.z; have hcn := hcs.n; have hci := hcs.i
  have hdz := hds.z; have hdn := hds.n; have hdi := hds.i
  have Hds := Lib.hid hds
  clear hps hcs hpl hS hds hy4
  go_enter Tryd.func11, Tryd.ntmps11
  go_upto_region 1 with fail
  obtain ⟨w1, hw1⟩ : ∃ w1, w1 = (w.alloc (.cells cs 30)).alloc (.cells ys 28) := ⟨_, rfl⟩
  have Hbx : Hid (Blk w1 w.heap.size 30 cs.toList) := by rw [hw1]; exact (Blk.new w _ cs.toList).alloc _
  have HR1 : Hid (Blk w1 (w.heap.size + 1) 28 ys.toList) := by
    rw [hw1]
    have h2 := Blk.new (w.alloc (.cells cs 30)) 28 ys.toList
    rw [World.size_alloc] at h2
    exact h2
  have HK1 : Hid (Keep w w1) := by rw [hw1]; exact keep_trans (keep_new _ _) (keep_new _ _)
  rw [← hw1]
  clear hw1
  go_wp2_with ((with_reducible refine load_arr w.heap.size cs (Eq.trans ?_ rfl) Hbx.out _ Tryd.underlying30 rfl hci ?_); rfl)
  refine (A1.out _).mono ?_
  rintro e w2 ⟨rfl, k2⟩
  have HR2 := Lib.hid (HR1.out.keep k2); have HK2 := Lib.hid (keep_trans HK1.out k2)
  have hz2' : w.heap.size + 1 < w2.heap.size := HR2.out.lt
  clear k2 A1 Hbx HR1 HK1
  go_upto_region 2 with fail
  clear hst
  obtain ⟨w3, hw3⟩ : ∃ w3, w3 = w2.alloc (.cells ps 65) := ⟨_, rfl⟩
  have HP3 : Hid (Blk w3 w2.heap.size 65 (p.map u8v)) := by rw [hw3, ← Hps.out]; exact Blk.new w2 _ ps.toList
  have HR3 : Hid (Blk w3 (w.heap.size + 1) 28 ys.toList) := by rw [hw3]; exact HR2.out.alloc _
  have HK3 : Hid (Keep w w3) := by rw [hw3]; exact keep_trans HK2.out (keep_new _ _)
  rw [← hw3]
  clear hw3 HR2 HK2
  generalize w2.heap.size = B at *
  go_wp2_with fail
  refine (D1.out _ _ HK3.out HP3.out.rd).mono ?_
  rintro e w4 ⟨rfl, k4⟩
  have HR4 := Lib.hid (HR3.out.keep k4); have HK4 := Lib.hid (keep_trans HK3.out k4)
  clear k4 HP3 HR3 HK3 D1
  obtain ⟨w5, hst5, hb5, hg5⟩ := run_store_blk (P := Tryd.prog) ds.toList HR4.out (by simp [hy1, hdz]) Hds.out.o
  have Hb5 := Lib.hid hb5; have Hg5 := Lib.hid hg5
  clear hb5 hg5
  go_wp2
  have hb5 := Hb5.out
  exact bodyPost_ret (v := .agg ds) (results_cell_row Tryd.results11 _ _ (w.heap.size + 1) _ _ _ (.array 32 5) rfl hb5 hash_under rfl (by rw [List.size_toArray, Array.length_toList]; exact hdi)) rfl ⟨ds, rfl, HI.out, HK4.out.grown Hg5.out HK4.out.size (fun q hq => by injection hq with hq; omega)⟩
end Go.Proofs.YteoilddiilegmaaDoor
