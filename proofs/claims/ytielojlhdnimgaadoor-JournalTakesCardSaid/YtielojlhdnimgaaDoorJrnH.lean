/- A journal synced. -/
import Derived.Test.YtielojlhdnimgaaDoorJrnG
set_option linter.unusedSimpArgs false
set_option linter.unusedVariables false
namespace Go.Proofs.YtielojlhdnimgaaDoor
open Go.RowKit
attribute [local go_sem ↓] Go.wp_at_zero Go.wp_at_succ

set_option maxRecDepth 100000 in
set_option maxHeartbeats 2000000 in
theorem sync_own (A : Option Addr) (b : List UInt8) (c : Nat) (PA : Option Addr) (ws : List WriteR) (pc : Nat) (w : World) (h : DOk w A b c PA ws pc) :
    Calls Tryd.prog 34 #[DV A b.length c PA ws.length pc] w fun e w' => ∃ A' c', e = .returned (DV A' (bytesD b ws).length c' none 0 0) ∧ w'.ownsRow w.heap.size 5 1 (.slice A' (bytesD b ws).length c') (bytesD b ws).length ((bytesD b ws).map u8v) ∧ Keep w w' := by
  go_enter Tryd.func34, Tryd.ntmps34
  go_wp2_with fail
  refine (bytes_any _ _ _ _ _ _ _ (h.keep (((Below.refl _ _).alloc (Nat.le_refl _) _).alloc (by simp) _))).mono ?_
  rintro e w2 ⟨v, rfl, hown, hk2⟩
  have r0 : w2.cell? ⟨w.heap.size + 1, 0, none⟩ = some (.slice none 0 0) := keep_cell hk2 (by go_simp)
  have r1 : w2.cell? ⟨w.heap.size + 1, 1, none⟩ = some (.slice none 0 0) := keep_cell hk2 (by go_simp)
  have g0 : w2.frozen? ⟨w.heap.size + 1, 0, none⟩ = false := keep_frozen hk2 (by simp) (by go_simp)
  have g1 : w2.frozen? ⟨w.heap.size + 1, 1, none⟩ = false := keep_frozen hk2 (by simp) (by go_simp)
  have k2 : Keep w w2 := keep_trans (((Below.refl _ _).alloc (Nat.le_refl _) _).alloc (by simp) _) hk2
  obtain ⟨A2, c2, rfl, hc2, hm2, hrd2⟩ := own_form hown
  go_wp2_with fail
  unfold maxLen at hm2
  refine bodyPost_ret (v := DV A2 (bytesD b ws).length c2 none 0 0) (by simp [results, Tryd.results34, go_sem, r0, r1, g0, g1]) rfl ⟨A2, c2, rfl, ?_, ?_⟩
  · have ho9 := ownsRow_setCell_below (ownsRow_setCell_below hown (a := ⟨w.heap.size + 1, 0, none⟩) (by simp) (.slice A2 (bytesD b ws).length c2)) (a := ⟨w.heap.size + 1, 1, none⟩) (by simp) (.slice none 0 0)
    exact own_lowH ho9 (by simp; omega)
  · exact (k2.setCell (by simp) _).setCell (by simp) _

theorem lg_setD (d0 d1 e0 e1 : Value) (base room n : Int) (last : List UInt8) : ((lgCells d0 d1 base room n last).set 0 e0).set 1 e1 = lgCells e0 e1 base room n last := rfl

set_option maxRecDepth 100000 in
set_option maxHeartbeats 3000000 in
theorem jsync_any (A : Option Addr) (b : List UInt8) (c : Nat) (PA : Option Addr) (ws : List WriteR) (pc : Nat) (base room n : Int) (last : List UInt8) (ls : Array Value) (w : World) (h : DOk w A b c PA ws pc) (hS : ShaOk w) (hb1 : -9223372036854775808 ≤ base ∧ base ≤ 9223372036854775807)
    (hls : LogA (lgCells (.slice A b.length c) (.slice PA ws.length pc) base room n last) ls) :
    Calls Tryd.prog 15 #[.agg ls] w fun e w' => ∃ A' c' cs, e = .returned (.agg cs) ∧ LogA (lgCells (.slice A' (bytesD b ws).length c') (.slice none 0 0) base room ((openL base room (bytesD b ws)).1 : Nat) (openL base room (bytesD b ws)).2.1) cs ∧
      w'.ownsRow w.heap.size 5 1 (.slice A' (bytesD b ws).length c') (bytesD b ws).length ((bytesD b ws).map u8v) ∧ Keep w w' := by
  have T1 : Hid (∀ w', Keep w w' → Calls Tryd.prog 28 #[.agg ls] w' fun e w'' => ∃ cs, e = .returned (.agg cs) ∧ LogA (lgCells (.slice A b.length c) (.slice PA ws.length pc) base room ((openL base room (bytesD b ws)).1 : Nat) (openL base room (bytesD b ws)).2.1) cs ∧ Keep w' w'') := fun w' hk => jtaken_any A b c PA ws pc base room n last ls w' (h.keep hk) (hS.keep hk) hb1 hls
  have D1 : Hid (∀ w', Keep w w' → Calls Tryd.prog 34 #[DV A b.length c PA ws.length pc] w' fun e w'' => ∃ A' c', e = .returned (DV A' (bytesD b ws).length c' none 0 0) ∧ w''.ownsRow w'.heap.size 5 1 (.slice A' (bytesD b ws).length c') (bytesD b ws).length ((bytesD b ws).map u8v) ∧ Keep w' w'') := fun w' hk => sync_own A b c PA ws pc w' (h.keep hk)
  have hll : Hid ((openL base room (bytesD b ws)).2.1.length = 32) := openL_len _ _ _
  generalize openL base room (bytesD b ws) = OP at *
  generalize bytesD b ws = bs at *
  obtain ⟨zs, hz1, hz2, hz3⟩ := zlog_letter
  have hlz := hls.z; have hln := hls.n; have hli := hls.i
  have Hls := Lib.hid hls
  clear hls h hS
  generalize b.length = bl at *
  generalize ws.length = wl at *
  go_enter Tryd.func15, Tryd.ntmps15
  go_upto_region 1 with fail
  obtain ⟨w1, hw1⟩ : ∃ w1, w1 = (w.alloc (.cells ls 35)).alloc (.cells zs 35) := ⟨_, rfl⟩
  have HL1 : Hid (Blk w1 w.heap.size 35 ls.toList) := by rw [hw1]; exact (Blk.new w _ ls.toList).alloc _
  have HR1 : Hid (Blk w1 (w.heap.size + 1) 35 zs.toList) := by
    rw [hw1]
    have h1 := Blk.new (w.alloc (.cells ls 35)) 35 zs.toList
    rw [World.size_alloc] at h1
    exact h1
  have HK1 : Hid (Keep w w1) := by rw [hw1]; exact keep_trans (keep_new _ _) (keep_new _ _)
  have hz11 : w.heap.size + 2 ≤ w1.heap.size := by rw [hw1]; simp
  rw [← hw1]
  clear hw1
  go_wp2_with ((with_reducible refine load_arr w.heap.size ls (Eq.trans ?_ rfl) HL1.out _ Tryd.underlying35 rfl hli ?_); rfl)
  refine (T1.out w1 HK1.out).mono ?_
  rintro e w2 ⟨cs, rfl, hcs, k2⟩
  have hcz := hcs.z; have hcn := hcs.n; have hci := hcs.i
  have Hcs := Lib.hid hcs
  have HR2 := Lib.hid (HR1.out.keep k2)
  have HK2 := Lib.hid (keep_trans HK1.out k2)
  obtain ⟨w3, hst, hb3, hg3⟩ := run_store_blk (P := Tryd.prog) cs.toList (HL1.out.keep k2) (by simp [hlz, hcz]) Hcs.out.o
  rw [Hcs.out.l] at hb3
  have HB3 := Lib.hid hb3; have HR3 := Lib.hid (HR2.out.grown hg3 (fun e => by have e2 : w.heap.size = w.heap.size + 1 := Option.some.inj e; omega))
  have HK3 : Hid (Keep w w3) := HK2.out.grown hg3 HK2.out.size (fun q hq => by injection hq with hq; omega)
  have hz3' : w1.heap.size ≤ w3.heap.size := Nat.le_trans k2.size hg3.size
  clear hcs k2 hb3 hg3
  go_upto_region 2 with fail
  obtain ⟨c0, c1, c2, c3, c4⟩ := lg_d HB3.out
  go_wp2_with fail
  refine (D1.out w3 HK3.out).mono ?_
  rintro e w4 ⟨A4, c4', rfl, own4, k4⟩
  have HB4 := Lib.hid (HB3.out.keep k4); have HR4 := Lib.hid (HR3.out.keep k4)
  have HK4 := Lib.hid (keep_trans HK3.out k4)
  have Own4 := Lib.hid own4
  clear c0 c1 c2 c3 c4 own4 k4
  obtain ⟨c0, c1, c2, c3, c4⟩ := lg_d HB4.out
  have f0 := HB4.out.frozen 0; have f1 := HB4.out.frozen 1
  go_upto_region 3 with fail
  obtain ⟨w5, hw5⟩ : ∃ w5, w5 = (w4.setCell ⟨w.heap.size, 0, none⟩ (.slice A4 bs.length c4')).setCell ⟨w.heap.size, 1, none⟩ (.slice none 0 0) := ⟨_, rfl⟩
  have HB5 : Hid (Blk w5 w.heap.size 35 (lgCells (.slice A4 bs.length c4') (.slice none 0 0) base room (OP.1 : Nat) OP.2.1)) := by
    rw [hw5, ← lg_setD (.slice A bl c) (.slice PA wl pc)]; exact (HB4.out.set_ 0 _).set_ 1 _
  have HR5 : Hid (Blk w5 (w.heap.size + 1) 35 zs.toList) := by rw [hw5]; exact (HR4.out.far (by simp) _).far (by simp) _
  have HK5 : Hid (Keep w w5) := by rw [hw5]; exact (HK4.out.setCell (by simp) _).setCell (by simp) _
  have hg5 : w4.grownBy w5 (some w.heap.size) := by rw [hw5]; exact grown_set (grown_set (grown_refl _ _))
  have Own5 := Lib.hid (Own4.out.kept hg5 (.inr (fun e => by have h1 := (Own4.out.lt _ e).1; omega)))
  rw [← hw5]
  clear hw5 hg5 c0 c1 c2 c3 c4 f0 f1
  obtain ⟨fs, hfs⟩ : ∃ fs : Array Value, fs.toList = lgCells (.slice A4 bs.length c4') (.slice none 0 0) base room (OP.1 : Nat) OP.2.1 := ⟨_, rfl⟩
  have hfA := LogA.of hll.out hfs
  have hfz := hfA.z; have hfn := hfA.n; have hfi := hfA.i
  have HfA := Lib.hid hfA
  have HB6 : Hid (Blk w5 w.heap.size 35 fs.toList) := by rw [hfs]; exact HB5.out
  clear hfA hfs
  obtain ⟨w8, hst8, hb8, hg8⟩ := run_store_blk (P := Tryd.prog) fs.toList HR5.out (by simp [hz1, hfz]) HfA.out.o
  have Hb8 := Lib.hid hb8; have Hg8 := Lib.hid hg8
  clear hb8 hg8 hst
  go_wp2_with ((with_reducible refine load_arr w.heap.size fs (Eq.trans ?_ rfl) HB6.out _ Tryd.underlying35 rfl hfi ?_); rfl)
  have hb8 := Hb8.out
  exact bodyPost_ret (v := .agg fs) (results_cell_row Tryd.results15 _ _ (w.heap.size + 1) _ _ _ _ rfl hb8 Tryd.underlying35 rfl (by rw [List.size_toArray, Array.length_toList]; exact hfi)) rfl ⟨A4, c4', fs, rfl, HfA.out, own_lowH (Own5.out.kept Hg8.out (.inr (fun e => by have h1 := (Own5.out.lt _ e).1; omega))) (by omega), HK5.out.grown Hg8.out HK5.out.size (fun q hq => by injection hq with hq; omega)⟩
end Go.Proofs.YtielojlhdnimgaaDoor
