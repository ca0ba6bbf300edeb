/- A log is opened again. -/
import Derived.Test.YtielojlhdnimgaaDoorJrnK
set_option linter.unusedSimpArgs false
set_option linter.unusedVariables false
namespace Go.Proofs.YtielojlhdnimgaaDoor
open Go.RowKit
attribute [local go_sem ↓] Go.wp_at_zero Go.wp_at_succ

/-- A disk's bytes, of what is pending as plain writes. -/
def bytesQ (b : List UInt8) (ps : List WP) : List UInt8 := if saneP b.length ps then bytesP b ps else []
theorem bytesD_Q (b : List UInt8) (ws : List WriteR) : bytesD b ws = bytesQ b (ws.map WriteR.pl) := by
  rw [bytesD_tk]
  have ht := tk_pl b ws
  unfold bytesQ
  by_cases hs : saneP b.length (ws.map WriteR.pl) = true
  · rw [if_pos hs, if_pos hs] at ht
    rw [if_pos hs, ht.1, ht.2]
  · rw [if_neg hs, if_neg hs] at ht
    rw [if_neg hs, ht.1, ht.2]; rfl
/-- What lies there when a log is opened again. -/
def reopB (b : List UInt8) (ps : List WP) (base room : Int) : List UInt8 := bytesQ b (clearP b base room (openL base room (bytesQ b ps)).1 ps)

set_option maxRecDepth 100000 in
set_option maxHeartbeats 3000000 in
theorem reopen_any (A : Option Addr) (b : List UInt8) (c : Nat) (PA : Option Addr) (ws : List WriteR) (pc : Nat) (base room : Int) (w : World) (h : DOk w A b c PA ws pc) (hS : ShaOk w) (hb1 : -9223372036854775808 ≤ base ∧ base ≤ 9223372036854775807) :
    Calls Tryd.prog 10 #[DV A b.length c PA ws.length pc, .int .i64 base, .int .i64 room] w fun e w' => ∃ B, B = reopB b (ws.map WriteR.pl) base room ∧ ∃ A' c' cs hv, e = .returned (.tuple #[.agg cs, hv]) ∧
      LogA (lgCells (.slice A' B.length c') (.slice none 0 0) base room ((openL base room B).1 : Nat) (openL base room B).2.1) cs ∧
      w'.ownsRow w.heap.size 5 1 (.slice A' B.length c') B.length (B.map u8v) ∧
      w'.ownsRow w.heap.size 44 68 hv (openL base room (bytesQ b (ws.map WriteR.pl))).2.2.length ((openL base room (bytesQ b (ws.map WriteR.pl))).2.2.flatMap Hd.cells) ∧ Keep w w' := by
  obtain ⟨B, hB⟩ : ∃ B, B = reopB b (ws.map WriteR.pl) base room := ⟨_, rfl⟩
  have HB := Lib.hid hB
  have O1 : Hid (∀ w', Keep w w' → Calls Tryd.prog 16 #[DV A b.length c PA ws.length pc, .int .i64 base, .int .i64 room] w' fun e w'' => ∃ cs hv, e = .returned (.tuple #[.agg cs, hv]) ∧
      LogA (lgCells (.slice A b.length c) (.slice PA ws.length pc) base room ((openL base room (bytesQ b (ws.map WriteR.pl))).1 : Nat) (openL base room (bytesQ b (ws.map WriteR.pl))).2.1) cs ∧
      w''.ownsRow w'.heap.size 44 68 hv (openL base room (bytesQ b (ws.map WriteR.pl))).2.2.length ((openL base room (bytesQ b (ws.map WriteR.pl))).2.2.flatMap Hd.cells) ∧ Keep w' w'') := fun w' hk =>
    (open_any A b c PA ws pc base room w' (h.keep hk) (hS.keep hk) hb1).mono fun e w'' ⟨cs, hv, h1, h2, h3, h4⟩ => by
      rw [bytesD_Q] at h2 h3
      exact ⟨cs, hv, h1, LogA.of (openL_len _ _ _) h2, h3, h4⟩
  have C1 : Hid (∀ w' ls, Keep w w' → LogA (lgCells (.slice A b.length c) (.slice PA ws.length pc) base room ((openL base room (bytesQ b (ws.map WriteR.pl))).1 : Nat) (openL base room (bytesQ b (ws.map WriteR.pl))).2.1) ls →
      Calls Tryd.prog 27 #[.agg ls] w' fun e w'' => ∃ us, e = .returned (.agg us) ∧ Keep w' w'' ∧ Calls Tryd.prog 15 #[.agg us] w'' fun e w3 => ∃ A' c' cs, e = .returned (.agg cs) ∧
        LogA (lgCells (.slice A' B.length c') (.slice none 0 0) base room ((openL base room B).1 : Nat) (openL base room B).2.1) cs ∧
        w3.ownsRow w'.heap.size 5 1 (.slice A' B.length c') B.length (B.map u8v) ∧ Keep w'' w3) := fun w' ls hk hls =>
    (clear_anyF A b c PA ws pc base room _ _ ls w' (fun W => Keep w W) (fun W hW => keep_trans hk hW) (fun W hW => h.keep hW) (hS.keep hk) hb1 hls).mono fun e w'' ⟨A', c', PA', pc', vs, cs, h1, h2, h3, h4, h5⟩ => by
      refine ⟨cs, h1, h5, ?_⟩
      have hd := h4 w'' ⟨keep_trans hk h5, fun k _ _ => rfl⟩
      have e1 : bytesD b vs = B := by rw [bytesD_Q, h3, hB, bytesD_Q]; rfl
      have hc := jsync_any A' b c' PA' vs pc' base room _ _ cs w'' hd (hS.keep (keep_trans hk h5)) hb1 h2
      rw [e1] at hc
      exact hc.mono fun e w3 ⟨A2, c2, ds, q1, q2, q3, q4⟩ => ⟨A2, c2, ds, q1, q2, own_lowH q3 h5.size, q4⟩
  clear hB
  generalize openL base room (bytesQ b (ws.map WriteR.pl)) = OP at *
  obtain ⟨N, last, hs⟩ := OP
  obtain ⟨zs, hz1, hz2, hz3⟩ := zlog_letter
  clear h hS
  generalize hOB : openL base room B = OB at *
  obtain ⟨N2, last2, hs2⟩ := OB
  have HOB := Lib.hid hOB
  clear hOB
  generalize hbl : b.length = bl at *
  generalize hwl : ws.length = wl at *
  clear hbl hwl
  go_enter Tryd.func10, Tryd.ntmps10
  go_upto_region 1 with fail
  obtain ⟨w1, hw1⟩ : ∃ w1, w1 = (w.alloc (.cells #[.slice A bl c, .slice PA wl pc] 31)).alloc (.cells zs 35) := ⟨_, rfl⟩
  have HD1 : Blk w1 w.heap.size 31 [.slice A bl c, .slice PA wl pc] := by rw [hw1]; exact (Blk.new w _ [.slice A bl c, .slice PA wl pc]).alloc _
  have HR1 : Hid (Blk w1 (w.heap.size + 1) 35 zs.toList) := by
    rw [hw1]
    have h1 := Blk.new (w.alloc (.cells #[.slice A bl c, .slice PA wl pc] 31)) 35 zs.toList
    rw [World.size_alloc] at h1
    exact h1
  have HK1 : Hid (Keep w w1) := by rw [hw1]; exact keep_trans (keep_new _ _) (keep_new _ _)
  have hz11 : w.heap.size + 2 ≤ w1.heap.size := by rw [hw1]; simp
  rw [← hw1]
  clear hw1
  have d0 := HD1.cell 0; have d1 := HD1.cell 1
  simp only [List.getElem?_cons_zero, List.getElem?_cons_succ] at d0 d1
  clear HD1
  go_wp2_with fail
  refine (O1.out w1 HK1.out).mono ?_
  rintro e w2 ⟨cs, hv, rfl, hcs, own2, k2⟩
  have hcz := hcs.z; have hcn := hcs.n; have hci := hcs.i
  have Hcs := Lib.hid hcs; have Own2 := Lib.hid own2
  have HR2 := Lib.hid (HR1.out.keep k2); have HK2 := Lib.hid (keep_trans HK1.out k2)
  have hz2' : w1.heap.size ≤ w2.heap.size := k2.size
  have hst : (storeCells ⟨w2.heap.size, 0, none⟩ cs.toList 0).run Tryd.prog (w2.alloc (.cells zs 35)) = .ok () (w2.alloc (.cells cs 35)) := run_storeCells_new (P := Tryd.prog) w2 35 zs cs hci (hz1.trans hcz.symm) (by have := all_oneCell_toArray Hcs.out.o; rwa [Array.toArray_toList] at this)
  clear hcs own2 k2 d0 d1
  go_upto_region 2 with fail
  clear hst
  obtain ⟨w3, hw3⟩ : ∃ w3, w3 = w2.alloc (.cells cs 35) := ⟨_, rfl⟩
  have HC3 : Hid (Blk w3 w2.heap.size 35 cs.toList) := by rw [hw3]; exact Blk.new w2 _ cs.toList
  have k3 : Keep w2 w3 := by rw [hw3]; exact keep_new _ _
  rw [← hw3]
  clear hw3
  have HR3 := Lib.hid (HR2.out.keep k3); have HK3 := Lib.hid (keep_trans HK2.out k3); have Own3 := Lib.hid (own_keep Own2.out k3)
  have hz3' : w2.heap.size ≤ w3.heap.size := k3.size
  generalize w2.heap.size = C at *
  clear k3
  go_wp2_with ((with_reducible refine load_arr C cs (Eq.trans ?_ rfl) HC3.out _ Tryd.underlying35 rfl hci ?_); rfl)
  refine (C1.out w3 cs HK3.out Hcs.out).mono ?_
  rintro e w4 ⟨us, rfl, k4, hsync⟩
  have HSy := Lib.hid hsync
  have HR4 := Lib.hid (HR3.out.keep k4); have HK4 := Lib.hid (keep_trans HK3.out k4); have Own4 := Lib.hid (own_keep Own3.out k4)
  have hz4' : w3.heap.size ≤ w4.heap.size := k4.size
  clear hsync k4
  go_wp2_with fail
  refine HSy.out.mono ?_
  rintro e w5 ⟨A5, c5, fs, rfl, hfA, own5, k5⟩
  have hfz := hfA.z; have hfn := hfA.n; have hfi := hfA.i
  have HfA := Lib.hid hfA; have OwnB := Lib.hid own5
  have HR5 := Lib.hid (HR4.out.keep k5); have HK5 := Lib.hid (keep_trans HK4.out k5); have Own5 := Lib.hid (own_keep Own4.out k5)
  clear hfA own5 k5
  obtain ⟨w8, hst8, hb8, hg8⟩ := run_store_blk (P := Tryd.prog) fs.toList HR5.out (by simp [hz1, hfz]) HfA.out.o
  have Hb8 := Lib.hid hb8; have Hg8 := Lib.hid hg8
  clear hb8 hg8
  go_wp2_with fail
  have hb8 := Hb8.out
  refine bodyPost_ret (v := .tuple #[.agg fs, hv]) (results_cell_tmp_row Tryd.results10 _ _ (w.heap.size + 1) _ _ _ _ rfl hb8 Tryd.underlying35 rfl (by rw [List.size_toArray, Array.length_toList]; exact hfi)) rfl ⟨B, HB.out, A5, c5, fs, hv, rfl, ?_, ?_, ?_, HK5.out.grown Hg8.out HK5.out.size (fun q hq => by injection hq with hq; omega)⟩
  · rw [HOB.out]; exact HfA.out
  · exact own_lowH (OwnB.out.kept Hg8.out (.inr (fun e => by have h1 := (OwnB.out.lt _ e).1; omega))) (by omega)
  · exact own_lowH (Own5.out.kept Hg8.out (.inr (fun e => by have h1 := (Own5.out.lt _ e).1; omega))) (by omega)
end Go.Proofs.YtielojlhdnimgaaDoor
