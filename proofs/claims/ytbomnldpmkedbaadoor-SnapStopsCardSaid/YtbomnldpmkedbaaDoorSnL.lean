/- The disk behind a crash in between. (printed by gen_snL.py) -/
import Derived.Test.YtbomnldpmkedbaaDoorSnT
set_option linter.unusedSimpArgs false
set_option linter.unusedVariables false
namespace Go.Proofs.YtbomnldpmkedbaaDoor
open Go.RowKit
attribute [local go_sem ↓] Go.wp_at_zero Go.wp_at_succ

theorem results_tmp2 {w : World} {g : Nat} {v0 v1 : Value} (hb : Blk w g 32 [v0, v1]) : w.cell? ⟨g, 0, none⟩ = some v0 ∧ w.cell? ⟨g, 1, none⟩ = some v1 ∧ w.frozen? ⟨g, 0, none⟩ = false ∧ w.frozen? ⟨g, 1, none⟩ = false :=
  ⟨(hb.cell 0).trans rfl, (hb.cell 1).trans rfl, hb.frozen 0, hb.frozen 1⟩
theorem doP_sane : ∀ (l : List POp) (b : List UInt8) (ps : List WP), saneP b.length ps = true → saneP (doP l b ps).1.length (doP l b ps).2.1 = true
  | [], b, ps, h => h
  | x :: l, b, ps, h => by
    unfold doP
    split
    · exact doP_sane l _ _ (runP_sane h x)
    · exact runP_sane h x
/-- How many operations are done. -/
def stopN (n : Int) (m : Nat) : Nat := (min (max n 0) m).toNat

set_option maxRecDepth 100000 in
set_option maxHeartbeats 8000000 in
theorem stop_w (A : Option Addr) (b : List UInt8) (c : Nat) (base : Int) (room : Nat) (hs : List Hd) (ep : Int) (ss : Array Value) (L0 : Int × Int × Int) (Ak : Option Addr) (gl : List Hd) (ck : Nat) (n : Int) (Bp : Option Addr) (plan : List UInt8) (cp : Nat) (w : World)
    (h : ∀ W, Fr 0 (fun _ => False) w W → DOk W A b c none [] 0) (hS : ShaOk w) (hG : GoodW b [] ep base room hs L0) (hR : b = [] ∨ room = roomS ((b.length / 32 : Nat) : Int)) (hss : StA (stCells (.slice A b.length c) (.slice none 0 0) base (room : Int) (hs.length : Nat) (lastL 0 z32 hs) ep) ss)
    (hgl : gl.length ≤ 100000) (hk : Rd w Ak (gl.flatMap Hd.cells)) (hgo : ∀ x ∈ gl, x.ok) (hn : -9223372036854775808 ≤ n ∧ n ≤ 9223372036854775807) (hp : Rd w Bp (plan.map u8v)) (hpl : plan.length ≤ 1000000) :
    Calls Tryd.prog 26 #[.agg ss, .slice Ak gl.length ck, .int .i64 n, .slice Bp plan.length cp] w fun e w' => ∃ A' c' C, e = .returned (.tuple #[DV A' C.length c' none 0 0, .int .i64 (compE b [] base room ep gl)]) ∧ Keep w w' ∧ (∀ W, Keep w' W → DOk W A' C c' none [] 0) ∧
      (compE b [] base room ep gl ≠ 0 → C = b) ∧ (compE b [] base room ep gl = 0 → C = crashP plan 0 (doP ((opsS b [] gl ep).take (stopN n (opsS b [] gl ep).length)) b []).2.1 (doP ((opsS b [] gl ep).take (stopN n (opsS b [] gl ep).length)) b []).1) := by
  obtain ⟨zs, hz1, hz2, hz3⟩ := zst_letter
  have hsz := hss.z; have hsn := hss.n; have hsi := hss.i
  have Hss := Lib.hid hss; have HS := Lib.hid hS; have Hk := Lib.hid hk; have Hgo := Lib.hid hgo; have Hh := Lib.hid h; have HG := Lib.hid hG; have HR := Lib.hid hR; have Hp := Lib.hid hp
  have hgb := hG.bnd
  have hl : (lastL 0 z32 hs).length = 32 := lastL_len hs 0 z32 rfl
  have Hl := Lib.hid hl
  have C1 : Hid (∀ y, Keep w y → Calls Tryd.prog 14 #[.agg ss, .slice Ak gl.length ck] y fun e w' => ∃ ss', e = .returned (.tuple #[.agg ss', .int .i64 (compE b [] base room ep gl)]) ∧ (ss'.size = 38 ∧ ¬ ss' = #[] ∧ ∀ v ∈ ss'.toList, v.oneCell' = true) ∧ Keep y w') := fun y hy => by
    have h1 := compact_w A b c none [] 0 base room (hs.length : Nat) (lastL 0 z32 hs) hl ep ss Ak gl ck y (fun _ => False) (fun _ h => h.elim) (fun W hW => Hh.out W (hW.keep hy)) (HS.out.keep hy) HG.out.san Hss.out (by omega) hgl (Hk.out.keep hy) Hgo.out
    rw [List.map_nil] at h1
    refine h1.mono ?_
    rintro e w' ⟨ss', g1, g2, g3, g4⟩
    refine ⟨ss', g1, ?_, g2⟩
    by_cases he : compE b [] base room ep gl = 0
    · obtain ⟨A', b', c', PA', vs, pc', hs', hC⟩ := g4 he
      exact ⟨hC.sta.z, hC.sta.n, hC.sta.o⟩
    · rw [g3 he]; exact ⟨Hss.out.z, Hss.out.n, Hss.out.o⟩
  obtain ⟨CE, hCE⟩ : ∃ CE, compE b [] base room ep gl = CE := ⟨_, rfl⟩
  have HCE := Lib.hid hCE
  have HM0 : Hid (CE = 0 → gl.length ≤ roomS (b.length / 32 : Nat) ∧ begS (lookB (bytesQ b [])).2.1 (roomS (b.length / 32 : Nat)) = base ∧ (room : Int) = roomS (b.length / 32 : Nat) ∧ ep ≤ 2147483646) := fun e => by
    have h1 := hCE.trans e
    unfold compE at h1
    have h2 : mayS (b.length / 32) (lookB (bytesQ b [])) base room ep gl.length = 0 := Classical.byContradiction fun h => by rw [if_neg h] at h1; exact h h1
    obtain ⟨q1, q2, q3, q4, q5, _⟩ := mayS_zero h2
    exact ⟨q1, q3, q4, q5⟩
  rw [hCE] at C1 ⊢
  clear hss hS hk hgo h hG hR hp hl hCE
  obtain ⟨hn1, hn2⟩ := hn
  go_enter Tryd.func26, Tryd.ntmps26
  go_upto_region 1 with fail
  obtain ⟨w1, hw1⟩ : ∃ w1, w1 = (w.alloc (.cells ss 38)).alloc (.cells #[.slice none 0 0, .slice none 0 0] 32) := ⟨_, rfl⟩
  have HB1 : Hid (Blk w1 w.heap.size 38 ss.toList) := by rw [hw1]; exact (Blk.new w _ ss.toList).alloc _
  have HR1 : Hid (Blk w1 (w.heap.size + 1) 32 [.slice none 0 0, .slice none 0 0]) := by
    rw [hw1]
    have h1 := Blk.new (w.alloc (.cells ss 38)) 32 [.slice none 0 0, .slice none 0 0]
    rw [World.size_alloc] at h1
    exact h1
  have HK1 : Hid (Keep w w1) := by rw [hw1]; exact keep_trans (keep_new _ _) (keep_new _ _)
  have hz11 : w.heap.size + 2 ≤ w1.heap.size := by rw [hw1]; simp
  rw [← hw1]
  clear hw1
  go_wp2_with ((with_reducible refine load_arr w.heap.size ss (Eq.trans ?_ rfl) HB1.out _ Tryd.underlying38 rfl hsi ?_); rfl)
  refine (C1.out w1 HK1.out).mono ?_
  clear C1
  rintro e w2 ⟨s2, rfl, ⟨h2z, h2n, h2o⟩, k2⟩
  have H2o := Lib.hid h2o
  have hst : (storeCells ⟨w2.heap.size, 0, none⟩ s2.toList 0).run Tryd.prog (w2.alloc (.cells zs 38)) = .ok () (w2.alloc (.cells s2 38)) := run_storeCells_new (P := Tryd.prog) w2 38 zs s2 (by rw [h2z]; kernel_rfl) (hz1.trans h2z.symm) (by have := all_oneCell_toArray H2o.out; rwa [Array.toArray_toList] at this)
  have k3 : Keep w1 (w2.alloc (.cells s2 38)) := keep_trans k2 (keep_new _ _)
  have hz12 : w1.heap.size ≤ w2.heap.size := k2.size
  clear k2 h2o
  go_upto_region 2 with fail
  clear hst
  have hw3s : w2.heap.size < (w2.alloc (.cells s2 38)).heap.size := by simp
  generalize w2.alloc (.cells s2 38) = w3 at *
  have HB3 := Lib.hid (HB1.out.keep k3); have HR3 := Lib.hid (HR1.out.keep k3); have HK3 := Lib.hid (keep_trans HK1.out k3)
  have hz13 : w1.heap.size ≤ w3.heap.size := k3.size
  clear k3 HB1 HR1
  have HB3' : Hid (Blk w3 w.heap.size 38 (stCells (.slice A b.length c) (.slice none 0 0) base (room : Int) (hs.length : Nat) (lastL 0 z32 hs) ep)) := by rw [← Hss.out.l]; exact HB3.out
  by_cases he : CE = 0
  · subst he
    obtain ⟨q1, q2, q3, q4⟩ := HM0.out rfl
    have hrm := roomS_le ((b.length / 32 : Nat) : Int)
    have hw3 := Hh.out w3 (Fr.of_keep HK3.out)
    have O1 : Hid (∀ y, Keep w3 y → Calls Tryd.prog 35 #[.agg ss, .slice Ak gl.length ck] y fun e w' => ∃ (Af : Option Addr) (cf : Nat) (ops : List OpR), e = .returned (.slice Af ops.length cf) ∧
        ops.map OpR.pl = opsS b [] gl ep ∧ (ops.length ≤ cf ∧ cf ≤ maxLen ∧ ∀ W, Fr y.heap.size (fun _ => False) w' W → Rd W Af (ops.map OpR.val) ∧ ∀ x ∈ ops, x.ok W) ∧ Keep y w') := fun y hy =>
      operations_w A b c none [] 0 base _ (hs.length : Nat) (lastL 0 z32 hs) Hl.out ep ss Ak gl ck y (hw3.keep hy) (HS.out.keep (keep_trans HK3.out hy)) (by rw [← q3]; exact Hss.out) hrm ⟨by omega, q4⟩ (by omega) (Hk.out.keep (keep_trans HK3.out hy)) Hgo.out
    have D1 : Hid (∀ y (Y : Nat → Prop) (Af : Option Addr) (cf : Nat) (ops : List OpR) (m : Nat), Keep w y → (∀ k, Y k → k < y.heap.size) → (∀ k, k < w.heap.size → ¬ Y k) → ops.map OpR.pl = opsS b [] gl ep → (∀ W, Fr 0 Y y W → Rd W Af (ops.map OpR.val) ∧ ∀ x ∈ ops, x.ok W) → ops.length ≤ 1000000 → m ≤ ops.length →
        Calls Tryd.prog 34 #[DV A b.length c none 0 0, .slice Af m cf] y fun e w' => ∃ A' b' c' PA' vs pc' er, e = .returned (.tuple #[DV A' b'.length c' PA' vs.length pc', .int .i64 er]) ∧
          (b', vs.map WriteR.pl, er) = doP ((opsS b [] gl ep).take m) b [] ∧ (∀ W, Fr 0 Y w' W → DOk W A' b' c' PA' vs pc') ∧ Keep y w') := fun y Y Af cf ops m hy hY hYX ho hf hol hm => by
      have h1 := do_w A b c none [] 0 y Y hY (ops.take m) Af cf (fun W hW => Hh.out W (fun k g1 g2 g3 => (hW k g1 (Nat.lt_of_lt_of_le g2 hy.size) (fun e => hYX k g2 e)).trans (hy.block k g2))) HG.out.san (fun W hW => ⟨by rw [List.map_take]; exact (hf W hW).1.take m, fun x hx => (hf W hW).2 x (List.mem_of_mem_take hx)⟩) (by rw [List.length_take]; omega)
      rw [List.map_take, ho, List.length_take, Nat.min_eq_left hm] at h1
      exact h1
    have hol0 : (opsS b [] gl ep).length ≤ 1000000 := by
      unfold opsS opsP zerP
      rw [List.length_cons, List.length_append, List.length_append, recsP_len, List.length_map, List.length_range]
      simp only [List.length_cons, List.length_nil]
      omega
    have HOL := Lib.hid hol0
    clear hol0 hw3 hrm q1 q2 q3 q4 HM0 HCE
    go_wp2_with ((with_reducible refine load_arr w.heap.size ss (Eq.trans ?_ rfl) HB3.out _ Tryd.underlying38 rfl hsi ?_); rfl)
    refine (O1.out w3 (Below.refl _ _)).mono ?_
    clear O1
    rintro e w4 ⟨Af, cf, ops, rfl, hops, ⟨hoc, hcm, hof⟩, k4⟩
    unfold maxLen at hcm
    have Hops := Lib.hid hops; have Hof := Lib.hid hof
    have hol : ops.length ≤ 1000000 := by
      have h1 := congrArg List.length hops
      rw [List.length_map] at h1
      have := HOL.out
      omega
    have HB4 := Lib.hid (HB3'.out.keep k4); have HR4 := Lib.hid (HR3.out.keep k4); have HK4 := Lib.hid (keep_trans HK3.out k4)
    have hz14 := k4.size
    clear hops hof k4
    go_upto_region 5 with fail
    obtain ⟨m, hm⟩ : ∃ m, stopN n ops.length = m := ⟨_, rfl⟩
    have hml : m ≤ ops.length := by unfold stopN at hm; omega
    have hmm : (if (ops.length : Int) < if n < 0 then 0 else n then (ops.length : Int) else if n < 0 then 0 else n) = (m : Int) := by
      unfold stopN at hm
      split <;> split at * <;> omega
    obtain ⟨mx, hmx⟩ : ∃ mx, (if n < 0 then 0 else n) = mx := ⟨_, rfl⟩
    rw [hmx] at hmm
    have Hm := Lib.hid hm
    clear hm
    go_cut [13, 14] (fun s13 s14 wx => ∃ p A' b' c' PA' vs pc' er, s13 = .pointer (some ⟨p, 0, none⟩) ∧ s14 = .int .i64 er ∧ w4.heap.size ≤ p ∧ Hid (Keep w4 wx) ∧ Hid ((b', vs.map WriteR.pl, er) = doP ((opsS b [] gl ep).take m) b []) ∧ Hid (Blk wx p 32 [.slice A' b'.length c', .slice PA' vs.length pc']) ∧ Hid (∀ W, Fr 0 (fun _ => False) wx W → DOk W A' b' c' PA' vs pc'))
    case first =>
      refine wp_region_tree (.take [0,1,2,3,4,5,6,7,8,9] (.fork 10 (.take [11,12,13] (.force [14] .done)) 14 (.force [10] (.take [11,12,13] .done)))) [15,16] (by kernel_rfl) (by kernel_rfl) (fun y0 hk => ?_)
      have Q := Lib.hid hk
      clear hk
      refine mt_take y0 (Below.refl _ _) ?_
      simp only [pick_cons, pick_nil, nth_zero, nth_succ]
      have HBy := HB4.out.keep Q.out
      obtain ⟨d0, d1, d2, d3, d4, d5⟩ := st_d Hl.out HBy
      have a0 := aft_cell d0; have a1 := aft_cell d1
      repeat (go_big_quiet_step (fail))
      clear a0 a1 hmm hmx d0 d1 d2 d3 d4 d5 HBy
      refine wpQuiet_nil (mt_fork ?_ ?_)
      · simp only [pick_cons, pick_nil, nth_zero, nth_succ]
        refine fc_step rfl (fun K hK => ?_)
        go_simp
        (with_reducible refine (D1.out y0 (fun _ => False) Af cf ops m (keep_trans HK4.out Q.out) (fun k e => e.elim) (fun k h e => e) Hops.out (fun W hW => Hof.out W (hW.sub (Nat.zero_le _) Q.out (fun k h1 h2 h3 => fun e => e))) hol hml).mono ?_)
        rintro e y1 ⟨A6, b6, c6, PA6, vs, pc6, er, rfl, hrun, hdd, hk⟩
        refine hK _ _ hk ?_
        clear hK K
        have HQ10 : w4.heap.size ≤ y0.heap.size := Q.out.size
        have Hprev := Q
        replace Q := Lib.hid (keep_trans Q.out hk)
        have hs_y1 : y0.heap.size ≤ y1.heap.size := hk.size
        have Hrun := Lib.hid hrun; have Hdd := Lib.hid hdd
        have HKK6 : Hid (Keep y1 y1) := Below.refl _ _
        clear hrun hdd
        clear hk
        refine fc_nil (mt_take y1 (Below.refl _ _) ?_)
        simp only [pick_cons, pick_nil, nth_zero, nth_succ]
        repeat (go_big_quiet_step (fail))
        refine wpQuiet_nil (mt_force ?_)
        simp only [pick_cons, pick_nil, nth_zero, nth_succ]
        refine fc_step rfl (fun K hK => ?_)
        go_simp
        refine hK _ _ (keep_new _ _) ?_
        clear hK K
        obtain ⟨y2, hy⟩ : ∃ y2, y2 = y1.alloc (.cells #[.slice none 0 0, .slice none 0 0] 32) := ⟨_, rfl⟩
        have HP9 : Hid (Blk y2 y1.heap.size 32 #[.slice none 0 0, .slice none 0 0].toList) := by rw [hy]; exact Blk.new y1 _ #[.slice none 0 0, .slice none 0 0].toList
        have hk : Keep y1 y2 := by rw [hy]; exact keep_new _ _
        rw [← hy]
        clear hy
        have HP9s : y1.heap.size < y2.heap.size := HP9.out.lt
        have HP9n := Q.out.size
        replace Q := Lib.hid (keep_trans Q.out hk)
        have hs_y2 : y1.heap.size ≤ y2.heap.size := hk.size
        replace HKK6 := Lib.hid (keep_trans HKK6.out hk)
        clear hk
        generalize hp : y1.heap.size = p9 at *
        have HP9a : y1.heap.size ≤ p9 := Nat.le_of_eq hp
        have HP9b : p9 ≤ y1.heap.size := Nat.le_of_eq hp.symm
        clear hp
        refine fc_nil (mt_end ?_)
        have c0 := HP9.out.cell 0; have c1 := HP9.out.cell 1; have f0 := HP9.out.frozen 0; have f1 := HP9.out.frozen 1
        simp only [List.getElem?_cons_zero, List.getElem?_cons_succ] at c0 c1
        have hPl := HP9.out.lt; have hKs := HKK6.out.size; have hQs := Q.out.size
        go_wp2
        go_meet
        refine ⟨p9, A6, b6, c6, PA6, vs, pc6, er, rfl, rfl, by omega, Lib.hid ((Q.out.setCell (by simp; omega) _).setCell (by simp; omega) _), Hrun, Lib.hid ((HP9.out.set_ 0 _).set_ 1 _), Lib.hid (fun W hW => Hdd.out W (fun k h1 h2 h3 => ?_))⟩
        have hn : k ≠ p9 := by first | omega | exact h3
        have h4 := hW k h1 (by simp; omega) (fun e => e)
        exact h4.trans ((set_ne _ _ _ _ _ hn).trans ((set_ne _ _ _ _ _ hn).trans (HKK6.out.block k h2)))
      · simp only [pick_cons, pick_nil, nth_zero, nth_succ]
        refine fc_step rfl (fun K hK => ?_)
        go_simp
        refine hK _ _ (keep_new _ _) ?_
        clear hK K
        obtain ⟨y3, hy⟩ : ∃ y3, y3 = y0.alloc (.cells #[.slice none 0 0, .slice none 0 0] 32) := ⟨_, rfl⟩
        have HP9 : Hid (Blk y3 y0.heap.size 32 #[.slice none 0 0, .slice none 0 0].toList) := by rw [hy]; exact Blk.new y0 _ #[.slice none 0 0, .slice none 0 0].toList
        have hk : Keep y0 y3 := by rw [hy]; exact keep_new _ _
        rw [← hy]
        clear hy
        have HP9s : y0.heap.size < y3.heap.size := HP9.out.lt
        have HP9n := Q.out.size
        replace Q := Lib.hid (keep_trans Q.out hk)
        have hs_y3 : y0.heap.size ≤ y3.heap.size := hk.size
        clear hk
        generalize hp : y0.heap.size = p9 at *
        have HP9a : y0.heap.size ≤ p9 := Nat.le_of_eq hp
        have HP9b : p9 ≤ y0.heap.size := Nat.le_of_eq hp.symm
        clear hp
        refine fc_nil (mt_force ?_)
        simp only [pick_cons, pick_nil, nth_zero, nth_succ]
        refine fc_step rfl (fun K hK => ?_)
        go_simp
        (with_reducible refine (D1.out y3 (fun k => k = p9) Af cf ops m (keep_trans HK4.out Q.out) (fun k e => by have h1 := HP9.out.lt; omega) (fun k h e => by have h2 := HK4.out.size; omega) Hops.out (fun W hW => Hof.out W (hW.sub (Nat.zero_le _) Q.out (fun k h1 h2 h3 => fun e => by omega))) hol hml).mono ?_)
        rintro e y4 ⟨A6, b6, c6, PA6, vs, pc6, er, rfl, hrun, hdd, hk⟩
        refine hK _ _ hk ?_
        clear hK K
        have HQ10 : w4.heap.size ≤ y3.heap.size := Q.out.size
        have Hprev := Q
        replace Q := Lib.hid (keep_trans Q.out hk)
        have hs_y4 : y3.heap.size ≤ y4.heap.size := hk.size
        replace HP9 := Lib.hid (HP9.out.keep hk)
        have Hrun := Lib.hid hrun; have Hdd := Lib.hid hdd
        have HKK6 : Hid (Keep y4 y4) := Below.refl _ _
        clear hrun hdd
        clear hk
        refine fc_nil (mt_take y4 (Below.refl _ _) ?_)
        simp only [pick_cons, pick_nil, nth_zero, nth_succ]
        repeat (go_big_quiet_step (fail))
        refine wpQuiet_nil (mt_end ?_)
        have c0 := HP9.out.cell 0; have c1 := HP9.out.cell 1; have f0 := HP9.out.frozen 0; have f1 := HP9.out.frozen 1
        simp only [List.getElem?_cons_zero, List.getElem?_cons_succ] at c0 c1
        have hPl := HP9.out.lt; have hKs := HKK6.out.size; have hQs := Q.out.size
        go_wp2
        go_meet
        refine ⟨p9, A6, b6, c6, PA6, vs, pc6, er, rfl, rfl, by omega, Lib.hid ((Q.out.setCell (by simp; omega) _).setCell (by simp; omega) _), Hrun, Lib.hid ((HP9.out.set_ 0 _).set_ 1 _), Lib.hid (fun W hW => Hdd.out W (fun k h1 h2 h3 => ?_))⟩
        have hn : k ≠ p9 := by first | omega | exact h3
        have h4 := hW k h1 (by simp; omega) (fun e => e)
        exact h4.trans ((set_ne _ _ _ _ _ hn).trans ((set_ne _ _ _ _ _ hn).trans (HKK6.out.block k h2)))
    case rest =>
      obtain ⟨p, A6, b6, c6, PA6, vs, pc6, er, rfl, rfl, hp, Kc, Hrun, HBp, Hdk⟩ := hcut
      have hop : ops.length = (opsS b [] gl ep).length := by rw [← Hops.out, List.length_map]
      obtain ⟨C, hC⟩ : ∃ C, crashP plan 0 (doP ((opsS b [] gl ep).take (stopN n (opsS b [] gl ep).length)) b []).2.1 (doP ((opsS b [] gl ep).take (stopN n (opsS b [] gl ep).length)) b []).1 = C := ⟨_, rfl⟩
      have HC : Hid (∀ y, Keep wc y → Calls Tryd.prog 47 #[DV A6 b6.length c6 PA6 vs.length pc6, .slice Bp plan.length cp] y fun e w' => ∃ A' c', e = .returned (DV A' C.length c' none 0 0) ∧ (∀ W, Fr y.heap.size (fun _ => False) w' W → DOk W A' C c' none [] 0) ∧ Keep y w') := fun y hy => by
        have hs6 := doP_sane ((opsS b [] gl ep).take m) b [] HG.out.san
        rw [← Hrun.out] at hs6
        have e1 : crashD b6 vs plan = C := by
          rw [crashD_pl rfl hs6, ← hC, ← hop, Hm.out, ← Hrun.out]
        have h1 := crash_any A6 b6 c6 PA6 vs pc6 Bp plan cp y (Hdk.out y (Fr.of_keep hy)) (Hp.out.keep (keep_trans (keep_trans HK4.out Kc.out) hy)) hpl
        rw [e1] at h1
        refine h1.mono ?_
        rintro e w' ⟨A', c', rfl, hown, hk⟩
        exact ⟨A', c', rfl, fun W hW => ⟨own_rd (own_fr hown hW (fun _ _ h => h)), (own_cap hown).1, (own_cap hown).2, .inl rfl, Nat.le_refl _, Nat.zero_le _, fun _ h => by cases h⟩, hk⟩
      have HCC := Lib.hid hC
      have hKc := Kc.out.size
      have HRc := Lib.hid (HR4.out.keep Kc.out); have HKc := Lib.hid (keep_trans HK4.out Kc.out)
      have d0 := HBp.out.cell 0; have d1 := HBp.out.cell 1
      simp only [List.getElem?_cons_zero, List.getElem?_cons_succ] at d0 d1
      obtain ⟨r0, r1, f0, f1⟩ := results_tmp2 HRc.out
      generalize hbl : b6.length = bl6 at *
      generalize hvl : vs.length = vl6 at *
      clear hbl hvl hC hop
      go_wp2_with fail
      refine (HC.out wc (Below.refl _ _)).mono ?_
      rintro e w6 ⟨A7, c7, rfl, hd7, k7⟩
      have Hd7 := Lib.hid hd7
      have HR7 := Lib.hid (HRc.out.keep k7); have HK7 := Lib.hid (keep_trans HKc.out k7)
      have hz17 := k7.size
      clear hd7 k7 d0 d1 r0 r1 f0 f1 HC
      obtain ⟨r0, r1, f0, f1⟩ := results_tmp2 HR7.out
      go_wp2_with fail
      refine bodyPost_ret (v := .tuple #[DV A7 C.length c7 none 0 0, .int .i64 0]) (by simp [results, Tryd.results26, go_sem, r0, r1, f0, f1]) rfl ⟨A7, c7, C, rfl, (HK7.out.setCell (by simp) _).setCell (by simp) _, fun W hW => Hd7.out W (fun k h1 h2 h3 => ?_), HCC.out.symm⟩
      have hn : k ≠ w.heap.size + 1 := by omega
      exact (hW.block k (by simp; omega)).trans ((set_ne _ _ _ _ _ hn).trans (set_ne _ _ _ _ _ hn))
  · have hd : (CE != 0) = true := by simp [he]
    obtain ⟨d0, d1, d2, d3, d4, d5⟩ := st_d Hl.out HB3'.out
    obtain ⟨r0, r1, f0, f1⟩ := results_tmp2 HR3.out
    have Hne := Lib.hid he
    clear d2 d3 d4 d5 he
    go_wp2_with fail
    exact bodyPost_ret (v := .tuple #[DV A b.length c none 0 0, .int .i64 CE]) (by simp [results, Tryd.results26, go_sem, r0, r1, f0, f1]) rfl ⟨A, c, b, rfl, (HK3.out.setCell (by simp) _).setCell (by simp) _, fun W hW => Hh.out W (Fr.of_keep (keep_trans ((HK3.out.setCell (by simp) _).setCell (by simp) _) hW)), fun _ => rfl, fun e => absurd e Hne.out⟩
end Go.Proofs.YtbomnldpmkedbaaDoor
