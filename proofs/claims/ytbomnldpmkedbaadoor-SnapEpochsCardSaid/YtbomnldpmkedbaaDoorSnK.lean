/- A log is written anew. (printed by gen_snK.py) -/
import Derived.Test.YtbomnldpmkedbaaDoorSnJ
set_option linter.unusedSimpArgs false
set_option linter.unusedVariables false
namespace Go.Proofs.YtbomnldpmkedbaaDoor
open Go.RowKit
attribute [local go_sem ↓] Go.wp_at_zero Go.wp_at_succ

theorem Fr.sub {lo lo' : Nat} {X X' : Nat → Prop} {w w' W : World} (h : Fr lo X w' W) (hl : lo ≤ lo') (hk : Keep w w') (hx : ∀ k, lo' ≤ k → k < w.heap.size → ¬ X' k → ¬ X k) : Fr lo' X' w W :=
  fun k h1 h2 h3 => (h k (Nat.le_trans hl h1) (Nat.lt_of_lt_of_le h2 hk.size) (hx k h1 h2 h3)).trans (hk.block k h2)
theorem mayS_zero {nS : Nat} {L : Int × Int × Int} {base room ep : Int} {nk : Nat} (h : mayS nS L base room ep nk = 0) : nk ≤ roomS nS ∧ L.1 = ep ∧ begS L.2.1 (roomS nS) = base ∧ room = roomS nS ∧ ep ≤ 2147483646 ∧ 4 ≤ nS := by
  unfold mayS at h
  split at h
  · cases h
  · split at h
    · cases h
    · split at h
      · cases h
      · split at h
        · cases h
        · rename_i h1 h2 h3 h4
          have e1 : L.1 = ep := Classical.byContradiction fun e => h2 (.inl e)
          have e2 : begS L.2.1 (roomS nS) = base := Classical.byContradiction fun e => h2 (.inr e)
          have e3 : room = roomS nS := Classical.byContradiction fun e => h3 (.inl e)
          have e4 : ¬ 2147483646 < ep := fun e => h3 (.inr e)
          exact ⟨by omega, e1, e2, e3, by omega, by omega⟩
/-- The operations of a store. -/
def opsS (b : List UInt8) (ps : List WP) (gl : List Hd) (ep : Int) : List POp :=
  opsP (begS (1 - (lookB (bytesQ b ps)).2.1) (roomS ((b.length / 32 : Nat) : Int))) (roomS ((b.length / 32 : Nat) : Int)) gl (if (lookB (bytesQ b ps)).2.2 = 0 then 1 else 0) ep (1 - (lookB (bytesQ b ps)).2.1)
/-- Compact's error. -/
def compE (b : List UInt8) (ps : List WP) (base room ep : Int) (gl : List Hd) : Int :=
  if mayS (b.length / 32) (lookB (bytesQ b ps)) base room ep gl.length = 0 then (doP (opsS b ps gl ep) b ps).2.2 else mayS (b.length / 32) (lookB (bytesQ b ps)) base room ep gl.length

/-- What a log that was written anew is. -/
structure CompR (X : Nat → Prop) (w' : World) (b : List UInt8) (ps : List WP) (gl : List Hd) (ep : Int) (A' : Option Addr) (b' : List UInt8) (c' : Nat) (PA' : Option Addr) (vs : List WriteR) (pc' : Nat) (hs' : List Hd) (ss' : Array Value) : Prop where
  run : (b', vs.map WriteR.pl, (0 : Int)) = doP (opsS b ps gl ep) b ps
  fnd : Found (begS (1 - (lookB (bytesQ b ps)).2.1) (roomS ((b.length / 32 : Nat) : Int))) (roomS ((b.length / 32 : Nat) : Int)) (bytesQ b' (vs.map WriteR.pl)) hs'
  sta : StA (stCells (.slice A' b'.length c') (.slice PA' vs.length pc') (begS (1 - (lookB (bytesQ b ps)).2.1) (roomS ((b.length / 32 : Nat) : Int))) (roomS ((b.length / 32 : Nat) : Int)) (hs'.length : Nat) (lastL 0 z32 hs') (ep + 1)) ss'
  dok : ∀ W, Fr 0 X w' W → DOk W A' b' c' PA' vs pc'

set_option maxRecDepth 100000 in
set_option maxHeartbeats 8000000 in
theorem compact_w (A : Option Addr) (b : List UInt8) (c : Nat) (PA : Option Addr) (ws : List WriteR) (pc : Nat) (base room : Int) (n : Int) (last : List UInt8) (hl : last.length = 32) (ep : Int) (ss : Array Value) (Ak : Option Addr) (gl : List Hd) (ck : Nat) (w : World)
    (X : Nat → Prop) (hX : ∀ k, X k → k < w.heap.size) (h : ∀ W, Fr 0 X w W → DOk W A b c PA ws pc) (hS : ShaOk w) (hs : saneP b.length (ws.map WriteR.pl) = true) (hss : StA (stCells (.slice A b.length c) (.slice PA ws.length pc) base room n last ep) ss) (hep : 0 ≤ ep)
    (hgl : gl.length ≤ 100000) (hk : Rd w Ak (gl.flatMap Hd.cells)) (hgo : ∀ x ∈ gl, x.ok) :
    Calls Tryd.prog 14 #[.agg ss, .slice Ak gl.length ck] w fun e w' => ∃ ss', e = .returned (.tuple #[.agg ss', .int .i64 (compE b (ws.map WriteR.pl) base room ep gl)]) ∧ Keep w w' ∧
      (compE b (ws.map WriteR.pl) base room ep gl ≠ 0 → ss' = ss) ∧
      (compE b (ws.map WriteR.pl) base room ep gl = 0 → ∃ A' b' c' PA' vs pc' hs', CompR X w' b (ws.map WriteR.pl) gl ep A' b' c' PA' vs pc' hs' ss') := by
  have hw0 := h w (fun _ _ _ _ => rfl)
  have M1 : Hid (∀ y, Keep w y → Calls Tryd.prog 33 #[.agg ss, .slice Ak gl.length ck] y fun e w' => e = .returned (.int .i64 (mayS (b.length / 32) (lookB (bytesQ b (ws.map WriteR.pl))) base room ep gl.length)) ∧ Keep y w') := fun y hy =>
    may_w A b c PA ws pc base room n last hl ep ss Ak gl.length ck y (hw0.keep hy) (hS.keep hy) hss (by omega)
  obtain ⟨zs, hz1, hz2, hz3⟩ := zst_letter
  have hsz := hss.z; have hsn := hss.n; have hsi := hss.i
  have Hss := Lib.hid hss; have Hl := Lib.hid hl; have HS := Lib.hid hS; have Hk := Lib.hid hk; have Hgo := Lib.hid hgo; have Hh := Lib.hid h; have HX := Lib.hid hX; have Hs := Lib.hid hs
  obtain ⟨CE, hCE⟩ : ∃ CE, compE b (ws.map WriteR.pl) base room ep gl = CE := ⟨_, rfl⟩
  have HCE : Hid ((if mayS (b.length / 32) (lookB (bytesQ b (ws.map WriteR.pl))) base room ep gl.length = 0 then (doP (opsS b (ws.map WriteR.pl) gl ep) b (ws.map WriteR.pl)).2.2 else mayS (b.length / 32) (lookB (bytesQ b (ws.map WriteR.pl))) base room ep gl.length) = CE) := hCE
  have HM0 : Hid (mayS (b.length / 32) (lookB (bytesQ b (ws.map WriteR.pl))) base room ep gl.length = 0 → gl.length ≤ roomS (b.length / 32 : Nat) ∧ begS (lookB (bytesQ b (ws.map WriteR.pl))).2.1 (roomS (b.length / 32 : Nat)) = base ∧ room = roomS (b.length / 32 : Nat) ∧ ep ≤ 2147483646) := fun e => by
    obtain ⟨q1, q2, q3, q4, q5, _⟩ := mayS_zero e
    exact ⟨q1, q3, q4, q5⟩
  rw [hCE]
  clear hss hl hS hk hgo h hX hs hCE hw0
  generalize mayS (b.length / 32) (lookB (bytesQ b (ws.map WriteR.pl))) base room ep gl.length = ME at *
  go_enter Tryd.func14, Tryd.ntmps14
  go_upto_region 1 with fail
  obtain ⟨w1, hw1⟩ : ∃ w1, w1 = (w.alloc (.cells ss 38)).alloc (.cells zs 38) := ⟨_, rfl⟩
  have HB1 : Hid (Blk w1 w.heap.size 38 ss.toList) := by rw [hw1]; exact (Blk.new w _ ss.toList).alloc _
  have HR1 : Hid (Blk w1 (w.heap.size + 1) 38 zs.toList) := by
    rw [hw1]
    have h1 := Blk.new (w.alloc (.cells ss 38)) 38 zs.toList
    rw [World.size_alloc] at h1
    exact h1
  have HK1 : Hid (Keep w w1) := by rw [hw1]; exact keep_trans (keep_new _ _) (keep_new _ _)
  have hz11 : w.heap.size + 2 ≤ w1.heap.size := by rw [hw1]; simp
  rw [← hw1]
  clear hw1
  go_wp2_with ((with_reducible refine load_arr w.heap.size ss (Eq.trans ?_ rfl) HB1.out _ Tryd.underlying38 rfl hsi ?_); rfl)
  refine (M1.out w1 HK1.out).mono ?_
  rintro e w2 ⟨rfl, k2⟩
  have HB2 := Lib.hid (HB1.out.keep k2); have HR2 := Lib.hid (HR1.out.keep k2); have HK2 := Lib.hid (keep_trans HK1.out k2)
  have hz12 : w1.heap.size ≤ w2.heap.size := k2.size
  clear k2 HB1 HR1 M1
  by_cases hme : ME = 0
  · have HC2 := Lib.hid ((if_pos hme).symm.trans HCE.out)
    obtain ⟨q1, q2, q3, q4⟩ := HM0.out hme
    subst hme
    have hrm := roomS_le ((b.length / 32 : Nat) : Int)
    obtain ⟨rm, hrme⟩ : ∃ rm, roomS ((b.length / 32 : Nat) : Int) = rm := ⟨_, rfl⟩
    have hw2 := Hh.out w2 (Fr.of_keep HK2.out)
    have O1 : Hid (∀ y, Keep w2 y → Calls Tryd.prog 35 #[.agg ss, .slice Ak gl.length ck] y fun e w' => ∃ (Af : Option Addr) (cf : Nat) (ops : List OpR), e = .returned (.slice Af ops.length cf) ∧
        ops.map OpR.pl = opsS b (ws.map WriteR.pl) gl ep ∧ (∀ W, Fr y.heap.size (fun _ => False) w' W → Rd W Af (ops.map OpR.val) ∧ ∀ x ∈ ops, x.ok W) ∧ Keep y w') := fun y hy =>
      (operations_w A b c PA ws pc base _ n last Hl.out ep ss Ak gl ck y (hw2.keep hy) (HS.out.keep (keep_trans HK2.out hy)) (by rw [← q3]; exact Hss.out) hrm ⟨hep, q4⟩ (by omega) (Hk.out.keep (keep_trans HK2.out hy)) Hgo.out).mono fun e w' ⟨Af, cf, ops, g1, g2, g3, g4⟩ => ⟨Af, cf, ops, g1, g2, g3.2.2, g4⟩
    have hrng : 0 ≤ 1 - (lookB (bytesQ b (ws.map WriteR.pl))).2.1 ∧ 1 - (lookB (bytesQ b (ws.map WriteR.pl))).2.1 ≤ 1 := by
      rcases (look_told (bytesQ b (ws.map WriteR.pl))).r with e | e <;> omega
    have hbg := begS_rng (r := 1 - (lookB (bytesQ b (ws.map WriteR.pl))).2.1) (by omega) hrm
    have U1 : Hid (∀ y, Keep w2 y → Calls Tryd.prog 37 #[.agg ss] y fun e w' => e = .returned (.int .i64 (1 - (lookB (bytesQ b (ws.map WriteR.pl))).2.1)) ∧ Keep y w') := fun y hy => other_w A b c PA ws pc base room n last Hl.out ep ss y (hw2.keep hy) (HS.out.keep (keep_trans HK2.out hy)) Hss.out
    have G1 : Hid (∀ w', Calls Tryd.prog 32 #[.int .i64 (1 - (lookB (bytesQ b (ws.map WriteR.pl))).2.1), .int .i64 room] w' fun e w'' => e = .returned (.int .i64 (begS (1 - (lookB (bytesQ b (ws.map WriteR.pl))).2.1) (roomS (b.length / 32 : Nat)))) ∧ Keep w' w'') := fun w' => by
      rw [q3]
      exact (begin_any _ _ w' hrng (by omega)).mono fun e w'' ⟨h1, h2⟩ => ⟨h1, by rw [h2]; exact Below.refl _ _⟩
    have D1 : Hid (∀ y (Y : Nat → Prop) (Af : Option Addr) (cf : Nat) (ops : List OpR), Keep w y → (∀ k, Y k → k < y.heap.size) → (∀ k, X k → Y k) → (∀ k, k < w.heap.size → Y k → X k) → ops.map OpR.pl = opsS b (ws.map WriteR.pl) gl ep → (∀ W, Fr 0 Y y W → Rd W Af (ops.map OpR.val) ∧ ∀ x ∈ ops, x.ok W) → ops.length ≤ 1000000 →
        Calls Tryd.prog 34 #[DV A b.length c PA ws.length pc, .slice Af ops.length cf] y fun e w' => ∃ A' b' c' PA' vs pc' er, e = .returned (.tuple #[DV A' b'.length c' PA' vs.length pc', .int .i64 er]) ∧
          (b', vs.map WriteR.pl, er) = doP (opsS b (ws.map WriteR.pl) gl ep) b (ws.map WriteR.pl) ∧ (∀ W, Fr 0 Y w' W → DOk W A' b' c' PA' vs pc') ∧ Keep y w') := fun y Y Af cf ops hy hY hXY hYX ho hf hol => by
      have h1 := do_w A b c PA ws pc y Y hY ops Af cf (fun W hW => Hh.out W (fun k g1 g2 g3 => (hW k g1 (Nat.lt_of_lt_of_le g2 hy.size) (fun e => g3 (hYX k g2 e))).trans (hy.block k g2))) Hs.out hf hol
      rw [ho] at h1
      exact h1
    have hol0 : (opsS b (ws.map WriteR.pl) gl ep).length ≤ 1000000 := by
      unfold opsS opsP zerP
      rw [List.length_cons, List.length_append, List.length_append, recsP_len, List.length_map, List.length_range]
      simp only [List.length_cons, List.length_nil]
      omega
    have HOL := Lib.hid hol0
    clear hol0
    have J1 : Hid (∀ y A' b' c' PA' vs pc', Keep w y → DOk y A' b' c' PA' vs pc' → Calls Tryd.prog 36 #[DV A' b'.length c' PA' vs.length pc', .int .i64 (begS (1 - (lookB (bytesQ b (ws.map WriteR.pl))).2.1) (roomS (b.length / 32 : Nat))), .int .i64 room] y fun e w' => ∃ hs cs Ah ch, e = .returned (.tuple #[.agg cs, .slice Ah hs.length ch]) ∧
        Found (begS (1 - (lookB (bytesQ b (ws.map WriteR.pl))).2.1) (roomS (b.length / 32 : Nat))) room (bytesQ b' (vs.map WriteR.pl)) hs ∧ LogA (lgCells (.slice A' b'.length c') (.slice PA' vs.length pc') (begS (1 - (lookB (bytesQ b (ws.map WriteR.pl))).2.1) (roomS (b.length / 32 : Nat))) room (hs.length : Nat) (lastL 0 z32 hs)) cs ∧ Keep y w') := fun y A' b' c' PA' vs pc' hy hd =>
      (open_w A' b' c' PA' vs pc' _ room y hd (HS.out.keep hy) (by omega)).mono fun e w' ⟨hs, cs, Ah, ch, g1, g2, g3, _, _, g4⟩ => ⟨hs, cs, Ah, ch, g1, g2, g3, g4⟩
    have HCR : Hid (∀ w' A' b' c' PA' vs pc' hs' ss', (b', vs.map WriteR.pl, (0 : Int)) = doP (opsS b (ws.map WriteR.pl) gl ep) b (ws.map WriteR.pl) → Found (begS (1 - (lookB (bytesQ b (ws.map WriteR.pl))).2.1) (roomS (b.length / 32 : Nat))) room (bytesQ b' (vs.map WriteR.pl)) hs' →
        StA (stCells (.slice A' b'.length c') (.slice PA' vs.length pc') (begS (1 - (lookB (bytesQ b (ws.map WriteR.pl))).2.1) (roomS (b.length / 32 : Nat))) room (hs'.length : Nat) (lastL 0 z32 hs') (ep + 1)) ss' → (∀ W, Fr 0 X w' W → DOk W A' b' c' PA' vs pc') → CompR X w' b (ws.map WriteR.pl) gl ep A' b' c' PA' vs pc' hs' ss') := fun w' A' b' c' PA' vs pc' hs' ss' g1 g2 g3 g4 =>
      ⟨g1, by rw [← q3]; exact g2, by rw [← q3]; exact g3, g4⟩
    have hro : 0 ≤ room ∧ room ≤ 1024 := by omega
    obtain ⟨DD, hDD⟩ : ∃ DD, doP (opsS b (ws.map WriteR.pl) gl ep) b (ws.map WriteR.pl) = DD := ⟨_, rfl⟩
    rw [hDD] at HC2
    rw [hDD] at D1 HCR
    clear hDD q1 q2 q3 hrng hrm hw2 hrme HCE HM0
    generalize opsS b (ws.map WriteR.pl) gl ep = OPS at *
    have HCR2 : Hid (∀ w' A' b' c' PA' vs pc' hs' ss', (b', vs.map WriteR.pl, (0 : Int)) = DD → Found (begS (1 - (lookB (bytesQ b (ws.map WriteR.pl))).2.1) (roomS (b.length / 32 : Nat))) room (bytesQ b' (vs.map WriteR.pl)) hs' →
        StA (stCells (.slice A' b'.length c') (.slice PA' vs.length pc') (begS (1 - (lookB (bytesQ b (ws.map WriteR.pl))).2.1) (roomS (b.length / 32 : Nat))) room (hs'.length : Nat) (lastL 0 z32 hs') (ep + 1)) ss' → (∀ W, Fr 0 X w' W → DOk W A' b' c' PA' vs pc') → CompR X w' b (ws.map WriteR.pl) gl ep A' b' c' PA' vs pc' hs' ss') := HCR
    clear HCR
    generalize hbge : begS (1 - (lookB (bytesQ b (ws.map WriteR.pl))).2.1) (roomS (b.length / 32 : Nat)) = bg at *
    generalize hore : 1 - (lookB (bytesQ b (ws.map WriteR.pl))).2.1 = orr at *
    clear hbge hore
    have HB2' : Hid (Blk w2 w.heap.size 38 (stCells (.slice A b.length c) (.slice PA ws.length pc) base room n last ep)) := by rw [← Hss.out.l]; exact HB2.out
    obtain ⟨hro1, hro2⟩ := hro
    obtain ⟨hbg1, hbg2⟩ := hbg
    go_upto_region 4 with fail
    go_cut [7, 8] (fun s7 s8 wx => ∃ p A' b' c' PA' vs pc' er, s7 = .pointer (some ⟨p, 0, none⟩) ∧ s8 = .int .i64 er ∧ w2.heap.size ≤ p ∧ Hid (Keep w2 wx) ∧ Hid ((b', vs.map WriteR.pl, er) = DD) ∧ Hid (Blk wx p 32 [.slice A' b'.length c', .slice PA' vs.length pc']) ∧ Hid (∀ W, Fr 0 (fun k => X k ∨ k = w.heap.size + 1) wx W → DOk W A' b' c' PA' vs pc'))
    case first =>
      refine wp_region_tree (.take [0,1,2,3,4] (.fork 5 (.fork 6 (.take [7,8,9] (.force [10] .done)) 10 (.force [6] (.take [7,8,9] .done))) 10 (.force [5,6] (.take [7,8,9] .done)))) [11,12] (by kernel_rfl) (by kernel_rfl) (fun y0 hk => ?_)
      have Q := Lib.hid hk
      clear hk
      refine mt_take y0 (Below.refl _ _) ?_
      simp only [pick_cons, pick_nil, nth_zero, nth_succ]
      have HBy := Lib.hid (HB2.out.keep Q.out); have HBy' := HB2'.out.keep Q.out
      obtain ⟨d0, d1, d2, d3, d4, d5⟩ := st_d Hl.out HBy'
      have a0 := aft_cell d0; have a1 := aft_cell d1
      iterate 3 (go_big_quiet_step (fail))
      (with_reducible refine wpQuiet_load_arr w.heap.size ss (Eq.trans ?_ rfl) HBy.out _ Tryd.underlying38 rfl hsi ?_)
      rfl
      simp only [Act.put, Array.set!_eq_setIfInBounds, List.setIfInBounds_toArray, List.set_cons_succ, List.set_cons_zero]
      go_big_quiet_step (fail)
      clear a0 a1 d0 d1 d2 d3 d4 d5 HBy HBy'
      refine wpQuiet_nil (mt_fork ?_ ?_)
      · simp only [pick_cons, pick_nil, nth_zero, nth_succ]
        refine fc_step rfl (fun K hK => ?_)
        go_simp
        (with_reducible refine (O1.out y0 Q.out).mono ?_)
        rintro e y1 ⟨Af, cf, ops, rfl, hops, hof, hk⟩
        refine hK _ _ hk ?_
        clear hK K
        have HQ5 : w2.heap.size ≤ y0.heap.size := Q.out.size
        have Hprev := Q
        replace Q := Lib.hid (keep_trans Q.out hk)
        have hs_y1 : y0.heap.size ≤ y1.heap.size := hk.size
        have Hops := Lib.hid hops; have Hof := Lib.hid hof
        have HKK5 : Hid (Keep y1 y1) := Below.refl _ _
        have hol : ops.length ≤ 1000000 := by
          have h1 := congrArg List.length Hops.out
          rw [List.length_map] at h1
          have := HOL.out
          omega
        clear hops hof
        clear hk
        refine fc_nil (mt_fork ?_ ?_)
        · simp only [pick_cons, pick_nil, nth_zero, nth_succ]
          refine fc_step rfl (fun K hK => ?_)
          go_simp
          (with_reducible refine (D1.out y1 (fun k => X k ∨ k = w.heap.size + 1) Af cf ops (keep_trans HK2.out Q.out) (fun k e => e.elim (fun e => by have h1 := HX.out k e; have h2 := HK2.out.size; have h3 := Q.out.size; omega) (fun e => by have h3 := Q.out.size; omega)) (fun k e => .inl e) (fun k h e => e.elim id (fun e => by omega)) Hops.out (fun W hW => Hof.out W (hW.sub (Nat.zero_le _) HKK5.out (fun k h1 h2 h3 => fun e => e.elim (fun e => by have h4 := HX.out k e; have h5 := HK2.out.size; omega) (fun e => by omega)))) hol).mono ?_)
          rintro e y2 ⟨A6, b6, c6, PA6, vs, pc6, er, rfl, hrun, hdd, hk⟩
          refine hK _ _ hk ?_
          clear hK K
          have HQ6 : w2.heap.size ≤ y1.heap.size := Q.out.size
          have Hprev := Q
          replace Q := Lib.hid (keep_trans Q.out hk)
          have hs_y2 : y1.heap.size ≤ y2.heap.size := hk.size
          replace HKK5 := Lib.hid (keep_trans HKK5.out hk)
          have Hrun := Lib.hid hrun; have Hdd := Lib.hid hdd
          have HKK6 : Hid (Keep y2 y2) := Below.refl _ _
          clear hrun hdd
          clear hk
          refine fc_nil (mt_take y2 (Below.refl _ _) ?_)
          simp only [pick_cons, pick_nil, nth_zero, nth_succ]
          repeat (go_big_quiet_step (fail))
          refine wpQuiet_nil (mt_force ?_)
          simp only [pick_cons, pick_nil, nth_zero, nth_succ]
          refine fc_step rfl (fun K hK => ?_)
          go_simp
          refine hK _ _ (keep_new _ _) ?_
          clear hK K
          obtain ⟨y3, hy⟩ : ∃ y3, y3 = y2.alloc (.cells #[.slice none 0 0, .slice none 0 0] 32) := ⟨_, rfl⟩
          have HP9 : Hid (Blk y3 y2.heap.size 32 #[.slice none 0 0, .slice none 0 0].toList) := by rw [hy]; exact Blk.new y2 _ #[.slice none 0 0, .slice none 0 0].toList
          have hk : Keep y2 y3 := by rw [hy]; exact keep_new _ _
          rw [← hy]
          clear hy
          have HP9s : y2.heap.size < y3.heap.size := HP9.out.lt
          have HP9n := Q.out.size
          replace Q := Lib.hid (keep_trans Q.out hk)
          have hs_y3 : y2.heap.size ≤ y3.heap.size := hk.size
          replace HKK5 := Lib.hid (keep_trans HKK5.out hk)
          replace HKK6 := Lib.hid (keep_trans HKK6.out hk)
          clear hk
          generalize hp : y2.heap.size = p9 at *
          have HP9a : y2.heap.size ≤ p9 := Nat.le_of_eq hp
          have HP9b : p9 ≤ y2.heap.size := Nat.le_of_eq hp.symm
          clear hp
          refine fc_nil (mt_end ?_)
          have c0 := HP9.out.cell 0; have c1 := HP9.out.cell 1; have f0 := HP9.out.frozen 0; have f1 := HP9.out.frozen 1
          simp only [List.getElem?_cons_zero, List.getElem?_cons_succ] at c0 c1
          have hPl := HP9.out.lt; have hKs := HKK6.out.size; have hQs := Q.out.size
          go_wp2
          go_meet
          refine ⟨p9, A6, b6, c6, PA6, vs, pc6, er, rfl, rfl, by omega, Lib.hid ((Q.out.setCell (by simp; omega) _).setCell (by simp; omega) _), Hrun, Lib.hid ((HP9.out.set_ 0 _).set_ 1 _), Lib.hid (fun W hW => Hdd.out W (fun k h1 h2 h3 => ?_))⟩
          have hn : k ≠ p9 := by first | omega | exact fun e => h3 (.inr e)
          have h4 := hW k h1 (by simp; omega) (by first | exact h3 | exact fun e => h3 (.inl e))
          exact h4.trans ((set_ne _ _ _ _ _ hn).trans ((set_ne _ _ _ _ _ hn).trans (HKK6.out.block k h2)))
        · simp only [pick_cons, pick_nil, nth_zero, nth_succ]
          refine fc_step rfl (fun K hK => ?_)
          go_simp
          refine hK _ _ (keep_new _ _) ?_
          clear hK K
          obtain ⟨y4, hy⟩ : ∃ y4, y4 = y1.alloc (.cells #[.slice none 0 0, .slice none 0 0] 32) := ⟨_, rfl⟩
          have HP9 : Hid (Blk y4 y1.heap.size 32 #[.slice none 0 0, .slice none 0 0].toList) := by rw [hy]; exact Blk.new y1 _ #[.slice none 0 0, .slice none 0 0].toList
          have hk : Keep y1 y4 := by rw [hy]; exact keep_new _ _
          rw [← hy]
          clear hy
          have HP9s : y1.heap.size < y4.heap.size := HP9.out.lt
          have HP9n := Q.out.size
          replace Q := Lib.hid (keep_trans Q.out hk)
          have hs_y4 : y1.heap.size ≤ y4.heap.size := hk.size
          replace HKK5 := Lib.hid (keep_trans HKK5.out hk)
          clear hk
          generalize hp : y1.heap.size = p9 at *
          have HP9a : y1.heap.size ≤ p9 := Nat.le_of_eq hp
          have HP9b : p9 ≤ y1.heap.size := Nat.le_of_eq hp.symm
          clear hp
          refine fc_nil (mt_force ?_)
          simp only [pick_cons, pick_nil, nth_zero, nth_succ]
          refine fc_step rfl (fun K hK => ?_)
          go_simp
          (with_reducible refine (D1.out y4 (fun k => (X k ∨ k = w.heap.size + 1) ∨ k = p9) Af cf ops (keep_trans HK2.out Q.out) (fun k e => e.elim (fun e => e.elim (fun e => by have h1 := HX.out k e; have h2 := HK2.out.size; have h3 := Q.out.size; omega) (fun e => by have h3 := Q.out.size; omega)) (fun e => by have h1 := HP9.out.lt; omega)) (fun k e => .inl (.inl e)) (fun k h e => e.elim (fun e => e.elim id (fun e => by omega)) (fun e => by have h2 := HK2.out.size; omega)) Hops.out (fun W hW => Hof.out W (hW.sub (Nat.zero_le _) HKK5.out (fun k h1 h2 h3 => fun e => e.elim (fun e => e.elim (fun e => by have h4 := HX.out k e; have h5 := HK2.out.size; omega) (fun e => by omega)) (fun e => by omega)))) hol).mono ?_)
          rintro e y5 ⟨A6, b6, c6, PA6, vs, pc6, er, rfl, hrun, hdd, hk⟩
          refine hK _ _ hk ?_
          clear hK K
          have HQ6 : w2.heap.size ≤ y4.heap.size := Q.out.size
          have Hprev := Q
          replace Q := Lib.hid (keep_trans Q.out hk)
          have hs_y5 : y4.heap.size ≤ y5.heap.size := hk.size
          replace HKK5 := Lib.hid (keep_trans HKK5.out hk)
          replace HP9 := Lib.hid (HP9.out.keep hk)
          have Hrun := Lib.hid hrun; have Hdd := Lib.hid hdd
          have HKK6 : Hid (Keep y5 y5) := Below.refl _ _
          clear hrun hdd
          clear hk
          refine fc_nil (mt_take y5 (Below.refl _ _) ?_)
          simp only [pick_cons, pick_nil, nth_zero, nth_succ]
          repeat (go_big_quiet_step (fail))
          refine wpQuiet_nil (mt_end ?_)
          have c0 := HP9.out.cell 0; have c1 := HP9.out.cell 1; have f0 := HP9.out.frozen 0; have f1 := HP9.out.frozen 1
          simp only [List.getElem?_cons_zero, List.getElem?_cons_succ] at c0 c1
          have hPl := HP9.out.lt; have hKs := HKK6.out.size; have hQs := Q.out.size
          go_wp2
          go_meet
          refine ⟨p9, A6, b6, c6, PA6, vs, pc6, er, rfl, rfl, by omega, Lib.hid ((Q.out.setCell (by simp; omega) _).setCell (by simp; omega) _), Hrun, Lib.hid ((HP9.out.set_ 0 _).set_ 1 _), Lib.hid (fun W hW => Hdd.out W (fun k h1 h2 h3 => ?_))⟩
          have hn : k ≠ p9 := by first | omega | exact fun e => h3 (.inr e)
          have h4 := hW k h1 (by simp; omega) (by first | exact h3 | exact fun e => h3 (.inl e))
          exact h4.trans ((set_ne _ _ _ _ _ hn).trans ((set_ne _ _ _ _ _ hn).trans (HKK6.out.block k h2)))
      · simp only [pick_cons, pick_nil, nth_zero, nth_succ]
        refine fc_step rfl (fun K hK => ?_)
        go_simp
        refine hK _ _ (keep_new _ _) ?_
        clear hK K
        obtain ⟨y6, hy⟩ : ∃ y6, y6 = y0.alloc (.cells #[.slice none 0 0, .slice none 0 0] 32) := ⟨_, rfl⟩
        have HP9 : Hid (Blk y6 y0.heap.size 32 #[.slice none 0 0, .slice none 0 0].toList) := by rw [hy]; exact Blk.new y0 _ #[.slice none 0 0, .slice none 0 0].toList
        have hk : Keep y0 y6 := by rw [hy]; exact keep_new _ _
        rw [← hy]
        clear hy
        have HP9s : y0.heap.size < y6.heap.size := HP9.out.lt
        have HP9n := Q.out.size
        replace Q := Lib.hid (keep_trans Q.out hk)
        have hs_y6 : y0.heap.size ≤ y6.heap.size := hk.size
        clear hk
        generalize hp : y0.heap.size = p9 at *
        have HP9a : y0.heap.size ≤ p9 := Nat.le_of_eq hp
        have HP9b : p9 ≤ y0.heap.size := Nat.le_of_eq hp.symm
        clear hp
        refine fc_nil (mt_force ?_)
        simp only [pick_cons, pick_nil, nth_zero, nth_succ]
        refine fc_step rfl (fun K hK => ?_)
        go_simp
        (with_reducible refine (O1.out y6 Q.out).mono ?_)
        rintro e y7 ⟨Af, cf, ops, rfl, hops, hof, hk⟩
        refine hK _ _ hk ?_
        clear hK K
        have HQ5 : w2.heap.size ≤ y6.heap.size := Q.out.size
        have Hprev := Q
        replace Q := Lib.hid (keep_trans Q.out hk)
        have hs_y7 : y6.heap.size ≤ y7.heap.size := hk.size
        replace HP9 := Lib.hid (HP9.out.keep hk)
        have Hops := Lib.hid hops; have Hof := Lib.hid hof
        have HKK5 : Hid (Keep y7 y7) := Below.refl _ _
        have hol : ops.length ≤ 1000000 := by
          have h1 := congrArg List.length Hops.out
          rw [List.length_map] at h1
          have := HOL.out
          omega
        clear hops hof
        clear hk
        refine fc_step rfl (fun K hK => ?_)
        go_simp
        (with_reducible refine (D1.out y7 (fun k => (X k ∨ k = w.heap.size + 1) ∨ k = p9) Af cf ops (keep_trans HK2.out Q.out) (fun k e => e.elim (fun e => e.elim (fun e => by have h1 := HX.out k e; have h2 := HK2.out.size; have h3 := Q.out.size; omega) (fun e => by have h3 := Q.out.size; omega)) (fun e => by have h1 := HP9.out.lt; omega)) (fun k e => .inl (.inl e)) (fun k h e => e.elim (fun e => e.elim id (fun e => by omega)) (fun e => by have h2 := HK2.out.size; omega)) Hops.out (fun W hW => Hof.out W (hW.sub (Nat.zero_le _) HKK5.out (fun k h1 h2 h3 => fun e => e.elim (fun e => e.elim (fun e => by have h4 := HX.out k e; have h5 := HK2.out.size; omega) (fun e => by omega)) (fun e => by omega)))) hol).mono ?_)
        rintro e y8 ⟨A6, b6, c6, PA6, vs, pc6, er, rfl, hrun, hdd, hk⟩
        refine hK _ _ hk ?_
        clear hK K
        have HQ6 : w2.heap.size ≤ y7.heap.size := Q.out.size
        have Hprev := Q
        replace Q := Lib.hid (keep_trans Q.out hk)
        have hs_y8 : y7.heap.size ≤ y8.heap.size := hk.size
        replace HP9 := Lib.hid (HP9.out.keep hk)
        replace HKK5 := Lib.hid (keep_trans HKK5.out hk)
        have Hrun := Lib.hid hrun; have Hdd := Lib.hid hdd
        have HKK6 : Hid (Keep y8 y8) := Below.refl _ _
        clear hrun hdd
        clear hk
        refine fc_nil (mt_take y8 (Below.refl _ _) ?_)
        simp only [pick_cons, pick_nil, nth_zero, nth_succ]
        repeat (go_big_quiet_step (fail))
        refine wpQuiet_nil (mt_end ?_)
        have c0 := HP9.out.cell 0; have c1 := HP9.out.cell 1; have f0 := HP9.out.frozen 0; have f1 := HP9.out.frozen 1
        simp only [List.getElem?_cons_zero, List.getElem?_cons_succ] at c0 c1
        have hPl := HP9.out.lt; have hKs := HKK6.out.size; have hQs := Q.out.size
        go_wp2
        go_meet
        refine ⟨p9, A6, b6, c6, PA6, vs, pc6, er, rfl, rfl, by omega, Lib.hid ((Q.out.setCell (by simp; omega) _).setCell (by simp; omega) _), Hrun, Lib.hid ((HP9.out.set_ 0 _).set_ 1 _), Lib.hid (fun W hW => Hdd.out W (fun k h1 h2 h3 => ?_))⟩
        have hn : k ≠ p9 := by first | omega | exact fun e => h3 (.inr e)
        have h4 := hW k h1 (by simp; omega) (by first | exact h3 | exact fun e => h3 (.inl e))
        exact h4.trans ((set_ne _ _ _ _ _ hn).trans ((set_ne _ _ _ _ _ hn).trans (HKK6.out.block k h2)))
    case rest =>
      obtain ⟨p, A6, b6, c6, PA6, vs, pc6, er, rfl, rfl, hp, Kc, Hrun, HBp, Hdk⟩ := hcut
      have hKc := Kc.out.size
      have HBc := Lib.hid (HB2.out.keep Kc.out); have HRc := Lib.hid (HR2.out.keep Kc.out); have HBc' := Lib.hid (HB2'.out.keep Kc.out)
      have HKc := Lib.hid (keep_trans HK2.out Kc.out)
      have hCe : Hid (er = CE) := by
        have h1 := HC2.out
        rw [← Hrun.out] at h1; exact h1
      clear HB2 HR2 HB2' HK2 HC2 D1 O1
      by_cases he : er = 0
      · subst he
        have hcr := fun hs' ss' q1 q2 w' q3 => HCR2.out w' A6 b6 c6 PA6 vs pc6 hs' ss' Hrun.out q1 q2 q3
        have Hcr := Lib.hid hcr
        clear hcr HCR2
        have d0 := HBp.out.cell 0; have d1 := HBp.out.cell 1
        simp only [List.getElem?_cons_zero, List.getElem?_cons_succ] at d0 d1
        have D0 := Lib.hid d0; have D1 := Lib.hid d1
        clear d0 d1
        obtain ⟨zl, hl1, hl2, hl3⟩ := zlog_letter
        have J2 : Hid (∀ y, Keep wc y → Calls Tryd.prog 36 #[DV A6 b6.length c6 PA6 vs.length pc6, .int .i64 bg, .int .i64 room] y fun e w' => ∃ hs cs Ah ch, e = .returned (.tuple #[.agg cs, .slice Ah hs.length ch]) ∧
          Found bg room (bytesQ b6 (vs.map WriteR.pl)) hs ∧ LogA (lgCells (.slice A6 b6.length c6) (.slice PA6 vs.length pc6) bg room (hs.length : Nat) (lastL 0 z32 hs)) cs ∧ Keep y w') := fun y hy => J1.out y A6 b6 c6 PA6 vs pc6 (keep_trans HKc.out hy) (Hdk.out y (Fr.of_keep hy))
        have U2 : Hid (∀ y, Keep wc y → Calls Tryd.prog 37 #[.agg ss] y fun e w' => e = .returned (.int .i64 orr) ∧ Keep y w') := fun y hy => U1.out y (keep_trans Kc.out hy)
        clear J1 U1
        generalize hbl6 : b6.length = bl6 at *
        generalize hvl6 : vs.length = vl6 at *
        clear hbl6 hvl6
        go_upto_region 7 with fail
        go_cut [9] (fun s9 wx => ∃ p9 hs' cs, s9 = .pointer (some ⟨p9, 0, none⟩) ∧ Hid (Keep wc wx) ∧ Hid (Found bg room (bytesQ b6 (vs.map WriteR.pl)) hs') ∧ Hid (LogA (lgCells (.slice A6 bl6 c6) (.slice PA6 vl6 pc6) bg room (hs'.length : Nat) (lastL 0 z32 hs')) cs) ∧ Hid (Blk wx p9 36 cs.toList))
        case first =>
          refine wp_region_tree (.take [0,1,3,4,5,7,8,9] (.fork 2 (.fork 6 (.fork 10 (.take [11,12,13] (.force [14] .done)) 14 (.force [10] (.take [11,12,13] .done))) 14 (.force [6,10] (.take [11,12,13] .done))) 14 (.force [2,6,10] (.take [11,12,13] .done)))) [15,16] (by kernel_rfl) (by kernel_rfl) (fun y0 hk => ?_)
          have Q := Lib.hid hk
          clear hk
          refine mt_take y0 (Below.refl _ _) ?_
          simp only [pick_cons, pick_nil, nth_zero, nth_succ]
          have HBy := Lib.hid (HBc.out.keep Q.out); have HBz := HBc'.out.keep Q.out
          obtain ⟨e0, e1, e2, e3, e4, e5⟩ := st_d Hl.out HBz
          have a0 := aft_cell (keep_cell Q.out D0.out); have a1 := aft_cell (keep_cell Q.out D1.out); have a3 := aft_cell e3
          go_big_quiet_step (fail)
          (with_reducible refine wpQuiet_load_arr w.heap.size ss (Eq.trans ?_ rfl) HBy.out _ Tryd.underlying38 rfl hsi ?_)
          rfl
          simp only [Act.put, Array.set!_eq_setIfInBounds, List.setIfInBounds_toArray, List.set_cons_succ, List.set_cons_zero]
          repeat (go_big_quiet_step (fail))
          clear a0 a1 a3 e0 e1 e2 e3 e4 e5 HBy HBz
          refine wpQuiet_nil (mt_fork ?_ ?_)
          · simp only [pick_cons, pick_nil, nth_zero, nth_succ]
            refine fc_step rfl (fun K hK => ?_)
            go_simp
            (with_reducible refine (U2.out y0 Q.out).mono ?_)
            rintro e y1 ⟨rfl, hk⟩
            refine hK _ _ hk ?_
            clear hK K
            have HQ2 : wc.heap.size ≤ y0.heap.size := Q.out.size
            have Hprev := Q
            replace Q := Lib.hid (keep_trans Q.out hk)
            have hs_y1 : y0.heap.size ≤ y1.heap.size := hk.size
            clear hk
            refine fc_nil (mt_fork ?_ ?_)
            · simp only [pick_cons, pick_nil, nth_zero, nth_succ]
              refine fc_step rfl (fun K hK => ?_)
              go_simp
              (with_reducible refine (G1.out y1).mono ?_)
              rintro e y2 ⟨rfl, hk⟩
              refine hK _ _ hk ?_
              clear hK K
              have HQ6 : wc.heap.size ≤ y1.heap.size := Q.out.size
              have Hprev := Q
              replace Q := Lib.hid (keep_trans Q.out hk)
              have hs_y2 : y1.heap.size ≤ y2.heap.size := hk.size
              clear hk
              refine fc_nil (mt_fork ?_ ?_)
              · simp only [pick_cons, pick_nil, nth_zero, nth_succ]
                refine fc_step rfl (fun K hK => ?_)
                go_simp
                (with_reducible refine (J2.out y2 Q.out).mono ?_)
                rintro e y3 ⟨hs', cs, Ah, ch, rfl, hfo, hcs, hk⟩
                refine hK _ _ hk ?_
                clear hK K
                have HQ10 : wc.heap.size ≤ y2.heap.size := Q.out.size
                have Hprev := Q
                replace Q := Lib.hid (keep_trans Q.out hk)
                have hs_y3 : y2.heap.size ≤ y3.heap.size := hk.size
                have hcz := hcs.z; have hcn := hcs.n; have hci := hcs.i
                have Hfo := Lib.hid hfo; have Hcs := Lib.hid hcs
                clear hfo hcs
                clear hk
                refine fc_nil (mt_take y3 (Below.refl _ _) ?_)
                simp only [pick_cons, pick_nil, nth_zero, nth_succ]
                repeat (go_big_quiet_step (fail))
                refine wpQuiet_nil (mt_force ?_)
                simp only [pick_cons, pick_nil, nth_zero, nth_succ]
                refine fc_step rfl (fun K hK => ?_)
                go_simp
                refine hK _ _ (keep_new _ _) ?_
                clear hK K
                obtain ⟨y4, hy⟩ : ∃ y4, y4 = y3.alloc (.cells zl 36) := ⟨_, rfl⟩
                have HP9 : Hid (Blk y4 y3.heap.size 36 zl.toList) := by rw [hy]; exact Blk.new y3 _ zl.toList
                have hk : Keep y3 y4 := by rw [hy]; exact keep_new _ _
                rw [← hy]
                clear hy
                have HP9s : y3.heap.size < y4.heap.size := HP9.out.lt
                have HP9n := Q.out.size
                replace Q := Lib.hid (keep_trans Q.out hk)
                have hs_y4 : y3.heap.size ≤ y4.heap.size := hk.size
                clear hk
                generalize hp : y3.heap.size = p9 at *
                have HP9a : y3.heap.size ≤ p9 := Nat.le_of_eq hp
                have HP9b : p9 ≤ y3.heap.size := Nat.le_of_eq hp.symm
                clear hp
                refine fc_nil (mt_end ?_)
                obtain ⟨wa, hsta, hba, hga⟩ := run_store_blk (P := Tryd.prog) cs.toList HP9.out (by simp [hl1, hcz]) Hcs.out.o
                have Hba := Lib.hid hba; have Hga := Lib.hid hga
                have hPl := HP9.out.lt; have hga1 := hga.size; have hQs := Q.out.size
                clear hba hga
                go_wp2
                go_meet
                exact ⟨p9, hs', cs, rfl, Lib.hid (Q.out.grown Hga.out (by omega) (fun q hq => by injection hq with hq; omega)), Hfo, Hcs, Hba⟩
              · simp only [pick_cons, pick_nil, nth_zero, nth_succ]
                refine fc_step rfl (fun K hK => ?_)
                go_simp
                refine hK _ _ (keep_new _ _) ?_
                clear hK K
                obtain ⟨y5, hy⟩ : ∃ y5, y5 = y2.alloc (.cells zl 36) := ⟨_, rfl⟩
                have HP9 : Hid (Blk y5 y2.heap.size 36 zl.toList) := by rw [hy]; exact Blk.new y2 _ zl.toList
                have hk : Keep y2 y5 := by rw [hy]; exact keep_new _ _
                rw [← hy]
                clear hy
                have HP9s : y2.heap.size < y5.heap.size := HP9.out.lt
                have HP9n := Q.out.size
                replace Q := Lib.hid (keep_trans Q.out hk)
                have hs_y5 : y2.heap.size ≤ y5.heap.size := hk.size
                clear hk
                generalize hp : y2.heap.size = p9 at *
                have HP9a : y2.heap.size ≤ p9 := Nat.le_of_eq hp
                have HP9b : p9 ≤ y2.heap.size := Nat.le_of_eq hp.symm
                clear hp
                refine fc_nil (mt_force ?_)
                simp only [pick_cons, pick_nil, nth_zero, nth_succ]
                refine fc_step rfl (fun K hK => ?_)
                go_simp
                (with_reducible refine (J2.out y5 Q.out).mono ?_)
                rintro e y6 ⟨hs', cs, Ah, ch, rfl, hfo, hcs, hk⟩
                refine hK _ _ hk ?_
                clear hK K
                have HQ10 : wc.heap.size ≤ y5.heap.size := Q.out.size
                have Hprev := Q
                replace Q := Lib.hid (keep_trans Q.out hk)
                have hs_y6 : y5.heap.size ≤ y6.heap.size := hk.size
                replace HP9 := Lib.hid (HP9.out.keep hk)
                have hcz := hcs.z; have hcn := hcs.n; have hci := hcs.i
                have Hfo := Lib.hid hfo; have Hcs := Lib.hid hcs
                clear hfo hcs
                clear hk
                refine fc_nil (mt_take y6 (Below.refl _ _) ?_)
                simp only [pick_cons, pick_nil, nth_zero, nth_succ]
                repeat (go_big_quiet_step (fail))
                refine wpQuiet_nil (mt_end ?_)
                obtain ⟨wa, hsta, hba, hga⟩ := run_store_blk (P := Tryd.prog) cs.toList HP9.out (by simp [hl1, hcz]) Hcs.out.o
                have Hba := Lib.hid hba; have Hga := Lib.hid hga
                have hPl := HP9.out.lt; have hga1 := hga.size; have hQs := Q.out.size
                clear hba hga
                go_wp2
                go_meet
                exact ⟨p9, hs', cs, rfl, Lib.hid (Q.out.grown Hga.out (by omega) (fun q hq => by injection hq with hq; omega)), Hfo, Hcs, Hba⟩
            · simp only [pick_cons, pick_nil, nth_zero, nth_succ]
              refine fc_step rfl (fun K hK => ?_)
              go_simp
              refine hK _ _ (keep_new _ _) ?_
              clear hK K
              obtain ⟨y7, hy⟩ : ∃ y7, y7 = y1.alloc (.cells zl 36) := ⟨_, rfl⟩
              have HP9 : Hid (Blk y7 y1.heap.size 36 zl.toList) := by rw [hy]; exact Blk.new y1 _ zl.toList
              have hk : Keep y1 y7 := by rw [hy]; exact keep_new _ _
              rw [← hy]
              clear hy
              have HP9s : y1.heap.size < y7.heap.size := HP9.out.lt
              have HP9n := Q.out.size
              replace Q := Lib.hid (keep_trans Q.out hk)
              have hs_y7 : y1.heap.size ≤ y7.heap.size := hk.size
              clear hk
              generalize hp : y1.heap.size = p9 at *
              have HP9a : y1.heap.size ≤ p9 := Nat.le_of_eq hp
              have HP9b : p9 ≤ y1.heap.size := Nat.le_of_eq hp.symm
              clear hp
              refine fc_nil (mt_force ?_)
              simp only [pick_cons, pick_nil, nth_zero, nth_succ]
              refine fc_step rfl (fun K hK => ?_)
              go_simp
              (with_reducible refine (G1.out y7).mono ?_)
              rintro e y8 ⟨rfl, hk⟩
              refine hK _ _ hk ?_
              clear hK K
              have HQ6 : wc.heap.size ≤ y7.heap.size := Q.out.size
              have Hprev := Q
              replace Q := Lib.hid (keep_trans Q.out hk)
              have hs_y8 : y7.heap.size ≤ y8.heap.size := hk.size
              replace HP9 := Lib.hid (HP9.out.keep hk)
              clear hk
              refine fc_step rfl (fun K hK => ?_)
              go_simp
              (with_reducible refine (J2.out y8 Q.out).mono ?_)
              rintro e y9 ⟨hs', cs, Ah, ch, rfl, hfo, hcs, hk⟩
              refine hK _ _ hk ?_
              clear hK K
              have HQ10 : wc.heap.size ≤ y8.heap.size := Q.out.size
              have Hprev := Q
              replace Q := Lib.hid (keep_trans Q.out hk)
              have hs_y9 : y8.heap.size ≤ y9.heap.size := hk.size
              replace HP9 := Lib.hid (HP9.out.keep hk)
              have hcz := hcs.z; have hcn := hcs.n; have hci := hcs.i
              have Hfo := Lib.hid hfo; have Hcs := Lib.hid hcs
              clear hfo hcs
              clear hk
              refine fc_nil (mt_take y9 (Below.refl _ _) ?_)
              simp only [pick_cons, pick_nil, nth_zero, nth_succ]
              repeat (go_big_quiet_step (fail))
              refine wpQuiet_nil (mt_end ?_)
              obtain ⟨wa, hsta, hba, hga⟩ := run_store_blk (P := Tryd.prog) cs.toList HP9.out (by simp [hl1, hcz]) Hcs.out.o
              have Hba := Lib.hid hba; have Hga := Lib.hid hga
              have hPl := HP9.out.lt; have hga1 := hga.size; have hQs := Q.out.size
              clear hba hga
              go_wp2
              go_meet
              exact ⟨p9, hs', cs, rfl, Lib.hid (Q.out.grown Hga.out (by omega) (fun q hq => by injection hq with hq; omega)), Hfo, Hcs, Hba⟩
          · simp only [pick_cons, pick_nil, nth_zero, nth_succ]
            refine fc_step rfl (fun K hK => ?_)
            go_simp
            refine hK _ _ (keep_new _ _) ?_
            clear hK K
            obtain ⟨y10, hy⟩ : ∃ y10, y10 = y0.alloc (.cells zl 36) := ⟨_, rfl⟩
            have HP9 : Hid (Blk y10 y0.heap.size 36 zl.toList) := by rw [hy]; exact Blk.new y0 _ zl.toList
            have hk : Keep y0 y10 := by rw [hy]; exact keep_new _ _
            rw [← hy]
            clear hy
            have HP9s : y0.heap.size < y10.heap.size := HP9.out.lt
            have HP9n := Q.out.size
            replace Q := Lib.hid (keep_trans Q.out hk)
            have hs_y10 : y0.heap.size ≤ y10.heap.size := hk.size
            clear hk
            generalize hp : y0.heap.size = p9 at *
            have HP9a : y0.heap.size ≤ p9 := Nat.le_of_eq hp
            have HP9b : p9 ≤ y0.heap.size := Nat.le_of_eq hp.symm
            clear hp
            refine fc_nil (mt_force ?_)
            simp only [pick_cons, pick_nil, nth_zero, nth_succ]
            refine fc_step rfl (fun K hK => ?_)
            go_simp
            (with_reducible refine (U2.out y10 Q.out).mono ?_)
            rintro e y11 ⟨rfl, hk⟩
            refine hK _ _ hk ?_
            clear hK K
            have HQ2 : wc.heap.size ≤ y10.heap.size := Q.out.size
            have Hprev := Q
            replace Q := Lib.hid (keep_trans Q.out hk)
            have hs_y11 : y10.heap.size ≤ y11.heap.size := hk.size
            replace HP9 := Lib.hid (HP9.out.keep hk)
            clear hk
            refine fc_step rfl (fun K hK => ?_)
            go_simp
            (with_reducible refine (G1.out y11).mono ?_)
            rintro e y12 ⟨rfl, hk⟩
            refine hK _ _ hk ?_
            clear hK K
            have HQ6 : wc.heap.size ≤ y11.heap.size := Q.out.size
            have Hprev := Q
            replace Q := Lib.hid (keep_trans Q.out hk)
            have hs_y12 : y11.heap.size ≤ y12.heap.size := hk.size
            replace HP9 := Lib.hid (HP9.out.keep hk)
            clear hk
            refine fc_step rfl (fun K hK => ?_)
            go_simp
            (with_reducible refine (J2.out y12 Q.out).mono ?_)
            rintro e y13 ⟨hs', cs, Ah, ch, rfl, hfo, hcs, hk⟩
            refine hK _ _ hk ?_
            clear hK K
            have HQ10 : wc.heap.size ≤ y12.heap.size := Q.out.size
            have Hprev := Q
            replace Q := Lib.hid (keep_trans Q.out hk)
            have hs_y13 : y12.heap.size ≤ y13.heap.size := hk.size
            replace HP9 := Lib.hid (HP9.out.keep hk)
            have hcz := hcs.z; have hcn := hcs.n; have hci := hcs.i
            have Hfo := Lib.hid hfo; have Hcs := Lib.hid hcs
            clear hfo hcs
            clear hk
            refine fc_nil (mt_take y13 (Below.refl _ _) ?_)
            simp only [pick_cons, pick_nil, nth_zero, nth_succ]
            repeat (go_big_quiet_step (fail))
            refine wpQuiet_nil (mt_end ?_)
            obtain ⟨wa, hsta, hba, hga⟩ := run_store_blk (P := Tryd.prog) cs.toList HP9.out (by simp [hl1, hcz]) Hcs.out.o
            have Hba := Lib.hid hba; have Hga := Lib.hid hga
            have hPl := HP9.out.lt; have hga1 := hga.size; have hQs := Q.out.size
            clear hba hga
            go_wp2
            go_meet
            exact ⟨p9, hs', cs, rfl, Lib.hid (Q.out.grown Hga.out (by omega) (fun q hq => by injection hq with hq; omega)), Hfo, Hcs, Hba⟩
        case rest =>
          obtain ⟨p9, hs', cs, rfl, Kd, Hfo, Hcs, HBq⟩ := hcut
          have hci := Hcs.out.i; have hcz := Hcs.out.z; have hcn := Hcs.out.n
          obtain ⟨s2, hs2, hbu⟩ := st_letter (lastL_len hs' 0 z32 rfl) Hcs.out.l (ep + 1)
          have h2z := hs2.z; have h2n := hs2.n; have h2i := hs2.i
          have Hs2 := Lib.hid hs2; have Hbu := Lib.hid hbu
          have hKd := Kd.out.size
          obtain ⟨wa, hsta, hba, hga⟩ := run_store_blk (P := Tryd.prog) s2.toList (HRc.out.keep Kd.out) (by simp [hz1, h2z]) Hs2.out.o
          have Hba := Lib.hid hba; have Hga := Lib.hid hga
          obtain ⟨e0, e1, e2, e3, e4, e5⟩ := st_d Hl.out (HBc'.out.keep Kd.out)
          clear hs2 hbu hba hga e0 e1 e2 e3 e4
          have hep3 : ep ≤ 2147483646 := q4
          go_wp2_with (first
            | ((with_reducible refine load_arr p9 cs (Eq.trans ?_ rfl) HBq.out _ Tryd.underlying36 rfl hci ?_); rfl)
            | ((with_reducible refine list_build [(0, .agg cs), (1, .int .i64 (ep + 1))] s2 (Eq.trans ?_ rfl) Hbu.out ?_); rfl))
          have hb8 := Hba.out
          have hgs := Hga.out.size
          refine bodyPost_ret (v := .tuple #[.agg s2, .int .i64 0]) (results_cell_tmp_row Tryd.results14 _ _ (w.heap.size + 1) _ _ _ _ rfl hb8 Tryd.underlying38 rfl (by rw [List.size_toArray, Array.length_toList]; exact h2i)) rfl ⟨s2, by rw [← hCe.out], (keep_trans HKc.out Kd.out).grown Hga.out (by omega) (fun q hq => by injection hq with hq; omega), fun e => absurd hCe.out.symm e, fun _ => ⟨A6, b6, c6, PA6, vs, pc6, hs', Hcr.out hs' s2 Hfo.out Hs2.out wa (fun W hW => Hdk.out W (fun k h1 h2 h3 => ?_))⟩⟩
          have hn : k ≠ w.heap.size + 1 := fun e => h3 (.inr e)
          exact (hW k h1 (by omega) (fun e => h3 (.inl e))).trans ((Hga.out.block k (by omega) (fun e => hn (Option.some.inj e))).trans (Kd.out.block k h2))
      · have hd : (er != 0) = true := by simp [he]
        clear HCR2 J1 U1 G1
        obtain ⟨wa, hsta, hba, hga⟩ := run_store_blk (P := Tryd.prog) ss.toList (HRc.out) (by simp [hz1, hsz]) Hss.out.o
        have Hba := Lib.hid hba; have Hga := Lib.hid hga
        clear hba hga
        go_wp2_with ((with_reducible refine load_arr w.heap.size ss (Eq.trans ?_ rfl) HBc.out _ Tryd.underlying38 rfl hsi ?_); rfl)
        have hb8 := Hba.out
        exact bodyPost_ret (v := .tuple #[.agg ss, .int .i64 er]) (results_cell_tmp_row Tryd.results14 _ _ (w.heap.size + 1) _ _ _ _ rfl hb8 Tryd.underlying38 rfl (by rw [List.size_toArray, Array.length_toList]; exact hsi)) rfl ⟨ss, by rw [← hCe.out], HKc.out.grown Hga.out (by have := HKc.out.size; omega) (fun q hq => by injection hq with hq; omega), fun _ => rfl, fun e => absurd (hCe.out.trans e) he⟩
  · have HD := Lib.hid ((if_neg hme).symm.trans HCE.out)
    have hd : (ME != 0) = true := by simp [hme]
    obtain ⟨wa, hsta, hba, hga⟩ := run_store_blk (P := Tryd.prog) ss.toList (HR2.out) (by simp [hz1, hsz]) Hss.out.o
    have Hba := Lib.hid hba; have Hga := Lib.hid hga; have Hme := Lib.hid hme
    clear hba hga HCE HM0 hme
    go_wp2_with ((with_reducible refine load_arr w.heap.size ss (Eq.trans ?_ rfl) HB2.out _ Tryd.underlying38 rfl hsi ?_); rfl)
    have hb8 := Hba.out
    exact bodyPost_ret (v := .tuple #[.agg ss, .int .i64 ME]) (results_cell_tmp_row Tryd.results14 _ _ (w.heap.size + 1) _ _ _ _ rfl hb8 Tryd.underlying38 rfl (by rw [List.size_toArray, Array.length_toList]; exact hsi)) rfl ⟨ss, by rw [← HD.out], HK2.out.grown Hga.out (by have := HK2.out.size; omega) (fun q hq => by injection hq with hq; omega), fun _ => rfl, fun e => absurd (HD.out.trans e) Hme.out⟩
end Go.Proofs.YtbomnldpmkedbaaDoor
