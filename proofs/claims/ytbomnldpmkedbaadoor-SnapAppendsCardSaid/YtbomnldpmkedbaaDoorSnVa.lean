/- A store is a log: the walk. (printed by gen_snVa.py) -/
import Derived.Test.YtbomnldpmkedbaaDoorSnT
import Derived.Test.YtbomnldpmkedbaaDoorJrnN
set_option linter.unusedSimpArgs false
set_option linter.unusedVariables false
namespace Go.Proofs.YtbomnldpmkedbaaDoor
open Go.RowKit
attribute [local go_sem ↓] Go.wp_at_zero Go.wp_at_succ

set_option maxRecDepth 100000 in
set_option maxHeartbeats 8000000 in
theorem appends_walk (A : Option Addr) (b : List UInt8) (c : Nat) (PA : Option Addr) (ws : List WriteR) (pc : Nat) (Al : Option Addr) (gl : List Hd) (cl : Nat) (w : World) (h : DOk w A b c PA ws pc) (hS : ShaOk w)
    (hl : Rd w Al (gl.flatMap Hd.cells)) (hgo : ∀ x ∈ gl, x.ok) (hlc : gl.length ≤ cl) (hcm : cl ≤ maxLen) :
    Calls Tryd.prog 5 #[DV A b.length c PA ws.length pc, .slice Al gl.length cl] w fun e w' => e = .returned (.bool true) ∧ Keep w w' := by
  have hpl0 := h.pl; have hpm := h.pm; have hbc := h.bc; have hcm0 := h.cm
  unfold maxLen at hpm hcm hcm0
  have Hh := Lib.hid h; have HS := Lib.hid hS; have Hl := Lib.hid hl; have Hgo := Lib.hid hgo
  clear h hS hl hgo
  obtain ⟨zs, hz1, hz2, hz3⟩ := zst_letter
  go_enter Tryd.func5, Tryd.ntmps5
  go_upto_region 1 with fail
  obtain ⟨w0, hw0⟩ : ∃ w0, w0 = w.alloc (.cells #[.slice A b.length c, .slice PA ws.length pc] 49) := ⟨_, rfl⟩
  have HD0 : Hid (Blk w0 w.heap.size 49 [.slice A b.length c, .slice PA ws.length pc]) := by rw [hw0]; exact Blk.new w _ [.slice A b.length c, .slice PA ws.length pc]
  have HK0 : Hid (Keep w w0) := by rw [hw0]; exact keep_new _ _
  have hz00 : w.heap.size < w0.heap.size := HD0.out.lt
  rw [← hw0]
  clear hw0
  generalize hB0 : w.heap.size = B0 at *
  have hB0' : w.heap.size ≤ B0 := Nat.le_of_eq hB0
  clear hB0
  go_wp2_with fail
  refine (awake_any w0 (HS.out.keep HK0.out)).mono ?_
  rintro e w1 ⟨rfl, k1⟩
  have HD1 := Lib.hid (HD0.out.keep k1); have HK1 := Lib.hid (keep_trans HK0.out k1)
  have hz1' : w0.heap.size ≤ w1.heap.size := k1.size
  clear k1
  have b0 := HD1.out.cell 0; have b1 := HD1.out.cell 1
  simp only [List.getElem?_cons_zero, List.getElem?_cons_succ] at b0 b1
  go_wp2_with fail
  refine (few_any _ _ _ _ _ _ _ (by omega) (by omega)).mono ?_
  rintro e w2 ⟨rfl, hk2⟩
  have HK2 := Lib.hid (keep_trans HK1.out hk2)
  replace b0 := keep_cell hk2 b0; replace b1 := keep_cell hk2 b1
  clear hk2 HD1 HD0
  cases hf : fewD b.length ws.length with
  | false => go_wp2_with fail; go_ret; exact ⟨rfl, HK2.out⟩
  | true =>
    have hfew := of_decide_eq_true hf; clear hf
    by_cases hq0 : 3840 < b.length
    · have hq0' : (3840 : Int) < (b.length : Int) := by omega
      go_wp2_with fail; go_ret; exact ⟨rfl, HK2.out⟩
    have hq0' : (b.length : Int) ≤ 3840 := by omega
    clear hq0
    by_cases hq1 : 30 < gl.length
    · have hq1' : (30 : Int) < (gl.length : Int) := by omega
      go_wp2_with fail; go_ret; exact ⟨rfl, HK2.out⟩
    have hq1' : (gl.length : Int) ≤ 30 := by omega
    clear hq1
    go_wp2_with fail
    refine (drive_any A b c PA ws pc w2 (Hh.out.keep HK2.out) (by omega)).mono ?_
    rintro e w3 ⟨PA3, pc3, rfl, _, hd3, hk3⟩
    have HK3 := Lib.hid (keep_trans HK2.out hk3)
    have C1 := sopen_w A b c PA3 ws pc3 w3 (hd3 w3 (Below.refl _ _)) (HS.out.keep HK3.out) (by omega)
    clear hd3 hk3 b0 b1
    go_wp2_with fail
    refine C1.mono ?_
    clear C1
    rintro e w4 ⟨ep, base, room, B, hs, A4, c4, cs, Ah, ch, rfl, R, hcs, hd4, own4, hok, k4⟩
    obtain ⟨hgw, hbl1, hbl2⟩ := R.goodW
    have hrm : B = [] ∨ room = roomS ((B.length / 32 : Nat) : Int) := by
      by_cases hsn : saneP b.length (ws.map WriteR.pl) = true
      · exact .inr (by rw [hbl1 hsn]; exact R.roomE)
      · exact .inl (hbl2 hsn)
    obtain ⟨L0, hL0⟩ : ∃ L0, lookB (bytesQ b (ws.map WriteR.pl)) = L0 := ⟨_, rfl⟩
    rw [hL0] at hgw
    have Hgw := Lib.hid hgw; have Hrm := Lib.hid hrm
    have hcz := hcs.z; have hcn := hcs.n; have hci := hcs.i
    have Hcs := Lib.hid hcs; have Hd4 := Lib.hid hd4; have HK4 := Lib.hid (keep_trans HK3.out k4); have Own4 := Lib.hid own4; have Hok := Lib.hid hok
    have hz34 : w3.heap.size ≤ w4.heap.size := k4.size
    have hz3w : w.heap.size ≤ w3.heap.size := HK3.out.size
    have hst : (storeCells ⟨w4.heap.size, 0, none⟩ cs.toList 0).run Tryd.prog (w4.alloc (.cells zs 38)) = .ok () (w4.alloc (.cells cs 38)) := run_storeCells_new (P := Tryd.prog) w4 38 zs cs hci (hz1.trans hcz.symm) (by have := all_oneCell_toArray Hcs.out.o; rwa [Array.toArray_toList] at this)
    clear hcs hd4 own4 R k4 hok hgw hrm hbl1 hbl2 hL0
    go_upto_region 5 with fail
    clear hst
    obtain ⟨w5, hw5⟩ : ∃ w5, w5 = w4.alloc (.cells cs 38) := ⟨_, rfl⟩
    have HC5 : Hid (Blk w5 w4.heap.size 38 cs.toList) := by rw [hw5]; exact Blk.new w4 _ cs.toList
    have k5 : Keep w4 w5 := by rw [hw5]; exact keep_new _ _
    rw [← hw5]
    clear hw5
    have HK5 := Lib.hid (keep_trans HK4.out k5); have Own5 := Lib.hid (own_keep Own4.out k5)
    have hz45 : w4.heap.size < w5.heap.size := HC5.out.lt
    have HoP : Hid ((Value.slice Ah hs.length ch).ownBlock ≠ some w4.heap.size) := fun e => by have h1 := (Own4.out.lt _ e).2; omega
    have L5 : Hid (SgS (fun k => k = w4.heap.size ∨ (Value.slice Ah hs.length ch).ownBlock = some k) w5 w4.heap.size B ep base room L0 hs 0 A4 c4 none [] 0) := by
      have hb5 := HC5.out
      rw [Hcs.out.l] at hb5
      refine ⟨hb5, Hgw.out, Nat.le_refl _, fun W hW => Hd4.out W fun k q1 q2 q3 => ?_⟩
      have hkn : k ≠ w4.heap.size := Nat.ne_of_lt q2
      rw [hW k (Nat.zero_le _) (Nat.lt_trans q2 hz45) (fun q => q.elim hkn q3)]
      exact k5.block k q2
    have h3P : w3.heap.size ≤ w4.heap.size := hz34
    generalize w4.heap.size = P at *
    clear HC5 Own4 Hcs Hd4 k5
    have hl5 : (lastL 0 z32 hs).length = 32 := lastL_len hs 0 z32 rfl
    obtain ⟨c0, c1, c2', c3, c4', c5'⟩ := st_d hl5 L5.out.blk
    clear c2' c3 c4' c5' hl5
    have F1 : Hid (∀ y, Keep w5 y → Calls Tryd.prog 21 #[DV A4 B.length c4 none 0 0] y fun e w'' => e = .returned (.tuple #[.int .i64 L0.1, .int .i64 L0.2.1]) ∧ Keep y w'') := fun y hy => by
      have h1 := find_any A4 B c4 none [] 0 y (L5.out.dok y (Fr.of_keep hy)) (HS.out.keep (keep_trans HK5.out hy))
      rw [bytesD_Q, L5.out.good.look] at h1; exact h1
    go_wp2_with fail
    refine (F1.out w5 (Below.refl _ _)).mono ?_
    clear F1 c0 c1
    rintro e w6 ⟨rfl, k6⟩
    have HK6 := Lib.hid (keep_trans HK5.out k6); have Own6 := Lib.hid (own_keep Own5.out k6)
    have L6 : Hid (SgS (fun k => k = P ∨ (Value.slice Ah hs.length ch).ownBlock = some k) w6 P B ep base room L0 hs (4 * 0) A4 c4 none [] 0) := ⟨L5.out.blk.keep k6, L5.out.good, Nat.le_refl _, fun W hW => L5.out.dok W (hW.keep k6)⟩
    clear L5 Own5 k6
    go_wp2_with fail
    go_loopw [7, 10] (fun v i wr => ∃ (k : Nat) (A2 : Option Addr) (c2 : Nat) (PA2 : Option Addr) (ws2 : List WriteR) (pc2 : Nat) (all : List Hd) (Ag : Option Addr) (cg : Nat), k ≤ gl.length ∧ i = .int .i64 k ∧ v = .slice Ag all.length cg ∧
        Hid (SgS (fun q => q = P ∨ (Value.slice Ag all.length cg).ownBlock = some q) wr P B ep base room L0 all (4 * k) A2 c2 PA2 ws2 pc2) ∧ Hid (wr.ownsRow w3.heap.size 65 68 (.slice Ag all.length cg) all.length (all.flatMap Hd.cells)) ∧ Hid (∀ x ∈ all, x.ok) ∧
        Hid ((Value.slice Ag all.length cg).ownBlock ≠ some P) ∧ Hid (Keep w wr) ∧ Hid (True)) (fun _ i _ => gl.length - (intOf i).toNat)
    case atStart => exact ⟨0, A4, c4, none, [], 0, hs, Ah, ch, Nat.zero_le _, rfl, rfl, L6, Own6, Hok, HoP, HK6, Lib.hid trivial⟩
    case round =>
      obtain ⟨k, A2, c2, PA2, ws2, pc2, all, Ag, cg, hk, rfl, rfl, HL, Own, Hok2, HoP2, HKr, HInv⟩ := hrel
      have hPr : P < wr.heap.size := HL.out.blk.lt
      have hfit : all.length ≤ 1024 := by have h1 := HL.out.good.bnd; omega
      have hbw : w3.heap.size ≤ wr.heap.size := by omega
      by_cases hlt : k < gl.length
      · obtain ⟨hb', off, rfl, hbb, F⟩ := Hd.at_ Hl.out Hgo.out hlt
        have hx := Hgo.out _ (List.getElem_mem hlt)
        have htk : gl.take (k + 1) = gl.take k ++ [gl[k]] := List.take_succ_eq_append_getElem hlt
        obtain ⟨x, hxe⟩ : ∃ x, gl[k] = x := ⟨_, rfl⟩
        rw [hxe] at F hx htk
        have Htk := Lib.hid htk
        obtain ⟨hv, hhv⟩ : ∃ hv, HdA x hv := ⟨_, HdA.of hx⟩
        have hvz := hhv.z; have hvn := hhv.n; have hvi := hhv.i
        have Hhv := Lib.hid hhv; have Hx := Lib.hid hx
        have HFw := Lib.hid (fun W hW => by rw [Hhv.out.l]; exact F W hW : ∀ W, Keep w W → W.rangeAt hb' (off + k * 68) hv.toList)
        have HF : Hid (∀ W, Keep wr W → W.rangeAt hb' (off + k * 68) hv.toList) := fun W hW => by rw [Hhv.out.l]; exact F W (keep_trans HKr.out hW)
        obtain ⟨cs2, hcs2⟩ : ∃ cs2 : Array Value, cs2.toList = stCells (.slice A2 B.length c2) (.slice PA2 ws2.length pc2) base (room : Int) (all.length : Nat) (lastL 0 z32 all) ep := ⟨_, rfl⟩
        have hcA := StA.of (lastL_len all 0 z32 rfl) hcs2
        have hcz2 := hcA.z; have hcn2 := hcA.n; have hci2 := hcA.i
        have HcA := Lib.hid hcA
        have HBP : Hid (Blk wr P 38 cs2.toList) := by rw [hcs2]; exact HL.out.blk
        have hXl : Hid (∀ q, (q = P ∨ (Value.slice Ag all.length cg).ownBlock = some q) → q < wr.heap.size) := fun q e => e.elim (fun e => by omega) (fun e => (Own.out.lt _ e).2)
        have hgb := HL.out.good.bnd
        have A1 : Hid (∀ y, Keep wr y → Calls Tryd.prog 22 #[.agg cs2, .agg hv] y fun e w' => ∃ A' c' PA' pc' vs ss' er n last, e = .returned (.tuple #[.agg ss', .int .i64 er]) ∧ AppU B (ws2.map WriteR.pl) (vs.map WriteR.pl) base room all x er n last ∧
            StA (stCells (.slice A' B.length c') (.slice PA' vs.length pc') base room n last ep) ss' ∧ (∀ W, MidF (Fr 0 (fun q => q = P ∨ (Value.slice Ag all.length cg).ownBlock = some q) wr) y w' W → DOk W A' B c' PA' vs pc') ∧ Keep y w') := fun y hy =>
          sapp_w A2 B c2 PA2 ws2 pc2 base room all ep cs2 x hv y (Fr 0 (fun q => q = P ∨ (Value.slice Ag all.length cg).ownBlock = some q) wr) (fun W hW => Fr.of_keep (keep_trans hy hW)) HL.out.dok (HS.out.keep (keep_trans HKr.out hy)) (by omega) HL.out.good.inv HcA.out Hx.out Hhv.out
        clear F hhv hx hcA hcs2 hxe hgb htk
        go_upto_region 9 with fail
        go_cut [11, 12] (fun s11 s12 wx => ∃ p er A5 c5 PA5 vs pc5 n5 l5 ds, s11 = .pointer (some ⟨p, 0, none⟩) ∧ s12 = .int .i64 er ∧ wr.heap.size ≤ p ∧ Hid (Keep wr wx) ∧ Hid (SaP (fun q => q = P ∨ (Value.slice Ag all.length cg).ownBlock = some q) B ep base room all x ws2 p er wx A5 c5 PA5 vs pc5 n5 l5 ds))
        case first =>
          refine wp_region_tree (.take [0,1,2,3,4] (.fork 5 (.take [6,7,8] (.force [9] .done)) 9 (.force [5] (.take [6,7,8] .done)))) [10,11] (by kernel_rfl) (by kernel_rfl) (fun y0 hk => ?_)
          have Q := Lib.hid hk
          clear hk
          refine mt_take y0 (Below.refl _ _) ?_
          simp only [pick_cons, pick_nil, nth_zero, nth_succ]
          have HB0 := Lib.hid (HBP.out.keep Q.out)
          have hrg0 := Lib.hid (HF.out y0 Q.out)
          (with_reducible refine wpQuiet_load_partgS P 0 cs2 (Eq.trans ?_ rfl) HB0.out.rangeS _ Tryd.underlying38 rfl hci2 rfl ?_)
          rfl
          simp only [Act.put, Array.set!_eq_setIfInBounds, List.setIfInBounds_toArray, List.set_cons_succ, List.set_cons_zero]
          iterate 3 (go_big_quiet_step (fail))
          (with_reducible refine wpQuiet_load_partgS hb' (off + k * 68) hv (Eq.trans ?_ rfl) hrg0.out _ Tryd.underlying65 rfl hvi rfl ?_)
          rfl
          simp only [Act.put, Array.set!_eq_setIfInBounds, List.setIfInBounds_toArray, List.set_cons_succ, List.set_cons_zero]
          clear HB0 hrg0
          refine wpQuiet_nil (mt_fork ?_ ?_)
          · simp only [pick_cons, pick_nil, nth_zero, nth_succ]
            refine fc_step rfl (fun K hK => ?_)
            go_simp
            (with_reducible refine (A1.out y0 Q.out).mono ?_)
            rintro e y1 ⟨A5, c5, PA5, pc5, vs, ds, er, n5, l5, rfl, hap, hds, hd5, hk⟩
            refine hK _ _ hk ?_
            clear hK K
            have HQ5 : wr.heap.size ≤ y0.heap.size := Q.out.size
            have Hprev := Q
            replace Q := Lib.hid (keep_trans Q.out hk)
            have hs_y1 : y0.heap.size ≤ y1.heap.size := hk.size
            have hdz := hds.z; have hdn := hds.n; have hdi := hds.i
            have Hap := Lib.hid hap; have Hds := Lib.hid hds; have Hd5 := Lib.hid hd5
            have HKK5 : Hid (Keep y1 y1) := Below.refl _ _
            have HQK : Hid (Keep wr y0) := Hprev
            clear hap hds hd5
            clear hk
            refine fc_nil (mt_take y1 (Below.refl _ _) ?_)
            simp only [pick_cons, pick_nil, nth_zero, nth_succ]
            repeat (go_big_quiet_step (fail))
            refine wpQuiet_nil (mt_force ?_)
            simp only [pick_cons, pick_nil, nth_zero, nth_succ]
            refine fc_step rfl (fun K hK => ?_)
            go_simp
            refine hK _ _ (keep_new _ _) ?_
            clear hK K
            obtain ⟨y2, hy⟩ : ∃ y2, y2 = y1.alloc (.cells zs 38) := ⟨_, rfl⟩
            have HP9 : Hid (Blk y2 y1.heap.size 38 zs.toList) := by rw [hy]; exact Blk.new y1 _ zs.toList
            have hk : Keep y1 y2 := by rw [hy]; exact keep_new _ _
            rw [← hy]
            clear hy
            have HP9s : y1.heap.size < y2.heap.size := HP9.out.lt
            have HP9n := Q.out.size
            replace Q := Lib.hid (keep_trans Q.out hk)
            have hs_y2 : y1.heap.size ≤ y2.heap.size := hk.size
            replace HKK5 := Lib.hid (keep_trans HKK5.out hk)
            clear hk
            generalize hp : y1.heap.size = p9 at *
            have HP9a : y1.heap.size ≤ p9 := Nat.le_of_eq hp
            have HP9b : p9 ≤ y1.heap.size := Nat.le_of_eq hp.symm
            clear hp
            refine fc_nil (mt_end ?_)
            obtain ⟨wa, hsta, hba, hga⟩ := run_store_blk (P := Tryd.prog) ds.toList HP9.out (by simp [hz1, hdz]) Hds.out.o
            have Hba := Lib.hid hba; have Hga := Lib.hid hga
            have hPl := HP9.out.lt; have hga1 := hga.size; have hQs := Q.out.size; have hKs := HKK5.out.size; have hQK := HQK.out.size
            clear hba hga
            go_wp2
            go_meet
            refine ⟨p9, er, A5, c5, PA5, vs, pc5, n5, l5, ds, rfl, rfl, by omega, Lib.hid (Q.out.grown Hga.out (by omega) (fun q hq => by injection hq with hq; omega)), Lib.hid ⟨Hba.out, Hds.out, Hap.out, app_frS Hd5.out HQK.out hXl.out (by omega) (by omega) (fun q h1 h2 => ?_) (fun q h1 h2 => ?_)⟩⟩
            · exact (Hga.out.block q (by omega) (fun e => by have e2 : q = p9 := Option.some.inj e; omega)).trans (Q.out.block q h1)
            · exact (Hga.out.block q (by omega) (fun e => by have e2 : q = p9 := Option.some.inj e; omega)).trans (HKK5.out.block q h2)
          · simp only [pick_cons, pick_nil, nth_zero, nth_succ]
            refine fc_step rfl (fun K hK => ?_)
            go_simp
            refine hK _ _ (keep_new _ _) ?_
            clear hK K
            obtain ⟨y3, hy⟩ : ∃ y3, y3 = y0.alloc (.cells zs 38) := ⟨_, rfl⟩
            have HP9 : Hid (Blk y3 y0.heap.size 38 zs.toList) := by rw [hy]; exact Blk.new y0 _ zs.toList
            have hk : Keep y0 y3 := by rw [hy]; exact keep_new _ _
            rw [← hy]
            clear hy
            have HP9s : y0.heap.size < y3.heap.size := HP9.out.lt
            have HP9n := Q.out.size
            replace Q := Lib.hid (keep_trans Q.out hk)
            have hs_y3 : y0.heap.size ≤ y3.heap.size := hk.size
            clear hk
            generalize hp : y0.heap.size = p9 at *
            have HP9a : y0.heap.size ≤ p9 := Nat.le_of_eq hp
            have HP9b : p9 ≤ y0.heap.size := Nat.le_of_eq hp.symm
            clear hp
            refine fc_nil (mt_force ?_)
            simp only [pick_cons, pick_nil, nth_zero, nth_succ]
            refine fc_step rfl (fun K hK => ?_)
            go_simp
            (with_reducible refine (A1.out y3 Q.out).mono ?_)
            rintro e y4 ⟨A5, c5, PA5, pc5, vs, ds, er, n5, l5, rfl, hap, hds, hd5, hk⟩
            refine hK _ _ hk ?_
            clear hK K
            have HQ5 : wr.heap.size ≤ y3.heap.size := Q.out.size
            have Hprev := Q
            replace Q := Lib.hid (keep_trans Q.out hk)
            have hs_y4 : y3.heap.size ≤ y4.heap.size := hk.size
            replace HP9 := Lib.hid (HP9.out.keep hk)
            have hdz := hds.z; have hdn := hds.n; have hdi := hds.i
            have Hap := Lib.hid hap; have Hds := Lib.hid hds; have Hd5 := Lib.hid hd5
            have HKK5 : Hid (Keep y4 y4) := Below.refl _ _
            have HQK : Hid (Keep wr y3) := Hprev
            clear hap hds hd5
            clear hk
            refine fc_nil (mt_take y4 (Below.refl _ _) ?_)
            simp only [pick_cons, pick_nil, nth_zero, nth_succ]
            repeat (go_big_quiet_step (fail))
            refine wpQuiet_nil (mt_end ?_)
            obtain ⟨wa, hsta, hba, hga⟩ := run_store_blk (P := Tryd.prog) ds.toList HP9.out (by simp [hz1, hdz]) Hds.out.o
            have Hba := Lib.hid hba; have Hga := Lib.hid hga
            have hPl := HP9.out.lt; have hga1 := hga.size; have hQs := Q.out.size; have hKs := HKK5.out.size; have hQK := HQK.out.size
            clear hba hga
            go_wp2
            go_meet
            refine ⟨p9, er, A5, c5, PA5, vs, pc5, n5, l5, ds, rfl, rfl, by omega, Lib.hid (Q.out.grown Hga.out (by omega) (fun q hq => by injection hq with hq; omega)), Lib.hid ⟨Hba.out, Hds.out, Hap.out, app_frS Hd5.out HQK.out hXl.out (by omega) (by omega) (fun q h1 h2 => ?_) (fun q h1 h2 => ?_)⟩⟩
            · exact (Hga.out.block q (by omega) (fun e => by have e2 : q = p9 := Option.some.inj e; omega)).trans (Q.out.block q h1)
            · exact (Hga.out.block q (by omega) (fun e => by have e2 : q = p9 := Option.some.inj e; omega)).trans (HKK5.out.block q h2)
        case rest =>
          obtain ⟨p, er, A5, c5, PA5, vs, pc5, n5, l5, ds, rfl, rfl, hp1, Kwc, HP⟩ := hcut
          have HKc := Lib.hid (keep_trans HKr.out Kwc.out)
          have hpc : p < wc.heap.size := HP.out.blk.lt
          have HBPc := Lib.hid (HBP.out.keep Kwc.out)
          have Ownc := Lib.hid (own_keep Own.out Kwc.out)
          have hzwc : wr.heap.size ≤ wc.heap.size := Kwc.out.size
          have hdz := HP.out.sta.z; have hdn := HP.out.sta.n; have hdi := HP.out.sta.i
          clear A1 HF HBP
          by_cases he : er = 0
          · subst he
            obtain ⟨hn5, hl5, hinv, hap⟩ := HP.out.app.ok rfl
            have Hg5 := Lib.hid (HL.out.good.app hinv hap Hx.out)
            have Hap := Lib.hid hap
            have Hds : Hid (StA (stCells (.slice A5 B.length c5) (.slice PA5 vs.length pc5) base room ((all ++ [x]).length : Nat) (lastL 0 z32 (all ++ [x])) ep) ds) := by
              have h1 := HP.out.sta
              rw [hn5, hl5] at h1; exact h1
            have Hdok := Lib.hid HP.out.dok; have HPb := Lib.hid HP.out.blk
            clear hinv hap hn5 hl5 HP
            obtain ⟨w6, hst6, hb6, hg6⟩ := run_store_blk (P := Tryd.prog) ds.toList HBPc.out (by simp [hcz2, hdz]) Hds.out.o
            have Hb6 := Lib.hid hb6; have Hg6 := Lib.hid hg6
            have K6 : Hid (Keep w w6) := HKc.out.grown hg6 HKc.out.size (fun q hq => by injection hq with hq; omega)
            have Own6 := Lib.hid (Ownc.out.kept hg6 (.inr (fun e => HoP2.out e)))
            have hz6 : wc.heap.size ≤ w6.heap.size := hg6.size
            clear hb6 hg6
            go_upto_region 12 with ((with_reducible refine load_arr p ds (Eq.trans ?_ rfl) HPb.out _ Tryd.underlying38 rfl hdi ?_); rfl)
            clear hst6
            have hrg6 := Lib.hid (HFw.out w6 K6.out)
            have HQ6 : Hid (Blk (w6.alloc (.cells hv 65)) w6.heap.size 65 hv.toList) := Blk.new w6 _ hv.toList
            have Own6a : Hid ((w6.alloc (.cells hv 65)).ownsRow w3.heap.size 65 68 (.slice Ag all.length cg) all.length (all.flatMap Hd.cells)) := Own6.out.alloc _
            have hb6' : w3.heap.size ≤ (w6.alloc (.cells hv 65)).heap.size := by simp; omega
            go_upto_region 8 with (first
              | ((with_reducible refine load_part hb' (off + k * 68) hv (Eq.trans ?_ rfl) hrg6.out _ Tryd.underlying65 rfl hvi ?_); rfl)
              | ((with_reducible refine list_build1S headT hv hvz (by omega) (Eq.trans ?_ rfl) ?_); rfl)
              | (at_builtin; refine wpList_app headT (by rfl) _ _ (by rfl) w3.heap.size _ all.length _ (by rfl) Own6a.out _ 1 1 hv.toList (by rfl) (by rw [Array.length_toList, hvz]) HQ6.out.rd Hhv.out.o (by omega) (by unfold maxLen; omega) hb6' ?_; intro v7 w7 own7 hg7 hat7; have Own7 := Lib.hid own7; have Hg7 := Lib.hid hg7; have Hat7 := Lib.hid hat7; clear own7 hg7 hat7))
            obtain ⟨Ag7, cg7, rfl, hcg7, hmg7, _⟩ := own_form Own7.out
            have hz7 : w6.heap.size + 1 ≤ w7.heap.size := by have h1 := Hg7.out.size; simpa using h1
            have hln : (all ++ [x]).length = all.length + 1 := by rw [List.length_append, List.length_singleton]
            have K7 : Hid (Keep w w7) := (keep_trans K6.out (keep_new _ _)).grown Hg7.out (by simp; have := K6.out.size; omega) (fun q hq => by have h1 := (Own6a.out.lt q hq).1; omega)
            have HoP7 : Hid ((Value.slice Ag7 (all.length + 1) cg7).ownBlock ≠ some P) := fun e => by
              rcases Hat7.out with h1 | h1
              · exact HoP2.out (h1.symm.trans e)
              · have e2 : (w6.alloc (.cells hv 65)).heap.size = P := Option.some.inj (h1.symm.trans e)
                simp at e2; omega
            have Own8 : Hid (w7.ownsRow w3.heap.size 65 68 (.slice Ag7 (all.length + 1) cg7) (all.length + 1) ((all ++ [x]).flatMap Hd.cells)) := by
              have h1 := Own7.out
              rw [Hhv.out.l] at h1
              rw [List.flatMap_append, List.flatMap_singleton]; exact h1
            have hBP7 : Blk w7 P 38 ds.toList := (Hb6.out.alloc _).grown Hg7.out HoP2.out
            have L7 : Hid (SgS (fun q => q = P ∨ (Value.slice Ag7 (all.length + 1) cg7).ownBlock = some q) w7 P B ep base room L0 (all ++ [x]) (4 * (k + 1)) A5 c5 PA5 vs pc5) := by
              rw [Hds.out.l] at hBP7
              refine ⟨hBP7, Hg5.out, ?_, fun W hW => Hdok.out W fun q q1 q2 q3 => ?_⟩
              · have h1 := congrArg List.length Hap.out.eq
                rw [List.length_append, List.length_map, List.length_map, show (layWs (base.toNat + 4 * all.length : Nat) (recB (lastL 0 z32 all) all.length x) 4).length = 4 by simp [layWs]] at h1
                have := HL.out.len; omega
              · have n1 : q ≠ P := fun e => q3 (.inl e)
                have n2 : (Value.slice Ag all.length cg).ownBlock ≠ some q := fun e => q3 (.inr e)
                have n3 : (Value.slice Ag7 (all.length + 1) cg7).ownBlock ≠ some q := fun e => by
                  rcases Hat7.out with h1 | h1
                  · exact n2 (h1.symm.trans e)
                  · have e2 : (w6.alloc (.cells hv 65)).heap.size = q := Option.some.inj (h1.symm.trans e)
                    simp at e2; omega
                rw [hW q (Nat.zero_le _) (by omega) (fun e => e.elim n1 n3), Hg7.out.block q (by simp; omega) (fun e => n2 e.symm), (keep_new w6 (.cells hv 65)).block q (by omega)]
                exact Hg6.out.block q q2 (fun e => n1 (Option.some.inj e))
            have Hok8 : Hid (∀ y ∈ all ++ [x], y.ok) := fun y hy => by
              rcases List.mem_append.1 hy with hy | hy
              · exact Hok2.out y hy
              · rw [List.mem_singleton.1 hy]; exact Hx.out
            clear hBP7 HL Hb6 Hg6 Own7 Hg7 Hat7 Own6 Own6a HQ6 hrg6 HPb Hdok
            go_wp2
            go_roundw
            case rel => exact ⟨k + 1, A5, c5, PA5, vs, pc5, all ++ [x], Ag7, cg7, by omega, by go_num, by rw [hln], by rw [hln]; exact L7, by rw [hln]; exact Own8, Hok8, by rw [hln]; exact HoP7, K7, Lib.hid trivial⟩
            case measure => simp [intOf]; omega
          · have hne : (er == 0) = false := by simp [he]
            obtain ⟨her, _, _, _⟩ := HP.out.app.no he
            have L7 : Hid (SgS (fun q => q = P ∨ (Value.slice Ag all.length cg).ownBlock = some q) wc P B ep base room L0 all (4 * (k + 1)) A2 c2 PA2 ws2 pc2) := ⟨HL.out.blk.keep Kwc.out, HL.out.good, by have := HL.out.len; omega, fun W hW => HL.out.dok W (hW.keep Kwc.out)⟩
            have Hap := Lib.hid HP.out.app
            have Hne := Lib.hid he
            clear HP HL he her
            go_wp2
            go_roundw
            case rel => exact ⟨k + 1, A2, c2, PA2, ws2, pc2, all, Ag, cg, by omega, by go_num, rfl, L7, Ownc, Hok2, HoP2, HKc, Lib.hid trivial⟩
            case measure => simp [intOf]; omega
      · have hnl : ¬ ((k : Int) < (gl.length : Int)) := by omega
        have hl9 : (lastL 0 z32 all).length = 32 := lastL_len all 0 z32 rfl
        obtain ⟨c0, c1, c2', c3, c4', c5'⟩ := st_d hl9 HL.out.blk
        clear c2' c3 c4'
        have D0 := Lib.hid c0; have D1 := Lib.hid c1; have D5 := Lib.hid c5'
        have O1 : Calls Tryd.prog 12 #[DV A2 B.length c2 PA2 ws2.length pc2] wr fun e w' => ∃ cs Ah ch base, e = .returned (.tuple #[.agg cs, .slice Ah all.length ch]) ∧ (∃ d0 d1 rm n last, last.length = 32 ∧ cs.toList = stCells d0 d1 base rm n last ep ∧ cs.size = 38 ∧ (Tryd.prog.info? 38).map (·.size) = some cs.size ∧ ¬ cs = #[] ∧ ∀ v ∈ cs.toList, v.oneCell' = true) ∧ Rd w' Ah (all.flatMap Hd.cells) ∧ Keep wr w' := by
          refine (sopen_w A2 B c2 PA2 ws2 pc2 wr (HL.out.dok wr (Fr.of_keep (Below.refl _ _))) (HS.out.keep HKr.out) (by have := HL.out.len; omega)).mono ?_
          rintro e w' ⟨ep', base', room', B', hs', A', c', cs', Ah', ch', rfl, R, hcs, _, own, _, hk⟩
          obtain ⟨e1, e2, _⟩ := HL.out.good.again Hrm.out R
          subst e1 e2
          exact ⟨cs', Ah', ch', base', rfl, ⟨_, _, _, _, _, lastL_len _ _ _ rfl, hcs.l, hcs.z, hcs.i, hcs.n, hcs.o⟩, own_rd own, hk⟩
        clear L6 Own6 HoP Hok
        go_wp2_with fail
        refine O1.mono ?_
        clear O1 c0 c1 c5'
        rintro e w9 ⟨cs9, Ag9, cg9, bs9, rfl, ⟨e0, e1, rm9, n9, l9, hl9', hcl, h9z, h9i, h9n, h9o⟩, hr9, k9⟩
        have Ho9 := Lib.hid h9o; have Hr9 := Lib.hid hr9; have Hcl := Lib.hid hcl; have Kr9 := Lib.hid k9
        have hst : (storeCells ⟨w9.heap.size, 0, none⟩ cs9.toList 0).run Tryd.prog (w9.alloc (.cells zs 38)) = .ok () (w9.alloc (.cells cs9 38)) := run_storeCells_new (P := Tryd.prog) w9 38 zs cs9 h9i (hz1.trans h9z.symm) (by have := all_oneCell_toArray Ho9.out; rwa [Array.toArray_toList] at this)
        have hz9 : wr.heap.size ≤ w9.heap.size := k9.size
        clear h9o hr9 hcl k9
        go_upto_region 14 with fail
        clear hst
        obtain ⟨wd, hwd⟩ : ∃ wd, wd = w9.alloc (.cells cs9 38) := ⟨_, rfl⟩
        have HE : Hid (Blk wd w9.heap.size 38 (stCells e0 e1 bs9 rm9 n9 l9 ep)) := by rw [hwd, ← Hcl.out]; exact Blk.new w9 _ cs9.toList
        have kd : Keep w9 wd := by rw [hwd]; exact keep_new _ _
        rw [← hwd]
        clear hwd
        have Krd := Lib.hid (keep_trans Kr9.out kd); have Hrd9 := Lib.hid (Hr9.out.keep kd); have Hgd := Lib.hid (own_rd (own_keep Own.out (keep_trans Kr9.out kd)))
        generalize w9.heap.size = E at *
        clear kd
        have F1 : Hid (Calls Tryd.prog 21 #[DV A2 B.length c2 PA2 ws2.length pc2] wd fun e w'' => e = .returned (.tuple #[.int .i64 L0.1, .int .i64 L0.2.1]) ∧ Keep wd w'') := by
          have h1 := find_any A2 B c2 PA2 ws2 pc2 wd (HL.out.dok wd (Fr.of_keep Krd.out)) (HS.out.keep (keep_trans HKr.out Krd.out))
          rw [bytesD_Q, HL.out.good.look] at h1; exact h1
        have c0 := keep_cell Krd.out D0.out; have c1 := keep_cell Krd.out D1.out
        go_wp2_with fail
        refine F1.out.mono ?_
        clear F1 c0 c1
        rintro e we ⟨rfl, ke⟩
        have Kre := Lib.hid (keep_trans Krd.out ke); have Hre := Lib.hid (Hrd9.out.keep ke); have Hge := Lib.hid (Hgd.out.keep ke)
        have HEe := HE.out.keep ke
        obtain ⟨x0, x1, x2, x3, x4, x5⟩ := st_d hl9' HEe
        clear x0 x1 x2 x3 x4 HEe
        have X5 := Lib.hid x5
        have S1 : Hid (∀ y, Keep we y → Calls Tryd.prog 18 #[.slice Ag9 all.length cg9, .slice Ag all.length cg] y fun e w' => e = .returned (.bool true) ∧ Keep y w') := fun y hy => by
          have h1 := hsame_any Ag9 all cg9 Ag all cg y (Hre.out.keep hy) (Hge.out.keep hy) Hok2.out Hok2.out (by omega) (by omega)
          rw [decide_eq_true (rfl : all = all)] at h1; exact h1
        have hby : (bytesD B ws2).length = B.length := by rw [bytesD_Q, bytesQ_len _ _ HL.out.good.san]
        have B1 : Hid (∀ y, Keep we y → Calls Tryd.prog 23 #[DV A2 B.length c2 PA2 ws2.length pc2] y fun e w' => ∃ A' c', e = .returned (.slice A' B.length c') ∧ Keep y w') := fun y hy =>
          (bytes_any A2 B c2 PA2 ws2 pc2 y (HL.out.dok y (Fr.of_keep (keep_trans Kre.out hy)))).mono fun e w' ⟨v, q1, q2, q3⟩ => by
            obtain ⟨A', c', rfl, _⟩ := own_form q2
            exact ⟨A', c', by rw [q1, hby], q3⟩
        clear hby ke x5
        have hB1 : 0 ≤ (B.length : Int) := by omega
        go_upto_region 15 with fail
        refine wp_region_tree (.take [0,1,2,3] (.force [4] (.take [5,6,7,8,9,10,11,12,13,14,15,16,17,18,19,20,21,22,23,24,25,26,29,30,31,32,33] (.force [27] (.take [28,34,35,36] .done))))) [] (by kernel_rfl) (by kernel_rfl) (fun y0 hk => ?_)
        try simp only [List.append_eq, List.cons_append, List.nil_append]
        have Q := Lib.hid hk
        clear hk
        refine mt_take y0 (Below.refl _ _) ?_
        simp only [pick_cons, pick_nil, nth_zero, nth_succ]
        repeat (go_big_quiet_step (fail))
        refine wpQuiet_nil (mt_force ?_)
        simp only [pick_cons, pick_nil, nth_zero, nth_succ]
        refine fc_step rfl (fun K hK => ?_)
        go_simp
        (with_reducible refine (S1.out y0 Q.out).mono ?_)
        rintro e y1 ⟨rfl, hk⟩
        refine hK _ _ hk ?_
        clear hK K
        replace Q := Lib.hid (keep_trans Q.out hk)
        clear hk
        have Qr := Lib.hid (keep_trans Kre.out Q.out)
        have a0 := aft_cell (keep_cell Qr.out D0.out); have a1 := aft_cell (keep_cell Qr.out D1.out); have a5 := aft_cell (keep_cell Qr.out D5.out); have a6 := aft_cell (keep_cell Q.out X5.out)
        refine fc_nil (mt_take y1 (Below.refl _ _) ?_)
        simp only [pick_cons, pick_nil, nth_zero, nth_succ]
        repeat (go_big_quiet_step (fail))
        clear a0 a1 a5 a6
        refine wpQuiet_nil (mt_force ?_)
        simp only [pick_cons, pick_nil, nth_zero, nth_succ]
        refine fc_step rfl (fun K hK => ?_)
        go_simp
        (with_reducible refine (B1.out y1 Q.out).mono ?_)
        rintro e y2 ⟨A8, c8, rfl, hk⟩
        refine hK _ _ hk ?_
        clear hK K
        replace Q := Lib.hid (keep_trans Q.out hk)
        clear hk
        refine fc_nil (mt_take y2 (Below.refl _ _) ?_)
        simp only [pick_cons, pick_nil, nth_zero, nth_succ]
        repeat (go_big_quiet_step (fail))
        refine wpQuiet_nil (mt_end ?_)
        go_wp2
        exact bodyPost_ret (v := .bool true) (by simp [results, Tryd.results5]) rfl ⟨rfl, keep_trans HKr.out (keep_trans Kre.out Q.out)⟩
end Go.Proofs.YtbomnldpmkedbaaDoor
