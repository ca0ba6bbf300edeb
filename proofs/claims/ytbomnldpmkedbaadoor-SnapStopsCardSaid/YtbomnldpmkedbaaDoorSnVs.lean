/- Compaction cut short: the walk. (printed by gen_snVs.py) -/
import Derived.Test.YtbomnldpmkedbaaDoorSnL
import Derived.Test.YtbomnldpmkedbaaDoorSnN
import Derived.Test.YtbomnldpmkedbaaDoorJrnN
set_option linter.unusedSimpArgs false
set_option linter.unusedVariables false
namespace Go.Proofs.YtbomnldpmkedbaaDoor
open Go.RowKit
attribute [local go_sem ↓] Go.wp_at_zero Go.wp_at_succ

set_option maxRecDepth 100000 in
set_option maxHeartbeats 8000000 in
theorem stops_walk (A : Option Addr) (b : List UInt8) (c : Nat) (PA : Option Addr) (ws : List WriteR) (pc : Nat) (Al : Option Addr) (gl : List Hd) (cl : Nat) (Ak : Option Addr) (kl : List Hd) (ck : Nat) (n : Int) (Bp : Option Addr) (plan : List UInt8) (cp : Nat) (w : World) (h : DOk w A b c PA ws pc) (hS : ShaOk w)
    (hl : Rd w Al (gl.flatMap Hd.cells)) (hgo : ∀ x ∈ gl, x.ok) (hlc : gl.length ≤ cl) (hcm : cl ≤ maxLen) (hk : Rd w Ak (kl.flatMap Hd.cells)) (hko : ∀ x ∈ kl, x.ok) (hkc : kl.length ≤ ck) (hkm : ck ≤ maxLen) (hn : -9223372036854775808 ≤ n ∧ n ≤ 9223372036854775807) (hp : Rd w Bp (plan.map u8v)) (hpc : plan.length ≤ cp) (hpm : cp ≤ maxLen) :
    Calls Tryd.prog 7 #[DV A b.length c PA ws.length pc, .slice Al gl.length cl, .slice Ak kl.length ck, .int .i64 n, .slice Bp plan.length cp] w fun e w' => e = .returned (.bool true) ∧ Keep w w' := by
  have hpl0 := h.pl; have hpm0 := h.pm; have hbc := h.bc; have hcm0 := h.cm
  unfold maxLen at hpm0 hcm hcm0 hkm hpm
  have Hh := Lib.hid h; have HS := Lib.hid hS; have Hl := Lib.hid hl; have Hgo := Lib.hid hgo; have Hk := Lib.hid hk; have Hko := Lib.hid hko; have Hp := Lib.hid hp; have Hn := Lib.hid hn
  clear h hS hl hgo hk hko hp hn
  obtain ⟨zs, hz1, hz2, hz3⟩ := zst_letter
  go_enter Tryd.func7, Tryd.ntmps7
  go_upto_region 1 with fail
  obtain ⟨w0, hw0⟩ : ∃ w0, w0 = w.alloc (.cells #[.slice A b.length c, .slice PA ws.length pc] 49) := ⟨_, rfl⟩
  have HD0 : Hid (Blk w0 w.heap.size 49 [.slice A b.length c, .slice PA ws.length pc]) := by rw [hw0]; exact Blk.new w _ [.slice A b.length c, .slice PA ws.length pc]
  have HK0 : Hid (Keep w w0) := by rw [hw0]; exact keep_new _ _
  have hz00 : w.heap.size < w0.heap.size := HD0.out.lt
  rw [← hw0]
  clear hw0
  generalize hB0 : w.heap.size = B0 at *
  have hB0' : w.heap.size ≤ B0 := Nat.le_of_eq hB0
  clear hB0
  go_wp2_with fail
  refine (awake_any w0 (HS.out.keep HK0.out)).mono ?_
  rintro e w1 ⟨rfl, k1⟩
  have HD1 := Lib.hid (HD0.out.keep k1); have HK1 := Lib.hid (keep_trans HK0.out k1)
  have hz1' : w0.heap.size ≤ w1.heap.size := k1.size
  clear k1
  have b0 := HD1.out.cell 0; have b1 := HD1.out.cell 1
  simp only [List.getElem?_cons_zero, List.getElem?_cons_succ] at b0 b1
  go_wp2_with fail
  refine (few_any _ _ _ _ _ _ _ (by omega) (by omega)).mono ?_
  rintro e w2 ⟨rfl, hk2⟩
  have HK2 := Lib.hid (keep_trans HK1.out hk2)
  replace b0 := keep_cell hk2 b0; replace b1 := keep_cell hk2 b1
  clear hk2 HD1 HD0
  cases hf : fewD b.length ws.length with
  | false => go_wp2_with fail; go_ret; exact ⟨rfl, HK2.out⟩
  | true =>
    have hfew := of_decide_eq_true hf; clear hf
    by_cases hq0 : 3840 < b.length
    · have hq0' : (3840 : Int) < (b.length : Int) := by omega
      go_wp2_with fail; go_ret; exact ⟨rfl, HK2.out⟩
    have hq0' : (b.length : Int) ≤ 3840 := by omega
    clear hq0
    by_cases hq2 : 30 < kl.length
    · have hq2' : (30 : Int) < (kl.length : Int) := by omega
      go_wp2_with fail; go_ret; exact ⟨rfl, HK2.out⟩
    have hq2' : (kl.length : Int) ≤ 30 := by omega
    clear hq2
    by_cases hq1 : 30 < gl.length
    · have hq1' : (30 : Int) < (gl.length : Int) := by omega
      go_wp2_with fail; go_ret; exact ⟨rfl, HK2.out⟩
    have hq1' : (gl.length : Int) ≤ 30 := by omega
    clear hq1
    by_cases hq3 : 400 < plan.length
    · have hq3' : (400 : Int) < (plan.length : Int) := by omega
      go_wp2_with fail; go_ret; exact ⟨rfl, HK2.out⟩
    have hq3' : (plan.length : Int) ≤ 400 := by omega
    clear hq3
    go_wp2_with fail
    refine (drive_any A b c PA ws pc w2 (Hh.out.keep HK2.out) (by omega)).mono ?_
    rintro e w3 ⟨PA3, pc3, rfl, _, hd3, hk3⟩
    have HK3 := Lib.hid (keep_trans HK2.out hk3)
    have C1 := sopen_w A b c PA3 ws pc3 w3 (hd3 w3 (Below.refl _ _)) (HS.out.keep HK3.out) (by omega)
    clear hd3 hk3 b0 b1
    go_wp2_with fail
    refine C1.mono ?_
    clear C1
    rintro e w4 ⟨ep, base, room, B, hs, A4, c4, cs, Ah, ch, rfl, R, hcs, hd4, own4, hok, k4⟩
    obtain ⟨hgw, hbl1, hbl2⟩ := R.goodW
    have hrm : B = [] ∨ room = roomS ((B.length / 32 : Nat) : Int) := by
      by_cases hsn : saneP b.length (ws.map WriteR.pl) = true
      · exact .inr (by rw [hbl1 hsn]; exact R.roomE)
      · exact .inl (hbl2 hsn)
    obtain ⟨L0, hL0⟩ : ∃ L0, lookB (bytesQ b (ws.map WriteR.pl)) = L0 := ⟨_, rfl⟩
    rw [hL0] at hgw
    have Hgw := Lib.hid hgw; have Hrm := Lib.hid hrm
    have hcz := hcs.z; have hcn := hcs.n; have hci := hcs.i
    have Hcs := Lib.hid hcs; have Hd4 := Lib.hid hd4; have HK4 := Lib.hid (keep_trans HK3.out k4); have Own4 := Lib.hid own4; have Hok := Lib.hid hok
    have hz34 : w3.heap.size ≤ w4.heap.size := k4.size
    have hz3w : w.heap.size ≤ w3.heap.size := HK3.out.size
    have hst : (storeCells ⟨w4.heap.size, 0, none⟩ cs.toList 0).run Tryd.prog (w4.alloc (.cells zs 38)) = .ok () (w4.alloc (.cells cs 38)) := run_storeCells_new (P := Tryd.prog) w4 38 zs cs hci (hz1.trans hcz.symm) (by have := all_oneCell_toArray Hcs.out.o; rwa [Array.toArray_toList] at this)
    clear hcs hd4 own4 R k4 hok hgw hrm hbl1 hbl2 hL0
    go_upto_region 5 with fail
    clear hst
    obtain ⟨w5, hw5⟩ : ∃ w5, w5 = w4.alloc (.cells cs 38) := ⟨_, rfl⟩
    have HC5 : Hid (Blk w5 w4.heap.size 38 cs.toList) := by rw [hw5]; exact Blk.new w4 _ cs.toList
    have k5 : Keep w4 w5 := by rw [hw5]; exact keep_new _ _
    rw [← hw5]
    clear hw5
    have HK5 := Lib.hid (keep_trans HK4.out k5); have Own5 := Lib.hid (own_keep Own4.out k5)
    have hz45 : w4.heap.size < w5.heap.size := HC5.out.lt
    have HoP : Hid ((Value.slice Ah hs.length ch).ownBlock ≠ some w4.heap.size) := fun e => by have h1 := (Own4.out.lt _ e).2; omega
    have L5 : Hid (SgS (fun k => k = w4.heap.size ∨ (Value.slice Ah hs.length ch).ownBlock = some k) w5 w4.heap.size B ep base room L0 hs 0 A4 c4 none [] 0) := by
      have hb5 := HC5.out
      rw [Hcs.out.l] at hb5
      refine ⟨hb5, Hgw.out, Nat.le_refl _, fun W hW => Hd4.out W fun k q1 q2 q3 => ?_⟩
      have hkn : k ≠ w4.heap.size := Nat.ne_of_lt q2
      rw [hW k (Nat.zero_le _) (Nat.lt_trans q2 hz45) (fun q => q.elim hkn q3)]
      exact k5.block k q2
    have h3P : w3.heap.size ≤ w4.heap.size := hz34
    generalize w4.heap.size = P at *
    clear HC5 Own4 Hcs Hd4 k5
    go_wp2_with fail
    go_loopw [13, 14] (fun v i wr => ∃ (k : Nat) (A2 : Option Addr) (c2 : Nat) (PA2 : Option Addr) (ws2 : List WriteR) (pc2 : Nat) (all : List Hd) (Ag : Option Addr) (cg : Nat), k ≤ gl.length ∧ i = .int .i64 k ∧ v = .slice Ag all.length cg ∧
        Hid (SgS (fun q => q = P ∨ (Value.slice Ag all.length cg).ownBlock = some q) wr P B ep base room L0 all (4 * k) A2 c2 PA2 ws2 pc2) ∧ Hid (wr.ownsRow w3.heap.size 65 68 (.slice Ag all.length cg) all.length (all.flatMap Hd.cells)) ∧ Hid (∀ x ∈ all, x.ok) ∧
        Hid ((Value.slice Ag all.length cg).ownBlock ≠ some P) ∧ Hid (Keep w wr) ∧ Hid (True)) (fun _ i _ => gl.length - (intOf i).toNat)
    case atStart => exact ⟨0, A4, c4, none, [], 0, hs, Ah, ch, Nat.zero_le _, rfl, rfl, L5, Own5, Hok, HoP, HK5, Lib.hid trivial⟩
    case round =>
      obtain ⟨k, A2, c2, PA2, ws2, pc2, all, Ag, cg, hk, rfl, rfl, HL, Own, Hok2, HoP2, HKr, HInv⟩ := hrel
      have hPr : P < wr.heap.size := HL.out.blk.lt
      have hfit : all.length ≤ 1024 := by have h1 := HL.out.good.bnd; omega
      have hbw : w3.heap.size ≤ wr.heap.size := by omega
      by_cases hlt : k < gl.length
      · obtain ⟨hb', off, rfl, hbb, F⟩ := Hd.at_ Hl.out Hgo.out hlt
        have hx := Hgo.out _ (List.getElem_mem hlt)
        have htk : gl.take (k + 1) = gl.take k ++ [gl[k]] := List.take_succ_eq_append_getElem hlt
        obtain ⟨x, hxe⟩ : ∃ x, gl[k] = x := ⟨_, rfl⟩
        rw [hxe] at F hx htk
        have Htk := Lib.hid htk
        obtain ⟨hv, hhv⟩ : ∃ hv, HdA x hv := ⟨_, HdA.of hx⟩
        have hvz := hhv.z; have hvn := hhv.n; have hvi := hhv.i
        have Hhv := Lib.hid hhv; have Hx := Lib.hid hx
        have HFw := Lib.hid (fun W hW => by rw [Hhv.out.l]; exact F W hW : ∀ W, Keep w W → W.rangeAt hb' (off + k * 68) hv.toList)
        have HF : Hid (∀ W, Keep wr W → W.rangeAt hb' (off + k * 68) hv.toList) := fun W hW => by rw [Hhv.out.l]; exact F W (keep_trans HKr.out hW)
        obtain ⟨cs2, hcs2⟩ : ∃ cs2 : Array Value, cs2.toList = stCells (.slice A2 B.length c2) (.slice PA2 ws2.length pc2) base (room : Int) (all.length : Nat) (lastL 0 z32 all) ep := ⟨_, rfl⟩
        have hcA := StA.of (lastL_len all 0 z32 rfl) hcs2
        have hcz2 := hcA.z; have hcn2 := hcA.n; have hci2 := hcA.i
        have HcA := Lib.hid hcA
        have HBP : Hid (Blk wr P 38 cs2.toList) := by rw [hcs2]; exact HL.out.blk
        have hXl : Hid (∀ q, (q = P ∨ (Value.slice Ag all.length cg).ownBlock = some q) → q < wr.heap.size) := fun q e => e.elim (fun e => by omega) (fun e => (Own.out.lt _ e).2)
        have hgb := HL.out.good.bnd
        have A1 : Hid (∀ y, Keep wr y → Calls Tryd.prog 22 #[.agg cs2, .agg hv] y fun e w' => ∃ A' c' PA' pc' vs ss' er n last, e = .returned (.tuple #[.agg ss', .int .i64 er]) ∧ AppU B (ws2.map WriteR.pl) (vs.map WriteR.pl) base room all x er n last ∧
            StA (stCells (.slice A' B.length c') (.slice PA' vs.length pc') base room n last ep) ss' ∧ (∀ W, MidF (Fr 0 (fun q => q = P ∨ (Value.slice Ag all.length cg).ownBlock = some q) wr) y w' W → DOk W A' B c' PA' vs pc') ∧ Keep y w') := fun y hy =>
          sapp_w A2 B c2 PA2 ws2 pc2 base room all ep cs2 x hv y (Fr 0 (fun q => q = P ∨ (Value.slice Ag all.length cg).ownBlock = some q) wr) (fun W hW => Fr.of_keep (keep_trans hy hW)) HL.out.dok (HS.out.keep (keep_trans HKr.out hy)) (by omega) HL.out.good.inv HcA.out Hx.out Hhv.out
        clear F hhv hx hcA hcs2 hxe hgb htk
        go_upto_region 8 with fail
        go_cut [15, 16] (fun s11 s12 wx => ∃ p er A5 c5 PA5 vs pc5 n5 l5 ds, s11 = .pointer (some ⟨p, 0, none⟩) ∧ s12 = .int .i64 er ∧ wr.heap.size ≤ p ∧ Hid (Keep wr wx) ∧ Hid (SaP (fun q => q = P ∨ (Value.slice Ag all.length cg).ownBlock = some q) B ep base room all x ws2 p er wx A5 c5 PA5 vs pc5 n5 l5 ds))
        case first =>
          refine wp_region_tree (.take [0,1,2,3,4] (.fork 5 (.take [6,7,8] (.force [9] .done)) 9 (.force [5] (.take [6,7,8] .done)))) [10,11] (by kernel_rfl) (by kernel_rfl) (fun y0 hk => ?_)
          have Q := Lib.hid hk
          clear hk
          refine mt_take y0 (Below.refl _ _) ?_
          simp only [pick_cons, pick_nil, nth_zero, nth_succ]
          have HB0 := Lib.hid (HBP.out.keep Q.out)
          have hrg0 := Lib.hid (HF.out y0 Q.out)
          (with_reducible refine wpQuiet_load_partgS P 0 cs2 (Eq.trans ?_ rfl) HB0.out.rangeS _ Tryd.underlying38 rfl hci2 rfl ?_)
          rfl
          simp only [Act.put, Array.set!_eq_setIfInBounds, List.setIfInBounds_toArray, List.set_cons_succ, List.set_cons_zero]
          iterate 3 (go_big_quiet_step (fail))
          (with_reducible refine wpQuiet_load_partgS hb' (off + k * 68) hv (Eq.trans ?_ rfl) hrg0.out _ Tryd.underlying65 rfl hvi rfl ?_)
          rfl
          simp only [Act.put, Array.set!_eq_setIfInBounds, List.setIfInBounds_toArray, List.set_cons_succ, List.set_cons_zero]
          clear HB0 hrg0
          refine wpQuiet_nil (mt_fork ?_ ?_)
          · simp only [pick_cons, pick_nil, nth_zero, nth_succ]
            refine fc_step rfl (fun K hK => ?_)
            go_simp
            (with_reducible refine (A1.out y0 Q.out).mono ?_)
            rintro e y1 ⟨A5, c5, PA5, pc5, vs, ds, er, n5, l5, rfl, hap, hds, hd5, hk⟩
            refine hK _ _ hk ?_
            clear hK K
            have HQ5 : wr.heap.size ≤ y0.heap.size := Q.out.size
            have Hprev := Q
            replace Q := Lib.hid (keep_trans Q.out hk)
            have hs_y1 : y0.heap.size ≤ y1.heap.size := hk.size
            have hdz := hds.z; have hdn := hds.n; have hdi := hds.i
            have Hap := Lib.hid hap; have Hds := Lib.hid hds; have Hd5 := Lib.hid hd5
            have HKK5 : Hid (Keep y1 y1) := Below.refl _ _
            have HQK : Hid (Keep wr y0) := Hprev
            clear hap hds hd5
            clear hk
            refine fc_nil (mt_take y1 (Below.refl _ _) ?_)
            simp only [pick_cons, pick_nil, nth_zero, nth_succ]
            repeat (go_big_quiet_step (fail))
            refine wpQuiet_nil (mt_force ?_)
            simp only [pick_cons, pick_nil, nth_zero, nth_succ]
            refine fc_step rfl (fun K hK => ?_)
            go_simp
            refine hK _ _ (keep_new _ _) ?_
            clear hK K
            obtain ⟨y2, hy⟩ : ∃ y2, y2 = y1.alloc (.cells zs 38) := ⟨_, rfl⟩
            have HP9 : Hid (Blk y2 y1.heap.size 38 zs.toList) := by rw [hy]; exact Blk.new y1 _ zs.toList
            have hk : Keep y1 y2 := by rw [hy]; exact keep_new _ _
            rw [← hy]
            clear hy
            have HP9s : y1.heap.size < y2.heap.size := HP9.out.lt
            have HP9n := Q.out.size
            replace Q := Lib.hid (keep_trans Q.out hk)
            have hs_y2 : y1.heap.size ≤ y2.heap.size := hk.size
            replace HKK5 := Lib.hid (keep_trans HKK5.out hk)
            clear hk
            generalize hp : y1.heap.size = p9 at *
            have HP9a : y1.heap.size ≤ p9 := Nat.le_of_eq hp
            have HP9b : p9 ≤ y1.heap.size := Nat.le_of_eq hp.symm
            clear hp
            refine fc_nil (mt_end ?_)
            obtain ⟨wa, hsta, hba, hga⟩ := run_store_blk (P := Tryd.prog) ds.toList HP9.out (by simp [hz1, hdz]) Hds.out.o
            have Hba := Lib.hid hba; have Hga := Lib.hid hga
            have hPl := HP9.out.lt; have hga1 := hga.size; have hQs := Q.out.size; have hKs := HKK5.out.size; have hQK := HQK.out.size
            clear hba hga
            go_wp2
            go_meet
            refine ⟨p9, er, A5, c5, PA5, vs, pc5, n5, l5, ds, rfl, rfl, by omega, Lib.hid (Q.out.grown Hga.out (by omega) (fun q hq => by injection hq with hq; omega)), Lib.hid ⟨Hba.out, Hds.out, Hap.out, app_frS Hd5.out HQK.out hXl.out (by omega) (by omega) (fun q h1 h2 => ?_) (fun q h1 h2 => ?_)⟩⟩
            · exact (Hga.out.block q (by omega) (fun e => by have e2 : q = p9 := Option.some.inj e; omega)).trans (Q.out.block q h1)
            · exact (Hga.out.block q (by omega) (fun e => by have e2 : q = p9 := Option.some.inj e; omega)).trans (HKK5.out.block q h2)
          · simp only [pick_cons, pick_nil, nth_zero, nth_succ]
            refine fc_step rfl (fun K hK => ?_)
            go_simp
            refine hK _ _ (keep_new _ _) ?_
            clear hK K
            obtain ⟨y3, hy⟩ : ∃ y3, y3 = y0.alloc (.cells zs 38) := ⟨_, rfl⟩
            have HP9 : Hid (Blk y3 y0.heap.size 38 zs.toList) := by rw [hy]; exact Blk.new y0 _ zs.toList
            have hk : Keep y0 y3 := by rw [hy]; exact keep_new _ _
            rw [← hy]
            clear hy
            have HP9s : y0.heap.size < y3.heap.size := HP9.out.lt
            have HP9n := Q.out.size
            replace Q := Lib.hid (keep_trans Q.out hk)
            have hs_y3 : y0.heap.size ≤ y3.heap.size := hk.size
            clear hk
            generalize hp : y0.heap.size = p9 at *
            have HP9a : y0.heap.size ≤ p9 := Nat.le_of_eq hp
            have HP9b : p9 ≤ y0.heap.size := Nat.le_of_eq hp.symm
            clear hp
            refine fc_nil (mt_force ?_)
            simp only [pick_cons, pick_nil, nth_zero, nth_succ]
            refine fc_step rfl (fun K hK => ?_)
            go_simp
            (with_reducible refine (A1.out y3 Q.out).mono ?_)
            rintro e y4 ⟨A5, c5, PA5, pc5, vs, ds, er, n5, l5, rfl, hap, hds, hd5, hk⟩
            refine hK _ _ hk ?_
            clear hK K
            have HQ5 : wr.heap.size ≤ y3.heap.size := Q.out.size
            have Hprev := Q
            replace Q := Lib.hid (keep_trans Q.out hk)
            have hs_y4 : y3.heap.size ≤ y4.heap.size := hk.size
            replace HP9 := Lib.hid (HP9.out.keep hk)
            have hdz := hds.z; have hdn := hds.n; have hdi := hds.i
            have Hap := Lib.hid hap; have Hds := Lib.hid hds; have Hd5 := Lib.hid hd5
            have HKK5 : Hid (Keep y4 y4) := Below.refl _ _
            have HQK : Hid (Keep wr y3) := Hprev
            clear hap hds hd5
            clear hk
            refine fc_nil (mt_take y4 (Below.refl _ _) ?_)
            simp only [pick_cons, pick_nil, nth_zero, nth_succ]
            repeat (go_big_quiet_step (fail))
            refine wpQuiet_nil (mt_end ?_)
            obtain ⟨wa, hsta, hba, hga⟩ := run_store_blk (P := Tryd.prog) ds.toList HP9.out (by simp [hz1, hdz]) Hds.out.o
            have Hba := Lib.hid hba; have Hga := Lib.hid hga
            have hPl := HP9.out.lt; have hga1 := hga.size; have hQs := Q.out.size; have hKs := HKK5.out.size; have hQK := HQK.out.size
            clear hba hga
            go_wp2
            go_meet
            refine ⟨p9, er, A5, c5, PA5, vs, pc5, n5, l5, ds, rfl, rfl, by omega, Lib.hid (Q.out.grown Hga.out (by omega) (fun q hq => by injection hq with hq; omega)), Lib.hid ⟨Hba.out, Hds.out, Hap.out, app_frS Hd5.out HQK.out hXl.out (by omega) (by omega) (fun q h1 h2 => ?_) (fun q h1 h2 => ?_)⟩⟩
            · exact (Hga.out.block q (by omega) (fun e => by have e2 : q = p9 := Option.some.inj e; omega)).trans (Q.out.block q h1)
            · exact (Hga.out.block q (by omega) (fun e => by have e2 : q = p9 := Option.some.inj e; omega)).trans (HKK5.out.block q h2)
        case rest =>
          obtain ⟨p, er, A5, c5, PA5, vs, pc5, n5, l5, ds, rfl, rfl, hp1, Kwc, HP⟩ := hcut
          have HKc := Lib.hid (keep_trans HKr.out Kwc.out)
          have hpc : p < wc.heap.size := HP.out.blk.lt
          have HBPc := Lib.hid (HBP.out.keep Kwc.out)
          have Ownc := Lib.hid (own_keep Own.out Kwc.out)
          have hzwc : wr.heap.size ≤ wc.heap.size := Kwc.out.size
          have hdz := HP.out.sta.z; have hdn := HP.out.sta.n; have hdi := HP.out.sta.i
          clear A1 HF HBP
          by_cases he : er = 0
          · subst he
            obtain ⟨hn5, hl5, hinv, hap⟩ := HP.out.app.ok rfl
            have Hg5 := Lib.hid (HL.out.good.app hinv hap Hx.out)
            have Hap := Lib.hid hap
            have Hds : Hid (StA (stCells (.slice A5 B.length c5) (.slice PA5 vs.length pc5) base room ((all ++ [x]).length : Nat) (lastL 0 z32 (all ++ [x])) ep) ds) := by
              have h1 := HP.out.sta
              rw [hn5, hl5] at h1; exact h1
            have Hdok := Lib.hid HP.out.dok; have HPb := Lib.hid HP.out.blk
            skip
            clear hinv hap hn5 hl5 HP
            obtain ⟨w6, hst6, hb6, hg6⟩ := run_store_blk (P := Tryd.prog) ds.toList HBPc.out (by simp [hcz2, hdz]) Hds.out.o
            have Hb6 := Lib.hid hb6; have Hg6 := Lib.hid hg6
            have K6 : Hid (Keep w w6) := HKc.out.grown hg6 HKc.out.size (fun q hq => by injection hq with hq; omega)
            have Own6 := Lib.hid (Ownc.out.kept hg6 (.inr (fun e => HoP2.out e)))
            have hz6 : wc.heap.size ≤ w6.heap.size := hg6.size
            clear hb6 hg6
            go_upto_region 11 with ((with_reducible refine load_arr p ds (Eq.trans ?_ rfl) HPb.out _ Tryd.underlying38 rfl hdi ?_); rfl)
            clear hst6
            have hrg6 := Lib.hid (HFw.out w6 K6.out)
            have HQ6 : Hid (Blk (w6.alloc (.cells hv 65)) w6.heap.size 65 hv.toList) := Blk.new w6 _ hv.toList
            have Own6a : Hid ((w6.alloc (.cells hv 65)).ownsRow w3.heap.size 65 68 (.slice Ag all.length cg) all.length (all.flatMap Hd.cells)) := Own6.out.alloc _
            have hb6' : w3.heap.size ≤ (w6.alloc (.cells hv 65)).heap.size := by simp; omega
            go_upto_region 7 with (first
              | ((with_reducible refine load_part hb' (off + k * 68) hv (Eq.trans ?_ rfl) hrg6.out _ Tryd.underlying65 rfl hvi ?_); rfl)
              | ((with_reducible refine list_build1S headT hv hvz (by omega) (Eq.trans ?_ rfl) ?_); rfl)
              | (at_builtin; refine wpList_app headT (by rfl) _ _ (by rfl) w3.heap.size _ all.length _ (by rfl) Own6a.out _ 1 1 hv.toList (by rfl) (by rw [Array.length_toList, hvz]) HQ6.out.rd Hhv.out.o (by omega) (by unfold maxLen; omega) hb6' ?_; intro v7 w7 own7 hg7 hat7; have Own7 := Lib.hid own7; have Hg7 := Lib.hid hg7; have Hat7 := Lib.hid hat7; clear own7 hg7 hat7))
            obtain ⟨Ag7, cg7, rfl, hcg7, hmg7, _⟩ := own_form Own7.out
            have hz7 : w6.heap.size + 1 ≤ w7.heap.size := by have h1 := Hg7.out.size; simpa using h1
            have hln : (all ++ [x]).length = all.length + 1 := by rw [List.length_append, List.length_singleton]
            have K7 : Hid (Keep w w7) := (keep_trans K6.out (keep_new _ _)).grown Hg7.out (by simp; have := K6.out.size; omega) (fun q hq => by have h1 := (Own6a.out.lt q hq).1; omega)
            have HoP7 : Hid ((Value.slice Ag7 (all.length + 1) cg7).ownBlock ≠ some P) := fun e => by
              rcases Hat7.out with h1 | h1
              · exact HoP2.out (h1.symm.trans e)
              · have e2 : (w6.alloc (.cells hv 65)).heap.size = P := Option.some.inj (h1.symm.trans e)
                simp at e2; omega
            have Own8 : Hid (w7.ownsRow w3.heap.size 65 68 (.slice Ag7 (all.length + 1) cg7) (all.length + 1) ((all ++ [x]).flatMap Hd.cells)) := by
              have h1 := Own7.out
              rw [Hhv.out.l] at h1
              rw [List.flatMap_append, List.flatMap_singleton]; exact h1
            have hBP7 : Blk w7 P 38 ds.toList := (Hb6.out.alloc _).grown Hg7.out HoP2.out
            have L7 : Hid (SgS (fun q => q = P ∨ (Value.slice Ag7 (all.length + 1) cg7).ownBlock = some q) w7 P B ep base room L0 (all ++ [x]) (4 * (k + 1)) A5 c5 PA5 vs pc5) := by
              rw [Hds.out.l] at hBP7
              refine ⟨hBP7, Hg5.out, ?_, fun W hW => Hdok.out W fun q q1 q2 q3 => ?_⟩
              · have h1 := congrArg List.length Hap.out.eq
                rw [List.length_append, List.length_map, List.length_map, show (layWs (base.toNat + 4 * all.length : Nat) (recB (lastL 0 z32 all) all.length x) 4).length = 4 by simp [layWs]] at h1
                have := HL.out.len; omega
              · have n1 : q ≠ P := fun e => q3 (.inl e)
                have n2 : (Value.slice Ag all.length cg).ownBlock ≠ some q := fun e => q3 (.inr e)
                have n3 : (Value.slice Ag7 (all.length + 1) cg7).ownBlock ≠ some q := fun e => by
                  rcases Hat7.out with h1 | h1
                  · exact n2 (h1.symm.trans e)
                  · have e2 : (w6.alloc (.cells hv 65)).heap.size = q := Option.some.inj (h1.symm.trans e)
                    simp at e2; omega
                rw [hW q (Nat.zero_le _) (by omega) (fun e => e.elim n1 n3), Hg7.out.block q (by simp; omega) (fun e => n2 e.symm), (keep_new w6 (.cells hv 65)).block q (by omega)]
                exact Hg6.out.block q q2 (fun e => n1 (Option.some.inj e))
            have Hok8 : Hid (∀ y ∈ all ++ [x], y.ok) := fun y hy => by
              rcases List.mem_append.1 hy with hy | hy
              · exact Hok2.out y hy
              · rw [List.mem_singleton.1 hy]; exact Hx.out
            have HInv7 : Hid True := Lib.hid trivial
            clear hBP7 HL Hb6 Hg6 Own7 Hg7 Hat7 Own6 Own6a HQ6 hrg6 HPb Hdok
            go_wp2
            go_roundw
            case rel => exact ⟨k + 1, A5, c5, PA5, vs, pc5, all ++ [x], Ag7, cg7, by omega, by go_num, by rw [hln], by rw [hln]; exact L7, by rw [hln]; exact Own8, Hok8, by rw [hln]; exact HoP7, K7, Lib.hid trivial⟩
            case measure => simp [intOf]; omega
          · have hne : (er == 0) = false := by simp [he]
            obtain ⟨her, _, _, _⟩ := HP.out.app.no he
            have L7 : Hid (SgS (fun q => q = P ∨ (Value.slice Ag all.length cg).ownBlock = some q) wc P B ep base room L0 all (4 * (k + 1)) A2 c2 PA2 ws2 pc2) := ⟨HL.out.blk.keep Kwc.out, HL.out.good, by have := HL.out.len; omega, fun W hW => HL.out.dok W (hW.keep Kwc.out)⟩
            have Hap := Lib.hid HP.out.app
            have Hne := Lib.hid he
            have HInv7 : Hid True := Lib.hid trivial
            clear HP HL he her
            go_wp2
            go_roundw
            case rel => exact ⟨k + 1, A2, c2, PA2, ws2, pc2, all, Ag, cg, by omega, by go_num, rfl, L7, Ownc, Hok2, HoP2, HKc, Lib.hid trivial⟩
            case measure => simp [intOf]; omega
      · have hnl : ¬ ((k : Int) < (gl.length : Int)) := by omega

        have hl9 : (lastL 0 z32 all).length = 32 := lastL_len all 0 z32 rfl
        obtain ⟨cs9, hcs9⟩ : ∃ cs9 : Array Value, cs9.toList = stCells (.slice A2 B.length c2) (.slice PA2 ws2.length pc2) base (room : Int) (all.length : Nat) (lastL 0 z32 all) ep := ⟨_, rfl⟩
        have hcA9 := StA.of hl9 hcs9
        have h9z := hcA9.z; have h9n := hcA9.n; have h9i := hcA9.i
        have HBP9 : Hid (Blk wr P 38 cs9.toList) := by rw [hcs9]; exact HL.out.blk
        have hgb9 := HL.out.good.bnd
        have C9 := ssync_w A2 B c2 PA2 ws2 pc2 base room all ep cs9 wr (HL.out.dok wr (Fr.of_keep (Below.refl _ _))) (HS.out.keep HKr.out) (by omega) HL.out.good.inv hcA9
        clear hcA9 hcs9 HInv
        go_wp2_with ((with_reducible refine load_arr P cs9 (Eq.trans ?_ rfl) HBP9.out _ Tryd.underlying38 rfl h9i ?_); rfl)
        refine C9.mono ?_
        clear C9
        rintro e wa ⟨Bq, Aq, cq, ds, hBq, rfl, hds, hinv, hdq, ka⟩
        have hdz := hds.z; have hdn := hds.n; have hdi := hds.i
        have hGq : GoodW Bq [] ep base room all L0 := by rw [hBq]; exact HL.out.good.sync
        have hBql : Bq.length = B.length := by rw [hBq]; exact bytesQ_len _ _ HL.out.good.san
        have hRq : Bq = [] ∨ room = roomS ((Bq.length / 32 : Nat) : Int) := by
          rcases Hrm.out with e | e
          · exact .inl (List.eq_nil_of_length_eq_zero (by rw [hBql, e]; rfl))
          · exact .inr (by rw [hBql]; exact e)
        have HGq := Lib.hid hGq; have HRq := Lib.hid hRq; have Hds := Lib.hid hds; have Hdq := Lib.hid hdq
        have HBPa := Lib.hid (HBP9.out.keep ka); have Owna := Lib.hid (own_keep Own.out ka)
        have HKa := Lib.hid (keep_trans HKr.out ka)
        have hza : wr.heap.size ≤ wa.heap.size := ka.size
        obtain ⟨wb, hst, hbb, hgb⟩ := run_store_blk (P := Tryd.prog) ds.toList HBPa.out (by simp [h9z, hdz]) Hds.out.o
        have HPb := Lib.hid hbb
        have HKb : Hid (Keep w wb) := HKa.out.grown hgb HKa.out.size (fun q hq => by injection hq with hq; omega)
        have Ownb := Lib.hid (Owna.out.kept hgb (.inr (fun e => HoP2.out e)))
        have hzb : wa.heap.size ≤ wb.heap.size := hgb.size
        have Hdb : Hid (∀ W, Fr 0 (fun _ => False) wb W → DOk W Aq Bq cq none [] 0) := Lib.hid fun W hW => Hdq.out W (fun q q1 q2 q3 => (hW q (Nat.zero_le _) (by omega) (fun e => e)).trans (hgb.block q q2 (fun e => by have e2 : q = P := Option.some.inj e; omega)))
        clear hinv hGq hRq ka hBq hdq hBql hbb hgb hds HBPa Owna HKa Own HL L5 Own5 HBP9 Hdq
        go_upto_region 13 with fail
        clear hst
        have hgbq := HGq.out.bnd
        obtain ⟨hn1, hn2⟩ := Hn.out
        obtain ⟨CE, hCE⟩ : ∃ CE, compE Bq [] base room ep kl = CE := ⟨_, rfl⟩
        have S1 := stop_w Aq Bq cq base room all ep ds L0 Ak kl ck n Bp plan cp wb Hdb.out (HS.out.keep HKb.out) HGq.out HRq.out Hds.out (by omega) (Hk.out.keep HKb.out) Hko.out ⟨hn1, hn2⟩ (Hp.out.keep HKb.out) (by omega)
        rw [hCE] at S1
        have HCE := Lib.hid hCE
        clear hCE
        go_wp2_with ((with_reducible refine load_arr P ds (Eq.trans ?_ rfl) HPb.out _ Tryd.underlying38 rfl hdi ?_); rfl)
        refine S1.mono ?_
        clear S1
        rintro e wc ⟨Ac, cc, C, rfl, kc, hdc, hno, hyes⟩
        have Hdc := Lib.hid hdc; have Hno := Lib.hid hno; have Hyes := Lib.hid hyes
        have HKc := Lib.hid (keep_trans HKb.out kc); have HPc := Lib.hid (HPb.out.keep kc); have Ownc := Lib.hid (own_keep Ownb.out kc)
        have hzc : wb.heap.size ≤ wc.heap.size := kc.size
        have HD1 : Hid (∀ W, Keep wc W → DOk W Aq Bq cq none [] 0) := Lib.hid fun W hW => Hdb.out W (Fr.of_keep (keep_trans kc hW))
        clear hdc hno hyes kc HPb Ownb Hdb
        go_upto_region 14 with fail
        obtain ⟨we, hwe⟩ : ∃ we, we = wc.alloc (.cells #[.slice Ac C.length cc, .slice none 0 0] 32) := ⟨_, rfl⟩
        have HDe : Hid (Blk we wc.heap.size 32 [.slice Ac C.length cc, .slice none 0 0]) := by rw [hwe]; exact Blk.new wc _ [.slice Ac C.length cc, .slice none 0 0]
        have ke : Keep wc we := by rw [hwe]; exact keep_new _ _
        rw [← hwe]
        clear hwe
        have HKe := Lib.hid (keep_trans HKc.out ke); have HPe := Lib.hid (HPc.out.keep ke); have Owne := Lib.hid (own_keep Ownc.out ke)
        have hze : wc.heap.size < we.heap.size := HDe.out.lt
        have Hde : Hid (∀ W, Keep we W → DOk W Ac C cc none [] 0) := Lib.hid fun W hW => Hdc.out W (keep_trans ke hW)
        have O1 := sopen_w Ac C cc none [] 0 we (Hde.out we (Below.refl _ _)) (HS.out.keep HKe.out) (by decide)
        have d0 := HDe.out.cell 0; have d1 := HDe.out.cell 1
        simp only [List.getElem?_cons_zero, List.getElem?_cons_succ] at d0 d1
        generalize wc.heap.size = DB at *
        have HD2 : Hid (∀ W, Keep we W → DOk W Aq Bq cq none [] 0) := Lib.hid fun W hW => HD1.out W (keep_trans ke hW)
        clear ke HPc Ownc Hdc HD1
        go_wp2_with fail
        refine O1.mono ?_
        clear O1 d0 d1
        rintro e wf ⟨epo, bso, rmo, Bo, ho, Ao, co, cso, Aho, cho, rfl, Ro, hcso, _, owno, hoko, kf⟩
        have HX : Hid (CE ≠ 0 ∧ epo = ep ∧ ho = all ∨ CE = 0 ∧ C.length = Bq.length ∧ 4 ≤ Bq.length / 32 ∧ ((epo = ep ∧ ho = all) ∨ (epo = ep + 1 ∧ ho = kl) ∨ ((takeS (slotB C (slt Bq))).2.2 = true ∧ slotB C (slt Bq) ≠ supB (ep + 1) (1 - (lookB Bq).2.1)))) := by
          by_cases he : CE = 0
          · have h4 : 4 ≤ Bq.length / 32 := by
              have h1 := HCE.out
              unfold compE at h1
              split at h1
              · rename_i h2; exact (mayS_zero h2).2.2.2.2.2
              · rename_i h2; exact absurd (h1.trans he) h2
            have hr1 : room = roomS ((Bq.length / 32 : Nat) : Int) := HRq.out.resolve_left (fun e => by rw [e] at h4; exact absurd h4 (by decide))
            have h5 := (HGq.out.good hr1).stop (HCE.out.trans he) Hko.out plan _ (Hyes.out he) Ro
            exact .inr ⟨he, h5.1, h4, h5.2⟩
          · have h1 := Hno.out he
            rw [h1] at Ro
            have h2 := HGq.out.again HRq.out Ro
            exact .inl ⟨he, h2.2.1, h2.1⟩
        have hoz := hcso.z; have hon := hcso.n; have hoi := hcso.i
        have Hcso := Lib.hid hcso; have Howno := Lib.hid owno; have Hoko := Lib.hid hoko
        have HKf := Lib.hid (keep_trans HKe.out kf); have HPf := Lib.hid (HPe.out.keep kf); have Ownf := Lib.hid (own_keep Owne.out kf); have HDf := Lib.hid (HDe.out.keep kf); have Hdf : Hid (∀ W, Keep wf W → DOk W Ac C cc none [] 0) := Lib.hid fun W hW => Hde.out W (keep_trans kf hW)
        have hst : (storeCells ⟨wf.heap.size, 0, none⟩ cso.toList 0).run Tryd.prog (wf.alloc (.cells zs 38)) = .ok () (wf.alloc (.cells cso 38)) := run_storeCells_new (P := Tryd.prog) wf 38 zs cso hoi (hz1.trans hoz.symm) (by have := all_oneCell_toArray Hcso.out.o; rwa [Array.toArray_toList] at this)
        have hzf : we.heap.size ≤ wf.heap.size := kf.size
        have HEo : Hid (0 ≤ epo ∧ epo ≤ 2147483647) := by
          have h1 := Ro.epE; have h2 := (look_told (bytesQ C (List.map WriteR.pl []))).e
          rw [← h1] at h2; exact Lib.hid h2
        have hrom : ho.length ≤ 1024 := by have h1 := Ro.R.fnd.fit; have h2 := roomS_le ((C.length / 32 : Nat) : Int); rw [← Ro.roomE] at h2; rw [roomN_nat h2] at h1; omega
        have HD3 : Hid (∀ W, Keep wf W → DOk W Aq Bq cq none [] 0) := Lib.hid fun W hW => HD2.out W (keep_trans kf hW)
        clear hcso owno hoko kf Ro Hno Hyes HCE HPe Owne HDe Hde HD2
        go_upto_region 15 with fail
        clear hst
        obtain ⟨wg, hwg⟩ : ∃ wg, wg = wf.alloc (.cells cso 38) := ⟨_, rfl⟩
        have HOg : Hid (Blk wg wf.heap.size 38 cso.toList) := by rw [hwg]; exact Blk.new wf _ cso.toList
        have kg : Keep wf wg := by rw [hwg]; exact keep_new _ _
        rw [← hwg]
        clear hwg
        have HKg := Lib.hid (keep_trans HKf.out kg); have HPg := Lib.hid (HPf.out.keep kg); have HDg := Lib.hid (HDf.out.keep kg)
        have Hall := Lib.hid (own_rd (own_keep Ownf.out kg)); have Hho := Lib.hid (own_rd (own_keep Howno.out kg)); have Hkg := Lib.hid (Hk.out.keep HKg.out)
        have Hdg : Hid (∀ W, Keep wg W → DOk W Ac C cc none [] 0) := Lib.hid fun W hW => Hdf.out W (keep_trans kg hW)
        generalize wf.heap.size = OB at *
        have HD4 : Hid (∀ W, Keep wg W → DOk W Aq Bq cq none [] 0) := Lib.hid fun W hW => HD3.out W (keep_trans kg hW)
        clear kg HPf HDf Ownf Howno Hdf HD3
        have hPs : Blk wg P 38 (stCells (.slice Aq Bq.length cq) (.slice none 0 0) base (room : Int) (all.length : Nat) (lastL 0 z32 all) ep) := by rw [← Hds.out.l]; exact HPg.out
        have hOs := HOg.out
        rw [Hcso.out.l] at hOs
        obtain ⟨s0, s1, _, _, _, s5⟩ := st_d hl9 hPs
        obtain ⟨_, _, _, _, _, o5⟩ := st_d (lastL_len ho 0 z32 rfl) hOs
        have SA0 := Lib.hid s0; have SA1 := Lib.hid s1; have SA5 := Lib.hid s5; have OA5 := Lib.hid o5
        have T1 : Hid (∀ y, Keep wg y → Calls Tryd.prog 18 #[.slice Aho ho.length cho, .slice Ag all.length cg] y fun e w' => e = .returned (.bool (decide (ho = all))) ∧ Keep y w') := fun y hy =>
          hsame_any Aho ho cho Ag all cg y (Hho.out.keep hy) (Hall.out.keep hy) Hoko.out Hok2.out (by omega) (by omega)
        have T2 : Hid (∀ y, Keep wg y → Calls Tryd.prog 18 #[.slice Aho ho.length cho, .slice Ak kl.length ck] y fun e w' => e = .returned (.bool (decide (ho = kl))) ∧ Keep y w') := fun y hy =>
          hsame_any Aho ho cho Ak kl ck y (Hho.out.keep hy) (Hkg.out.keep hy) Hoko.out Hko.out (by omega) (by omega)
        clear s0 s1 s5 o5 hPs hOs
        by_cases he : CE = 0
        · obtain ⟨hlC, h4, hX⟩ : C.length = Bq.length ∧ 4 ≤ Bq.length / 32 ∧ ((epo = ep ∧ ho = all) ∨ (epo = ep + 1 ∧ ho = kl) ∨ ((takeS (slotB C (slt Bq))).2.2 = true ∧ slotB C (slt Bq) ≠ supB (ep + 1) (1 - (lookB Bq).2.1))) := HX.out.elim (fun h => absurd he h.1) (fun h => h.2)
          have hd : (CE != 0) = false := by simp [he]
          have hsq : saneP Bq.length [] = true := HGq.out.san
          have hsC : saneP C.length [] = true := by rw [hlC]; exact hsq
          have h128 : 128 ≤ C.length := by omega
          obtain ⟨g1, g2, g3, g4, g5, g6⟩ := hgbq
          have hEp : 0 ≤ epo ∧ epo ≤ 2147483648 := by
            have hE := HEo.out
            omega
          obtain ⟨gE1, gE2⟩ := hEp
          obtain ⟨V, hV⟩ : ∃ V, decide ((epo = ep ∧ ho = all) ∨ (epo = ep + 1 ∧ ho = kl)) = V := ⟨_, rfl⟩
          have HV := Lib.hid hV
          have S1 : Hid (∀ y, Keep wg y → Calls Tryd.prog 17 #[DV Aq Bq.length cq none 0 0] y fun e w' => e = .returned (.int .i64 (lookB Bq).2.2) ∧ Keep y w') := fun y hy => by
            have h1 := slot_any Aq Bq cq none [] 0 y (HD4.out y hy) (HS.out.keep (keep_trans HKg.out hy))
            rw [bytesD_Q, List.map_nil, bytesQ_nil hsq] at h1
            exact h1
          have F1 : Hid (∀ y, Keep wg y → Calls Tryd.prog 21 #[DV Aq Bq.length cq none 0 0] y fun e w' => e = .returned (.tuple #[.int .i64 (lookB Bq).1, .int .i64 (lookB Bq).2.1]) ∧ Keep y w') := fun y hy => by
            have h1 := find_any Aq Bq cq none [] 0 y (HD4.out y hy) (HS.out.keep (keep_trans HKg.out hy))
            rw [bytesD_Q, List.map_nil, bytesQ_nil hsq] at h1
            exact h1
          have K1 : Hid (∀ (k : Nat) y (Aw : Option Addr) want cw, k ≤ 1 → Keep wg y → (takeS (slotB C k)).2.2 = true → slotB C k ≠ want → want.length = 64 → Rd y Aw (want.map u8v) → Calls Tryd.prog 27 #[DV Ac C.length cc none 0 0, .int .i64 k, .slice Aw 64 cw] y fun e w' => e = .returned (.bool true) ∧ Keep y w') := fun k y Aw want cw hk hy q1 q2 q3 q4 =>
            checks_yes Ac C cc k hk Aw want cw y (Hdg.out y hy) hsC h128 (HS.out.keep (keep_trans HKg.out hy)) q3 q4 q1 q2
          have hT := look_told Bq
          have hTr := hT.r
          have HXX := Lib.hid hX
          clear he HX hX hV hlC h4 hsq hsC h128 HGq HRq Hdg HD4 hT
          have hslt : Hid (slt Bq = if (lookB Bq).2.2 = 0 then 1 else 0) := rfl
          generalize slt Bq = sl at *
          generalize lookB Bq = LB at *
          obtain ⟨l1, l2, l3⟩ := LB
          simp only at hslt hTr HXX S1 F1
          have a5 := aft_cell SA5.out; have b5 := aft_cell OA5.out
          go_upto_region 17 with fail
          go_cut [133] (fun v wx => v = .bool V ∧ Hid (Keep wg wx))
          case first =>
            by_cases q1 : epo = ep
            · have e1 : (epo == ep) = true := by simp [q1]
              have e3 : (epo == ep + 1) = false := by rw [beq_eq_false_iff_ne]; omega
              by_cases q2 : ho = all
              · obtain rfl : V = true := by rw [← HV.out]; exact decide_eq_true (.inl ⟨q1, q2⟩)
                have T1' : ∀ y, Keep wg y → Calls Tryd.prog 18 #[.slice Aho ho.length cho, .slice Ag all.length cg] y fun e w' => e = .returned (.bool true) ∧ Keep y w' := fun y hy => by
                  have h1 := T1.out y hy
                  rw [decide_eq_true q2] at h1; exact h1
                clear q1 q2
                refine wp_region_plainqT wg (Below.refl _ _) ?_
                try simp only [List.append_eq, List.cons_append, List.nil_append]
                repeat (go_big_quiet_step (first | (go_at_call 18; exact quiet_aft (v := .bool true) (T1' (aft wg _) (aft_keep wg _)))))
                refine wpQuiet_nil ?_
                rintro _ ⟨y, rfl⟩
                have j := aft_keep wg y
                generalize aft wg y = wz at j ⊢
                clear a5 b5
                go_wp2
                go_meet
                exact ⟨rfl, Lib.hid j⟩
              · obtain rfl : V = false := by rw [← HV.out]; exact decide_eq_false (by rintro (⟨_, h⟩ | ⟨h, _⟩); exact q2 h; omega)
                have T1' : ∀ y, Keep wg y → Calls Tryd.prog 18 #[.slice Aho ho.length cho, .slice Ag all.length cg] y fun e w' => e = .returned (.bool false) ∧ Keep y w' := fun y hy => by
                  have h1 := T1.out y hy
                  rw [decide_eq_false q2] at h1; exact h1
                clear q1 q2
                refine wp_region_plainqT wg (Below.refl _ _) ?_
                try simp only [List.append_eq, List.cons_append, List.nil_append]
                repeat (go_big_quiet_step (first | (go_at_call 18; exact quiet_aft (v := .bool false) (T1' (aft wg _) (aft_keep wg _)))))
                refine wpQuiet_nil ?_
                rintro _ ⟨y, rfl⟩
                have j := aft_keep wg y
                generalize aft wg y = wz at j ⊢
                clear a5 b5
                go_wp2
                go_meet
                exact ⟨rfl, Lib.hid j⟩
            · have e1 : (epo == ep) = false := by rw [beq_eq_false_iff_ne]; exact q1
              by_cases q3 : epo = ep + 1
              · have e3 : (epo == ep + 1) = true := by simp [q3]
                by_cases q2 : ho = kl
                · obtain rfl : V = true := by rw [← HV.out]; exact decide_eq_true (.inr ⟨q3, q2⟩)
                  have T2' : ∀ y, Keep wg y → Calls Tryd.prog 18 #[.slice Aho ho.length cho, .slice Ak kl.length ck] y fun e w' => e = .returned (.bool true) ∧ Keep y w' := fun y hy => by
                    have h1 := T2.out y hy
                    rw [decide_eq_true q2] at h1; exact h1
                  clear q1 q2 q3
                  refine wp_region_plainqT wg (Below.refl _ _) ?_
                  try simp only [List.append_eq, List.cons_append, List.nil_append]
                  repeat (go_big_quiet_step (first | (go_at_call 18; exact quiet_aft (v := .bool true) (T2' (aft wg _) (aft_keep wg _)))))
                  refine wpQuiet_nil ?_
                  rintro _ ⟨y, rfl⟩
                  have j := aft_keep wg y
                  generalize aft wg y = wz at j ⊢
                  clear a5 b5
                  go_wp2
                  go_meet
                  exact ⟨rfl, Lib.hid j⟩
                · obtain rfl : V = false := by rw [← HV.out]; exact decide_eq_false (by rintro (⟨h, _⟩ | ⟨_, h⟩); exact q1 h; exact q2 h)
                  have T2' : ∀ y, Keep wg y → Calls Tryd.prog 18 #[.slice Aho ho.length cho, .slice Ak kl.length ck] y fun e w' => e = .returned (.bool false) ∧ Keep y w' := fun y hy => by
                    have h1 := T2.out y hy
                    rw [decide_eq_false q2] at h1; exact h1
                  clear q1 q2 q3
                  refine wp_region_plainqT wg (Below.refl _ _) ?_
                  try simp only [List.append_eq, List.cons_append, List.nil_append]
                  repeat (go_big_quiet_step (first | (go_at_call 18; exact quiet_aft (v := .bool false) (T2' (aft wg _) (aft_keep wg _)))))
                  refine wpQuiet_nil ?_
                  rintro _ ⟨y, rfl⟩
                  have j := aft_keep wg y
                  generalize aft wg y = wz at j ⊢
                  clear a5 b5
                  go_wp2
                  go_meet
                  exact ⟨rfl, Lib.hid j⟩
              · obtain rfl : V = false := by rw [← HV.out]; exact decide_eq_false (by rintro (⟨h, _⟩ | ⟨h, _⟩); exact q1 h; exact q3 h)
                have e3 : (epo == ep + 1) = false := by rw [beq_eq_false_iff_ne]; exact q3
                clear q1 q3
                refine wp_region_plainqT wg (Below.refl _ _) ?_
                try simp only [List.append_eq, List.cons_append, List.nil_append]
                repeat (go_big_quiet_step (fail))
                refine wpQuiet_nil ?_
                rintro _ ⟨y, rfl⟩
                have j := aft_keep wg y
                generalize aft wg y = wz at j ⊢
                clear a5 b5
                go_wp2
                go_meet
                exact ⟨rfl, Lib.hid j⟩
          case rest =>
            obtain ⟨rfl, KX⟩ := hcut
            clear a5 b5 T1 T2
            cases V with
            | true =>
              go_wp2
              go_ret
              exact ⟨rfl, keep_trans HKg.out KX.out⟩
            | false =>
              have HY : Hid ((takeS (slotB C sl)).2.2 = true ∧ slotB C sl ≠ supB (ep + 1) (1 - l2)) := by
                have h1 := of_decide_eq_false HV.out
                rcases HXX.out with h | h | h
                · exact absurd (.inl h) h1
                · exact absurd (.inr h) h1
                · exact h
              have hsl : sl ≤ 1 := by have h1 := hslt.out; split at h1 <;> omega
              have U1 : Hid (∀ y, Keep wg y → Calls Tryd.prog 10 #[.int .i64 (ep + 1), .int .i64 (1 - l2)] y fun e w' => ∃ A c, e = .returned (.slice A 64 c) ∧ (∀ W, Keep w' W → Calls Tryd.prog 27 #[DV Ac C.length cc none 0 0, .int .i64 sl, .slice A 64 c] W fun e w' => e = .returned (.bool true) ∧ Keep W w') ∧ Keep y w') := fun y hy => by
                refine (super_any (ep + 1) (1 - l2) y (HS.out.keep (keep_trans HKg.out hy))).mono ?_
                rintro e w' ⟨A, c, r1, r2, r3⟩
                exact ⟨A, c, r1, fun W hW => K1.out sl W A (supB (ep + 1) (1 - l2)) c hsl (keep_trans hy (keep_trans r3 hW)) HY.out.1 HY.out.2 (supB_len _ _) ((own_rd r2).keep hW), r3⟩
              have HDx := Lib.hid (HDg.out.keep KX.out)
              have sx0 := keep_cell KX.out SA0.out; have sx1 := keep_cell KX.out SA1.out; have sx5 := Lib.hid (keep_cell KX.out SA5.out)
              clear HXX HV HY K1
              go_upto_region 20 with fail
              go_wp2_with fail
              refine (S1.out _ KX.out).mono ?_
              clear S1
              rintro e wy ⟨rfl, ky⟩
              have KY := Lib.hid (keep_trans KX.out ky); have HDy := Lib.hid (HDx.out.keep ky)
              have sy0 := keep_cell ky sx0; have sy1 := keep_cell ky sx1; have sy5 := Lib.hid (keep_cell ky sx5.out)
              clear ky sx0 sx1 sx5 HDx
              go_upto_if 139 with fail
              go_cut [21] (fun v wx => v = .int .i64 sl ∧ wy = wx)
              case first =>
                by_cases q : l3 = 0
                · obtain rfl : sl = 1 := by have h1 := hslt.out; rw [if_pos q] at h1; exact h1
                  have e1 : (l3 == 0) = true := by simp [q]
                  clear q hslt
                  go_wp2
                  go_meet
                  exact ⟨rfl, rfl⟩
                · obtain rfl : sl = 0 := by have h1 := hslt.out; rw [if_neg q] at h1; exact h1
                  have e1 : (l3 == 0) = false := by simp [q]
                  clear q hslt
                  go_wp2
                  go_meet
                  exact ⟨rfl, rfl⟩
              case rest =>
                obtain ⟨rfl, rfl⟩ := hcut
                clear hslt
                go_upto_region 22 with fail
                go_wp2_with fail
                refine (F1.out _ KY.out).mono ?_
                clear F1
                rintro e wz ⟨rfl, kz⟩
                have KZ := Lib.hid (keep_trans KY.out kz); have HDz := Lib.hid (HDy.out.keep kz); have sz5 := Lib.hid (keep_cell kz sy5.out)
                skip
                clear kz sy0 sy1 sy5 HDy
                go_upto_region 23 with fail
                refine wp_region_tree (.take [0,1,2,3,4,5,6,7,8] (.force [9,10] (.take [11,12] .done))) [] (by kernel_rfl) (by kernel_rfl) (fun w9 k9 => ?_)
                replace KZ := Lib.hid (keep_trans KZ.out k9)
                have dz0 := aft_cell (keep_cell k9 (HDz.out.cell 0)); have dz1 := aft_cell (keep_cell k9 (HDz.out.cell 1)); have a5 := aft_cell (keep_cell k9 sz5.out)
                clear k9
                refine mt_take w9 (Below.refl _ _) ?_
                simp only [pick_cons, pick_nil, nth_zero, nth_succ]
                repeat (go_big_quiet_step (fail))
                refine wpQuiet_nil ?_
                clear dz0 dz1 a5
                refine mt_force ?_
                simp only [pick_cons, pick_nil, nth_zero, nth_succ]
                refine fc_step rfl (fun K hK => ?_)
                go_simp
                (with_reducible refine (U1.out _ KZ.out).mono ?_)
                rintro e wu ⟨Au, cu, rfl, hch, ku⟩
                have Hch := Lib.hid hch
                refine hK _ _ ku ?_
                clear hK K hch
                refine fc_step rfl (fun K hK => ?_)
                go_simp
                (with_reducible refine (Hch.out _ (Below.refl _ _)).mono ?_)
                rintro e wv ⟨rfl, kv⟩
                refine hK _ _ kv ?_
                clear hK K Hch U1
                replace KZ := Lib.hid (keep_trans (keep_trans KZ.out ku) kv)
                clear ku kv
                refine fc_nil ?_
                refine mt_take wv (Below.refl _ _) ?_
                simp only [pick_cons, pick_nil, nth_zero, nth_succ]
                repeat (go_big_quiet_step (fail))
                refine wpQuiet_nil ?_
                refine mt_end ?_
                go_wp2
                go_ret
                exact ⟨rfl, keep_trans HKg.out KZ.out⟩
        · have hd : (CE != 0) = true := by simp [he]
          obtain ⟨e1, e2⟩ : epo = ep ∧ ho = all := HX.out.elim (fun h => h.2) (fun h => absurd h.1 he)
          subst e1 e2
          clear he HX
          have a5 := aft_cell SA5.out; have b5 := aft_cell OA5.out
          have g2 : (epo == epo) = true := by simp
          have T1' : ∀ y, Keep wg y → Calls Tryd.prog 18 #[.slice Aho ho.length cho, .slice Ag ho.length cg] y fun e w' => e = .returned (.bool true) ∧ Keep y w' := fun y hy => by
            have h1 := T1.out y hy
            rw [decide_eq_true (rfl : ho = ho)] at h1; exact h1
          go_upto_region 16 with fail
          refine wp_region_plainqT wg (Below.refl _ _) ?_
          try simp only [List.append_eq, List.cons_append, List.nil_append]
          repeat (go_big_quiet_step (first | (go_at_call 18; exact quiet_aft (v := .bool true) (T1' (aft wg _) (aft_keep wg _)))))
          refine wpQuiet_nil ?_
          rintro _ ⟨y, rfl⟩
          have j := aft_keep wg y
          generalize aft wg y = wz at j ⊢
          clear a5 b5
          go_wp2
          go_ret
          exact ⟨rfl, keep_trans HKg.out j⟩
end Go.Proofs.YtbomnldpmkedbaaDoor
