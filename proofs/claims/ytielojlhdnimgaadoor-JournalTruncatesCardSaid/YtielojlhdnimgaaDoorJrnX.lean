/- What lies behind is gone: the walk. -/
import Derived.Test.YtielojlhdnimgaaDoorJrnX0
set_option linter.unusedSimpArgs false
set_option linter.unusedVariables false
namespace Go.Proofs.YtielojlhdnimgaaDoor
open Go.RowKit
attribute [local go_sem ↓] Go.wp_at_zero Go.wp_at_succ

set_option maxRecDepth 100000 in
set_option maxHeartbeats 8000000 in
theorem trunc_walk (A : Option Addr) (b : List UInt8) (c : Nat) (PA : Option Addr) (ws : List WriteR) (pc : Nat) (base room : Int) (w : World) (h : DOk w A b c PA ws pc) (hS : ShaOk w)
    (hb : -9223372036854775808 ≤ base ∧ base ≤ 9223372036854775807) (hr : -9223372036854775808 ≤ room ∧ room ≤ 9223372036854775807) :
    Calls Tryd.prog 5 #[DV A b.length c PA ws.length pc, .int .i64 base, .int .i64 room] w fun e w' => e = .returned (.bool true) ∧ Keep w w' := by
  have hpl0 := h.pl; have hpm := h.pm; have hbc := h.bc; have hcm0 := h.cm
  unfold maxLen at hpm hcm0
  have Hh := Lib.hid h; have HS := Lib.hid hS
  clear h hS
  obtain ⟨zs, hz1, hz2, hz3⟩ := zlog_letter
  go_enter Tryd.func5, Tryd.ntmps5
  go_upto_region 1 with fail
  obtain ⟨w0, hw0⟩ : ∃ w0, w0 = w.alloc (.cells #[.slice A b.length c, .slice PA ws.length pc] 25) := ⟨_, rfl⟩
  have HD0 : Hid (Blk w0 w.heap.size 25 [.slice A b.length c, .slice PA ws.length pc]) := by rw [hw0]; exact Blk.new w _ [.slice A b.length c, .slice PA ws.length pc]
  have HK0 : Hid (Keep w w0) := by rw [hw0]; exact keep_new _ _
  rw [← hw0]
  clear hw0
  generalize w.heap.size = B0 at *
  go_wp2_with fail
  refine (awake_any w0 (HS.out.keep HK0.out)).mono ?_
  rintro e w1 ⟨rfl, k1⟩
  have HD1 := Lib.hid (HD0.out.keep k1); have HK1 := Lib.hid (keep_trans HK0.out k1)
  clear k1
  have b0 := HD1.out.cell 0; have b1 := HD1.out.cell 1
  simp only [List.getElem?_cons_zero, List.getElem?_cons_succ] at b0 b1
  go_wp2_with fail
  refine (few_any _ _ _ _ _ _ _ (by omega) (by omega)).mono ?_
  rintro e w2 ⟨rfl, hk2⟩
  have HK2 := Lib.hid (keep_trans HK1.out hk2)
  replace b0 := keep_cell hk2 b0; replace b1 := keep_cell hk2 b1
  clear hk2 HD1 HD0
  cases hf : fewD b.length ws.length with
  | false => go_wp2_with fail; go_ret; exact ⟨rfl, HK2.out⟩
  | true =>
    have hfew := of_decide_eq_true hf; clear hf
    by_cases hq0 : 60 < room
    · go_wp2_with fail; go_ret; exact ⟨rfl, HK2.out⟩
    have hq0' : room ≤ 60 := by omega
    clear hq0
    go_wp2_with fail
    refine (drive_any A b c PA ws pc w2 (Hh.out.keep HK2.out) (by omega)).mono ?_
    rintro e w3 ⟨PA3, pc3, rfl, _, hd3, hk3⟩
    have HK3 := Lib.hid (keep_trans HK2.out hk3)
    replace b0 := keep_cell hk3 b0; replace b1 := keep_cell hk3 b1
    have C3 := sane_any A b c PA3 ws pc3 w3 (hd3 _ (Below.refl _ _))
    clear hk3 hd3
    go_wp2_with fail
    refine C3.mono ?_
    clear C3
    rintro e w4 ⟨rfl, hk4⟩
    have HK4 := Lib.hid (keep_trans HK3.out hk4)
    replace b0 := keep_cell hk4 b0; replace b1 := keep_cell hk4 b1
    clear hk4
    cases hs : saneD b.length ws with
    | false => go_wp2_with fail; go_ret; exact ⟨rfl, HK4.out⟩
    | true =>
      have hsp : saneP b.length (ws.map WriteR.pl) = true := by rw [← sane_pl]; exact hs
      have Hsp := Lib.hid hsp
      clear hs hsp
      by_cases hq1 : base < 0
      · go_wp2_with fail; go_ret; exact ⟨rfl, HK4.out⟩
      have hq1' : 0 ≤ base := by omega
      clear hq1
      by_cases hq2 : 300 < base
      · go_wp2_with fail; go_ret; exact ⟨rfl, HK4.out⟩
      have hq2' : base ≤ 300 := by omega
      clear hq2
      go_wp2_with fail
      refine (drive_any A b c PA ws pc w4 (Hh.out.keep HK4.out) (by omega)).mono ?_
      rintro e w5 ⟨PA5, pc5, rfl, _, hd5, hk5⟩
      have HK5 := Lib.hid (keep_trans HK4.out hk5)
      replace b0 := keep_cell hk5 b0; replace b1 := keep_cell hk5 b1
      have C5 := reop_w A b c PA5 ws pc5 base room w5 (hd5 w5 (Below.refl _ _)) (HS.out.keep HK5.out) hb (by omega)
      clear hd5 hk5
      go_wp2_with fail
      refine C5.mono ?_
      clear C5
      rintro e w6 ⟨B, hs, A6, c6, cs, Ah, ch, rfl, R, hcs, hd6, own6, hok, k6⟩
      have hcz := hcs.z; have hcn := hcs.n; have hci := hcs.i
      have Hcs := Lib.hid hcs; have HK6 := Lib.hid (keep_trans HK5.out k6); have Hok := Lib.hid hok; have HR := Lib.hid R; have Hr6 := Lib.hid (own_rd own6)
      have Hd6 : Hid (∀ W, Keep w6 W → DOk W A6 B c6 none [] 0) := fun W hW => hd6 W (Fr.of_keep hW)
      replace b0 := keep_cell k6 b0; replace b1 := keep_cell k6 b1
      have hst : (storeCells ⟨w6.heap.size, 0, none⟩ cs.toList 0).run Tryd.prog (w6.alloc (.cells zs 35)) = .ok () (w6.alloc (.cells cs 35)) := run_storeCells_new (P := Tryd.prog) w6 35 zs cs hci (hz1.trans hcz.symm) (by have := all_oneCell_toArray Hcs.out.o; rwa [Array.toArray_toList] at this)
      clear hcs hd6 own6 R k6 hok
      go_upto_region 5 with fail
      clear hst
      obtain ⟨w7, hw7⟩ : ∃ w7, w7 = w6.alloc (.cells cs 35) := ⟨_, rfl⟩
      have HC7 : Hid (Blk w7 w6.heap.size 35 cs.toList) := by rw [hw7]; exact Blk.new w6 _ cs.toList
      have k7 : Keep w6 w7 := by rw [hw7]; exact keep_new _ _
      rw [← hw7]
      clear hw7
      have HK7 := Lib.hid (keep_trans HK6.out k7); have Hr7 := Lib.hid (Hr6.out.keep k7)
      have Hd7 : Hid (∀ W, Keep w7 W → DOk W A6 B c6 none [] 0) := fun W hW => Hd6.out W (keep_trans k7 hW)
      replace b0 := keep_cell k7 b0; replace b1 := keep_cell k7 b1
      generalize w6.heap.size = P at *
      clear k7 Hr6 Hd6
      have HC7' : Hid (Blk w7 P 35 (lgCells (.slice A6 B.length c6) (.slice none 0 0) base room (hs.length : Nat) (lastL 0 z32 hs))) := by rw [← Hcs.out.l]; exact HC7.out
      obtain ⟨c0, c1, p2, p3, p4⟩ := lg_d HC7'.out
      clear p2 p3 p4
      have C7 := reop_w A6 B c6 none [] 0 base room w7 (Hd7.out w7 (Below.refl _ _)) (HS.out.keep HK7.out) hb (by simp)
      go_wp2_with fail
      refine C7.mono ?_
      clear C7 c0 c1
      rintro e w8 ⟨B2, hs2, A8, c8, es, Ah8, ch8, rfl, R2, hes, hd8, own8, hok8, k8⟩
      obtain ⟨e1, e2⟩ := reop_again HR.out R2 hq1'
      subst e1 e2
      have hez := hes.z; have hen := hes.n; have hei := hes.i
      have Hes := Lib.hid hes; have HK8 := Lib.hid (keep_trans HK7.out k8); have Hr8 := Lib.hid (own_rd own8); have HC8 := Lib.hid (HC7.out.keep k8); have HC8' := Lib.hid (HC7'.out.keep k8); have Hr7b := Lib.hid (Hr7.out.keep k8)
      have Hd8 : Hid (∀ W, Keep w8 W → DOk W A8 B2 c8 none [] 0) := fun W hW => hd8 W (Fr.of_keep hW)
      have Hd7b : Hid (∀ W, Keep w8 W → DOk W A6 B2 c6 none [] 0) := fun W hW => Hd7.out W (keep_trans k8 hW)
      replace b0 := keep_cell k8 b0; replace b1 := keep_cell k8 b1
      have hst : (storeCells ⟨w8.heap.size, 0, none⟩ es.toList 0).run Tryd.prog (w8.alloc (.cells zs 35)) = .ok () (w8.alloc (.cells es 35)) := run_storeCells_new (P := Tryd.prog) w8 35 zs es hei (hz1.trans hez.symm) (by have := all_oneCell_toArray Hes.out.o; rwa [Array.toArray_toList] at this)
      clear hes hd8 own8 k8 hok8 R2 HC7 HC7' Hd7 Hr7
      go_upto_region 6 with fail
      clear hst
      obtain ⟨w9, hw9⟩ : ∃ w9, w9 = w8.alloc (.cells es 35) := ⟨_, rfl⟩
      have HE9 : Hid (Blk w9 w8.heap.size 35 es.toList) := by rw [hw9]; exact Blk.new w8 _ es.toList
      have k9 : Keep w8 w9 := by rw [hw9]; exact keep_new _ _
      rw [← hw9]
      clear hw9
      have HK9 := Lib.hid (keep_trans HK8.out k9); have HC9 := Lib.hid (HC8.out.keep k9); have HC9' := Lib.hid (HC8'.out.keep k9)
      have Hd9 : Hid (∀ W, Keep w9 W → DOk W A8 B2 c8 none [] 0) := fun W hW => Hd8.out W (keep_trans k9 hW)
      have Hd7c : Hid (∀ W, Keep w9 W → DOk W A6 B2 c6 none [] 0) := fun W hW => Hd7b.out W (keep_trans k9 hW)
      have Hr9 := Lib.hid (Hr8.out.keep k9); have Hr7c := Lib.hid (Hr7b.out.keep k9)
      replace b0 := keep_cell k9 b0; replace b1 := keep_cell k9 b1
      generalize w8.heap.size = E at *
      clear k9 Hd8 Hd7b Hr8 Hr7b HC8 HC8'
      have C9 := drive_any A b c PA ws pc w9 (Hh.out.keep HK9.out) (by omega)
      go_wp2_with fail
      refine C9.mono ?_
      clear C9
      rintro e wa ⟨PAa, pca, rfl, _, hda, hka⟩
      have Ca := bytes_any A b c PAa ws pca wa (hda wa (Below.refl _ _))
      rw [bytesD_Q] at Ca
      have Ka := Lib.hid hka
      clear hda hka b0 b1
      obtain ⟨a, haq⟩ : ∃ a, bytesQ b (ws.map WriteR.pl) = a := ⟨_, rfl⟩
      have T := trunc_law HR.out hq1'
      rw [haq] at Ca T
      have hal : a.length ≤ 131072 := by
        have h1 := bytesQ_sane b (ws.map WriteR.pl)
        rw [haq] at h1
        have := ((saneP_iff _ _).1 h1).1; omega
      have HT := Lib.hid T
      have hlB := T.len
      clear T haq
      go_wp2_with fail
      refine Ca.mono ?_
      clear Ca
      rintro e wb ⟨va, rfl, owna, hkb⟩
      obtain ⟨Aa, ca, rfl, hca, hma, hra⟩ := own_form owna
      have Kb := Lib.hid (keep_trans Ka.out hkb); have Hra := Lib.hid hra
      unfold maxLen at hma
      clear owna hra hkb Ka
      have HCb' := Lib.hid (HC9'.out.keep Kb.out)
      obtain ⟨c0, c1, p2, p3, p4⟩ := lg_d HCb'.out
      clear p2 p3 p4
      have Cb := bytes_any A6 B2 c6 none [] 0 wb (Hd7c.out wb Kb.out)
      rw [bytesD_Q, show ([] : List WriteR).map WriteR.pl = [] from rfl, bytesQ_nil HR.out.sane] at Cb
      go_wp2_with fail
      refine Cb.mono ?_
      clear Cb c0 c1
      rintro e wc ⟨vb, rfl, ownb, hkc⟩
      obtain ⟨Ab, cb, rfl, hcb, hmb, hrb⟩ := own_form ownb
      have Kc := Lib.hid (keep_trans Kb.out hkc); have Hra2 := Lib.hid (Hra.out.keep hkc); have Hrb := Lib.hid hrb
      unfold maxLen at hmb
      clear ownb hrb hkc Hra
      have HCc := Lib.hid (HC9.out.keep Kc.out); have HCc' := Lib.hid (HC9'.out.keep Kc.out); have HEc := Lib.hid (HE9.out.keep Kc.out)
      have hhl : hs2.length ≤ 1024 := by have h1 := HR.out.inv.fnd.fit; have : roomN room ≤ 1024 := by { unfold roomN; omega }; omega
      obtain ⟨c0, c1, p2, p3, c4⟩ := lg_d HCc'.out
      clear p2 p3 c0
      go_upto_region 8 with fail
      have P1 : Hid (∀ y, Keep wc y → Calls Tryd.prog 14 #[.agg cs] y fun e w' => ∃ PA' pc' fs, e = .returned (.agg fs) ∧ LoA (lgCells (.slice A6 B2.length c6) (.slice PA' 0 pc') base room (hs2.length : Nat) (lastL 0 z32 hs2)) fs ∧ (∀ W, Keep w' W → DOk W A6 B2 c6 PA' [] pc') ∧ Keep y w') := fun y hy =>
        plainly_any A6 B2 c6 none [] 0 base room _ _ cs y (Hd7c.out y (keep_trans Kc.out hy)) (by simp) Hcs.out (lastL_len hs2 0 z32 rfl)
      have P2 : Hid (∀ y, Keep wc y → Calls Tryd.prog 14 #[.agg es] y fun e w' => ∃ PA' pc' fs, e = .returned (.agg fs) ∧ LoA (lgCells (.slice A8 B2.length c8) (.slice PA' 0 pc') base room (hs2.length : Nat) (lastL 0 z32 hs2)) fs ∧ (∀ W, Keep w' W → DOk W A8 B2 c8 PA' [] pc') ∧ Keep y w') := fun y hy =>
        plainly_any A8 B2 c8 none [] 0 base room _ _ es y (Hd9.out y (keep_trans Kc.out hy)) (by simp) Hes.out (lastL_len hs2 0 z32 rfl)
      have S1 : Hid (∀ y PA' pc' fs PA'' pc'' gs, LoA (lgCells (.slice A6 B2.length c6) (.slice PA' 0 pc') base room (hs2.length : Nat) (lastL 0 z32 hs2)) fs → LoA (lgCells (.slice A8 B2.length c8) (.slice PA'' 0 pc'') base room (hs2.length : Nat) (lastL 0 z32 hs2)) gs → DOk y A6 B2 c6 PA' [] pc' → DOk y A8 B2 c8 PA'' [] pc'' →
          Calls Tryd.prog 13 #[.agg fs, .agg gs] y fun e w' => e = .returned (.bool true) ∧ Keep y w') := fun y PA' pc' fs PA'' pc'' gs q1 q2 q3 q4 =>
        (lsame_any A6 B2 c6 PA' [] pc' base room _ _ fs A8 B2 c8 PA'' [] pc'' base room _ _ gs y q3 q4 q1 (lastL_len hs2 0 z32 rfl) q2 (lastL_len hs2 0 z32 rfl)).mono fun e w' ⟨h1, h2⟩ => ⟨by rw [h1, sameL_refl _ _ _ _ _ _ _ rfl], h2⟩
      have S2 : Hid (∀ y, Keep wc y → Calls Tryd.prog 17 #[.slice Ah hs2.length ch, .slice Ah8 hs2.length ch8] y fun e w' => e = .returned (.bool true) ∧ Keep y w') := fun y hy =>
        (hsame_any Ah hs2 ch Ah8 hs2 ch8 y (Hr7c.out.keep (keep_trans Kc.out hy)) (Hr9.out.keep (keep_trans Kc.out hy)) Hok.out Hok.out (by omega) (by omega)).mono fun e w' ⟨h1, h2⟩ => ⟨by rw [h1, decide_eq_true rfl], h2⟩
      have hlI : (a.length : Int) = (B2.length : Int) := by omega
      have hlne : ((a.length : Int) != (B2.length : Int)) = false := by rw [hlI]; simp
      clear hlI
      refine wp_region_tree (.take [0,1,2,3,4,5,6,7,8,9,10,11,12,13,15] (.force [14,16,17] (.take [18,19,20,21,22] (.force [23] (.take [24,25] .done))))) [] (by kernel_rfl) (by kernel_rfl) (fun y0 q0' => ?_)
      have q0 := Lib.hid q0'
      have HC0 := Lib.hid (HCc.out.keep q0'); have HE0 := Lib.hid (HEc.out.keep q0')
      have a1 := aft_cell (keep_cell q0' c1)
      clear q0'
      refine mt_take y0 (Below.refl _ _) ?_
      simp only [pick_cons, pick_nil, nth_zero, nth_succ]
      iterate 13 (go_big_quiet_step (fail))
      (with_reducible refine wpQuiet_load_partg P 0 cs (Eq.trans ?_ rfl) HC0.out.range _ Tryd.underlying35 rfl hci (Eq.trans ?_ rfl) ?_)
      rfl
      rfl
      simp only [Act.put, Array.set!_eq_setIfInBounds, List.setIfInBounds_toArray, List.set_cons_succ, List.set_cons_zero]
      (with_reducible refine wpQuiet_load_partg E 0 es (Eq.trans ?_ rfl) HE0.out.range _ Tryd.underlying35 rfl hei (Eq.trans ?_ rfl) ?_)
      rfl
      rfl
      simp only [Act.put, Array.set!_eq_setIfInBounds, List.setIfInBounds_toArray, List.set_cons_succ, List.set_cons_zero]
      refine wpQuiet_nil (mt_force ?_)
      clear a1
      simp only [pick_cons, pick_nil, nth_zero, nth_succ]
      refine fc_step rfl (fun K hK => ?_)
      go_simp
      (with_reducible refine (P1.out y0 q0.out).mono ?_)
      rintro e y1 ⟨PA6, pc6, fs, rfl, hfs, hd6, hk⟩
      refine hK _ _ hk ?_
      clear hK K
      have Hfs := Lib.hid hfs; have Hd6 := Lib.hid hd6; have Hk1 := Lib.hid hk
      clear hfs hd6 hk
      refine fc_step rfl (fun K hK => ?_)
      go_simp
      (with_reducible refine (P2.out y1 (keep_trans q0.out Hk1.out)).mono ?_)
      rintro e y2 ⟨PA7, pc7, gs, rfl, hgs, hd7, hk⟩
      refine hK _ _ hk ?_
      clear hK K
      have Hgs := Lib.hid hgs; have Hd7 := Lib.hid hd7; have Hk2 := Lib.hid hk
      clear hgs hd7 hk
      refine fc_step rfl (fun K hK => ?_)
      go_simp
      (with_reducible refine (S1.out y2 PA6 pc6 fs PA7 pc7 gs Hfs.out Hgs.out (Hd6.out _ Hk2.out) (Hd7.out _ (Below.refl _ _))).mono ?_)
      rintro e y3 ⟨rfl, hk⟩
      refine hK _ _ hk ?_
      clear hK K
      have Q3 := Lib.hid (keep_trans q0.out (keep_trans Hk1.out (keep_trans Hk2.out hk)))
      clear hk
      refine fc_nil (mt_take y3 (Below.refl _ _) ?_)
      simp only [pick_cons, pick_nil, nth_zero, nth_succ]
      repeat (go_big_quiet_step (fail))
      refine wpQuiet_nil (mt_force ?_)
      simp only [pick_cons, pick_nil, nth_zero, nth_succ]
      refine fc_step rfl (fun K hK => ?_)
      go_simp
      (with_reducible refine (S2.out y3 Q3.out).mono ?_)
      rintro e y4 ⟨rfl, hk⟩
      refine hK _ _ hk ?_
      clear hK K
      have Q4 := Lib.hid (keep_trans Q3.out hk)
      clear hk
      refine fc_nil (mt_take y4 (Below.refl _ _) ?_)
      simp only [pick_cons, pick_nil, nth_zero, nth_succ]
      repeat (go_big_quiet_step (fail))
      refine wpQuiet_nil (mt_end ?_)
      have K4 := Lib.hid (keep_trans HK9.out (keep_trans Kc.out Q4.out))
      have HC4 := Lib.hid (HCc'.out.keep Q4.out)
      have Hra4 := Lib.hid (Hra2.out.keep Q4.out); have Hrb4 := Lib.hid (Hrb.out.keep Q4.out)
      clear c1 c4 P1 P2 S1 S2
      obtain ⟨p0, p1, p2, p3, c4⟩ := lg_d HC4.out
      clear p0 p1 p2 p3
      have hrm : (roomN room : Int) = max 0 (min room 1024) := by unfold roomN; omega
      have hr60 : roomN room ≤ 60 := by unfold roomN; omega
      go_upto_region 11 with fail
      obtain ⟨to_, hto2⟩ : ∃ t : Int, t = 32 * (base + 4 * (roomN room : Int)) := ⟨_, rfl⟩
      obtain ⟨from_, hfrom⟩ : ∃ t : Int, t = 32 * (base + 4 * (hs2.length : Int)) := ⟨_, rfl⟩
      rw [← hfrom]
      go_cut [15] (fun v wx => v = .int .i64 to_ ∧ y4 = wx)
      case first =>
        have HTo := Lib.hid hto2; have Hrm := Lib.hid hrm
        clear hto2 hfrom hrm hlB hlne
        by_cases hrp : 0 < room
        · go_wp2
          go_meet
          exact ⟨by congr 1; have h1 := HTo.out; have h2 := Hrm.out; omega, rfl⟩
        · have hrp' : room ≤ 0 := by omega
          clear hrp
          go_wp2
          go_meet
          exact ⟨by congr 1; have h1 := HTo.out; have h2 := Hrm.out; omega, rfl⟩
      case rest =>
      obtain ⟨rfl, rfl⟩ := hcut
      have HTo := Lib.hid hto2; have HFrom := Lib.hid hfrom; have HLB := Lib.hid hlB; have Hrm := Lib.hid hrm
      have hfr2 : -9223372036854775808 ≤ from_ ∧ from_ ≤ 9223372036854775807 := by omega
      have hto3 : -9223372036854775808 ≤ to_ ∧ to_ ≤ 9223372036854775807 := by omega
      have hfitN : hs2.length ≤ roomN room := HR.out.inv.fnd.fit
      have HfitN := Lib.hid hfitN
      have hB2 : B2.length ≤ 131072 := by omega
      clear hfrom hto2 hlB hrm hfitN hlne hal
      go_upto_region 13 with fail
      go_loopw [16] (fun i wr => ∃ k : Nat, k ≤ B2.length ∧ i = .int .i64 k ∧ Keep y4 wr) (fun i _ => B2.length - (intOf i).toNat)
      case atStart => exact ⟨0, Nat.zero_le _, rfl, Below.refl _ _⟩
      case round =>
        obtain ⟨k, hk, rfl, hky⟩ := hrel
        by_cases hlt : k < B2.length
        · have hlen : a.length = B2.length := HLB.out
          obtain ⟨gb, ob, rfl, hgb, Fb, -⟩ := Hrb4.out.at2 hky (k := k) (by rw [List.length_map]; omega)
          obtain ⟨ga, oa, rfl, hga, Fa, -⟩ := Hra4.out.at2 hky (k := k) (by rw [List.length_map]; omega)
          have cb1 := Fb k (by rw [List.length_map]; omega)
          have ca1 := Fa k (by rw [List.length_map]; omega)
          rw [List.getElem_map] at cb1 ca1
          have hz := HT.out.zero k (by omega); have hsm := HT.out.same k (by omega)
          rw [List.getElem?_eq_getElem (show k < B2.length by omega)] at hz hsm
          rw [List.getElem?_eq_getElem (show k < a.length by omega)] at hsm
          rw [← HFrom.out, ← HTo.out] at hz hsm
          generalize B2[k] = x at cb1 hz hsm
          generalize a[k] = y at ca1 hsm
          rw [hlen] at hz hsm
          have Hz := Lib.hid hz; have Hsm := Lib.hid hsm
          clear Fa Fb hlen hz hsm
          by_cases hZ : from_ ≤ (k : Int) ∧ (k : Int) < to_ ∧ base ≤ ((B2.length / 32 : Nat) : Int)
          · have hx := Hz.out hZ
            have hx' : x = 0 := Option.some.inj hx
            subst hx'
            have cb2 : wr.cell? ⟨gb, ob + k, none⟩ = some (.int .u8 0) := cb1
            obtain ⟨z1, z2, z3⟩ := hZ
            have z3' : base ≤ (B2.length : Int) / 32 := by omega
            clear z3 hx cb1 ca1
            go_wp2_with fail
            go_roundw
            case rel => exact ⟨k + 1, by omega, by go_num, hky⟩
            case measure => simp [intOf]; omega
          · have hxy : x = y := Option.some.inj (Hsm.out hZ)
            subst hxy
            have HZ := Lib.hid hZ
            clear hZ
            go_upto_region 15 with fail
            go_cut [121] (fun v wx => v = .bool false ∧ wr = wx)
            case first =>
              by_cases z1 : from_ ≤ (k : Int)
              · by_cases z2 : (k : Int) < to_
                · have z3 : ¬ base ≤ (B2.length : Int) / 32 := fun h => HZ.out ⟨z1, z2, by omega⟩
                  clear HZ
                  go_wp2
                  go_meet
                  exact ⟨rfl, rfl⟩
                · clear HZ
                  go_wp2
                  go_meet
                  exact ⟨rfl, rfl⟩
              · clear HZ
                go_wp2
                go_meet
                exact ⟨rfl, rfl⟩
            case rest =>
              obtain ⟨rfl, rfl⟩ := hcut
              have a1 := aft_cell cb1; have a2 := aft_cell ca1
              go_upto_region 18 with fail
              refine wp_region_aft (by kernel_rfl) (by kernel_rfl) wr (Below.refl _ _) ?_
              repeat (go_big_quiet_step (fail))
              refine wpQuiet_nil ?_
              rintro _ ⟨z, rfl⟩
              have hk2 := aft_keep wr z
              generalize aft wr z = wq at hk2 ⊢
              clear a1 a2 cb1 ca1
              go_wp2
              go_roundw
              case rel => exact ⟨k + 1, by omega, by go_num, keep_trans hky hk2⟩
              case measure => simp [intOf]; omega
        · have hkk : ¬ (k : Int) < (B2.length : Int) := by omega
          have c4r := keep_cell hky c4
          have Kr := Lib.hid (keep_trans K4.out hky)
          clear hlt c4
          by_cases hrp : 0 < room
          · have hN : (hs2.length : Int) ≤ room := by have h1 := HfitN.out; have h2 := Hrm.out; omega
            go_wp2_with fail
            exact bodyPost_ret (v := .bool true) (by simp [results, Tryd.results5]) rfl ⟨rfl, Kr.out⟩
          · have hnil : hs2 = [] := by have h1 := HfitN.out; have h2 := Hrm.out; exact List.length_eq_zero_iff.1 (by omega)
            have hN : (hs2.length : Int) ≤ 0 := by rw [hnil]; simp
            go_wp2_with fail
            exact bodyPost_ret (v := .bool true) (by simp [results, Tryd.results5, hnil]) rfl ⟨rfl, Kr.out⟩
end Go.Proofs.YtielojlhdnimgaaDoor
