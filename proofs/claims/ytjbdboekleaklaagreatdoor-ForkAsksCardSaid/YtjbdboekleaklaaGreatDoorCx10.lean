/- Texts merged by pack.py: Te, Tf, Tg, Th, Ti, Rv, Tj, Tk0. -/
import Derived.Test.YtjbdboekleaklaaGreatDoorCx9
/- (*Tree).Add. (printed by gen_te.py) -/
set_option linter.unusedSimpArgs false
set_option linter.unusedVariables false
namespace Go.Proofs.YtjbdboekleaklaaGreatDoor
open Go.RowKit
attribute [local go_sem ↓] Go.wp_at_zero Go.wp_at_succ


set_option maxRecDepth 100000 in
set_option maxHeartbeats 8000000 in
theorem add_any (base T M : Nat) (v : Value) (most : Int) (ns : List Nd) (h : Hd) (cs : Array Value) (w : World) (hS : ShaOk w) (TR : Tr ns) (hO : TrO w base T M v most ns) (hl : ns.length ≤ 100000) (ho : h.ok) (hcs : HdA h cs) (hbase : base ≤ w.heap.size) :
    Calls Tryz.prog 29 #[pT T, .agg cs] w fun e w' => e = .returned (.tuple #[iv (addR most ns h).2.1, iv (addR most ns h).2.2]) ∧ ∃ v', TrO w' base T M v' most (addR most ns h).1 ∧ KeepX (XT T M v) w w' ∧ (v'.ownBlock = v.ownBlock ∨ ∀ b, v'.ownBlock = some b → w.heap.size ≤ b) := by
  have ID : Hid (∀ y, Keep w y → Calls Tryz.prog 21 #[.agg cs] y fun e w' => ∃ ds, e = .returned (.agg ds) ∧ HashA (idL h) ds ∧ Keep y w') := Lib.hid fun y hy => id_any h cs y (hS.keep hy) ho hcs
  have FI : Hid (∀ y id xs, Keep w y → id.length = 32 → HashA id xs → Calls Tryz.prog 17 #[pT T, .agg xs] y fun e w' => e = .returned (.tuple #[iv ((findN ns id).getD 0 : Nat), .bool (findN ns id).isSome]) ∧ Keep y w') := Lib.hid fun y id xs hy h1 h2 => find_any T ns id xs y (hO.r.keep hy) h1 h2
  obtain ⟨N, hN⟩ : ∃ N, ns.length = N := ⟨_, rfl⟩
  have LN : Hid (∀ y, Keep w y → Calls Tryz.prog 10 #[pT T] y fun e w' => e = .returned (iv N) ∧ Keep y w') := Lib.hid fun y hy => by rw [← hN]; exact tlen_any T ns y (hO.r.keep hy)
  have HNE := Lib.hid hN
  clear hN
  have WK : Hid (∀ y, Calls Tryz.prog 38 #[u32v h.bits] y fun e w' => e = .returned (uV (workN h.bits)) ∧ Keep y w') := Lib.hid fun y => work_u _ y
  obtain ⟨I, hI⟩ : ∃ I, idL h = I := ⟨_, rfl⟩
  have hI2 : I.length = 32 := by rw [← hI]; exact idL_len _
  obtain ⟨Wn, hWn⟩ : ∃ W, workN h.bits = W := ⟨_, rfl⟩
  have hW2 : Wn < 2 ^ 256 := by rw [← hWn]; exact workN_lt _
  have hadd : addR most ns h = addI most ns I h Wn := by unfold addR; rw [hI, hWn]
  rw [hadd]
  rw [hI] at ID
  rw [hWn] at WK
  have HIe := Lib.hid hI; have HI2 := Lib.hid hI2; have HW2 := Lib.hid hW2
  obtain ⟨pv, hpv⟩ : ∃ pv, HashA h.prev pv := ⟨_, HashA.of ho.1⟩
  have HBt := Lib.hid (hd_bits ho)
  rw [← hcs.l] at HBt
  have HPV : Hid (∀ y g t, Blk y g t cs.toList → y.rangeAt g 1 pv.toList) := Lib.hid fun y g t hb => hd_prevr ho hpv hb hcs
  have HPL : Hid (h.prev.length = 32) := Lib.hid ho.1
  have Hpv := Lib.hid hpv
  have NB : Hid (∀ ds, HashA I ds → Tryz.prog.built 44 [(0, .agg ds), (1, .agg cs), (2, .int .i64 (-1)), (4, uV Wn)] = some (Nd.cells ⟨I, h, -1, 0, Wn⟩).toArray) := Lib.hid fun ds hd => node_built hI2 hd ho hcs Wn
  have N0 : NdA ⟨I, h, -1, 0, Wn⟩ (Nd.cells ⟨I, h, -1, 0, Wn⟩).toArray := NdA.of ⟨hI2, ho, hW2⟩
  have HNok : Hid ((⟨I, h, -1, 0, Wn⟩ : Nd).ok) := Lib.hid ⟨hI2, ho, hW2⟩
  have hcz := hcs.z; have hcn := hcs.n; have hci := hcs.i
  have hpz := hpv.z; have hpn := hpv.n; have hpi := hpv.i
  have HO := Lib.hid hO
  have Hho := Lib.hid ho
  clear hadd hI hWn hpv hcs hS hO hI2 hW2 ho
  obtain ⟨ADR, hADR⟩ : ∃ A, addI most ns I h Wn = A := ⟨_, rfl⟩
  rw [hADR]
  have HADR := Lib.hid hADR
  clear hADR
  obtain ⟨zs, hz1, hz2, hz3, -⟩ := zhash_letter
  obtain ⟨zn, hn1, hn2, hn3, -, -⟩ := znode_letter
  obtain ⟨n0, hn0⟩ : ∃ n0, (Nd.cells ⟨I, h, -1, 0, Wn⟩).toArray = n0 := ⟨_, rfl⟩
  rw [hn0] at NB N0
  have HN0 := Lib.hid N0
  have h0z := N0.z; have h0n := N0.n; have h0i := N0.i
  clear N0 hn0
  have HK : Hid (Keep w w) := Lib.hid (Below.refl _ _)
  go_enter Tryz.func29, Tryz.ntmps29
  go_upto_region 1 with fail
  obtain ⟨w1, hw1⟩ : ∃ w1, w1 = w.alloc (.cells cs 39) := ⟨_, rfl⟩
  have HH1 : Hid (Blk w1 w.heap.size 39 cs.toList) := by rw [hw1]; exact Lib.hid (Blk.new w _ cs.toList)
  have HK1 : Hid (Keep w w1) := by rw [hw1]; exact Lib.hid (keep_new _ _)
  rw [← hw1]
  clear hw1 HK
  have rh : Hid (w1.rangeAt w.heap.size 0 cs.toList) := Lib.hid (range_of HH1.out 0 cs.toList (by simp [List.take_of_length_le]))
  go_wp2_with ((with_reducible refine load_partg w.heap.size 0 cs (Eq.trans ?_ rfl) rh.out _ Tryz.underlying39 rfl hci rfl ?_); rfl)
  refine (ID.out _ HK1.out).mono ?_
  clear ID rh
  rintro e w2 ⟨ds, rfl, hds, k2⟩
  have HH2 := Lib.hid (HH1.out.keep k2)
  have HK2 := Lib.hid (keep_trans HK1.out k2)
  clear k2 HH1 HK1
  have hdz := hds.z; have hdn := hds.n; have hdi := hds.i
  have hst : (storeCells ⟨w2.heap.size, 0, none⟩ ds.toList 0).run Tryz.prog (w2.alloc (.cells zs 36)) = .ok () (w2.alloc (.cells ds 36)) := run_storeCells_new (P := Tryz.prog) w2 36 zs ds hdi (hz1.trans hdz.symm) (by have := all_oneCell_toArray hds.o; rwa [Array.toArray_toList] at this)
  have Hds := Lib.hid hds
  have HNB := Lib.hid (NB.out ds hds)
  clear hds NB
  go_upto_region 2 with fail
  obtain ⟨w3, hw3⟩ : ∃ w3, w3 = w2.alloc (.cells ds 36) := ⟨_, rfl⟩
  have HH3 : Hid (Blk w3 w.heap.size 39 cs.toList) := by rw [hw3]; exact Lib.hid (HH2.out.alloc _)
  have HG3 : Hid (Blk w3 w2.heap.size 36 ds.toList) := by rw [hw3]; exact Lib.hid (Blk.new w2 36 ds.toList)
  have HK3 : Hid (Keep w w3) := by rw [hw3]; exact Lib.hid (keep_trans HK2.out (keep_new _ _))
  rw [← hw3]
  have hgs3 : w.heap.size ≤ w2.heap.size := HK2.out.size
  have hltHH3 := HH2.out.lt
  clear hw3 HH2 HK2
  generalize w2.heap.size = gh at *
  clear hst
  have rg : Hid (w3.rangeAt gh 0 ds.toList) := Lib.hid (range_of HG3.out 0 ds.toList (by simp [List.take_of_length_le]))
  have F1 : Hid (∀ y, Keep w y → Calls Tryz.prog 17 #[pT T, .agg ds] y fun e w' => e = .returned (.tuple #[iv ((findN ns I).getD 0 : Nat), .bool (findN ns I).isSome]) ∧ Keep y w') := Lib.hid fun y hy => FI.out y I ds hy HI2.out Hds.out
  go_wp2_with ((with_reducible refine load_partg gh 0 ds (Eq.trans ?_ rfl) rg.out _ Tryz.underlying36 rfl hdi rfl ?_); rfl)
  refine (F1.out _ HK3.out).mono ?_
  clear F1 rg
  rintro e w4 ⟨rfl, k4⟩
  have HH4 := Lib.hid (HH3.out.keep k4)
  have HG4 := Lib.hid (HG3.out.keep k4)
  have HK4 := Lib.hid (keep_trans HK3.out k4)
  clear k4 HH3 HG3 HK3
  obtain ⟨FO, hFO⟩ : ∃ f, findN ns I = f := ⟨_, rfl⟩
  rw [hFO]
  have HFO := Lib.hid hFO
  clear hFO
  cases FO with
  | some i =>
    have hA := HADR.out
    unfold addI at hA
    rw [HFO.out] at hA
    simp only at hA
    subst hA
    have hO4 := Lib.hid (HO.out.keep HK4.out)
    have kx := Lib.hid (KeepX.of (X := XT T M v) HK4.out)
    clear HADR HFO HNB HN0 HNok LN WK FI HPV
    go_wp2
    exact bodyPost_ret (v := .tuple #[iv (i : Int), iv 10]) (by simp [results, Tryz.results29]) rfl ⟨rfl, v, hO4.out, kx.out, Or.inl rfl⟩
  | none =>
  have hg4 : w.heap.size ≤ w4.heap.size := HK4.out.size
  go_upto_region 5 with fail
  go_cut [9] (fun s9 wx => ∃ gn, s9 = .pointer (some ⟨gn, 0, none⟩) ∧ w.heap.size < gn ∧ gh < gn ∧ Hid (Blk wx gn 44 n0.toList) ∧ Hid (Keep w4 wx))
  case first =>
    refine wp_region_tree (.take [0,1,2,3] (.fork 4 (.take [5] (.force [6] .done)) 6 (.force [4] (.take [5] .done)))) [7] (by kernel_rfl) (by kernel_rfl) (fun y0 hk => ?_)
    have Q := Lib.hid hk
    have FH := Lib.hid (HH4.out.keep hk)
    have FG := Lib.hid (HG4.out.keep hk)
    clear hk
    refine mt_take y0 (Below.refl _ _) ?_
    simp only [pick_cons, pick_nil, nth_zero, nth_succ]
    have RG : Hid (y0.rangeAt gh 0 ds.toList) := Lib.hid (range_of FG.out 0 ds.toList (by simp [List.take_of_length_le]))
    have RH : Hid (y0.rangeAt w.heap.size 0 cs.toList) := Lib.hid (range_of FH.out 0 cs.toList (by simp [List.take_of_length_le]))
    have c66 := aft_cell ((FH.out.cell 66).trans HBt.out)
    repeat (first
      | ((with_reducible refine wpQuiet_load_partg gh 0 ds (Eq.trans ?_ rfl) RG.out _ Tryz.underlying36 rfl hdi (Eq.trans ?_ rfl) ?_); rfl; rfl; simp only [Act.put, Array.set!_eq_setIfInBounds, List.setIfInBounds_toArray, List.set_cons_succ, List.set_cons_zero])
      | ((with_reducible refine wpQuiet_load_partg w.heap.size 0 cs (Eq.trans ?_ rfl) RH.out _ Tryz.underlying39 rfl hci (Eq.trans ?_ rfl) ?_); rfl; rfl; simp only [Act.put, Array.set!_eq_setIfInBounds, List.setIfInBounds_toArray, List.set_cons_succ, List.set_cons_zero])
      | go_big_quiet_step (fail))
    clear RG RH c66
    refine wpQuiet_nil (mt_fork ?_ ?_)
    · simp only [pick_cons, pick_nil, nth_zero, nth_succ]
      refine fc_step rfl (fun K hK => ?_)
      go_simp
      (with_reducible refine (WK.out _).mono ?_)
      rintro e y1 ⟨rfl, hk⟩
      refine hK _ _ hk ?_
      clear hK K
      have HQ4 : w4.heap.size ≤ y0.heap.size := Q.out.size
      have Hprev := Q
      replace Q := Lib.hid (keep_trans Q.out hk)
      have hs_y1 : y0.heap.size ≤ y1.heap.size := hk.size
      replace FH := Lib.hid (FH.out.keep hk)
      replace FG := Lib.hid (FG.out.keep hk)
      clear hk
      refine fc_nil (mt_take y1 (Below.refl _ _) ?_)
      simp only [pick_cons, pick_nil, nth_zero, nth_succ]
      (with_reducible refine wpQuiet_build [(0, .agg ds), (1, .agg cs), (2, .int .i64 (-1)), (4, uV Wn)] n0 (Eq.trans ?_ rfl) HNB.out ?_)
      · rfl
      simp only [Act.put, Array.set!_eq_setIfInBounds, List.setIfInBounds_toArray, List.set_cons_succ, List.set_cons_zero]
      refine wpQuiet_nil (mt_force ?_)
      simp only [pick_cons, pick_nil, nth_zero, nth_succ]
      refine fc_step rfl (fun K hK => ?_)
      go_simp
      refine hK _ _ (keep_new _ _) ?_
      clear hK K
      obtain ⟨y2, hy⟩ : ∃ y2, y2 = y1.alloc (.cells zn 44) := ⟨_, rfl⟩
      have F6 : Hid (Blk y2 y1.heap.size 44 zn.toList) := by rw [hy]; exact Blk.new y1 _ zn.toList
      have hk : Keep y1 y2 := by rw [hy]; exact keep_new _ _
      rw [← hy]
      clear hy
      have F6s : y1.heap.size < y2.heap.size := F6.out.lt
      have F6n := Q.out.size
      replace Q := Lib.hid (keep_trans Q.out hk)
      have hs_y2 : y1.heap.size ≤ y2.heap.size := hk.size
      replace FH := Lib.hid (FH.out.keep hk)
      replace FG := Lib.hid (FG.out.keep hk)
      clear hk
      generalize hp : y1.heap.size = gn at *
      have F6a : y1.heap.size ≤ gn := Nat.le_of_eq hp
      have F6b : gn ≤ y1.heap.size := Nat.le_of_eq hp.symm
      clear hp
      refine fc_nil (mt_end ?_)
      have hg9 := Q.out.size
      have hltG := HG4.out.lt
      have hltH := HH4.out.lt
      obtain ⟨w8, hst8, hb8, hg8⟩ := run_store_blk (P := Tryz.prog) n0.toList F6.out (by simp [hn1, h0z]) HN0.out.o
      have Hb8 := Lib.hid hb8; have Hg8 := Lib.hid hg8
      clear hb8 hg8
      go_wp2_with fail
      go_meet
      exact ⟨gn, rfl, by omega, by omega, Hb8, Lib.hid (Q.out.grown Hg8.out Q.out.size (fun q hq => by injection hq with hq; omega))⟩
    · simp only [pick_cons, pick_nil, nth_zero, nth_succ]
      refine fc_step rfl (fun K hK => ?_)
      go_simp
      refine hK _ _ (keep_new _ _) ?_
      clear hK K
      obtain ⟨y3, hy⟩ : ∃ y3, y3 = y0.alloc (.cells zn 44) := ⟨_, rfl⟩
      have F6 : Hid (Blk y3 y0.heap.size 44 zn.toList) := by rw [hy]; exact Blk.new y0 _ zn.toList
      have hk : Keep y0 y3 := by rw [hy]; exact keep_new _ _
      rw [← hy]
      clear hy
      have F6s : y0.heap.size < y3.heap.size := F6.out.lt
      have F6n := Q.out.size
      replace Q := Lib.hid (keep_trans Q.out hk)
      have hs_y3 : y0.heap.size ≤ y3.heap.size := hk.size
      replace FH := Lib.hid (FH.out.keep hk)
      replace FG := Lib.hid (FG.out.keep hk)
      clear hk
      generalize hp : y0.heap.size = gn at *
      have F6a : y0.heap.size ≤ gn := Nat.le_of_eq hp
      have F6b : gn ≤ y0.heap.size := Nat.le_of_eq hp.symm
      clear hp
      refine fc_nil (mt_force ?_)
      simp only [pick_cons, pick_nil, nth_zero, nth_succ]
      refine fc_step rfl (fun K hK => ?_)
      go_simp
      (with_reducible refine (WK.out _).mono ?_)
      rintro e y4 ⟨rfl, hk⟩
      refine hK _ _ hk ?_
      clear hK K
      have HQ4 : w4.heap.size ≤ y3.heap.size := Q.out.size
      have Hprev := Q
      replace Q := Lib.hid (keep_trans Q.out hk)
      have hs_y4 : y3.heap.size ≤ y4.heap.size := hk.size
      replace FH := Lib.hid (FH.out.keep hk)
      replace FG := Lib.hid (FG.out.keep hk)
      replace F6 := Lib.hid (F6.out.keep hk)
      clear hk
      refine fc_nil (mt_take y4 (Below.refl _ _) ?_)
      simp only [pick_cons, pick_nil, nth_zero, nth_succ]
      (with_reducible refine wpQuiet_build [(0, .agg ds), (1, .agg cs), (2, .int .i64 (-1)), (4, uV Wn)] n0 (Eq.trans ?_ rfl) HNB.out ?_)
      · rfl
      simp only [Act.put, Array.set!_eq_setIfInBounds, List.setIfInBounds_toArray, List.set_cons_succ, List.set_cons_zero]
      refine wpQuiet_nil (mt_end ?_)
      have hg9 := Q.out.size
      have hltG := HG4.out.lt
      have hltH := HH4.out.lt
      obtain ⟨w8, hst8, hb8, hg8⟩ := run_store_blk (P := Tryz.prog) n0.toList F6.out (by simp [hn1, h0z]) HN0.out.o
      have Hb8 := Lib.hid hb8; have Hg8 := Lib.hid hg8
      clear hb8 hg8
      go_wp2_with fail
      go_meet
      exact ⟨gn, rfl, by omega, by omega, Hb8, Lib.hid (Q.out.grown Hg8.out Q.out.size (fun q hq => by injection hq with hq; omega))⟩
  case rest =>
    obtain ⟨gn, rfl, hgn1, hgn2, HN5, K5⟩ := hcut
    rename World => w5
    have HH5 := Lib.hid (HH4.out.keep K5.out)
    have HG5 := Lib.hid (HG4.out.keep K5.out)
    have HK5 := Lib.hid (keep_trans HK4.out K5.out)
    clear HH4 HG4 HK4 K5 WK HNB
    go_wp2_with fail
    refine (LN.out _ HK5.out).mono ?_
    clear LN
    rintro e w6 ⟨rfl, k6⟩
    have HH6 := Lib.hid (HH5.out.keep k6)
    have HG6 := Lib.hid (HG5.out.keep k6)
    have HN6 := Lib.hid (HN5.out.keep k6)
    have HK6 := Lib.hid (keep_trans HK5.out k6)
    clear k6 HH5 HG5 HN5 HK5
    by_cases hns : ns = []
    · have hlen0 : N = 0 := by rw [← HNE.out, hns]; rfl
      have HX : Hid (newN ns I h Wn = ⟨I, h, -1, 0, Wn⟩) := Lib.hid (if_pos hns)
      have HXA : Hid (NdA (newN ns I h Wn) n0) := Lib.hid (by rw [HX.out]; exact HN0.out)
      have HXI : Hid ((newN ns I h Wn).id = I) := Lib.hid (newN_id _ _ _ _)
      have hxz := h0z; have hxi := h0i
      have HX1 := Lib.hid HN0.out.o
      have hl0 : ¬ (0 : Int) < N := by omega
      clear HX
      obtain ⟨X, hX⟩ : ∃ X, newN ns I h Wn = X := ⟨_, rfl⟩
      have HNX := Lib.hid hX
      rw [hX] at HXA HXI
      clear hX
      go_upto_region 13 with fail
      have HNS := Lib.hid hns
      clear hns hlen0 hl0
      have hO6 := HO.out.keep HK6.out
      obtain ⟨Av, cv, hve, hcv, hmv, hrv⟩ := own_form hO6.o
      have hbT := hO6.b.cell 0; have hbT1 := hO6.b.cell 1
      simp only [List.getElem?_cons_succ, List.getElem?_cons_zero] at hbT hbT1
      have HO6 := Lib.hid hO6
      clear hO6 hrv
      by_cases hfull : most ≤ ns.length
      · have hA := HADR.out
        unfold addI at hA
        rw [HFO.out] at hA
        simp only at hA
        rw [if_neg (fun q => q.1 HNS.out), if_pos hfull] at hA
        subst hA
        have kx := Lib.hid (KeepX.of (X := XT T M v) HK6.out)
        subst hve
        have hfl : most ≤ (ns.length : Int) := hfull
        clear HADR HFO HN0 HNok FI HPV
        refine wp_region_tree (.take [0,1,2,3,4,5,6,7,8,9,10,11,12,13] .done) [] (by kernel_rfl) (by kernel_rfl) (fun w7 k7 => ?_)
        have c0 := aft_cell (keep_cell k7 hbT); have c1 := aft_cell (keep_cell k7 hbT1)
        have HO7 := Lib.hid (HO6.out.keep k7)
        have KX7 := Lib.hid (kx.out.trans (KeepX.of (X := XT T M (.slice Av ns.length cv)) k7) (fun _ _ h => h))
        clear k7
        refine mt_take w7 (Below.refl _ _) ?_
        simp only [pick_cons, pick_nil, nth_zero, nth_succ]
        repeat (go_big_quiet_step (fail))
        refine wpQuiet_nil (mt_end ?_)
        clear c0 c1 hbT hbT1
        go_wp2
        exact bodyPost_ret (v := .tuple #[iv (-1), iv 12]) (by simp [results, Tryz.results29]) rfl ⟨rfl, _, HO7.out, KX7.out, Or.inl rfl⟩
      have hA := HADR.out
      unfold addI at hA
      rw [HFO.out] at hA
      simp only at hA
      rw [if_neg (fun q => q.1 HNS.out), if_neg hfull] at hA
      subst hA
      have hfl : ¬ most ≤ (ns.length : Int) := hfull
      have hvv := hve
      subst hve
      clear HADR hvv
      refine wp_region_tree (.take [0,1,2,3,4,5,6,7,8,9,10,11,12,13] .done) [] (by kernel_rfl) (by kernel_rfl) (fun w7 k7 => ?_)
      have c0 := aft_cell (keep_cell k7 hbT); have c1 := aft_cell (keep_cell k7 hbT1)
      have HO7 := Lib.hid (HO6.out.keep k7)
      have HK7 := Lib.hid (keep_trans HK6.out k7)
      have HN7 := Lib.hid (HN6.out.keep k7)
      have HG7 := Lib.hid (HG6.out.keep k7)
      clear k7 HO6 HK6 HN6 HG6
      refine mt_take w7 (Below.refl _ _) ?_
      simp only [pick_cons, pick_nil, nth_zero, nth_succ]
      repeat (go_big_quiet_step (fail))
      refine wpQuiet_nil (mt_end ?_)
      clear c0 c1 hbT hbT1
      have hbT1 := HO7.out.b.cell 1
      simp only [List.getElem?_cons_succ, List.getElem?_cons_zero] at hbT1
      go_upto_region 16 with fail
      clear hbT1
      letI iM : G.Mk := ⟨(Value.slice Av ns.length cv).ownBlock⟩
      refine G.wp_region_tree (.take [0,1,2,3,4,5] (.force [6,7,8,9] .done)) [10] (by kernel_rfl) (by kernel_rfl) (fun w8 k8 => ?_)
      have HO8 := Lib.hid (HO7.out.keep k8)
      have HK8 := Lib.hid (keep_trans HK7.out k8)
      have HN8 := Lib.hid (HN7.out.keep k8)
      have HG8 := Lib.hid (HG7.out.keep k8)
      clear k8 HO7 HK7 HN7 HG7
      have hltg := HN8.out.lt
      have hlth := HG8.out.lt
      have hltT := HO8.out.b.lt
      have hwk : w.heap.size ≤ w8.heap.size := HK8.out.size
      have hTlt : T < w.heap.size := HO.out.b.lt
      have hneT : G.Mk.m ≠ some T := HO8.out.vT
      have hneN : G.Mk.m ≠ some gn := fun q => by have := (HO.out.o.lt gn q).2; omega
      have b1 := G.aftG_cell (HO8.out.b.cell 1) hneT
      refine G.mt_take w8 (G.Gr.refl _) ?_
      simp only [pick_cons, pick_nil, nth_zero, nth_succ]
      repeat (first
        | ((with_reducible refine G.wpQuiet_load_arrG gn n0 (Eq.trans ?_ rfl) HN8.out hneN _ Tryz.underlying44 rfl hxi ?_); rfl; simp only [Act.put, Array.set!_eq_setIfInBounds, List.setIfInBounds_toArray, List.set_cons_succ, List.set_cons_zero])
        | go_big_quiet_step (fail))
      refine wpQuiet_nil (G.mt_force ?_)
      clear b1
      simp only [pick_cons, pick_nil, nth_zero, nth_succ]
      refine G.fc_step rfl (fun K hK => ?_)
      refine wp_build1b nodeT _ (by rfl) n0 hxz (by omega) (by rfl) ?_
      refine hK _ _ (G.Gr.of_keep (keep_new _ _)) ?_
      clear hK K
      simp only [Act.put, Array.set!_eq_setIfInBounds, List.setIfInBounds_toArray, List.set_cons_succ, List.set_cons_zero]
      have HL9 : Hid (Rd (w8.alloc (.cells n0 44)) (some ⟨w8.heap.size, 0, none⟩) n0.toList) := Lib.hid (by simpa using Rd.new w8 n0.toList 44)
      obtain ⟨w9, hw9⟩ : ∃ w9, w9 = w8.alloc (.cells n0 44) := ⟨_, rfl⟩
      have k9 : Keep w8 w9 := by rw [hw9]; exact keep_new _ _
      rw [← hw9] at HL9 ⊢
      clear hw9
      have HO9 := Lib.hid (HO8.out.keep k9)
      have HK9 := Lib.hid (keep_trans HK8.out k9)
      have HN9 := Lib.hid (HN8.out.keep k9)
      have HG9 := Lib.hid (HG8.out.keep k9)
      have hs89 : w8.heap.size ≤ w9.heap.size := k9.size
      clear k9 HO8 HK8 HN8 HG8
      refine G.fc_step rfl (fun K hK => ?_)
      refine wp_app nodeT _ _ (by rfl) base _ ns.length _ (by rfl) HO9.out.o _ 1 1 n0.toList (by rfl) (by rw [Array.length_toList, hxz]) HL9.out HX1.out (by omega) (by unfold maxLen; omega) (by omega) ?_
      intro v' w10 own10 hg10 hat10
      obtain ⟨A10, c10, hve10, -, -, -⟩ := own_form own10
      subst hve10
      refine hK _ _ hg10 ?_
      clear hK K HL9
      simp only [Act.put, Array.set!_eq_setIfInBounds, List.setIfInBounds_toArray, List.set_cons_succ, List.set_cons_zero]
      have HB10 := Lib.hid (HO9.out.b.grown hg10 HO9.out.vT)
      have HM10 := Lib.hid (HO9.out.m.of_eq (hg10.block M HO9.out.m.lt HO9.out.vM.symm))
      have HG10 := Lib.hid (HG9.out.grown hg10 (fun q => by have := (HO.out.o.lt gh q).2; omega))
      have KX10 : Hid (KeepX (XT T M (.slice Av ns.length cv)) w w10) := Lib.hid ((KeepX.of HK9.out).grown hg10 (fun j _ q => Or.inr (Or.inr q)))
      have hvT : (Value.slice A10 (ns.length + 1) c10).ownBlock ≠ some T := by
        rcases hat10 with q | q
        · rw [q]; exact HO9.out.vT
        · rw [q]; intro q2; injection q2 with q2; omega
      have hMlt : M < w.heap.size := HO.out.m.lt
      have hvM : (Value.slice A10 (ns.length + 1) c10).ownBlock ≠ some M := by
        rcases hat10 with q | q
        · rw [q]; exact HO9.out.vM
        · rw [q]; intro q2; injection q2 with q2; omega
      have HAT : Hid ((Value.slice A10 (ns.length + 1) c10).ownBlock = (Value.slice Av ns.length cv).ownBlock ∨ ∀ b, (Value.slice A10 (ns.length + 1) c10).ownBlock = some b → w.heap.size ≤ b) := Lib.hid (hat10.imp id (fun q b q2 => by rw [q] at q2; injection q2 with q2; omega))
      have OWN10 := Lib.hid own10
      clear own10 hg10 hat10 HN9 HG9 HK9
      refine G.fc_step rfl (fun K hK => ?_)
      go_simp
      refine hK _ _ (G.Gr.refl _) ?_
      clear hK K
      refine G.fc_step rfl (fun K hK => ?_)
      go_simp
      refine hK _ _ (G.Gr.refl _) ?_
      clear hK K
      refine G.fc_nil (G.mt_end ?_)
      clear hneT hneN
      clear iM
      have f1 : w10.frozen? ⟨T, 1, none⟩ = false := HB10.out.frozen 1
      have c1 : w10.cell? ⟨T, 1, none⟩ = some (.slice Av ns.length cv) := HB10.out.cell 1
      go_upto_region 17 with fail
      obtain ⟨w11, hw11⟩ : ∃ w11, w11 = w10.setCell ⟨T, 1, none⟩ (.slice A10 (ns.length + 1) c10) := ⟨_, rfl⟩
      have HB11 : Hid (Blk w11 T 72 [.int .i64 most, .slice A10 (ns.length + 1) c10, .map (some M)]) := by rw [hw11]; exact Lib.hid (HB10.out.set_ 1 _)
      have hg11 : w10.grownBy w11 (some T) := by rw [hw11]; exact grown_one _ _ _ _
      have HM11 := Lib.hid (HM10.out.of_eq (hg11.block M HM10.out.lt (fun q => HO.out.ne (Option.some.inj q).symm)))
      have OWN11 := Lib.hid (OWN10.out.kept hg11 (Or.inr hvT))
      have KX11 : Hid (KeepX (XT T M (.slice Av ns.length cv)) w w11) := Lib.hid (KX10.out.grown hg11 (fun j _ q => Or.inl (Option.some.inj q).symm))
      have HG11 := Lib.hid (HG10.out.grown hg11 (fun q => by injection q with q; omega))
      rw [← hw11]
      clear hw11 c1 f1 hg11 HB10 HM10 OWN10 KX10 HG10
      refine wp_region_tree (.take [0,1,2,3,4,5] .done) [6] (by kernel_rfl) (by kernel_rfl) (fun w12 k12 => ?_)
      have HB12 := Lib.hid (HB11.out.keep k12)
      have HM12 := Lib.hid (HM11.out.keep k12)
      have OWN12 := Lib.hid (own_keep OWN11.out k12)
      have KX12 := Lib.hid (KX11.out.trans (KeepX.of (X := XT T M (.slice Av ns.length cv)) k12) (fun _ _ h => h))
      have HG12 := Lib.hid (HG11.out.keep k12)
      clear k12 HB11 HM11 OWN11 KX11 HG11
      have c2 := aft_cell (HB12.out.cell 2)
      have RG : Hid (w12.rangeAt gh 0 ds.toList) := Lib.hid (range_of HG12.out 0 ds.toList (by simp [List.take_of_length_le]))
      refine mt_take w12 (Below.refl _ _) ?_
      simp only [pick_cons, pick_nil, nth_zero, nth_succ]
      repeat (first
        | ((with_reducible refine wpQuiet_load_partg gh 0 ds (Eq.trans ?_ rfl) RG.out _ Tryz.underlying36 rfl hdi (Eq.trans ?_ rfl) ?_); rfl; rfl; simp only [Act.put, Array.set!_eq_setIfInBounds, List.setIfInBounds_toArray, List.set_cons_succ, List.set_cons_zero])
        | go_big_quiet_step (fail))
      refine wpQuiet_nil (mt_end ?_)
      clear c2 RG
      have HIX : Hid (idxI (ns.map Nd.id) I = none) := Lib.hid (by have := HFO.out; unfold findN at this; unfold idxI; rw [List.findIdx?_map]; exact this)
      have hml : (ns.map Nd.id).length = ns.length := List.length_map _
      refine wpList_write M (ns.map Nd.id) I ds (by rfl) (by rfl) (by rw [hml]; rfl) HM12.out Hds.out HI2.out HIX.out ?_
      intro w13 hm13 hg13
      simp only [Act.put, Array.set!_eq_setIfInBounds, List.setIfInBounds_toArray, List.set_cons_succ, List.set_cons_zero]
      have FIN : Hid (TrO w13 base T M (.slice A10 (ns.length + 1) c10) most (ns ++ [X])) := Lib.hid ⟨HB12.out.grown hg13 (fun q => HO.out.ne (Option.some.inj q).symm), by
        have q := OWN12.out.kept hg13 (Or.inr hvM)
        rw [List.length_append, List.flatMap_append, List.flatMap_cons, List.flatMap_nil, List.append_nil, ← HXA.out.l]
        exact q, by rw [List.map_append, List.map_cons, List.map_nil, HXI.out]; exact hm13, HO.out.bT, HO.out.bM, HO.out.ne, hvT, hvM⟩
      have FIN2 : Hid (TrO w13 base T M (.slice A10 (ns.length + 1) c10) most (ns ++ [newN ns I h Wn])) := Lib.hid (by rw [HNX.out]; exact FIN.out)
      have KXF : Hid (KeepX (XT T M (.slice Av ns.length cv)) w w13) := Lib.hid (KX12.out.grown hg13 (fun j _ q => Or.inr (Or.inl (Option.some.inj q).symm)))
      clear hm13 hg13 HB12 HM12 OWN12 KX12 HG12 HIX HXA HXI HX1 HFO FI HPV
      go_wp2
      exact bodyPost_ret (v := .tuple #[iv (ns.length : Int), iv 0]) (by simp [results, Tryz.results29]) rfl ⟨rfl, _, FIN2.out, KXF.out, HAT.out⟩
    have hl0 : 0 < N := by
      have q : 0 < ns.length := List.length_pos_iff.2 hns
      have q2 := HNE.out
      omega
    have HNS := Lib.hid hns
    clear hns
    have F2 : Hid (∀ y, Keep w y → Calls Tryz.prog 17 #[pT T, .agg pv] y fun e w' => e = .returned (.tuple #[iv ((findN ns h.prev).getD 0 : Nat), .bool (findN ns h.prev).isSome]) ∧ Keep y w') := Lib.hid fun y hy => FI.out y h.prev pv hy HPL.out Hpv.out
    have RP : Hid (w6.rangeAt w.heap.size 1 pv.toList) := Lib.hid (HPV.out _ _ _ HH6.out)
    go_wp2_with ((with_reducible refine load_partg w.heap.size 1 pv (Eq.trans ?_ rfl) RP.out _ Tryz.underlying36 rfl hpi rfl ?_); rfl)
    refine (F2.out _ HK6.out).mono ?_
    clear F2 RP
    rintro e w7 ⟨rfl, k7⟩
    have HH7 := Lib.hid (HH6.out.keep k7)
    have HG7 := Lib.hid (HG6.out.keep k7)
    have HN7 := Lib.hid (HN6.out.keep k7)
    have HK7 := Lib.hid (keep_trans HK6.out k7)
    clear k7 HH6 HG6 HN6 HK6
    obtain ⟨FP, hFP⟩ : ∃ f, findN ns h.prev = f := ⟨_, rfl⟩
    rw [hFP]
    have HFP := Lib.hid hFP
    clear hFP
    cases FP with
    | none =>
      have hA := HADR.out
      unfold addI at hA
      rw [HFO.out] at hA
      simp only at hA
      rw [if_pos ⟨HNS.out, HFP.out⟩] at hA
      subst hA
      have hO7 := Lib.hid (HO.out.keep HK7.out)
      have kx := Lib.hid (KeepX.of (X := XT T M v) HK7.out)
      clear HADR HFO HFP HN0 HNok FI HPV hl0
      go_wp2
      exact bodyPost_ret (v := .tuple #[iv (-1), iv 9]) (by simp [results, Tryz.results29]) rfl ⟨rfl, v, hO7.out, kx.out, Or.inl rfl⟩
    | some i =>
    obtain ⟨nd, hnd, hndi⟩ := find_some HFP.out
    have hin := (List.getElem?_eq_some_iff.1 hnd).1
    have hndo := TR.ok nd (List.mem_of_getElem? hnd)
    have hO7 := HO.out.keep HK7.out
    obtain ⟨Av, cv, hve, hcv, hmv, hrv⟩ := own_form hO7.o
    obtain ⟨b, off, hAb, -, hrx⟩ := node_at hrv TR.ok hin
    have hge : ns[i] = nd := (List.getElem?_eq_some_iff.1 hnd).2
    rw [hge] at hrx
    obtain ⟨xs, hxs⟩ : ∃ xs, NdA nd xs := ⟨_, NdA.of hndo⟩
    rw [← hxs.l] at hrx
    have HRX := Lib.hid hrx
    have hxz0 := hxs.z; have hxn0 := hxs.n; have hxi0 := hxs.i
    have Hxs := Lib.hid hxs
    have c1 := hO7.b.cell 1
    rw [hve, hAb] at c1
    simp only [List.getElem?_cons_succ, List.getElem?_cons_zero] at c1
    have hle := TR.le i hin
    rw [hgtN_of hnd] at hle
    have d3 : (i : Int) < ns.length := by omega
    have hst : (storeCells ⟨w7.heap.size, 0, none⟩ xs.toList 0).run Tryz.prog (w7.alloc (.cells zn 44)) = .ok () (w7.alloc (.cells xs 44)) := run_storeCells_new (P := Tryz.prog) w7 44 zn xs hxi0 (hn1.trans hxz0.symm) (by have := all_oneCell_toArray hxs.o; rwa [Array.toArray_toList] at this)
    have HX : Hid (newN ns I h Wn = ⟨I, h, i, nd.hgt + 1, sumN nd.work Wn⟩) := Lib.hid (by unfold newN; rw [if_neg HNS.out, HFP.out]; simp only; rw [hgtN_of hnd, hnd]; rfl)
    have HXI : Hid ((newN ns I h Wn).id = I) := Lib.hid (newN_id _ _ _ _)
    have hXok : (newN ns I h Wn).ok := by rw [HX.out]; exact ⟨HI2.out, Hho.out, sumN_lt _ _⟩
    obtain ⟨x1, hx1⟩ : ∃ x1, (newN ns I h Wn).cells.toArray = x1 := ⟨_, rfl⟩
    have hXA := NdA.of hXok
    rw [hx1] at hXA
    have HXA := Lib.hid hXA
    have hxz := hXA.z; have hxi := hXA.i
    have HX1 := Lib.hid hXA.o
    have HCH : Hid ((((((n0.toList.set 100 (.int .i64 (i : Int))).set 101 (.int .i64 ((nd.hgt : Int) + 1))).set 102 (n64 (limb (sumN nd.work Wn) 0))).set 103 (n64 (limb (sumN nd.work Wn) 1))).set 104 (n64 (limb (sumN nd.work Wn) 2))).set 105 (n64 (limb (sumN nd.work Wn) 3)) = x1.toList) := Lib.hid (by
      rw [show ((nd.hgt : Int) + 1) = ((nd.hgt + 1 : Nat) : Int) by omega, hXA.l, HX.out, HN0.out.l, nd_set2 HNok.out]
      exact nd_set4 (n := ⟨I, h, (i : Int), nd.hgt + 1, Wn⟩) ⟨HI2.out, Hho.out, HW2.out⟩ _)
    have AD : Hid (∀ y, Calls Tryz.prog 39 #[uV nd.work, uV Wn] y fun e w' => ∃ bb, e = .returned (.tuple #[uV (sumN nd.work Wn), .bool bb]) ∧ Keep y w') := Lib.hid fun y => (add_u _ _ y hndo.2.2 HW2.out).mono fun e w' ⟨h1, h2⟩ => ⟨_, h1, h2⟩
    have HC101 : Hid (xs.toList[101]? = some (iv (nd.hgt : Int))) := Lib.hid (by rw [hxs.l]; exact nd_hgt hndo)
    have HWB := Lib.hid (nd_work hndo)
    rw [← hxs.l] at HWB
    have HWN : Hid (x1.toList.length = 106) := Lib.hid (by rw [Array.length_toList]; exact hxz)
    obtain ⟨S, hS⟩ : ∃ S, sumN nd.work Wn = S := ⟨_, rfl⟩
    obtain ⟨WB, hWB⟩ : ∃ S, nd.work = S := ⟨_, rfl⟩
    obtain ⟨hh, hhh⟩ : ∃ S, nd.hgt = S := ⟨_, rfl⟩
    rw [hS] at AD HCH
    rw [hWB] at AD HWB
    rw [hhh] at HC101 HCH hle
    obtain ⟨X, hX⟩ : ∃ X, newN ns I h Wn = X := ⟨_, rfl⟩
    have HNX := Lib.hid hX
    rw [hX] at HXA HXI
    clear hX hS hWB hhh hxs hXA hx1 hXok HX hge hrx hrv hO7 hndi hndo hnd hAb
    clear hcv hmv
    go_upto_region 11 with ((with_reducible refine load_partg b (off + i * 106) xs (Eq.trans ?_ rfl) HRX.out _ Tryz.underlying44 rfl hxi0 rfl ?_); rfl)
    clear c1 hst
    obtain ⟨w8, hw8⟩ : ∃ w8, w8 = w7.alloc (.cells xs 44) := ⟨_, rfl⟩
    have HH8 : Hid (Blk w8 w.heap.size 39 cs.toList) := by rw [hw8]; exact Lib.hid (HH7.out.alloc _)
    have HG8 : Hid (Blk w8 gh 36 ds.toList) := by rw [hw8]; exact Lib.hid (HG7.out.alloc _)
    have HN8 : Hid (Blk w8 gn 44 n0.toList) := by rw [hw8]; exact Lib.hid (HN7.out.alloc _)
    have HB8 : Hid (Blk w8 w7.heap.size 44 xs.toList) := by rw [hw8]; exact Lib.hid (Blk.new w7 44 xs.toList)
    have HK8 : Hid (Keep w w8) := by rw [hw8]; exact Lib.hid (keep_trans HK7.out (keep_new _ _))
    rw [← hw8]
    have hgs8 : w.heap.size ≤ w7.heap.size := HK7.out.size
    have hltHH8 := HH7.out.lt
    have hltHG8 := HG7.out.lt
    have hltHN8 := HN7.out.lt
    clear hw8 HH7 HG7 HN7 HK7
    generalize w7.heap.size = gb at *
    have hgbn : gn < gb := hltHN8
    have w101 : IntKind.i64.wrap ((hh : Int) + 1) = (hh : Int) + 1 := IntWalk.i64_in _ (by omega)
    letI iM : G.Mk := ⟨some gn⟩
    refine G.wp_region_tree (.take [0,1,2,3,4] (.force [5] (.take [6] .done))) [7] (by kernel_rfl) (by kernel_rfl) (fun w9 k9 => ?_)
    have hneB : G.Mk.m ≠ some gb := fun q => by have e2 : gn = gb := Option.some.inj q; omega
    have HH9 := Lib.hid (HH8.out.keep k9)
    have HG9 := Lib.hid (HG8.out.keep k9)
    have HN9 := Lib.hid (HN8.out.keep k9)
    have HB9 := Lib.hid (HB8.out.keep k9)
    have HK9 := Lib.hid (keep_trans HK8.out k9)
    clear k9 HH8 HG8 HN8 HB8 HK8
    have b0 := G.aftG_cell ((HB9.out.cell 101).trans HC101.out) hneB
    refine G.mt_take w9 (G.Gr.refl _) ?_
    simp only [pick_cons, pick_nil, nth_zero, nth_succ]
    repeat (go_big_quiet_step (fail))
    refine wpQuiet_nil (G.mt_force ?_)
    clear b0
    simp only [pick_cons, pick_nil, nth_zero, nth_succ]
    refine G.fc_step rfl (fun K hK => ?_)
    have hn100 : ∃ u, n0.toList[100]? = some u := ⟨_, List.getElem?_eq_getElem (by rw [Array.length_toList, h0z]; omega)⟩
    obtain ⟨u100, hu100⟩ := hn100
    have r0 := (HN9.out.cell 100).trans hu100; have f0 := HN9.out.frozen 100
    go_simp
    refine hK _ _ (show G.Gr w9 _ from grown_set (grown_refl w9 _)) ?_
    clear hK K
    obtain ⟨wa, hwa⟩ : ∃ wa, wa = w9.setCell ⟨gn, 100, none⟩ (.int .i64 (i : Int)) := ⟨_, rfl⟩
    have HNa : Hid (Blk wa gn 44 (n0.toList.set 100 (.int .i64 (i : Int)))) := by rw [hwa]; exact Lib.hid (HN9.out.set_ 100 _)
    have HHa : Hid (Blk wa w.heap.size 39 cs.toList) := by rw [hwa]; exact Lib.hid (HH9.out.far (by simp <;> omega) _)
    have HGa : Hid (Blk wa gh 36 ds.toList) := by rw [hwa]; exact Lib.hid (HG9.out.far (by simp <;> omega) _)
    have HBa : Hid (Blk wa gb 44 xs.toList) := by rw [hwa]; exact Lib.hid (HB9.out.far (by simp <;> omega) _)
    have HKa : Hid (Keep w wa) := by rw [hwa]; exact Lib.hid (Below.setCell HK9.out (by simp <;> omega) _)
    rw [← hwa]
    clear hwa r0 f0 hu100 HH9 HG9 HN9 HB9 HK9
    refine G.fc_nil (G.mt_take _ (G.Gr.refl _) ?_)
    simp only [pick_cons, pick_nil, nth_zero, nth_succ]
    repeat (go_big_quiet_step (fail))
    refine wpQuiet_nil (G.mt_end ?_)
    clear hneB
    clear iM
    have hn101 : ∃ u, (n0.toList.set 100 (.int .i64 (i : Int)))[101]? = some u := ⟨_, List.getElem?_eq_getElem (by rw [List.length_set, Array.length_toList, h0z]; omega)⟩
    obtain ⟨u101, hu101⟩ := hn101
    have r0 := (HNa.out.cell 101).trans hu101; have f0 := HNa.out.frozen 101
    go_upto_region 12 with fail
    obtain ⟨wb, hwb⟩ : ∃ wb, wb = wa.setCell ⟨gn, 101, none⟩ (.int .i64 ((hh : Int) + 1)) := ⟨_, rfl⟩
    obtain ⟨L2, hL2⟩ : ∃ L2, (n0.toList.set 100 (.int .i64 (i : Int))).set 101 (.int .i64 ((hh : Int) + 1)) = L2 := ⟨_, rfl⟩
    have HNb : Hid (Blk wb gn 44 L2) := by rw [hwb, ← hL2]; exact Lib.hid (HNa.out.set_ 101 _)
    have HHb : Hid (Blk wb w.heap.size 39 cs.toList) := by rw [hwb]; exact Lib.hid (HHa.out.far (by simp <;> omega) _)
    have HGb : Hid (Blk wb gh 36 ds.toList) := by rw [hwb]; exact Lib.hid (HGa.out.far (by simp <;> omega) _)
    have HBb : Hid (Blk wb gb 44 xs.toList) := by rw [hwb]; exact Lib.hid (HBa.out.far (by simp <;> omega) _)
    have HKb : Hid (Keep w wb) := by rw [hwb]; exact Lib.hid (Below.setCell HKa.out (by simp <;> omega) _)
    rw [← hwb]
    clear hwb r0 f0 hu101 HHa HGa HNa HBa HKa
    have HWL : Hid (L2[102]? = some (n64 (limb Wn 0)) ∧ L2[103]? = some (n64 (limb Wn 1)) ∧ L2[104]? = some (n64 (limb Wn 2)) ∧ L2[105]? = some (n64 (limb Wn 3))) := Lib.hid (by
      have q := nd_work HNok.out
      rw [← HN0.out.l] at q
      rw [← hL2]
      simp only [List.getElem?_set]
      simpa using q)
    rw [hL2] at HCH
    clear hL2
    have a0 := (HBb.out.cell 102).trans HWB.out.1; have a1 := (HBb.out.cell 103).trans HWB.out.2.1; have a2 := (HBb.out.cell 104).trans HWB.out.2.2.1; have a3 := (HBb.out.cell 105).trans HWB.out.2.2.2
    have b0 := (HNb.out.cell 102).trans HWL.out.1; have b1 := (HNb.out.cell 103).trans HWL.out.2.1; have b2 := (HNb.out.cell 104).trans HWL.out.2.2.1; have b3 := (HNb.out.cell 105).trans HWL.out.2.2.2
    go_wp2_with fail
    refine (AD.out _).mono ?_
    clear AD a0 a1 a2 a3 b0 b1 b2 b3
    rintro e wc ⟨bb, rfl, kc⟩
    have HHc := Lib.hid (HHb.out.keep kc)
    have HGc := Lib.hid (HGb.out.keep kc)
    have HNc := Lib.hid (HNb.out.keep kc)
    have HKc := Lib.hid (keep_trans HKb.out kc)
    clear kc HHb HGb HNb HKb
    have b0 := (HNc.out.cell 102).trans HWL.out.1; have b1 := (HNc.out.cell 103).trans HWL.out.2.1; have b2 := (HNc.out.cell 104).trans HWL.out.2.2.1; have b3 := (HNc.out.cell 105).trans HWL.out.2.2.2
    have f0 := HNc.out.frozen 102; have f1 := HNc.out.frozen 103; have f2 := HNc.out.frozen 104; have f3 := HNc.out.frozen 105
    go_upto_region 13 with fail
    obtain ⟨wd, hwd⟩ : ∃ wd, wd = ((((wc.setCell ⟨gn, 102, none⟩ (n64 (limb S 0))).setCell ⟨gn, 103, none⟩ (n64 (limb S 1))).setCell ⟨gn, 104, none⟩ (n64 (limb S 2))).setCell ⟨gn, 105, none⟩ (n64 (limb S 3))) := ⟨_, rfl⟩
    have HNd : Hid (Blk wd gn 44 x1.toList) := by
      rw [hwd, ← HCH.out]
      exact Lib.hid ((((HNc.out.set_ 102 _).set_ 103 _).set_ 104 _).set_ 105 _)
    have HGd : Hid (Blk wd gh 36 ds.toList) := by rw [hwd]; exact Lib.hid ((((HGc.out.far (by simp <;> omega) _).far (by simp <;> omega) _).far (by simp <;> omega) _).far (by simp <;> omega) _)
    have HKd : Hid (Keep w wd) := by
      rw [hwd]
      refine Lib.hid ?_
      iterate 4 (refine Below.setCell ?_ (by simp <;> omega) _)
      exact HKc.out
    rw [← hwd]
    clear hwd b0 b1 b2 b3 f0 f1 f2 f3 HHc HGc HNc HKc HCH HWL HWB hl0
    clear hve
    have hO6 := HO.out.keep HKd.out
    obtain ⟨Av, cv, hve, hcv, hmv, hrv⟩ := own_form hO6.o
    have hbT := hO6.b.cell 0; have hbT1 := hO6.b.cell 1
    simp only [List.getElem?_cons_succ, List.getElem?_cons_zero] at hbT hbT1
    have HO6 := Lib.hid hO6
    clear hO6 hrv
    by_cases hfull : most ≤ ns.length
    · have hA := HADR.out
      unfold addI at hA
      rw [HFO.out] at hA
      simp only at hA
      rw [if_neg (fun q => by have := HFP.out; rw [q.2] at this; cases this), if_pos hfull] at hA
      subst hA
      have kx := Lib.hid (KeepX.of (X := XT T M v) HKd.out)
      subst hve
      have hfl : most ≤ (ns.length : Int) := hfull
      clear HADR HFO HN0 HNok FI HPV
      refine wp_region_tree (.take [0,1,2,3,4,5,6,7,8,9,10,11,12,13] .done) [] (by kernel_rfl) (by kernel_rfl) (fun w7 k7 => ?_)
      have c0 := aft_cell (keep_cell k7 hbT); have c1 := aft_cell (keep_cell k7 hbT1)
      have HO7 := Lib.hid (HO6.out.keep k7)
      have KX7 := Lib.hid (kx.out.trans (KeepX.of (X := XT T M (.slice Av ns.length cv)) k7) (fun _ _ h => h))
      clear k7
      refine mt_take w7 (Below.refl _ _) ?_
      simp only [pick_cons, pick_nil, nth_zero, nth_succ]
      repeat (go_big_quiet_step (fail))
      refine wpQuiet_nil (mt_end ?_)
      clear c0 c1 hbT hbT1
      go_wp2
      exact bodyPost_ret (v := .tuple #[iv (-1), iv 12]) (by simp [results, Tryz.results29]) rfl ⟨rfl, _, HO7.out, KX7.out, Or.inl rfl⟩
    have hA := HADR.out
    unfold addI at hA
    rw [HFO.out] at hA
    simp only at hA
    rw [if_neg (fun q => by have := HFP.out; rw [q.2] at this; cases this), if_neg hfull] at hA
    subst hA
    have hfl : ¬ most ≤ (ns.length : Int) := hfull
    have hvv := hve
    subst hve
    clear HADR hvv
    refine wp_region_tree (.take [0,1,2,3,4,5,6,7,8,9,10,11,12,13] .done) [] (by kernel_rfl) (by kernel_rfl) (fun w7 k7 => ?_)
    have c0 := aft_cell (keep_cell k7 hbT); have c1 := aft_cell (keep_cell k7 hbT1)
    have HO7 := Lib.hid (HO6.out.keep k7)
    have HK7 := Lib.hid (keep_trans HKd.out k7)
    have HN7 := Lib.hid (HNd.out.keep k7)
    have HG7 := Lib.hid (HGd.out.keep k7)
    clear k7 HO6 HKd HNd HGd
    refine mt_take w7 (Below.refl _ _) ?_
    simp only [pick_cons, pick_nil, nth_zero, nth_succ]
    repeat (go_big_quiet_step (fail))
    refine wpQuiet_nil (mt_end ?_)
    clear c0 c1 hbT hbT1
    have hbT1 := HO7.out.b.cell 1
    simp only [List.getElem?_cons_succ, List.getElem?_cons_zero] at hbT1
    go_upto_region 16 with fail
    clear hbT1
    letI iM : G.Mk := ⟨(Value.slice Av ns.length cv).ownBlock⟩
    refine G.wp_region_tree (.take [0,1,2,3,4,5] (.force [6,7,8,9] .done)) [10] (by kernel_rfl) (by kernel_rfl) (fun w8 k8 => ?_)
    have HO8 := Lib.hid (HO7.out.keep k8)
    have HK8 := Lib.hid (keep_trans HK7.out k8)
    have HN8 := Lib.hid (HN7.out.keep k8)
    have HG8 := Lib.hid (HG7.out.keep k8)
    clear k8 HO7 HK7 HN7 HG7
    have hltg := HN8.out.lt
    have hlth := HG8.out.lt
    have hltT := HO8.out.b.lt
    have hwk : w.heap.size ≤ w8.heap.size := HK8.out.size
    have hTlt : T < w.heap.size := HO.out.b.lt
    have hneT : G.Mk.m ≠ some T := HO8.out.vT
    have hneN : G.Mk.m ≠ some gn := fun q => by have := (HO.out.o.lt gn q).2; omega
    have b1 := G.aftG_cell (HO8.out.b.cell 1) hneT
    refine G.mt_take w8 (G.Gr.refl _) ?_
    simp only [pick_cons, pick_nil, nth_zero, nth_succ]
    repeat (first
      | ((with_reducible refine G.wpQuiet_load_arrG gn x1 (Eq.trans ?_ rfl) HN8.out hneN _ Tryz.underlying44 rfl hxi ?_); rfl; simp only [Act.put, Array.set!_eq_setIfInBounds, List.setIfInBounds_toArray, List.set_cons_succ, List.set_cons_zero])
      | go_big_quiet_step (fail))
    refine wpQuiet_nil (G.mt_force ?_)
    clear b1
    simp only [pick_cons, pick_nil, nth_zero, nth_succ]
    refine G.fc_step rfl (fun K hK => ?_)
    refine wp_build1b nodeT _ (by rfl) x1 hxz (by omega) (by rfl) ?_
    refine hK _ _ (G.Gr.of_keep (keep_new _ _)) ?_
    clear hK K
    simp only [Act.put, Array.set!_eq_setIfInBounds, List.setIfInBounds_toArray, List.set_cons_succ, List.set_cons_zero]
    have HL9 : Hid (Rd (w8.alloc (.cells x1 44)) (some ⟨w8.heap.size, 0, none⟩) x1.toList) := Lib.hid (by simpa using Rd.new w8 x1.toList 44)
    obtain ⟨w9, hw9⟩ : ∃ w9, w9 = w8.alloc (.cells x1 44) := ⟨_, rfl⟩
    have k9 : Keep w8 w9 := by rw [hw9]; exact keep_new _ _
    rw [← hw9] at HL9 ⊢
    clear hw9
    have HO9 := Lib.hid (HO8.out.keep k9)
    have HK9 := Lib.hid (keep_trans HK8.out k9)
    have HN9 := Lib.hid (HN8.out.keep k9)
    have HG9 := Lib.hid (HG8.out.keep k9)
    have hs89 : w8.heap.size ≤ w9.heap.size := k9.size
    clear k9 HO8 HK8 HN8 HG8
    refine G.fc_step rfl (fun K hK => ?_)
    refine wp_app nodeT _ _ (by rfl) base _ ns.length _ (by rfl) HO9.out.o _ 1 1 x1.toList (by rfl) (by rw [Array.length_toList, hxz]) HL9.out HX1.out (by omega) (by unfold maxLen; omega) (by omega) ?_
    intro v' w10 own10 hg10 hat10
    obtain ⟨A10, c10, hve10, -, -, -⟩ := own_form own10
    subst hve10
    refine hK _ _ hg10 ?_
    clear hK K HL9
    simp only [Act.put, Array.set!_eq_setIfInBounds, List.setIfInBounds_toArray, List.set_cons_succ, List.set_cons_zero]
    have HB10 := Lib.hid (HO9.out.b.grown hg10 HO9.out.vT)
    have HM10 := Lib.hid (HO9.out.m.of_eq (hg10.block M HO9.out.m.lt HO9.out.vM.symm))
    have HG10 := Lib.hid (HG9.out.grown hg10 (fun q => by have := (HO.out.o.lt gh q).2; omega))
    have KX10 : Hid (KeepX (XT T M (.slice Av ns.length cv)) w w10) := Lib.hid ((KeepX.of HK9.out).grown hg10 (fun j _ q => Or.inr (Or.inr q)))
    have hvT : (Value.slice A10 (ns.length + 1) c10).ownBlock ≠ some T := by
      rcases hat10 with q | q
      · rw [q]; exact HO9.out.vT
      · rw [q]; intro q2; injection q2 with q2; omega
    have hMlt : M < w.heap.size := HO.out.m.lt
    have hvM : (Value.slice A10 (ns.length + 1) c10).ownBlock ≠ some M := by
      rcases hat10 with q | q
      · rw [q]; exact HO9.out.vM
      · rw [q]; intro q2; injection q2 with q2; omega
    have HAT : Hid ((Value.slice A10 (ns.length + 1) c10).ownBlock = (Value.slice Av ns.length cv).ownBlock ∨ ∀ b, (Value.slice A10 (ns.length + 1) c10).ownBlock = some b → w.heap.size ≤ b) := Lib.hid (hat10.imp id (fun q b q2 => by rw [q] at q2; injection q2 with q2; omega))
    have OWN10 := Lib.hid own10
    clear own10 hg10 hat10 HN9 HG9 HK9
    refine G.fc_step rfl (fun K hK => ?_)
    go_simp
    refine hK _ _ (G.Gr.refl _) ?_
    clear hK K
    refine G.fc_step rfl (fun K hK => ?_)
    go_simp
    refine hK _ _ (G.Gr.refl _) ?_
    clear hK K
    refine G.fc_nil (G.mt_end ?_)
    clear hneT hneN
    clear iM
    have f1 : w10.frozen? ⟨T, 1, none⟩ = false := HB10.out.frozen 1
    have c1 : w10.cell? ⟨T, 1, none⟩ = some (.slice Av ns.length cv) := HB10.out.cell 1
    go_upto_region 17 with fail
    obtain ⟨w11, hw11⟩ : ∃ w11, w11 = w10.setCell ⟨T, 1, none⟩ (.slice A10 (ns.length + 1) c10) := ⟨_, rfl⟩
    have HB11 : Hid (Blk w11 T 72 [.int .i64 most, .slice A10 (ns.length + 1) c10, .map (some M)]) := by rw [hw11]; exact Lib.hid (HB10.out.set_ 1 _)
    have hg11 : w10.grownBy w11 (some T) := by rw [hw11]; exact grown_one _ _ _ _
    have HM11 := Lib.hid (HM10.out.of_eq (hg11.block M HM10.out.lt (fun q => HO.out.ne (Option.some.inj q).symm)))
    have OWN11 := Lib.hid (OWN10.out.kept hg11 (Or.inr hvT))
    have KX11 : Hid (KeepX (XT T M (.slice Av ns.length cv)) w w11) := Lib.hid (KX10.out.grown hg11 (fun j _ q => Or.inl (Option.some.inj q).symm))
    have HG11 := Lib.hid (HG10.out.grown hg11 (fun q => by injection q with q; omega))
    rw [← hw11]
    clear hw11 c1 f1 hg11 HB10 HM10 OWN10 KX10 HG10
    refine wp_region_tree (.take [0,1,2,3,4,5] .done) [6] (by kernel_rfl) (by kernel_rfl) (fun w12 k12 => ?_)
    have HB12 := Lib.hid (HB11.out.keep k12)
    have HM12 := Lib.hid (HM11.out.keep k12)
    have OWN12 := Lib.hid (own_keep OWN11.out k12)
    have KX12 := Lib.hid (KX11.out.trans (KeepX.of (X := XT T M (.slice Av ns.length cv)) k12) (fun _ _ h => h))
    have HG12 := Lib.hid (HG11.out.keep k12)
    clear k12 HB11 HM11 OWN11 KX11 HG11
    have c2 := aft_cell (HB12.out.cell 2)
    have RG : Hid (w12.rangeAt gh 0 ds.toList) := Lib.hid (range_of HG12.out 0 ds.toList (by simp [List.take_of_length_le]))
    refine mt_take w12 (Below.refl _ _) ?_
    simp only [pick_cons, pick_nil, nth_zero, nth_succ]
    repeat (first
      | ((with_reducible refine wpQuiet_load_partg gh 0 ds (Eq.trans ?_ rfl) RG.out _ Tryz.underlying36 rfl hdi (Eq.trans ?_ rfl) ?_); rfl; rfl; simp only [Act.put, Array.set!_eq_setIfInBounds, List.setIfInBounds_toArray, List.set_cons_succ, List.set_cons_zero])
      | go_big_quiet_step (fail))
    refine wpQuiet_nil (mt_end ?_)
    clear c2 RG
    have HIX : Hid (idxI (ns.map Nd.id) I = none) := Lib.hid (by have := HFO.out; unfold findN at this; unfold idxI; rw [List.findIdx?_map]; exact this)
    have hml : (ns.map Nd.id).length = ns.length := List.length_map _
    refine wpList_write M (ns.map Nd.id) I ds (by rfl) (by rfl) (by rw [hml]; rfl) HM12.out Hds.out HI2.out HIX.out ?_
    intro w13 hm13 hg13
    simp only [Act.put, Array.set!_eq_setIfInBounds, List.setIfInBounds_toArray, List.set_cons_succ, List.set_cons_zero]
    have FIN : Hid (TrO w13 base T M (.slice A10 (ns.length + 1) c10) most (ns ++ [X])) := Lib.hid ⟨HB12.out.grown hg13 (fun q => HO.out.ne (Option.some.inj q).symm), by
      have q := OWN12.out.kept hg13 (Or.inr hvM)
      rw [List.length_append, List.flatMap_append, List.flatMap_cons, List.flatMap_nil, List.append_nil, ← HXA.out.l]
      exact q, by rw [List.map_append, List.map_cons, List.map_nil, HXI.out]; exact hm13, HO.out.bT, HO.out.bM, HO.out.ne, hvT, hvM⟩
    have FIN2 : Hid (TrO w13 base T M (.slice A10 (ns.length + 1) c10) most (ns ++ [newN ns I h Wn])) := Lib.hid (by rw [HNX.out]; exact FIN.out)
    have KXF : Hid (KeepX (XT T M (.slice Av ns.length cv)) w w13) := Lib.hid (KX12.out.grown hg13 (fun j _ q => Or.inr (Or.inl (Option.some.inj q).symm)))
    clear hm13 hg13 HB12 HM12 OWN12 KX12 HG12 HIX HXA HXI HX1 HFO FI HPV
    go_wp2
    exact bodyPost_ret (v := .tuple #[iv (ns.length : Int), iv 0]) (by simp [results, Tryz.results29]) rfl ⟨rfl, _, FIN2.out, KXF.out, HAT.out⟩
end Go.Proofs.YtjbdboekleaklaaGreatDoor

/- florinlaw17.plainly: a tree of any headers; fork.id, heads, Heads. -/
set_option linter.unusedSimpArgs false
set_option linter.unusedVariables false
namespace Go.Proofs.YtjbdboekleaklaaGreatDoor
open Go.RowKit
attribute [local go_sem ↓] Go.wp_at_zero Go.wp_at_succ

theorem plainR_snoc (l : List Hd) (k : Nat) (h : k < l.length) : plainR (l.take (k + 1)) = (addR 60 (plainR (l.take k)) l[k]).1 := by
  unfold plainR
  rw [List.take_succ_eq_append_getElem h, List.foldl_append]
  rfl
theorem add_keep {w0 w w' : World} {base T M : Nat} {v : Value} {most : Int} {ns : List Nd} (hO : TrO w base T M v most ns) (k : Keep w0 w) (hb : w0.heap.size ≤ base) (h : KeepX (XT T M v) w w') : Keep w0 w' :=
  h.keep k fun j hj => Nat.le_trans hb (hO.x j hj)

set_option maxRecDepth 100000 in
set_option maxHeartbeats 4000000 in
theorem plainly_any (B : Option Addr) (l : List Hd) (d : Nat) (w : World) (hS : ShaOk w) (hl : l.length ≤ 100) (hr : Rd w B (l.flatMap Hd.cells)) (hk : ∀ h ∈ l, h.ok) :
    Calls Tryz.prog 9 #[.slice B l.length d] w fun e w' => ∃ T M v, e = .returned (pT T) ∧ TrO w' w.heap.size T M v 60 (plainR l) ∧ Keep w w' := by
  have NW : Hid (∀ y, Calls Tryz.prog 25 #[.int .i64 60] y fun e w' => ∃ T M, e = .returned (pT T) ∧ TrO w' y.heap.size T M (.slice none 0 0) 60 [] ∧ Keep y w') := Lib.hid fun y => new_any 60 y
  have AD : Hid (∀ k (hlt : k < l.length) T M v y, Keep w y → TrO y w.heap.size T M v 60 (plainR (l.take k)) → ∃ b off, B = some ⟨b, off, none⟩ ∧ ∃ xs, HdA l[k] xs ∧ w.rangeAt b (off + k * 68) xs.toList ∧
      Calls Tryz.prog 29 #[pT T, .agg xs] y fun e w' => ∃ i er, e = .returned (.tuple #[iv i, iv er]) ∧ ∃ v', TrO w' w.heap.size T M v' 60 (plainR (l.take (k + 1))) ∧ Keep w w') := Lib.hid fun k hlt T M v y hy hO => by
    obtain ⟨b, off, h1, -, h2⟩ := heads_at hr hk hlt
    have ok := hk _ (List.getElem_mem hlt)
    obtain ⟨t1, t2⟩ := plain_tr (l.take k) fun h hh => hk h (List.mem_of_mem_take hh)
    have hlen : (l.take k).length ≤ k := by simp; omega
    refine ⟨b, off, h1, _, HdA.of ok, h2, ?_⟩
    refine (add_any w.heap.size T M v 60 _ l[k] _ y (hS.keep hy) t1 hO (by omega) ok (HdA.of ok) hy.size).mono fun e w' ⟨h3, v', h4, h5, _⟩ => ⟨_, _, h3, v', ?_, add_keep hO hy (Nat.le_refl _) h5⟩
    rw [plainR_snoc l k hlt]; exact h4
  have HTK : Hid (plainR (l.take l.length) = plainR l) := Lib.hid (by rw [List.take_length])
  clear hS hr hk
  go_enter Tryz.func9, Tryz.ntmps9
  go_wp2_with fail
  refine (NW.out _).mono ?_
  clear NW
  rintro e w1 ⟨T, M, rfl, hO, k1⟩
  have HO1 : Hid (TrO w1 w.heap.size T M (.slice none 0 0) 60 (plainR (l.take 0))) := Lib.hid hO
  have HK1 := Lib.hid k1
  clear hO k1
  go_wp2_with fail
  go_loopw [4] (fun i wr => ∃ k : Nat, k ≤ l.length ∧ i = .int .i64 k ∧ (∃ v, Hid (TrO wr w.heap.size T M v 60 (plainR (l.take k)))) ∧ Hid (Keep w wr)) (fun i _ => l.length - (intOf i).toNat)
  case atStart => exact ⟨0, Nat.zero_le _, rfl, ⟨_, HO1⟩, HK1⟩
  case round =>
    obtain ⟨k, hkl, rfl, ⟨v, HO⟩, HK⟩ := hrel
    by_cases hlt : k < l.length
    · obtain ⟨b, off, rfl, xs, hxs, hrx, hA⟩ := AD.out k hlt T M v wr HK.out HO.out
      have RX : Hid (wr.rangeAt b (off + k * 68) xs.toList) := Lib.hid fun i v hv => keep_cell HK.out (hrx i v hv)
      have hxz := hxs.z; have hxn := hxs.n; have hxi := hxs.i
      have HA := Lib.hid hA
      have d1 : (k : Int) < l.length := by omega
      clear hxs hrx hA AD HO
      go_wp2_with ((with_reducible refine load_partg b (off + k * 68) xs (Eq.trans ?_ rfl) RX.out _ Tryz.underlying39 rfl hxi rfl ?_); rfl)
      refine HA.out.mono ?_
      clear HA RX
      rintro e w2 ⟨i, er, rfl, v', hO2, k2⟩
      have HO2 := Lib.hid hO2; have HK2 := Lib.hid k2
      clear hO2 k2
      go_wp2
      go_roundw
      case rel => exact ⟨k + 1, by omega, by go_num, ⟨v', HO2⟩, HK2⟩
      case measure => simp [intOf]; omega
    · obtain rfl : k = l.length := by omega
      have hO := HO.out
      rw [HTK.out] at hO
      have HOF := Lib.hid hO
      have d1 : ¬ ((l.length : Int) < l.length) := by omega
      clear hO HO AD HTK
      go_wp2
      exact bodyPost_ret (v := pT T) (by simp [results, Tryz.results9]) rfl ⟨T, rfl, ⟨M, v, HOF.out⟩, HK.out⟩
end Go.Proofs.YtjbdboekleaklaaGreatDoor

/- fork.id, heads, Heads. (printed by gen_tg.py) -/
set_option linter.unusedSimpArgs false
set_option linter.unusedVariables false
namespace Go.Proofs.YtjbdboekleaklaaGreatDoor
open Go.RowKit
attribute [local go_sem ↓] Go.wp_at_zero Go.wp_at_succ

theorem run_store_partT {P : Program} {w : World} {g : Nat} {t : TypeId} {all : List Value} (off : Nat) (cs : List Value) (hb : Blk w g t all) (hl : off + cs.length ≤ all.length) (h1 : ∀ v ∈ cs, v.oneCell' = true) :
    ∃ w', (storeCells ⟨g, off, none⟩ cs 0).run P w = .ok () w' ∧ Blk w' g t (splice all off cs) ∧ w.grownBy w' (some g) := by
  have hrun := run_storeCells_at P g off t cs 0 all.toArray w hb (by simpa using hl) h1
  simp only [Nat.add_zero, List.toList_toArray] at hrun
  refine ⟨_, hrun, ?_, rfl, rfl, rfl, by simp [World.setRow], fun k _ hne => setRow_other w g k _ (fun e => hne (by rw [e]))⟩
  have h := setRow_heap w g all.toArray (all.take off ++ cs ++ all.drop (off + cs.length)).toArray t (0, 0) hb
  unfold Blk splice
  rw [← List.append_assoc]
  exact h
def idN (ns : List Nd) (i : Nat) : List UInt8 := (ns[i]?.map Nd.id).getD z32
def headN (ns : List Nd) (i : Nat) : Hd := (ns[i]?.map Nd.head).getD ⟨0, z32, z32, 0, 0, 0⟩
theorem nodeO_get (ns : List Nd) (i : Nat) : ((nodeO ns (i : Int)).getD nd0).id = idN ns i ∧ ((nodeO ns (i : Int)).getD nd0).head = headN ns i := by
  rw [nodeO_nat]
  unfold idN headN
  cases ns[i]? with
  | none => exact ⟨rfl, rfl⟩
  | some n => exact ⟨rfl, rfl⟩
theorem nd_idr {n : Nd} (hk : n.ok) {iv' : Array Value} (hi : HashA n.id iv') {w : World} {g : Nat} {t : TypeId} {cs : Array Value} (hb : Blk w g t cs.toList) (hcs : NdA n cs) : w.rangeAt g 0 iv'.toList := by
  refine range_of hb 0 iv'.toList ?_
  rw [hi.l, hcs.l]
  simp [Nd.cells, hk.1]
theorem nd_headr {n : Nd} (hk : n.ok) {hv : Array Value} (hi : HdA n.head hv) {w : World} {g : Nat} {t : TypeId} {cs : Array Value} (hb : Blk w g t cs.toList) (hcs : NdA n cs) : w.rangeAt g 32 hv.toList := by
  refine range_of hb 32 hv.toList ?_
  rw [hi.l, hcs.l]
  simp [Nd.cells, hk.1, Hd.len hk.2.1]
theorem own_base {w : World} {b b' : Nat} {e : TypeId} {size : Nat} {v : Value} {n : Nat} {xs : List Value} (h : w.ownsRow b e size v n xs) (hb : b' ≤ b) : w.ownsRow b' e size v n xs :=
  ⟨h.1, h.2.imp id fun ⟨g, cap, cur, h1, h2, rest⟩ => ⟨g, cap, cur, h1, Nat.le_trans hb h2, rest⟩⟩
theorem mk_heads (k : Nat) (hk : k ≤ 2000000) (W : World) : ∃ W', (∀ i : Int, i = k → (Instr.makeSlice 22 (.int .i64 i) (.int .i64 i)).run Tryz.prog W = .ok (.slice (some ⟨W.heap.size, 0, none⟩) k k) W') ∧
    (∃ zl : List Value, zl.length = k * 68 ∧ Blk W' W.heap.size 39 zl) ∧ Keep W W' ∧ W'.heap.size = W.heap.size + 1 := by
  refine ⟨W.alloc (.cells (madeCells (Value.agg zhead).cells (k * 68)) 39), fun i hi => ?_, ⟨(madeCells (Value.agg zhead).cells (k * 68)).toList, by simp [madeCells], ?_⟩, keep_new _ _, by simp⟩
  · subst hi; exact headTb.make k k (Nat.le_refl _) (by omega) (by omega) W
  · exact Blk.new W _ (madeCells (Value.agg zhead).cells (k * 68)).toList
theorem splice_end {α : Type} (a b c : List α) : splice (a ++ b) a.length c = a ++ splice b 0 c := by
  unfold splice
  simp

set_option maxRecDepth 100000 in
set_option maxHeartbeats 2000000 in
theorem fid_any (T : Nat) (ns : List Nd) (i : Nat) (w : World) (h : TrR w T ns) (TR : Tr ns) (hl : ns.length ≤ 1048576) (hi : i ≤ 1048576) :
    Calls Tryz.prog 30 #[pT T, iv i] w fun e w' => ∃ ds, e = .returned (.agg ds) ∧ HashA (idN ns i) ds ∧ Keep w w' := by
  have N1 : Hid (∀ y, Keep w y → Calls Tryz.prog 15 #[pT T, iv i] y fun e w' => ∃ ds, e = .returned (.tuple #[.agg ds, .bool (nodeO ns i).isSome]) ∧ NdA ((nodeO ns i).getD nd0) ds ∧ Keep y w') := Lib.hid fun y hy => node_any T ns i y (h.keep hy) TR.ok hl (by omega)
  have HOK := Lib.hid (nodeO_ok TR.ok (i : Int))
  have HID : Hid (((nodeO ns (i : Int)).getD nd0).id = idN ns i) := Lib.hid (nodeO_get ns i).1
  clear h
  obtain ⟨zs, hz1, hz2, hz3, -, -⟩ := znode_letter
  obtain ⟨zh', hh1, hh2, hh3, -⟩ := zhash_letter
  generalize nodeO ns (i : Int) = O at *
  generalize idN ns i = I at *
  obtain ⟨is, his⟩ : ∃ is, HashA I is := ⟨_, HashA.of (by rw [← HID.out]; exact HOK.out.1)⟩
  have hiz := his.z; have hin := his.n; have hii := his.i
  have His := Lib.hid his
  clear his
  go_enter Tryz.func30, Tryz.ntmps30
  go_upto_region 1 with fail
  obtain ⟨w1, hw1⟩ : ∃ w1, w1 = w.alloc (.cells zh' 36) := ⟨_, rfl⟩
  have HR1 : Hid (Blk w1 w.heap.size 36 zh'.toList) := by rw [hw1]; exact Lib.hid (Blk.new w _ zh'.toList)
  have HK1 : Hid (Keep w w1) := by rw [hw1]; exact Lib.hid (keep_new _ _)
  rw [← hw1]
  clear hw1
  go_wp2_with fail
  refine (N1.out _ HK1.out).mono ?_
  clear N1
  rintro e w2 ⟨ds, rfl, hds, k2⟩
  have HR2 := Lib.hid (HR1.out.keep k2)
  have HK2 := Lib.hid (keep_trans HK1.out k2)
  clear k2 HR1 HK1
  have hdsz := hds.z; have hdsn := hds.n; have hdsi := hds.i
  have hstds : (storeCells ⟨w2.heap.size, 0, none⟩ ds.toList 0).run Tryz.prog (w2.alloc (.cells zs 44)) = .ok () (w2.alloc (.cells ds 44)) := run_storeCells_new (P := Tryz.prog) w2 44 zs ds hdsi (hz1.trans hdsz.symm) (by have := all_oneCell_toArray hds.o; rwa [Array.toArray_toList] at this)
  have Hds := Lib.hid hds
  clear hds
  go_upto_region 2 with fail
  obtain ⟨w3, hw3⟩ : ∃ w3, w3 = w2.alloc (.cells ds 44) := ⟨_, rfl⟩
  have HR3 : Hid (Blk w3 w.heap.size 36 zh'.toList) := by rw [hw3]; exact Lib.hid (HR2.out.alloc _)
  have HGN3 : Hid (Blk w3 w2.heap.size 44 ds.toList) := by rw [hw3]; exact Lib.hid (Blk.new w2 44 ds.toList)
  have HK3 : Hid (Keep w w3) := by rw [hw3]; exact Lib.hid (keep_trans HK2.out (keep_new _ _))
  rw [← hw3]
  have hgs3 : w.heap.size ≤ w2.heap.size := HK2.out.size
  have hltHR3 := HR2.out.lt
  clear hw3 HR2 HK2
  generalize w2.heap.size = gn at *
  clear hstds
  have RI : Hid (w3.rangeAt gn 0 is.toList) := Lib.hid (nd_idr HOK.out (by rw [HID.out]; exact His.out) HGN3.out Hds.out)
  obtain ⟨w8, hst8, hb8, hg8⟩ := run_store_blk (P := Tryz.prog) is.toList HR3.out (by simp [hh1, hiz]) His.out.o
  have Hb8 := Lib.hid hb8; have Hg8 := Lib.hid hg8
  clear hb8 hg8 HOK HID Hds
  go_wp2_with ((with_reducible refine load_partg gn 0 is (Eq.trans ?_ rfl) RI.out _ Tryz.underlying36 rfl hii rfl ?_); rfl)
  have hb8 := Hb8.out
  exact bodyPost_ret (v := .agg is) (results_cell_row Tryz.results30 _ _ w.heap.size _ _ _ _ rfl hb8 Tryz.underlying36 rfl (by rw [List.size_toArray, Array.length_toList]; exact hii)) rfl ⟨is, rfl, His.out, HK3.out.grown Hg8.out HK3.out.size (fun q hq => by injection hq with hq; omega)⟩

def Headed (B : Nat) (ys : List Hd) (w : World) (e : Ending) (w' : World) : Prop := ∃ v, e = .returned v ∧ w'.ownsRow B 39 68 v ys.length (ys.flatMap Hd.cells) ∧ Keep w w'
theorem headN_ok {ns : List Nd} (TR : Tr ns) (i : Nat) : (headN ns i).ok := by
  have h := nodeO_ok TR.ok (i : Int)
  rw [← (nodeO_get ns i).2]; exact h.2.1
set_option maxRecDepth 100000 in
set_option maxHeartbeats 4000000 in
theorem heads_any (T : Nat) (ns : List Nd) (A : Option Addr) (l : List Nat) (c : Nat) (w : World) (h : TrR w T ns) (TR : Tr ns) (hl : ns.length ≤ 1048576) (hll : l.length ≤ 1048577) (hr : Rd w A (nvL l)) (hlt : ∀ k ∈ l, k < ns.length) :
    Calls Tryz.prog 32 #[pT T, .slice A l.length c] w (Headed w.heap.size (l.map (headN ns)) w) := by
  have N1 : Hid (∀ (k : Nat) y, Keep w y → k < l.length → Calls Tryz.prog 15 #[pT T, iv (l.getD k 0 : Nat)] y fun e w' => ∃ ds b, e = .returned (.tuple #[.agg ds, .bool b]) ∧ NdA ((nodeO ns (l.getD k 0 : Nat)).getD nd0) ds ∧ Keep y w') := Lib.hid fun k y hy hk => by
    have hm : l.getD k 0 < ns.length := hlt _ (by rw [List.getD_eq_getElem?_getD, List.getElem?_eq_getElem hk]; exact List.getElem_mem hk)
    refine (node_any T ns _ y (h.keep hy) TR.ok hl (by omega)).mono fun e w' ⟨ds, h1, h2, h3⟩ => ⟨ds, _, h1, h2, h3⟩
  have HAT : Hid (∀ k, k < l.length → ∃ b off, A = some ⟨b, off, none⟩ ∧ w.cell? ⟨b, off + k, none⟩ = some (iv (l.getD k 0 : Nat))) := Lib.hid fun k hk => by
    obtain ⟨b, off, h1, -, h2⟩ := hr.at (k := k) (by rw [nvL_len]; exact hk)
    refine ⟨b, off, h1, (h2 k (by rw [nvL_len]; exact hk)).trans ?_⟩
    simp [nvL, List.getD_eq_getElem?_getD, List.getElem?_eq_getElem hk]
  have HOK : Hid (∀ k : Nat, ((nodeO ns (k : Int)).getD nd0).ok ∧ ((nodeO ns (k : Int)).getD nd0).head = headN ns k ∧ (headN ns k).ok) := Lib.hid fun k => ⟨nodeO_ok TR.ok _, (nodeO_get ns k).2, headN_ok TR k⟩
  have HFL : Hid (∀ k, k ≤ l.length → ((l.take k).flatMap fun x => (headN ns x).cells).length = k * 68) := Lib.hid fun k hk => by
    rw [flatMap_len' _ 68 _ fun x _ => Hd.len (headN_ok TR x)]
    simp; omega
  have HSN : Hid (∀ k, k < l.length → ((l.take (k + 1)).flatMap fun x => (headN ns x).cells) = ((l.take k).flatMap fun x => (headN ns x).cells) ++ (headN ns (l.getD k 0)).cells) := Lib.hid fun k hk => by
    rw [List.take_succ_eq_append_getElem hk, List.flatMap_append, List.getD_eq_getElem?_getD, List.getElem?_eq_getElem hk]
    simp
  have HALL : Hid (((l.take l.length).flatMap fun x => (headN ns x).cells) = (l.map (headN ns)).flatMap Hd.cells) := Lib.hid (by rw [List.take_length, List.flatMap_map])
  clear h hr hlt
  obtain ⟨zs, hz1, hz2, hz3, -, -⟩ := znode_letter
  have HML : Hid ((l.map (headN ns)).length = l.length) := Lib.hid (List.length_map _)
  have HK : Hid (Keep w w) := Lib.hid (Below.refl _ _)
  obtain ⟨wm, hmk, ⟨zl, hzl, hbm⟩, km, hsz⟩ := mk_heads l.length (by omega) w
  have hmk2 := hmk (l.length : Int) rfl
  have HBM := Lib.hid hbm; have HKM := Lib.hid km; have HZL := Lib.hid hzl
  clear hbm km hzl hmk hsz
  unfold Headed
  go_enter Tryz.func32, Tryz.ntmps32
  go_wp2_with fail
  clear hmk2
  go_loopw [14] (fun i wr => ∃ k : Nat, k ≤ l.length ∧ i = .int .i64 k ∧ (∃ zl : List Value, Hid (zl.length + k * 68 = l.length * 68) ∧ Hid (Blk wr w.heap.size 39 (((l.take k).flatMap fun x => (headN ns x).cells) ++ zl))) ∧ Hid (Keep w wr)) (fun i _ => l.length - (intOf i).toNat)
  case atStart => exact ⟨0, Nat.zero_le _, rfl, ⟨zl, Lib.hid (by rw [HZL.out]; omega), HBM⟩, HKM⟩
  case round =>
    obtain ⟨k, hkl, rfl, ⟨zl, HZ, HR⟩, HKr⟩ := hrel
    by_cases hlt : k < l.length
    · obtain ⟨b, off, rfl, hcw⟩ := HAT.out k hlt
      have hc := keep_cell HKr.out hcw
      have N2 : Hid (∀ y, Keep w y → Calls Tryz.prog 15 #[pT T, iv (l.getD k 0 : Nat)] y fun e w' => ∃ ds b, e = .returned (.tuple #[.agg ds, .bool b]) ∧ NdA ((nodeO ns (l.getD k 0 : Nat)).getD nd0) ds ∧ Keep y w') := Lib.hid fun y hy => N1.out k y hy hlt
      have HSNk := Lib.hid (HSN.out k hlt)
      have HFk := Lib.hid (HFL.out k hkl)
      obtain ⟨q, hq⟩ : ∃ q, l.getD k 0 = q := ⟨_, rfl⟩
      rw [hq] at hc N2 HSNk
      obtain ⟨o1, o2, o3⟩ := HOK.out q
      have HO1 := Lib.hid o1
      obtain ⟨hv, hhv⟩ : ∃ hv, HdA (headN ns q) hv := ⟨_, HdA.of o3⟩
      have HO2 := Lib.hid o2
      have hhz := hhv.z; have hhn := hhv.n; have hhi := hhv.i
      have Hhv := Lib.hid hhv
      have d1 : (k : Int) < l.length := by omega
      clear hcw hq o1 o2 o3 hhv N1 HSN HFL HALL HOK
      go_wp2_with fail
      refine (N2.out _ HKr.out).mono ?_
      clear N2 hc
      rintro e w2 ⟨ds, bb, rfl, hds, k2⟩
      have HR2 := Lib.hid (HR.out.keep k2)
      have HK2 := Lib.hid (keep_trans HKr.out k2)
      clear k2 HR HKr
      have hdsz := hds.z; have hdsn := hds.n; have hdsi := hds.i
      have hst : (storeCells ⟨w2.heap.size, 0, none⟩ ds.toList 0).run Tryz.prog (w2.alloc (.cells zs 44)) = .ok () (w2.alloc (.cells ds 44)) := run_storeCells_new (P := Tryz.prog) w2 44 zs ds hdsi (hz1.trans hdsz.symm) (by have := all_oneCell_toArray hds.o; rwa [Array.toArray_toList] at this)
      have Hds := Lib.hid hds
      clear hds
      go_upto_region 6 with fail
      obtain ⟨w3, hw3⟩ : ∃ w3, w3 = w2.alloc (.cells ds 44) := ⟨_, rfl⟩
      have HR3 : Hid (Blk w3 w.heap.size 39 (((l.take k).flatMap fun x => (headN ns x).cells) ++ zl)) := by rw [hw3]; exact Lib.hid (HR2.out.alloc _)
      have HN3 : Hid (Blk w3 w2.heap.size 44 ds.toList) := by rw [hw3]; exact Lib.hid (Blk.new w2 44 ds.toList)
      have HK3 : Hid (Keep w w3) := by rw [hw3]; exact Lib.hid (keep_trans HK2.out (keep_new _ _))
      rw [← hw3]
      have hgs3 : w.heap.size ≤ w2.heap.size := HK2.out.size
      have hltHR3 := HR2.out.lt
      clear hw3 HR2 HK2
      generalize w2.heap.size = gn at *
      clear hst
      have RH : Hid (w3.rangeAt gn 32 hv.toList) := Lib.hid (nd_headr HO1.out (by rw [HO2.out]; exact Hhv.out) HN3.out Hds.out)
      obtain ⟨w8, hst8, hb8, hg8⟩ := run_store_partT (P := Tryz.prog) (k * 68) hv.toList HR3.out (by rw [List.length_append, HFk.out, Array.length_toList, hhz]; have := HZ.out; omega) Hhv.out.o
      have hbn : Blk w8 w.heap.size 39 (((l.take (k + 1)).flatMap fun x => (headN ns x).cells) ++ zl.drop 68) := by
        have q1 : splice (((l.take k).flatMap fun x => (headN ns x).cells) ++ zl) (k * 68) hv.toList = ((l.take (k + 1)).flatMap fun x => (headN ns x).cells) ++ zl.drop 68 := by
          rw [← HFk.out, splice_end, HSNk.out, Hhv.out.l]
          unfold splice
          rw [Hd.len (by have := Hhv.out; exact (HO2.out ▸ HO1.out.2.1))]
          simp
        rw [q1] at hb8
        exact hb8
      have HBN := Lib.hid hbn
      have HK8 : Hid (Keep w w8) := Lib.hid (HK3.out.grown hg8 HK3.out.size (fun q hq => by injection hq with hq; omega))
      have HZ8 : Hid ((zl.drop 68).length + (k + 1) * 68 = l.length * 68) := Lib.hid (by rw [List.length_drop]; have := HZ.out; omega)
      clear hb8 hg8 hbn HR3 HN3 HK3 Hds HO1 HO2 HSNk HFk
      go_wp2_with ((with_reducible refine load_partg gn 32 hv (Eq.trans ?_ rfl) RH.out _ Tryz.underlying39 rfl hhi rfl ?_); rfl)
      go_roundw
      case rel => exact ⟨k + 1, by omega, by go_num, ⟨_, HZ8, HBN⟩, HK8⟩
      case measure => simp [intOf]; omega
    · obtain rfl : k = l.length := by omega
      have d1 : ¬ ((l.length : Int) < l.length) := by omega
      have hz0 : zl = [] := List.eq_nil_of_length_eq_zero (by have := HZ.out; omega)
      have hR := HR.out
      rw [hz0, List.append_nil, HALL.out] at hR
      have hfl := HFL.out l.length (Nat.le_refl _)
      rw [HALL.out] at hfl
      have hown : wr.ownsRow w.heap.size 39 68 (.slice (some ⟨w.heap.size, 0, none⟩) l.length l.length) l.length ((l.map (headN ns)).flatMap Hd.cells) :=
        ⟨hfl, .inr ⟨w.heap.size, l.length, ((l.map (headN ns)).flatMap Hd.cells).toArray, rfl, Nat.le_refl _, hR, Nat.le_refl _, by unfold maxLen; omega, by rw [List.size_toArray]; exact hfl, by rw [List.take_of_length_le (by rw [hfl]; omega)]⟩⟩
      have HOWN : Hid (wr.ownsRow w.heap.size 39 68 (.slice (some ⟨w.heap.size, 0, none⟩) l.length l.length) (l.map (headN ns)).length ((l.map (headN ns)).flatMap Hd.cells)) := Lib.hid (by rw [HML.out]; exact hown)
      clear hown hfl hR hz0 HR HFL HSN HALL HOK N1 HAT HZ
      go_wp2
      exact bodyPost_ret (v := .slice (some ⟨w.heap.size, 0, none⟩) l.length l.length) (by simp [results, Tryz.results32]) rfl ⟨_, rfl, by first | exact HOWN.out | (have q := HOWN.out; rw [HML.out] at q; exact q) | simpa using HOWN.out, HKr.out⟩

theorem lineO_lt {ns : List Nd} (TR : Tr ns) (i : Int) : ∀ k ∈ lineO ns i, k < ns.length := by
  intro k hk
  unfold lineO at hk
  split at hk
  · rename_i hc
    unfold lineN at hk
    obtain ⟨j, hj, rfl⟩ := List.mem_map.1 hk
    exact (TR.upK hc.2 _ (Nat.sub_le _ _)).2.1
  · cases hk
theorem lineO_len {ns : List Nd} (TR : Tr ns) (i : Int) : (lineO ns i).length ≤ ns.length := by
  unfold lineO
  split
  · rename_i hc
    rw [line_len]
    have := TR.le _ hc.2
    omega
  · exact Nat.zero_le _
set_option maxRecDepth 100000 in
theorem Heads_any (T : Nat) (ns : List Nd) (i : Int) (w : World) (h : TrR w T ns) (TR : Tr ns) (hl : ns.length ≤ 1048576) (hi : -9223372036854775808 ≤ i ∧ i ≤ 9223372036854775807) :
    Calls Tryz.prog 22 #[pT T, iv i] w (Headed w.heap.size ((lineO ns i).map (headN ns)) w) := by
  have L1 : Hid (Calls Tryz.prog 12 #[pT T, iv i] w (Lined w.heap.size (lineO ns i) w)) := Lib.hid (line_any T ns i w h TR hl hi)
  have H1 : Hid (∀ y A c, Keep w y → Rd y A (nvL (lineO ns i)) → Calls Tryz.prog 32 #[pT T, .slice A (lineO ns i).length c] y (Headed y.heap.size ((lineO ns i).map (headN ns)) y)) := Lib.hid fun y A c hy hr => heads_any T ns A _ c y (h.keep hy) TR hl (by have := lineO_len TR i; omega) hr (lineO_lt TR i)
  clear h
  obtain ⟨L, hL⟩ : ∃ L, lineO ns i = L := ⟨_, rfl⟩
  rw [hL] at L1 H1 ⊢
  clear hL
  unfold Headed Lined at *
  go_enter Tryz.func22, Tryz.ntmps22
  go_wp2_with fail
  refine L1.out.mono ?_
  clear L1
  rintro e w1 ⟨v, rfl, hown, k1⟩
  obtain ⟨A, c, rfl, hc, hm, hr⟩ := own_form hown
  have H2 := Lib.hid (H1.out w1 A c k1 hr)
  have K1 := Lib.hid k1
  clear H1 hown k1 hr
  go_wp2_with fail
  refine H2.out.mono ?_
  clear H2
  rintro e w2 ⟨v2, rfl, hown2, k2⟩
  have hs := K1.out.size
  have HOWN : Hid (w2.ownsRow w.heap.size 39 68 v2 (L.map (headN ns)).length ((L.map (headN ns)).flatMap Hd.cells)) := Lib.hid (own_base hown2 hs)
  have HK := Lib.hid (keep_trans K1.out k2)
  clear hown2 k2 K1
  go_wp2
  exact bodyPost_ret (v := v2) (by simp [results, Tryz.results22]) rfl ⟨_, rfl, HOWN.out, HK.out⟩
end Go.Proofs.YtjbdboekleaklaaGreatDoor

/- fork.Reorg. (printed by gen_th.py) -/
set_option linter.unusedSimpArgs false
set_option linter.unusedVariables false
namespace Go.Proofs.YtjbdboekleaklaaGreatDoor
open Go.RowKit
attribute [local go_sem ↓] Go.wp_at_zero Go.wp_at_succ

/-- How long two lists begin alike. -/
def cpN : List Nat → List Nat → Nat
  | x :: a, y :: b => if x = y then cpN a b + 1 else 0
  | _, _ => 0
theorem cpN_of : ∀ (a b : List Nat) (k : Nat), k ≤ a.length → k ≤ b.length → (∀ j, j < k → a[j]? = b[j]?) → (k < a.length → k < b.length → a[k]? ≠ b[k]?) → cpN a b = k
  | [], _, k, h1, _, _, _ => by have : k = 0 := by simpa using h1
                                subst this; cases ‹List Nat› <;> rfl
  | _ :: _, [], k, _, h2, _, _ => by have : k = 0 := by simpa using h2
                                     subst this; rfl
  | x :: a, y :: b, 0, _, _, _, h => by
    have := h (by simp) (by simp)
    simp only [List.getElem?_cons_zero, ne_eq, Option.some.injEq] at this
    unfold cpN; rw [if_neg this]
  | x :: a, y :: b, k + 1, h1, h2, h3, h4 => by
    have e := h3 0 (by omega)
    simp only [List.getElem?_cons_zero, Option.some.injEq] at e
    unfold cpN
    rw [if_pos e, cpN_of a b k (by simpa using h1) (by simpa using h2) (fun j hj => by simpa using h3 (j + 1) (by omega)) (fun g1 g2 => by simpa using h4 (by simpa using g1) (by simpa using g2))]
theorem cpN_le : ∀ (a b : List Nat), cpN a b ≤ a.length ∧ cpN a b ≤ b.length
  | [], b => by cases b <;> simp [cpN]
  | _ :: _, [] => by simp [cpN]
  | x :: a, y :: b => by
    unfold cpN
    split
    · have := cpN_le a b; simp; omega
    · simp
theorem cpN_eq : ∀ (a b : List Nat), a.take (cpN a b) = b.take (cpN a b)
  | [], b => by cases b <;> simp [cpN]
  | _ :: _, [] => by simp [cpN]
  | x :: a, y :: b => by
    unfold cpN
    split
    · rename_i h; subst h; simp [cpN_eq a b]
    · simp
def undN (a b : List Nat) : List Nat := (a.drop (cpN a b)).reverse
def donN (a b : List Nat) : List Nat := b.drop (cpN a b)
theorem nv_at {w : World} {A : Option Addr} {l : List Nat} (hr : Rd w A (nvL l)) {k x : Nat} (h : l[k]? = some x) : ∃ b off, A = some ⟨b, off, none⟩ ∧ w.cell? ⟨b, off + k, none⟩ = some (iv x) := by
  have hk := (List.getElem?_eq_some_iff.1 h).1
  have hx := (List.getElem?_eq_some_iff.1 h).2
  obtain ⟨b, off, h1, -, h2⟩ := hr.at (k := k) (by rw [nvL_len]; exact hk)
  refine ⟨b, off, h1, (h2 k (by rw [nvL_len]; exact hk)).trans ?_⟩
  simp [nvL, hx]
theorem nvL_snoc (l : List Nat) (x : Nat) : nvL (l ++ [x]) = nvL l ++ [iv x] := by simp [nvL]
theorem take_snoc {l : List Nat} {k x : Nat} (h : l[k]? = some x) : l.take (k + 1) = l.take k ++ [x] := by
  have hk := (List.getElem?_eq_some_iff.1 h).1
  have hx := (List.getElem?_eq_some_iff.1 h).2
  rw [List.take_succ_eq_append_getElem hk, hx]

set_option maxRecDepth 100000 in
set_option maxHeartbeats 8000000 in
theorem reorg_any (T : Nat) (ns : List Nd) (i j : Int) (w : World) (h : TrR w T ns) (TR : Tr ns) (hl : ns.length ≤ 100000) (hi : -9223372036854775808 ≤ i ∧ i ≤ 9223372036854775807) (hj : -9223372036854775808 ≤ j ∧ j ≤ 9223372036854775807) :
    Calls Tryz.prog 11 #[pT T, iv i, iv j] w fun e w' => ∃ v1 v2, e = .returned (.tuple #[v1, v2]) ∧ w'.ownsRow w.heap.size 3 1 v1 (undN (lineO ns i) (lineO ns j)).length (nvL (undN (lineO ns i) (lineO ns j))) ∧ w'.ownsRow w.heap.size 3 1 v2 (donN (lineO ns i) (lineO ns j)).length (nvL (donN (lineO ns i) (lineO ns j))) ∧ Keep w w' := by
  have L1 : Hid (∀ y, Keep w y → Calls Tryz.prog 12 #[pT T, iv i] y (Lined y.heap.size (lineO ns i) y)) := Lib.hid fun y hy => line_any T ns i y (h.keep hy) TR (by omega) hi
  have L2 : Hid (∀ y, Keep w y → Calls Tryz.prog 12 #[pT T, iv j] y (Lined y.heap.size (lineO ns j) y)) := Lib.hid fun y hy => line_any T ns j y (h.keep hy) TR (by omega) hj
  have hla := lineO_len TR i
  have hlb := lineO_len TR j
  clear h TR
  generalize lineO ns i = a at *
  generalize lineO ns j = b at *
  have hla2 : a.length ≤ 100000 := by omega
  have hlb2 : b.length ≤ 100000 := by omega
  have HU : Hid (∀ x, undN a b = x → x = (a.drop (cpN a b)).reverse) := Lib.hid fun x e => by subst e; rfl
  have HD : Hid (∀ x, donN a b = x → x = b.drop (cpN a b)) := Lib.hid fun x e => by subst e; rfl
  replace HU := Lib.hid (HU.out _ rfl); replace HD := Lib.hid (HD.out _ rfl)
  generalize undN a b = U at *
  generalize donN a b = D at *
  clear hl hla hlb
  unfold Lined at *
  have HK : Hid (Keep w w) := Lib.hid (Below.refl _ _)
  go_enter Tryz.func11, Tryz.ntmps11
  go_wp2_with fail
  refine (L1.out _ HK.out).mono ?_
  clear L1
  rintro e w1 ⟨va, rfl, howna, k1⟩
  obtain ⟨Aa, ca, rfl, hca, hma, hra⟩ := own_form howna
  have RA1 := Lib.hid hra
  have HK1 := Lib.hid k1
  clear howna hra k1
  go_wp2_with fail
  refine (L2.out _ HK1.out).mono ?_
  clear L2
  rintro e w2 ⟨vb, rfl, hownb, k2⟩
  obtain ⟨Ab, cb, rfl, hcb, hmb, hrb⟩ := own_form hownb
  have RA := Lib.hid (RA1.out.keep k2)
  have RB := Lib.hid hrb
  have HK2 := Lib.hid (keep_trans HK1.out k2)
  clear hownb hrb k2 RA1 HK1 HK
  go_wp2_with fail
  go_loopw [10] (fun s wr => ∃ k : Nat, k ≤ a.length ∧ k ≤ b.length ∧ s = .int .i64 k ∧ Hid (∀ j, j < k → a[j]? = b[j]?) ∧ Hid (Keep w2 wr)) (fun s _ => a.length - (intOf s).toNat)
  case atStart => exact ⟨0, Nat.zero_le _, Nat.zero_le _, rfl, Lib.hid fun j hj => absurd hj (Nat.not_lt_zero _), Lib.hid (Below.refl _ _)⟩
  case round =>
    obtain ⟨k, ka, kb, rfl, HEQ, HKr⟩ := hrel
    by_cases hlt : k < a.length ∧ k < b.length
    · obtain ⟨h1, h2⟩ := hlt
      obtain ⟨x, hx⟩ : ∃ x, a[k]? = some x := ⟨_, List.getElem?_eq_getElem h1⟩
      obtain ⟨y, hy⟩ : ∃ y, b[k]? = some y := ⟨_, List.getElem?_eq_getElem h2⟩
      obtain ⟨ba, oa, rfl, hcx⟩ := nv_at RA.out hx
      obtain ⟨bb, ob, rfl, hcy⟩ := nv_at RB.out hy
      have HX := Lib.hid hx; have HY := Lib.hid hy
      have HCX := Lib.hid hcx; have HCY := Lib.hid hcy
      have d1 : (k : Int) < min (a.length : Int) b.length := by omega
      have d2 : (k : Int) < a.length := by omega
      have d3 : (k : Int) < b.length := by omega
      clear hx hy hcx hcy
      go_upto_region 3 with fail
      refine wp_region_tree (.take [0,1,2,3,4,5,6,7,8,9,10,11,12,13,14,15,16,17] .done) [] (by kernel_rfl) (by kernel_rfl) (fun w3 k3 => ?_)
      have HK3 := Lib.hid (keep_trans HKr.out k3)
      have c0 := aft_cell (keep_cell HK3.out HCX.out); have c1 := aft_cell (keep_cell HK3.out HCY.out)
      clear k3 HKr
      refine mt_take w3 (Below.refl _ _) ?_
      simp only [pick_cons, pick_nil, nth_zero, nth_succ]
      repeat (go_big_quiet_step (fail))
      refine wpQuiet_nil (mt_end ?_)
      clear c0 c1
      by_cases hxy : x = y
      · have s1 : ((x : Int) == (y : Int)) = true := by simp [hxy]
        have HN : Hid (∀ j, j < k + 1 → a[j]? = b[j]?) := Lib.hid fun j hj => by
          by_cases q : j = k
          · rw [q, HX.out, HY.out, hxy]
          · exact HEQ.out j (by omega)
        clear hxy HEQ HX HY
        go_wp2
        go_roundw
        case rel => exact ⟨k + 1, by omega, by omega, by go_num, HN, HK3⟩
        case measure => simp [intOf]; omega
      · have s1 : ((x : Int) == (y : Int)) = false := by rw [beq_eq_false_iff_ne]; omega
        have hcp : cpN a b = k := cpN_of a b k ka kb HEQ.out fun _ _ => by rw [HX.out, HY.out]; simpa using hxy
        have HCP := Lib.hid hcp
        clear hxy HEQ HX HY hcp d1 d2 d3
        simp only [s1]
        go_upto_region 5 with fail
        clear s1
        have HK4 := Lib.hid (keep_trans HK2.out HK3.out)
        have RA3 := Lib.hid (RA.out.keep HK3.out)
        have RB3 := Lib.hid (RB.out.keep HK3.out)
        have hU : U = (a.drop k).reverse := by rw [HU.out, HCP.out]
        have hD : D = b.drop k := by rw [HD.out, HCP.out]
        have hUl : U.length = a.length - k := by rw [hU]; simp
        have hDl : D.length = b.length - k := by rw [hD]; simp
        have HUA : Hid (∀ m, m < a.length - k → ∃ x, U[m]? = some x ∧ a[a.length - 1 - m]? = some x) := Lib.hid fun m hm => by
          have q : U[m]? = a[a.length - 1 - m]? := by
            rw [hU, List.getElem?_reverse (by simp; omega), List.getElem?_drop]
            congr 1; simp; omega
          exact ⟨_, q.trans (List.getElem?_eq_getElem (by omega)), List.getElem?_eq_getElem (by omega)⟩
        have HDB : Hid (∀ m, m < b.length - k → ∃ x, D[m]? = some x ∧ b[k + m]? = some x) := Lib.hid fun m hm => by
          have q : D[m]? = b[k + m]? := by rw [hD, List.getElem?_drop]
          exact ⟨_, q.trans (List.getElem?_eq_getElem (by omega)), List.getElem?_eq_getElem (by omega)⟩
        have HUL := Lib.hid hUl; have HDL := Lib.hid hDl
        clear hU hD hUl hDl HU HD HCP RA RB HK2 HK3
        have f1 : IntKind.i64.wrap ((a.length : Int) - (k : Int)) = ((a.length - k : Nat) : Int) := by rw [IntWalk.i64_in _ (by omega)]; omega
        have f2 : IntKind.i64.wrap ((b.length : Int) - (k : Int)) = ((b.length - k : Nat) : Int) := by rw [IntWalk.i64_in _ (by omega)]; omega
        obtain ⟨na, hna⟩ : ∃ n, a.length - k = n := ⟨_, rfl⟩
        obtain ⟨nb, hnb⟩ : ∃ n, b.length - k = n := ⟨_, rfl⟩
        have g1 : (a.length : Int) - (k : Int) = na := by omega
        have g2 : (b.length : Int) - (k : Int) = nb := by omega
        rw [hna] at f1 HUA HUL; rw [hnb] at f2 HDB HDL
        have hnk : na + k = a.length := by omega
        have hnk2 : nb + k = b.length := by omega
        clear hna hnb f1 f2
        go_wp2_with fail
        go_loopw [11, 45] (fun s c wr => ∃ m : Nat, m ≤ na ∧ c = .int .i64 m ∧ wr.ownsRow w3.heap.size 3 1 s m (nvL (U.take m)) ∧ Hid (Keep w3 wr)) (fun _ c _ => na - (intOf c).toNat)
        case atStart => exact ⟨0, Nat.zero_le _, rfl, World.ownsRow_nil _ _ _ _, Lib.hid (Below.refl _ _)⟩
        case round =>
          obtain ⟨m, hm, rfl, hown, HKr⟩ := hrel
          have hz := HKr.out.size
          obtain ⟨Av, cv, rfl, hcv, hmv, -⟩ := own_form hown
          have Hown := Lib.hid hown
          clear hown
          by_cases hlt : m < na
          · obtain ⟨x, hx1, hx2⟩ := HUA.out m hlt
            obtain ⟨b0, o0, hA0, hcx⟩ := nv_at RA3.out hx2
            cases hA0
            have hcx := keep_cell HKr.out hcx
            have HTS := Lib.hid (take_snoc hx1)
            have d1 : (m : Int) < na := by omega
            obtain ⟨q, hq⟩ : ∃ q, a.length - 1 - m = q := ⟨_, rfl⟩
            rw [hq] at hcx
            have d2 : (a.length : Int) - 1 - (m : Int) = q := by omega
            have d3 : (q : Int) < a.length := by omega
            have d4 : (a.length : Int) - 1 = (a.length - 1 : Nat) := by omega
            clear hx1 hx2
            go_wp2_with (at_builtin; refine wpList_app intT (by rfl) _ _ (by rfl) w3.heap.size _ m (nvL (U.take m)) (by rfl) (Hown.out.alloc _) _ 1 1 [iv x] (by rfl) (by rfl) (Rd.new _ _ _) (by simp [Value.oneCell']) (by omega) (by unfold maxLen; omega) (by simp; omega) ?_; intro v4 w4 own4 hg4 hat4; have k4 := keep_grown (keep_trans HKr.out (keep_new _ _)) (by simp; omega) hg4 (Hown.out.alloc _); rw [← nvL_snoc, ← HTS.out] at own4; have Own4 := Lib.hid own4; have K4 := Lib.hid k4; clear own4 k4 hg4 hat4)
            go_roundw
            case rel => exact ⟨m + 1, by omega, by go_num, Own4.out, K4⟩
            case measure => simp [intOf]; omega
          · obtain rfl : m = na := by omega
            have hownU := Hown.out
            rw [List.take_of_length_le (by rw [HUL.out]; exact Nat.le_refl _)] at hownU
            have OU := Lib.hid hownU
            have d1 : ¬ ((m : Int) < m) := by omega
            obtain ⟨w5, hw5⟩ : ∃ w5, w5 = wr := ⟨_, rfl⟩
            rw [← hw5] at OU HKr ⊢
            clear hw5 hownU Hown HUA
            have RB5 := Lib.hid (RB3.out.keep HKr.out)
            have HK5 := Lib.hid (keep_trans HK4.out HKr.out)
            have hs3 := HK4.out.size
            clear RA3 RB3 HK4
            go_wp2_with fail
            go_loopw [12, 64] (fun s c wr => ∃ m : Nat, m ≤ nb ∧ c = .int .i64 m ∧ wr.ownsRow w5.heap.size 3 1 s m (nvL (D.take m)) ∧ Hid (Keep w5 wr)) (fun _ c _ => nb - (intOf c).toNat)
            case atStart => exact ⟨0, Nat.zero_le _, rfl, World.ownsRow_nil _ _ _ _, Lib.hid (Below.refl _ _)⟩
            case round =>
              obtain ⟨m2, hm2, rfl, hown, HKs⟩ := hrel
              have hz2 := HKs.out.size
              obtain ⟨Aw, cw, rfl, hcw, hmw, -⟩ := own_form hown
              have Hown := Lib.hid hown
              clear hown
              by_cases hlt : m2 < nb
              · obtain ⟨x, hx1, hx2⟩ := HDB.out m2 hlt
                obtain ⟨b0, o0, hA0, hcx⟩ := nv_at RB5.out hx2
                cases hA0
                have hcx := keep_cell HKs.out hcx
                have HTS := Lib.hid (take_snoc hx1)
                have d1 : (m2 : Int) < nb := by omega
                have d3 : (k : Int) + (m2 : Int) < b.length := by omega
                clear hx1 hx2
                go_wp2_with (at_builtin; refine wpList_app intT (by rfl) _ _ (by rfl) w5.heap.size _ m2 (nvL (D.take m2)) (by rfl) (Hown.out.alloc _) _ 1 1 [iv x] (by rfl) (by rfl) (Rd.new _ _ _) (by simp [Value.oneCell']) (by omega) (by unfold maxLen; omega) (by simp; omega) ?_; intro v4 w4 own4 hg4 hat4; have k4 := keep_grown (keep_trans HKs.out (keep_new _ _)) (by simp; omega) hg4 (Hown.out.alloc _); rw [← nvL_snoc, ← HTS.out] at own4; have Own4 := Lib.hid own4; have K4 := Lib.hid k4; clear own4 k4 hg4 hat4)
                go_roundw
                case rel => exact ⟨m2 + 1, by omega, by go_num, Own4.out, K4⟩
                case measure => simp [intOf]; omega
              · obtain rfl : m2 = nb := by omega
                have hownD := Hown.out
                rw [List.take_of_length_le (by rw [HDL.out]; exact Nat.le_refl _)] at hownD
                have hs5 := HK5.out.size
                have hsr := HKr.out.size
                have OD : Hid (wr.ownsRow w.heap.size 3 1 (.slice Aw m2 cw) D.length (nvL D)) := Lib.hid (by rw [HDL.out]; exact own_base hownD (by omega))
                have OU2 : Hid (wr.ownsRow w.heap.size 3 1 (.slice Av m cv) U.length (nvL U)) := Lib.hid (by rw [HUL.out]; exact own_keep (own_base OU.out (by have := HK5.out.size; have := HKr.out.size; omega)) HKs.out)
                have HKf := Lib.hid (keep_trans HK5.out HKs.out)
                have d1 : ¬ ((m2 : Int) < m2) := by omega
                clear hownD Hown OU HDB RB5
                go_wp2
                exact bodyPost_ret (v := .tuple #[.slice Av m cv, .slice Aw m2 cw]) (by simp [results, Tryz.results11]) rfl ⟨_, _, rfl, OU2.out, OD.out, HKf.out⟩
    · have hcp : cpN a b = k := cpN_of a b k ka kb HEQ.out fun g1 g2 => absurd ⟨g1, g2⟩ hlt
      have HCP := Lib.hid hcp
      have d1 : ¬ (k : Int) < min (a.length : Int) b.length := by omega
      clear hlt hcp HEQ
      go_upto_region 3 with fail
      refine wp_region_tree (.take [0,1,2,3,4,5,6,7,8,9,10,11,12,13,14,15,16,17] .done) [] (by kernel_rfl) (by kernel_rfl) (fun w3 k3 => ?_)
      have HK3 := Lib.hid (keep_trans HKr.out k3)
      clear k3 HKr
      refine mt_take w3 (Below.refl _ _) ?_
      simp only [pick_cons, pick_nil, nth_zero, nth_succ]
      repeat (go_big_quiet_step (fail))
      refine wpQuiet_nil (mt_end ?_)
      clear d1
      have HK4 := Lib.hid (keep_trans HK2.out HK3.out)
      have RA3 := Lib.hid (RA.out.keep HK3.out)
      have RB3 := Lib.hid (RB.out.keep HK3.out)
      have hU : U = (a.drop k).reverse := by rw [HU.out, HCP.out]
      have hD : D = b.drop k := by rw [HD.out, HCP.out]
      have hUl : U.length = a.length - k := by rw [hU]; simp
      have hDl : D.length = b.length - k := by rw [hD]; simp
      have HUA : Hid (∀ m, m < a.length - k → ∃ x, U[m]? = some x ∧ a[a.length - 1 - m]? = some x) := Lib.hid fun m hm => by
        have q : U[m]? = a[a.length - 1 - m]? := by
          rw [hU, List.getElem?_reverse (by simp; omega), List.getElem?_drop]
          congr 1; simp; omega
        exact ⟨_, q.trans (List.getElem?_eq_getElem (by omega)), List.getElem?_eq_getElem (by omega)⟩
      have HDB : Hid (∀ m, m < b.length - k → ∃ x, D[m]? = some x ∧ b[k + m]? = some x) := Lib.hid fun m hm => by
        have q : D[m]? = b[k + m]? := by rw [hD, List.getElem?_drop]
        exact ⟨_, q.trans (List.getElem?_eq_getElem (by omega)), List.getElem?_eq_getElem (by omega)⟩
      have HUL := Lib.hid hUl; have HDL := Lib.hid hDl
      clear hU hD hUl hDl HU HD HCP RA RB HK2 HK3
      have f1 : IntKind.i64.wrap ((a.length : Int) - (k : Int)) = ((a.length - k : Nat) : Int) := by rw [IntWalk.i64_in _ (by omega)]; omega
      have f2 : IntKind.i64.wrap ((b.length : Int) - (k : Int)) = ((b.length - k : Nat) : Int) := by rw [IntWalk.i64_in _ (by omega)]; omega
      obtain ⟨na, hna⟩ : ∃ n, a.length - k = n := ⟨_, rfl⟩
      obtain ⟨nb, hnb⟩ : ∃ n, b.length - k = n := ⟨_, rfl⟩
      have g1 : (a.length : Int) - (k : Int) = na := by omega
      have g2 : (b.length : Int) - (k : Int) = nb := by omega
      rw [hna] at f1 HUA HUL; rw [hnb] at f2 HDB HDL
      have hnk : na + k = a.length := by omega
      have hnk2 : nb + k = b.length := by omega
      clear hna hnb f1 f2
      go_wp2_with fail
      go_loopw [11, 45] (fun s c wr => ∃ m : Nat, m ≤ na ∧ c = .int .i64 m ∧ wr.ownsRow w3.heap.size 3 1 s m (nvL (U.take m)) ∧ Hid (Keep w3 wr)) (fun _ c _ => na - (intOf c).toNat)
      case atStart => exact ⟨0, Nat.zero_le _, rfl, World.ownsRow_nil _ _ _ _, Lib.hid (Below.refl _ _)⟩
      case round =>
        obtain ⟨m, hm, rfl, hown, HKr⟩ := hrel
        have hz := HKr.out.size
        obtain ⟨Av, cv, rfl, hcv, hmv, -⟩ := own_form hown
        have Hown := Lib.hid hown
        clear hown
        by_cases hlt : m < na
        · obtain ⟨x, hx1, hx2⟩ := HUA.out m hlt
          obtain ⟨b0, o0, hA0, hcx⟩ := nv_at RA3.out hx2
          cases hA0
          have hcx := keep_cell HKr.out hcx
          have HTS := Lib.hid (take_snoc hx1)
          have d1 : (m : Int) < na := by omega
          obtain ⟨q, hq⟩ : ∃ q, a.length - 1 - m = q := ⟨_, rfl⟩
          rw [hq] at hcx
          have d2 : (a.length : Int) - 1 - (m : Int) = q := by omega
          have d3 : (q : Int) < a.length := by omega
          have d4 : (a.length : Int) - 1 = (a.length - 1 : Nat) := by omega
          clear hx1 hx2
          go_wp2_with (at_builtin; refine wpList_app intT (by rfl) _ _ (by rfl) w3.heap.size _ m (nvL (U.take m)) (by rfl) (Hown.out.alloc _) _ 1 1 [iv x] (by rfl) (by rfl) (Rd.new _ _ _) (by simp [Value.oneCell']) (by omega) (by unfold maxLen; omega) (by simp; omega) ?_; intro v4 w4 own4 hg4 hat4; have k4 := keep_grown (keep_trans HKr.out (keep_new _ _)) (by simp; omega) hg4 (Hown.out.alloc _); rw [← nvL_snoc, ← HTS.out] at own4; have Own4 := Lib.hid own4; have K4 := Lib.hid k4; clear own4 k4 hg4 hat4)
          go_roundw
          case rel => exact ⟨m + 1, by omega, by go_num, Own4.out, K4⟩
          case measure => simp [intOf]; omega
        · obtain rfl : m = na := by omega
          have hownU := Hown.out
          rw [List.take_of_length_le (by rw [HUL.out]; exact Nat.le_refl _)] at hownU
          have OU := Lib.hid hownU
          have d1 : ¬ ((m : Int) < m) := by omega
          obtain ⟨w5, hw5⟩ : ∃ w5, w5 = wr := ⟨_, rfl⟩
          rw [← hw5] at OU HKr ⊢
          clear hw5 hownU Hown HUA
          have RB5 := Lib.hid (RB3.out.keep HKr.out)
          have HK5 := Lib.hid (keep_trans HK4.out HKr.out)
          have hs3 := HK4.out.size
          clear RA3 RB3 HK4
          go_wp2_with fail
          go_loopw [12, 64] (fun s c wr => ∃ m : Nat, m ≤ nb ∧ c = .int .i64 m ∧ wr.ownsRow w5.heap.size 3 1 s m (nvL (D.take m)) ∧ Hid (Keep w5 wr)) (fun _ c _ => nb - (intOf c).toNat)
          case atStart => exact ⟨0, Nat.zero_le _, rfl, World.ownsRow_nil _ _ _ _, Lib.hid (Below.refl _ _)⟩
          case round =>
            obtain ⟨m2, hm2, rfl, hown, HKs⟩ := hrel
            have hz2 := HKs.out.size
            obtain ⟨Aw, cw, rfl, hcw, hmw, -⟩ := own_form hown
            have Hown := Lib.hid hown
            clear hown
            by_cases hlt : m2 < nb
            · obtain ⟨x, hx1, hx2⟩ := HDB.out m2 hlt
              obtain ⟨b0, o0, hA0, hcx⟩ := nv_at RB5.out hx2
              cases hA0
              have hcx := keep_cell HKs.out hcx
              have HTS := Lib.hid (take_snoc hx1)
              have d1 : (m2 : Int) < nb := by omega
              have d3 : (k : Int) + (m2 : Int) < b.length := by omega
              clear hx1 hx2
              go_wp2_with (at_builtin; refine wpList_app intT (by rfl) _ _ (by rfl) w5.heap.size _ m2 (nvL (D.take m2)) (by rfl) (Hown.out.alloc _) _ 1 1 [iv x] (by rfl) (by rfl) (Rd.new _ _ _) (by simp [Value.oneCell']) (by omega) (by unfold maxLen; omega) (by simp; omega) ?_; intro v4 w4 own4 hg4 hat4; have k4 := keep_grown (keep_trans HKs.out (keep_new _ _)) (by simp; omega) hg4 (Hown.out.alloc _); rw [← nvL_snoc, ← HTS.out] at own4; have Own4 := Lib.hid own4; have K4 := Lib.hid k4; clear own4 k4 hg4 hat4)
              go_roundw
              case rel => exact ⟨m2 + 1, by omega, by go_num, Own4.out, K4⟩
              case measure => simp [intOf]; omega
            · obtain rfl : m2 = nb := by omega
              have hownD := Hown.out
              rw [List.take_of_length_le (by rw [HDL.out]; exact Nat.le_refl _)] at hownD
              have hs5 := HK5.out.size
              have hsr := HKr.out.size
              have OD : Hid (wr.ownsRow w.heap.size 3 1 (.slice Aw m2 cw) D.length (nvL D)) := Lib.hid (by rw [HDL.out]; exact own_base hownD (by omega))
              have OU2 : Hid (wr.ownsRow w.heap.size 3 1 (.slice Av m cv) U.length (nvL U)) := Lib.hid (by rw [HUL.out]; exact own_keep (own_base OU.out (by have := HK5.out.size; have := HKr.out.size; omega)) HKs.out)
              have HKf := Lib.hid (keep_trans HK5.out HKs.out)
              have d1 : ¬ ((m2 : Int) < m2) := by omega
              clear hownD Hown OU HDB RB5
              go_wp2
              exact bodyPost_ret (v := .tuple #[.slice Av m cv, .slice Aw m2 cw]) (by simp [results, Tryz.results11]) rfl ⟨_, _, rfl, OU2.out, OD.out, HKf.out⟩
end Go.Proofs.YtjbdboekleaklaaGreatDoor

/- fork.Locator. (printed by gen_ti.py) -/
set_option linter.unusedSimpArgs false
set_option linter.unusedVariables false
namespace Go.Proofs.YtjbdboekleaklaaGreatDoor
open Go.RowKit
attribute [local go_sem ↓] Go.wp_at_zero Go.wp_at_succ

set_option maxRecDepth 100000 in
theorem hashTb : ElT Tryz.prog 47 36 (Value.agg zhash) 32 32 := ElT.mk' Tryz.underlying47 (by kernel_rfl) zhash_size (by omega)
theorem list_build1h {P : Program} {t e : TypeId} {zc : Array Value} {size bytes : Nat} (T : ElT P t e (.agg zc) size bytes) {ops : Array Oper} {rest : List Oper} {a : Act} {w : World} {Q : Exit → Act → World → Prop} {x : Operand} {dst : Option Tmp} {ty' : TypeId} {pos : String} {af : Array Edge}
    (cs : Array Value) (hz : cs.size = size) (hsm : size ≤ 1000) (hx : a.eval x = .agg cs)
    (h : wpList P ops Q rest (a.put dst (.slice (some ⟨w.heap.size, 0, none⟩) 1 1)) (w.alloc (.cells cs e))) : wpList P ops Q ({ dst := dst, op := .buildSlice t 1 #[(0, x)], type := ty', pos := pos, after := af, guard := none } :: rest) a w :=
  wpList_plain rfl fun _ hK => wp_build1b T x rfl cs hz hsm hx (hK _ _ h)
/-- The next step. -/
def stpN (s c : Nat) : Nat := if 10 ≤ c + 1 then 2 * s else s
/-- Which heights a locator tells, but the last one. -/
def locH : Nat → Nat → Nat → Nat → List Nat
  | 0, _, _, _ => []
  | f + 1, x, s, c => if x = 0 then [] else x :: locH f (x - stpN s c) (stpN s c) (c + 1)
theorem locH_zero (f s c : Nat) : locH f 0 s c = [] := by cases f <;> simp [locH]
def locL (L : List Nat) : List Nat := if L = [] then [] else (locH (L.length - 1) (L.length - 1) 1 0 ++ [0]).map fun k => L.getD k 0
/-- Hashes in memory. -/
def hsL (l : List (List UInt8)) : List Value := l.flatMap fun h => h.map u8v
theorem hsL_snoc (l : List (List UInt8)) (h : List UInt8) : hsL (l ++ [h]) = hsL l ++ h.map u8v := by simp [hsL]
theorem z32_len : z32.length = 32 := rfl
theorem idN_len {ns : List Nd} (TR : Tr ns) (i : Nat) : (idN ns i).length = 32 := by
  have h := nodeO_ok TR.ok (i : Int)
  rw [← (nodeO_get ns i).1]; exact h.1
def locN (ns : List Nd) (i : Int) : List (List UInt8) := (locL (lineO ns i)).map (idN ns)

set_option maxRecDepth 100000 in
set_option maxHeartbeats 8000000 in
theorem locator_any (T : Nat) (ns : List Nd) (i : Int) (w : World) (h : TrR w T ns) (TR : Tr ns) (hl : ns.length ≤ 100000) (hi : -9223372036854775808 ≤ i ∧ i ≤ 9223372036854775807) :
    Calls Tryz.prog 16 #[pT T, iv i] w fun e w' => ∃ v, e = .returned v ∧ w'.ownsRow w.heap.size 36 32 v (locN ns i).length (hsL (locN ns i)) ∧ Keep w w' := by
  have L1 : Hid (∀ y, Keep w y → Calls Tryz.prog 12 #[pT T, iv i] y (Lined y.heap.size (lineO ns i) y)) := Lib.hid fun y hy => line_any T ns i y (h.keep hy) TR (by omega) hi
  have hla := lineO_len TR i
  have hlt := lineO_lt TR i
  have FID : Hid (∀ (q : Nat) y, Keep w y → q ≤ 100000 → Calls Tryz.prog 30 #[pT T, iv q] y fun e w' => ∃ ds, e = .returned (.agg ds) ∧ HashA (idN ns q) ds ∧ Keep y w') := Lib.hid fun q y hy hq => fid_any T ns q y (h.keep hy) TR (by omega) (by omega)
  have IDL : Hid (∀ q, (idN ns q).length = 32) := Lib.hid (idN_len TR)
  obtain ⟨LN, hLN⟩ : ∃ L, locN ns i = L := ⟨_, rfl⟩
  rw [hLN]
  have HLN := Lib.hid hLN
  clear h TR hLN
  unfold locN at HLN
  generalize lineO ns i = L at *
  have hL2 : L.length ≤ 100000 := by omega
  have HQ : Hid (∀ k, k < L.length → ∃ x, L[k]? = some x ∧ L.getD k 0 = x ∧ x ≤ 100000) := Lib.hid fun k hk => by
    have := hlt _ (List.getElem_mem hk)
    exact ⟨L[k], List.getElem?_eq_getElem hk, by simp [List.getD_eq_getElem?_getD, List.getElem?_eq_getElem hk], by omega⟩
  clear hlt hla hl
  unfold Lined at *
  have HK : Hid (Keep w w) := Lib.hid (Below.refl _ _)
  go_enter Tryz.func16, Tryz.ntmps16
  go_wp2_with fail
  refine (L1.out _ HK.out).mono ?_
  clear L1
  rintro e w1 ⟨va, rfl, howna, k1⟩
  obtain ⟨A, ca, rfl, hca, hma, hra⟩ := own_form howna
  have RA := Lib.hid hra
  have HK1 := Lib.hid k1
  clear howna hra k1
  by_cases h0 : L.length = 0
  · have hL0 : L = [] := List.eq_nil_of_length_eq_zero h0
    have hv : LN = [] := by rw [← HLN.out, hL0]; rfl
    subst hv
    clear HLN HQ FID IDL hL0
    go_wp2
    exact bodyPost_ret (v := .slice none 0 0) (by simp [results, Tryz.results16]) rfl ⟨_, rfl, World.ownsRow_nil _ _ _ _, HK1.out⟩
  have hp : 0 < L.length := by omega
  obtain ⟨n, hn⟩ : ∃ n, L.length = n + 1 := ⟨L.length - 1, by omega⟩
  have hF : (locH n n 1 0 ++ [0]).map (fun k => idN ns (L.getD k 0)) = LN := by
    rw [← HLN.out]
    unfold locL
    rw [if_neg (fun q => by rw [q] at h0; exact h0 rfl), hn, Nat.add_sub_cancel, List.map_map]
    rfl
  have HF := Lib.hid hF
  clear hF HLN
  have d0 : ((L.length : Int)) - 1 = n := by omega
  have g1 : ((n : Int) + 1 == 0) = false := by rw [beq_eq_false_iff_ne]; omega
  go_wp2_with fail
  clear d0 g1
  go_loopw [6, 7, 8] (fun s a t wr => ∃ (dn : List Nat) (x : Nat) (xi : Int) (st c f : Nat), a = .int .i64 xi ∧ t = .int .i64 st ∧ (xi = x ∨ (x = 0 ∧ xi ≤ 0 ∧ -1000000 ≤ xi)) ∧ x ≤ n ∧ 1 ≤ st ∧ (0 < x → st ≤ 100000) ∧ dn.length = c ∧ c + x ≤ n ∧ x ≤ f ∧ Hid (dn ++ locH f x st c = locH n n 1 0) ∧ wr.ownsRow w1.heap.size 36 32 s c (hsL (dn.map fun k => idN ns (L.getD k 0))) ∧ Hid (Keep w1 wr)) (fun _ a _ _ => (intOf a).toNat)
  case atStart => exact ⟨[], n, n, 1, 0, n, rfl, rfl, .inl rfl, Nat.le_refl _, Nat.le_refl _, fun _ => by omega, rfl, by omega, Nat.le_refl _, Lib.hid rfl, World.ownsRow_nil _ _ _ _, Lib.hid (Below.refl _ _)⟩
  case round =>
    obtain ⟨dn, x, xi, st, c, f, rfl, rfl, hx, hxn, hst, hst2, hdn, hcx, hxf, HE, hown, HKr⟩ := hrel
    have hz := HKr.out.size
    obtain ⟨Av, cv, rfl, hcv, hmv, -⟩ := own_form hown
    have Hown := Lib.hid hown
    clear hown
    by_cases hx0 : 0 < x
    · obtain rfl : xi = x := by omega
      obtain ⟨q, hq1, hq2, hq3⟩ := HQ.out x (by omega)
      obtain ⟨b, off, hA0, hcw⟩ := nv_at RA.out hq1
      cases hA0
      have hcw := keep_cell HKr.out hcw
      have FI : Hid (∀ y, Keep w y → Calls Tryz.prog 30 #[pT T, iv q] y fun e w' => ∃ ds, e = .returned (.agg ds) ∧ HashA (idN ns q) ds ∧ Keep y w') := Lib.hid fun y hy => FID.out q y hy hq3
      obtain ⟨f', rfl⟩ : ∃ f', f = f' + 1 := ⟨f - 1, by omega⟩
      have hE2 : (dn ++ [x]) ++ locH f' (x - stpN st c) (stpN st c) (c + 1) = locH n n 1 0 := by
        rw [← HE.out]
        simp only [locH]
        rw [if_neg (by omega)]
        simp
      have HE2 := Lib.hid hE2
      have HSN : Hid (hsL ((dn ++ [x]).map fun k => idN ns (L.getD k 0)) = hsL (dn.map fun k => idN ns (L.getD k 0)) ++ (idN ns q).map u8v) := Lib.hid (by rw [List.map_append, List.map_cons, List.map_nil, hsL_snoc, hq2])
      have HKw := Lib.hid (keep_trans HK1.out HKr.out)
      have d2 : (x : Int) < L.length := by omega
      clear hE2 hq1 hq2 hx HE
      go_wp2_with fail
      refine (FI.out _ HKw.out).mono ?_
      clear FI hcw
      rintro e w2 ⟨ds, rfl, hds, k2⟩
      have HK2 := Lib.hid (keep_trans HKr.out k2)
      have Hown2 := Lib.hid (own_keep Hown.out k2)
      have hdz := hds.z; have hdn2 := hds.n; have hdi := hds.i
      have Hds := Lib.hid hds
      have hz2 := k2.size
      clear hds k2 HKr Hown HKw
      have hstp : stpN st c = if 10 ≤ c + 1 then 2 * st else st := rfl
      go_upto_region 8 with (first
        | ((with_reducible refine list_build1h hashTb ds hdz (by omega) (Eq.trans ?_ rfl) ?_); rfl)
        | (at_builtin; refine wpList_app hashTb (by rfl) _ _ (by rfl) w1.heap.size _ c _ (by rfl) (Hown2.out.alloc _) _ 1 1 ds.toList (by rfl) (by rw [Array.length_toList, hdz]) (by simpa using Rd.new w2 ds.toList 36) Hds.out.o (by omega) (by unfold maxLen; omega) (by simp; omega) ?_; intro v3 w3 own3 hg3 hat3; have k3 := keep_grown (keep_trans HK2.out (keep_new _ _)) (by simp; omega) hg3 (Hown2.out.alloc _); rw [Hds.out.l, ← HSN.out] at own3))
      obtain ⟨A3, c3, rfl, hc3, hm3, -⟩ := own_form own3
      have Own3 := Lib.hid own3; have HK3 := Lib.hid k3
      clear own3 k3 hg3 hat3 Hown2 HK2 Hds HSN
      have hxs : (x : Int) - (stpN st c : Int) = ((x - stpN st c : Nat) : Int) ∨ (x - stpN st c = 0 ∧ (x : Int) - (stpN st c : Int) ≤ 0 ∧ -1000000 ≤ (x : Int) - (stpN st c : Int)) := by
        have := hst2 hx0
        rw [hstp]
        split <;> omega
      have hsb : 1 ≤ stpN st c ∧ stpN st c ≤ 200000 := by have := hst2 hx0; rw [hstp]; split <;> omega
      have hsb2 : 0 < x - stpN st c → stpN st c ≤ 100000 := fun q => by omega
      by_cases h10 : 10 ≤ c + 1
      · rw [if_pos h10] at hstp
        have d3 : (10 : Int) ≤ (c : Int) + 1 := by omega
        have w1e : IntKind.i64.wrap ((st : Int) * 2) = (stpN st c : Int) := by rw [hstp, IntWalk.i64_in _ (by have := hst2 hx0; omega)]; omega
        obtain ⟨s2, hs2⟩ : ∃ s2, stpN st c = s2 := ⟨_, rfl⟩
        rw [hs2] at hxs hsb hsb2 HE2 w1e hstp
        have w2e : IntKind.i64.wrap ((x : Int) - (s2 : Int)) = (x : Int) - (s2 : Int) := IntWalk.i64_in _ (by omega)
        have hm0 : ¬ 10 ≤ c + 1 → False := fun q => q h10
        have hst3 : (st : Int) * 2 = s2 := by omega
        clear hs2 hstp h10 hst2
        go_wp2
        go_roundw
        case rel => exact ⟨dn ++ [x], x - s2, (x : Int) - (s2 : Int), s2, c + 1, f', by go_num, by go_num, hxs, by omega, hsb.1, hsb2, by simp [hdn], by omega, by omega, HE2, Own3.out, HK3⟩
        case measure => simp [intOf]; omega
      · rw [if_neg h10] at hstp
        have d3 : ¬ (10 : Int) ≤ (c : Int) + 1 := by omega
        rw [hstp] at hxs hsb hsb2 HE2
        have w2e : IntKind.i64.wrap ((x : Int) - (st : Int)) = (x : Int) - (st : Int) := IntWalk.i64_in _ (by omega)
        clear hstp h10 hst2
        go_wp2
        go_roundw
        case rel => exact ⟨dn ++ [x], x - st, (x : Int) - (st : Int), st, c + 1, f', by go_num, by go_num, hxs, by omega, hsb.1, hsb2, by simp [hdn], by omega, by omega, HE2, Own3.out, HK3⟩
        case measure => simp [intOf]; omega
    · obtain rfl : x = 0 := by omega
      have hxi : xi ≤ 0 := by omega
      have hxi2 : ¬ (0 : Int) < xi := by omega
      have hE := HE.out
      rw [locH_zero, List.append_nil] at hE
      obtain ⟨q, hq1, hq2, hq3⟩ := HQ.out 0 (by omega)
      obtain ⟨b, off, hA0, hcw⟩ := nv_at RA.out hq1
      cases hA0
      have hcw := keep_cell HKr.out hcw
      rw [Nat.add_zero] at hcw
      have FI : Hid (∀ y, Keep w y → Calls Tryz.prog 30 #[pT T, iv q] y fun e w' => ∃ ds, e = .returned (.agg ds) ∧ HashA (idN ns q) ds ∧ Keep y w') := Lib.hid fun y hy => FID.out q y hy hq3
      have HSN : Hid (hsL LN = hsL (dn.map fun k => idN ns (L.getD k 0)) ++ (idN ns q).map u8v ∧ LN.length = c + 1) := Lib.hid (by
        rw [← HF.out, ← hE]
        refine ⟨?_, by simp [hdn]⟩
        rw [List.map_append, List.map_cons, List.map_nil, hsL_snoc, hq2])
      have HKw := Lib.hid (keep_trans HK1.out HKr.out)
      clear hq1 hq2 hx HE hE HF hst2 HQ FID
      go_wp2_with fail
      refine (FI.out _ HKw.out).mono ?_
      clear FI hcw
      rintro e w2 ⟨ds, rfl, hds, k2⟩
      have HK2 := Lib.hid (keep_trans HKr.out k2)
      have Hown2 := Lib.hid (own_keep Hown.out k2)
      have hdz := hds.z; have hdn2 := hds.n; have hdi := hds.i
      have Hds := Lib.hid hds
      have hz2 := k2.size
      have hz1 := HK1.out.size
      clear hds k2 HKr Hown HKw
      go_wp2_with (first
        | ((with_reducible refine list_build1h hashTb ds hdz (by omega) (Eq.trans ?_ rfl) ?_); rfl)
        | (at_builtin; refine wpList_app hashTb (by rfl) _ _ (by rfl) w1.heap.size _ c _ (by rfl) (Hown2.out.alloc _) _ 1 1 ds.toList (by rfl) (by rw [Array.length_toList, hdz]) (by simpa using Rd.new w2 ds.toList 36) Hds.out.o (by omega) (by unfold maxLen; omega) (by simp; omega) ?_; intro v3 w3 own3 hg3 hat3; have k3 := keep_grown (keep_trans HK2.out (keep_new _ _)) (by simp; omega) hg3 (Hown2.out.alloc _); rw [Hds.out.l, ← HSN.out.1] at own3))
      have OWN : Hid (w3.ownsRow w.heap.size 36 32 v3 LN.length (hsL LN)) := Lib.hid (by rw [HSN.out.2]; exact own_base own3 hz1)
      have HK3 := Lib.hid (keep_trans HK1.out k3)
      exact bodyPost_ret (v := v3) (by simp [results, Tryz.results16]) rfl ⟨_, rfl, OWN.out, HK3.out⟩
end Go.Proofs.YtjbdboekleaklaaGreatDoor

/- rules.Begins, Valid. -/
set_option linter.unusedSimpArgs false
set_option linter.unusedVariables false
namespace Go.Proofs.YtjbdboekleaklaaGreatDoor
open Go.RowKit
attribute [local go_sem ↓] Go.wp_at_zero Go.wp_at_succ

def beginsR (p : Par) (h : Hd) : Int := if saneR p = false then 15 else passR p 0 (idL h)

set_option maxRecDepth 100000 in
set_option maxHeartbeats 4000000 in
theorem begins_any (p : Par) (A : Option Addr) (c : Nat) (h : Hd) (cs : Array Value) (w : World) (hS : ShaOk w) (hC : Chks p A w) (ho : h.ok) (hcs : HdA h cs) :
    Calls Tryz.prog 35 #[parV p A c, .agg cs] w fun e w' => e = .returned (iv (beginsR p h)) ∧ Keep w w' := by
  have S1 : Hid (∀ y, Calls Tryz.prog 42 #[parV p A c] y fun e w' => e = .returned (.bool (saneR p)) ∧ Keep y w') := Lib.hid fun y => sane_any p A c y
  have HR : Hid (∀ r, beginsR p h = r → r = if saneR p = false then 15 else passR p 0 (idL h)) := Lib.hid fun r e => by subst e; rfl
  replace HR := Lib.hid (HR.out _ rfl)
  have I2 : Hid (∀ y, Keep w y → Calls Tryz.prog 21 #[.agg cs] y fun e w' => ∃ ds, e = .returned (.agg ds) ∧ HashA (idL h) ds ∧ Keep y w') := Lib.hid fun y hy => id_any h cs y (hS.keep hy) ho hcs
  have P1 : Hid (∀ y, Keep w y → ∀ ds, HashA (idL h) ds → Calls Tryz.prog 43 #[parV p A c, iv 0, .agg ds] y fun e w' => e = .returned (iv (passR p 0 (idL h))) ∧ Keep y w') := Lib.hid fun y hy ds hds => passes_any p A c 0 (idL h) ds y (hC.keep hy) (idL_len _) hds
  have hcz := hcs.z; have hcn := hcs.n; have hci := hcs.i
  clear hcs ho hC hS
  generalize beginsR p h = R at *
  generalize idL h = HI at *
  generalize passR p 0 HI = PR at *
  generalize saneR p = S at *
  unfold parV at *
  generalize p.limit = limit at *
  generalize p.itv = itv at *
  generalize p.span = span at *
  generalize p.fut = fut at *
  generalize p.idx = idx at *
  generalize p.orp = orp at *
  generalize hm : p.chks.length = m at *
  clear hm
  go_enter Tryz.func35, Tryz.ntmps35
  go_upto_region 1 with fail
  obtain ⟨w1, hw1⟩ : ∃ w1, w1 = (w.alloc (.cells #[u32v limit, iv itv, iv span, iv fut, iv idx, iv orp, .slice A m c] 64)).alloc (.cells cs 39) := ⟨_, rfl⟩
  have HP1 : Hid (Blk w1 w.heap.size 64 [u32v limit, iv itv, iv span, iv fut, iv idx, iv orp, .slice A m c]) := by rw [hw1]; exact Lib.hid ((Blk.new w 64 [u32v limit, iv itv, iv span, iv fut, iv idx, iv orp, .slice A m c]).alloc _)
  have HH1 : Hid (Blk w1 (w.heap.size + 1) 39 cs.toList) := by
    rw [hw1]
    have h2 := Blk.new (w.alloc (.cells #[u32v limit, iv itv, iv span, iv fut, iv idx, iv orp, .slice A m c] 64)) 39 cs.toList
    rw [World.size_alloc] at h2
    exact Lib.hid h2
  have HK1 : Hid (Keep w w1) := by rw [hw1]; exact Lib.hid (keep_trans (keep_new _ _) (keep_new _ _))
  rw [← hw1]
  clear hw1
  have p0 := HP1.out.cell 0
  have p1 := HP1.out.cell 1
  have p2 := HP1.out.cell 2
  have p3 := HP1.out.cell 3
  have p4 := HP1.out.cell 4
  have p5 := HP1.out.cell 5
  have p6 := HP1.out.cell 6
  simp only [List.getElem?_cons_succ, List.getElem?_cons_zero] at p0 p1 p2 p3 p4 p5 p6
  go_wp2_with fail
  refine (S1.out _).mono ?_
  clear S1 p0 p1 p2 p3 p4 p5 p6
  rintro e w2 ⟨rfl, k2⟩
  have HP2 := Lib.hid (HP1.out.keep k2)
  have HH2 := Lib.hid (HH1.out.keep k2)
  have HK2 := Lib.hid (keep_trans HK1.out k2)
  clear HP1 HH1 HK1 k2
  have hR := HR.out
  cases S with
  | false =>
    rw [if_pos rfl] at hR
    subst hR
    clear HR HP2 HH2
    go_wp2
    exact bodyPost_ret (v := iv 15) (by simp [results, Tryz.results35]) rfl ⟨rfl, HK2.out⟩
  | true =>
    rw [if_neg (by simp)] at hR
    subst hR
    clear HR
    go_upto_region 3 with fail
    refine wp_region_tree (.take [0,1] (.force [2,3] (.take [4] .done))) [] (by kernel_rfl) (by kernel_rfl) (fun w3 k3 => ?_)
    have HP3 := HP2.out.keep k3
    have HH3 := HH2.out.keep k3
    have HK3 := Lib.hid (keep_trans HK2.out k3)
    have rh : Hid (w3.rangeAt (w.heap.size + 1) 0 cs.toList) := Lib.hid (range_of HH3 0 cs.toList (by simp [List.take_of_length_le]))
    have q0 := aft_cell (HP3.cell 0)
    have q1 := aft_cell (HP3.cell 1)
    have q2 := aft_cell (HP3.cell 2)
    have q3 := aft_cell (HP3.cell 3)
    have q4 := aft_cell (HP3.cell 4)
    have q5 := aft_cell (HP3.cell 5)
    have q6 := aft_cell (HP3.cell 6)
    clear HP2 HH2 HK2 k3 HP3 HH3
    refine mt_take w3 (Below.refl _ _) ?_
    simp only [pick_cons, pick_nil, nth_zero, nth_succ]
    repeat (first
      | ((with_reducible refine wpQuiet_load_partg (w.heap.size + 1) 0 cs (Eq.trans ?_ rfl) rh.out _ Tryz.underlying39 rfl hci rfl ?_); rfl; simp only [Act.put, Array.set!_eq_setIfInBounds, List.setIfInBounds_toArray, List.set_cons_succ, List.set_cons_zero])
      | go_big_quiet_step (fail))
    refine wpQuiet_nil (mt_force ?_)
    clear rh q0 q1 q2 q3 q4 q5 q6
    simp only [pick_cons, pick_nil, nth_zero, nth_succ]
    refine fc_step rfl (fun K hK => ?_)
    go_simp
    (with_reducible refine (I2.out _ HK3.out).mono ?_)
    rintro e w4 ⟨ds, rfl, hds, k4⟩
    refine hK _ _ k4 ?_
    have Hds := Lib.hid hds
    have HK4 := Lib.hid (keep_trans HK3.out k4)
    clear hK K hds k4 HK3
    refine fc_step rfl (fun K hK => ?_)
    go_simp
    (with_reducible refine (P1.out _ HK4.out ds Hds.out).mono ?_)
    rintro e w5 ⟨rfl, k5⟩
    refine hK _ _ k5 ?_
    have HK5 := Lib.hid (keep_trans HK4.out k5)
    clear hK K k5
    refine fc_nil (mt_take _ (Below.refl _ _) ?_)
    simp only [pick_cons, pick_nil, nth_zero, nth_succ]
    repeat (go_big_quiet_step (fail))
    refine wpQuiet_nil (mt_end ?_)
    go_wp2
    exact bodyPost_ret (v := iv R) (by simp [results, Tryz.results35]) rfl ⟨rfl, HK5.out⟩

def stepR (p : Par) (l : List Hd) (now : Int) (i : Nat) : Int := if i = 0 then beginsR p (l.getD i hd0) else checkR p (l.take i) (l.getD i hd0) now
def validN (p : Par) (l : List Hd) (now : Int) : Nat := ((List.range l.length).find? fun i => decide (stepR p l now i ≠ 0)).getD l.length
def validE (p : Par) (l : List Hd) (now : Int) : Int := if validN p l now < l.length then stepR p l now (validN p l now) else 0
theorem valid_stop {p : Par} {l : List Hd} {now : Int} {k : Nat} (hk : k < l.length) (h0 : ∀ j, j < k → stepR p l now j = 0) (h1 : stepR p l now k ≠ 0) : validN p l now = k ∧ validE p l now = stepR p l now k := by
  have e : validN p l now = k := by
    unfold validN
    have h2 : (List.range l.length).find? (fun i => decide (stepR p l now i ≠ 0)) = some k := by
      rw [List.find?_range_eq_some]
      exact ⟨by simpa using h1, by simpa using hk, fun j hj => by simpa using h0 j hj⟩
    rw [h2]; rfl
  refine ⟨e, ?_⟩
  unfold validE
  rw [e, if_pos hk]
theorem valid_all {p : Par} {l : List Hd} {now : Int} (h0 : ∀ j, j < l.length → stepR p l now j = 0) : validN p l now = l.length ∧ validE p l now = 0 := by
  have e : validN p l now = l.length := by
    unfold validN
    have h2 : (List.range l.length).find? (fun i => decide (stepR p l now i ≠ 0)) = none := by
      rw [List.find?_eq_none]
      intro j hj
      have := h0 j (by simpa using hj)
      simpa using this
    rw [h2]; rfl
  refine ⟨e, ?_⟩
  unfold validE
  rw [e, if_neg (Nat.lt_irrefl _)]
theorem valid_low {p : Par} {l : List Hd} {now : Int} : (∀ j, j < validN p l now → stepR p l now j = 0) ∧ validN p l now ≤ l.length ∧ (validN p l now < l.length → stepR p l now (validN p l now) ≠ 0) := by
  unfold validN
  cases h : (List.range l.length).find? (fun i => decide (stepR p l now i ≠ 0)) with
  | none =>
    rw [List.find?_eq_none] at h
    refine ⟨fun j hj => ?_, Nat.le_refl _, fun h => absurd h (Nat.lt_irrefl _)⟩
    have := h j (by simpa using hj)
    simpa using this
  | some k =>
    rw [List.find?_range_eq_some] at h
    obtain ⟨h1, h2, h3⟩ := h
    exact ⟨fun j hj => by simpa using h3 j hj, Nat.le_of_lt (by simpa using h2), fun _ => by simpa using h1⟩
theorem rd_takeH {w : World} {B : Option Addr} {l : List Hd} (h : Rd w B (l.flatMap Hd.cells)) (k : Nat) : Rd w B ((l.take k).flatMap Hd.cells) := by
  have e : l.flatMap Hd.cells = (l.take k).flatMap Hd.cells ++ (l.drop k).flatMap Hd.cells := by rw [← List.flatMap_append, List.take_append_drop]
  have h2 := h.take ((l.take k).flatMap Hd.cells).length
  rw [e, List.take_left] at h2
  exact h2

end Go.Proofs.YtjbdboekleaklaaGreatDoor

/- fork.Accept. (printed by gen_tj.py) -/
set_option linter.unusedSimpArgs false
set_option linter.unusedVariables false
namespace Go.Proofs.YtjbdboekleaklaaGreatDoor
open Go.RowKit
attribute [local go_sem ↓] Go.wp_at_zero Go.wp_at_succ

/-- What Accept answers: what is there then; the number, the error. -/
def accR (p : Par) (most : Int) (ns : List Nd) (h : Hd) (now : Int) : List Nd × Int × Int :=
  if beginsR p h = 15 then (ns, -1, 15)
  else if ns = [] then (if beginsR p h ≠ 0 then (ns, -1, beginsR p h) else addR most ns h)
  else match findN ns (idL h) with
    | some i => (ns, i, 10)
    | none => match findN ns h.prev with
      | none => (ns, -1, 9)
      | some i => if checkR p ((lineO ns i).map (headN ns)) h now ≠ 0 then (ns, -1, checkR p ((lineO ns i).map (headN ns)) h now) else addR most ns h

set_option maxRecDepth 100000 in
set_option maxHeartbeats 8000000 in
theorem accept_any (p : Par) (A : Option Addr) (c : Nat) (base T M : Nat) (v : Value) (most : Int) (ns : List Nd) (h : Hd) (cs : Array Value) (now : Int) (w : World) (hS : ShaOk w) (hC : Chks p A w) (TR : Tr ns) (hO : TrO w base T M v most ns) (hl : ns.length ≤ 100) (ho : h.ok) (hcs : HdA h cs) (hbase : base ≤ w.heap.size) :
    Calls Tryz.prog 26 #[parV p A c, pT T, .agg cs, iv now] w fun e w' => e = .returned (.tuple #[iv (accR p most ns h now).2.1, iv (accR p most ns h now).2.2]) ∧ ∃ v', TrO w' base T M v' most (accR p most ns h now).1 ∧ KeepX (XT T M v) w w' ∧ (v'.ownBlock = v.ownBlock ∨ ∀ b, v'.ownBlock = some b → w.heap.size ≤ b) := by
  have BG : Hid (∀ y, Keep w y → Calls Tryz.prog 35 #[parV p A c, .agg cs] y fun e w' => e = .returned (iv (beginsR p h)) ∧ Keep y w') := Lib.hid fun y hy => begins_any p A c h cs y (hS.keep hy) (hC.keep hy) ho hcs
  have LN : Hid (∀ y, Keep w y → Calls Tryz.prog 10 #[pT T] y fun e w' => e = .returned (iv ns.length) ∧ Keep y w') := Lib.hid fun y hy => tlen_any T ns y (hO.r.keep hy)
  have ID : Hid (∀ y, Keep w y → Calls Tryz.prog 21 #[.agg cs] y fun e w' => ∃ ds, e = .returned (.agg ds) ∧ HashA (idL h) ds ∧ Keep y w') := Lib.hid fun y hy => id_any h cs y (hS.keep hy) ho hcs
  have F1 : Hid (∀ y xs, Keep w y → HashA (idL h) xs → Calls Tryz.prog 17 #[pT T, .agg xs] y fun e w' => e = .returned (.tuple #[iv ((findN ns (idL h)).getD 0 : Nat), .bool (findN ns (idL h)).isSome]) ∧ Keep y w') := Lib.hid fun y xs hy h2 => find_any T ns _ xs y (hO.r.keep hy) (idL_len _) h2
  obtain ⟨pv, hpv⟩ : ∃ pv, HashA h.prev pv := ⟨_, HashA.of ho.1⟩
  have F2 : Hid (∀ y, Keep w y → Calls Tryz.prog 17 #[pT T, .agg pv] y fun e w' => e = .returned (.tuple #[iv ((findN ns h.prev).getD 0 : Nat), .bool (findN ns h.prev).isSome]) ∧ Keep y w') := Lib.hid fun y hy => find_any T ns _ pv y (hO.r.keep hy) ho.1 hpv
  have AD : Hid (∀ y, Keep w y → Calls Tryz.prog 29 #[pT T, .agg cs] y fun e w' => e = .returned (.tuple #[iv (addR most ns h).2.1, iv (addR most ns h).2.2]) ∧ ∃ v', TrO w' base T M v' most (addR most ns h).1 ∧ KeepX (XT T M v) w w' ∧ (v'.ownBlock = v.ownBlock ∨ ∀ b, v'.ownBlock = some b → w.heap.size ≤ b)) := Lib.hid fun y hy =>
    (add_any base T M v most ns h cs y (hS.keep hy) TR (hO.keep hy) (by omega) ho hcs (Nat.le_trans hbase hy.size)).mono fun e w' ⟨h1, v', h2, h3, h4⟩ => ⟨h1, v', h2, (KeepX.of hy).trans h3 (fun _ _ q => q), h4.imp id fun q b hb => Nat.le_trans hy.size (q b hb)⟩
  have HDS : Hid (∀ (i : Nat) y, Keep w y → i < ns.length → Calls Tryz.prog 22 #[pT T, iv i] y (Headed y.heap.size ((lineO ns i).map (headN ns)) y)) := Lib.hid fun i y hy hi => Heads_any T ns i y (hO.r.keep hy) TR (by omega) (by omega)
  have CK : Hid (∀ (i : Nat) y B d, Keep w y → ((lineO ns i).map (headN ns)).length ≤ d → d ≤ maxLen → Rd y B (((lineO ns i).map (headN ns)).flatMap Hd.cells) → Calls Tryz.prog 36 #[parV p A c, .slice B ((lineO ns i).map (headN ns)).length d, .agg cs, iv now] y fun e w' => e = .returned (iv (checkR p ((lineO ns i).map (headN ns)) h now)) ∧ Keep y w') := Lib.hid fun i y B d hy h1 h2 h3 =>
    check_hd p A c B _ d h cs now y (hS.keep hy) (hC.keep hy) (by rw [List.length_map]; have := lineO_len TR i; omega) h1 h2 h3 (fun x hx => by obtain ⟨k, -, rfl⟩ := List.mem_map.1 hx; exact headN_ok TR k) ho hcs
  have HPV : Hid (∀ y g t, Blk y g t cs.toList → y.rangeAt g 1 pv.toList) := Lib.hid fun y g t hb => hd_prevr ho hpv hb hcs
  have FS : Hid (∀ id i, findN ns id = some i → i < ns.length) := Lib.hid fun id i q => by
    obtain ⟨n, h1, -⟩ := find_some q
    exact (List.getElem?_eq_some_iff.1 h1).1
  have HO := Lib.hid hO
  have hcz := hcs.z; have hcn := hcs.n; have hci := hcs.i
  have hpz := hpv.z; have hpn := hpv.n; have hpi := hpv.i
  obtain ⟨RES, hRES⟩ : ∃ r, accR p most ns h now = r := ⟨_, rfl⟩
  rw [hRES]
  unfold accR at hRES
  have HRES := Lib.hid hRES
  clear hRES hS hC hO ho hcs hpv TR hl hbase
  obtain ⟨b0, hb0⟩ : ∃ b, beginsR p h = b := ⟨_, rfl⟩
  rw [hb0] at BG HRES
  clear hb0
  obtain ⟨ADD, hADD⟩ : ∃ r, addR most ns h = r := ⟨_, rfl⟩
  rw [hADD] at AD HRES
  clear hADD
  generalize idL h = I at *
  generalize h.prev = PV at *
  obtain ⟨N, hN⟩ : ∃ N, ns.length = N := ⟨_, rfl⟩
  rw [hN] at LN FS HDS
  have HNE := Lib.hid hN
  clear hN
  unfold Headed at *
  unfold parV at *
  generalize p.limit = limit at *
  generalize p.itv = itv at *
  generalize p.span = span at *
  generalize p.fut = fut at *
  generalize p.idx = idx at *
  generalize p.orp = orp at *
  generalize p.chks.length = m at *
  have Hdm : True := trivial
  go_enter Tryz.func26, Tryz.ntmps26
  go_upto_region 1 with fail
  obtain ⟨w1, hw1⟩ : ∃ w1, w1 = (w.alloc (.cells #[u32v limit, iv itv, iv span, iv fut, iv idx, iv orp, .slice A m c] 64)).alloc (.cells cs 39) := ⟨_, rfl⟩
  have HP1 : Hid (Blk w1 w.heap.size 64 [u32v limit, iv itv, iv span, iv fut, iv idx, iv orp, .slice A m c]) := by rw [hw1]; exact Lib.hid ((Blk.new w 64 [u32v limit, iv itv, iv span, iv fut, iv idx, iv orp, .slice A m c]).alloc _)
  have HH1 : Hid (Blk w1 (w.heap.size + 1) 39 cs.toList) := by
    rw [hw1]
    have h2 := Blk.new (w.alloc (.cells #[u32v limit, iv itv, iv span, iv fut, iv idx, iv orp, .slice A m c] 64)) 39 cs.toList
    rw [World.size_alloc] at h2
    exact Lib.hid h2
  have HK1 : Hid (Keep w w1) := by rw [hw1]; exact Lib.hid (keep_trans (keep_new _ _) (keep_new _ _))
  rw [← hw1]
  clear hw1
  have p0 := HP1.out.cell 0
  have p1 := HP1.out.cell 1
  have p2 := HP1.out.cell 2
  have p3 := HP1.out.cell 3
  have p4 := HP1.out.cell 4
  have p5 := HP1.out.cell 5
  have p6 := HP1.out.cell 6
  simp only [List.getElem?_cons_succ, List.getElem?_cons_zero] at p0 p1 p2 p3 p4 p5 p6
  have rh : Hid (w1.rangeAt (w.heap.size + 1) 0 cs.toList) := Lib.hid (range_of HH1.out 0 cs.toList (by simp [List.take_of_length_le]))
  go_wp2_with ((with_reducible refine load_partg (w.heap.size + 1) 0 cs (Eq.trans ?_ rfl) rh.out _ Tryz.underlying39 rfl hci rfl ?_); rfl)
  refine (BG.out _ HK1.out).mono ?_
  clear BG p0 p1 p2 p3 p4 p5 p6 rh
  rintro e w2 ⟨rfl, k2⟩
  have HP2 := Lib.hid (HP1.out.keep k2)
  have HH2 := Lib.hid (HH1.out.keep k2)
  have HK2 := Lib.hid (keep_trans HK1.out k2)
  clear k2 HP1 HH1 HK1
  by_cases h15 : b0 = 15
  · subst h15
    have hR := HRES.out
    rw [if_pos rfl] at hR
    subst hR
    have hOk := Lib.hid (HO.out.keep HK2.out)
    have kx := Lib.hid (KeepX.of (X := XT T M v) HK2.out)
    clear HRES LN ID F1 F2 AD HDS CK HPV FS 
    go_wp2
    exact bodyPost_ret (v := .tuple #[iv (-1), iv 15]) (by simp [results, Tryz.results26]) rfl ⟨rfl, v, hOk.out, kx.out, Or.inl rfl⟩
  have h15b : (b0 == 15) = false := by simp [h15]
  have hR := HRES.out
  rw [if_neg h15] at hR
  replace HRES := Lib.hid hR
  clear hR
  go_wp2_with fail
  refine (LN.out _ HK2.out).mono ?_
  clear LN
  rintro e w3 ⟨rfl, k3⟩
  have HP3 := Lib.hid (HP2.out.keep k3)
  have HH3 := Lib.hid (HH2.out.keep k3)
  have HK3 := Lib.hid (keep_trans HK2.out k3)
  clear k3 HP2 HH2 HK2
  by_cases hn0 : N = 0
  · have hns : ns = [] := List.eq_nil_of_length_eq_zero (by rw [HNE.out]; exact hn0)
    have hR := HRES.out
    rw [if_pos hns] at hR
    replace HRES := Lib.hid hR
    have LN := True.intro
    clear hR hns
    by_cases hb : b0 = 0
    · subst hb
      have hR := HRES.out
      rw [if_neg (by simp)] at hR
      subst hR
      have g0 : (N == 0) = true := by simp [hn0]
      have rh : Hid (w3.rangeAt (w.heap.size + 1) 0 cs.toList) := Lib.hid (range_of HH3.out 0 cs.toList (by simp [List.take_of_length_le]))
      subst hn0
      go_wp2_with ((with_reducible refine load_partg (w.heap.size + 1) 0 cs (Eq.trans ?_ rfl) rh.out _ Tryz.underlying39 rfl hci rfl ?_); rfl)
      refine (AD.out _ HK3.out).mono ?_
      clear AD F1 F2 HDS CK ID HPV FS HRES rh
      rintro e w4 ⟨rfl, v', hT, hkx, hat⟩
      have HT := Lib.hid hT; have HKX := Lib.hid hkx; have HAT := Lib.hid hat
      clear hT hkx hat
      obtain ⟨A1, A2, A3⟩ := ADD
      go_wp2
      exact bodyPost_ret (v := .tuple #[iv A2, iv A3]) (by simp [results, Tryz.results26]) rfl ⟨rfl, v', HT.out, HKX.out, HAT.out⟩
    · have hb2 : (b0 != 0) = true := by simp [hb]
      subst hn0
      have hR := HRES.out
      rw [if_pos hb] at hR
      subst hR
      have hOk := Lib.hid (HO.out.keep HK3.out)
      have kx := Lib.hid (KeepX.of (X := XT T M v) HK3.out)
      clear HRES LN ID F1 F2 AD HDS CK HPV FS 
      go_wp2
      exact bodyPost_ret (v := .tuple #[iv (-1), iv b0]) (by simp [results, Tryz.results26]) rfl ⟨rfl, v, hOk.out, kx.out, Or.inl rfl⟩
  have hns : ¬ ns = [] := fun q => by rw [q] at HNE; exact hn0 HNE.out.symm
  have hR := HRES.out
  rw [if_neg hns] at hR
  replace HRES := Lib.hid hR
  have hnp : 0 < N := by omega
  have hnb : ((N : Int) == 0) = false := by rw [beq_eq_false_iff_ne]; omega
  clear hR hns hn0
  have rh : Hid (w3.rangeAt (w.heap.size + 1) 0 cs.toList) := Lib.hid (range_of HH3.out 0 cs.toList (by simp [List.take_of_length_le]))
  go_wp2_with ((with_reducible refine load_partg (w.heap.size + 1) 0 cs (Eq.trans ?_ rfl) rh.out _ Tryz.underlying39 rfl hci rfl ?_); rfl)
  refine (ID.out _ HK3.out).mono ?_
  clear ID rh
  rintro e w4 ⟨ds, rfl, hds, k4⟩
  have F1x := Lib.hid (fun y hy => F1.out y ds hy hds)
  clear hds F1
  have HP4 := Lib.hid (HP3.out.keep k4)
  have HH4 := Lib.hid (HH3.out.keep k4)
  have HK4 := Lib.hid (keep_trans HK3.out k4)
  clear k4 HP3 HH3 HK3
  go_wp2_with fail
  refine (F1x.out _ HK4.out).mono ?_
  clear F1x
  rintro e w5 ⟨rfl, k5⟩
  have HP5 := Lib.hid (HP4.out.keep k5)
  have HH5 := Lib.hid (HH4.out.keep k5)
  have HK5 := Lib.hid (keep_trans HK4.out k5)
  clear k5 HP4 HH4 HK4
  obtain ⟨FO, hFO⟩ : ∃ f, findN ns I = f := ⟨_, rfl⟩
  rw [hFO] at HRES ⊢
  clear hFO
  cases FO with
  | some i =>
    have ID := True.intro; have F1 := True.intro; have LN := True.intro
    have hR := HRES.out
    simp only at hR
    subst hR
    have hOk := Lib.hid (HO.out.keep HK5.out)
    have kx := Lib.hid (KeepX.of (X := XT T M v) HK5.out)
    clear HRES LN ID F1 F2 AD HDS CK HPV FS 
    go_wp2
    exact bodyPost_ret (v := .tuple #[iv (i : Int), iv 10]) (by simp [results, Tryz.results26]) rfl ⟨rfl, v, hOk.out, kx.out, Or.inl rfl⟩
  | none =>
  have RP : Hid (w5.rangeAt (w.heap.size + 1) 1 pv.toList) := Lib.hid (HPV.out _ _ _ HH5.out)
  go_wp2_with ((with_reducible refine load_partg (w.heap.size + 1) 1 pv (Eq.trans ?_ rfl) RP.out _ Tryz.underlying36 rfl hpi rfl ?_); rfl)
  refine (F2.out _ HK5.out).mono ?_
  clear F2 RP
  rintro e w6 ⟨rfl, k6⟩
  have HP6 := Lib.hid (HP5.out.keep k6)
  have HH6 := Lib.hid (HH5.out.keep k6)
  have HK6 := Lib.hid (keep_trans HK5.out k6)
  clear k6 HP5 HH5 HK5
  obtain ⟨FP, hFP⟩ : ∃ f, findN ns PV = f := ⟨_, rfl⟩
  have hFS : ∀ i, FP = some i → i < N := fun i q => FS.out PV i (by rw [hFP, q])
  rw [hFP] at HRES ⊢
  clear hFP FS
  cases FP with
  | none =>
    have ID := True.intro; have F1 := True.intro; have LN := True.intro; have F2 := True.intro; have FS := True.intro
    have hR := HRES.out
    simp only at hR
    subst hR
    have hOk := Lib.hid (HO.out.keep HK6.out)
    have kx := Lib.hid (KeepX.of (X := XT T M v) HK6.out)
    clear HRES LN ID F1 F2 AD HDS CK HPV FS hFS
    go_wp2
    exact bodyPost_ret (v := .tuple #[iv (-1), iv 9]) (by simp [results, Tryz.results26]) rfl ⟨rfl, v, hOk.out, kx.out, Or.inl rfl⟩
  | some i =>
  have hiN := hFS i rfl
  have HDx := Lib.hid (fun y hy => HDS.out i y hy hiN)
  have CKx := Lib.hid (fun y B d => CK.out i y B d)
  clear HDS CK hFS
  obtain ⟨LL, hLL⟩ : ∃ L, (lineO ns i).map (headN ns) = L := ⟨_, rfl⟩
  simp only at HRES
  rw [hLL] at HRES HDx CKx
  clear hLL
  obtain ⟨ce, hce⟩ : ∃ c, checkR p LL h now = c := ⟨_, rfl⟩
  rw [hce] at HRES CKx
  clear hce
  go_upto_region 14 with fail
  refine wp_region_tree (.take [0,1,2,4,5] (.force [3,6] (.take [7] .done))) [] (by kernel_rfl) (by kernel_rfl) (fun w7 k7 => ?_)
  have HP7 := Lib.hid (HP6.out.keep k7)
  have HH7 := Lib.hid (HH6.out.keep k7)
  have HK7 := Lib.hid (keep_trans HK6.out k7)
  clear k7 HP6 HH6 HK6
  have q0 := aft_cell (HP7.out.cell 0)
  have q1 := aft_cell (HP7.out.cell 1)
  have q2 := aft_cell (HP7.out.cell 2)
  have q3 := aft_cell (HP7.out.cell 3)
  have q4 := aft_cell (HP7.out.cell 4)
  have q5 := aft_cell (HP7.out.cell 5)
  have q6 := aft_cell (HP7.out.cell 6)
  have RH : Hid (w7.rangeAt (w.heap.size + 1) 0 cs.toList) := Lib.hid (range_of HH7.out 0 cs.toList (by simp [List.take_of_length_le]))
  refine mt_take w7 (Below.refl _ _) ?_
  simp only [pick_cons, pick_nil, nth_zero, nth_succ]
  repeat (first
    | ((with_reducible refine wpQuiet_load_partg (w.heap.size + 1) 0 cs (Eq.trans ?_ rfl) RH.out _ Tryz.underlying39 rfl hci (Eq.trans ?_ rfl) ?_); rfl; rfl; simp only [Act.put, Array.set!_eq_setIfInBounds, List.setIfInBounds_toArray, List.set_cons_succ, List.set_cons_zero])
    | go_big_quiet_step (fail))
  clear q0 q1 q2 q3 q4 q5 q6 RH
  refine wpQuiet_nil (mt_force ?_)
  simp only [pick_cons, pick_nil, nth_zero, nth_succ]
  refine fc_step rfl (fun K hK => ?_)
  go_simp
  (with_reducible refine (HDx.out _ HK7.out).mono ?_)
  rintro e w8 ⟨v8, rfl, hown8, k8⟩
  refine hK _ _ k8 ?_
  clear hK K
  obtain ⟨A8, c8, rfl, hc8, hm8, hr8⟩ := own_form hown8
  have CKy := Lib.hid (fun y hy => CKx.out y A8 c8 (keep_trans HK7.out (keep_trans k8 hy)) hc8 hm8 (hr8.keep hy))
  clear hown8 hr8 CKx
  have HP8 := Lib.hid (HP7.out.keep k8)
  have HH8 := Lib.hid (HH7.out.keep k8)
  have HK8 := Lib.hid (keep_trans HK7.out k8)
  clear k8 HP7 HH7 HK7
  refine fc_step rfl (fun K hK => ?_)
  go_simp
  (with_reducible refine (CKy.out _ (Below.refl _ _)).mono ?_)
  rintro e w9 ⟨rfl, k9⟩
  refine hK _ _ k9 ?_
  clear hK K
  clear CKy
  have HP9 := Lib.hid (HP8.out.keep k9)
  have HH9 := Lib.hid (HH8.out.keep k9)
  have HK9 := Lib.hid (keep_trans HK8.out k9)
  clear k9 HP8 HH8 HK8
  refine fc_nil (mt_take w9 (Below.refl _ _) ?_)
  simp only [pick_cons, pick_nil, nth_zero, nth_succ]
  repeat (first
    | go_big_quiet_step (fail))
  refine wpQuiet_nil (mt_end ?_)
  by_cases hc0 : ce = 0
  case neg =>
    have hc2 : (ce != 0) = true := by simp [hc0]
    have ID := True.intro; have F1 := True.intro; have LN := True.intro; have F2 := True.intro; have FS := True.intro; have HDS := True.intro; have CK := True.intro
    have hR := HRES.out
    rw [if_pos hc0] at hR
    subst hR
    have hOk := Lib.hid (HO.out.keep HK9.out)
    have kx := Lib.hid (KeepX.of (X := XT T M v) HK9.out)
    clear HRES LN ID F1 F2 AD HDS CK HPV FS HDx
    go_wp2
    exact bodyPost_ret (v := .tuple #[iv (-1), iv ce]) (by simp [results, Tryz.results26]) rfl ⟨rfl, v, hOk.out, kx.out, Or.inl rfl⟩
  subst hc0
  have hR := HRES.out
  rw [if_neg (by simp)] at hR
  subst hR
  have rh : Hid (w9.rangeAt (w.heap.size + 1) 0 cs.toList) := Lib.hid (range_of HH9.out 0 cs.toList (by simp [List.take_of_length_le]))
  go_wp2_with ((with_reducible refine load_partg (w.heap.size + 1) 0 cs (Eq.trans ?_ rfl) rh.out _ Tryz.underlying39 rfl hci rfl ?_); rfl)
  refine (AD.out _ HK9.out).mono ?_
  clear AD HDx HPV HRES rh
  rintro e w4 ⟨rfl, v', hT, hkx, hat⟩
  have HT := Lib.hid hT; have HKX := Lib.hid hkx; have HAT := Lib.hid hat
  clear hT hkx hat
  obtain ⟨A1, A2, A3⟩ := ADD
  go_wp2
  exact bodyPost_ret (v := .tuple #[iv A2, iv A3]) (by simp [results, Tryz.results26]) rfl ⟨rfl, v', HT.out, HKX.out, HAT.out⟩
end Go.Proofs.YtjbdboekleaklaaGreatDoor

/- florinlaw17's example (plain). -/
set_option linter.unusedSimpArgs false
set_option linter.unusedVariables false
namespace Go.Proofs.YtjbdboekleaklaaGreatDoor
open Go.RowKit

theorem check_zero0 {p : Par} {l : List Hd} {h : Hd} {now : Int} : checkR p l h now = 0 ↔ saneR p = true ∧ l.length ≠ 0 ∧ (h.prev == idL (lastH l)) = true ∧ (h.bits.toNat == (chainR p l).toNat) = true ∧
    meetN (leN (idL h)) h.bits p.limit = 0 ∧ chkI h.time (l.map Hd.time) now p.fut = 0 ∧ passR p l.length (idL h) = 0 := by
  unfold checkR
  generalize (h.prev == idL (lastH l)) = b1
  generalize (h.bits.toNat == (chainR p l).toNat) = b2
  generalize meetN (leN (idL h)) h.bits p.limit = M
  generalize chkI h.time (l.map Hd.time) now p.fut = C
  generalize passR p l.length (idL h) = PR
  generalize saneR p = S
  generalize l.length = n
  by_cases h1 : S = false ∨ n = 0
  · rw [if_pos h1]
    constructor
    · intro h; cases h
    · rintro ⟨a, b, -⟩
      rcases h1 with e | e
      · rw [a] at e; cases e
      · exact absurd e b
  · rw [if_neg h1]
    have hS : S = true := by cases S with | true => rfl | false => exact absurd (Or.inl rfl) h1
    have hn : n ≠ 0 := fun e => h1 (Or.inr e)
    cases b1 with
    | false => simp
    | true =>
      cases b2 with
      | false => simp
      | true =>
        simp only [Bool.true_eq_false, if_false]
        by_cases hM : M = 0
        · by_cases hC : C = 0
          · simp [hS, hn, hM, hC]
          · simp [hM, hC]
        · simp [hM]


def fkR : Par := ⟨545259519, 9, 90, 10, 0, 0, []⟩
def fkA : Hd := ⟨0, z32, z32, 0, 545259519, 0⟩
def mkF (L : List UInt8) (n : UInt32) : Hd := ⟨0, L, z32, 1, 545259519, n⟩
theorem fkA_ok : fkA.ok := ⟨rfl, rfl⟩
theorem mkF_ok (L : List UInt8) (n : UInt32) (h : L.length = 32) : (mkF L n).ok := ⟨h, rfl⟩
theorem mkF_bump (L : List UInt8) (k : Nat) : (mkF L 0).bump k = mkF L (0 + UInt32.ofNat k) := rfl
theorem mkF_prev (L : List UInt8) (n : UInt32) : (mkF L n).prev = L := rfl
theorem fk_m0 : meetN (leN (idL (mkF (idL fkA) 0))) 545259519 545259519 ≠ 0 := by decide +kernel
theorem fk_m1 : meetN (leN (idL (mkF (idL fkA) 1))) 545259519 545259519 ≠ 0 := by decide +kernel
theorem fk_m2 : meetN (leN (idL (mkF (idL fkA) 2))) 545259519 545259519 = 0 := by decide +kernel
theorem fk_ne : (idL fkA == idL (mkF (idL fkA) 2)) = false := by decide +kernel
theorem fk_sane : saneR fkR = true := by decide +kernel
theorem fk_bits (L : List UInt8) (n : UInt32) : (mkF L n).bits = 545259519 := rfl
theorem fk_mine : (∀ j, j < 2 → meetN (leN (idL ((mkF (idL fkA) 0).bump j))) 545259519 545259519 ≠ 0) ∧ meetN (leN (idL ((mkF (idL fkA) 0).bump 2))) 545259519 545259519 = 0 := by
  have h0 := fk_m0; have h1 := fk_m1; have h2 := fk_m2
  generalize idL fkA = L at *
  refine ⟨fun j hj => ?_, ?_⟩
  · rcases (show j = 0 ∨ j = 1 by omega) with rfl | rfl
    · rw [mkF_bump]; exact h0
    · rw [mkF_bump]; exact h1
  · rw [mkF_bump]; exact h2
theorem fk_pass (n : Int) (id : List UInt8) : passR fkR n id = 0 := rfl
theorem fk_b (h : Hd) : beginsR fkR h = 0 := by unfold beginsR; rw [fk_sane, if_neg (by simp)]; exact fk_pass 0 _
theorem fk_chain : (545259519 : UInt32).toNat = (chainR fkR [fkA]).toNat := by decide +kernel
theorem fk_clock : chkI 1 [0] 5 10 = 0 := by decide +kernel
theorem fk_check (I : List UInt8) (n : UInt32) (hI : idL fkA = I) (hm : meetN (leN (idL (mkF I n))) 545259519 545259519 = 0) : checkR fkR [fkA] (mkF I n) 5 = 0 := by
  rw [check_zero0]
  refine ⟨fk_sane, by decide, ?_, ?_, hm, ?_, fk_pass _ _⟩
  · rw [mkF_prev, show lastH [fkA] = fkA from rfl, hI]; exact beq_self_eq_true I
  · rw [fk_bits, ← fk_chain]; exact beq_self_eq_true _
  · exact fk_clock
theorem acc_first (p : Par) (h : Hd) (now : Int) (hb : beginsR p h = 0) : ∃ W, accR p 5 [] h now = ([⟨idL h, h, -1, 0, W⟩], 0, 0) := by
  unfold accR addR
  rw [hb, if_neg (by decide), if_pos rfl, if_neg (by simp)]
  generalize idL h = I
  generalize workN h.bits = W
  exact ⟨W, rfl⟩
theorem acc_second {I0 I1 : List UInt8} {hA hH : Hd} (W0 : Nat) {p : Par} {now : Int} (h1 : beginsR p hH = 0) (h2 : idL hH = I1) (hp : hH.prev = I0) (hne : (I0 == I1) = false) (hc : checkR p [hA] hH now = 0) :
    ∃ S, accR p 5 [⟨I0, hA, -1, 0, W0⟩] hH now = ([⟨I0, hA, -1, 0, W0⟩, ⟨I1, hH, 0, 1, S⟩], 1, 0) := by
  have f1 : findN [(⟨I0, hA, -1, 0, W0⟩ : Nd)] I1 = none := by unfold findN; simp [List.findIdx?_cons, hne]
  have f2 : findN [(⟨I0, hA, -1, 0, W0⟩ : Nd)] hH.prev = some 0 := by unfold findN; simp [List.findIdx?_cons, hp]
  have f3 : (lineO [(⟨I0, hA, -1, 0, W0⟩ : Nd)] ((0 : Nat) : Int)).map (headN [(⟨I0, hA, -1, 0, W0⟩ : Nd)]) = [hA] := rfl
  unfold accR addR
  rw [h1, h2, if_neg (by decide), if_neg (by simp), f1]
  simp only
  rw [f2]
  simp only
  rw [f3, hc, if_neg (by simp)]
  unfold addI newN
  rw [f1]
  simp only
  rw [f2, if_neg (by simp), if_neg (by simp), if_neg (by simp)]
  exact ⟨_, rfl⟩
theorem two_line (I0 I1 : List UInt8) (hA hH : Hd) (W0 S : Nat) : lineO [⟨I0, hA, -1, 0, W0⟩, ⟨I1, hH, 0, 1, S⟩] 1 = [0, 1] ∧ lineO [⟨I0, hA, -1, 0, W0⟩, ⟨I1, hH, 0, 1, S⟩] 0 = [0] := ⟨rfl, rfl⟩
theorem two_dep (I0 I1 : List UInt8) (hA hH : Hd) (W0 S : Nat) : depR [⟨I0, hA, -1, 0, W0⟩, ⟨I1, hH, 0, 1, S⟩] 1 0 = some 2 := rfl
theorem two_und : undN [0, 1] [0] = [1] ∧ donN [0, 1] [0] = [] ∧ (locL [0, 1]).length = 2 := by decide
end Go.Proofs.YtjbdboekleaklaaGreatDoor
