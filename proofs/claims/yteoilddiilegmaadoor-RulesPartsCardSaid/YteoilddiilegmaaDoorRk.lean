/- rules.Check. -/
import Derived.Test.YteoilddiilegmaaDoorRq
set_option linter.unusedSimpArgs false
set_option linter.unusedVariables false
namespace Go.Proofs.YteoilddiilegmaaDoor
open Go.RowKit
attribute [local go_sem ↓] Go.wp_at_zero Go.wp_at_succ

def lastH (l : List Hd) : Hd := l.getD (l.length - 1) hd0
def checkR (p : Par) (l : List Hd) (h : Hd) (now : Int) : Int :=
  if saneR p = false ∨ l.length = 0 then 15
  else if (h.prev == idL (lastH l)) = false then 9
  else if (h.bits.toNat == (chainR p l).toNat) = false then 7
  else if meetN (leN (idL h)) h.bits p.limit ≠ 0 then meetN (leN (idL h)) h.bits p.limit
  else if chkI h.time (l.map Hd.time) now p.fut ≠ 0 then chkI h.time (l.map Hd.time) now p.fut
  else passR p l.length (idL h)

theorem hd_prevr {h : Hd} (hk : h.ok) {pv : Array Value} (hp : HashA h.prev pv) {w : World} {g : Nat} {t : TypeId} {cs : Array Value} (hb : Blk w g t cs.toList) (hcs : HdA h cs) : w.rangeAt g 1 pv.toList := by
  refine range_of hb 1 pv.toList ?_
  rw [hp.l, hcs.l]
  simp [Hd.cells, hk.1]
theorem lastH_eq {l : List Hd} (h : l.length - 1 < l.length) : lastH l = l[l.length - 1] := by
  unfold lastH
  simp [List.getD_eq_getElem?_getD, List.getElem?_eq_getElem h]

set_option maxRecDepth 100000 in
set_option maxHeartbeats 4000000 in
theorem check_hd (p : Par) (A : Option Addr) (c : Nat) (B : Option Addr) (l : List Hd) (d : Nat) (h : Hd) (cs : Array Value) (now : Int) (w : World) (hS : ShaOk w) (hC : Chks p A w)
    (hl : l.length ≤ 100) (hd : l.length ≤ d) (hdm : d ≤ maxLen) (hr : Rd w B (l.flatMap Hd.cells)) (hk : ∀ h ∈ l, h.ok) (ho : h.ok) (hcs : HdA h cs) :
    Calls Tryd.prog 9 #[parV p A c, .slice B l.length d, .agg cs, iv now] w fun e w' => e = .returned (iv (checkR p l h now)) ∧ Keep w w' := by
  have S1 : Hid (∀ y, Calls Tryd.prog 10 #[parV p A c] y fun e w' => e = .returned (.bool (saneR p)) ∧ Keep y w') := Lib.hid fun y => sane_any p A c y
  have HR : Hid (∀ r, checkR p l h now = r → r = if saneR p = false ∨ l.length = 0 then 15 else if (h.prev == idL (lastH l)) = false then 9 else if (h.bits.toNat == (chainR p l).toNat) = false then 7 else if meetN (leN (idL h)) h.bits p.limit ≠ 0 then meetN (leN (idL h)) h.bits p.limit else if chkI h.time (l.map Hd.time) now p.fut ≠ 0 then chkI h.time (l.map Hd.time) now p.fut else passR p l.length (idL h)) := Lib.hid fun r e => by subst e; rfl
  replace HR := Lib.hid (HR.out _ rfl)
  have I1 : Hid (∀ y, Keep w y → ∀ xs, HdA (lastH l) xs → l.length ≠ 0 → Calls Tryd.prog 11 #[.agg xs] y fun e w' => ∃ ds, e = .returned (.agg ds) ∧ HashA (idL (lastH l)) ds ∧ Keep y w') := Lib.hid fun y hy xs hx h0 => id_any _ xs y (hS.keep hy) (by rw [lastH_eq (by omega)]; exact hk _ (List.getElem_mem _)) hx
  have HAT : Hid (l.length ≠ 0 → ∃ b off, B = some ⟨b, off, none⟩ ∧ ∃ xs, HdA (lastH l) xs ∧ w.rangeAt b (off + (l.length - 1) * 68) xs.toList) := Lib.hid fun h0 => by
    have hlt : l.length - 1 < l.length := by omega
    obtain ⟨b, off, h1, -, h2⟩ := heads_at hr hk hlt
    have hx := HdA.of (hk _ (List.getElem_mem hlt))
    refine ⟨b, off, h1, _, by rw [lastH_eq hlt]; exact hx, ?_⟩
    exact h2
  have C1 : Hid (∀ y, Keep w y → Calls Tryd.prog 13 #[parV p A c, .slice B l.length d] y fun e w' => e = .returned (u32v (chainR p l)) ∧ Keep y w') := Lib.hid fun y hy => chain_any p A c B l d y (by omega) hd (hr.keep hy) hk
  have I2 : Hid (∀ y, Keep w y → Calls Tryd.prog 11 #[.agg cs] y fun e w' => ∃ ds, e = .returned (.agg ds) ∧ HashA (idL h) ds ∧ Keep y w') := Lib.hid fun y hy => id_any h cs y (hS.keep hy) ho hcs
  have M1 : Hid (∀ y ds, HashA (idL h) ds → Calls Tryd.prog 14 #[.agg ds, u32v h.bits, u32v p.limit] y fun e w' => e = .returned (iv (meetN (leN (idL h)) h.bits p.limit)) ∧ Keep y w') := Lib.hid fun y ds hds => meets_any (idL h) ds h.bits p.limit y (idL_len _) hds
  have T1 : Hid (∀ y, Keep w y → Calls Tryd.prog 16 #[.slice B l.length d] y (Lasted y.heap.size (l.map Hd.time) y)) := Lib.hid fun y hy => times_hd B l d y hl (hr.keep hy) hk
  have hml : (l.map Hd.time).length ≤ 100 := by simpa using hl
  have K1 : Hid (∀ y base v, y.ownsRow base 22 1 v (l.map Hd.time).length ((l.map Hd.time).map u32v) → Calls Tryd.prog 15 #[u32v h.time, v, iv now, iv p.fut] y fun e w' => e = .returned (iv (chkI h.time (l.map Hd.time) now p.fut)) ∧ Keep y w') := Lib.hid fun y base v hv => by
    obtain ⟨Av, cv, rfl, hcv, hmv, hrv⟩ := own_form hv
    exact check_any h.time Av _ cv now p.fut y hcv hmv (own_rd hv)
  have P1 : Hid (∀ y, Keep w y → ∀ ds, HashA (idL h) ds → Calls Tryd.prog 26 #[parV p A c, iv l.length, .agg ds] y fun e w' => e = .returned (iv (passR p l.length (idL h))) ∧ Keep y w') := Lib.hid fun y hy ds hds => passes_any p A c l.length (idL h) ds y (hC.keep hy) (idL_len _) hds
  obtain ⟨pv, hpv⟩ : ∃ pv, HashA h.prev pv := ⟨_, HashA.of ho.1⟩
  have HT := Lib.hid (hd_time ho); have HBt := Lib.hid (hd_bits ho)
  have HPV : Hid (∀ y g t, Blk y g t cs.toList → y.rangeAt g 1 pv.toList) := Lib.hid fun y g t hb => hd_prevr ho hpv hb hcs
  have HL1 := Lib.hid ho.1
  have HL2 : Hid ((idL (lastH l)).length = 32) := Lib.hid (idL_len _)
  have hcz := hcs.z; have hcn := hcs.n; have hci := hcs.i
  have hpz := hpv.z; have hpn := hpv.n; have hpi := hpv.i
  rw [← hcs.l] at HT HBt
  have Hpv := Lib.hid hpv
  have HL3 : Hid ((idL h).length = 32) := Lib.hid (idL_len _)
  clear hpv hcs ho hk hr hC hS hml hdm
  generalize checkR p l h now = R at *
  generalize idL h = HI at *
  generalize h.prev = PV at *
  generalize meetN (leN HI) h.bits p.limit = M at *
  generalize passR p l.length HI = PR at *
  generalize chainR p l = CR at *
  generalize idL (lastH l) = LI at *
  generalize lastH l = LH at *
  generalize chkI h.time (l.map Hd.time) now p.fut = CI at *
  generalize l.map Hd.time = ts at *
  generalize l.length = n at *
  generalize h.bits = bits at *
  generalize h.time = tm at *
  generalize saneR p = S at *
  unfold parV at *
  generalize p.limit = limit at *
  generalize p.itv = itv at *
  generalize p.span = span at *
  generalize p.fut = fut at *
  generalize p.idx = idx at *
  generalize p.orp = orp at *
  generalize hm : p.chks.length = m at *
  clear hm
  clear p
  go_enter Tryd.func9, Tryd.ntmps9
  go_upto_region 1 with fail
  obtain ⟨w1, hw1⟩ : ∃ w1, w1 = (w.alloc (.cells #[u32v limit, iv itv, iv span, iv fut, iv idx, iv orp, .slice A m c] 25)).alloc (.cells cs 30) := ⟨_, rfl⟩
  have HP1 : Hid (Blk w1 w.heap.size 25 [u32v limit, iv itv, iv span, iv fut, iv idx, iv orp, .slice A m c]) := by rw [hw1]; exact Lib.hid ((Blk.new w 25 [u32v limit, iv itv, iv span, iv fut, iv idx, iv orp, .slice A m c]).alloc _)
  have HH1 : Hid (Blk w1 (w.heap.size + 1) 30 cs.toList) := by
    rw [hw1]
    have h2 := Blk.new (w.alloc (.cells #[u32v limit, iv itv, iv span, iv fut, iv idx, iv orp, .slice A m c] 25)) 30 cs.toList
    rw [World.size_alloc] at h2
    exact Lib.hid h2
  have HK1 : Hid (Keep w w1) := by rw [hw1]; exact Lib.hid (keep_trans (keep_new _ _) (keep_new _ _))
  rw [← hw1]
  clear hw1
  have p0 := HP1.out.cell 0
  have p1 := HP1.out.cell 1
  have p2 := HP1.out.cell 2
  have p3 := HP1.out.cell 3
  have p4 := HP1.out.cell 4
  have p5 := HP1.out.cell 5
  have p6 := HP1.out.cell 6
  simp only [List.getElem?_cons_succ, List.getElem?_cons_zero] at p0 p1 p2 p3 p4 p5 p6
  go_wp2_with fail
  refine (S1.out _).mono ?_
  clear S1 p0 p1 p2 p3 p4 p5 p6
  rintro e w2 ⟨rfl, k2⟩
  have HP2 := Lib.hid (HP1.out.keep k2)
  have HH2 := Lib.hid (HH1.out.keep k2)
  have HK2 := Lib.hid (keep_trans HK1.out k2)
  clear HP1 HH1 HK1 k2
  by_cases hs0 : S = false ∨ n = 0
  · have hR := HR.out
    rw [if_pos hs0] at hR
    subst hR
    clear HR HP2 HH2
    cases S with
    | false =>
      go_wp2
      exact bodyPost_ret (v := iv 15) (by simp [results, Tryd.results9]) rfl ⟨rfl, HK2.out⟩
    | true =>
      have h0 : n = 0 := hs0.resolve_left (by simp)
      subst h0
      go_wp2
      exact bodyPost_ret (v := iv 15) (by simp [results, Tryd.results9]) rfl ⟨rfl, HK2.out⟩
  have hR := HR.out
  rw [if_neg hs0] at hR
  replace HR := Lib.hid hR
  have hS : S = true := by cases S with | true => rfl | false => exact absurd (Or.inl rfl) hs0
  have h0 : n ≠ 0 := fun e => hs0 (Or.inr e)
  obtain ⟨b, off, rfl, xs, hxs, hrx⟩ := HAT.out h0
  have Hxs := Lib.hid hxs
  have hxz := hxs.z; have hxn := hxs.n; have hxi := hxs.i
  have I1' : Hid (∀ y, Keep w y → Calls Tryd.prog 11 #[.agg xs] y fun e w' => ∃ ds, e = .returned (.agg ds) ∧ HashA LI ds ∧ Keep y w') := Lib.hid fun y hy => I1.out y hy xs Hxs.out h0
  obtain ⟨j, hj⟩ : ∃ j, n - 1 = j := ⟨_, rfl⟩
  have hj2 : (n : Int) - 1 = j := by omega
  have hjn : j < n := by omega
  rw [hj] at hrx
  have HX := Lib.hid hrx
  have g1 : (n == 0) = false := by simp [h0]
  have g2 : ((n : Int) == 0) = false := by rw [beq_eq_false_iff_ne]; omega
  subst hS
  clear hR hs0 hj hrx hxs HAT I1 Hxs
  go_upto_region 3 with fail
  clear g1 g2
  refine wp_region_tree (.take [0,1,2,3,4,5,6,7] (.force [8] (.take [9] .done))) [] (by kernel_rfl) (by kernel_rfl) (fun w3 k3 => ?_)
  have HP3 := Lib.hid (HP2.out.keep k3)
  have HH3 := Lib.hid (HH2.out.keep k3)
  have HK3 := Lib.hid (keep_trans HK2.out k3)
  have RX : Hid (w3.rangeAt b (off + j * 68) xs.toList) := Lib.hid fun i v hv => keep_cell HK3.out (HX.out i v hv)
  have RP : Hid (w3.rangeAt (w.heap.size + 1) 1 pv.toList) := Lib.hid (HPV.out _ _ _ HH3.out)
  clear HP2 HH2 HK2 k3 HX HPV
  refine mt_take w3 (Below.refl _ _) ?_
  simp only [pick_cons, pick_nil, nth_zero, nth_succ]
  repeat (first
    | ((with_reducible refine wpQuiet_load_partg (w.heap.size + 1) 1 pv (Eq.trans ?_ rfl) RP.out _ Tryd.underlying28 rfl hpi rfl ?_); rfl; simp only [Act.put, Array.set!_eq_setIfInBounds, List.setIfInBounds_toArray, List.set_cons_succ, List.set_cons_zero])
    | ((with_reducible refine wpQuiet_load_partg b (off + j * 68) xs (Eq.trans ?_ rfl) RX.out _ Tryd.underlying30 rfl hxi rfl ?_); rfl; simp only [Act.put, Array.set!_eq_setIfInBounds, List.setIfInBounds_toArray, List.set_cons_succ, List.set_cons_zero])
    | go_big_quiet_step (fail))
  refine wpQuiet_nil (mt_force ?_)
  simp only [pick_cons, pick_nil, nth_zero, nth_succ]
  refine fc_step rfl (fun K hK => ?_)
  go_simp
  (with_reducible refine (I1'.out _ HK3.out).mono ?_)
  rintro e w4 ⟨ds, rfl, hds, k4⟩
  refine hK _ _ k4 ?_
  have heq : ∀ x, (Op.equalIn 10000 28 (.agg pv) (.agg ds)).run Tryd.prog (aft w4 x) = .ok (PV == LI) (aft w4 x) := fun x => hash_in Hpv.out hds HL1.out HL2.out _
  have heq2 : ∀ x, (Go.binOp .neq 28 (.agg pv) (.agg ds)).run Tryd.prog (aft w4 x) = .ok (.bool (!(PV == LI))) (aft w4 x) := fun x => hash_neq Hpv.out hds HL1.out HL2.out _
  have hdz := hds.z; have hdn := hds.n; have hdi := hds.i
  have HP4 := Lib.hid (HP3.out.keep k4)
  have HH4 := Lib.hid (HH3.out.keep k4)
  have HK4 := Lib.hid (keep_trans HK3.out k4)
  clear hK K hds k4 HP3 HH3 HK3 RX RP I1' Hpv HL1 HL2
  obtain ⟨b1, hb1⟩ : ∃ b, (PV == LI) = b := ⟨_, rfl⟩
  rw [hb1] at HR heq heq2
  clear hb1
  refine fc_nil (mt_take w4 (Below.refl _ _) ?_)
  simp only [pick_cons, pick_nil, nth_zero, nth_succ]
  repeat (go_big_quiet_step (fail))
  refine wpQuiet_nil (mt_end ?_)
  clear heq heq2
  cases b1 with
  | false =>
    have hR := HR.out
    rw [if_pos rfl] at hR
    subst hR
    clear HR HP4 HH4
    go_wp2
    exact bodyPost_ret (v := iv 9) (by simp [results, Tryd.results9]) rfl ⟨rfl, HK4.out⟩
  | true =>
  have hR := HR.out
  rw [if_neg (by simp)] at hR
  replace HR := Lib.hid hR
  clear hR
  go_upto_region 5 with fail
  refine wp_region_tree (.take [0,1,2,3] (.force [4] (.take [5] .done))) [] (by kernel_rfl) (by kernel_rfl) (fun w5 k5 => ?_)
  have HP5 := Lib.hid (HP4.out.keep k5)
  have HH5 := Lib.hid (HH4.out.keep k5)
  have HK5 := Lib.hid (keep_trans HK4.out k5)
  have q0 := aft_cell (HP5.out.cell 0)
  have q1 := aft_cell (HP5.out.cell 1)
  have q2 := aft_cell (HP5.out.cell 2)
  have q3 := aft_cell (HP5.out.cell 3)
  have q4 := aft_cell (HP5.out.cell 4)
  have q5 := aft_cell (HP5.out.cell 5)
  have q6 := aft_cell (HP5.out.cell 6)
  have r66 := aft_cell ((HH5.out.cell 66).trans HBt.out)
  clear HP4 HH4 HK4 k5
  refine mt_take w5 (Below.refl _ _) ?_
  simp only [pick_cons, pick_nil, nth_zero, nth_succ]
  repeat (go_big_quiet_step (fail))
  refine wpQuiet_nil (mt_force ?_)
  clear r66 q0 q1 q2 q3 q4 q5 q6
  simp only [pick_cons, pick_nil, nth_zero, nth_succ]
  refine fc_step rfl (fun K hK => ?_)
  go_simp
  (with_reducible refine (C1.out _ HK5.out).mono ?_)
  rintro e w6 ⟨rfl, k6⟩
  refine hK _ _ k6 ?_
  have HP6 := Lib.hid (HP5.out.keep k6)
  have HH6 := Lib.hid (HH5.out.keep k6)
  have HK6 := Lib.hid (keep_trans HK5.out k6)
  clear hK K k6 HP5 HH5 HK5 C1
  refine fc_nil (mt_take w6 (Below.refl _ _) ?_)
  simp only [pick_cons, pick_nil, nth_zero, nth_succ]
  repeat (go_big_quiet_step (fail))
  refine wpQuiet_nil (mt_end ?_)
  obtain ⟨b2, hb2⟩ : ∃ b, (bits.toNat == CR.toNat) = b := ⟨_, rfl⟩
  rw [hb2] at HR
  have hbn : ((bits.toNat : Int) != (CR.toNat : Int)) = !b2 := by
    rw [← hb2, Bool.eq_iff_iff]
    simp
    omega
  rw [hbn]
  clear hb2 hbn
  cases b2 with
  | false =>
    have hR := HR.out
    rw [if_pos rfl] at hR
    subst hR
    clear HR HP6 HH6
    go_wp2
    exact bodyPost_ret (v := iv 7) (by simp [results, Tryd.results9]) rfl ⟨rfl, HK6.out⟩
  | true =>
  have hR := HR.out
  rw [if_neg (by simp)] at hR
  replace HR := Lib.hid hR
  clear hR
  have rh : Hid (w6.rangeAt (w.heap.size + 1) 0 cs.toList) := Lib.hid (range_of HH6.out 0 cs.toList (by simp [List.take_of_length_le]))
  go_upto_region 7 with fail
  go_wp2_with ((with_reducible refine load_partg (w.heap.size + 1) 0 cs (Eq.trans ?_ rfl) rh.out _ Tryd.underlying30 rfl hci rfl ?_); rfl)
  refine (I2.out _ HK6.out).mono ?_
  clear I2 rh
  rintro e w7 ⟨es, rfl, hes, k7⟩
  have HP7 := Lib.hid (HP6.out.keep k7)
  have HH7 := Lib.hid (HH6.out.keep k7)
  have HK7 := Lib.hid (keep_trans HK6.out k7)
  have hez := hes.z; have hen := hes.n; have hei := hes.i
  obtain ⟨zs, hz1, hz2, hz3, -⟩ := zhash_letter
  have hst : (storeCells ⟨w7.heap.size, 0, none⟩ es.toList 0).run Tryd.prog (w7.alloc (.cells zs 28)) = .ok () (w7.alloc (.cells es 28)) := run_storeCells_new (P := Tryd.prog) w7 28 zs es hei (hz1.trans hez.symm) (by have := all_oneCell_toArray hes.o; rwa [Array.toArray_toList] at this)
  have Hes := Lib.hid hes
  clear k7 HP6 HH6 HK6 hes
  go_upto_region 8 with fail
  obtain ⟨w8, hw8⟩ : ∃ w8, w8 = w7.alloc (.cells es 28) := ⟨_, rfl⟩
  have HP8 : Hid (Blk w8 w.heap.size 25 [u32v limit, iv itv, iv span, iv fut, iv idx, iv orp, .slice A m c]) := by rw [hw8]; exact Lib.hid (HP7.out.alloc _)
  have HH8 : Hid (Blk w8 (w.heap.size + 1) 30 cs.toList) := by rw [hw8]; exact Lib.hid (HH7.out.alloc _)
  have HE8 : Hid (Blk w8 w7.heap.size 28 es.toList) := by rw [hw8]; exact Lib.hid (Blk.new w7 28 es.toList)
  have HK8 : Hid (Keep w w8) := by rw [hw8]; exact Lib.hid (keep_trans HK7.out (keep_new _ _))
  rw [← hw8]
  clear hw8 hst HP7 HH7 HK7 hz1 hz2 hz3 zs
  generalize w7.heap.size = g at *
  have re : Hid (w8.rangeAt g 0 es.toList) := Lib.hid (range_of HE8.out 0 es.toList (by simp [List.take_of_length_le]))
  have p0 := HP8.out.cell 0
  have r66 := (HH8.out.cell 66).trans HBt.out
  simp only [List.getElem?_cons_succ, List.getElem?_cons_zero] at p0
  go_wp2_with ((with_reducible refine load_partg g 0 es (Eq.trans ?_ rfl) re.out _ Tryd.underlying28 rfl hei rfl ?_); rfl)
  refine (M1.out _ es Hes.out).mono ?_
  clear M1 re p0 r66
  rintro e w9 ⟨rfl, k9⟩
  have HP9 := Lib.hid (HP8.out.keep k9)
  have HH9 := Lib.hid (HH8.out.keep k9)
  have HE9 := Lib.hid (HE8.out.keep k9)
  have HK9 := Lib.hid (keep_trans HK8.out k9)
  clear k9 HP8 HH8 HE8 HK8
  go_wp2_with fail
  refine (wrong_any M _).mono ?_
  rintro e wy ⟨rfl, rfl⟩
  by_cases hM0 : M ≠ 0
  · have hR := HR.out
    rw [if_pos hM0] at hR
    subst hR
    have d1 : (R != 0) = true := by simp [hM0]
    clear HR HP9 HH9 HE9 hM0
    go_wp2
    exact bodyPost_ret (v := iv R) (by simp [results, Tryd.results9]) rfl ⟨rfl, HK9.out⟩
  have hR := HR.out
  rw [if_neg (by simp [hM0])] at hR
  replace HR := Lib.hid hR
  obtain rfl : M = 0 := by omega
  have rh : Hid (wy.rangeAt g 0 es.toList) := Lib.hid (range_of HE9.out 0 es.toList (by simp [List.take_of_length_le]))
  clear hR hM0
  go_upto_region 11 with fail
  refine wp_region_tree (.take [0,1,2,4,5,6] (.force [3,7] (.take [8] .done))) [] (by kernel_rfl) (by kernel_rfl) (fun wa ka => ?_)
  have HPa := Lib.hid (HP9.out.keep ka)
  have HHa := Lib.hid (HH9.out.keep ka)
  have HEa := Lib.hid (HE9.out.keep ka)
  have HKa := Lib.hid (keep_trans HK9.out ka)
  have q3 := aft_cell (HPa.out.cell 3)
  have r65 := aft_cell ((HHa.out.cell 65).trans HT.out)
  clear HP9 HE9 HK9 rh ka
  refine mt_take wa (Below.refl _ _) ?_
  simp only [pick_cons, pick_nil, nth_zero, nth_succ]
  repeat (go_big_quiet_step (fail))
  refine wpQuiet_nil (mt_force ?_)
  clear q3 r65 HHa
  simp only [pick_cons, pick_nil, nth_zero, nth_succ]
  refine fc_step rfl (fun K hK => ?_)
  go_simp
  (with_reducible refine (T1.out _ HKa.out).mono ?_)
  rintro e wb ⟨tv, rfl, htv, kb⟩
  refine hK _ _ kb ?_
  have HTV := Lib.hid htv
  have HPb := Lib.hid (HPa.out.keep kb)
  have HEb := Lib.hid (HEa.out.keep kb)
  have HKb := Lib.hid (keep_trans HKa.out kb)
  clear hK K T1 htv kb HPa HEa HKa
  refine fc_step rfl (fun K hK => ?_)
  go_simp
  (with_reducible refine (K1.out _ _ _ HTV.out).mono ?_)
  rintro e wc ⟨rfl, kc⟩
  refine hK _ _ kc ?_
  have HPc := Lib.hid (HPb.out.keep kc)
  have HEc := Lib.hid (HEb.out.keep kc)
  have HKc := Lib.hid (keep_trans HKb.out kc)
  clear hK K K1 HTV kc HPb HEb HKb
  refine fc_nil (mt_take wc (Below.refl _ _) ?_)
  simp only [pick_cons, pick_nil, nth_zero, nth_succ]
  repeat (go_big_quiet_step (fail))
  refine wpQuiet_nil (mt_end ?_)
  go_wp2_with fail
  refine (wrong_any CI _).mono ?_
  rintro e wd ⟨rfl, rfl⟩
  by_cases hC0 : CI ≠ 0
  · have hR := HR.out
    rw [if_pos hC0] at hR
    subst hR
    have d1 : (R != 0) = true := by simp [hC0]
    clear HR HPc HEc hC0
    go_wp2
    exact bodyPost_ret (v := iv R) (by simp [results, Tryd.results9]) rfl ⟨rfl, HKc.out⟩
  have hR := HR.out
  rw [if_neg hC0] at hR
  subst hR
  obtain rfl : CI = 0 := by omega
  clear HR hC0
  have re : Hid (wd.rangeAt g 0 es.toList) := Lib.hid (range_of HEc.out 0 es.toList (by simp [List.take_of_length_le]))
  go_upto_region 14 with fail
  have p0 := HPc.out.cell 0
  have p1 := HPc.out.cell 1
  have p2 := HPc.out.cell 2
  have p3 := HPc.out.cell 3
  have p4 := HPc.out.cell 4
  have p5 := HPc.out.cell 5
  have p6 := HPc.out.cell 6
  simp only [List.getElem?_cons_succ, List.getElem?_cons_zero] at p0 p1 p2 p3 p4 p5 p6
  go_wp2_with ((with_reducible refine load_partg g 0 es (Eq.trans ?_ rfl) re.out _ Tryd.underlying28 rfl hei rfl ?_); rfl)
  refine (P1.out _ HKc.out es Hes.out).mono ?_
  clear P1 re p0 p1 p2 p3 p4 p5 p6
  rintro e we ⟨rfl, ke⟩
  go_wp2
  exact bodyPost_ret (v := iv R) (by simp [results, Tryd.results9]) rfl ⟨rfl, keep_trans HKc.out ke⟩
end Go.Proofs.YteoilddiilegmaaDoor
