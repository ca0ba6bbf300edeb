/- RulesMay: the walk. (printed by gen_rma.py) -/
import Derived.Test.YteoilddiilegmaaDoorRz0
import Derived.Test.YteoilddiilegmaaDoorRw
set_option linter.unusedSimpArgs false
set_option linter.unusedVariables false
namespace Go.Proofs.YteoilddiilegmaaDoor
open Go.RowKit
attribute [local go_sem ↓] Go.wp_at_zero Go.wp_at_succ

set_option maxRecDepth 100000 in
set_option maxHeartbeats 8000000 in
theorem may_walk (p : Par) (A : Option Addr) (c : Nat) (B : Option Addr) (l : List Hd) (d : Nat) (h : Hd) (cs : Array Value) (now : Int) (w : World) (hS : ShaOk w) (hC : Rd w A (p.chks.flatMap chkC) ∧ ∀ x ∈ p.chks, x.2.length = 32)
    (hd : l.length ≤ d) (hdm : d ≤ maxLen) (hr : Rd w B (l.flatMap Hd.cells)) (hk : ∀ h ∈ l, h.ok) (ho : h.ok) (hcs : HdA h cs) :
    Calls Tryd.prog 3 #[parV p A c, .slice B l.length d, .agg cs, iv now] w fun e w' => e = .returned (.bool true) ∧ Keep w w' := by
  have AW : Hid (∀ y, Keep w y → Calls Tryd.prog 8 #[] y fun e w' => e = .returned (.bool true) ∧ Keep y w') := Lib.hid fun y hy => awake_any y (hS.keep hy)
  have CK : Hid (∀ y, Keep w y → l.length ≤ 20 → p.chks.length ≤ 120 → Calls Tryd.prog 9 #[parV p A c, .slice B l.length d, .agg cs, iv now] y fun e w' => e = .returned (iv (checkR p l h now)) ∧ Keep y w') := Lib.hid fun y hy h1 h2 =>
    check_hd p A c B l d h cs now y (hS.keep hy) ⟨hC.1.keep hy, hC.2, by omega⟩ (by omega) hd hdm (hr.keep hy) hk ho hcs
  have SA : Hid (∀ y, Calls Tryd.prog 10 #[parV p A c] y fun e w' => e = .returned (.bool (saneR p)) ∧ Keep y w') := Lib.hid fun y => sane_any p A c y
  have ID : Hid (∀ y, Keep w y → Calls Tryd.prog 11 #[.agg cs] y fun e w' => ∃ ds, e = .returned (.agg ds) ∧ HashA (idL h) ds ∧ Keep y w') := Lib.hid fun y hy => id_any h cs y (hS.keep hy) ho hcs
  have PT : Hid (∀ y, Keep w y → p.chks.length ≤ 120 → Calls Tryd.prog 12 #[parV p A c, iv l.length] y fun e w' => ∃ cs, e = .returned (.tuple #[.agg cs, .bool (pointR p l.length).isSome]) ∧ HashA (pointH p l.length) cs ∧ Keep y w') := Lib.hid fun y hy h2 => point_any p A c l.length y ⟨hC.1.keep hy, hC.2, by omega⟩
  have IL : Hid (∀ y, Keep w y → ∀ xs, HdA (lastH l) xs → l.length ≠ 0 → Calls Tryd.prog 11 #[.agg xs] y fun e w' => ∃ ds, e = .returned (.agg ds) ∧ HashA (idL (lastH l)) ds ∧ Keep y w') := Lib.hid fun y hy xs hx h0 => id_any _ xs y (hS.keep hy) (by rw [lastH_eq (by omega)]; exact hk _ (List.getElem_mem _)) hx
  have HAT : Hid (l.length ≠ 0 → ∃ b off, B = some ⟨b, off, none⟩ ∧ ∃ xs, HdA (lastH l) xs ∧ w.rangeAt b (off + (l.length - 1) * 68) xs.toList) := Lib.hid fun h0 => by
    have hlt : l.length - 1 < l.length := by omega
    obtain ⟨b, off, h1, -, h2⟩ := heads_at hr hk hlt
    have hx := HdA.of (hk _ (List.getElem_mem hlt))
    refine ⟨b, off, h1, _, by rw [lastH_eq hlt]; exact hx, ?_⟩
    exact h2
  have CH : Hid (∀ y, Keep w y → l.length ≤ 20 → Calls Tryd.prog 13 #[parV p A c, .slice B l.length d] y fun e w' => e = .returned (u32v (chainR p l)) ∧ Keep y w') := Lib.hid fun y hy h1 => chain_any p A c B l d y (by omega) hd (hr.keep hy) hk
  have ME : Hid (∀ y ds, HashA (idL h) ds → Calls Tryd.prog 14 #[.agg ds, u32v h.bits, u32v p.limit] y fun e w' => e = .returned (iv (meetN (leN (idL h)) h.bits p.limit)) ∧ Keep y w') := Lib.hid fun y ds hds => meets_any (idL h) ds h.bits p.limit y (idL_len _) hds
  have TI : Hid (∀ y, Keep w y → l.length ≤ 20 → Calls Tryd.prog 16 #[.slice B l.length d] y (Lasted y.heap.size (l.map Hd.time) y)) := Lib.hid fun y hy h1 => times_hd B l d y (by omega) (hr.keep hy) hk
  have CC : Hid (∀ y base v, y.ownsRow base 22 1 v (l.map Hd.time).length ((l.map Hd.time).map u32v) → Calls Tryd.prog 15 #[u32v h.time, v, iv now, iv p.fut] y fun e w' => e = .returned (iv (chkI h.time (l.map Hd.time) now p.fut)) ∧ Keep y w') := Lib.hid fun y base v hv => by
    obtain ⟨Av, cv, rfl, hcv, hmv, hrv⟩ := own_form hv
    exact check_any h.time Av _ cv now p.fut y hcv hmv (own_rd hv)
  obtain ⟨pv, hpv⟩ : ∃ pv, HashA h.prev pv := ⟨_, HashA.of ho.1⟩
  have HT := Lib.hid (hd_time ho); have HBt := Lib.hid (hd_bits ho)
  have HPV : Hid (∀ y g t, Blk y g t cs.toList → y.rangeAt g 1 pv.toList) := Lib.hid fun y g t hb => hd_prevr ho hpv hb hcs
  have HL1 := Lib.hid ho.1
  have HL2 : Hid ((idL (lastH l)).length = 32) := Lib.hid (idL_len _)
  have HL3 : Hid ((idL h).length = 32) := Lib.hid (idL_len _)
  have HL4 : Hid ((pointH p l.length).length = 32) := Lib.hid (pointH_len hC.2 _)
  have LAW : Hid (saneR p = true → l.length ≠ 0 → (checkR p l h now == 0) = _) := Lib.hid (fun a b => may_law a b)
  have NONE : Hid (l.length = 0 ∨ saneR p = false → checkR p l h now = 15) := Lib.hid may_none
  have hcz := hcs.z; have hcn := hcs.n; have hci := hcs.i
  have hpz := hpv.z; have hpn := hpv.n; have hpi := hpv.i
  rw [← hcs.l] at HT HBt
  have Hpv := Lib.hid hpv
  clear hpv hcs ho hk hr hC hS hdm hd
  generalize checkR p l h now = R at *
  generalize idL h = HI at *
  generalize h.prev = PV at *
  generalize meetN (leN HI) h.bits p.limit = M at *
  generalize chainR p l = CR at *
  generalize idL (lastH l) = LI at *
  generalize lastH l = LH at *
  generalize chkI h.time (l.map Hd.time) now p.fut = CI at *
  generalize l.map Hd.time = ts at *
  generalize (pointR p l.length).isSome = is at *
  generalize pointH p l.length = PH at *
  generalize l.length = n at *
  generalize h.bits = bits at *
  generalize h.time = tm at *
  generalize saneR p = S at *
  unfold parV at *
  generalize p.limit = limit at *
  generalize p.itv = itv at *
  generalize p.span = span at *
  generalize p.fut = fut at *
  generalize p.idx = idx at *
  generalize p.orp = orp at *
  generalize p.chks.length = m at *
  clear p
  go_enter Tryd.func3, Tryd.ntmps3
  go_upto_region 1 with fail
  obtain ⟨w1, hw1⟩ : ∃ w1, w1 = (w.alloc (.cells #[u32v limit, iv itv, iv span, iv fut, iv idx, iv orp, .slice A m c] 25)).alloc (.cells cs 30) := ⟨_, rfl⟩
  have HP1 : Hid (Blk w1 w.heap.size 25 [u32v limit, iv itv, iv span, iv fut, iv idx, iv orp, .slice A m c]) := by rw [hw1]; exact Lib.hid ((Blk.new w 25 [u32v limit, iv itv, iv span, iv fut, iv idx, iv orp, .slice A m c]).alloc _)
  have HH1 : Hid (Blk w1 (w.heap.size + 1) 30 cs.toList) := by
    rw [hw1]
    have h2 := Blk.new (w.alloc (.cells #[u32v limit, iv itv, iv span, iv fut, iv idx, iv orp, .slice A m c] 25)) 30 cs.toList
    rw [World.size_alloc] at h2
    exact Lib.hid h2
  have HK1 : Hid (Keep w w1) := by rw [hw1]; exact Lib.hid (keep_trans (keep_new _ _) (keep_new _ _))
  rw [← hw1]
  clear hw1
  go_wp2_with fail
  refine (AW.out _ HK1.out).mono ?_
  clear AW
  rintro e w2 ⟨rfl, k2⟩
  have HP2 := Lib.hid (HP1.out.keep k2)
  have HH2 := Lib.hid (HH1.out.keep k2)
  have HK2 := Lib.hid (keep_trans HK1.out k2)
  clear k2 HP1 HH1 HK1
  have p6 := HP2.out.cell 6
  simp only [List.getElem?_cons_succ, List.getElem?_cons_zero] at p6
  by_cases hn : 20 < n
  · have d1 : (20 : Int) < n := by omega
    clear CK CH TI PT CC ME LAW NONE
    go_wp2
    exact bodyPost_ret (v := .bool true) (by simp [results, Tryd.results3]) rfl ⟨rfl, HK2.out⟩
  by_cases hm : 120 < m
  · have d1 : ¬ (20 : Int) < n := by omega
    have d2 : (120 : Int) < m := by omega
    clear CK CH TI PT CC ME LAW NONE
    go_wp2
    exact bodyPost_ret (v := .bool true) (by simp [results, Tryd.results3]) rfl ⟨rfl, HK2.out⟩
  have d1 : ¬ (20 : Int) < n := by omega
  have d2 : ¬ (120 : Int) < m := by omega
  have p0 := HP2.out.cell 0
  have p1 := HP2.out.cell 1
  have p2 := HP2.out.cell 2
  have p3 := HP2.out.cell 3
  have p4 := HP2.out.cell 4
  have p5 := HP2.out.cell 5
  simp only [List.getElem?_cons_succ, List.getElem?_cons_zero] at p0 p1 p2 p3 p4 p5
  have rh : Hid (w2.rangeAt (w.heap.size + 1) 0 cs.toList) := Lib.hid (range_of HH2.out 0 cs.toList (by simp [List.take_of_length_le]))
  go_wp2_with ((with_reducible refine load_partg (w.heap.size + 1) 0 cs (Eq.trans ?_ rfl) rh.out _ Tryd.underlying30 rfl hci rfl ?_); rfl)
  refine (CK.out _ HK2.out (by omega) (by omega)).mono ?_
  clear CK p0 p1 p2 p3 p4 p5 p6 rh
  rintro e w3 ⟨rfl, k3⟩
  have HP3 := Lib.hid (HP2.out.keep k3)
  have HH3 := Lib.hid (HH2.out.keep k3)
  have HK3 := Lib.hid (keep_trans HK2.out k3)
  clear k3 HP2 HH2 HK2
  have p0 := HP3.out.cell 0
  have p1 := HP3.out.cell 1
  have p2 := HP3.out.cell 2
  have p3 := HP3.out.cell 3
  have p4 := HP3.out.cell 4
  have p5 := HP3.out.cell 5
  have p6 := HP3.out.cell 6
  simp only [List.getElem?_cons_succ, List.getElem?_cons_zero] at p0 p1 p2 p3 p4 p5 p6
  by_cases h0 : n = 0
  · obtain rfl := NONE.out (Or.inl h0)
    subst h0
    clear LAW NONE CH TI PT CC ME SA
    go_wp2
    exact bodyPost_ret (v := .bool true) (by simp [results, Tryd.results3]) rfl ⟨rfl, HK3.out⟩
  have g1 : ((n : Int) == 0) = false := by rw [beq_eq_false_iff_ne]; omega
  have g0 : (n == 0) = false := by simp [h0]
  go_wp2_with fail
  refine (SA.out _).mono ?_
  clear SA p0 p1 p2 p3 p4 p5 p6
  rintro e w4 ⟨rfl, k4⟩
  have HP4 := Lib.hid (HP3.out.keep k4)
  have HH4 := Lib.hid (HH3.out.keep k4)
  have HK4 := Lib.hid (keep_trans HK3.out k4)
  clear k4 HP3 HH3 HK3
  cases S with
  | false =>
    obtain rfl := NONE.out (Or.inr rfl)
    clear LAW NONE CH TI PT CC ME
    go_wp2
    exact bodyPost_ret (v := .bool true) (by simp [results, Tryd.results3]) rfl ⟨rfl, HK4.out⟩
  | true =>
  have HZ := Lib.hid (LAW.out rfl h0)
  clear LAW NONE
  have rh : Hid (w4.rangeAt (w.heap.size + 1) 0 cs.toList) := Lib.hid (range_of HH4.out 0 cs.toList (by simp [List.take_of_length_le]))
  go_wp2_with ((with_reducible refine load_partg (w.heap.size + 1) 0 cs (Eq.trans ?_ rfl) rh.out _ Tryd.underlying30 rfl hci rfl ?_); rfl)
  refine (ID.out _ HK4.out).mono ?_
  clear ID rh
  rintro e w5 ⟨es, rfl, hes, k5⟩
  have HP5 := Lib.hid (HP4.out.keep k5)
  have HH5 := Lib.hid (HH4.out.keep k5)
  have HK5 := Lib.hid (keep_trans HK4.out k5)
  clear k5 HP4 HH4 HK4
  have hez := hes.z; have hen := hes.n; have hei := hes.i
  obtain ⟨zs, hz1, hz2, hz3, -⟩ := zhash_letter
  have hst : (storeCells ⟨w5.heap.size, 0, none⟩ es.toList 0).run Tryd.prog (w5.alloc (.cells zs 28)) = .ok () (w5.alloc (.cells es 28)) := run_storeCells_new (P := Tryd.prog) w5 28 zs es hei (hz1.trans hez.symm) (by have := all_oneCell_toArray hes.o; rwa [Array.toArray_toList] at this)
  have Hes := Lib.hid hes
  clear hes
  go_upto_region 8 with fail
  obtain ⟨w6, hw6⟩ : ∃ w6, w6 = w5.alloc (.cells es 28) := ⟨_, rfl⟩
  have HP6 : Hid (Blk w6 w.heap.size 25 [u32v limit, iv itv, iv span, iv fut, iv idx, iv orp, .slice A m c]) := by rw [hw6]; exact Lib.hid (HP5.out.alloc _)
  have HH6 : Hid (Blk w6 (w.heap.size + 1) 30 cs.toList) := by rw [hw6]; exact Lib.hid (HH5.out.alloc _)
  have HE6 : Hid (Blk w6 w5.heap.size 28 es.toList) := by rw [hw6]; exact Lib.hid (Blk.new w5 28 es.toList)
  have HK6 : Hid (Keep w w6) := by rw [hw6]; exact Lib.hid (keep_trans HK5.out (keep_new _ _))
  rw [← hw6]
  clear hw6 hst HP5 HH5 HK5
  generalize w5.heap.size = g at *
  have p0 := HP6.out.cell 0
  have p1 := HP6.out.cell 1
  have p2 := HP6.out.cell 2
  have p3 := HP6.out.cell 3
  have p4 := HP6.out.cell 4
  have p5 := HP6.out.cell 5
  have p6 := HP6.out.cell 6
  simp only [List.getElem?_cons_succ, List.getElem?_cons_zero] at p0 p1 p2 p3 p4 p5 p6
  go_wp2_with fail
  refine (PT.out _ HK6.out (by omega)).mono ?_
  clear PT p0 p1 p2 p3 p4 p5 p6
  rintro e w7 ⟨fs, rfl, hfs, k7⟩
  have HP7 := Lib.hid (HP6.out.keep k7)
  have HH7 := Lib.hid (HH6.out.keep k7)
  have HE7 := Lib.hid (HE6.out.keep k7)
  have HK7 := Lib.hid (keep_trans HK6.out k7)
  clear k7 HP6 HH6 HE6 HK6
  have hfz := hfs.z; have hfn := hfs.n; have hfi := hfs.i
  have hst : (storeCells ⟨w7.heap.size, 0, none⟩ fs.toList 0).run Tryd.prog (w7.alloc (.cells zs 28)) = .ok () (w7.alloc (.cells fs 28)) := run_storeCells_new (P := Tryd.prog) w7 28 zs fs hfi (hz1.trans hfz.symm) (by have := all_oneCell_toArray hfs.o; rwa [Array.toArray_toList] at this)
  have Hfs := Lib.hid hfs
  clear hfs
  obtain ⟨b, off, rfl, xs, hxs, hrx⟩ := HAT.out h0
  have Hxs := Lib.hid hxs
  have hxz := hxs.z; have hxn := hxs.n; have hxi := hxs.i
  have IL' : Hid (∀ y, Keep w y → Calls Tryd.prog 11 #[.agg xs] y fun e w' => ∃ ds, e = .returned (.agg ds) ∧ HashA LI ds ∧ Keep y w') := Lib.hid fun y hy => IL.out y hy xs Hxs.out h0
  obtain ⟨j, hj⟩ : ∃ j, n - 1 = j := ⟨_, rfl⟩
  have hj2 : (n : Int) - 1 = j := by omega
  have hjn : j < n := by omega
  rw [hj] at hrx
  have HX := Lib.hid hrx
  clear hj hrx hxs HAT IL Hxs
  go_upto_region 9 with fail
  obtain ⟨w8, hw8⟩ : ∃ w8, w8 = w7.alloc (.cells fs 28) := ⟨_, rfl⟩
  have HP8 : Hid (Blk w8 w.heap.size 25 [u32v limit, iv itv, iv span, iv fut, iv idx, iv orp, .slice A m c]) := by rw [hw8]; exact Lib.hid (HP7.out.alloc _)
  have HH8 : Hid (Blk w8 (w.heap.size + 1) 30 cs.toList) := by rw [hw8]; exact Lib.hid (HH7.out.alloc _)
  have HE8 : Hid (Blk w8 g 28 es.toList) := by rw [hw8]; exact Lib.hid (HE7.out.alloc _)
  have HF8 : Hid (Blk w8 w7.heap.size 28 fs.toList) := by rw [hw8]; exact Lib.hid (Blk.new w7 28 fs.toList)
  have HK8 : Hid (Keep w w8) := by rw [hw8]; exact Lib.hid (keep_trans HK7.out (keep_new _ _))
  rw [← hw8]
  clear hw8 hst HP7 HH7 HE7 HK7 hz1 hz2 hz3 zs g0 g1
  generalize w7.heap.size = gf at *
  try simp only [List.append_eq, List.cons_append, List.nil_append]
  refine wp_region_tree (.take [0,1,2,3,4,5,6,7] (.force [8] (.take [9,10,11,12,13,14] (.force [15] (.take [16,17,18,19,20,21,22,23] (.force [24] (.take [25,26,27,28,29,30,32,33,34] (.force [31,35] (.take [36,37,38,39,40,41,42,43,44,45,46,47] .done))))))))) [] (by kernel_rfl) (by kernel_rfl) (fun w9 k9 => ?_)
  have HP9 := Lib.hid (HP8.out.keep k9)
  have HH9 := Lib.hid (HH8.out.keep k9)
  have HE9 := Lib.hid (HE8.out.keep k9)
  have HF9 := Lib.hid (HF8.out.keep k9)
  have HK9 := Lib.hid (keep_trans HK8.out k9)
  have RX : Hid (w9.rangeAt b (off + j * 68) xs.toList) := Lib.hid fun i v hv => keep_cell HK9.out (HX.out i v hv)
  have RP : Hid (w9.rangeAt (w.heap.size + 1) 1 pv.toList) := Lib.hid (HPV.out _ _ _ HH9.out)
  clear HP8 HH8 HE8 HF8 HK8 k9 HX HPV
  refine mt_take w9 (Below.refl _ _) ?_
  simp only [pick_cons, pick_nil, nth_zero, nth_succ]
  repeat (first
    | ((with_reducible refine wpQuiet_load_partg (w.heap.size + 1) 1 pv (Eq.trans ?_ rfl) RP.out _ Tryd.underlying28 rfl hpi (Eq.trans ?_ rfl) ?_); rfl; rfl; simp only [Act.put, Array.set!_eq_setIfInBounds, List.setIfInBounds_toArray, List.set_cons_succ, List.set_cons_zero])
    | ((with_reducible refine wpQuiet_load_partg b (off + j * 68) xs (Eq.trans ?_ rfl) RX.out _ Tryd.underlying30 rfl hxi (Eq.trans ?_ rfl) ?_); rfl; rfl; simp only [Act.put, Array.set!_eq_setIfInBounds, List.setIfInBounds_toArray, List.set_cons_succ, List.set_cons_zero])
    | go_big_quiet_step (fail))
  refine wpQuiet_nil (mt_force ?_)
  simp only [pick_cons, pick_nil, nth_zero, nth_succ]
  refine fc_step rfl (fun K hK => ?_)
  go_simp
  (with_reducible refine (IL'.out _ HK9.out).mono ?_)
  rintro e w10 ⟨ds, rfl, hds, k10⟩
  refine hK _ _ k10 ?_
  clear hK K
  have HP10 := Lib.hid (HP9.out.keep k10)
  have HH10 := Lib.hid (HH9.out.keep k10)
  have HE10 := Lib.hid (HE9.out.keep k10)
  have HF10 := Lib.hid (HF9.out.keep k10)
  have HK10 := Lib.hid (keep_trans HK9.out k10)
  clear k10 HP9 HH9 HE9 HF9 HK9
  have heq : ∀ x, (Op.equalIn 10000 28 (.agg pv) (.agg ds)).run Tryd.prog (aft w10 x) = .ok (PV == LI) (aft w10 x) := fun x => hash_in Hpv.out hds HL1.out HL2.out _
  have hdz := hds.z; have hdn := hds.n; have hdi := hds.i
  clear hds RX RP IL' Hpv HL1 HL2
  generalize (PV == LI) = b1 at *
  cases b1 with
  | false =>
    have hR := HZ.out
    simp only [Bool.false_and] at hR
    clear HZ CH ME TI CC
    refine fc_nil (mt_take w10 (Below.refl _ _) ?_)
    simp only [pick_cons, pick_nil, nth_zero, nth_succ]
    repeat (first
      | go_big_quiet_step (fail))
    refine wpQuiet_nil (mt_force ?_)
    simp only [pick_cons, pick_nil, nth_zero, nth_succ]
    refine fc_skip rfl ?_
    simp only [Act.put, Array.set!_eq_setIfInBounds, List.setIfInBounds_toArray, List.set_cons_succ, List.set_cons_zero]
    refine fc_nil (mt_take w10 (Below.refl _ _) ?_)
    simp only [pick_cons, pick_nil, nth_zero, nth_succ]
    repeat (first
      | go_big_quiet_step (fail))
    refine wpQuiet_nil (mt_force ?_)
    simp only [pick_cons, pick_nil, nth_zero, nth_succ]
    refine fc_skip rfl ?_
    simp only [Act.put, Array.set!_eq_setIfInBounds, List.setIfInBounds_toArray, List.set_cons_succ, List.set_cons_zero]
    refine fc_nil (mt_take w10 (Below.refl _ _) ?_)
    simp only [pick_cons, pick_nil, nth_zero, nth_succ]
    repeat (first
      | go_big_quiet_step (fail))
    refine wpQuiet_nil (mt_force ?_)
    simp only [pick_cons, pick_nil, nth_zero, nth_succ]
    refine fc_skip rfl ?_
    simp only [Act.put, Array.set!_eq_setIfInBounds, List.setIfInBounds_toArray, List.set_cons_succ, List.set_cons_zero]
    refine fc_skip rfl ?_
    simp only [Act.put, Array.set!_eq_setIfInBounds, List.setIfInBounds_toArray, List.set_cons_succ, List.set_cons_zero]
    refine fc_nil (mt_take w10 (Below.refl _ _) ?_)
    simp only [pick_cons, pick_nil, nth_zero, nth_succ]
    repeat (first
      | go_big_quiet_step (fail))
    refine wpQuiet_nil (mt_end ?_)
    go_wp2
    exact bodyPost_ret (v := .bool true) (by simp [results, Tryd.results3]) rfl ⟨rfl, HK10.out⟩
  | true =>
  have hR := HZ.out
  rw [Bool.true_and] at hR
  replace HZ := Lib.hid hR
  clear hR
  have q0 := aft_cell (HP10.out.cell 0)
  have q1 := aft_cell (HP10.out.cell 1)
  have q2 := aft_cell (HP10.out.cell 2)
  have q3 := aft_cell (HP10.out.cell 3)
  have q4 := aft_cell (HP10.out.cell 4)
  have q5 := aft_cell (HP10.out.cell 5)
  have q6 := aft_cell (HP10.out.cell 6)
  have r66 := aft_cell ((HH10.out.cell 66).trans HBt.out)
  refine fc_nil (mt_take w10 (Below.refl _ _) ?_)
  simp only [pick_cons, pick_nil, nth_zero, nth_succ]
  repeat (first
    | go_big_quiet_step (fail))
  clear heq r66 q0 q1 q2 q3 q4 q5 q6
  refine wpQuiet_nil (mt_force ?_)
  simp only [pick_cons, pick_nil, nth_zero, nth_succ]
  refine fc_step rfl (fun K hK => ?_)
  go_simp
  (with_reducible refine (CH.out _ HK10.out (by omega)).mono ?_)
  rintro e w11 ⟨rfl, k11⟩
  refine hK _ _ k11 ?_
  clear hK K
  have HP11 := Lib.hid (HP10.out.keep k11)
  have HH11 := Lib.hid (HH10.out.keep k11)
  have HE11 := Lib.hid (HE10.out.keep k11)
  have HF11 := Lib.hid (HF10.out.keep k11)
  have HK11 := Lib.hid (keep_trans HK10.out k11)
  clear k11 HP10 HH10 HE10 HF10 HK10
  obtain ⟨b2, hb2⟩ : ∃ b, (bits.toNat == CR.toNat) = b := ⟨_, rfl⟩
  rw [hb2] at HZ
  have hbn : ((bits.toNat : Int) == (CR.toNat : Int)) = b2 := by
    rw [← hb2, Bool.eq_iff_iff]
    simp only [beq_iff_eq]
    omega
  clear hb2
  cases b2 with
  | false =>
    have hR := HZ.out
    simp only [Bool.false_and] at hR
    clear HZ CH ME TI CC
    refine fc_nil (mt_take w11 (Below.refl _ _) ?_)
    simp only [pick_cons, pick_nil, nth_zero, nth_succ]
    repeat (first
      | go_big_quiet_step (fail))
    refine wpQuiet_nil (mt_force ?_)
    simp only [pick_cons, pick_nil, nth_zero, nth_succ]
    refine fc_skip rfl ?_
    simp only [Act.put, Array.set!_eq_setIfInBounds, List.setIfInBounds_toArray, List.set_cons_succ, List.set_cons_zero]
    refine fc_nil (mt_take w11 (Below.refl _ _) ?_)
    simp only [pick_cons, pick_nil, nth_zero, nth_succ]
    repeat (first
      | go_big_quiet_step (fail))
    refine wpQuiet_nil (mt_force ?_)
    simp only [pick_cons, pick_nil, nth_zero, nth_succ]
    refine fc_skip rfl ?_
    simp only [Act.put, Array.set!_eq_setIfInBounds, List.setIfInBounds_toArray, List.set_cons_succ, List.set_cons_zero]
    refine fc_skip rfl ?_
    simp only [Act.put, Array.set!_eq_setIfInBounds, List.setIfInBounds_toArray, List.set_cons_succ, List.set_cons_zero]
    refine fc_nil (mt_take w11 (Below.refl _ _) ?_)
    simp only [pick_cons, pick_nil, nth_zero, nth_succ]
    repeat (first
      | go_big_quiet_step (fail))
    refine wpQuiet_nil (mt_end ?_)
    go_wp2
    exact bodyPost_ret (v := .bool true) (by simp [results, Tryd.results3]) rfl ⟨rfl, HK11.out⟩
  | true =>
  have hR := HZ.out
  rw [Bool.true_and] at hR
  replace HZ := Lib.hid hR
  clear hR
  have q0 := aft_cell (HP11.out.cell 0)
  have r66 := aft_cell ((HH11.out.cell 66).trans HBt.out)
  have RE : Hid (w11.rangeAt g 0 es.toList) := Lib.hid (range_of HE11.out 0 es.toList (by simp [List.take_of_length_le]))
  refine fc_nil (mt_take w11 (Below.refl _ _) ?_)
  simp only [pick_cons, pick_nil, nth_zero, nth_succ]
  repeat (first
    | ((with_reducible refine wpQuiet_load_partg g 0 es (Eq.trans ?_ rfl) RE.out _ Tryd.underlying28 rfl hei (Eq.trans ?_ rfl) ?_); rfl; rfl; simp only [Act.put, Array.set!_eq_setIfInBounds, List.setIfInBounds_toArray, List.set_cons_succ, List.set_cons_zero])
    | go_big_quiet_step (fail))
  clear hbn r66 q0 RE
  refine wpQuiet_nil (mt_force ?_)
  simp only [pick_cons, pick_nil, nth_zero, nth_succ]
  refine fc_step rfl (fun K hK => ?_)
  go_simp
  (with_reducible refine (ME.out _ es Hes.out).mono ?_)
  rintro e w12 ⟨rfl, k12⟩
  refine hK _ _ k12 ?_
  clear hK K
  have HP12 := Lib.hid (HP11.out.keep k12)
  have HH12 := Lib.hid (HH11.out.keep k12)
  have HE12 := Lib.hid (HE11.out.keep k12)
  have HF12 := Lib.hid (HF11.out.keep k12)
  have HK12 := Lib.hid (keep_trans HK11.out k12)
  clear k12 HP11 HH11 HE11 HF11 HK11
  obtain ⟨b3, hb3⟩ : ∃ b, (M == 0) = b := ⟨_, rfl⟩
  rw [hb3] at HZ
  cases b3 with
  | false =>
    have hR := HZ.out
    simp only [Bool.false_and] at hR
    clear HZ CH ME TI CC
    refine fc_nil (mt_take w12 (Below.refl _ _) ?_)
    simp only [pick_cons, pick_nil, nth_zero, nth_succ]
    repeat (first
      | go_big_quiet_step (fail))
    refine wpQuiet_nil (mt_force ?_)
    simp only [pick_cons, pick_nil, nth_zero, nth_succ]
    refine fc_skip rfl ?_
    simp only [Act.put, Array.set!_eq_setIfInBounds, List.setIfInBounds_toArray, List.set_cons_succ, List.set_cons_zero]
    refine fc_skip rfl ?_
    simp only [Act.put, Array.set!_eq_setIfInBounds, List.setIfInBounds_toArray, List.set_cons_succ, List.set_cons_zero]
    refine fc_nil (mt_take w12 (Below.refl _ _) ?_)
    simp only [pick_cons, pick_nil, nth_zero, nth_succ]
    repeat (first
      | go_big_quiet_step (fail))
    refine wpQuiet_nil (mt_end ?_)
    go_wp2
    exact bodyPost_ret (v := .bool true) (by simp [results, Tryd.results3]) rfl ⟨rfl, HK12.out⟩
  | true =>
  have hR := HZ.out
  rw [Bool.true_and] at hR
  replace HZ := Lib.hid hR
  clear hR
  have q3 := aft_cell (HP12.out.cell 3)
  have r65 := aft_cell ((HH12.out.cell 65).trans HT.out)
  refine fc_nil (mt_take w12 (Below.refl _ _) ?_)
  simp only [pick_cons, pick_nil, nth_zero, nth_succ]
  repeat (first
    | go_big_quiet_step (fail))
  clear hb3 r65 q3
  refine wpQuiet_nil (mt_force ?_)
  simp only [pick_cons, pick_nil, nth_zero, nth_succ]
  refine fc_step rfl (fun K hK => ?_)
  go_simp
  (with_reducible refine (TI.out _ HK12.out (by omega)).mono ?_)
  rintro e w13 ⟨tv, rfl, htv, k13⟩
  refine hK _ _ k13 ?_
  clear hK K
  have HTV := Lib.hid htv
  clear htv
  have HP13 := Lib.hid (HP12.out.keep k13)
  have HH13 := Lib.hid (HH12.out.keep k13)
  have HE13 := Lib.hid (HE12.out.keep k13)
  have HF13 := Lib.hid (HF12.out.keep k13)
  have HK13 := Lib.hid (keep_trans HK12.out k13)
  clear k13 HP12 HH12 HE12 HF12 HK12
  refine fc_step rfl (fun K hK => ?_)
  go_simp
  (with_reducible refine (CC.out _ _ _ HTV.out).mono ?_)
  rintro e w14 ⟨rfl, k14⟩
  refine hK _ _ k14 ?_
  clear hK K
  clear HTV
  have HP14 := Lib.hid (HP13.out.keep k14)
  have HH14 := Lib.hid (HH13.out.keep k14)
  have HE14 := Lib.hid (HE13.out.keep k14)
  have HF14 := Lib.hid (HF13.out.keep k14)
  have HK14 := Lib.hid (keep_trans HK13.out k14)
  clear k14 HP13 HH13 HE13 HF13 HK13
  obtain ⟨b4, hb4⟩ : ∃ b, (CI == 0) = b := ⟨_, rfl⟩
  rw [hb4] at HZ
  cases b4 with
  | false =>
    have hR := HZ.out
    simp only [Bool.false_and] at hR
    clear HZ CH ME TI CC
    refine fc_nil (mt_take w14 (Below.refl _ _) ?_)
    simp only [pick_cons, pick_nil, nth_zero, nth_succ]
    repeat (first
      | go_big_quiet_step (fail))
    refine wpQuiet_nil (mt_end ?_)
    go_wp2
    exact bodyPost_ret (v := .bool true) (by simp [results, Tryd.results3]) rfl ⟨rfl, HK14.out⟩
  | true =>
  have hR := HZ.out
  rw [Bool.true_and] at hR
  replace HZ := Lib.hid hR
  clear hR
  have heq : ∀ x, (Op.equalIn 10000 28 (.agg fs) (.agg es)).run Tryd.prog (aft w14 x) = .ok (PH == HI) (aft w14 x) := fun x => hash_in Hfs.out Hes.out HL4.out HL3.out _
  generalize (PH == HI) = b5 at *
  have RE : Hid (w14.rangeAt g 0 es.toList) := Lib.hid (range_of HE14.out 0 es.toList (by simp [List.take_of_length_le]))
  have RF : Hid (w14.rangeAt gf 0 fs.toList) := Lib.hid (range_of HF14.out 0 fs.toList (by simp [List.take_of_length_le]))
  have hR := HZ.out
  clear HZ
  cases is with
  | false =>
    simp only [Bool.not_false, Bool.true_or] at hR
    clear heq
    refine fc_nil (mt_take w14 (Below.refl _ _) ?_)
    simp only [pick_cons, pick_nil, nth_zero, nth_succ]
    repeat (first
      | ((with_reducible refine wpQuiet_load_partg g 0 es (Eq.trans ?_ rfl) RE.out _ Tryd.underlying28 rfl hei (Eq.trans ?_ rfl) ?_); rfl; rfl; simp only [Act.put, Array.set!_eq_setIfInBounds, List.setIfInBounds_toArray, List.set_cons_succ, List.set_cons_zero])
      | ((with_reducible refine wpQuiet_load_partg gf 0 fs (Eq.trans ?_ rfl) RF.out _ Tryd.underlying28 rfl hfi (Eq.trans ?_ rfl) ?_); rfl; rfl; simp only [Act.put, Array.set!_eq_setIfInBounds, List.setIfInBounds_toArray, List.set_cons_succ, List.set_cons_zero])
      | go_big_quiet_step (fail))
    refine wpQuiet_nil (mt_end ?_)
    go_wp2
    exact bodyPost_ret (v := .bool true) (by simp [results, Tryd.results3]) rfl ⟨rfl, HK14.out⟩
  | true =>
    simp only [Bool.not_true, Bool.false_or] at hR
    have s1 : (b5 == b5) = true := beq_self_eq_true _
    refine fc_nil (mt_take w14 (Below.refl _ _) ?_)
    simp only [pick_cons, pick_nil, nth_zero, nth_succ]
    repeat (first
      | ((with_reducible refine wpQuiet_load_partg g 0 es (Eq.trans ?_ rfl) RE.out _ Tryd.underlying28 rfl hei (Eq.trans ?_ rfl) ?_); rfl; rfl; simp only [Act.put, Array.set!_eq_setIfInBounds, List.setIfInBounds_toArray, List.set_cons_succ, List.set_cons_zero])
      | ((with_reducible refine wpQuiet_load_partg gf 0 fs (Eq.trans ?_ rfl) RF.out _ Tryd.underlying28 rfl hfi (Eq.trans ?_ rfl) ?_); rfl; rfl; simp only [Act.put, Array.set!_eq_setIfInBounds, List.setIfInBounds_toArray, List.set_cons_succ, List.set_cons_zero])
      | go_big_quiet_step (fail))
    refine wpQuiet_nil (mt_end ?_)
    go_wp2
    exact bodyPost_ret (v := .bool true) (by simp [results, Tryd.results3]) rfl ⟨rfl, HK14.out⟩
end Go.Proofs.YteoilddiilegmaaDoor
