/- RulesWork: the walk. (printed by gen_rwo.py) -/
import Derived.Test.YteoilddiilegmaaDoorRz0
import Derived.Test.YteoilddiilegmaaDoorRw
set_option linter.unusedSimpArgs false
set_option linter.unusedVariables false
namespace Go.Proofs.YteoilddiilegmaaDoor
open Go.RowKit
attribute [local go_sem ↓] Go.wp_at_zero Go.wp_at_succ

set_option maxRecDepth 100000 in
set_option maxHeartbeats 8000000 in
theorem work_walk (p : Par) (A : Option Addr) (c : Nat) (B : Option Addr) (l : List Hd) (d : Nat) (now : Int) (w : World) (hS : ShaOk w) (hC : Rd w A (p.chks.flatMap chkC) ∧ ∀ x ∈ p.chks, x.2.length = 32)
    (hd : l.length ≤ d) (hdm : d ≤ maxLen) (hr : Rd w B (l.flatMap Hd.cells)) (hk : ∀ h ∈ l, h.ok) :
    Calls Tryd.prog 5 #[parV p A c, .slice B l.length d, iv now] w fun e w' => e = .returned (.bool true) ∧ Keep w w' := by
  have AW : Hid (∀ y, Keep w y → Calls Tryd.prog 8 #[] y fun e w' => e = .returned (.bool true) ∧ Keep y w') := Lib.hid fun y hy => awake_any y (hS.keep hy)
  have V1 : Hid (∀ y, Keep w y → l.length ≤ 20 → p.chks.length ≤ 120 → Calls Tryd.prog 18 #[parV p A c, .slice B l.length d, iv now] y fun e w' => e = .returned (.tuple #[iv (validN p l now), iv (validE p l now)]) ∧ Keep y w') := Lib.hid fun y hy h1 h2 =>
    valid_any p A c B l d now y (hS.keep hy) ⟨hC.1.keep hy, hC.2, by omega⟩ (by omega) hd hdm (hr.keep hy) hk
  have EL : Hid (∀ y, Calls Tryd.prog 19 #[u32v p.limit] y fun e w' => e = .returned (.tuple #[uV (expN p.limit).1, .int .i64 (expN p.limit).2]) ∧ Keep y w') := Lib.hid fun y => expand_any p.limit y
  have ROW : Hid (∀ k, k ≠ 0 → k < validN p l now → ∃ b off, B = some ⟨b, off, none⟩ ∧ ∃ (xs : Array Value) (bits : UInt32) (T : Nat) (C : Int) (I : List UInt8), k < l.length ∧ C ≤ 0 ∧ xs.size = 68 ∧ xs ≠ #[] ∧ (Tryd.prog.info? 30).map (·.size) = some xs.size ∧ xs.toList[66]? = some (u32v bits) ∧ w.rangeAt b (off + k * 68) xs.toList ∧
      (∀ y, Calls Tryd.prog 19 #[u32v bits] y fun e w' => e = .returned (.tuple #[uV T, .int .i64 0]) ∧ Keep y w') ∧
      (∀ y, Calls Tryd.prog 20 #[uV T, uV (expN p.limit).1] y fun e w' => e = .returned (.int .i64 C) ∧ Keep y w') ∧
      (∀ y, Keep w y → Calls Tryd.prog 11 #[.agg xs] y fun e w' => ∃ ds, e = .returned (.agg ds) ∧ HashA I ds ∧ Keep y w') ∧
      (∀ y ds, HashA I ds → Calls Tryd.prog 14 #[.agg ds, u32v bits, u32v p.limit] y fun e w' => e = .returned (iv 0) ∧ Keep y w')) := Lib.hid fun k h0 hlt => by
    obtain ⟨m1, m2, m3⟩ := work_at (p := p) (l := l) (now := now) h0 hlt
    have hkl : k < l.length := Nat.lt_of_lt_of_le hlt (valid_low (p := p) (l := l) (now := now)).2.1
    obtain ⟨b, off, h1, -, h2⟩ := heads_at hr hk hkl
    have e : l.getD k hd0 = l[k] := by simp [List.getD_eq_getElem?_getD, List.getElem?_eq_getElem hkl]
    rw [e] at m1 m2 m3
    have ok := hk _ (List.getElem_mem hkl)
    have hx := HdA.of ok
    refine ⟨b, off, h1, l[k].cells.toArray, l[k].bits, (expN l[k].bits).1, _, idL l[k], hkl, m2, hx.z, hx.n, hx.i, by rw [hx.l]; exact hd_bits ok, h2, fun y => ?_, fun y => cmp_any _ _ y (expN_lt _) (expN_lt _), fun y hy => id_any _ _ y (hS.keep hy) ok hx, fun y ds hds => ?_⟩
    · have q := expand_any l[k].bits y
      rw [m1] at q
      exact q
    · have q := meets_any (idL l[k]) ds l[k].bits p.limit y (idL_len _) hds
      rw [m3] at q
      exact q
  have HN := (valid_low (p := p) (l := l) (now := now)).2.1
  clear hk hr hC hS hdm hd
  generalize validN p l now = N at *
  generalize validE p l now = E at *
  generalize expN p.limit = LX at *
  obtain ⟨LT, le⟩ := LX
  simp only at EL ROW
  generalize l.length = n at *
  unfold parV at *
  generalize p.limit = limit at *
  generalize p.itv = itv at *
  generalize p.span = span at *
  generalize p.fut = fut at *
  generalize p.idx = idx at *
  generalize p.orp = orp at *
  generalize p.chks.length = m at *
  clear p
  go_enter Tryd.func5, Tryd.ntmps5
  go_upto_region 1 with fail
  obtain ⟨w1, hw1⟩ : ∃ w1, w1 = w.alloc (.cells #[u32v limit, iv itv, iv span, iv fut, iv idx, iv orp, .slice A m c] 25) := ⟨_, rfl⟩
  have HP1 : Hid (Blk w1 w.heap.size 25 [u32v limit, iv itv, iv span, iv fut, iv idx, iv orp, .slice A m c]) := by rw [hw1]; exact Lib.hid (Blk.new w 25 [u32v limit, iv itv, iv span, iv fut, iv idx, iv orp, .slice A m c])
  have HK1 : Hid (Keep w w1) := by rw [hw1]; exact Lib.hid (keep_new _ _)
  rw [← hw1]
  clear hw1
  go_wp2_with fail
  refine (AW.out _ HK1.out).mono ?_
  clear AW
  rintro e w2 ⟨rfl, k2⟩
  have HP2 := Lib.hid (HP1.out.keep k2)
  have HK2 := Lib.hid (keep_trans HK1.out k2)
  clear k2 HP1 HK1
  have p6 := HP2.out.cell 6
  simp only [List.getElem?_cons_succ, List.getElem?_cons_zero] at p6
  by_cases hn : 20 < n
  · have d1 : (20 : Int) < n := by omega
    clear V1 EL ROW
    go_wp2
    exact bodyPost_ret (v := .bool true) (by simp [results, Tryd.results5]) rfl ⟨rfl, HK2.out⟩
  by_cases hm : 120 < m
  · have d1 : ¬ (20 : Int) < n := by omega
    have d2 : (120 : Int) < m := by omega
    clear V1 EL ROW
    go_wp2
    exact bodyPost_ret (v := .bool true) (by simp [results, Tryd.results5]) rfl ⟨rfl, HK2.out⟩
  have d1 : ¬ (20 : Int) < n := by omega
  have d2 : ¬ (120 : Int) < m := by omega
  have p0 := HP2.out.cell 0
  have p1 := HP2.out.cell 1
  have p2 := HP2.out.cell 2
  have p3 := HP2.out.cell 3
  have p4 := HP2.out.cell 4
  have p5 := HP2.out.cell 5
  simp only [List.getElem?_cons_succ, List.getElem?_cons_zero] at p0 p1 p2 p3 p4 p5
  go_wp2_with fail
  refine (V1.out _ HK2.out (by omega) (by omega)).mono ?_
  clear V1 p0 p1 p2 p3 p4 p5 p6
  rintro e w3 ⟨rfl, k3⟩
  have HP3 := Lib.hid (HP2.out.keep k3)
  have HK3 := Lib.hid (keep_trans HK2.out k3)
  clear k3 HP2 HK2
  have p0 := HP3.out.cell 0
  simp only [List.getElem?_cons_zero] at p0
  go_wp2_with fail
  refine (EL.out _).mono ?_
  clear EL p0
  rintro e w4 ⟨rfl, k4⟩
  have HP4 := Lib.hid (HP3.out.keep k4)
  have HK4 := Lib.hid (keep_trans HK3.out k4)
  clear k4 HP3 HK3
  go_upto_region 6 with fail
  obtain ⟨w5, hw5⟩ : ∃ w5, w5 = w4.alloc (.cells #[n64 (limb LT 0), n64 (limb LT 1), n64 (limb LT 2), n64 (limb LT 3)] 49) := ⟨_, rfl⟩
  have HL5 : Hid (Blk w5 w4.heap.size 49 (uL LT)) := by rw [hw5]; exact Lib.hid (Blk.new w4 49 (uL LT))
  have HP5 : Hid (Blk w5 w.heap.size 25 [u32v limit, iv itv, iv span, iv fut, iv idx, iv orp, .slice A m c]) := by rw [hw5]; exact Lib.hid (HP4.out.alloc _)
  have HK5 : Hid (Keep w w5) := by rw [hw5]; exact Lib.hid (keep_trans HK4.out (keep_new _ _))
  rw [← hw5]
  clear hw5 HP4 HK4
  generalize w4.heap.size = gl at *
  go_wp2_with fail
  go_loopw [12] (fun i wr => ∃ k : Nat, 1 ≤ k ∧ (k ≤ N ∨ k = 1) ∧ i = .int .i64 k ∧ Hid (Blk wr w.heap.size 25 [u32v limit, iv itv, iv span, iv fut, iv idx, iv orp, .slice A m c]) ∧ Hid (Blk wr gl 49 (uL LT)) ∧ Hid (Keep w wr)) (fun i _ => N - (intOf i).toNat)
  case atStart => exact ⟨1, Nat.le_refl _, Or.inr rfl, rfl, HP5, HL5, HK5⟩
  case round =>
    obtain ⟨k, hk1, hk2, rfl, HPr, HLr, HKr⟩ := hrel
    by_cases hlt : k < N
    · obtain ⟨b, off, rfl, xs, bits, T, C, I, hkn, hC0, hxz, hxn, hxi, h66, hrx, EX, CM, ID, ME⟩ := ROW.out k (by omega) hlt
      have EX := Lib.hid EX; have CM := Lib.hid CM; have ID := Lib.hid ID; have ME := Lib.hid ME
      have RX : Hid (wr.rangeAt b (off + k * 68) xs.toList) := Lib.hid fun i v hv => keep_cell HKr.out (hrx i v hv)
      have HRX := Lib.hid hrx
      have H66 := Lib.hid h66
      have hlt2 : (k : Int) < N := by omega
      have hkn2 : (k : Int) < n := by omega
      have r66 : wr.cell? ⟨b, off + k * 68 + 66, none⟩ = some (u32v bits) := RX.out 66 _ H66.out
      clear hrx h66 ROW RX
      go_wp2_with fail
      refine (EX.out _).mono ?_
      clear EX r66
      rintro e w6 ⟨rfl, k6⟩
      have HP6 := Lib.hid (HPr.out.keep k6)
      have HL6 := Lib.hid (HLr.out.keep k6)
      have HK6 := Lib.hid (keep_trans HKr.out k6)
      clear k6 HPr HLr HKr
      go_upto_region 10 with fail
      obtain ⟨w7, hw7⟩ : ∃ w7, w7 = w6.alloc (.cells #[n64 (limb T 0), n64 (limb T 1), n64 (limb T 2), n64 (limb T 3)] 49) := ⟨_, rfl⟩
      have HT7 : Hid (Blk w7 w6.heap.size 49 (uL T)) := by rw [hw7]; exact Lib.hid (Blk.new w6 49 (uL T))
      have HL7 : Hid (Blk w7 gl 49 (uL LT)) := by rw [hw7]; exact Lib.hid (HL6.out.alloc _)
      have HP7 : Hid (Blk w7 w.heap.size 25 [u32v limit, iv itv, iv span, iv fut, iv idx, iv orp, .slice A m c]) := by rw [hw7]; exact Lib.hid (HP6.out.alloc _)
      have HK7 : Hid (Keep w w7) := by rw [hw7]; exact Lib.hid (keep_trans HK6.out (keep_new _ _))
      rw [← hw7]
      clear hw7 HP6 HL6 HK6
      generalize w6.heap.size = gt at *
      have hC1 : ¬ 0 < C := by omega
      have hC2 : decide (0 < C) = false := by simp [hC1]
      clear hC0
      refine wp_region_tree (.take [0,1,2,3,4] (.force [5] (.take [6,7,8,9,10,11,12,14,15,16,17,18,19,20] (.force [13,21] (.take [22,23] .done))))) [] (by kernel_rfl) (by kernel_rfl) (fun w8 k8 => ?_)
      have HP8 := Lib.hid (HP7.out.keep k8)
      have HL8 := Lib.hid (HL7.out.keep k8)
      have HT8 := Lib.hid (HT7.out.keep k8)
      have HK8 := Lib.hid (keep_trans HK7.out k8)
      clear k8 HP7 HL7 HT7 HK7
      have hT := HT8.out; have hL := HL8.out
      have t0 := aft_cell (hT.cell 0); have t1 := aft_cell (hT.cell 1); have t2 := aft_cell (hT.cell 2); have t3 := aft_cell (hT.cell 3)
      have l0 := aft_cell (hL.cell 0); have l1 := aft_cell (hL.cell 1); have l2 := aft_cell (hL.cell 2); have l3 := aft_cell (hL.cell 3)
      clear hT hL
      refine mt_take w8 (Below.refl _ _) ?_
      simp only [pick_cons, pick_nil, nth_zero, nth_succ]
      repeat (first
        | go_big_quiet_step (fail))
      clear t0 t1 t2 t3 l0 l1 l2 l3
      refine wpQuiet_nil (mt_force ?_)
      simp only [pick_cons, pick_nil, nth_zero, nth_succ]
      refine fc_step rfl (fun K hK => ?_)
      go_simp
      (with_reducible refine (CM.out _).mono ?_)
      rintro e w9 ⟨rfl, k9⟩
      refine hK _ _ k9 ?_
      clear hK K
      have HP9 := Lib.hid (HP8.out.keep k9)
      have HL9 := Lib.hid (HL8.out.keep k9)
      have HK9 := Lib.hid (keep_trans HK8.out k9)
      clear k9 HP8 HL8 HK8
      have RX : Hid (w9.rangeAt b (off + k * 68) xs.toList) := Lib.hid fun i v hv => keep_cell HK9.out (HRX.out i v hv)
      have r66 := aft_cell (RX.out 66 _ H66.out)
      have q0 := aft_cell (HP9.out.cell 0)
      refine fc_nil (mt_take w9 (Below.refl _ _) ?_)
      simp only [pick_cons, pick_nil, nth_zero, nth_succ]
      repeat (first
        | ((with_reducible refine wpQuiet_load_partg b (off + k * 68) xs (Eq.trans ?_ rfl) RX.out _ Tryd.underlying30 rfl hxi (Eq.trans ?_ rfl) ?_); rfl; rfl; simp only [Act.put, Array.set!_eq_setIfInBounds, List.setIfInBounds_toArray, List.set_cons_succ, List.set_cons_zero])
        | go_big_quiet_step (fail))
      refine wpQuiet_nil (mt_force ?_)
      simp only [pick_cons, pick_nil, nth_zero, nth_succ]
      refine fc_step rfl (fun K hK => ?_)
      go_simp
      (with_reducible refine (ID.out _ HK9.out).mono ?_)
      rintro e w10 ⟨ds, rfl, hds, k10⟩
      refine hK _ _ k10 ?_
      clear hK K
      have HDS := Lib.hid hds
      clear hds RX r66 q0
      have HP10 := Lib.hid (HP9.out.keep k10)
      have HL10 := Lib.hid (HL9.out.keep k10)
      have HK10 := Lib.hid (keep_trans HK9.out k10)
      clear k10 HP9 HL9 HK9
      refine fc_step rfl (fun K hK => ?_)
      go_simp
      (with_reducible refine (ME.out _ _ HDS.out).mono ?_)
      rintro e w11 ⟨rfl, k11⟩
      refine hK _ _ k11 ?_
      clear hK K
      have HP11 := Lib.hid (HP10.out.keep k11)
      have HL11 := Lib.hid (HL10.out.keep k11)
      have HK11 := Lib.hid (keep_trans HK10.out k11)
      clear k11 HP10 HL10 HK10
      refine fc_nil (mt_take w11 (Below.refl _ _) ?_)
      simp only [pick_cons, pick_nil, nth_zero, nth_succ]
      repeat (first
        | go_big_quiet_step (fail))
      refine wpQuiet_nil (mt_end ?_)
      clear HRX H66 CM ID ME HDS hC1 hC2
      go_wp2
      go_roundw
      case rel => exact ⟨k + 1, by omega, by omega, by go_num, HP11, HL11, HK11⟩
      case measure => simp [intOf]; omega
    · have hlt2 : ¬ (k : Int) < N := by omega
      have f1 : ¬ (N : Int) < 0 := by omega
      have f2 : ¬ (n : Int) < N := by omega
      have f3 : (0 : Int) ≤ N := by omega
      have f4 : (N : Int) ≤ n := by omega
      clear ROW HN hk2
      go_wp2
      exact bodyPost_ret (v := .bool true) (by simp [results, Tryd.results5]) rfl ⟨rfl, HKr.out⟩
end Go.Proofs.YteoilddiilegmaaDoor
