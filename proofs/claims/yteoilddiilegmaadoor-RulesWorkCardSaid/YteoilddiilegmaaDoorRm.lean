/- retarget.Chain. -/
import Derived.Test.YteoilddiilegmaaDoorRn
set_option linter.unusedSimpArgs false
set_option linter.unusedVariables false
namespace Go.Proofs.YteoilddiilegmaaDoor
open Go.RowKit
attribute [local go_sem ↓] Go.wp_at_zero Go.wp_at_succ

set_option maxRecDepth 100000 in
set_option maxHeartbeats 4000000 in
theorem chain_any (p : Par) (A : Option Addr) (c : Nat) (B : Option Addr) (l : List Hd) (d : Nat) (w : World) (hl : l.length ≤ 1000) (hd : l.length ≤ d) (hr : Rd w B (l.flatMap Hd.cells)) (hk : ∀ h ∈ l, h.ok) :
    Calls Tryd.prog 13 #[parV p A c, .slice B l.length d] w fun e w' => e = .returned (u32v (chainR p l)) ∧ Keep w w' := by
  by_cases h0 : l.length = 0
  · have hR : chainR p l = p.limit := by unfold chainR; rw [if_pos h0]
    rw [hR, h0]
    clear hR h0 hr hk hl hd
    unfold parV
    generalize p.limit = limit
    generalize hm : p.chks.length = m
    clear hm
    go_enter Tryd.func13, Tryd.ntmps13
    go_wp2
    exact bodyPost_ret (v := u32v limit) (by simp [results, Tryd.results13]) rfl ⟨rfl, keep_new _ _⟩
  · have hb : 1 ≤ btw p.itv 1 1048576 := by unfold btw; omega
    obtain ⟨k, hkI, hkl⟩ : ∃ k : Nat, firstI (l.length : Int) p.itv = k ∧ k < l.length := by
      refine ⟨(firstI (l.length : Int) p.itv).toNat, ?_, ?_⟩ <;> (unfold firstI; split <;> omega)
    have hkl2 : l.length - 1 < l.length := by omega
    have F1 : Hid (∀ y, Calls Tryd.prog 31 #[iv l.length, iv p.itv] y fun e w' => e = .returned (iv k) ∧ w' = y) := Lib.hid fun y => by
      have h1 := first_any (l.length : Int) p.itv y (by omega) (by omega)
      rw [hkI] at h1
      exact h1
    have hR : chainR p l = nextR p l.length l[l.length - 1] l[k].time := by
      unfold chainR
      rw [if_neg h0, hkI, Int.toNat_natCast]
      simp only [List.getD_eq_getElem?_getD, List.getElem?_eq_getElem hkl, List.getElem?_eq_getElem hkl2, Option.getD_some]
    have ok1 := hk _ (List.getElem_mem hkl)
    have ok2 := hk _ (List.getElem_mem hkl2)
    obtain ⟨b, off, rfl, hbw, r1⟩ := heads_at hr hk hkl
    obtain ⟨b', off', hB, hbw', r2⟩ := heads_at hr hk hkl2
    cases hB
    have N1 : Hid (∀ y cs, HdA l[l.length - 1] cs → Calls Tryd.prog 32 #[parV p A c, iv l.length, .agg cs, u32v l[k].time] y fun e w' => e = .returned (u32v (chainR p l)) ∧ Keep y w') := Lib.hid fun y cs hcs => by
      rw [hR]
      exact next_any p A c l.length _ cs _ y (by omega) (by omega) ok2 hcs
    have ht := hd_time ok1
    have hcs1 := HdA.of ok1
    have hcs2 := HdA.of ok2
    rw [← hcs1.l] at r1 ht
    rw [← hcs2.l] at r2
    obtain ⟨c1, hc1⟩ : ∃ x, l[k].cells.toArray = x := ⟨_, rfl⟩
    obtain ⟨c2, hc2⟩ : ∃ x, l[l.length - 1].cells.toArray = x := ⟨_, rfl⟩
    rw [hc1] at hcs1 r1 ht
    rw [hc2] at hcs2 r2
    replace N1 := Lib.hid fun y => N1.out y c2 hcs2
    have i1 := hcs1.i; have i2 := hcs2.i; have z1 := hcs1.z; have n1 := hcs1.n; have o1 := Lib.hid hcs1.o
    have R1 := Lib.hid r1; have R2 := Lib.hid r2; have Ht := Lib.hid ht
    obtain ⟨tm, htm⟩ : ∃ x, l[k].time = x := ⟨_, rfl⟩
    rw [htm] at N1 Ht
    clear hR hc1 hc2 hcs1 hcs2 r1 r2 ht htm hb hkI hr ok1 ok2 hbw' hk
    generalize chainR p l = R at *
    obtain ⟨n, hnn⟩ : ∃ n, l.length = n := ⟨_, rfl⟩
    rw [hnn] at hl hd h0 hkl hkl2 F1 R2 N1
    rw [hnn]
    clear hnn
    unfold parV at *
    generalize p.limit = limit at *
    generalize p.itv = itv at *
    generalize p.span = span at *
    generalize p.fut = fut at *
    generalize p.idx = idx at *
    generalize p.orp = orp at *
    generalize hm : p.chks.length = m at *
    clear hm
    obtain ⟨zs, hz1, hz2, hz3, -⟩ := zhead_letter
    have g1 : (n == 0) = false := by simp [h0]
    have g2 : ((n : Int) == 0) = false := by rw [beq_eq_false_iff_ne]; omega
    go_enter Tryd.func13, Tryd.ntmps13
    go_upto_region 3 with fail
    obtain ⟨w1, hw1⟩ : ∃ w1, w1 = w.alloc (.cells #[u32v limit, iv itv, iv span, iv fut, iv idx, iv orp, .slice A m c] 25) := ⟨_, rfl⟩
    have HP1 : Hid (Blk w1 w.heap.size 25 [u32v limit, iv itv, iv span, iv fut, iv idx, iv orp, .slice A m c]) := by rw [hw1]; exact Lib.hid (Blk.new w 25 [u32v limit, iv itv, iv span, iv fut, iv idx, iv orp, .slice A m c])
    have HK1 : Hid (Keep w w1) := by rw [hw1]; exact Lib.hid (keep_new _ _)
    rw [← hw1]
    clear hw1
    have p1 := HP1.out.cell 1
    simp only [List.getElem?_cons_succ, List.getElem?_cons_zero] at p1
    have hst : (storeCells ⟨w1.heap.size, 0, none⟩ c1.toList 0).run Tryd.prog (w1.alloc (.cells zs 30)) = .ok () (w1.alloc (.cells c1 30)) := run_storeCells_new (P := Tryd.prog) w1 30 zs c1 i1 (hz1.trans z1.symm) (by have := all_oneCell_toArray o1.out; rwa [Array.toArray_toList] at this)
    have RA : Hid (w1.rangeAt b (off + k * 68) c1.toList) := Lib.hid fun j v hv => keep_cell HK1.out (R1.out j v hv)
    go_wp2_with fail
    refine (F1.out _).mono ?_
    clear F1
    rintro e w2 ⟨rfl, rfl⟩
    go_upto_region 4 with ((with_reducible refine load_partg b (off + k * 68) c1 (Eq.trans ?_ rfl) RA.out _ Tryd.underlying30 rfl i1 rfl ?_); rfl)
    obtain ⟨j, hj⟩ : ∃ j, n - 1 = j := ⟨_, rfl⟩
    have hj2 : (n : Int) - 1 = j := by omega
    rw [hj] at R2 hkl2
    obtain ⟨w3, hw3⟩ : ∃ w3, w3 = w2.alloc (.cells c1 30) := ⟨_, rfl⟩
    have k3 : Keep w2 w3 := by rw [hw3]; exact keep_new _ _
    have HP3 : Hid (Blk w3 w.heap.size 25 [u32v limit, iv itv, iv span, iv fut, iv idx, iv orp, .slice A m c]) := by rw [hw3]; exact Lib.hid (HP1.out.alloc _)
    have HH3 : Hid (Blk w3 w2.heap.size 30 c1.toList) := by rw [hw3]; exact Lib.hid (Blk.new w2 30 c1.toList)
    rw [← hw3]
    clear hw3 hst p1 hj
    have HK3 := Lib.hid (keep_trans HK1.out k3)
    generalize w2.heap.size = g at *
    clear k3 RA HP1 HK1 R1
    refine wp_region_tree (.take [0,1,2,3,4,5,6,7,8,9,10] (.force [11] (.take [12] .done))) [] (by kernel_rfl) (by kernel_rfl) (fun w9 k9 => ?_)
    have HB9 := HP3.out.keep k9
    have HG9 := HH3.out.keep k9
    have HK9 := Lib.hid (keep_trans HK3.out k9)
    have RA : Hid (w9.rangeAt b (off + j * 68) c2.toList) := Lib.hid fun i v hv => keep_cell HK9.out (R2.out i v hv)
    have q0 := aft_cell (HB9.cell 0)
    have q1 := aft_cell (HB9.cell 1)
    have q2 := aft_cell (HB9.cell 2)
    have q3 := aft_cell (HB9.cell 3)
    have q4 := aft_cell (HB9.cell 4)
    have q5 := aft_cell (HB9.cell 5)
    have q6 := aft_cell (HB9.cell 6)
    have q7 := aft_cell ((HG9.cell 65).trans Ht.out)
    clear HB9 HG9 HP3 HH3 HK3 Ht R2 k9
    refine mt_take w9 (Below.refl _ _) ?_
    simp only [pick_cons, pick_nil, nth_zero, nth_succ]
    repeat (first
      | ((with_reducible refine wpQuiet_load_partg b (off + j * 68) c2 (Eq.trans ?_ rfl) RA.out _ Tryd.underlying30 rfl i2 rfl ?_); rfl; simp only [Act.put, Array.set!_eq_setIfInBounds, List.setIfInBounds_toArray, List.set_cons_succ, List.set_cons_zero])
      | go_big_quiet_step (fail))
    refine wpQuiet_nil ?_
    clear q0 q1 q2 q3 q4 q5 q6 q7
    refine mt_force ?_
    simp only [pick_cons, pick_nil, nth_zero, nth_succ]
    refine fc_step rfl (fun K hK => ?_)
    go_simp
    (with_reducible refine (N1.out _).mono ?_)
    rintro e w4 ⟨rfl, k4⟩
    refine hK _ _ k4 ?_
    clear hK K
    refine fc_nil ?_
    refine mt_take _ (Below.refl _ _) ?_
    simp only [pick_cons, pick_nil, nth_zero, nth_succ]
    repeat (go_big_quiet_step (fail))
    refine wpQuiet_nil ?_
    refine mt_end ?_
    go_wp2
    exact bodyPost_ret (v := u32v R) (by simp [results, Tryd.results13]) rfl ⟨rfl, keep_trans HK9.out k4⟩
end Go.Proofs.YteoilddiilegmaaDoor
