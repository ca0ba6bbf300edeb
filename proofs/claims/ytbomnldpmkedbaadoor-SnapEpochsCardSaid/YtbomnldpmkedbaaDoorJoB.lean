/- One record more is read. -/
import Derived.Test.YtbomnldpmkedbaaDoorJoA
import Derived.Test.YtbomnldpmkedbaaDoorDsk
set_option linter.unusedSimpArgs false
set_option linter.unusedVariables false
namespace Go.Proofs.YtbomnldpmkedbaaDoor
open Go.RowKit
attribute [local go_sem ↓] Go.wp_at_zero Go.wp_at_succ

theorem grown_trans2 {a b c : World} {row : Option Nat} (h : a.grownBy b row) (g : b.grownBy c row) : a.grownBy c row := World.grownBy.trans h g
/-- What comes of one more. -/
def NxPost (w0 : World) (G : Nat) (d0 d1 : Value) (bn : Nat) (room : Int) (k : Nat) (last : List UInt8) (A : Option Addr) (bs : List UInt8) (c : Nat) (hs : List Hd) (NX : Bool × Hd × List UInt8) (e : Ending) (w' : World) : Prop :=
  e = .returned (.bool NX.1) ∧ (NX.1 = false → ∃ hv', RSt w0 w' G d0 d1 bn room k last A bs c hv' hs) ∧ (NX.1 = true → ∃ hv', RSt w0 w' G d0 d1 bn room (k + 1) NX.2.2 A bs c hv' (hs ++ [NX.2.1]) ∧ NX.2.1.ok ∧ NX.2.2.length = 32)
theorem RSt.cells {w0 w : World} {G : Nat} {d0 d1 : Value} {bn : Nat} {room : Int} {k : Nat} {last : List UInt8} {A : Option Addr} {bs : List UInt8} {c : Nat} {hv : Value} {hs : List Hd} (h : RSt w0 w G d0 d1 bn room k last A bs c hv hs) (hl : last.length = 32) :
    w.cell? ⟨G, 2, none⟩ = some (.int .i64 bn) ∧ w.cell? ⟨G, 3, none⟩ = some (.int .i64 room) ∧ w.cell? ⟨G, 4, none⟩ = some (.int .i64 k) ∧ w.cell? ⟨G, 37, none⟩ = some (.slice A bs.length c) ∧ w.cell? ⟨G, 38, none⟩ = some hv :=
  ⟨(h.blk.cell 2).trans rfl, (h.blk.cell 3).trans rfl, (h.blk.cell 4).trans rfl, (h.blk.cell 37).trans (rdCells_37 hl), (h.blk.cell 38).trans (rdCells_38 hl)⟩

theorem take_ok (last : List UInt8) (seq : Int) (b : List UInt8) {ok : Bool} {H : Hd} {S : List UInt8} (h : takeD last seq b = (ok, H, S)) : H.ok ∧ S.length = 32 := by
  unfold takeD at h
  split at h
  · rename_i hb
    injection h with h1 h2; injection h2 with h2 h3
    subst h2 h3
    exact ⟨hgetL_ok (by rw [List.length_take, List.length_drop]; omega), by rw [List.length_drop]; omega⟩
  · injection h with h1 h2; injection h2 with h2 h3
    subst h2 h3
    exact ⟨⟨rfl, rfl⟩, rfl⟩

set_option maxRecDepth 100000 in
set_option maxHeartbeats 6000000 in
theorem next_any (w0 w : World) (G : Nat) (d0 d1 : Value) (bn : Nat) (room : Int) (k : Nat) (last : List UInt8) (A : Option Addr) (bs : List UInt8) (c : Nat) (hv : Value) (hs : List Hd) (st : RSt w0 w G d0 d1 bn room k last A bs c hv hs)
    (hll : last.length = 32) (hbn : bn ≤ 5000) (hk : k ≤ 1024) (hbl : bs.length ≤ 1000000) (hbc : bs.length ≤ c) (hcm : c ≤ maxLen) (hhs : hs.length ≤ 2000) (hS : ShaOk w0) :
    Calls Tryd.prog 55 #[.pointer (some ⟨G, 0, none⟩)] w (NxPost w0 G d0 d1 bn room k last A bs c hs (nxD bn room k last bs)) := by
  unfold maxLen at hcm
  have St := Lib.hid st; have HS := Lib.hid hS
  obtain ⟨B, hBn⟩ : ∃ B, (bn + 4 * k) * 32 = B := ⟨_, rfl⟩
  have hB : ((bn : Int) + 4 * (k : Int)) * 32 = (B : Int) := by omega
  have HNX : Hid (nxD bn room k last bs = if k < roomN room ∧ B + 128 ≤ bs.length then takeD last k ((bs.drop B).take 128) else (false, zHd, z32)) := by rw [← hBn]; rfl
  have hB2 : B ≤ 400000 := by omega
  clear st hS hBn
  obtain ⟨NX, hNX⟩ : ∃ NX, nxD bn room k last bs = NX := ⟨_, rfl⟩
  rw [hNX] at HNX ⊢
  clear hNX
  by_cases q1 : k < roomN room
  · by_cases q2 : B + 128 ≤ bs.length
    · have HX : Hid (NX = takeD last k ((bs.drop B).take 128)) := HNX.out.trans (if_pos ⟨q1, q2⟩)
      have r1 : ¬ ((roomN room : Nat) : Int) ≤ (k : Int) := by omega
      have r2 : ¬ (bs.length : Int) < (B : Int) + 128 := by omega
      go_enter Tryd.func55, Tryd.ntmps55
      go_upto_region 1 with fail
      obtain ⟨c2, c3, c4, c37, c38⟩ := St.out.cells hll
      have a2 := aft_cell c2; have a4 := aft_cell c4
      refine wp_region_aft (by kernel_rfl) (by kernel_rfl) w (Below.refl _ _) ?_
      repeat (go_big_quiet_step (fail))
      refine wpQuiet_nil ?_
      rintro _ ⟨z, rfl⟩
      have j1 := aft_keep w z
      generalize aft w z = w1 at j1 ⊢
      have St1 := Lib.hid (St.out.keep j1)
      clear a2 a4 c2 c3 c4 c37 c38 j1
      obtain ⟨c2, c3, c4, c37, c38⟩ := St1.out.cells hll
      go_upto_region 3 with fail
      have a3 := aft_cell c3; have a4 := aft_cell c4; have a37 := aft_cell c37
      refine wp_region_aft (by kernel_rfl) (by kernel_rfl) w1 (Below.refl _ _) ?_
      repeat (go_big_quiet_step ((go_at_call 59; exact quiet_aft_same (records_any _ _))))
      refine wpQuiet_nil ?_
      rintro _ ⟨z2, rfl⟩
      have j2 := aft_keep w1 z2
      generalize aft w1 z2 = w2 at j2 ⊢
      have St2 := Lib.hid (St1.out.keep j2)
      clear a3 a4 a37 c2 c3 c4 c37 c38 j2
      go_upto_region 5 with fail
      obtain ⟨ls, hls⟩ : ∃ ls, HashA last ls := ⟨_, HashA.of hll⟩
      have hlz := hls.z; have hln := hls.n; have hli := hls.i
      obtain ⟨sz, hSZ, szz⟩ := zhash_A
      obtain ⟨hz, hHZ, hzz⟩ := zhead_A
      have szs := hSZ.z; have szn := hSZ.n
      have hzs := hHZ.z; have hzn := hHZ.n
      have HZ := Lib.hid hHZ
      have Hls := Lib.hid hls
      obtain ⟨b, off, rfl, hb, _⟩ := St2.out.rdG.rd.at (k := 0) (by simp; omega)
      have T1 : Hid (∀ w', Keep w2 w' → Calls Tryd.prog 53 #[.agg ls, .int .i64 k, .slice (some ⟨b, off + B, none⟩) 128 (c - B)] w' fun e w'' => ∃ hv sv, e = .returned (.tuple #[.agg hv, .agg sv, .bool (takeD last k ((bs.drop B).take 128)).1]) ∧ HdA (takeD last k ((bs.drop B).take 128)).2.1 hv ∧ HashA (takeD last k ((bs.drop B).take 128)).2.2 sv ∧ Keep w' w'') := fun w' hk' => by
        have h1 := (St2.out.rdG.rd.keep hk').sub B 128 (by rw [List.length_map]; omega)
        rw [← List.map_drop, ← List.map_take] at h1
        have hl : ((bs.drop B).take 128).length = 128 := by rw [List.length_take, List.length_drop]; omega
        have h2 := take_any last ls k _ ((bs.drop B).take 128) (c - B) w' Hls.out hll h1 (by omega) (by unfold maxLen; omega) (HS.out.keep (keep_trans St2.out.kp hk'))
        rw [hl] at h2
        exact h2
      have HT : Hid (∀ ok H S, takeD last k ((bs.drop B).take 128) = (ok, H, S) → NX = (ok, H, S)) := fun ok H S e => by rw [HX.out, e]
      have HTl : Hid (∀ ok H S, takeD last k ((bs.drop B).take 128) = (ok, H, S) → H.ok ∧ S.length = 32) := fun ok H S e => take_ok last k _ e
      obtain ⟨ok, H, S, hTK⟩ : ∃ ok H S, takeD last k ((bs.drop B).take 128) = (ok, H, S) := ⟨_, _, _, rfl⟩
      have HT2 := Lib.hid (HT.out _ _ _ hTK); have HT3 := Lib.hid (HTl.out _ _ _ hTK)
      rw [hTK] at T1
      simp only at T1
      clear hls hSZ hHZ HX HT HTl hTK HNX
      obtain ⟨c2, c3, c4, c37, c38⟩ := St2.out.cells hll
      have hrg : w2.rangeAt G 5 ls.toList := range_of St2.out.blk 5 ls.toList (by rw [Hls.out.l, List.length_map, hll]; exact rdCells_last hll)
      have Hrg := Lib.hid hrg; clear hrg
      generalize hwr : w2 = wr at *
      go_cut [5, 6, 7] (fun s5 s6 s7 wx => ∃ p5 p6 tv sv, s5 = .pointer (some ⟨p5, 0, none⟩) ∧ s6 = .pointer (some ⟨p6, 0, none⟩) ∧ s7 = .bool ok ∧ wr.heap.size ≤ p5 ∧ wr.heap.size ≤ p6 ∧ Hid (Blk wx p5 65 tv.toList) ∧ Hid (Blk wx p6 34 sv.toList) ∧ Hid (HdA H tv) ∧ Hid (HashA S sv) ∧ Keep wr wx)
      case first =>
        refine wp_region_tree (.take [0,1,2,3,4,5,6,7,8,9,10,11,12,13,14,15,16] (.fork3 17 (.take [18,19,20,21] (.fork 22 (.force [23] .done) 23 (.force [22] .done))) 22 (.fork 17 (.take [18,19,20,21] (.force [23] .done)) 23 (.force [17] (.take [18,19,20,21] .done))) 23 (.fork 17 (.take [18,19,20,21] (.force [22] .done)) 22 (.force [17] (.take [18,19,20,21] .done))))) [24,25,26] (by kernel_rfl) (by kernel_rfl) (fun x0 q0' => ?_)
        have q0 := Lib.hid q0'
        have a4 := aft_cell (keep_cell q0' c4); have a37 := aft_cell (keep_cell q0' c37)
        have hrg0 : Hid (x0.rangeAt G 5 ls.toList) := fun j v hv => keep_cell q0' (Hrg.out j v hv)
        clear q0'
        refine mt_take x0 (Below.refl _ _) ?_
        simp only [pick_cons, pick_nil, nth_zero, nth_succ]
        iterate 4 (go_big_quiet_step (fail))
        (with_reducible refine wpQuiet_load_part G 5 ls (Eq.trans ?_ rfl) hrg0.out (.array 32 5) hash_under (arr_row _ _) hli ?_)
        rfl
        simp only [Act.put, Array.set!_eq_setIfInBounds, List.setIfInBounds_toArray, List.set_cons_succ, List.set_cons_zero]
        repeat (go_big_quiet_step (fail))
        refine wpQuiet_nil ?_
        clear a4 a37
        refine mt_fork3 ?_ ?_ ?_
        · simp only [pick_cons, pick_nil, nth_zero, nth_succ]
          refine fc_step rfl (fun K hK => ?_)
          go_simp
          (with_reducible refine (T1.out x0 q0.out).mono ?_)
          rintro e x1 ⟨hv, sv, rfl, hhv, hsv, hk⟩
          refine hK _ _ hk ?_
          clear hK K
          have q1 := Lib.hid (keep_trans q0.out hk)
          have Hhv := Lib.hid hhv; have Hsv := Lib.hid hsv
          have hvz := hhv.z; have hvn := hhv.n; have svz := hsv.z; have svn := hsv.n
          clear hk hhv hsv
          refine fc_nil ?_
          refine mt_take x1 (Below.refl _ _) ?_
          simp only [pick_cons, pick_nil, nth_zero, nth_succ]
          repeat (go_big_quiet_step (fail))
          refine wpQuiet_nil ?_
          refine mt_fork ?_ ?_
          · simp only [pick_cons, pick_nil, nth_zero, nth_succ]
            refine fc_step rfl (fun K hK => ?_)
            go_simp
            refine hK _ _ (keep_new _ _) ?_
            clear hK K
            obtain ⟨x2, hx2⟩ : ∃ x, x = x1.alloc (.cells hz 65) := ⟨_, rfl⟩
            have b5_2 : Hid (Blk x2 x1.heap.size 65 hz.toList) := by rw [hx2]; exact Blk.new x1 _ hz.toList
            have hk : Keep x1 x2 := by rw [hx2]; exact keep_new _ _
            have q2 := Lib.hid (keep_trans q1.out hk)
            rw [← hx2]
            clear hx2 hk
            have lo5 : wr.heap.size ≤ x1.heap.size := q1.out.size
            have lp5_2 : x1.heap.size < x2.heap.size := b5_2.out.lt
            generalize x1.heap.size = p5 at *
            refine fc_nil ?_
            refine mt_force ?_
            simp only [pick_cons, pick_nil, nth_zero, nth_succ]
            refine fc_step rfl (fun K hK => ?_)
            go_simp
            refine hK _ _ (keep_new _ _) ?_
            clear hK K
            obtain ⟨x3, hx3⟩ : ∃ x, x = x2.alloc (.cells sz 34) := ⟨_, rfl⟩
            have b6_3 : Hid (Blk x3 x2.heap.size 34 sz.toList) := by rw [hx3]; exact Blk.new x2 _ sz.toList
            have hk : Keep x2 x3 := by rw [hx3]; exact keep_new _ _
            have q3 := Lib.hid (keep_trans q2.out hk)
            have b5_3 := Lib.hid (b5_2.out.keep hk)
            have lp5_3 := Nat.lt_of_lt_of_le lp5_2 hk.size
            rw [← hx3]
            clear hx3 hk
            have lo6 : wr.heap.size ≤ x2.heap.size := q2.out.size
            have lp6_3 : x2.heap.size < x3.heap.size := b6_3.out.lt
            generalize x2.heap.size = p6 at *
            refine fc_nil ?_
            refine mt_end ?_
            obtain ⟨wa, hsta, hba, hga⟩ := run_store_blk (P := Tryd.prog) hv.toList b5_3.out (by simp [hzs, hvz]) Hhv.out.o
            obtain ⟨wb, hstb, hbb, hgb⟩ := run_store_blk (P := Tryd.prog) sv.toList (b6_3.out.grown hga (fun e => by have e2 : p5 = p6 := Option.some.inj e; omega)) (by simp [szs, svz]) Hsv.out.o
            have hba2 := Lib.hid (hba.grown hgb (fun e => by have e2 : p6 = p5 := Option.some.inj e; omega)); have hbb2 := Lib.hid hbb; have hga2 := Lib.hid hga; have hgb2 := Lib.hid hgb
            clear hba hbb hga hgb
            go_wp2
            go_meet
            exact ⟨p5, p6, hv, sv, rfl, rfl, rfl, lo5, lo6, hba2, hbb2, Hhv, Hsv, (q3.out.grown hga2.out q3.out.size (fun q hq => by injection hq with hq; omega)).grown hgb2.out (Nat.le_trans q3.out.size hga2.out.size) (fun q hq => by injection hq with hq; omega)⟩
          · simp only [pick_cons, pick_nil, nth_zero, nth_succ]
            refine fc_step rfl (fun K hK => ?_)
            go_simp
            refine hK _ _ (keep_new _ _) ?_
            clear hK K
            obtain ⟨x2, hx2⟩ : ∃ x, x = x1.alloc (.cells sz 34) := ⟨_, rfl⟩
            have b6_2 : Hid (Blk x2 x1.heap.size 34 sz.toList) := by rw [hx2]; exact Blk.new x1 _ sz.toList
            have hk : Keep x1 x2 := by rw [hx2]; exact keep_new _ _
            have q2 := Lib.hid (keep_trans q1.out hk)
            rw [← hx2]
            clear hx2 hk
            have lo6 : wr.heap.size ≤ x1.heap.size := q1.out.size
            have lp6_2 : x1.heap.size < x2.heap.size := b6_2.out.lt
            generalize x1.heap.size = p6 at *
            refine fc_nil ?_
            refine mt_force ?_
            simp only [pick_cons, pick_nil, nth_zero, nth_succ]
            refine fc_step rfl (fun K hK => ?_)
            go_simp
            refine hK _ _ (keep_new _ _) ?_
            clear hK K
            obtain ⟨x3, hx3⟩ : ∃ x, x = x2.alloc (.cells hz 65) := ⟨_, rfl⟩
            have b5_3 : Hid (Blk x3 x2.heap.size 65 hz.toList) := by rw [hx3]; exact Blk.new x2 _ hz.toList
            have hk : Keep x2 x3 := by rw [hx3]; exact keep_new _ _
            have q3 := Lib.hid (keep_trans q2.out hk)
            have b6_3 := Lib.hid (b6_2.out.keep hk)
            have lp6_3 := Nat.lt_of_lt_of_le lp6_2 hk.size
            rw [← hx3]
            clear hx3 hk
            have lo5 : wr.heap.size ≤ x2.heap.size := q2.out.size
            have lp5_3 : x2.heap.size < x3.heap.size := b5_3.out.lt
            generalize x2.heap.size = p5 at *
            refine fc_nil ?_
            refine mt_end ?_
            obtain ⟨wa, hsta, hba, hga⟩ := run_store_blk (P := Tryd.prog) hv.toList b5_3.out (by simp [hzs, hvz]) Hhv.out.o
            obtain ⟨wb, hstb, hbb, hgb⟩ := run_store_blk (P := Tryd.prog) sv.toList (b6_3.out.grown hga (fun e => by have e2 : p5 = p6 := Option.some.inj e; omega)) (by simp [szs, svz]) Hsv.out.o
            have hba2 := Lib.hid (hba.grown hgb (fun e => by have e2 : p6 = p5 := Option.some.inj e; omega)); have hbb2 := Lib.hid hbb; have hga2 := Lib.hid hga; have hgb2 := Lib.hid hgb
            clear hba hbb hga hgb
            go_wp2
            go_meet
            exact ⟨p5, p6, hv, sv, rfl, rfl, rfl, lo5, lo6, hba2, hbb2, Hhv, Hsv, (q3.out.grown hga2.out q3.out.size (fun q hq => by injection hq with hq; omega)).grown hgb2.out (Nat.le_trans q3.out.size hga2.out.size) (fun q hq => by injection hq with hq; omega)⟩
        · simp only [pick_cons, pick_nil, nth_zero, nth_succ]
          refine fc_step rfl (fun K hK => ?_)
          go_simp
          refine hK _ _ (keep_new _ _) ?_
          clear hK K
          obtain ⟨x1, hx1⟩ : ∃ x, x = x0.alloc (.cells hz 65) := ⟨_, rfl⟩
          have b5_1 : Hid (Blk x1 x0.heap.size 65 hz.toList) := by rw [hx1]; exact Blk.new x0 _ hz.toList
          have hk : Keep x0 x1 := by rw [hx1]; exact keep_new _ _
          have q1 := Lib.hid (keep_trans q0.out hk)
          rw [← hx1]
          clear hx1 hk
          have lo5 : wr.heap.size ≤ x0.heap.size := q0.out.size
          have lp5_1 : x0.heap.size < x1.heap.size := b5_1.out.lt
          generalize x0.heap.size = p5 at *
          refine fc_nil ?_
          refine mt_fork ?_ ?_
          · simp only [pick_cons, pick_nil, nth_zero, nth_succ]
            refine fc_step rfl (fun K hK => ?_)
            go_simp
            (with_reducible refine (T1.out x1 q1.out).mono ?_)
            rintro e x2 ⟨hv, sv, rfl, hhv, hsv, hk⟩
            refine hK _ _ hk ?_
            clear hK K
            have q2 := Lib.hid (keep_trans q1.out hk)
            have b5_2 := Lib.hid (b5_1.out.keep hk)
            have Hhv := Lib.hid hhv; have Hsv := Lib.hid hsv
            have hvz := hhv.z; have hvn := hhv.n; have svz := hsv.z; have svn := hsv.n
            have lp5_2 := Nat.lt_of_lt_of_le lp5_1 hk.size
            clear hk hhv hsv
            refine fc_nil ?_
            refine mt_take x2 (Below.refl _ _) ?_
            simp only [pick_cons, pick_nil, nth_zero, nth_succ]
            repeat (go_big_quiet_step (fail))
            refine wpQuiet_nil ?_
            refine mt_force ?_
            simp only [pick_cons, pick_nil, nth_zero, nth_succ]
            refine fc_step rfl (fun K hK => ?_)
            go_simp
            refine hK _ _ (keep_new _ _) ?_
            clear hK K
            obtain ⟨x3, hx3⟩ : ∃ x, x = x2.alloc (.cells sz 34) := ⟨_, rfl⟩
            have b6_3 : Hid (Blk x3 x2.heap.size 34 sz.toList) := by rw [hx3]; exact Blk.new x2 _ sz.toList
            have hk : Keep x2 x3 := by rw [hx3]; exact keep_new _ _
            have q3 := Lib.hid (keep_trans q2.out hk)
            have b5_3 := Lib.hid (b5_2.out.keep hk)
            have lp5_3 := Nat.lt_of_lt_of_le lp5_2 hk.size
            rw [← hx3]
            clear hx3 hk
            have lo6 : wr.heap.size ≤ x2.heap.size := q2.out.size
            have lp6_3 : x2.heap.size < x3.heap.size := b6_3.out.lt
            generalize x2.heap.size = p6 at *
            refine fc_nil ?_
            refine mt_end ?_
            obtain ⟨wa, hsta, hba, hga⟩ := run_store_blk (P := Tryd.prog) hv.toList b5_3.out (by simp [hzs, hvz]) Hhv.out.o
            obtain ⟨wb, hstb, hbb, hgb⟩ := run_store_blk (P := Tryd.prog) sv.toList (b6_3.out.grown hga (fun e => by have e2 : p5 = p6 := Option.some.inj e; omega)) (by simp [szs, svz]) Hsv.out.o
            have hba2 := Lib.hid (hba.grown hgb (fun e => by have e2 : p6 = p5 := Option.some.inj e; omega)); have hbb2 := Lib.hid hbb; have hga2 := Lib.hid hga; have hgb2 := Lib.hid hgb
            clear hba hbb hga hgb
            go_wp2
            go_meet
            exact ⟨p5, p6, hv, sv, rfl, rfl, rfl, lo5, lo6, hba2, hbb2, Hhv, Hsv, (q3.out.grown hga2.out q3.out.size (fun q hq => by injection hq with hq; omega)).grown hgb2.out (Nat.le_trans q3.out.size hga2.out.size) (fun q hq => by injection hq with hq; omega)⟩
          · simp only [pick_cons, pick_nil, nth_zero, nth_succ]
            refine fc_step rfl (fun K hK => ?_)
            go_simp
            refine hK _ _ (keep_new _ _) ?_
            clear hK K
            obtain ⟨x2, hx2⟩ : ∃ x, x = x1.alloc (.cells sz 34) := ⟨_, rfl⟩
            have b6_2 : Hid (Blk x2 x1.heap.size 34 sz.toList) := by rw [hx2]; exact Blk.new x1 _ sz.toList
            have hk : Keep x1 x2 := by rw [hx2]; exact keep_new _ _
            have q2 := Lib.hid (keep_trans q1.out hk)
            have b5_2 := Lib.hid (b5_1.out.keep hk)
            have lp5_2 := Nat.lt_of_lt_of_le lp5_1 hk.size
            rw [← hx2]
            clear hx2 hk
            have lo6 : wr.heap.size ≤ x1.heap.size := q1.out.size
            have lp6_2 : x1.heap.size < x2.heap.size := b6_2.out.lt
            generalize x1.heap.size = p6 at *
            refine fc_nil ?_
            refine mt_force ?_
            simp only [pick_cons, pick_nil, nth_zero, nth_succ]
            refine fc_step rfl (fun K hK => ?_)
            go_simp
            (with_reducible refine (T1.out x2 q2.out).mono ?_)
            rintro e x3 ⟨hv, sv, rfl, hhv, hsv, hk⟩
            refine hK _ _ hk ?_
            clear hK K
            have q3 := Lib.hid (keep_trans q2.out hk)
            have b5_3 := Lib.hid (b5_2.out.keep hk)
            have b6_3 := Lib.hid (b6_2.out.keep hk)
            have Hhv := Lib.hid hhv; have Hsv := Lib.hid hsv
            have hvz := hhv.z; have hvn := hhv.n; have svz := hsv.z; have svn := hsv.n
            have lp5_3 := Nat.lt_of_lt_of_le lp5_2 hk.size
            have lp6_3 := Nat.lt_of_lt_of_le lp6_2 hk.size
            clear hk hhv hsv
            refine fc_nil ?_
            refine mt_take x3 (Below.refl _ _) ?_
            simp only [pick_cons, pick_nil, nth_zero, nth_succ]
            repeat (go_big_quiet_step (fail))
            refine wpQuiet_nil ?_
            refine mt_end ?_
            obtain ⟨wa, hsta, hba, hga⟩ := run_store_blk (P := Tryd.prog) hv.toList b5_3.out (by simp [hzs, hvz]) Hhv.out.o
            obtain ⟨wb, hstb, hbb, hgb⟩ := run_store_blk (P := Tryd.prog) sv.toList (b6_3.out.grown hga (fun e => by have e2 : p5 = p6 := Option.some.inj e; omega)) (by simp [szs, svz]) Hsv.out.o
            have hba2 := Lib.hid (hba.grown hgb (fun e => by have e2 : p6 = p5 := Option.some.inj e; omega)); have hbb2 := Lib.hid hbb; have hga2 := Lib.hid hga; have hgb2 := Lib.hid hgb
            clear hba hbb hga hgb
            go_wp2
            go_meet
            exact ⟨p5, p6, hv, sv, rfl, rfl, rfl, lo5, lo6, hba2, hbb2, Hhv, Hsv, (q3.out.grown hga2.out q3.out.size (fun q hq => by injection hq with hq; omega)).grown hgb2.out (Nat.le_trans q3.out.size hga2.out.size) (fun q hq => by injection hq with hq; omega)⟩
        · simp only [pick_cons, pick_nil, nth_zero, nth_succ]
          refine fc_step rfl (fun K hK => ?_)
          go_simp
          refine hK _ _ (keep_new _ _) ?_
          clear hK K
          obtain ⟨x1, hx1⟩ : ∃ x, x = x0.alloc (.cells sz 34) := ⟨_, rfl⟩
          have b6_1 : Hid (Blk x1 x0.heap.size 34 sz.toList) := by rw [hx1]; exact Blk.new x0 _ sz.toList
          have hk : Keep x0 x1 := by rw [hx1]; exact keep_new _ _
          have q1 := Lib.hid (keep_trans q0.out hk)
          rw [← hx1]
          clear hx1 hk
          have lo6 : wr.heap.size ≤ x0.heap.size := q0.out.size
          have lp6_1 : x0.heap.size < x1.heap.size := b6_1.out.lt
          generalize x0.heap.size = p6 at *
          refine fc_nil ?_
          refine mt_fork ?_ ?_
          · simp only [pick_cons, pick_nil, nth_zero, nth_succ]
            refine fc_step rfl (fun K hK => ?_)
            go_simp
            (with_reducible refine (T1.out x1 q1.out).mono ?_)
            rintro e x2 ⟨hv, sv, rfl, hhv, hsv, hk⟩
            refine hK _ _ hk ?_
            clear hK K
            have q2 := Lib.hid (keep_trans q1.out hk)
            have b6_2 := Lib.hid (b6_1.out.keep hk)
            have Hhv := Lib.hid hhv; have Hsv := Lib.hid hsv
            have hvz := hhv.z; have hvn := hhv.n; have svz := hsv.z; have svn := hsv.n
            have lp6_2 := Nat.lt_of_lt_of_le lp6_1 hk.size
            clear hk hhv hsv
            refine fc_nil ?_
            refine mt_take x2 (Below.refl _ _) ?_
            simp only [pick_cons, pick_nil, nth_zero, nth_succ]
            repeat (go_big_quiet_step (fail))
            refine wpQuiet_nil ?_
            refine mt_force ?_
            simp only [pick_cons, pick_nil, nth_zero, nth_succ]
            refine fc_step rfl (fun K hK => ?_)
            go_simp
            refine hK _ _ (keep_new _ _) ?_
            clear hK K
            obtain ⟨x3, hx3⟩ : ∃ x, x = x2.alloc (.cells hz 65) := ⟨_, rfl⟩
            have b5_3 : Hid (Blk x3 x2.heap.size 65 hz.toList) := by rw [hx3]; exact Blk.new x2 _ hz.toList
            have hk : Keep x2 x3 := by rw [hx3]; exact keep_new _ _
            have q3 := Lib.hid (keep_trans q2.out hk)
            have b6_3 := Lib.hid (b6_2.out.keep hk)
            have lp6_3 := Nat.lt_of_lt_of_le lp6_2 hk.size
            rw [← hx3]
            clear hx3 hk
            have lo5 : wr.heap.size ≤ x2.heap.size := q2.out.size
            have lp5_3 : x2.heap.size < x3.heap.size := b5_3.out.lt
            generalize x2.heap.size = p5 at *
            refine fc_nil ?_
            refine mt_end ?_
            obtain ⟨wa, hsta, hba, hga⟩ := run_store_blk (P := Tryd.prog) hv.toList b5_3.out (by simp [hzs, hvz]) Hhv.out.o
            obtain ⟨wb, hstb, hbb, hgb⟩ := run_store_blk (P := Tryd.prog) sv.toList (b6_3.out.grown hga (fun e => by have e2 : p5 = p6 := Option.some.inj e; omega)) (by simp [szs, svz]) Hsv.out.o
            have hba2 := Lib.hid (hba.grown hgb (fun e => by have e2 : p6 = p5 := Option.some.inj e; omega)); have hbb2 := Lib.hid hbb; have hga2 := Lib.hid hga; have hgb2 := Lib.hid hgb
            clear hba hbb hga hgb
            go_wp2
            go_meet
            exact ⟨p5, p6, hv, sv, rfl, rfl, rfl, lo5, lo6, hba2, hbb2, Hhv, Hsv, (q3.out.grown hga2.out q3.out.size (fun q hq => by injection hq with hq; omega)).grown hgb2.out (Nat.le_trans q3.out.size hga2.out.size) (fun q hq => by injection hq with hq; omega)⟩
          · simp only [pick_cons, pick_nil, nth_zero, nth_succ]
            refine fc_step rfl (fun K hK => ?_)
            go_simp
            refine hK _ _ (keep_new _ _) ?_
            clear hK K
            obtain ⟨x2, hx2⟩ : ∃ x, x = x1.alloc (.cells hz 65) := ⟨_, rfl⟩
            have b5_2 : Hid (Blk x2 x1.heap.size 65 hz.toList) := by rw [hx2]; exact Blk.new x1 _ hz.toList
            have hk : Keep x1 x2 := by rw [hx2]; exact keep_new _ _
            have q2 := Lib.hid (keep_trans q1.out hk)
            have b6_2 := Lib.hid (b6_1.out.keep hk)
            have lp6_2 := Nat.lt_of_lt_of_le lp6_1 hk.size
            rw [← hx2]
            clear hx2 hk
            have lo5 : wr.heap.size ≤ x1.heap.size := q1.out.size
            have lp5_2 : x1.heap.size < x2.heap.size := b5_2.out.lt
            generalize x1.heap.size = p5 at *
            refine fc_nil ?_
            refine mt_force ?_
            simp only [pick_cons, pick_nil, nth_zero, nth_succ]
            refine fc_step rfl (fun K hK => ?_)
            go_simp
            (with_reducible refine (T1.out x2 q2.out).mono ?_)
            rintro e x3 ⟨hv, sv, rfl, hhv, hsv, hk⟩
            refine hK _ _ hk ?_
            clear hK K
            have q3 := Lib.hid (keep_trans q2.out hk)
            have b5_3 := Lib.hid (b5_2.out.keep hk)
            have b6_3 := Lib.hid (b6_2.out.keep hk)
            have Hhv := Lib.hid hhv; have Hsv := Lib.hid hsv
            have hvz := hhv.z; have hvn := hhv.n; have svz := hsv.z; have svn := hsv.n
            have lp5_3 := Nat.lt_of_lt_of_le lp5_2 hk.size
            have lp6_3 := Nat.lt_of_lt_of_le lp6_2 hk.size
            clear hk hhv hsv
            refine fc_nil ?_
            refine mt_take x3 (Below.refl _ _) ?_
            simp only [pick_cons, pick_nil, nth_zero, nth_succ]
            repeat (go_big_quiet_step (fail))
            refine wpQuiet_nil ?_
            refine mt_end ?_
            obtain ⟨wa, hsta, hba, hga⟩ := run_store_blk (P := Tryd.prog) hv.toList b5_3.out (by simp [hzs, hvz]) Hhv.out.o
            obtain ⟨wb, hstb, hbb, hgb⟩ := run_store_blk (P := Tryd.prog) sv.toList (b6_3.out.grown hga (fun e => by have e2 : p5 = p6 := Option.some.inj e; omega)) (by simp [szs, svz]) Hsv.out.o
            have hba2 := Lib.hid (hba.grown hgb (fun e => by have e2 : p6 = p5 := Option.some.inj e; omega)); have hbb2 := Lib.hid hbb; have hga2 := Lib.hid hga; have hgb2 := Lib.hid hgb
            clear hba hbb hga hgb
            go_wp2
            go_meet
            exact ⟨p5, p6, hv, sv, rfl, rfl, rfl, lo5, lo6, hba2, hbb2, Hhv, Hsv, (q3.out.grown hga2.out q3.out.size (fun q hq => by injection hq with hq; omega)).grown hgb2.out (Nat.le_trans q3.out.size hga2.out.size) (fun q hq => by injection hq with hq; omega)⟩
      case rest =>
        obtain ⟨p5, p6, tv, sv, rfl, rfl, rfl, lo5, lo6, Hb5, Hb6, Htv, Hsv, kwc⟩ := hcut
        have Stc := Lib.hid (St2.out.keep kwc)
        have htz := Htv.out.z; have htn := Htv.out.n; have hti := Htv.out.i
        have hsz2 := Hsv.out.z; have hsn2 := Hsv.out.n; have hsi2 := Hsv.out.i
        clear c2 c3 c4 c37 c38
        have hGw : G < wr.heap.size := St2.out.blk.lt
        cases ok with
        | false =>
          go_wp2
          go_ret
          rw [HT2.out]
          exact ⟨rfl, fun _ => ⟨hv, Stc.out⟩, fun h => by cases h⟩
        | true =>
          obtain ⟨c2, c3, c4, c37, c38⟩ := Stc.out.cells hll
          have f4 := Stc.out.blk.frozen 4
          go_upto_region 9 with fail
          obtain ⟨wd, hwd⟩ : ∃ wd, wd = wc.setCell ⟨G, 4, none⟩ (.int .i64 ((k : Int) + 1)) := ⟨_, rfl⟩
          have HBd : Hid (Blk wd G 107 (rdCells d0 d1 bn room ((k : Int) + 1) last (.slice (some ⟨b, off, none⟩) bs.length c) hv)) := by
            rw [hwd, ← rdCells_setN (n := (k : Int))]; exact Stc.out.blk.set_ 4 _
          have Hg1 : Hid (wc.grownBy wd (some G)) := by rw [hwd]; exact grown_set (grown_refl _ _)
          rw [← hwd]
          clear hwd c2 c3 c4 c37 c38 f4
          have H5d := Lib.hid (Hb5.out.grown Hg1.out (fun e => by have e2 : G = p5 := Option.some.inj e; omega))
          have H6d := Lib.hid (Hb6.out.grown Hg1.out (fun e => by have e2 : G = p6 := Option.some.inj e; omega))
          obtain ⟨we, hst, hbe, hge⟩ := run_store_part (P := Tryd.prog) 5 sv.toList HBd.out (by rw [rdCells_len hll, Array.length_toList, hsz2]; omega) Hsv.out.o
          rw [Hsv.out.l, rdCells_setLast hll HT3.out.2] at hbe
          have HBe := Lib.hid hbe; have Hg2 := Lib.hid (grown_trans2 Hg1.out hge)
          have H5e := Lib.hid (H5d.out.grown hge (fun e => by have e2 : G = p5 := Option.some.inj e; omega))
          clear hbe hge
          go_upto_region 10 with ((with_reducible refine load_arr p6 sv (Eq.trans ?_ rfl) H6d.out (.array 32 5) hash_under (arr_row _ _) hsi2 ?_); rfl)
          have own_e : we.ownsRow w0.heap.size 65 68 hv hs.length (hs.flatMap Hd.cells) := Stc.out.own.kept Hg2.out (.inr Stc.out.oG)
          have hlt5 : hv.ownBlock ≠ some p5 := fun e => by have h1 := (St2.out.own.lt _ e).2; omega
          have Own_e := Lib.hid own_e; clear own_e
          have f38 := HBe.out.frozen 38
          have c38 := (HBe.out.cell 38).trans (rdCells_38 HT3.out.2)
          letI iM : _root_.Go.Proofs.YtbomnldpmkedbaaDoor.G.Mk := ⟨hv.ownBlock⟩
          refine _root_.Go.Proofs.YtbomnldpmkedbaaDoor.G.wp_region_tree (.take [0,1,2,3,4,5] (.force [6,7] (.take [8,9] .done))) [10] (by kernel_rfl) (by kernel_rfl) (fun wf kf => ?_)
          have hneG : _root_.Go.Proofs.YtbomnldpmkedbaaDoor.G.Mk.m ≠ some G := Stc.out.oG
          have hne5 : _root_.Go.Proofs.YtbomnldpmkedbaaDoor.G.Mk.m ≠ some p5 := hlt5
          have H5f : Hid (Blk wf p5 65 tv.toList) := H5e.out.keep kf
          have b38 := _root_.Go.Proofs.YtbomnldpmkedbaaDoor.G.aftG_cell (keep_cell kf c38) hneG
          refine _root_.Go.Proofs.YtbomnldpmkedbaaDoor.G.mt_take wf (_root_.Go.Proofs.YtbomnldpmkedbaaDoor.G.Gr.refl _) ?_
          simp only [pick_cons, pick_nil, nth_zero, nth_succ]
          iterate 5 (go_big_quiet_step (fail))
          (with_reducible refine _root_.Go.Proofs.YtbomnldpmkedbaaDoor.G.wpQuiet_load_arrG p5 tv (Eq.trans ?_ rfl) H5f.out hne5 _ Tryd.underlying65 rfl hti ?_)
          rfl
          simp only [Act.put, Array.set!_eq_setIfInBounds, List.setIfInBounds_toArray, List.set_cons_succ, List.set_cons_zero]
          refine wpQuiet_nil (_root_.Go.Proofs.YtbomnldpmkedbaaDoor.G.mt_force ?_)
          simp only [pick_cons, pick_nil, nth_zero, nth_succ]
          refine _root_.Go.Proofs.YtbomnldpmkedbaaDoor.G.fc_step rfl (fun K hK => ?_)
          refine wp_build1 headT _ (by rfl) tv htz (by omega) (by rfl) ?_
          refine hK _ _ (_root_.Go.Proofs.YtbomnldpmkedbaaDoor.G.Gr.of_keep (keep_new _ _)) ?_
          clear hK K
          simp only [Act.put, Array.set!_eq_setIfInBounds, List.setIfInBounds_toArray, List.set_cons_succ, List.set_cons_zero]
          obtain ⟨wg, hwg⟩ : ∃ wg, wg = wf.alloc (.cells tv 65) := ⟨_, rfl⟩
          have HQg : Hid (Blk wg wf.heap.size 65 tv.toList) := by rw [hwg]; exact Blk.new wf _ tv.toList
          have keg : Hid (Keep we wg) := by rw [hwg]; exact keep_trans kf (keep_new _ _)
          have hzg : wf.heap.size < wg.heap.size := HQg.out.lt
          rw [← hwg]
          clear hwg
          have ownG : wg.ownsRow w0.heap.size 65 68 hv hs.length (hs.flatMap Hd.cells) := own_keep Own_e.out keg.out
          have kp_e : Hid (Keep w0 we) := Stc.out.kp.grown Hg2.out Stc.out.kp.size (fun q hq => by injection hq with hq; have := Stc.out.gB; omega)
          have kp_g : Hid (Keep w0 wg) := keep_trans kp_e.out keg.out
          refine _root_.Go.Proofs.YtbomnldpmkedbaaDoor.G.fc_step rfl (fun K hK => ?_)
          refine wp_app headT _ _ (by rfl) w0.heap.size hv hs.length _ (by rfl) ownG (some ⟨wf.heap.size, 0, none⟩) 1 1 tv.toList (by rfl) (by rw [Array.length_toList, htz]) HQg.out.rd Htv.out.o (by omega) (by unfold maxLen; omega) kp_g.out.size (fun vn wn own' hg' hat' => hK _ _ hg' ?_)
          clear hK K
          have hGe : G < we.heap.size := HBe.out.lt
          have hGg : G < wg.heap.size := Nat.lt_of_lt_of_le hGe keg.out.size
          have hnG : vn.ownBlock ≠ some G := fun e => by
            rcases hat' with h1 | h1
            · exact Stc.out.oG (h1.symm.trans e)
            · have e2 : wg.heap.size = G := Option.some.inj (h1.symm.trans e); omega
          have HBn : Hid (Blk wn G 107 (rdCells d0 d1 bn room ((k : Int) + 1) S (.slice (some ⟨b, off, none⟩) bs.length c) hv)) := (HBe.out.keep keg.out).grown hg' Stc.out.oG
          have kp_n : Hid (Keep w0 wn) := kp_g.out.grown hg' kp_g.out.size (fun q hq => (ownG.lt q hq).1)
          have hbcells : Hid (∃ b2 off2, (some (⟨b, off, none⟩ : Addr)) = some ⟨b2, off2, none⟩ ∧ (some G ≠ some b2) ∧ hv.ownBlock ≠ some b2 ∧ b2 < wc.heap.size ∧ ∀ j (h : j < (bs.map u8v).length), wc.cell? ⟨b2, off2 + j, none⟩ = some (bs.map u8v)[j]) := by
            have hne0 : bs.map u8v ≠ [] := fun e => by have := congrArg List.length e; simp at this; rw [this] at q2; simp at q2
            rcases Stc.out.rdG with h0 | ⟨b2, off2, e2, n2, hc2⟩
            · exact absurd h0 hne0
            · rcases Stc.out.rdH with h0 | ⟨b3, off3, e3, n3, hc3⟩
              · exact absurd h0 hne0
              · have e4 : b3 = b2 := by rw [e2] at e3; injection e3 with e3; injection e3 with e3 _; exact e3.symm
                rw [e4] at n3
                exact ⟨b2, off2, e2, n2, n3, cell_lt (hc2 0 (List.length_pos_iff.2 hne0)), hc2⟩
          obtain ⟨An, cn, rfl, hcn, hmn, hrn⟩ := own_form own'
          clear hrn hmn hcn
          have Own' := Lib.hid own'; have Hg' := Lib.hid hg'; have Hat' := Lib.hid hat'; have OwnG := Lib.hid ownG
          clear own' hg' hat' ownG b38
          refine _root_.Go.Proofs.YtbomnldpmkedbaaDoor.G.fc_nil (_root_.Go.Proofs.YtbomnldpmkedbaaDoor.G.mt_take wn (_root_.Go.Proofs.YtbomnldpmkedbaaDoor.G.Gr.refl _) ?_)
          simp only [pick_cons, pick_nil, nth_zero, nth_succ, Act.put, Array.set!_eq_setIfInBounds, List.setIfInBounds_toArray, List.set_cons_succ, List.set_cons_zero]
          repeat (go_big_quiet_step (fail))
          refine wpQuiet_nil (_root_.Go.Proofs.YtbomnldpmkedbaaDoor.G.mt_end ?_)
          have d38 := (HBn.out.cell 38).trans (rdCells_38 HT3.out.2)
          have g38 := HBn.out.frozen 38
          clear hneG hne5
          clear iM
          go_wp2
          go_ret
          rw [HT2.out]
          refine ⟨rfl, (fun h => by cases h), (fun _ => ⟨.slice An (hs.length + 1) cn, ⟨?_, ?_, ?_, ?_, ?_, ?_, ?_⟩, HT3.out⟩)⟩
          · exact kp_n.out.setCell (by have := Stc.out.gB; simpa using this) _
          · exact Stc.out.gB
          · have h := HBn.out.set_ 38 (.slice An (hs.length + 1) cn)
            rw [rdCells_setH HT3.out.2] at h
            exact h
          · have h := Own'.out.kept (grown_set (o := 38) (u := .slice An (hs.length + 1) cn) (grown_refl wn (some G))) (.inr hnG)
            rw [show (hs ++ [H]).length = hs.length + 1 by simp, List.flatMap_append, show [H].flatMap Hd.cells = tv.toList by rw [Htv.out.l]; simp]
            exact h
          · exact hnG
          · obtain ⟨b2, off2, e2, n2, n3, hlt, hc⟩ := hbcells.out
            refine .inr ⟨b2, off2, e2, n2, fun j hj => ?_⟩
            rw [World.cell?_setCell_other _ _ _ _ (fun e => n2 (congrArg (fun x : Addr => some x.block) e))]
            exact grown_cell Hg'.out (keep_cell keg.out (grown_cell Hg2.out (hc j hj) n2)) n3
          · obtain ⟨b2, off2, e2, n2, n3, hlt, hc⟩ := hbcells.out
            refine .inr ⟨b2, off2, e2, fun e => ?_, fun j hj => ?_⟩
            · rcases Hat'.out with h1 | h1
              · exact n3 (h1.symm.trans e)
              · have e3 : wg.heap.size = b2 := Option.some.inj (h1.symm.trans e)
                have h4 := Hg2.out.size
                have h5 := keg.out.size
                omega
            · rw [World.cell?_setCell_other _ _ _ _ (fun e => n2 (congrArg (fun x : Addr => some x.block) e))]
              exact grown_cell Hg'.out (keep_cell keg.out (grown_cell Hg2.out (hc j hj) n2)) n3
    · have HX : Hid (NX = (false, zHd, z32)) := HNX.out.trans (if_neg fun h => q2 h.2)
      have r1 : ¬ ((roomN room : Nat) : Int) ≤ (k : Int) := by omega
      have r2 : (bs.length : Int) < (B : Int) + 128 := by omega
      go_enter Tryd.func55, Tryd.ntmps55
      go_upto_region 1 with fail
      obtain ⟨c2, c3, c4, c37, c38⟩ := St.out.cells hll
      have a2 := aft_cell c2; have a4 := aft_cell c4
      refine wp_region_aft (by kernel_rfl) (by kernel_rfl) w (Below.refl _ _) ?_
      repeat (go_big_quiet_step (fail))
      refine wpQuiet_nil ?_
      rintro _ ⟨z, rfl⟩
      have j1 := aft_keep w z
      generalize aft w z = w1 at j1 ⊢
      have St1 := Lib.hid (St.out.keep j1)
      clear a2 a4 c2 c3 c4 c37 c38 j1
      obtain ⟨c2, c3, c4, c37, c38⟩ := St1.out.cells hll
      go_upto_region 3 with fail
      have a3 := aft_cell c3; have a4 := aft_cell c4; have a37 := aft_cell c37
      refine wp_region_aft (by kernel_rfl) (by kernel_rfl) w1 (Below.refl _ _) ?_
      repeat (go_big_quiet_step ((go_at_call 59; exact quiet_aft_same (records_any _ _))))
      refine wpQuiet_nil ?_
      rintro _ ⟨z2, rfl⟩
      have j2 := aft_keep w1 z2
      generalize aft w1 z2 = w2 at j2 ⊢
      have St2 := Lib.hid (St1.out.keep j2)
      clear a3 a4 a37 c2 c3 c4 c37 c38 j2
      go_wp2
      go_ret
      rw [HX.out]
      exact ⟨rfl, fun _ => ⟨hv, St2.out⟩, fun h => by cases h⟩
  · have HX : Hid (NX = (false, zHd, z32)) := HNX.out.trans (if_neg fun h => q1 h.1)
    have r1 : ((roomN room : Nat) : Int) ≤ (k : Int) := by omega
    go_enter Tryd.func55, Tryd.ntmps55
    go_upto_region 1 with fail
    obtain ⟨c2, c3, c4, c37, c38⟩ := St.out.cells hll
    have a2 := aft_cell c2; have a4 := aft_cell c4
    refine wp_region_aft (by kernel_rfl) (by kernel_rfl) w (Below.refl _ _) ?_
    repeat (go_big_quiet_step (fail))
    refine wpQuiet_nil ?_
    rintro _ ⟨z, rfl⟩
    have j1 := aft_keep w z
    generalize aft w z = w1 at j1 ⊢
    have St1 := Lib.hid (St.out.keep j1)
    clear a2 a4 c2 c3 c4 c37 c38 j1
    obtain ⟨c2, c3, c4, c37, c38⟩ := St1.out.cells hll
    go_upto_region 3 with fail
    have a3 := aft_cell c3; have a4 := aft_cell c4; have a37 := aft_cell c37
    refine wp_region_aft (by kernel_rfl) (by kernel_rfl) w1 (Below.refl _ _) ?_
    repeat (go_big_quiet_step ((go_at_call 59; exact quiet_aft_same (records_any _ _))))
    refine wpQuiet_nil ?_
    rintro _ ⟨z2, rfl⟩
    have j2 := aft_keep w1 z2
    generalize aft w1 z2 = w2 at j2 ⊢
    have St2 := Lib.hid (St1.out.keep j2)
    clear a3 a4 a37 c2 c3 c4 c37 c38 j2
    go_wp2
    go_ret
    rw [HX.out]
    exact ⟨rfl, fun _ => ⟨hv, St2.out⟩, fun h => by cases h⟩
end Go.Proofs.YtbomnldpmkedbaaDoor

namespace Go.Proofs.YtbomnldpmkedbaaDoor
open Go.RowKit
attribute [local go_sem ↓] Go.wp_at_zero Go.wp_at_succ

theorem bytes_foldH (nb : Nat) : ∀ (ws : List WriteR) (b : List UInt8), b.length = nb → (∀ x ∈ ws, x.ok nb = true) → (ws.foldl layW b).length = nb
  | [], b, h, _ => h
  | x :: ws, b, h, hx => by
    rw [List.foldl_cons]
    exact bytes_foldH nb ws _ ((len_layW b x (by rw [h]; exact hx x (List.mem_cons_self ..))).trans h) (fun y hy => hx y (List.mem_cons_of_mem _ hy))
theorem bytesD_lenH (b : List UInt8) (ws : List WriteR) : (bytesD b ws).length = (tkB b ws).length := bytes_foldH _ _ _ rfl (ok_of_sane (tk_sane b ws))
/-- The records from here on. -/
def opL (bn : Nat) (room : Int) (bs : List UInt8) : Nat → Nat → List UInt8 → List Hd → Nat × List UInt8 × List Hd
  | 0, k, last, hs => (k, last, hs)
  | f + 1, k, last, hs => if (nxD bn room k last bs).1 then opL bn room bs f (k + 1) (nxD bn room k last bs).2.2 (hs ++ [(nxD bn room k last bs).2.1]) else (k, last, hs)
/-- What opening finds on these bytes. -/
def openL (base room : Int) (bs : List UInt8) : Nat × List UInt8 × List Hd :=
  if base < 0 ∨ ((bs.length / 32 : Nat) : Int) < base then (0, z32, []) else opL base.toNat room bs 1025 0 z32 []
/-- A log's cells. -/
def lgCells (d0 d1 : Value) (base room n : Int) (last : List UInt8) : List Value := [d0, d1, .int .i64 base, .int .i64 room, .int .i64 n] ++ last.map u8v
theorem rd_lg {d0 d1 bs hv : Value} {base room n : Int} {last : List UInt8} : rdCells d0 d1 base room n last bs hv = lgCells d0 d1 base room n last ++ [bs, hv] := by
  unfold rdCells lgCells; rw [List.append_assoc]
theorem lg_len {d0 d1 : Value} {base room n : Int} {last : List UInt8} (hl : last.length = 32) : (lgCells d0 d1 base room n last).length = 37 := by simp [lgCells, hl]
theorem nx_lt {bn : Nat} {room : Int} {k : Nat} {last bs : List UInt8} (h : (nxD bn room k last bs).1 = true) : k < 1024 := by
  unfold nxD at h
  split at h
  · rename_i h1
    have : roomN room ≤ 1024 := by unfold roomN; omega
    omega
  · cases h
theorem one_rd (d0 d1 bs hv : Value) (base room n : Int) (last : List UInt8) (h0 : d0.oneCell' = true) (h1 : d1.oneCell' = true) (h2 : bs.oneCell' = true) (h3 : hv.oneCell' = true) : ∀ v ∈ rdCells d0 d1 base room n last bs hv, v.oneCell' = true := by
  intro v hv'
  unfold rdCells at hv'
  simp only [List.mem_append, List.mem_cons, List.not_mem_nil, or_false] at hv'
  rcases hv' with (rfl | rfl | rfl | rfl | rfl) | hv' | rfl | rfl <;> first | assumption | rfl | exact one_w8 _ _ hv'
theorem one_lg (d0 d1 : Value) (base room n : Int) (last : List UInt8) (h0 : d0.oneCell' = true) (h1 : d1.oneCell' = true) : ∀ v ∈ lgCells d0 d1 base room n last, v.oneCell' = true := by
  intro v hv'
  unfold lgCells at hv'
  simp only [List.mem_append, List.mem_cons, List.not_mem_nil, or_false] at hv'
  rcases hv' with (rfl | rfl | rfl | rfl | rfl) | hv' <;> first | assumption | rfl | exact one_w8 _ _ hv'
theorem rdx_none {w : World} {row : Option Nat} {A : Option Addr} {xs : List Value} (h : RdX row w A xs) : RdX none w A xs := by
  rcases h with h | ⟨b, off, e, _, hc⟩
  · exact .inl h
  · exact .inr ⟨b, off, e, (fun e => by cases e), hc⟩
theorem wpQuiet_load_partG [MM : _root_.Go.Proofs.YtbomnldpmkedbaaDoor.G.Mk] {P : Program} {w0 : World} {ops : Array Oper} {rest : List Oper} {a : Act} {Q : Act → Prop} {x : Operand} {dst : Option Tmp} {ty ty' : TypeId} {pos : String} {af : Array Edge}
    (g off : Nat) (cs : Array Value) (hx : a.eval x = .pointer (some ⟨g, off, none⟩)) (hr : w0.rangeAt g off cs.toList) (hne : MM.m ≠ some g) (d : TypeDesc) (hu : P.underlying ty = some d) (hd : d.isRow = true) (hi : (P.info? ty).map (·.size) = some cs.size)
    (h : wpQuiet P ops (fun w' => ∃ x, w' = _root_.Go.Proofs.YtbomnldpmkedbaaDoor.G.aftG w0 x) Q rest (a.put dst (.agg cs))) :
    wpQuiet P ops (fun w' => ∃ x, w' = _root_.Go.Proofs.YtbomnldpmkedbaaDoor.G.aftG w0 x) Q ({ dst := dst, op := .load ty x, type := ty', pos := pos, after := af, guard := none } :: rest) a := by
  refine BigFrame.wpQuiet_want (by simp [Region.wanted]) fun K hK => ⟨.agg cs, fun w hw => ?_, hK _ h⟩
  obtain ⟨y, rfl⟩ := hw
  unfold Oper.quietAt execOp
  have hl := run_loadVar_mid (P := P) (_root_.Go.Proofs.YtbomnldpmkedbaaDoor.G.aftG w0 y) g off ty cs.toList d (fun j v hv => grown_cell (_root_.Go.Proofs.YtbomnldpmkedbaaDoor.G.aftG_keep w0 y) (hr j v hv) hne) hu hd (by simpa using hi)
  simp only [hx, Instr.loadAt, Instr.sureAddr, Sem.run_bind, Sem.run_pure, Result.andThen_ok, hl, Array.toArray_toList]
  exact ⟨rfl, rfl⟩
/-- What a walk has to know of a log as a value. -/
structure LgA (l : List Value) (cs : Array Value) : Prop where
  l : cs.toList = l
  z : cs.size = 37
  i : (Tryd.prog.info? 36).map (·.size) = some cs.size
  n : ¬ cs = #[]

set_option maxRecDepth 100000 in
set_option maxHeartbeats 6000000 in
theorem open_any (A : Option Addr) (b : List UInt8) (c : Nat) (PA : Option Addr) (ws : List WriteR) (pc : Nat) (base room : Int) (w : World) (h : DOk w A b c PA ws pc) (hS : ShaOk w) (hb1 : -9223372036854775808 ≤ base ∧ base ≤ 9223372036854775807) :
    Calls Tryd.prog 36 #[DV A b.length c PA ws.length pc, .int .i64 base, .int .i64 room] w fun e w' => ∃ cs hv, e = .returned (.tuple #[.agg cs, hv]) ∧
      cs.toList = lgCells (.slice A b.length c) (.slice PA ws.length pc) base room ((openL base room (bytesD b ws)).1 : Nat) (openL base room (bytesD b ws)).2.1 ∧
      w'.ownsRow w.heap.size 65 68 hv (openL base room (bytesD b ws)).2.2.length ((openL base room (bytesD b ws)).2.2.flatMap Hd.cells) ∧ Keep w w' := by
  have hlb : (bytesD b ws).length ≤ 131072 := by
    have h1 := sane_len (tk_sane b ws)
    have h2 : (bytesD b ws).length = (tkB b ws).length := bytesD_lenH b ws
    omega
  have B1 : Hid (∀ w', Keep w w' → Calls Tryd.prog 23 #[DV A b.length c PA ws.length pc] w' fun e w'' => ∃ v, e = .returned v ∧ w''.ownsRow w'.heap.size 5 1 v (bytesD b ws).length ((bytesD b ws).map u8v) ∧ Keep w' w'') := fun w' hk => bytes_any A b c PA ws pc w' (h.keep hk)
  have hbc := h.bc; have hcm := h.cm; have hpl := h.pl; have hpm := h.pm
  unfold maxLen at hcm hpm
  have HS := Lib.hid hS
  clear h hS
  generalize bytesD b ws = bs at *
  obtain ⟨OP, hOP⟩ : ∃ OP, openL base room bs = OP := ⟨_, rfl⟩
  rw [hOP]
  have HOP := Lib.hid hOP; clear hOP
  generalize b.length = bl at *
  generalize ws.length = wl at *
  go_enter Tryd.func36, Tryd.ntmps36
  go_upto_region 1 with fail
  obtain ⟨w1, hw1⟩ : ∃ w1, w1 = (w.alloc (.cells #[.slice A bl c, .slice PA wl pc] 32)).alloc (.cells #[.slice none 0 0, .slice none 0 0, .int .i64 0, .int .i64 0, .int .i64 0, .int .u8 0, .int .u8 0, .int .u8 0, .int .u8 0, .int .u8 0, .int .u8 0, .int .u8 0, .int .u8 0, .int .u8 0, .int .u8 0, .int .u8 0, .int .u8 0, .int .u8 0, .int .u8 0, .int .u8 0, .int .u8 0, .int .u8 0, .int .u8 0, .int .u8 0, .int .u8 0, .int .u8 0, .int .u8 0, .int .u8 0, .int .u8 0, .int .u8 0, .int .u8 0, .int .u8 0, .int .u8 0, .int .u8 0, .int .u8 0, .int .u8 0, .int .u8 0] 36) := ⟨_, rfl⟩
  have HD1 : Hid (Blk w1 w.heap.size 32 [.slice A bl c, .slice PA wl pc]) := by rw [hw1]; exact (Blk.new w _ [.slice A bl c, .slice PA wl pc]).alloc _
  have HR1 : Hid (Blk w1 (w.heap.size + 1) 36 (lgCells (.slice none 0 0) (.slice none 0 0) 0 0 0 z32)) := by
    rw [hw1]
    have h1 := Blk.new (w.alloc (.cells #[.slice A bl c, .slice PA wl pc] 32)) 36 (lgCells (.slice none 0 0) (.slice none 0 0) 0 0 0 z32)
    rw [World.size_alloc] at h1
    exact h1
  have HK1 : Hid (Keep w w1) := by rw [hw1]; exact keep_trans (keep_new _ _) (keep_new _ _)
  have hz1 : w.heap.size + 2 = w1.heap.size := by rw [hw1]; simp
  rw [← hw1]
  clear hw1
  have hz2 : w.heap.size + 2 ≤ w1.heap.size := by omega
  clear hz1
  have e0 := HD1.out.cell 0; have e1 := HD1.out.cell 1
  simp only [List.getElem?_cons_zero, List.getElem?_cons_succ] at e0 e1
  go_cut [8] (fun p wx => ∃ G A2 c2, p = .pointer (some ⟨G, 0, none⟩) ∧ w1.heap.size ≤ G ∧ Hid (Blk wx G 107 (rdCells (.slice A bl c) (.slice PA wl pc) base room 0 z32 (.slice A2 bs.length c2) (.slice none 0 0))) ∧ Hid (RdX (some G) wx A2 (bs.map u8v)) ∧ bs.length ≤ c2 ∧ c2 ≤ 9223372036854775807 ∧ Keep w1 wx)
  case first =>
    refine wp_region_tree (.take [0,1,2,3,4] (.fork 5 (.take [6] (.force [7] .done)) 7 (.force [5] (.take [6] .done)))) [8] (by kernel_rfl) (by kernel_rfl) (fun w2 k2 => ?_)
    have a0 := aft_cell (keep_cell k2 e0); have a1 := aft_cell (keep_cell k2 e1)
    refine mt_take w2 (Below.refl _ _) ?_
    simp only [pick_cons, pick_nil, nth_zero, nth_succ]
    repeat (go_big_quiet_step (fail))
    refine wpQuiet_nil ?_
    clear a0 a1
    refine mt_fork ?_ ?_
    · simp only [pick_cons, pick_nil, nth_zero, nth_succ]
      refine fc_step rfl (fun K hK => ?_)
      go_simp
      (with_reducible refine (B1.out _ (keep_trans HK1.out k2)).mono ?_)
      rintro e w3 ⟨v3, rfl, own3, hk⟩
      refine hK _ _ hk ?_
      clear hK K
      obtain ⟨A2, c2, rfl, hc2, hm2, hr2⟩ := own_form own3
      have Hr2 := Lib.hid hr2
      unfold maxLen at hm2
      have k3 := Lib.hid (keep_trans k2 hk)
      clear own3 hr2 hk
      refine fc_nil (mt_take w3 (Below.refl _ _) ?_)
      simp only [pick_cons, pick_nil, nth_zero, nth_succ]
      repeat (go_big_quiet_step (fail))
      refine wpQuiet_nil (mt_force ?_)
      simp only [pick_cons, pick_nil, nth_zero, nth_succ]
      refine fc_step rfl (fun K hK => ?_)
      go_simp
      refine hK _ _ (keep_new _ _) ?_
      clear hK K
      obtain ⟨w4, hw4⟩ : ∃ w4, w4 = w3.alloc (.cells #[.slice none 0 0, .slice none 0 0, .int .i64 0, .int .i64 0, .int .i64 0, .int .u8 0, .int .u8 0, .int .u8 0, .int .u8 0, .int .u8 0, .int .u8 0, .int .u8 0, .int .u8 0, .int .u8 0, .int .u8 0, .int .u8 0, .int .u8 0, .int .u8 0, .int .u8 0, .int .u8 0, .int .u8 0, .int .u8 0, .int .u8 0, .int .u8 0, .int .u8 0, .int .u8 0, .int .u8 0, .int .u8 0, .int .u8 0, .int .u8 0, .int .u8 0, .int .u8 0, .int .u8 0, .int .u8 0, .int .u8 0, .int .u8 0, .int .u8 0, .slice none 0 0, .slice none 0 0] 107) := ⟨_, rfl⟩
      have hb4 : Blk w4 w3.heap.size 107 (rdCells (.slice none 0 0) (.slice none 0 0) 0 0 0 z32 (.slice none 0 0) (.slice none 0 0)) := by rw [hw4]; exact Blk.new w3 _ (rdCells (.slice none 0 0) (.slice none 0 0) 0 0 0 z32 (.slice none 0 0) (.slice none 0 0))
      have k34 : Hid (Keep w3 w4) := by rw [hw4]; exact keep_new _ _
      have hz3 : w1.heap.size ≤ w3.heap.size := k3.out.size
      rw [← hw4]
      clear hw4
      obtain ⟨cs, hcs⟩ : ∃ cs : Array Value, (#[.slice A bl c, .slice PA wl pc, .int .i64 base, .int .i64 room, .int .i64 0, .int .u8 0, .int .u8 0, .int .u8 0, .int .u8 0, .int .u8 0, .int .u8 0, .int .u8 0, .int .u8 0, .int .u8 0, .int .u8 0, .int .u8 0, .int .u8 0, .int .u8 0, .int .u8 0, .int .u8 0, .int .u8 0, .int .u8 0, .int .u8 0, .int .u8 0, .int .u8 0, .int .u8 0, .int .u8 0, .int .u8 0, .int .u8 0, .int .u8 0, .int .u8 0, .int .u8 0, .int .u8 0, .int .u8 0, .int .u8 0, .int .u8 0, .int .u8 0, .slice A2 bs.length c2, .slice none 0 0] : Array Value) = cs := ⟨_, rfl⟩
      have hcl : Hid (cs.toList = rdCells (.slice A bl c) (.slice PA wl pc) base room 0 z32 (.slice A2 bs.length c2) (.slice none 0 0)) := by rw [← hcs]; rfl
      have hcz : cs.size = 39 := by rw [← hcs]; rfl
      have hcn : ¬ cs = #[] := by intro h; rw [h] at hcz; simp at hcz
      have hco : Hid (∀ v ∈ cs.toList, v.oneCell' = true) := by rw [hcl.out]; exact one_rd _ _ _ _ _ _ _ _ (by rfl) (by rfl) (by rfl) (by rfl)
      rw [hcs]
      clear hcs
      obtain ⟨w5, hst, hb5, hg5⟩ := run_store_blk (P := Tryd.prog) cs.toList hb4 (by rw [rdCells_len rfl, Array.length_toList, hcz]) hco.out
      have Hb5 := Lib.hid hb5; have Hg5 := Lib.hid hg5
      have hlt3 := hb4.lt
      have HX : Hid (RdX (some w3.heap.size) w4 A2 (bs.map u8v)) := (RdX.of_old Hr2.out (fun k hk => by injection hk with hk; omega)).keep k34.out
      clear hb4 hb5 hg5
      refine fc_nil (mt_end ?_)
      go_wp2
      go_meet
      refine ⟨w3.heap.size, A2, c2, rfl, hz3, by rw [← hcl.out]; exact Hb5.out, HX.out.grown Hg5.out (.inl rfl), hc2, by omega, (keep_trans k3.out k34.out).grown Hg5.out (keep_trans k3.out k34.out).size (fun q hq => by injection hq with hq; omega)⟩
    · simp only [pick_cons, pick_nil, nth_zero, nth_succ]
      refine fc_step rfl (fun K hK => ?_)
      go_simp
      refine hK _ _ (keep_new _ _) ?_
      clear hK K
      obtain ⟨w3, hw3⟩ : ∃ w3, w3 = w2.alloc (.cells #[.slice none 0 0, .slice none 0 0, .int .i64 0, .int .i64 0, .int .i64 0, .int .u8 0, .int .u8 0, .int .u8 0, .int .u8 0, .int .u8 0, .int .u8 0, .int .u8 0, .int .u8 0, .int .u8 0, .int .u8 0, .int .u8 0, .int .u8 0, .int .u8 0, .int .u8 0, .int .u8 0, .int .u8 0, .int .u8 0, .int .u8 0, .int .u8 0, .int .u8 0, .int .u8 0, .int .u8 0, .int .u8 0, .int .u8 0, .int .u8 0, .int .u8 0, .int .u8 0, .int .u8 0, .int .u8 0, .int .u8 0, .int .u8 0, .int .u8 0, .slice none 0 0, .slice none 0 0] 107) := ⟨_, rfl⟩
      have hb3 : Hid (Blk w3 w2.heap.size 107 (rdCells (.slice none 0 0) (.slice none 0 0) 0 0 0 z32 (.slice none 0 0) (.slice none 0 0))) := by rw [hw3]; exact Blk.new w2 _ (rdCells (.slice none 0 0) (.slice none 0 0) 0 0 0 z32 (.slice none 0 0) (.slice none 0 0))
      have k23 : Hid (Keep w2 w3) := by rw [hw3]; exact keep_new _ _
      have hz3 : w1.heap.size ≤ w2.heap.size := k2.size
      have hlt3 : w2.heap.size < w3.heap.size := hb3.out.lt
      rw [← hw3]
      clear hw3
      generalize w2.heap.size = G at hb3 hz3 hlt3 ⊢
      refine fc_nil (mt_force ?_)
      simp only [pick_cons, pick_nil, nth_zero, nth_succ]
      refine fc_step rfl (fun K hK => ?_)
      go_simp
      (with_reducible refine (B1.out _ (keep_trans HK1.out (keep_trans k2 k23.out))).mono ?_)
      rintro e w4 ⟨v4, rfl, own4, hk⟩
      refine hK _ _ hk ?_
      clear hK K
      obtain ⟨A2, c2, rfl, hc2, hm2, hr2⟩ := own_form own4
      have HX : Hid (RdX (some G) w4 A2 (bs.map u8v)) := RdX.of_own own4 (fun k hk => by injection hk with hk; omega)
      unfold maxLen at hm2
      have k4 := Lib.hid (keep_trans (keep_trans k2 k23.out) hk)
      have hb4 := Lib.hid (hb3.out.keep hk)
      clear own4 hr2 hk
      refine fc_nil (mt_take w4 (Below.refl _ _) ?_)
      simp only [pick_cons, pick_nil, nth_zero, nth_succ]
      repeat (go_big_quiet_step (fail))
      refine wpQuiet_nil (mt_end ?_)
      obtain ⟨cs, hcs⟩ : ∃ cs : Array Value, (#[.slice A bl c, .slice PA wl pc, .int .i64 base, .int .i64 room, .int .i64 0, .int .u8 0, .int .u8 0, .int .u8 0, .int .u8 0, .int .u8 0, .int .u8 0, .int .u8 0, .int .u8 0, .int .u8 0, .int .u8 0, .int .u8 0, .int .u8 0, .int .u8 0, .int .u8 0, .int .u8 0, .int .u8 0, .int .u8 0, .int .u8 0, .int .u8 0, .int .u8 0, .int .u8 0, .int .u8 0, .int .u8 0, .int .u8 0, .int .u8 0, .int .u8 0, .int .u8 0, .int .u8 0, .int .u8 0, .int .u8 0, .int .u8 0, .int .u8 0, .slice A2 bs.length c2, .slice none 0 0] : Array Value) = cs := ⟨_, rfl⟩
      have hcl : Hid (cs.toList = rdCells (.slice A bl c) (.slice PA wl pc) base room 0 z32 (.slice A2 bs.length c2) (.slice none 0 0)) := by rw [← hcs]; rfl
      have hcz : cs.size = 39 := by rw [← hcs]; rfl
      have hcn : ¬ cs = #[] := by intro h; rw [h] at hcz; simp at hcz
      have hco : Hid (∀ v ∈ cs.toList, v.oneCell' = true) := by rw [hcl.out]; exact one_rd _ _ _ _ _ _ _ _ (by rfl) (by rfl) (by rfl) (by rfl)
      rw [hcs]
      clear hcs
      obtain ⟨w5, hst, hb5, hg5⟩ := run_store_blk (P := Tryd.prog) cs.toList hb4.out (by rw [rdCells_len rfl, Array.length_toList, hcz]) hco.out
      have Hb5 := Lib.hid hb5; have Hg5 := Lib.hid hg5
      clear hb5 hg5
      go_wp2
      go_meet
      refine ⟨G, A2, c2, rfl, hz3, by rw [← hcl.out]; exact Hb5.out, HX.out.grown Hg5.out (.inl rfl), hc2, by omega, k4.out.grown Hg5.out k4.out.size (fun q hq => by injection hq with hq; omega)⟩
  case rest =>
    obtain ⟨G, A2, c2, rfl, hzG, HB, HX, hc2, hm2, kc⟩ := hcut
    have d2 := (HB.out.cell 37).trans (rdCells_37 (by rfl))
    by_cases p1 : base < 0
    · have HOPx : OP = (0, z32, []) := by rw [← HOP.out]; exact if_pos (.inl p1)
      obtain ⟨ls, hls⟩ : ∃ ls : Array Value, ls.toList = lgCells (.slice A bl c) (.slice PA wl pc) base room 0 z32 := ⟨_, rfl⟩
      have hlz : ls.size = 37 := by rw [← Array.length_toList, hls]; exact lg_len rfl
      have hln : ¬ ls = #[] := by intro h; rw [h] at hlz; simp at hlz
      have hli : (Tryd.prog.info? 36).map (·.size) = some ls.size := by rw [hlz]; kernel_rfl
      have hrg : wc.rangeAt G 0 ls.toList := range_of HB.out 0 ls.toList (by rw [hls, lg_len rfl, List.drop_zero, rd_lg, List.take_left' (lg_len rfl)])
      have HRc : Hid (Blk wc (w.heap.size + 1) 36 (lgCells (.slice none 0 0) (.slice none 0 0) 0 0 0 z32)) := HR1.out.keep kc
      obtain ⟨w8, hst, hb8, hg8⟩ := run_store_blk (P := Tryd.prog) ls.toList HRc.out (by rw [lg_len rfl, Array.length_toList, hlz]) (by rw [hls]; exact one_lg _ _ _ _ _ _ (by rfl) (by rfl))
      have Hb8 := Lib.hid hb8; have Hg8 := Lib.hid hg8; have Hls := Lib.hid hls; have Hrg := Lib.hid hrg
      clear hb8 hg8 hls hrg
      go_upto_region 3 with fail
      go_wp2_with ((with_reducible refine load_part G 0 ls (Eq.trans ?_ rfl) Hrg.out _ Tryd.underlying36 rfl hli ?_); rfl)
      have hb8 := Hb8.out
      have hkc : Keep w wc := keep_trans HK1.out kc
      (try rw [HOPx])
      exact bodyPost_ret (v := .tuple #[.agg ls, .slice none 0 0]) (results_cell_tmp_row Tryd.results36 _ _ (w.heap.size + 1) _ _ _ _ rfl hb8 Tryd.underlying36 rfl (by rw [List.size_toArray, Array.length_toList]; exact hli)) rfl ⟨ls, _, rfl, Hls.out, World.ownsRow_nil _ _ _ _, hkc.grown Hg8.out hkc.size (fun q hq => by injection hq with hq; omega)⟩
    · by_cases p2 : ((bs.length / 32 : Nat) : Int) < base
      · have HOPx : OP = (0, z32, []) := by rw [← HOP.out]; exact if_pos (.inr p2)
        obtain ⟨ls, hls⟩ : ∃ ls : Array Value, ls.toList = lgCells (.slice A bl c) (.slice PA wl pc) base room 0 z32 := ⟨_, rfl⟩
        have hlz : ls.size = 37 := by rw [← Array.length_toList, hls]; exact lg_len rfl
        have hln : ¬ ls = #[] := by intro h; rw [h] at hlz; simp at hlz
        have hli : (Tryd.prog.info? 36).map (·.size) = some ls.size := by rw [hlz]; kernel_rfl
        have hrg : wc.rangeAt G 0 ls.toList := range_of HB.out 0 ls.toList (by rw [hls, lg_len rfl, List.drop_zero, rd_lg, List.take_left' (lg_len rfl)])
        have HRc : Hid (Blk wc (w.heap.size + 1) 36 (lgCells (.slice none 0 0) (.slice none 0 0) 0 0 0 z32)) := HR1.out.keep kc
        obtain ⟨w8, hst, hb8, hg8⟩ := run_store_blk (P := Tryd.prog) ls.toList HRc.out (by rw [lg_len rfl, Array.length_toList, hlz]) (by rw [hls]; exact one_lg _ _ _ _ _ _ (by rfl) (by rfl))
        have Hb8 := Lib.hid hb8; have Hg8 := Lib.hid hg8; have Hls := Lib.hid hls; have Hrg := Lib.hid hrg
        clear hb8 hg8 hls hrg
        go_upto_region 3 with fail
        go_wp2_with ((with_reducible refine load_part G 0 ls (Eq.trans ?_ rfl) Hrg.out _ Tryd.underlying36 rfl hli ?_); rfl)
        have hb8 := Hb8.out
        have hkc : Keep w wc := keep_trans HK1.out kc
        (try rw [HOPx])
        exact bodyPost_ret (v := .tuple #[.agg ls, .slice none 0 0]) (results_cell_tmp_row Tryd.results36 _ _ (w.heap.size + 1) _ _ _ _ rfl hb8 Tryd.underlying36 rfl (by rw [List.size_toArray, Array.length_toList]; exact hli)) rfl ⟨ls, _, rfl, Hls.out, World.ownsRow_nil _ _ _ _, hkc.grown Hg8.out hkc.size (fun q hq => by injection hq with hq; omega)⟩
      · obtain ⟨bn, hbn⟩ : ∃ bn : Nat, base = bn := ⟨base.toNat, by omega⟩
        subst hbn
        have HOP2 : Hid (opL bn room bs 1025 0 z32 [] = OP) := by
          rw [← HOP.out]; exact (if_neg (by omega)).symm
        have hbn5 : bn ≤ 5000 := by omega
        go_upto_region 4 with fail
        have HKc := Lib.hid kc
        have HS1 := Lib.hid (HS.out.keep HK1.out)
        clear d2 kc
        go_loopw [] (fun wr => ∃ (k : Nat) (last : List UInt8) (hv : Value) (hs : List Hd), k ≤ 1024 ∧ last.length = 32 ∧ hs.length = k ∧ Hid (RSt w1 wr G (.slice A bl c) (.slice PA wl pc) bn room k last A2 bs c2 hv hs) ∧ Hid (opL bn room bs (1025 - k) k last hs = OP)) (fun wr => match wr.cell? ⟨G, 4, none⟩ with | some (.int _ n) => 1024 - n.toNat | _ => 0)
        case atStart =>
          exact ⟨0, z32, .slice none 0 0, [], by omega, rfl, rfl, ⟨HKc.out, hzG, HB.out, World.ownsRow_nil _ _ _ _, (fun e => by cases e), HX.out, rdx_none HX.out⟩, HOP2⟩
        case round =>
          obtain ⟨k, last, hv, hs, hk, hll, hhs, HSt, HO⟩ := hrel
          have C4 := Lib.hid (HSt.out.cells hll).2.2.1
          have Hhs := Lib.hid hhs
          have hhs2 : hs.length ≤ 2000 := by omega
          clear hhs
          go_wp2_with fail
          refine (next_any w1 wr G _ _ bn room k last A2 bs c2 hv hs HSt.out hll hbn5 hk (by omega) hc2 (by unfold maxLen; omega) hhs2 HS1.out).mono ?_
          rintro e w2 ⟨rfl, hF, hT⟩
          have HOs : Hid (∀ NX, nxD bn room k last bs = NX → (NX.1 = true → k < 1024 ∧ opL bn room bs (1025 - (k + 1)) (k + 1) NX.2.2 (hs ++ [NX.2.1]) = OP) ∧ (NX.1 = false → (k, last, hs) = OP)) := fun NX e => by
            subst e
            have h1 : 1025 - k = (1024 - k) + 1 := by omega
            have h2 := HO.out
            rw [h1, opL] at h2
            refine ⟨fun e => ⟨nx_lt e, ?_⟩, fun e => ?_⟩
            · rw [if_pos e] at h2
              rw [show 1025 - (k + 1) = 1024 - k by omega]; exact h2
            · rw [if_neg (by rw [e]; exact Bool.false_ne_true)] at h2; exact h2
          obtain ⟨NX, hNX⟩ : ∃ NX, nxD bn room k last bs = NX := ⟨_, rfl⟩
          have HN := Lib.hid (HOs.out NX hNX)
          rw [hNX] at hF hT ⊢
          clear hNX HOs
          obtain ⟨b9, H9, S9⟩ := NX
          cases b9 with
          | true =>
            obtain ⟨hv', hst', hok', hsl'⟩ := hT rfl
            have HSt' := Lib.hid hst'
            have hlt : k < 1024 := (HN.out.1 rfl).1
            have HO3 := Lib.hid (HN.out.1 rfl).2
            clear hF hT hst' hok'
            go_wp2
            go_roundw
            case rel => exact ⟨k + 1, S9, hv', hs ++ [H9], by omega, hsl', by rw [List.length_append, Hhs.out]; rfl, HSt', HO3⟩
            case measure =>
              have c4' := (HSt'.out.cells hsl').2.2.1
              rw [c4', C4.out]
              simp; omega
          | false =>
            obtain ⟨hv', hst'⟩ := hF rfl
            have HSt' := Lib.hid hst'
            have HE : Hid (OP = (k, last, hs)) := (HN.out.2 rfl).symm
            clear hF hT hst'
            obtain ⟨ls, hls⟩ : ∃ ls : Array Value, ls.toList = lgCells (.slice A bl c) (.slice PA wl pc) bn room k last := ⟨_, rfl⟩
            have hlz : ls.size = 37 := by rw [← Array.length_toList, hls]; exact lg_len hll
            have hln : ¬ ls = #[] := by intro h; rw [h] at hlz; simp at hlz
            have hli : (Tryd.prog.info? 36).map (·.size) = some ls.size := by rw [hlz]; kernel_rfl
            have Hls := Lib.hid hls
            have HR2 : Hid (Blk w2 (w.heap.size + 1) 36 (lgCells (.slice none 0 0) (.slice none 0 0) 0 0 0 z32)) := HR1.out.keep HSt'.out.kp
            have hrg : Hid (w2.rangeAt G 0 ls.toList) := range_of HSt'.out.blk 0 ls.toList (by rw [hls, lg_len hll, List.drop_zero, rd_lg, List.take_left' (lg_len hll)])
            have c38 := (HSt'.out.cells hll).2.2.2.2
            obtain ⟨Ah, ch, rfl, hch, hmh, hrh⟩ := own_form HSt'.out.own
            clear hls hrh hch hmh
            go_upto_region 5 with fail
            letI iM : _root_.Go.Proofs.YtbomnldpmkedbaaDoor.G.Mk := ⟨some (w.heap.size + 1)⟩
            refine _root_.Go.Proofs.YtbomnldpmkedbaaDoor.G.wp_region_tree (.take [0,1,2,3] (.force [4] .done)) [5] (by kernel_rfl) (by kernel_rfl) (fun w5 k5 => ?_)
            have hneG : _root_.Go.Proofs.YtbomnldpmkedbaaDoor.G.Mk.m ≠ some G := fun e => by have e2 : w.heap.size + 1 = G := Option.some.inj e; omega
            have b38 := _root_.Go.Proofs.YtbomnldpmkedbaaDoor.G.aftG_cell (keep_cell k5 c38) hneG
            have hrg5 : Hid (w5.rangeAt G 0 ls.toList) := fun j v hv => keep_cell k5 (hrg.out j v hv)
            have HK5 := Lib.hid (keep_trans HSt'.out.kp k5)
            have Own5 := Lib.hid (own_keep HSt'.out.own k5)
            obtain ⟨w8, hst, hb8, hg8⟩ := run_store_blk (P := Tryd.prog) ls.toList (HR2.out.keep k5) (by rw [lg_len rfl, Array.length_toList, hlz]) (by rw [Hls.out]; exact one_lg _ _ _ _ _ _ (by rfl) (by rfl))
            have Hb8 := Lib.hid hb8; have Hg8 := Lib.hid hg8
            clear hb8 hg8 k5 c38
            refine _root_.Go.Proofs.YtbomnldpmkedbaaDoor.G.mt_take w5 (_root_.Go.Proofs.YtbomnldpmkedbaaDoor.G.Gr.refl _) ?_
            simp only [pick_cons, pick_nil, nth_zero, nth_succ]
            go_big_quiet_step (fail)
            (with_reducible refine wpQuiet_load_partG G 0 ls (Eq.trans ?_ rfl) hrg5.out hneG _ Tryd.underlying36 rfl hli ?_)
            rfl
            simp only [Act.put, Array.set!_eq_setIfInBounds, List.setIfInBounds_toArray, List.set_cons_succ, List.set_cons_zero]
            repeat (go_big_quiet_step (fail))
            refine wpQuiet_nil (_root_.Go.Proofs.YtbomnldpmkedbaaDoor.G.mt_force ?_)
            simp only [pick_cons, pick_nil, nth_zero, nth_succ]
            refine _root_.Go.Proofs.YtbomnldpmkedbaaDoor.G.fc_step rfl (fun K hK => ?_)
            go_simp
            refine hK _ _ (show _root_.Go.Proofs.YtbomnldpmkedbaaDoor.G.Gr w5 w8 from Hg8.out) ?_
            clear hK K
            refine _root_.Go.Proofs.YtbomnldpmkedbaaDoor.G.fc_nil (_root_.Go.Proofs.YtbomnldpmkedbaaDoor.G.mt_end ?_)
            clear b38 hneG
            clear iM
            go_wp2
            have hb8 := Hb8.out
            have hkc : Keep w w5 := keep_trans HK1.out HK5.out
            rw [HE.out]
            refine bodyPost_ret (v := .tuple #[.agg ls, .slice Ah hs.length ch]) (results_cell_tmp_row Tryd.results36 _ _ (w.heap.size + 1) _ _ _ _ rfl hb8 Tryd.underlying36 rfl (by rw [List.size_toArray, Array.length_toList]; exact hli)) rfl ⟨ls, _, rfl, Hls.out, ?_, hkc.grown Hg8.out hkc.size (fun q hq => by injection hq with hq; omega)⟩
            exact own_lowH (Own5.out.kept Hg8.out (.inr (fun e => by have h1 := (Own5.out.lt _ e).1; omega))) (by omega)
end Go.Proofs.YtbomnldpmkedbaaDoor

namespace Go.Proofs.YtbomnldpmkedbaaDoor
open Go.RowKit
attribute [local go_sem ↓] Go.wp_at_zero Go.wp_at_succ

theorem lg_d {d0 d1 : Value} {base room n : Int} {last : List UInt8} {w : World} {g : Nat} {t : TypeId} (hb : Blk w g t (lgCells d0 d1 base room n last)) :
    w.cell? ⟨g, 0, none⟩ = some d0 ∧ w.cell? ⟨g, 1, none⟩ = some d1 ∧ w.cell? ⟨g, 2, none⟩ = some (.int .i64 base) ∧ w.cell? ⟨g, 3, none⟩ = some (.int .i64 room) ∧ w.cell? ⟨g, 4, none⟩ = some (.int .i64 n) :=
  ⟨(hb.cell 0).trans rfl, (hb.cell 1).trans rfl, (hb.cell 2).trans rfl, (hb.cell 3).trans rfl, (hb.cell 4).trans rfl⟩
/-- What a walk has to know of a log as a value. -/
structure LogA (l : List Value) (cs : Array Value) : Prop where
  l : cs.toList = l
  z : cs.size = 37
  i : (Tryd.prog.info? 36).map (·.size) = some cs.size
  n : ¬ cs = #[]
  o : ∀ v ∈ cs.toList, v.oneCell' = true
theorem LogA.of {A : Option Addr} {n c : Nat} {PA : Option Addr} {m pc : Nat} {base room k : Int} {last : List UInt8} {cs : Array Value} (hl : last.length = 32) (h : cs.toList = lgCells (.slice A n c) (.slice PA m pc) base room k last) : LogA (lgCells (.slice A n c) (.slice PA m pc) base room k last) cs := by
  have hz : cs.size = 37 := by rw [← Array.length_toList, h]; exact lg_len hl
  exact ⟨h, hz, by rw [hz]; kernel_rfl, (fun e => by rw [e] at hz; simp at hz), by rw [h]; exact one_lg _ _ _ _ _ _ rfl rfl⟩
noncomputable def zlog : Array Value := match (Tryd.prog.info? 36).bind (·.zero) with | some (.agg c) => c | _ => #[]
theorem zlog_size : zlog.size = 37 := by kernel_rfl
theorem zlog_zero (w : World) : (zeroValue 36).run Tryd.prog w = .ok (.agg zlog) w := by kernel_rfl
theorem zlog_letter : ∃ zs : Array Value, zs.size = 37 ∧ (∀ w, (zeroValue 36).run Tryd.prog w = .ok (.agg zs) w) ∧ ¬ zs = #[] :=
  ⟨zlog, zlog_size, zlog_zero, fun h => by have := zlog_size; rw [h] at this; cases this⟩
theorem opL_len (bn : Nat) (room : Int) (bs : List UInt8) : ∀ (f k : Nat) (last : List UInt8) (hs : List Hd), last.length = 32 → (opL bn room bs f k last hs).2.1.length = 32
  | 0, k, last, hs, h => h
  | f + 1, k, last, hs, h => by
    rw [opL]
    split
    · rename_i h1
      refine opL_len bn room bs f _ _ _ ?_
      unfold nxD at h1 ⊢
      split
      · exact (take_ok last k _ rfl).2
      · rename_i h2; rw [if_neg h2] at h1; cases h1
    · exact h
theorem openL_len (base room : Int) (bs : List UInt8) : (openL base room bs).2.1.length = 32 := by
  unfold openL; split
  · rfl
  · exact opL_len _ _ _ _ _ _ _ rfl

set_option maxRecDepth 100000 in
set_option maxHeartbeats 3000000 in
theorem jtaken_any (A : Option Addr) (b : List UInt8) (c : Nat) (PA : Option Addr) (ws : List WriteR) (pc : Nat) (base room n : Int) (last : List UInt8) (ls : Array Value) (w : World) (h : DOk w A b c PA ws pc) (hS : ShaOk w) (hb1 : -9223372036854775808 ≤ base ∧ base ≤ 9223372036854775807)
    (hls : LogA (lgCells (.slice A b.length c) (.slice PA ws.length pc) base room n last) ls) :
    Calls Tryd.prog 58 #[.agg ls] w fun e w' => ∃ cs, e = .returned (.agg cs) ∧ LogA (lgCells (.slice A b.length c) (.slice PA ws.length pc) base room ((openL base room (bytesD b ws)).1 : Nat) (openL base room (bytesD b ws)).2.1) cs ∧ Keep w w' := by
  have O1 : Hid (∀ w', Keep w w' → Calls Tryd.prog 36 #[DV A b.length c PA ws.length pc, .int .i64 base, .int .i64 room] w' fun e w'' => ∃ cs hv, e = .returned (.tuple #[.agg cs, hv]) ∧
      LogA (lgCells (.slice A b.length c) (.slice PA ws.length pc) base room ((openL base room (bytesD b ws)).1 : Nat) (openL base room (bytesD b ws)).2.1) cs ∧ (∃ Ah nh ch, hv = .slice Ah nh ch) ∧ Keep w' w'') := fun w' hk =>
    (open_any A b c PA ws pc base room w' (h.keep hk) (hS.keep hk) hb1).mono fun e w'' ⟨cs, hv, h1, h2, h3, h4⟩ => ⟨cs, hv, h1, LogA.of (openL_len _ _ _) h2, (by obtain ⟨Ah, ch, h5, _⟩ := own_form h3; exact ⟨Ah, _, ch, h5⟩), h4⟩
  generalize openL base room (bytesD b ws) = OP at *
  obtain ⟨zs, hz1, hz2, hz3⟩ := zlog_letter
  have hlz := hls.z; have hln := hls.n
  have Hls := Lib.hid hls
  clear hls h hS
  generalize b.length = bl at *
  generalize ws.length = wl at *
  go_enter Tryd.func58, Tryd.ntmps58
  go_upto_region 1 with fail
  obtain ⟨w1, hw1⟩ : ∃ w1, w1 = (w.alloc (.cells ls 36)).alloc (.cells zs 36) := ⟨_, rfl⟩
  have HL1 : Hid (Blk w1 w.heap.size 36 (lgCells (.slice A bl c) (.slice PA wl pc) base room n last)) := by rw [hw1, ← Hls.out.l]; exact (Blk.new w _ ls.toList).alloc _
  have HR1 : Hid (Blk w1 (w.heap.size + 1) 36 zs.toList) := by
    rw [hw1]
    have h1 := Blk.new (w.alloc (.cells ls 36)) 36 zs.toList
    rw [World.size_alloc] at h1
    exact h1
  have HK1 : Hid (Keep w w1) := by rw [hw1]; exact keep_trans (keep_new _ _) (keep_new _ _)
  rw [← hw1]
  clear hw1
  obtain ⟨c0, c1, c2, c3, c4⟩ := lg_d HL1.out
  go_wp2_with fail
  refine (O1.out w1 HK1.out).mono ?_
  rintro e w2 ⟨cs, hv, rfl, hcs, ⟨Ah, nh, ch, rfl⟩, k2⟩
  have hcz := hcs.z; have hcn := hcs.n; have hci := hcs.i
  have Hcs := Lib.hid hcs
  have HR2 := Lib.hid (HR1.out.keep k2)
  have HK2 := Lib.hid (keep_trans HK1.out k2)
  have hst2 : (storeCells ⟨w2.heap.size, 0, none⟩ cs.toList 0).run Tryd.prog (w2.alloc (.cells zs 36)) = .ok () (w2.alloc (.cells cs 36)) := run_storeCells_new (P := Tryd.prog) w2 36 zs cs hci (hz1.trans hcz.symm) (by have := all_oneCell_toArray Hcs.out.o; rwa [Array.toArray_toList] at this)
  clear hcs k2 c0 c1 c2 c3 c4
  go_upto_region 2 with fail
  have HB3 : Hid (Blk (w2.alloc (.cells cs 36)) w2.heap.size 36 cs.toList) := Blk.new w2 _ cs.toList
  have HR3 : Hid (Blk (w2.alloc (.cells cs 36)) (w.heap.size + 1) 36 zs.toList) := HR2.out.alloc _
  have HK3 : Hid (Keep w (w2.alloc (.cells cs 36))) := keep_trans HK2.out (keep_new _ _)
  generalize w2.alloc (.cells cs 36) = w3 at HB3 HR3 HK3 ⊢
  clear hst2
  obtain ⟨w8, hst, hb8, hg8⟩ := run_store_blk (P := Tryd.prog) cs.toList HR3.out (by simp [hz1, hcz]) Hcs.out.o
  have Hb8 := Lib.hid hb8; have Hg8 := Lib.hid hg8
  clear hb8 hg8
  generalize w2.heap.size = X at HB3 ⊢
  go_wp2_with ((with_reducible refine load_arr X cs (Eq.trans ?_ rfl) HB3.out _ Tryd.underlying36 rfl hci ?_); rfl)
  have hb8 := Hb8.out
  exact bodyPost_ret (v := .agg cs) (results_cell_row Tryd.results58 _ _ (w.heap.size + 1) _ _ _ _ rfl hb8 Tryd.underlying36 rfl (by rw [List.size_toArray, Array.length_toList]; exact hci)) rfl ⟨cs, rfl, Hcs.out, HK3.out.grown Hg8.out HK3.out.size (fun q hq => by injection hq with hq; omega)⟩
end Go.Proofs.YtbomnldpmkedbaaDoor

namespace Go.Proofs.YtbomnldpmkedbaaDoor
open Go.RowKit
attribute [local go_sem ↓] Go.wp_at_zero Go.wp_at_succ

set_option maxRecDepth 100000 in
set_option maxHeartbeats 2000000 in
theorem sync_own (A : Option Addr) (b : List UInt8) (c : Nat) (PA : Option Addr) (ws : List WriteR) (pc : Nat) (w : World) (h : DOk w A b c PA ws pc) :
    Calls Tryd.prog 62 #[DV A b.length c PA ws.length pc] w fun e w' => ∃ A' c', e = .returned (DV A' (bytesD b ws).length c' none 0 0) ∧ w'.ownsRow w.heap.size 5 1 (.slice A' (bytesD b ws).length c') (bytesD b ws).length ((bytesD b ws).map u8v) ∧ Keep w w' := by
  go_enter Tryd.func62, Tryd.ntmps62
  go_wp2_with fail
  refine (bytes_any _ _ _ _ _ _ _ (h.keep (((Below.refl _ _).alloc (Nat.le_refl _) _).alloc (by simp) _))).mono ?_
  rintro e w2 ⟨v, rfl, hown, hk2⟩
  have r0 : w2.cell? ⟨w.heap.size + 1, 0, none⟩ = some (.slice none 0 0) := keep_cell hk2 (by go_simp)
  have r1 : w2.cell? ⟨w.heap.size + 1, 1, none⟩ = some (.slice none 0 0) := keep_cell hk2 (by go_simp)
  have g0 : w2.frozen? ⟨w.heap.size + 1, 0, none⟩ = false := keep_frozen hk2 (by simp) (by go_simp)
  have g1 : w2.frozen? ⟨w.heap.size + 1, 1, none⟩ = false := keep_frozen hk2 (by simp) (by go_simp)
  have k2 : Keep w w2 := keep_trans (((Below.refl _ _).alloc (Nat.le_refl _) _).alloc (by simp) _) hk2
  obtain ⟨A2, c2, rfl, hc2, hm2, hrd2⟩ := own_form hown
  go_wp2_with fail
  unfold maxLen at hm2
  refine bodyPost_ret (v := DV A2 (bytesD b ws).length c2 none 0 0) (by simp [results, Tryd.results62, go_sem, r0, r1, g0, g1]) rfl ⟨A2, c2, rfl, ?_, ?_⟩
  · have ho9 := ownsRow_setCell_below (ownsRow_setCell_below hown (a := ⟨w.heap.size + 1, 0, none⟩) (by simp) (.slice A2 (bytesD b ws).length c2)) (a := ⟨w.heap.size + 1, 1, none⟩) (by simp) (.slice none 0 0)
    exact own_lowH ho9 (by simp; omega)
  · exact (k2.setCell (by simp) _).setCell (by simp) _

theorem lg_setD (d0 d1 e0 e1 : Value) (base room n : Int) (last : List UInt8) : ((lgCells d0 d1 base room n last).set 0 e0).set 1 e1 = lgCells e0 e1 base room n last := rfl

set_option maxRecDepth 100000 in
set_option maxHeartbeats 3000000 in
theorem jsync_any (A : Option Addr) (b : List UInt8) (c : Nat) (PA : Option Addr) (ws : List WriteR) (pc : Nat) (base room n : Int) (last : List UInt8) (ls : Array Value) (w : World) (h : DOk w A b c PA ws pc) (hS : ShaOk w) (hb1 : -9223372036854775808 ≤ base ∧ base ≤ 9223372036854775807)
    (hls : LogA (lgCells (.slice A b.length c) (.slice PA ws.length pc) base room n last) ls) :
    Calls Tryd.prog 46 #[.agg ls] w fun e w' => ∃ A' c' cs, e = .returned (.agg cs) ∧ LogA (lgCells (.slice A' (bytesD b ws).length c') (.slice none 0 0) base room ((openL base room (bytesD b ws)).1 : Nat) (openL base room (bytesD b ws)).2.1) cs ∧
      w'.ownsRow w.heap.size 5 1 (.slice A' (bytesD b ws).length c') (bytesD b ws).length ((bytesD b ws).map u8v) ∧ Keep w w' := by
  have T1 : Hid (∀ w', Keep w w' → Calls Tryd.prog 58 #[.agg ls] w' fun e w'' => ∃ cs, e = .returned (.agg cs) ∧ LogA (lgCells (.slice A b.length c) (.slice PA ws.length pc) base room ((openL base room (bytesD b ws)).1 : Nat) (openL base room (bytesD b ws)).2.1) cs ∧ Keep w' w'') := fun w' hk => jtaken_any A b c PA ws pc base room n last ls w' (h.keep hk) (hS.keep hk) hb1 hls
  have D1 : Hid (∀ w', Keep w w' → Calls Tryd.prog 62 #[DV A b.length c PA ws.length pc] w' fun e w'' => ∃ A' c', e = .returned (DV A' (bytesD b ws).length c' none 0 0) ∧ w''.ownsRow w'.heap.size 5 1 (.slice A' (bytesD b ws).length c') (bytesD b ws).length ((bytesD b ws).map u8v) ∧ Keep w' w'') := fun w' hk => sync_own A b c PA ws pc w' (h.keep hk)
  have hll : Hid ((openL base room (bytesD b ws)).2.1.length = 32) := openL_len _ _ _
  generalize openL base room (bytesD b ws) = OP at *
  generalize bytesD b ws = bs at *
  obtain ⟨zs, hz1, hz2, hz3⟩ := zlog_letter
  have hlz := hls.z; have hln := hls.n; have hli := hls.i
  have Hls := Lib.hid hls
  clear hls h hS
  generalize b.length = bl at *
  generalize ws.length = wl at *
  go_enter Tryd.func46, Tryd.ntmps46
  go_upto_region 1 with fail
  obtain ⟨w1, hw1⟩ : ∃ w1, w1 = (w.alloc (.cells ls 36)).alloc (.cells zs 36) := ⟨_, rfl⟩
  have HL1 : Hid (Blk w1 w.heap.size 36 ls.toList) := by rw [hw1]; exact (Blk.new w _ ls.toList).alloc _
  have HR1 : Hid (Blk w1 (w.heap.size + 1) 36 zs.toList) := by
    rw [hw1]
    have h1 := Blk.new (w.alloc (.cells ls 36)) 36 zs.toList
    rw [World.size_alloc] at h1
    exact h1
  have HK1 : Hid (Keep w w1) := by rw [hw1]; exact keep_trans (keep_new _ _) (keep_new _ _)
  have hz11 : w.heap.size + 2 ≤ w1.heap.size := by rw [hw1]; simp
  rw [← hw1]
  clear hw1
  go_wp2_with ((with_reducible refine load_arr w.heap.size ls (Eq.trans ?_ rfl) HL1.out _ Tryd.underlying36 rfl hli ?_); rfl)
  refine (T1.out w1 HK1.out).mono ?_
  rintro e w2 ⟨cs, rfl, hcs, k2⟩
  have hcz := hcs.z; have hcn := hcs.n; have hci := hcs.i
  have Hcs := Lib.hid hcs
  have HR2 := Lib.hid (HR1.out.keep k2)
  have HK2 := Lib.hid (keep_trans HK1.out k2)
  obtain ⟨w3, hst, hb3, hg3⟩ := run_store_blk (P := Tryd.prog) cs.toList (HL1.out.keep k2) (by simp [hlz, hcz]) Hcs.out.o
  rw [Hcs.out.l] at hb3
  have HB3 := Lib.hid hb3; have HR3 := Lib.hid (HR2.out.grown hg3 (fun e => by have e2 : w.heap.size = w.heap.size + 1 := Option.some.inj e; omega))
  have HK3 : Hid (Keep w w3) := HK2.out.grown hg3 HK2.out.size (fun q hq => by injection hq with hq; omega)
  have hz3' : w1.heap.size ≤ w3.heap.size := Nat.le_trans k2.size hg3.size
  clear hcs k2 hb3 hg3
  go_upto_region 2 with fail
  obtain ⟨c0, c1, c2, c3, c4⟩ := lg_d HB3.out
  go_wp2_with fail
  refine (D1.out w3 HK3.out).mono ?_
  rintro e w4 ⟨A4, c4', rfl, own4, k4⟩
  have HB4 := Lib.hid (HB3.out.keep k4); have HR4 := Lib.hid (HR3.out.keep k4)
  have HK4 := Lib.hid (keep_trans HK3.out k4)
  have Own4 := Lib.hid own4
  clear c0 c1 c2 c3 c4 own4 k4
  obtain ⟨c0, c1, c2, c3, c4⟩ := lg_d HB4.out
  have f0 := HB4.out.frozen 0; have f1 := HB4.out.frozen 1
  go_upto_region 3 with fail
  obtain ⟨w5, hw5⟩ : ∃ w5, w5 = (w4.setCell ⟨w.heap.size, 0, none⟩ (.slice A4 bs.length c4')).setCell ⟨w.heap.size, 1, none⟩ (.slice none 0 0) := ⟨_, rfl⟩
  have HB5 : Hid (Blk w5 w.heap.size 36 (lgCells (.slice A4 bs.length c4') (.slice none 0 0) base room (OP.1 : Nat) OP.2.1)) := by
    rw [hw5, ← lg_setD (.slice A bl c) (.slice PA wl pc)]; exact (HB4.out.set_ 0 _).set_ 1 _
  have HR5 : Hid (Blk w5 (w.heap.size + 1) 36 zs.toList) := by rw [hw5]; exact (HR4.out.far (by simp) _).far (by simp) _
  have HK5 : Hid (Keep w w5) := by rw [hw5]; exact (HK4.out.setCell (by simp) _).setCell (by simp) _
  have hg5 : w4.grownBy w5 (some w.heap.size) := by rw [hw5]; exact grown_set (grown_set (grown_refl _ _))
  have Own5 := Lib.hid (Own4.out.kept hg5 (.inr (fun e => by have h1 := (Own4.out.lt _ e).1; omega)))
  rw [← hw5]
  clear hw5 hg5 c0 c1 c2 c3 c4 f0 f1
  obtain ⟨fs, hfs⟩ : ∃ fs : Array Value, fs.toList = lgCells (.slice A4 bs.length c4') (.slice none 0 0) base room (OP.1 : Nat) OP.2.1 := ⟨_, rfl⟩
  have hfA := LogA.of hll.out hfs
  have hfz := hfA.z; have hfn := hfA.n; have hfi := hfA.i
  have HfA := Lib.hid hfA
  have HB6 : Hid (Blk w5 w.heap.size 36 fs.toList) := by rw [hfs]; exact HB5.out
  clear hfA hfs
  obtain ⟨w8, hst8, hb8, hg8⟩ := run_store_blk (P := Tryd.prog) fs.toList HR5.out (by simp [hz1, hfz]) HfA.out.o
  have Hb8 := Lib.hid hb8; have Hg8 := Lib.hid hg8
  clear hb8 hg8 hst
  go_wp2_with ((with_reducible refine load_arr w.heap.size fs (Eq.trans ?_ rfl) HB6.out _ Tryd.underlying36 rfl hfi ?_); rfl)
  have hb8 := Hb8.out
  exact bodyPost_ret (v := .agg fs) (results_cell_row Tryd.results46 _ _ (w.heap.size + 1) _ _ _ _ rfl hb8 Tryd.underlying36 rfl (by rw [List.size_toArray, Array.length_toList]; exact hfi)) rfl ⟨A4, c4', fs, rfl, HfA.out, own_lowH (Own5.out.kept Hg8.out (.inr (fun e => by have h1 := (Own5.out.lt _ e).1; omega))) (by omega), HK5.out.grown Hg8.out HK5.out.size (fun q hq => by injection hq with hq; omega)⟩
end Go.Proofs.YtbomnldpmkedbaaDoor
