/- One record more is read. -/
import Derived.Test.YtielojlhdnimgaaDoorJrnD
set_option linter.unusedSimpArgs false
set_option linter.unusedVariables false
namespace Go.Proofs.YtielojlhdnimgaaDoor
open Go.RowKit
attribute [local go_sem ↓] Go.wp_at_zero Go.wp_at_succ

theorem grown_trans2 {a b c : World} {row : Option Nat} (h : a.grownBy b row) (g : b.grownBy c row) : a.grownBy c row := World.grownBy.trans h g
/-- What comes of one more. -/
def NxPost (w0 : World) (G : Nat) (d0 d1 : Value) (bn : Nat) (room : Int) (k : Nat) (last : List UInt8) (A : Option Addr) (bs : List UInt8) (c : Nat) (hs : List Hd) (NX : Bool × Hd × List UInt8) (e : Ending) (w' : World) : Prop :=
  e = .returned (.bool NX.1) ∧ (NX.1 = false → ∃ hv', RSt w0 w' G d0 d1 bn room k last A bs c hv' hs) ∧ (NX.1 = true → ∃ hv', RSt w0 w' G d0 d1 bn room (k + 1) NX.2.2 A bs c hv' (hs ++ [NX.2.1]) ∧ NX.2.1.ok ∧ NX.2.2.length = 32)
theorem RSt.cells {w0 w : World} {G : Nat} {d0 d1 : Value} {bn : Nat} {room : Int} {k : Nat} {last : List UInt8} {A : Option Addr} {bs : List UInt8} {c : Nat} {hv : Value} {hs : List Hd} (h : RSt w0 w G d0 d1 bn room k last A bs c hv hs) (hl : last.length = 32) :
    w.cell? ⟨G, 2, none⟩ = some (.int .i64 bn) ∧ w.cell? ⟨G, 3, none⟩ = some (.int .i64 room) ∧ w.cell? ⟨G, 4, none⟩ = some (.int .i64 k) ∧ w.cell? ⟨G, 37, none⟩ = some (.slice A bs.length c) ∧ w.cell? ⟨G, 38, none⟩ = some hv :=
  ⟨(h.blk.cell 2).trans rfl, (h.blk.cell 3).trans rfl, (h.blk.cell 4).trans rfl, (h.blk.cell 37).trans (rdCells_37 hl), (h.blk.cell 38).trans (rdCells_38 hl)⟩

theorem take_ok (last : List UInt8) (seq : Int) (b : List UInt8) {ok : Bool} {H : Hd} {S : List UInt8} (h : takeD last seq b = (ok, H, S)) : H.ok ∧ S.length = 32 := by
  unfold takeD at h
  split at h
  · rename_i hb
    injection h with h1 h2; injection h2 with h2 h3
    subst h2 h3
    exact ⟨hgetL_ok (by rw [List.length_take, List.length_drop]; omega), by rw [List.length_drop]; omega⟩
  · injection h with h1 h2; injection h2 with h2 h3
    subst h2 h3
    exact ⟨⟨rfl, rfl⟩, rfl⟩

set_option maxRecDepth 100000 in
set_option maxHeartbeats 6000000 in
theorem next_any (w0 w : World) (G : Nat) (d0 d1 : Value) (bn : Nat) (room : Int) (k : Nat) (last : List UInt8) (A : Option Addr) (bs : List UInt8) (c : Nat) (hv : Value) (hs : List Hd) (st : RSt w0 w G d0 d1 bn room k last A bs c hv hs)
    (hll : last.length = 32) (hbn : bn ≤ 5000) (hk : k ≤ 1024) (hbl : bs.length ≤ 1000000) (hbc : bs.length ≤ c) (hcm : c ≤ maxLen) (hhs : hs.length ≤ 2000) (hS : ShaOk w0) :
    Calls Tryd.prog 35 #[.pointer (some ⟨G, 0, none⟩)] w (NxPost w0 G d0 d1 bn room k last A bs c hs (nxD bn room k last bs)) := by
  unfold maxLen at hcm
  have St := Lib.hid st; have HS := Lib.hid hS
  obtain ⟨B, hBn⟩ : ∃ B, (bn + 4 * k) * 32 = B := ⟨_, rfl⟩
  have hB : ((bn : Int) + 4 * (k : Int)) * 32 = (B : Int) := by omega
  have HNX : Hid (nxD bn room k last bs = if k < roomN room ∧ B + 128 ≤ bs.length then takeD last k ((bs.drop B).take 128) else (false, zHd, z32)) := by rw [← hBn]; rfl
  have hB2 : B ≤ 400000 := by omega
  clear st hS hBn
  obtain ⟨NX, hNX⟩ : ∃ NX, nxD bn room k last bs = NX := ⟨_, rfl⟩
  rw [hNX] at HNX ⊢
  clear hNX
  by_cases q1 : k < roomN room
  · by_cases q2 : B + 128 ≤ bs.length
    · have HX : Hid (NX = takeD last k ((bs.drop B).take 128)) := HNX.out.trans (if_pos ⟨q1, q2⟩)
      have r1 : ¬ ((roomN room : Nat) : Int) ≤ (k : Int) := by omega
      have r2 : ¬ (bs.length : Int) < (B : Int) + 128 := by omega
      go_enter Tryd.func35, Tryd.ntmps35
      go_upto_region 1 with fail
      obtain ⟨c2, c3, c4, c37, c38⟩ := St.out.cells hll
      have a2 := aft_cell c2; have a4 := aft_cell c4
      refine wp_region_aft (by kernel_rfl) (by kernel_rfl) w (Below.refl _ _) ?_
      repeat (go_big_quiet_step (fail))
      refine wpQuiet_nil ?_
      rintro _ ⟨z, rfl⟩
      have j1 := aft_keep w z
      generalize aft w z = w1 at j1 ⊢
      have St1 := Lib.hid (St.out.keep j1)
      clear a2 a4 c2 c3 c4 c37 c38 j1
      obtain ⟨c2, c3, c4, c37, c38⟩ := St1.out.cells hll
      go_upto_region 3 with fail
      have a3 := aft_cell c3; have a4 := aft_cell c4; have a37 := aft_cell c37
      refine wp_region_aft (by kernel_rfl) (by kernel_rfl) w1 (Below.refl _ _) ?_
      repeat (go_big_quiet_step ((go_at_call 29; exact quiet_aft_same (records_any _ _))))
      refine wpQuiet_nil ?_
      rintro _ ⟨z2, rfl⟩
      have j2 := aft_keep w1 z2
      generalize aft w1 z2 = w2 at j2 ⊢
      have St2 := Lib.hid (St1.out.keep j2)
      clear a3 a4 a37 c2 c3 c4 c37 c38 j2
      go_upto_region 5 with fail
      obtain ⟨ls, hls⟩ : ∃ ls, HashA last ls := ⟨_, HashA.of hll⟩
      have hlz := hls.z; have hln := hls.n; have hli := hls.i
      obtain ⟨sz, hSZ, szz⟩ := zhash_A
      obtain ⟨hz, hHZ, hzz⟩ := zhead_A
      have szs := hSZ.z; have szn := hSZ.n
      have hzs := hHZ.z; have hzn := hHZ.n
      have HZ := Lib.hid hHZ
      have Hls := Lib.hid hls
      obtain ⟨b, off, rfl, hb, _⟩ := St2.out.rdG.rd.at (k := 0) (by simp; omega)
      have T1 : Hid (∀ w', Keep w2 w' → Calls Tryd.prog 20 #[.agg ls, .int .i64 k, .slice (some ⟨b, off + B, none⟩) 128 (c - B)] w' fun e w'' => ∃ hv sv, e = .returned (.tuple #[.agg hv, .agg sv, .bool (takeD last k ((bs.drop B).take 128)).1]) ∧ HdA (takeD last k ((bs.drop B).take 128)).2.1 hv ∧ HashA (takeD last k ((bs.drop B).take 128)).2.2 sv ∧ Keep w' w'') := fun w' hk' => by
        have h1 := (St2.out.rdG.rd.keep hk').sub B 128 (by rw [List.length_map]; omega)
        rw [← List.map_drop, ← List.map_take] at h1
        have hl : ((bs.drop B).take 128).length = 128 := by rw [List.length_take, List.length_drop]; omega
        have h2 := take_any last ls k _ ((bs.drop B).take 128) (c - B) w' Hls.out hll h1 (by omega) (by unfold maxLen; omega) (HS.out.keep (keep_trans St2.out.kp hk'))
        rw [hl] at h2
        exact h2
      have HT : Hid (∀ ok H S, takeD last k ((bs.drop B).take 128) = (ok, H, S) → NX = (ok, H, S)) := fun ok H S e => by rw [HX.out, e]
      have HTl : Hid (∀ ok H S, takeD last k ((bs.drop B).take 128) = (ok, H, S) → H.ok ∧ S.length = 32) := fun ok H S e => take_ok last k _ e
      obtain ⟨ok, H, S, hTK⟩ : ∃ ok H S, takeD last k ((bs.drop B).take 128) = (ok, H, S) := ⟨_, _, _, rfl⟩
      have HT2 := Lib.hid (HT.out _ _ _ hTK); have HT3 := Lib.hid (HTl.out _ _ _ hTK)
      rw [hTK] at T1
      simp only at T1
      clear hls hSZ hHZ HX HT HTl hTK HNX
      obtain ⟨c2, c3, c4, c37, c38⟩ := St2.out.cells hll
      have hrg : w2.rangeAt G 5 ls.toList := range_of St2.out.blk 5 ls.toList (by rw [Hls.out.l, List.length_map, hll]; exact rdCells_last hll)
      have Hrg := Lib.hid hrg; clear hrg
      generalize hwr : w2 = wr at *
      go_cut [5, 6, 7] (fun s5 s6 s7 wx => ∃ p5 p6 tv sv, s5 = .pointer (some ⟨p5, 0, none⟩) ∧ s6 = .pointer (some ⟨p6, 0, none⟩) ∧ s7 = .bool ok ∧ wr.heap.size ≤ p5 ∧ wr.heap.size ≤ p6 ∧ Hid (Blk wx p5 44 tv.toList) ∧ Hid (Blk wx p6 33 sv.toList) ∧ Hid (HdA H tv) ∧ Hid (HashA S sv) ∧ Keep wr wx)
      case first =>
        refine wp_region_tree (.take [0,1,2,3,4,5,6,7,8,9,10,11,12,13,14,15,16] (.fork3 17 (.take [18,19,20,21] (.fork 22 (.force [23] .done) 23 (.force [22] .done))) 22 (.fork 17 (.take [18,19,20,21] (.force [23] .done)) 23 (.force [17] (.take [18,19,20,21] .done))) 23 (.fork 17 (.take [18,19,20,21] (.force [22] .done)) 22 (.force [17] (.take [18,19,20,21] .done))))) [24,25,26] (by kernel_rfl) (by kernel_rfl) (fun x0 q0' => ?_)
        have q0 := Lib.hid q0'
        have a4 := aft_cell (keep_cell q0' c4); have a37 := aft_cell (keep_cell q0' c37)
        have hrg0 : Hid (x0.rangeAt G 5 ls.toList) := fun j v hv => keep_cell q0' (Hrg.out j v hv)
        clear q0'
        refine mt_take x0 (Below.refl _ _) ?_
        simp only [pick_cons, pick_nil, nth_zero, nth_succ]
        iterate 4 (go_big_quiet_step (fail))
        (with_reducible refine wpQuiet_load_part G 5 ls (Eq.trans ?_ rfl) hrg0.out (.array 32 5) hash_under (arr_row _ _) hli ?_)
        rfl
        simp only [Act.put, Array.set!_eq_setIfInBounds, List.setIfInBounds_toArray, List.set_cons_succ, List.set_cons_zero]
        repeat (go_big_quiet_step (fail))
        refine wpQuiet_nil ?_
        clear a4 a37
        refine mt_fork3 ?_ ?_ ?_
        · simp only [pick_cons, pick_nil, nth_zero, nth_succ]
          refine fc_step rfl (fun K hK => ?_)
          go_simp
          (with_reducible refine (T1.out x0 q0.out).mono ?_)
          rintro e x1 ⟨hv, sv, rfl, hhv, hsv, hk⟩
          refine hK _ _ hk ?_
          clear hK K
          have q1 := Lib.hid (keep_trans q0.out hk)
          have Hhv := Lib.hid hhv; have Hsv := Lib.hid hsv
          have hvz := hhv.z; have hvn := hhv.n; have svz := hsv.z; have svn := hsv.n
          clear hk hhv hsv
          refine fc_nil ?_
          refine mt_take x1 (Below.refl _ _) ?_
          simp only [pick_cons, pick_nil, nth_zero, nth_succ]
          repeat (go_big_quiet_step (fail))
          refine wpQuiet_nil ?_
          refine mt_fork ?_ ?_
          · simp only [pick_cons, pick_nil, nth_zero, nth_succ]
            refine fc_step rfl (fun K hK => ?_)
            go_simp
            refine hK _ _ (keep_new _ _) ?_
            clear hK K
            obtain ⟨x2, hx2⟩ : ∃ x, x = x1.alloc (.cells hz 44) := ⟨_, rfl⟩
            have b5_2 : Hid (Blk x2 x1.heap.size 44 hz.toList) := by rw [hx2]; exact Blk.new x1 _ hz.toList
            have hk : Keep x1 x2 := by rw [hx2]; exact keep_new _ _
            have q2 := Lib.hid (keep_trans q1.out hk)
            rw [← hx2]
            clear hx2 hk
            have lo5 : wr.heap.size ≤ x1.heap.size := q1.out.size
            have lp5_2 : x1.heap.size < x2.heap.size := b5_2.out.lt
            generalize x1.heap.size = p5 at *
            refine fc_nil ?_
            refine mt_force ?_
            simp only [pick_cons, pick_nil, nth_zero, nth_succ]
            refine fc_step rfl (fun K hK => ?_)
            go_simp
            refine hK _ _ (keep_new _ _) ?_
            clear hK K
            obtain ⟨x3, hx3⟩ : ∃ x, x = x2.alloc (.cells sz 33) := ⟨_, rfl⟩
            have b6_3 : Hid (Blk x3 x2.heap.size 33 sz.toList) := by rw [hx3]; exact Blk.new x2 _ sz.toList
            have hk : Keep x2 x3 := by rw [hx3]; exact keep_new _ _
            have q3 := Lib.hid (keep_trans q2.out hk)
            have b5_3 := Lib.hid (b5_2.out.keep hk)
            have lp5_3 := Nat.lt_of_lt_of_le lp5_2 hk.size
            rw [← hx3]
            clear hx3 hk
            have lo6 : wr.heap.size ≤ x2.heap.size := q2.out.size
            have lp6_3 : x2.heap.size < x3.heap.size := b6_3.out.lt
            generalize x2.heap.size = p6 at *
            refine fc_nil ?_
            refine mt_end ?_
            obtain ⟨wa, hsta, hba, hga⟩ := run_store_blk (P := Tryd.prog) hv.toList b5_3.out (by simp [hzs, hvz]) Hhv.out.o
            obtain ⟨wb, hstb, hbb, hgb⟩ := run_store_blk (P := Tryd.prog) sv.toList (b6_3.out.grown hga (fun e => by have e2 : p5 = p6 := Option.some.inj e; omega)) (by simp [szs, svz]) Hsv.out.o
            have hba2 := Lib.hid (hba.grown hgb (fun e => by have e2 : p6 = p5 := Option.some.inj e; omega)); have hbb2 := Lib.hid hbb; have hga2 := Lib.hid hga; have hgb2 := Lib.hid hgb
            clear hba hbb hga hgb
            go_wp2
            go_meet
            exact ⟨p5, p6, hv, sv, rfl, rfl, rfl, lo5, lo6, hba2, hbb2, Hhv, Hsv, (q3.out.grown hga2.out q3.out.size (fun q hq => by injection hq with hq; omega)).grown hgb2.out (Nat.le_trans q3.out.size hga2.out.size) (fun q hq => by injection hq with hq; omega)⟩
          · simp only [pick_cons, pick_nil, nth_zero, nth_succ]
            refine fc_step rfl (fun K hK => ?_)
            go_simp
            refine hK _ _ (keep_new _ _) ?_
            clear hK K
            obtain ⟨x2, hx2⟩ : ∃ x, x = x1.alloc (.cells sz 33) := ⟨_, rfl⟩
            have b6_2 : Hid (Blk x2 x1.heap.size 33 sz.toList) := by rw [hx2]; exact Blk.new x1 _ sz.toList
            have hk : Keep x1 x2 := by rw [hx2]; exact keep_new _ _
            have q2 := Lib.hid (keep_trans q1.out hk)
            rw [← hx2]
            clear hx2 hk
            have lo6 : wr.heap.size ≤ x1.heap.size := q1.out.size
            have lp6_2 : x1.heap.size < x2.heap.size := b6_2.out.lt
            generalize x1.heap.size = p6 at *
            refine fc_nil ?_
            refine mt_force ?_
            simp only [pick_cons, pick_nil, nth_zero, nth_succ]
            refine fc_step rfl (fun K hK => ?_)
            go_simp
            refine hK _ _ (keep_new _ _) ?_
            clear hK K
            obtain ⟨x3, hx3⟩ : ∃ x, x = x2.alloc (.cells hz 44) := ⟨_, rfl⟩
            have b5_3 : Hid (Blk x3 x2.heap.size 44 hz.toList) := by rw [hx3]; exact Blk.new x2 _ hz.toList
            have hk : Keep x2 x3 := by rw [hx3]; exact keep_new _ _
            have q3 := Lib.hid (keep_trans q2.out hk)
            have b6_3 := Lib.hid (b6_2.out.keep hk)
            have lp6_3 := Nat.lt_of_lt_of_le lp6_2 hk.size
            rw [← hx3]
            clear hx3 hk
            have lo5 : wr.heap.size ≤ x2.heap.size := q2.out.size
            have lp5_3 : x2.heap.size < x3.heap.size := b5_3.out.lt
            generalize x2.heap.size = p5 at *
            refine fc_nil ?_
            refine mt_end ?_
            obtain ⟨wa, hsta, hba, hga⟩ := run_store_blk (P := Tryd.prog) hv.toList b5_3.out (by simp [hzs, hvz]) Hhv.out.o
            obtain ⟨wb, hstb, hbb, hgb⟩ := run_store_blk (P := Tryd.prog) sv.toList (b6_3.out.grown hga (fun e => by have e2 : p5 = p6 := Option.some.inj e; omega)) (by simp [szs, svz]) Hsv.out.o
            have hba2 := Lib.hid (hba.grown hgb (fun e => by have e2 : p6 = p5 := Option.some.inj e; omega)); have hbb2 := Lib.hid hbb; have hga2 := Lib.hid hga; have hgb2 := Lib.hid hgb
            clear hba hbb hga hgb
            go_wp2
            go_meet
            exact ⟨p5, p6, hv, sv, rfl, rfl, rfl, lo5, lo6, hba2, hbb2, Hhv, Hsv, (q3.out.grown hga2.out q3.out.size (fun q hq => by injection hq with hq; omega)).grown hgb2.out (Nat.le_trans q3.out.size hga2.out.size) (fun q hq => by injection hq with hq; omega)⟩
        · simp only [pick_cons, pick_nil, nth_zero, nth_succ]
          refine fc_step rfl (fun K hK => ?_)
          go_simp
          refine hK _ _ (keep_new _ _) ?_
          clear hK K
          obtain ⟨x1, hx1⟩ : ∃ x, x = x0.alloc (.cells hz 44) := ⟨_, rfl⟩
          have b5_1 : Hid (Blk x1 x0.heap.size 44 hz.toList) := by rw [hx1]; exact Blk.new x0 _ hz.toList
          have hk : Keep x0 x1 := by rw [hx1]; exact keep_new _ _
          have q1 := Lib.hid (keep_trans q0.out hk)
          rw [← hx1]
          clear hx1 hk
          have lo5 : wr.heap.size ≤ x0.heap.size := q0.out.size
          have lp5_1 : x0.heap.size < x1.heap.size := b5_1.out.lt
          generalize x0.heap.size = p5 at *
          refine fc_nil ?_
          refine mt_fork ?_ ?_
          · simp only [pick_cons, pick_nil, nth_zero, nth_succ]
            refine fc_step rfl (fun K hK => ?_)
            go_simp
            (with_reducible refine (T1.out x1 q1.out).mono ?_)
            rintro e x2 ⟨hv, sv, rfl, hhv, hsv, hk⟩
            refine hK _ _ hk ?_
            clear hK K
            have q2 := Lib.hid (keep_trans q1.out hk)
            have b5_2 := Lib.hid (b5_1.out.keep hk)
            have Hhv := Lib.hid hhv; have Hsv := Lib.hid hsv
            have hvz := hhv.z; have hvn := hhv.n; have svz := hsv.z; have svn := hsv.n
            have lp5_2 := Nat.lt_of_lt_of_le lp5_1 hk.size
            clear hk hhv hsv
            refine fc_nil ?_
            refine mt_take x2 (Below.refl _ _) ?_
            simp only [pick_cons, pick_nil, nth_zero, nth_succ]
            repeat (go_big_quiet_step (fail))
            refine wpQuiet_nil ?_
            refine mt_force ?_
            simp only [pick_cons, pick_nil, nth_zero, nth_succ]
            refine fc_step rfl (fun K hK => ?_)
            go_simp
            refine hK _ _ (keep_new _ _) ?_
            clear hK K
            obtain ⟨x3, hx3⟩ : ∃ x, x = x2.alloc (.cells sz 33) := ⟨_, rfl⟩
            have b6_3 : Hid (Blk x3 x2.heap.size 33 sz.toList) := by rw [hx3]; exact Blk.new x2 _ sz.toList
            have hk : Keep x2 x3 := by rw [hx3]; exact keep_new _ _
            have q3 := Lib.hid (keep_trans q2.out hk)
            have b5_3 := Lib.hid (b5_2.out.keep hk)
            have lp5_3 := Nat.lt_of_lt_of_le lp5_2 hk.size
            rw [← hx3]
            clear hx3 hk
            have lo6 : wr.heap.size ≤ x2.heap.size := q2.out.size
            have lp6_3 : x2.heap.size < x3.heap.size := b6_3.out.lt
            generalize x2.heap.size = p6 at *
            refine fc_nil ?_
            refine mt_end ?_
            obtain ⟨wa, hsta, hba, hga⟩ := run_store_blk (P := Tryd.prog) hv.toList b5_3.out (by simp [hzs, hvz]) Hhv.out.o
            obtain ⟨wb, hstb, hbb, hgb⟩ := run_store_blk (P := Tryd.prog) sv.toList (b6_3.out.grown hga (fun e => by have e2 : p5 = p6 := Option.some.inj e; omega)) (by simp [szs, svz]) Hsv.out.o
            have hba2 := Lib.hid (hba.grown hgb (fun e => by have e2 : p6 = p5 := Option.some.inj e; omega)); have hbb2 := Lib.hid hbb; have hga2 := Lib.hid hga; have hgb2 := Lib.hid hgb
            clear hba hbb hga hgb
            go_wp2
            go_meet
            exact ⟨p5, p6, hv, sv, rfl, rfl, rfl, lo5, lo6, hba2, hbb2, Hhv, Hsv, (q3.out.grown hga2.out q3.out.size (fun q hq => by injection hq with hq; omega)).grown hgb2.out (Nat.le_trans q3.out.size hga2.out.size) (fun q hq => by injection hq with hq; omega)⟩
          · simp only [pick_cons, pick_nil, nth_zero, nth_succ]
            refine fc_step rfl (fun K hK => ?_)
            go_simp
            refine hK _ _ (keep_new _ _) ?_
            clear hK K
            obtain ⟨x2, hx2⟩ : ∃ x, x = x1.alloc (.cells sz 33) := ⟨_, rfl⟩
            have b6_2 : Hid (Blk x2 x1.heap.size 33 sz.toList) := by rw [hx2]; exact Blk.new x1 _ sz.toList
            have hk : Keep x1 x2 := by rw [hx2]; exact keep_new _ _
            have q2 := Lib.hid (keep_trans q1.out hk)
            have b5_2 := Lib.hid (b5_1.out.keep hk)
            have lp5_2 := Nat.lt_of_lt_of_le lp5_1 hk.size
            rw [← hx2]
            clear hx2 hk
            have lo6 : wr.heap.size ≤ x1.heap.size := q1.out.size
            have lp6_2 : x1.heap.size < x2.heap.size := b6_2.out.lt
            generalize x1.heap.size = p6 at *
            refine fc_nil ?_
            refine mt_force ?_
            simp only [pick_cons, pick_nil, nth_zero, nth_succ]
            refine fc_step rfl (fun K hK => ?_)
            go_simp
            (with_reducible refine (T1.out x2 q2.out).mono ?_)
            rintro e x3 ⟨hv, sv, rfl, hhv, hsv, hk⟩
            refine hK _ _ hk ?_
            clear hK K
            have q3 := Lib.hid (keep_trans q2.out hk)
            have b5_3 := Lib.hid (b5_2.out.keep hk)
            have b6_3 := Lib.hid (b6_2.out.keep hk)
            have Hhv := Lib.hid hhv; have Hsv := Lib.hid hsv
            have hvz := hhv.z; have hvn := hhv.n; have svz := hsv.z; have svn := hsv.n
            have lp5_3 := Nat.lt_of_lt_of_le lp5_2 hk.size
            have lp6_3 := Nat.lt_of_lt_of_le lp6_2 hk.size
            clear hk hhv hsv
            refine fc_nil ?_
            refine mt_take x3 (Below.refl _ _) ?_
            simp only [pick_cons, pick_nil, nth_zero, nth_succ]
            repeat (go_big_quiet_step (fail))
            refine wpQuiet_nil ?_
            refine mt_end ?_
            obtain ⟨wa, hsta, hba, hga⟩ := run_store_blk (P := Tryd.prog) hv.toList b5_3.out (by simp [hzs, hvz]) Hhv.out.o
            obtain ⟨wb, hstb, hbb, hgb⟩ := run_store_blk (P := Tryd.prog) sv.toList (b6_3.out.grown hga (fun e => by have e2 : p5 = p6 := Option.some.inj e; omega)) (by simp [szs, svz]) Hsv.out.o
            have hba2 := Lib.hid (hba.grown hgb (fun e => by have e2 : p6 = p5 := Option.some.inj e; omega)); have hbb2 := Lib.hid hbb; have hga2 := Lib.hid hga; have hgb2 := Lib.hid hgb
            clear hba hbb hga hgb
            go_wp2
            go_meet
            exact ⟨p5, p6, hv, sv, rfl, rfl, rfl, lo5, lo6, hba2, hbb2, Hhv, Hsv, (q3.out.grown hga2.out q3.out.size (fun q hq => by injection hq with hq; omega)).grown hgb2.out (Nat.le_trans q3.out.size hga2.out.size) (fun q hq => by injection hq with hq; omega)⟩
        · simp only [pick_cons, pick_nil, nth_zero, nth_succ]
          refine fc_step rfl (fun K hK => ?_)
          go_simp
          refine hK _ _ (keep_new _ _) ?_
          clear hK K
          obtain ⟨x1, hx1⟩ : ∃ x, x = x0.alloc (.cells sz 33) := ⟨_, rfl⟩
          have b6_1 : Hid (Blk x1 x0.heap.size 33 sz.toList) := by rw [hx1]; exact Blk.new x0 _ sz.toList
          have hk : Keep x0 x1 := by rw [hx1]; exact keep_new _ _
          have q1 := Lib.hid (keep_trans q0.out hk)
          rw [← hx1]
          clear hx1 hk
          have lo6 : wr.heap.size ≤ x0.heap.size := q0.out.size
          have lp6_1 : x0.heap.size < x1.heap.size := b6_1.out.lt
          generalize x0.heap.size = p6 at *
          refine fc_nil ?_
          refine mt_fork ?_ ?_
          · simp only [pick_cons, pick_nil, nth_zero, nth_succ]
            refine fc_step rfl (fun K hK => ?_)
            go_simp
            (with_reducible refine (T1.out x1 q1.out).mono ?_)
            rintro e x2 ⟨hv, sv, rfl, hhv, hsv, hk⟩
            refine hK _ _ hk ?_
            clear hK K
            have q2 := Lib.hid (keep_trans q1.out hk)
            have b6_2 := Lib.hid (b6_1.out.keep hk)
            have Hhv := Lib.hid hhv; have Hsv := Lib.hid hsv
            have hvz := hhv.z; have hvn := hhv.n; have svz := hsv.z; have svn := hsv.n
            have lp6_2 := Nat.lt_of_lt_of_le lp6_1 hk.size
            clear hk hhv hsv
            refine fc_nil ?_
            refine mt_take x2 (Below.refl _ _) ?_
            simp only [pick_cons, pick_nil, nth_zero, nth_succ]
            repeat (go_big_quiet_step (fail))
            refine wpQuiet_nil ?_
            refine mt_force ?_
            simp only [pick_cons, pick_nil, nth_zero, nth_succ]
            refine fc_step rfl (fun K hK => ?_)
            go_simp
            refine hK _ _ (keep_new _ _) ?_
            clear hK K
            obtain ⟨x3, hx3⟩ : ∃ x, x = x2.alloc (.cells hz 44) := ⟨_, rfl⟩
            have b5_3 : Hid (Blk x3 x2.heap.size 44 hz.toList) := by rw [hx3]; exact Blk.new x2 _ hz.toList
            have hk : Keep x2 x3 := by rw [hx3]; exact keep_new _ _
            have q3 := Lib.hid (keep_trans q2.out hk)
            have b6_3 := Lib.hid (b6_2.out.keep hk)
            have lp6_3 := Nat.lt_of_lt_of_le lp6_2 hk.size
            rw [← hx3]
            clear hx3 hk
            have lo5 : wr.heap.size ≤ x2.heap.size := q2.out.size
            have lp5_3 : x2.heap.size < x3.heap.size := b5_3.out.lt
            generalize x2.heap.size = p5 at *
            refine fc_nil ?_
            refine mt_end ?_
            obtain ⟨wa, hsta, hba, hga⟩ := run_store_blk (P := Tryd.prog) hv.toList b5_3.out (by simp [hzs, hvz]) Hhv.out.o
            obtain ⟨wb, hstb, hbb, hgb⟩ := run_store_blk (P := Tryd.prog) sv.toList (b6_3.out.grown hga (fun e => by have e2 : p5 = p6 := Option.some.inj e; omega)) (by simp [szs, svz]) Hsv.out.o
            have hba2 := Lib.hid (hba.grown hgb (fun e => by have e2 : p6 = p5 := Option.some.inj e; omega)); have hbb2 := Lib.hid hbb; have hga2 := Lib.hid hga; have hgb2 := Lib.hid hgb
            clear hba hbb hga hgb
            go_wp2
            go_meet
            exact ⟨p5, p6, hv, sv, rfl, rfl, rfl, lo5, lo6, hba2, hbb2, Hhv, Hsv, (q3.out.grown hga2.out q3.out.size (fun q hq => by injection hq with hq; omega)).grown hgb2.out (Nat.le_trans q3.out.size hga2.out.size) (fun q hq => by injection hq with hq; omega)⟩
          · simp only [pick_cons, pick_nil, nth_zero, nth_succ]
            refine fc_step rfl (fun K hK => ?_)
            go_simp
            refine hK _ _ (keep_new _ _) ?_
            clear hK K
            obtain ⟨x2, hx2⟩ : ∃ x, x = x1.alloc (.cells hz 44) := ⟨_, rfl⟩
            have b5_2 : Hid (Blk x2 x1.heap.size 44 hz.toList) := by rw [hx2]; exact Blk.new x1 _ hz.toList
            have hk : Keep x1 x2 := by rw [hx2]; exact keep_new _ _
            have q2 := Lib.hid (keep_trans q1.out hk)
            have b6_2 := Lib.hid (b6_1.out.keep hk)
            have lp6_2 := Nat.lt_of_lt_of_le lp6_1 hk.size
            rw [← hx2]
            clear hx2 hk
            have lo5 : wr.heap.size ≤ x1.heap.size := q1.out.size
            have lp5_2 : x1.heap.size < x2.heap.size := b5_2.out.lt
            generalize x1.heap.size = p5 at *
            refine fc_nil ?_
            refine mt_force ?_
            simp only [pick_cons, pick_nil, nth_zero, nth_succ]
            refine fc_step rfl (fun K hK => ?_)
            go_simp
            (with_reducible refine (T1.out x2 q2.out).mono ?_)
            rintro e x3 ⟨hv, sv, rfl, hhv, hsv, hk⟩
            refine hK _ _ hk ?_
            clear hK K
            have q3 := Lib.hid (keep_trans q2.out hk)
            have b5_3 := Lib.hid (b5_2.out.keep hk)
            have b6_3 := Lib.hid (b6_2.out.keep hk)
            have Hhv := Lib.hid hhv; have Hsv := Lib.hid hsv
            have hvz := hhv.z; have hvn := hhv.n; have svz := hsv.z; have svn := hsv.n
            have lp5_3 := Nat.lt_of_lt_of_le lp5_2 hk.size
            have lp6_3 := Nat.lt_of_lt_of_le lp6_2 hk.size
            clear hk hhv hsv
            refine fc_nil ?_
            refine mt_take x3 (Below.refl _ _) ?_
            simp only [pick_cons, pick_nil, nth_zero, nth_succ]
            repeat (go_big_quiet_step (fail))
            refine wpQuiet_nil ?_
            refine mt_end ?_
            obtain ⟨wa, hsta, hba, hga⟩ := run_store_blk (P := Tryd.prog) hv.toList b5_3.out (by simp [hzs, hvz]) Hhv.out.o
            obtain ⟨wb, hstb, hbb, hgb⟩ := run_store_blk (P := Tryd.prog) sv.toList (b6_3.out.grown hga (fun e => by have e2 : p5 = p6 := Option.some.inj e; omega)) (by simp [szs, svz]) Hsv.out.o
            have hba2 := Lib.hid (hba.grown hgb (fun e => by have e2 : p6 = p5 := Option.some.inj e; omega)); have hbb2 := Lib.hid hbb; have hga2 := Lib.hid hga; have hgb2 := Lib.hid hgb
            clear hba hbb hga hgb
            go_wp2
            go_meet
            exact ⟨p5, p6, hv, sv, rfl, rfl, rfl, lo5, lo6, hba2, hbb2, Hhv, Hsv, (q3.out.grown hga2.out q3.out.size (fun q hq => by injection hq with hq; omega)).grown hgb2.out (Nat.le_trans q3.out.size hga2.out.size) (fun q hq => by injection hq with hq; omega)⟩
      case rest =>
        obtain ⟨p5, p6, tv, sv, rfl, rfl, rfl, lo5, lo6, Hb5, Hb6, Htv, Hsv, kwc⟩ := hcut
        have Stc := Lib.hid (St2.out.keep kwc)
        have htz := Htv.out.z; have htn := Htv.out.n; have hti := Htv.out.i
        have hsz2 := Hsv.out.z; have hsn2 := Hsv.out.n; have hsi2 := Hsv.out.i
        clear c2 c3 c4 c37 c38
        have hGw : G < wr.heap.size := St2.out.blk.lt
        cases ok with
        | false =>
          go_wp2
          go_ret
          rw [HT2.out]
          exact ⟨rfl, fun _ => ⟨hv, Stc.out⟩, fun h => by cases h⟩
        | true =>
          obtain ⟨c2, c3, c4, c37, c38⟩ := Stc.out.cells hll
          have f4 := Stc.out.blk.frozen 4
          go_upto_region 9 with fail
          obtain ⟨wd, hwd⟩ : ∃ wd, wd = wc.setCell ⟨G, 4, none⟩ (.int .i64 ((k : Int) + 1)) := ⟨_, rfl⟩
          have HBd : Hid (Blk wd G 79 (rdCells d0 d1 bn room ((k : Int) + 1) last (.slice (some ⟨b, off, none⟩) bs.length c) hv)) := by
            rw [hwd, ← rdCells_setN (n := (k : Int))]; exact Stc.out.blk.set_ 4 _
          have Hg1 : Hid (wc.grownBy wd (some G)) := by rw [hwd]; exact grown_set (grown_refl _ _)
          rw [← hwd]
          clear hwd c2 c3 c4 c37 c38 f4
          have H5d := Lib.hid (Hb5.out.grown Hg1.out (fun e => by have e2 : G = p5 := Option.some.inj e; omega))
          have H6d := Lib.hid (Hb6.out.grown Hg1.out (fun e => by have e2 : G = p6 := Option.some.inj e; omega))
          obtain ⟨we, hst, hbe, hge⟩ := run_store_part (P := Tryd.prog) 5 sv.toList HBd.out (by rw [rdCells_len hll, Array.length_toList, hsz2]; omega) Hsv.out.o
          rw [Hsv.out.l, rdCells_setLast hll HT3.out.2] at hbe
          have HBe := Lib.hid hbe; have Hg2 := Lib.hid (grown_trans2 Hg1.out hge)
          have H5e := Lib.hid (H5d.out.grown hge (fun e => by have e2 : G = p5 := Option.some.inj e; omega))
          clear hbe hge
          go_upto_region 10 with ((with_reducible refine load_arr p6 sv (Eq.trans ?_ rfl) H6d.out (.array 32 5) hash_under (arr_row _ _) hsi2 ?_); rfl)
          have own_e : we.ownsRow w0.heap.size 44 68 hv hs.length (hs.flatMap Hd.cells) := Stc.out.own.kept Hg2.out (.inr Stc.out.oG)
          have hlt5 : hv.ownBlock ≠ some p5 := fun e => by have h1 := (St2.out.own.lt _ e).2; omega
          have Own_e := Lib.hid own_e; clear own_e
          have f38 := HBe.out.frozen 38
          have c38 := (HBe.out.cell 38).trans (rdCells_38 HT3.out.2)
          letI iM : _root_.Go.Proofs.YtielojlhdnimgaaDoor.G.Mk := ⟨hv.ownBlock⟩
          refine _root_.Go.Proofs.YtielojlhdnimgaaDoor.G.wp_region_tree (.take [0,1,2,3,4,5] (.force [6,7] (.take [8,9] .done))) [10] (by kernel_rfl) (by kernel_rfl) (fun wf kf => ?_)
          have hneG : _root_.Go.Proofs.YtielojlhdnimgaaDoor.G.Mk.m ≠ some G := Stc.out.oG
          have hne5 : _root_.Go.Proofs.YtielojlhdnimgaaDoor.G.Mk.m ≠ some p5 := hlt5
          have H5f : Hid (Blk wf p5 44 tv.toList) := H5e.out.keep kf
          have b38 := _root_.Go.Proofs.YtielojlhdnimgaaDoor.G.aftG_cell (keep_cell kf c38) hneG
          refine _root_.Go.Proofs.YtielojlhdnimgaaDoor.G.mt_take wf (_root_.Go.Proofs.YtielojlhdnimgaaDoor.G.Gr.refl _) ?_
          simp only [pick_cons, pick_nil, nth_zero, nth_succ]
          iterate 5 (go_big_quiet_step (fail))
          (with_reducible refine _root_.Go.Proofs.YtielojlhdnimgaaDoor.G.wpQuiet_load_arrG p5 tv (Eq.trans ?_ rfl) H5f.out hne5 _ Tryd.underlying44 rfl hti ?_)
          rfl
          simp only [Act.put, Array.set!_eq_setIfInBounds, List.setIfInBounds_toArray, List.set_cons_succ, List.set_cons_zero]
          refine wpQuiet_nil (_root_.Go.Proofs.YtielojlhdnimgaaDoor.G.mt_force ?_)
          simp only [pick_cons, pick_nil, nth_zero, nth_succ]
          refine _root_.Go.Proofs.YtielojlhdnimgaaDoor.G.fc_step rfl (fun K hK => ?_)
          refine wp_build1 headT _ (by rfl) tv htz (by omega) (by rfl) ?_
          refine hK _ _ (_root_.Go.Proofs.YtielojlhdnimgaaDoor.G.Gr.of_keep (keep_new _ _)) ?_
          clear hK K
          simp only [Act.put, Array.set!_eq_setIfInBounds, List.setIfInBounds_toArray, List.set_cons_succ, List.set_cons_zero]
          obtain ⟨wg, hwg⟩ : ∃ wg, wg = wf.alloc (.cells tv 44) := ⟨_, rfl⟩
          have HQg : Hid (Blk wg wf.heap.size 44 tv.toList) := by rw [hwg]; exact Blk.new wf _ tv.toList
          have keg : Hid (Keep we wg) := by rw [hwg]; exact keep_trans kf (keep_new _ _)
          have hzg : wf.heap.size < wg.heap.size := HQg.out.lt
          rw [← hwg]
          clear hwg
          have ownG : wg.ownsRow w0.heap.size 44 68 hv hs.length (hs.flatMap Hd.cells) := own_keep Own_e.out keg.out
          have kp_e : Hid (Keep w0 we) := Stc.out.kp.grown Hg2.out Stc.out.kp.size (fun q hq => by injection hq with hq; have := Stc.out.gB; omega)
          have kp_g : Hid (Keep w0 wg) := keep_trans kp_e.out keg.out
          refine _root_.Go.Proofs.YtielojlhdnimgaaDoor.G.fc_step rfl (fun K hK => ?_)
          refine wp_app headT _ _ (by rfl) w0.heap.size hv hs.length _ (by rfl) ownG (some ⟨wf.heap.size, 0, none⟩) 1 1 tv.toList (by rfl) (by rw [Array.length_toList, htz]) HQg.out.rd Htv.out.o (by omega) (by unfold maxLen; omega) kp_g.out.size (fun vn wn own' hg' hat' => hK _ _ hg' ?_)
          clear hK K
          have hGe : G < we.heap.size := HBe.out.lt
          have hGg : G < wg.heap.size := Nat.lt_of_lt_of_le hGe keg.out.size
          have hnG : vn.ownBlock ≠ some G := fun e => by
            rcases hat' with h1 | h1
            · exact Stc.out.oG (h1.symm.trans e)
            · have e2 : wg.heap.size = G := Option.some.inj (h1.symm.trans e); omega
          have HBn : Hid (Blk wn G 79 (rdCells d0 d1 bn room ((k : Int) + 1) S (.slice (some ⟨b, off, none⟩) bs.length c) hv)) := (HBe.out.keep keg.out).grown hg' Stc.out.oG
          have kp_n : Hid (Keep w0 wn) := kp_g.out.grown hg' kp_g.out.size (fun q hq => (ownG.lt q hq).1)
          have hbcells : Hid (∃ b2 off2, (some (⟨b, off, none⟩ : Addr)) = some ⟨b2, off2, none⟩ ∧ (some G ≠ some b2) ∧ hv.ownBlock ≠ some b2 ∧ b2 < wc.heap.size ∧ ∀ j (h : j < (bs.map u8v).length), wc.cell? ⟨b2, off2 + j, none⟩ = some (bs.map u8v)[j]) := by
            have hne0 : bs.map u8v ≠ [] := fun e => by have := congrArg List.length e; simp at this; rw [this] at q2; simp at q2
            rcases Stc.out.rdG with h0 | ⟨b2, off2, e2, n2, hc2⟩
            · exact absurd h0 hne0
            · rcases Stc.out.rdH with h0 | ⟨b3, off3, e3, n3, hc3⟩
              · exact absurd h0 hne0
              · have e4 : b3 = b2 := by rw [e2] at e3; injection e3 with e3; injection e3 with e3 _; exact e3.symm
                rw [e4] at n3
                exact ⟨b2, off2, e2, n2, n3, cell_lt (hc2 0 (List.length_pos_iff.2 hne0)), hc2⟩
          obtain ⟨An, cn, rfl, hcn, hmn, hrn⟩ := own_form own'
          clear hrn hmn hcn
          have Own' := Lib.hid own'; have Hg' := Lib.hid hg'; have Hat' := Lib.hid hat'; have OwnG := Lib.hid ownG
          clear own' hg' hat' ownG b38
          refine _root_.Go.Proofs.YtielojlhdnimgaaDoor.G.fc_nil (_root_.Go.Proofs.YtielojlhdnimgaaDoor.G.mt_take wn (_root_.Go.Proofs.YtielojlhdnimgaaDoor.G.Gr.refl _) ?_)
          simp only [pick_cons, pick_nil, nth_zero, nth_succ, Act.put, Array.set!_eq_setIfInBounds, List.setIfInBounds_toArray, List.set_cons_succ, List.set_cons_zero]
          repeat (go_big_quiet_step (fail))
          refine wpQuiet_nil (_root_.Go.Proofs.YtielojlhdnimgaaDoor.G.mt_end ?_)
          have d38 := (HBn.out.cell 38).trans (rdCells_38 HT3.out.2)
          have g38 := HBn.out.frozen 38
          clear hneG hne5
          clear iM
          go_wp2
          go_ret
          rw [HT2.out]
          refine ⟨rfl, (fun h => by cases h), (fun _ => ⟨.slice An (hs.length + 1) cn, ⟨?_, ?_, ?_, ?_, ?_, ?_, ?_⟩, HT3.out⟩)⟩
          · exact kp_n.out.setCell (by have := Stc.out.gB; simpa using this) _
          · exact Stc.out.gB
          · have h := HBn.out.set_ 38 (.slice An (hs.length + 1) cn)
            rw [rdCells_setH HT3.out.2] at h
            exact h
          · have h := Own'.out.kept (grown_set (o := 38) (u := .slice An (hs.length + 1) cn) (grown_refl wn (some G))) (.inr hnG)
            rw [show (hs ++ [H]).length = hs.length + 1 by simp, List.flatMap_append, show [H].flatMap Hd.cells = tv.toList by rw [Htv.out.l]; simp]
            exact h
          · exact hnG
          · obtain ⟨b2, off2, e2, n2, n3, hlt, hc⟩ := hbcells.out
            refine .inr ⟨b2, off2, e2, n2, fun j hj => ?_⟩
            rw [World.cell?_setCell_other _ _ _ _ (fun e => n2 (congrArg (fun x : Addr => some x.block) e))]
            exact grown_cell Hg'.out (keep_cell keg.out (grown_cell Hg2.out (hc j hj) n2)) n3
          · obtain ⟨b2, off2, e2, n2, n3, hlt, hc⟩ := hbcells.out
            refine .inr ⟨b2, off2, e2, fun e => ?_, fun j hj => ?_⟩
            · rcases Hat'.out with h1 | h1
              · exact n3 (h1.symm.trans e)
              · have e3 : wg.heap.size = b2 := Option.some.inj (h1.symm.trans e)
                have h4 := Hg2.out.size
                have h5 := keg.out.size
                omega
            · rw [World.cell?_setCell_other _ _ _ _ (fun e => n2 (congrArg (fun x : Addr => some x.block) e))]
              exact grown_cell Hg'.out (keep_cell keg.out (grown_cell Hg2.out (hc j hj) n2)) n3
    · have HX : Hid (NX = (false, zHd, z32)) := HNX.out.trans (if_neg fun h => q2 h.2)
      have r1 : ¬ ((roomN room : Nat) : Int) ≤ (k : Int) := by omega
      have r2 : (bs.length : Int) < (B : Int) + 128 := by omega
      go_enter Tryd.func35, Tryd.ntmps35
      go_upto_region 1 with fail
      obtain ⟨c2, c3, c4, c37, c38⟩ := St.out.cells hll
      have a2 := aft_cell c2; have a4 := aft_cell c4
      refine wp_region_aft (by kernel_rfl) (by kernel_rfl) w (Below.refl _ _) ?_
      repeat (go_big_quiet_step (fail))
      refine wpQuiet_nil ?_
      rintro _ ⟨z, rfl⟩
      have j1 := aft_keep w z
      generalize aft w z = w1 at j1 ⊢
      have St1 := Lib.hid (St.out.keep j1)
      clear a2 a4 c2 c3 c4 c37 c38 j1
      obtain ⟨c2, c3, c4, c37, c38⟩ := St1.out.cells hll
      go_upto_region 3 with fail
      have a3 := aft_cell c3; have a4 := aft_cell c4; have a37 := aft_cell c37
      refine wp_region_aft (by kernel_rfl) (by kernel_rfl) w1 (Below.refl _ _) ?_
      repeat (go_big_quiet_step ((go_at_call 29; exact quiet_aft_same (records_any _ _))))
      refine wpQuiet_nil ?_
      rintro _ ⟨z2, rfl⟩
      have j2 := aft_keep w1 z2
      generalize aft w1 z2 = w2 at j2 ⊢
      have St2 := Lib.hid (St1.out.keep j2)
      clear a3 a4 a37 c2 c3 c4 c37 c38 j2
      go_wp2
      go_ret
      rw [HX.out]
      exact ⟨rfl, fun _ => ⟨hv, St2.out⟩, fun h => by cases h⟩
  · have HX : Hid (NX = (false, zHd, z32)) := HNX.out.trans (if_neg fun h => q1 h.1)
    have r1 : ((roomN room : Nat) : Int) ≤ (k : Int) := by omega
    go_enter Tryd.func35, Tryd.ntmps35
    go_upto_region 1 with fail
    obtain ⟨c2, c3, c4, c37, c38⟩ := St.out.cells hll
    have a2 := aft_cell c2; have a4 := aft_cell c4
    refine wp_region_aft (by kernel_rfl) (by kernel_rfl) w (Below.refl _ _) ?_
    repeat (go_big_quiet_step (fail))
    refine wpQuiet_nil ?_
    rintro _ ⟨z, rfl⟩
    have j1 := aft_keep w z
    generalize aft w z = w1 at j1 ⊢
    have St1 := Lib.hid (St.out.keep j1)
    clear a2 a4 c2 c3 c4 c37 c38 j1
    obtain ⟨c2, c3, c4, c37, c38⟩ := St1.out.cells hll
    go_upto_region 3 with fail
    have a3 := aft_cell c3; have a4 := aft_cell c4; have a37 := aft_cell c37
    refine wp_region_aft (by kernel_rfl) (by kernel_rfl) w1 (Below.refl _ _) ?_
    repeat (go_big_quiet_step ((go_at_call 29; exact quiet_aft_same (records_any _ _))))
    refine wpQuiet_nil ?_
    rintro _ ⟨z2, rfl⟩
    have j2 := aft_keep w1 z2
    generalize aft w1 z2 = w2 at j2 ⊢
    have St2 := Lib.hid (St1.out.keep j2)
    clear a3 a4 a37 c2 c3 c4 c37 c38 j2
    go_wp2
    go_ret
    rw [HX.out]
    exact ⟨rfl, fun _ => ⟨hv, St2.out⟩, fun h => by cases h⟩
end Go.Proofs.YtielojlhdnimgaaDoor
