/- SHA-256: the sum of bytes, and the sum of the sum. -/
import Derived.Test.YtielojlhdnimgaaDoorShaD
set_option linter.unusedSimpArgs false
set_option linter.unusedVariables false
namespace Go.Proofs.YtielojlhdnimgaaDoor
open Go.RowKit
attribute [local go_sem ↓] Go.wp_at_zero Go.wp_at_succ

def byE (x : UInt32) (d : Int) : Int := (x.toNat : Int) / d % 256
def outK (V : List UInt32) : Nat → List UInt8
  | 0 => List.replicate 32 0
  | k + 1 => ((((outK V k).set (4 * k) (w8 (byE (V.getD k 0) 16777216))).set (4 * k + 1) (w8 (byE (V.getD k 0) 65536))).set (4 * k + 2) (w8 (byE (V.getD k 0) 256))).set (4 * k + 3) (w8 (byE (V.getD k 0) 1))
theorem outK_len (V : List UInt32) (k : Nat) : (outK V k).length = 32 := by
  induction k with
  | zero => rfl
  | succ k ih => rw [outK, List.length_set, List.length_set, List.length_set, List.length_set, ih]
/-- Eight words as bytes. -/
def outH (V : H8) : List UInt8 := outK V.l 8
theorem outH_len (V : H8) : (outH V).length = 32 := outK_len _ _
/-- A state's words behind the padding. -/
def endH (v : H8) (r : List UInt8) (N : Nat) : H8 := blocks v (r ++ padK N 8) ((r ++ padK N 8).length / 64)
/-- The sum of bytes. -/
def sumL (l : List UInt8) : List UInt8 := outH (endH (blocks h0V l (l.length / 64)) (l.drop (64 * (l.length / 64))) l.length)
def dblL (l : List UInt8) : List UInt8 := sumL (sumL l)
theorem sumL_len (l : List UInt8) : (sumL l).length = 32 := by unfold sumL; exact outH_len _
theorem dblL_len (l : List UInt8) : (dblL l).length = 32 := by unfold dblL; exact sumL_len _
/-- 32 bytes as a value. -/
abbrev hashV (h : List UInt8) : Value := .agg (h.map u8v).toArray
theorem z32_blk (w : World) (n : Nat) (t : TypeId) (hn : n = w.heap.size) : Blk (w.alloc (.cells #[.int .u8 0, .int .u8 0, .int .u8 0, .int .u8 0, .int .u8 0, .int .u8 0, .int .u8 0, .int .u8 0, .int .u8 0, .int .u8 0, .int .u8 0, .int .u8 0, .int .u8 0, .int .u8 0, .int .u8 0, .int .u8 0, .int .u8 0, .int .u8 0, .int .u8 0, .int .u8 0, .int .u8 0, .int .u8 0, .int .u8 0, .int .u8 0, .int .u8 0, .int .u8 0, .int .u8 0, .int .u8 0, .int .u8 0, .int .u8 0, .int .u8 0, .int .u8 0] t)) n t ((List.replicate 32 (0 : UInt8)).map u8v) := hn ▸ Blk.new w t ((List.replicate 32 (0 : UInt8)).map u8v)

theorem idx8 (V : H8) (k : Nat) (hk : k < 8) (y : UInt32) (hy : V.l[k]? = some y) (w : World) :
    (Instr.index 93 (.agg #[.int .u32 V.a.toNat, .int .u32 V.b.toNat, .int .u32 V.c.toNat, .int .u32 V.d.toNat, .int .u32 V.e.toNat, .int .u32 V.f.toNat, .int .u32 V.g.toNat, .int .u32 V.h.toNat]) (.int .i64 k)).run Tryd.prog w = .ok (u32v y) w := by
  rcases (show k = 0 ∨ k = 1 ∨ k = 2 ∨ k = 3 ∨ k = 4 ∨ k = 5 ∨ k = 6 ∨ k = 7 by omega) with rfl | rfl | rfl | rfl | rfl | rfl | rfl | rfl
  all_goals
    clear hk
    simp only [H8.l, List.getElem?_cons_zero, List.getElem?_cons_succ, Option.some.injEq] at hy
    subst hy
    first | (go_simp; done) | (simp [Instr.index, asIntOf, run_underlying Tryd.underlying93, go_sem]; done)

set_option maxRecDepth 100000 in
set_option maxHeartbeats 3000000 in
theorem end_any (v : H8) (RA : Option Addr) (r : List UInt8) (rc N : Nat) (w : World) (hS : ShaOk w) (hr : Rd w RA (r.map u8v)) (hrl : r.length = N % 64) (hN : N ≤ 100000000000) :
    Calls Tryd.prog 48 #[SV v RA r.length rc N] w fun e w' => e = .returned (hashV (outH (endH v r N))) ∧ Keep w w' := by
  have hpl := padK_len N 8
  have P1 : Hid (∀ w', Keep w w' → Calls Tryd.prog 52 #[.int .u64 N] w' fun e w'' => ∃ A', e = .returned (.slice A' (padK N 8).length (padK N 8).length) ∧ Rd w'' A' ((padK N 8).map u8v) ∧ Keep w' w'') := fun w' hk =>
    (pad_any N w' (by omega)).mono fun e w'' ⟨h1, h2, h3⟩ => ⟨_, by rw [h1, hpl], h2.rd, h3⟩
  have W1 : Hid (∀ w' A', Keep w w' → Rd w' A' ((padK N 8).map u8v) → Calls Tryd.prog 49 #[SV v RA r.length rc N, .slice A' (padK N 8).length (padK N 8).length] w' fun e w'' => ∃ A2 n2 c2 N2, e = .returned (SV (endH v r N) A2 n2 c2 N2) ∧ Keep w' w'') := fun w' A' hk hp =>
    (write_any v RA r rc N A' (padK N 8) _ w' (hS.keep hk) (hr.keep hk) hrl hp (Nat.le_refl _) (by rw [hpl]; unfold padZ maxLen; split <;> omega) (by rw [hpl]; unfold padZ; split <;> omega) hN (by right; rw [hpl, hrl]; unfold padZ; split <;> omega)).mono
      fun e w'' ⟨A', c', h1, h2, h3⟩ => ⟨_, _, _, _, h1, h3⟩
  have Hrl := Lib.hid hrl
  have hrn : r.length < 64 := by omega
  clear hpl hrl hr hS
  generalize endH v r N = V at *
  generalize padK N 8 = pd at *
  go_enter Tryd.func48, Tryd.ntmps48
  go_wp2_with fail
  refine (ssane_any v RA r.length rc N _ hrn (by omega) Hrl.out).mono ?_
  rintro e w1 ⟨rfl, k1⟩
  have HX1 : Hid (StCells w1 w.heap.size v RA r.length rc N) := ⟨((StCells.new w w.heap.size v RA r.length rc N rfl).b.alloc _).keep k1⟩
  have HR1 := Lib.hid ((z32_blk (w.alloc (.cells #[u32v v.a, u32v v.b, u32v v.c, u32v v.d, u32v v.e, u32v v.f, u32v v.g, u32v v.h, .slice RA r.length rc, .int .u64 N] 96)) (w.heap.size + 1) 33 (by simp)).keep k1)
  have hz1 : w.heap.size + 2 ≤ w1.heap.size := by have := k1.size; simpa using this
  have kw := keep_trans (keep_trans (keep_new _ _) (keep_new _ _)) k1
  clear k1
  obtain ⟨x0, x1, x2, x3, x4, x5, x6, x7, x8, x9⟩ := HX1.out.all
  go_wp2_with fail
  refine wp_region_tree (.take [0,1,2] (.force [3,4] .done)) [5] (by kernel_rfl) (by kernel_rfl) (fun w3 k3 => ?_)
  have a0 := aft_cell (keep_cell k3 x0); have a1 := aft_cell (keep_cell k3 x1); have a2 := aft_cell (keep_cell k3 x2); have a3 := aft_cell (keep_cell k3 x3)
  have a4 := aft_cell (keep_cell k3 x4); have a5 := aft_cell (keep_cell k3 x5); have a6 := aft_cell (keep_cell k3 x6); have a7 := aft_cell (keep_cell k3 x7)
  have a8 := aft_cell (keep_cell k3 x8); have a9 := aft_cell (keep_cell k3 x9)
  refine mt_take w3 (Below.refl _ _) ?_
  simp only [pick_cons, pick_nil, nth_zero, nth_succ]
  repeat (go_big_quiet_step (fail))
  refine wpQuiet_nil ?_
  clear a0 a1 a2 a3 a4 a5 a6 a7 a8 a9 x0 x1 x2 x3 x4 x5 x6 x7 x8 x9
  refine mt_force ?_
  simp only [pick_cons, pick_nil, nth_zero, nth_succ]
  refine fc_step rfl (fun K hK => ?_)
  go_simp
  have kw3 := keep_trans kw k3
  (with_reducible refine (P1.out _ kw3).mono ?_)
  rintro e w4 ⟨A4, rfl, hr4, hk⟩
  refine hK _ _ hk ?_
  clear hK K
  have kw4 := keep_trans kw3 hk
  have Hr4 := Lib.hid hr4
  have k4 := keep_trans k3 hk
  clear hk hr4
  refine fc_step rfl (fun K hK => ?_)
  go_simp
  (with_reducible refine (W1.out _ _ kw4 Hr4.out).mono ?_)
  rintro e w5 ⟨A5, n5, c5, N5, rfl, hk⟩
  refine hK _ _ hk ?_
  clear hK K
  have kw5 := keep_trans kw4 hk
  have k5 := keep_trans k4 hk
  have HX5 := Lib.hid (HX1.out.keep k5); have HR5 := Lib.hid (HR1.out.keep k5)
  have hz5 := k5.size
  clear hk
  refine fc_nil (mt_end ?_)
  obtain ⟨x0, x1, x2, x3, x4, x5, x6, x7, x8, x9⟩ := HX5.out.all
  obtain ⟨f0, f1, f2, f3, f4, f5, f6, f7, f8, f9⟩ := HX5.out.fr
  have hzl : w.heap.size < w5.heap.size := by omega
  go_wp2_with fail
  obtain ⟨wq, hwq⟩ : ∃ wq, wq = ((((((((((w5.setCell ⟨w.heap.size, 0, none⟩ (u32v V.a)).setCell ⟨w.heap.size, 1, none⟩ (u32v V.b)).setCell ⟨w.heap.size, 2, none⟩ (u32v V.c)).setCell ⟨w.heap.size, 3, none⟩ (u32v V.d)).setCell ⟨w.heap.size, 4, none⟩ (u32v V.e)).setCell ⟨w.heap.size, 5, none⟩ (u32v V.f)).setCell ⟨w.heap.size, 6, none⟩ (u32v V.g)).setCell ⟨w.heap.size, 7, none⟩ (u32v V.h)).setCell ⟨w.heap.size, 8, none⟩ (.slice A5 n5 c5)).setCell ⟨w.heap.size, 9, none⟩ (.int .u64 N5)) := ⟨_, rfl⟩
  have hzq : wq.heap.size = w5.heap.size := by rw [hwq]; simp
  have kwq : Keep w wq := by
    rw [hwq]
    iterate 10 (refine Below.setCell ?_ (by simp) _)
    exact kw5
  have hrq : Blk wq (w.heap.size + 1) 33 ((List.replicate 32 (0 : UInt8)).map u8v) := by
    rw [hwq]
    iterate 10 (refine Blk.far ?_ (by simp) _)
    exact HR5.out
  rw [← hwq]
  clear hwq x0 x1 x2 x3 x4 x5 x6 x7 x8 x9 f0 f1 f2 f3 f4 f5 f6 f7 f8 f9
  rw [← hzq]
  have hsq : w.heap.size + 1 < wq.heap.size := by omega
  clear hzq
  have ho6 := z32_blk wq wq.heap.size 33 rfl
  have hr6 := hrq.alloc (.cells #[.int .u8 0, .int .u8 0, .int .u8 0, .int .u8 0, .int .u8 0, .int .u8 0, .int .u8 0, .int .u8 0, .int .u8 0, .int .u8 0, .int .u8 0, .int .u8 0, .int .u8 0, .int .u8 0, .int .u8 0, .int .u8 0, .int .u8 0, .int .u8 0, .int .u8 0, .int .u8 0, .int .u8 0, .int .u8 0, .int .u8 0, .int .u8 0, .int .u8 0, .int .u8 0, .int .u8 0, .int .u8 0, .int .u8 0, .int .u8 0, .int .u8 0, .int .u8 0] 33)
  have kw6 := keep_trans kwq (keep_new wq (.cells #[.int .u8 0, .int .u8 0, .int .u8 0, .int .u8 0, .int .u8 0, .int .u8 0, .int .u8 0, .int .u8 0, .int .u8 0, .int .u8 0, .int .u8 0, .int .u8 0, .int .u8 0, .int .u8 0, .int .u8 0, .int .u8 0, .int .u8 0, .int .u8 0, .int .u8 0, .int .u8 0, .int .u8 0, .int .u8 0, .int .u8 0, .int .u8 0, .int .u8 0, .int .u8 0, .int .u8 0, .int .u8 0, .int .u8 0, .int .u8 0, .int .u8 0, .int .u8 0] 33))
  have Ho6 := Lib.hid ho6; have Hr6 := Lib.hid hr6
  generalize wq.alloc (.cells #[.int .u8 0, .int .u8 0, .int .u8 0, .int .u8 0, .int .u8 0, .int .u8 0, .int .u8 0, .int .u8 0, .int .u8 0, .int .u8 0, .int .u8 0, .int .u8 0, .int .u8 0, .int .u8 0, .int .u8 0, .int .u8 0, .int .u8 0, .int .u8 0, .int .u8 0, .int .u8 0, .int .u8 0, .int .u8 0, .int .u8 0, .int .u8 0, .int .u8 0, .int .u8 0, .int .u8 0, .int .u8 0, .int .u8 0, .int .u8 0, .int .u8 0, .int .u8 0] 33) = w6 at Ho6 Hr6 kw6 ⊢
  clear ho6 hr6
  go_loopw [17] (fun i wr => ∃ k : Nat, k ≤ 8 ∧ i = .int .i64 k ∧ Keep w wr ∧ Blk wr (w.heap.size + 1) 33 ((List.replicate 32 (0 : UInt8)).map u8v) ∧ Blk wr wq.heap.size 33 ((outK V.l k).map u8v)) (fun i _ => 8 - (intOf i).toNat)
  case atStart => exact ⟨0, by omega, rfl, kw6, Hr6.out, Ho6.out⟩
  case round =>
    obtain ⟨k, hk, rfl, hkr, hbr, hbo⟩ := hrel
    by_cases hlt : k < 8
    · obtain ⟨y, hy⟩ : ∃ y, V.l[k]? = some y := ⟨_, List.getElem?_eq_getElem (by exact hlt)⟩
      have hix := idx8 V k hlt y hy wr
      have Hou := Lib.hid (show outK V.l (k + 1) = ((((outK V.l k).set (4 * k) (w8 (byE y 16777216))).set (4 * k + 1) (w8 (byE y 65536))).set (4 * k + 2) (w8 (byE y 256))).set (4 * k + 3) (w8 (byE y 1)) by rw [outK, getD_of hy])
      have HL0 := Lib.hid (outK_len V.l k)
      have Hbr := Lib.hid hbr; have Hbo0 := Lib.hid hbo
      clear hbr hbo hy
      have Hkr0 := Lib.hid hkr
      have hwz := hkr.size
      obtain ⟨o0, h0⟩ : ∃ o, (outK V.l k)[4 * k]? = some o := ⟨_, List.getElem?_eq_getElem (by rw [HL0.out]; omega)⟩
      have c0 := Hbo0.out.cell (4 * k); rw [List.getElem?_map, h0, Option.map_some] at c0
      have f0 := Hbo0.out.frozen (4 * k)
      clear h0
      go_upto_region 9 with fail
      obtain ⟨wa, hw0⟩ : ∃ ww, ww = wr.setCell ⟨wq.heap.size, 4 * k, none⟩ (.int .u8 ((y.toNat : Int) / 16777216 % 256)) := ⟨_, rfl⟩
      have Hbo1 : Hid (Blk wa wq.heap.size 33 (((outK V.l k).set (4 * k) (w8 (byE y 16777216))).map u8v)) := by
        rw [set_map8 _ _ (byE y 16777216) (by unfold byE; omega) (by unfold byE; omega), hw0]
        have h := Hbo0.out.set_ (4 * k) (.int .u8 (byE y 16777216))
        exact h
      have HL1 : Hid (((outK V.l k).set (4 * k) (w8 (byE y 16777216))).length = 32) := by
        have h := HL0.out
        show (List.set _ _ _).length = 32
        rw [List.length_set]; exact h
      have Hbr1 : Hid (Blk wa (w.heap.size + 1) 33 ((List.replicate 32 (0 : UInt8)).map u8v)) := by rw [hw0]; exact Hbr.out.far (by simp; omega) _
      have Hkr1 : Hid (Keep w wa) := by rw [hw0]; exact Hkr0.out.setCell (by simp; omega) _
      rw [← hw0]
      clear hw0 c0 f0
      obtain ⟨o1, h1⟩ : ∃ o, ((outK V.l k).set (4 * k) (w8 (byE y 16777216)))[4 * k + 1]? = some o := ⟨_, List.getElem?_eq_getElem (by rw [HL1.out]; omega)⟩
      have c1 := Hbo1.out.cell (4 * k + 1); rw [List.getElem?_map, h1, Option.map_some] at c1
      have f1 := Hbo1.out.frozen (4 * k + 1)
      clear h1
      go_upto_region 10 with fail
      obtain ⟨wb, hw1⟩ : ∃ ww, ww = wa.setCell ⟨wq.heap.size, 4 * k + 1, none⟩ (.int .u8 ((y.toNat : Int) / 65536 % 256)) := ⟨_, rfl⟩
      have Hbo2 : Hid (Blk wb wq.heap.size 33 ((((outK V.l k).set (4 * k) (w8 (byE y 16777216))).set (4 * k + 1) (w8 (byE y 65536))).map u8v)) := by
        rw [set_map8 _ _ (byE y 65536) (by unfold byE; omega) (by unfold byE; omega), hw1]
        have h := Hbo1.out.set_ (4 * k + 1) (.int .u8 (byE y 65536))
        exact h
      have HL2 : Hid ((((outK V.l k).set (4 * k) (w8 (byE y 16777216))).set (4 * k + 1) (w8 (byE y 65536))).length = 32) := by
        have h := HL1.out
        show (List.set _ _ _).length = 32
        rw [List.length_set]; exact h
      have Hbr2 : Hid (Blk wb (w.heap.size + 1) 33 ((List.replicate 32 (0 : UInt8)).map u8v)) := by rw [hw1]; exact Hbr1.out.far (by simp; omega) _
      have Hkr2 : Hid (Keep w wb) := by rw [hw1]; exact Hkr1.out.setCell (by simp; omega) _
      rw [← hw1]
      clear hw1 c1 f1
      obtain ⟨o2, h2⟩ : ∃ o, (((outK V.l k).set (4 * k) (w8 (byE y 16777216))).set (4 * k + 1) (w8 (byE y 65536)))[4 * k + 2]? = some o := ⟨_, List.getElem?_eq_getElem (by rw [HL2.out]; omega)⟩
      have c2 := Hbo2.out.cell (4 * k + 2); rw [List.getElem?_map, h2, Option.map_some] at c2
      have f2 := Hbo2.out.frozen (4 * k + 2)
      clear h2
      go_upto_region 11 with fail
      obtain ⟨wc, hw2⟩ : ∃ ww, ww = wb.setCell ⟨wq.heap.size, 4 * k + 2, none⟩ (.int .u8 ((y.toNat : Int) / 256 % 256)) := ⟨_, rfl⟩
      have Hbo3 : Hid (Blk wc wq.heap.size 33 (((((outK V.l k).set (4 * k) (w8 (byE y 16777216))).set (4 * k + 1) (w8 (byE y 65536))).set (4 * k + 2) (w8 (byE y 256))).map u8v)) := by
        rw [set_map8 _ _ (byE y 256) (by unfold byE; omega) (by unfold byE; omega), hw2]
        have h := Hbo2.out.set_ (4 * k + 2) (.int .u8 (byE y 256))
        exact h
      have HL3 : Hid (((((outK V.l k).set (4 * k) (w8 (byE y 16777216))).set (4 * k + 1) (w8 (byE y 65536))).set (4 * k + 2) (w8 (byE y 256))).length = 32) := by
        have h := HL2.out
        show (List.set _ _ _).length = 32
        rw [List.length_set]; exact h
      have Hbr3 : Hid (Blk wc (w.heap.size + 1) 33 ((List.replicate 32 (0 : UInt8)).map u8v)) := by rw [hw2]; exact Hbr2.out.far (by simp; omega) _
      have Hkr3 : Hid (Keep w wc) := by rw [hw2]; exact Hkr2.out.setCell (by simp; omega) _
      rw [← hw2]
      clear hw2 c2 f2
      obtain ⟨o3, h3⟩ : ∃ o, ((((outK V.l k).set (4 * k) (w8 (byE y 16777216))).set (4 * k + 1) (w8 (byE y 65536))).set (4 * k + 2) (w8 (byE y 256)))[4 * k + 3]? = some o := ⟨_, List.getElem?_eq_getElem (by rw [HL3.out]; omega)⟩
      have c3 := Hbo3.out.cell (4 * k + 3); rw [List.getElem?_map, h3, Option.map_some] at c3
      have f3 := Hbo3.out.frozen (4 * k + 3)
      clear h3
      go_upto_region 12 with fail
      obtain ⟨wd, hw3⟩ : ∃ ww, ww = wc.setCell ⟨wq.heap.size, 4 * k + 3, none⟩ (.int .u8 ((y.toNat : Int) % 256)) := ⟨_, rfl⟩
      have Hbo4 : Hid (Blk wd wq.heap.size 33 ((((((outK V.l k).set (4 * k) (w8 (byE y 16777216))).set (4 * k + 1) (w8 (byE y 65536))).set (4 * k + 2) (w8 (byE y 256))).set (4 * k + 3) (w8 (byE y 1))).map u8v)) := by
        rw [set_map8 _ _ (byE y 1) (by unfold byE; omega) (by unfold byE; omega), hw3]
        have h := Hbo3.out.set_ (4 * k + 3) (.int .u8 (byE y 1))
        unfold byE at h ⊢; rw [Int.ediv_one] at h ⊢; exact h
      have HL4 : Hid ((((((outK V.l k).set (4 * k) (w8 (byE y 16777216))).set (4 * k + 1) (w8 (byE y 65536))).set (4 * k + 2) (w8 (byE y 256))).set (4 * k + 3) (w8 (byE y 1))).length = 32) := by
        have h := HL3.out
        show (List.set _ _ _).length = 32
        rw [List.length_set]; exact h
      have Hbr4 : Hid (Blk wd (w.heap.size + 1) 33 ((List.replicate 32 (0 : UInt8)).map u8v)) := by rw [hw3]; exact Hbr3.out.far (by simp; omega) _
      have Hkr4 : Hid (Keep w wd) := by rw [hw3]; exact Hkr3.out.setCell (by simp; omega) _
      rw [← hw3]
      clear hw3 c3 f3
      go_wp2
      go_roundw
      case rel =>
        refine ⟨k + 1, by omega, by go_num, Hkr4.out, Hbr4.out, ?_⟩
        rw [Hou.out]
        exact Hbo4.out
      case measure => simp [intOf]; omega
    · have Hk := Lib.hid (show k = 8 by omega)
      have hxl := outK_len V.l k
      generalize hx : outK V.l k = x at hbo hxl
      have Hx := Lib.hid hx; clear hx
      obtain ⟨cs, hcs⟩ : ∃ cs : Array Value, cs.toList = x.map u8v := ⟨(x.map u8v).toArray, rfl⟩
      have hcz : cs.size = 32 := by rw [← Array.length_toList, hcs, List.length_map, hxl]
      have hci : (Tryd.prog.info? 33).map (·.size) = some cs.size := by rw [hcz]; kernel_rfl
      have hcn : ¬ cs = #[] := by intro h; rw [h] at hcz; simp at hcz
      rw [← hcs] at hbo
      obtain ⟨w8, hst, hb8, hg8⟩ := run_store_blk (P := Tryd.prog) cs.toList hbr (by simp [hcz]) (by rw [hcs]; exact one_w8 _)
      have Hbo := Lib.hid hbo; have Hb8 := Lib.hid hb8; have Hg8 := Lib.hid hg8; have Hcs := Lib.hid hcs
      clear hbo hb8 hg8 hcs hbr
      go_upto_region 13 with fail
      go_wp2_with ((with_reducible refine load_arr wq.heap.size cs (Eq.trans ?_ rfl) Hbo.out (.array 32 5) (show Tryd.prog.underlying 33 = _ by kernel_rfl) (arr_row _ _) hci ?_); rfl)
      have hb8 := Hb8.out
      refine bodyPost_ret (v := .agg cs) (results_cell_row Tryd.results48 _ _ (w.heap.size + 1) _ _ _ (.array 32 5) rfl hb8 (by kernel_rfl) rfl (by rw [List.size_toArray, Array.length_toList, hcz]; kernel_rfl)) rfl ⟨?_, hkr.grown Hg8.out (by have := hkr.size; omega) (fun q hq => by injection hq with hq; omega)⟩
      rw [show cs = (x.map u8v).toArray from by rw [← Hcs.out, Array.toArray_toList], ← Hx.out, Hk.out]
      rfl

noncomputable def zhash : Array Value := match (Tryd.prog.info? 33).bind (·.zero) with | some (.agg c) => c | _ => #[]
theorem zhash_size : zhash.size = 32 := by kernel_rfl
theorem zhash_zero (w : World) : (zeroValue 33).run Tryd.prog w = .ok (.agg zhash) w := by kernel_rfl
theorem zhash_list : zhash.toList = (List.replicate 32 (0 : UInt8)).map u8v := by kernel_rfl
theorem hash_under : Tryd.prog.underlying 33 = some (.array 32 5) := by kernel_rfl
/-- What a walk has to know of 32 bytes as a value. -/
structure HashA (h : List UInt8) (cs : Array Value) : Prop where
  l : cs.toList = h.map u8v
  z : cs.size = 32
  i : (Tryd.prog.info? 33).map (·.size) = some cs.size
  n : ¬ cs = #[]
  o : ∀ v ∈ cs.toList, v.oneCell' = true
  e : (h.map u8v).toArray = cs
theorem HashA.of {h : List UInt8} (hl : h.length = 32) : HashA h (h.map u8v).toArray := by
  have hz : (h.map u8v).toArray.size = 32 := by simp [hl]
  refine ⟨rfl, hz, by rw [hz]; kernel_rfl, fun e => by rw [e] at hz; simp at hz, ?_, rfl⟩
  exact one_w8 h

set_option maxRecDepth 100000 in
set_option maxHeartbeats 1000000 in
theorem sum_any (A : Option Addr) (l : List UInt8) (c : Nat) (w : World) (hS : ShaOk w) (hr : Rd w A (l.map u8v)) (hlc : l.length ≤ c) (hcm : c ≤ maxLen) (hl : l.length ≤ 100000000) :
    Calls Tryd.prog 47 #[.slice A l.length c] w fun e w' => e = .returned (hashV (sumL l)) ∧ Keep w w' := by
  obtain ⟨cs, hcs⟩ : ∃ cs, HashA (sumL l) cs := ⟨_, HashA.of (sumL_len l)⟩
  have E1 : Hid (∀ w' A' c', Keep w w' → Rd w' A' ((l.drop (64 * (l.length / 64))).map u8v) → Calls Tryd.prog 48 #[SV (blocks h0V l (l.length / 64)) A' (l.length % 64) c' l.length] w' fun e w'' => e = .returned (.agg cs) ∧ Keep w' w'') := fun w' A' c' hk hr' => by
    have hm : (l.drop (64 * (l.length / 64))).length = l.length % 64 := by rw [List.length_drop]; omega
    have h := end_any (blocks h0V l (l.length / 64)) A' (l.drop (64 * (l.length / 64))) c' l.length w' (hS.keep hk) hr' hm (by omega)
    rw [hm] at h
    refine h.mono fun e w'' ⟨h1, h2⟩ => ⟨?_, h2⟩
    rw [h1, ← hcs.e]; rfl
  have W1 : Hid (∀ w', Keep w w' → Calls Tryd.prog 49 #[SV h0V none 0 0 0, .slice A l.length c] w' fun e w'' => ∃ A' c', e = .returned (SV (blocks h0V l (l.length / 64)) A' (l.length % 64) c' l.length) ∧ Rd w'' A' ((l.drop (64 * (l.length / 64))).map u8v) ∧ Keep w' w'') := fun w' hk => by
    have h := write_any h0V none [] 0 0 A l c w' (hS.keep hk) (.inl rfl) rfl (hr.keep hk) hlc hcm hl (by omega) (.inl rfl)
    simp only [List.nil_append, Nat.zero_add, List.length_nil] at h
    exact h
  have S1 : Hid (∀ w', Keep w w' → Calls Tryd.prog 50 #[] w' fun e w'' => e = .returned (SV h0V none 0 0 0) ∧ Keep w' w'') := fun w' hk => start_any w' (hS.keep hk)
  rw [show (hashV (sumL l)) = .agg cs by rw [← hcs.e]]
  generalize blocks h0V l (l.length / 64) = V at *
  generalize l.drop (64 * (l.length / 64)) = lr at *
  generalize l.length % 64 = nr at *
  obtain ⟨zs, hzs⟩ : ∃ zs, zs = zhash := ⟨_, rfl⟩
  have hz1 : zs.size = 32 := by rw [hzs]; exact zhash_size
  have hz2 : ∀ w, (zeroValue 33).run Tryd.prog w = .ok (.agg zs) w := fun w => by rw [hzs]; exact zhash_zero w
  have hz3 : ¬ zs = #[] := fun h => by rw [h] at hz1; cases hz1
  have hcz := hcs.z; have hcn := hcs.n
  have Hcs := Lib.hid hcs
  clear hzs hcs hr hS
  go_enter Tryd.func47, Tryd.ntmps47
  go_wp2_with fail
  refine (S1.out _ (keep_new _ _)).mono ?_
  rintro e w1 ⟨rfl, k1⟩
  have kw1 := keep_trans (keep_new w _) k1
  have Hb1 := Lib.hid ((show Blk _ w.heap.size 33 zs.toList from Blk.new w 33 zs.toList).keep k1)
  go_wp2_with fail
  refine (W1.out _ kw1).mono ?_
  rintro e w2 ⟨A2, c2, rfl, hr2, k2⟩
  have Hr2 := Lib.hid hr2; clear hr2
  have kw2 := keep_trans kw1 k2
  go_wp2_with fail
  refine (E1.out _ _ _ kw2 Hr2.out).mono ?_
  rintro e w3 ⟨rfl, k3⟩
  have kw3 := keep_trans kw2 k3
  obtain ⟨w8, hst, hb8, hg8⟩ := run_store_blk (P := Tryd.prog) cs.toList (Hb1.out.keep (keep_trans k2 k3)) (by simp [hz1, hcz]) Hcs.out.o
  have Hg8 := Lib.hid hg8; have Hb8 := Lib.hid hb8; clear hg8 hb8
  go_wp2
  have hb8 := Hb8.out
  exact bodyPost_ret (v := .agg cs) (results_cell_row Tryd.results47 _ _ w.heap.size _ _ _ (.array 32 5) rfl hb8 hash_under rfl (by rw [List.size_toArray, Array.length_toList]; exact Hcs.out.i)) rfl ⟨rfl, kw3.grown Hg8.out kw3.size (fun q hq => by injection hq with hq; omega)⟩

set_option maxRecDepth 100000 in
set_option maxHeartbeats 1000000 in
theorem double_any (A : Option Addr) (l : List UInt8) (c : Nat) (w : World) (hS : ShaOk w) (hr : Rd w A (l.map u8v)) (hlc : l.length ≤ c) (hcm : c ≤ maxLen) (hl : l.length ≤ 100000000) :
    Calls Tryd.prog 43 #[.slice A l.length c] w fun e w' => e = .returned (hashV (dblL l)) ∧ Keep w w' := by
  obtain ⟨cs, hcs⟩ : ∃ cs, HashA (sumL l) cs := ⟨_, HashA.of (sumL_len l)⟩
  obtain ⟨ds, hds⟩ : ∃ ds, HashA (dblL l) ds := ⟨_, HashA.of (dblL_len l)⟩
  have E1 : Hid (∀ w', Keep w w' → Calls Tryd.prog 47 #[.slice A l.length c] w' fun e w'' => e = .returned (.agg cs) ∧ Keep w' w'') := fun w' hk =>
    (sum_any A l c w' (hS.keep hk) (hr.keep hk) hlc hcm hl).mono fun e w'' ⟨h1, h2⟩ => ⟨by rw [h1, ← hcs.e], h2⟩
  have E2 : Hid (∀ w' g, Keep w w' → Rd w' (some ⟨g, 0, none⟩) cs.toList → Calls Tryd.prog 47 #[.slice (some ⟨g, 0, none⟩) 32 32] w' fun e w'' => e = .returned (.agg ds) ∧ Keep w' w'') := fun w' g hk hr' => by
    have h := sum_any (some ⟨g, 0, none⟩) (sumL l) 32 w' (hS.keep hk) (by rw [← hcs.l]; exact hr') (by rw [sumL_len]; omega) (by unfold maxLen; omega) (by rw [sumL_len]; omega)
    rw [sumL_len] at h
    exact h.mono fun e w'' ⟨h1, h2⟩ => ⟨by rw [h1, ← hds.e]; rfl, h2⟩
  rw [show (hashV (dblL l)) = .agg ds by rw [← hds.e]]
  obtain ⟨zs, hzs⟩ : ∃ zs, zs = zhash := ⟨_, rfl⟩
  have hz1 : zs.size = 32 := by rw [hzs]; exact zhash_size
  have hz2 : ∀ w, (zeroValue 33).run Tryd.prog w = .ok (.agg zs) w := fun w => by rw [hzs]; exact zhash_zero w
  have hz3 : ¬ zs = #[] := fun h => by rw [h] at hz1; cases hz1
  have hcz := hcs.z; have hcn := hcs.n
  have hdz := hds.z; have hdn := hds.n
  have Hcs := Lib.hid hcs; have Hds := Lib.hid hds
  have hst1 : ∀ ww : World, (storeCells ⟨ww.heap.size, 0, none⟩ cs.toList 0).run Tryd.prog (ww.alloc (.cells zs 33)) = .ok () (ww.alloc (.cells cs 33)) := fun ww => run_storeCells_new (P := Tryd.prog) ww 33 zs cs Hcs.out.i (hz1.trans hcz.symm) (by have := all_oneCell_toArray Hcs.out.o; rwa [Array.toArray_toList] at this)
  clear hzs hcs hds hr hS
  go_enter Tryd.func43, Tryd.ntmps43
  go_wp2_with fail
  refine (E1.out _ (keep_new _ _)).mono ?_
  rintro e w1 ⟨rfl, k1⟩
  have kw1 := keep_trans (keep_new w _) k1
  have Hb1 := Lib.hid ((show Blk _ w.heap.size 33 zs.toList from Blk.new w 33 zs.toList).keep k1)
  go_wp2_with fail
  have hbn : Blk (w1.alloc (.cells cs 33)) w1.heap.size 33 cs.toList := Blk.new w1 33 cs.toList
  refine (E2.out _ _ (keep_trans kw1 (keep_new _ _)) hbn.rd).mono ?_
  rintro e w2 ⟨rfl, k2⟩
  have kw2 := keep_trans (keep_trans kw1 (keep_new w1 (.cells cs 33))) k2
  obtain ⟨w8, hst, hb8, hg8⟩ := run_store_blk (P := Tryd.prog) ds.toList ((Hb1.out.alloc _).keep k2) (by simp [hz1, hdz]) Hds.out.o
  have Hg8 := Lib.hid hg8; have Hb8 := Lib.hid hb8; clear hg8 hb8 hst1
  go_wp2
  have hb8 := Hb8.out
  exact bodyPost_ret (v := .agg ds) (results_cell_row Tryd.results43 _ _ w.heap.size _ _ _ (.array 32 5) rfl hb8 hash_under rfl (by rw [List.size_toArray, Array.length_toList]; exact Hds.out.i)) rfl ⟨rfl, kw2.grown Hg8.out kw2.size (fun q hq => by injection hq with hq; omega)⟩
end Go.Proofs.YtielojlhdnimgaaDoor
