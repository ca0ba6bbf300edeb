/- retarget.Sane. -/
import Derived.Test.YteoilddiilegmaaDoorRt
set_option linter.unusedSimpArgs false
set_option linter.unusedVariables false
namespace Go.Proofs.YteoilddiilegmaaDoor
open Go.RowKit
attribute [local go_sem ↓] Go.wp_at_zero Go.wp_at_succ

theorem boolT : (Tryd.prog.underlying 81 = some (.slice 4)) ∧ (Tryd.prog.info? 4).map (fun i => (i.zero, i.size)) = some (some (.bool false), 1) := ⟨by kernel_rfl, by kernel_rfl⟩
theorem fill7 (b0 b1 b2 b3 b4 b5 b6 : Bool) : Instr.fill (fun i => some (i * 1, 1)) ((Array.range (7 * 1)).map ((Value.bool false).cells[· % (Value.bool false).cells.size]!)) [(0, .bool b0), (1, .bool b1), (2, .bool b2), (3, .bool b3), (4, .bool b4), (5, .bool b5), (6, .bool b6)] = some #[.bool b0, .bool b1, .bool b2, .bool b3, .bool b4, .bool b5, .bool b6] := by kernel_rfl

theorem wp_build7 {o : Oper} {a : Act} {w : World} {K : Act → World → Prop} {Q : Exit → Act → World → Prop} (x0 x1 x2 x3 x4 x5 x6 : Operand) (ho : o.op = .buildSlice 81 7 #[(0, x0), (1, x1), (2, x2), (3, x3), (4, x4), (5, x5), (6, x6)])
    (b0 b1 b2 b3 b4 b5 b6 : Bool) (h0 : a.eval x0 = .bool b0) (h1 : a.eval x1 = .bool b1) (h2 : a.eval x2 = .bool b2) (h3 : a.eval x3 = .bool b3) (h4 : a.eval x4 = .bool b4) (h5 : a.eval x5 = .bool b5) (h6 : a.eval x6 = .bool b6)
    (h : K (a.put o.dst (.slice (some ⟨w.heap.size, 0, none⟩) 7 7)) (w.alloc (.cells #[.bool b0, .bool b1, .bool b2, .bool b3, .bool b4, .bool b5, .bool b6] 4))) : o.wp Tryd.prog a w K Q := by
  obtain ⟨i, hi, hh⟩ := Option.map_eq_some_iff.1 boolT.2
  simp only [Prod.mk.injEq] at hh
  refine wp_buildSlice 81 4 7 _ ho _ i (.bool false) boolT.1 hi hh.1 (by rw [hh.2]; decide) (by rw [hh.2]; decide) ?_ h
  rw [hh.2]
  simp only [List.map_toArray, List.map_cons, List.map_nil, h0, h1, h2, h3, h4, h5, h6]
  exact fill7 b0 b1 b2 b3 b4 b5 b6

set_option maxRecDepth 100000 in
set_option maxHeartbeats 4000000 in
theorem sane_any (p : Par) (A : Option Addr) (c : Nat) (w : World) : Calls Tryd.prog 10 #[parV p A c] w fun e w' => e = .returned (.bool (saneR p)) ∧ Keep w w' := by
  have E1 : Hid (∀ y, Calls Tryd.prog 19 #[u32v p.limit] y fun e w' => e = .returned (.tuple #[uV (expN p.limit).1, .int .i64 (expN p.limit).2]) ∧ Keep y w') := Lib.hid fun y => expand_any p.limit y
  have W1 : Hid (∀ y, Calls Tryd.prog 28 #[iv p.itv, iv 1, iv 1048576] y fun e w' => e = .returned (.bool (decide (1 ≤ p.itv ∧ p.itv ≤ 1048576))) ∧ w' = y) := Lib.hid fun y => within_any _ _ _ (by decide) y
  have W2 : Hid (∀ y, Calls Tryd.prog 28 #[iv p.span, iv 4, iv 1099511627776] y fun e w' => e = .returned (.bool (decide (4 ≤ p.span ∧ p.span ≤ 1099511627776))) ∧ w' = y) := Lib.hid fun y => within_any _ _ _ (by decide) y
  have W3 : Hid (∀ y, Calls Tryd.prog 28 #[iv p.fut, iv 0, iv 4294967296] y fun e w' => e = .returned (.bool (decide (0 ≤ p.fut ∧ p.fut ≤ 4294967296))) ∧ w' = y) := Lib.hid fun y => within_any _ _ _ (by decide) y
  have W4 : Hid (∀ y, Calls Tryd.prog 28 #[iv p.idx, iv 0, iv 1048576] y fun e w' => e = .returned (.bool (decide (0 ≤ p.idx ∧ p.idx ≤ 1048576))) ∧ w' = y) := Lib.hid fun y => within_any _ _ _ (by decide) y
  have W5 : Hid (∀ y, Calls Tryd.prog 28 #[iv p.orp, iv 0, iv 1048576] y fun e w' => e = .returned (.bool (decide (0 ≤ p.orp ∧ p.orp ≤ 1048576))) ∧ w' = y) := Lib.hid fun y => within_any _ _ _ (by decide) y
  have HS : Hid (∀ r, saneR p = r → r = [decide (1 ≤ p.itv ∧ p.itv ≤ 1048576), decide (4 ≤ p.span ∧ p.span ≤ 1099511627776), decide ((expN p.limit).2 = 0), decide (0 ≤ p.fut ∧ p.fut ≤ 4294967296), decide (0 ≤ p.idx ∧ p.idx ≤ 1048576), decide (0 ≤ p.orp ∧ p.orp ≤ 1048576), decide (p.chks.length ≤ 100)].all id) := Lib.hid fun r e => by subst e; rfl
  replace HS := Lib.hid (HS.out _ rfl)
  unfold parV
  generalize saneR p = R at *
  generalize p.limit = limit at *
  generalize p.itv = itv at *
  generalize p.span = span at *
  generalize p.fut = fut at *
  generalize p.idx = idx at *
  generalize p.orp = orp at *
  generalize p.chks.length = n at *
  generalize expN limit = X at *
  obtain ⟨L, le⟩ := X
  simp only at E1 HS
  obtain ⟨b0, hb0⟩ : ∃ b, decide (1 ≤ itv ∧ itv ≤ 1048576) = b := ⟨_, rfl⟩
  obtain ⟨b1, hb1⟩ : ∃ b, decide (4 ≤ span ∧ span ≤ 1099511627776) = b := ⟨_, rfl⟩
  obtain ⟨b2, hb2⟩ : ∃ b, decide (le = 0) = b := ⟨_, rfl⟩
  obtain ⟨b3, hb3⟩ : ∃ b, decide (0 ≤ fut ∧ fut ≤ 4294967296) = b := ⟨_, rfl⟩
  obtain ⟨b4, hb4⟩ : ∃ b, decide (0 ≤ idx ∧ idx ≤ 1048576) = b := ⟨_, rfl⟩
  obtain ⟨b5, hb5⟩ : ∃ b, decide (0 ≤ orp ∧ orp ≤ 1048576) = b := ⟨_, rfl⟩
  obtain ⟨b6, hb6⟩ : ∃ b, decide (n ≤ 100) = b := ⟨_, rfl⟩
  rw [hb0] at W1 HS; rw [hb1] at W2 HS; rw [hb2] at HS; rw [hb3] at W3 HS; rw [hb4] at W4 HS; rw [hb5] at W5 HS; rw [hb6] at HS
  have g2 : (le == 0) = b2 := by rw [← hb2]; rfl
  have g6 : decide ((n : Int) ≤ 100) = b6 := by rw [← hb6]; simp; omega
  clear hb0 hb1 hb2 hb3 hb4 hb5 hb6
  go_enter Tryd.func10, Tryd.ntmps10
  go_wp2_with fail
  refine (E1.out _).mono ?_
  clear E1
  rintro e w2 ⟨rfl, k2⟩
  have HK2 := Lib.hid (keep_trans (keep_new w _) k2)
  have HB2 : Hid (Blk w2 w.heap.size 25 [u32v limit, iv itv, iv span, iv fut, iv idx, iv orp, .slice A n c]) := Lib.hid ((Blk.new w 25 [u32v limit, iv itv, iv span, iv fut, iv idx, iv orp, .slice A n c]).keep k2)
  have hzw : w.heap.size < w2.heap.size := HB2.out.lt
  clear k2
  go_upto_region 2 with fail
  obtain ⟨w3, hw3⟩ : ∃ w3, w3 = w2.alloc (.cells #[n64 (limb L 0), n64 (limb L 1), n64 (limb L 2), n64 (limb L 3)] 49) := ⟨_, rfl⟩
  have HB3 : Hid (Blk w3 w.heap.size 25 [u32v limit, iv itv, iv span, iv fut, iv idx, iv orp, .slice A n c]) := by rw [hw3]; exact Lib.hid (HB2.out.keep (keep_new _ _))
  have HK3 : Hid (Keep w w3) := by rw [hw3]; exact Lib.hid (keep_trans HK2.out (keep_new _ _))
  rw [← hw3]
  clear hw3 HK2 HB2
  refine wp_region_tree (.take [0,1,3,4,6,7,8,9,11,12,14,15,17,18,19,20] (.force [2,5,10,13,16,21,22] (.take [23] .done))) [] (by kernel_rfl) (by kernel_rfl) (fun w9 k9 => ?_)
  have HB9 := HB3.out.keep k9
  have HK9 := Lib.hid (keep_trans HK3.out k9)
  have c1 := aft_cell (HB9.cell 1)
  have c2 := aft_cell (HB9.cell 2)
  have c3 := aft_cell (HB9.cell 3)
  have c4 := aft_cell (HB9.cell 4)
  have c5 := aft_cell (HB9.cell 5)
  have c6 := aft_cell (HB9.cell 6)
  clear HB3 HK3 k9 HB9
  refine mt_take w9 (Below.refl _ _) ?_
  simp only [pick_cons, pick_nil, nth_zero, nth_succ]
  repeat (go_big_quiet_step (fail))
  refine wpQuiet_nil ?_
  clear c1 c2 c3 c4 c5 c6
  refine mt_force ?_
  simp only [pick_cons, pick_nil, nth_zero, nth_succ]
  refine fc_step rfl (fun K hK => ?_)
  go_simp
  (with_reducible refine (W1.out _).mono ?_)
  rintro e w' ⟨rfl, rfl⟩
  refine hK _ _ (Below.refl _ _) ?_
  clear hK K
  refine fc_step rfl (fun K hK => ?_)
  go_simp
  (with_reducible refine (W2.out _).mono ?_)
  rintro e w' ⟨rfl, rfl⟩
  refine hK _ _ (Below.refl _ _) ?_
  clear hK K
  refine fc_step rfl (fun K hK => ?_)
  go_simp
  (with_reducible refine (W3.out _).mono ?_)
  rintro e w' ⟨rfl, rfl⟩
  refine hK _ _ (Below.refl _ _) ?_
  clear hK K
  refine fc_step rfl (fun K hK => ?_)
  go_simp
  (with_reducible refine (W4.out _).mono ?_)
  rintro e w' ⟨rfl, rfl⟩
  refine hK _ _ (Below.refl _ _) ?_
  clear hK K
  refine fc_step rfl (fun K hK => ?_)
  go_simp
  (with_reducible refine (W5.out _).mono ?_)
  rintro e w' ⟨rfl, rfl⟩
  refine hK _ _ (Below.refl _ _) ?_
  clear hK K
  refine fc_step rfl (fun K hK => ?_)
  refine wp_build7 _ _ _ _ _ _ _ rfl b0 b1 b2 b3 b4 b5 b6 rfl rfl rfl rfl rfl rfl rfl ?_
  refine hK _ _ (keep_new _ _) ?_
  clear hK K
  have HL : Hid (∀ y, Keep (w'.alloc (.cells #[.bool b0, .bool b1, .bool b2, .bool b3, .bool b4, .bool b5, .bool b6] 4)) y → Calls Tryd.prog 27 #[.slice (some ⟨w'.heap.size, 0, none⟩) 7 7] y fun e w' => e = .returned (.bool R) ∧ w' = y) := Lib.hid fun y hy => by
    have h := all_any (some ⟨w'.heap.size, 0, none⟩) [b0, b1, b2, b3, b4, b5, b6] 7 y (by simp) ((Blk.new w' 4 [.bool b0, .bool b1, .bool b2, .bool b3, .bool b4, .bool b5, .bool b6]).keep hy).rd
    rw [← HS.out] at h
    exact h
  refine fc_step rfl (fun K hK => ?_)
  simp only [Act.put, Array.set!_eq_setIfInBounds, List.setIfInBounds_toArray, List.set_cons_succ, List.set_cons_zero]
  go_simp
  (with_reducible refine (HL.out _ (Below.refl _ _)).mono ?_)
  rintro e w4 ⟨rfl, rfl⟩
  refine hK _ _ (Below.refl _ _) ?_
  clear hK K
  refine fc_nil ?_
  refine mt_take _ (Below.refl _ _) ?_
  simp only [pick_cons, pick_nil, nth_zero, nth_succ]
  repeat (go_big_quiet_step (fail))
  refine wpQuiet_nil ?_
  refine mt_end ?_
  go_wp2
  exact bodyPost_ret (v := .bool R) (by simp [results, Tryd.results10]) rfl ⟨rfl, keep_trans HK9.out (keep_new _ _)⟩
end Go.Proofs.YteoilddiilegmaaDoor
