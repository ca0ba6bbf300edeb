/- Texts merged by pack.py: Rt, Rs, Rn, Rm, Ei, Hm, Rp, Rq, Tm. -/
import Derived.Test.YtjbdboekleaklaaGreatDoorCx6
import Derived.Great.BuildSlice
import Derived.Test.YtjbdboekleaklaaGreatDoorCx5
import Derived.LaidEql
import Derived.Stop.Asserts
import Derived.RowKitTokens
import Derived.Lib.IfaceEq
import Derived.Test.YtjbdboekleaklaaGreatDoorCx4
import Derived.Test.YtjbdboekleaklaaGreatDoorCx3
import Derived.Maps.OwnOps
/- retarget: between, within, all, Clamp, First. -/
set_option linter.unusedSimpArgs false
set_option linter.unusedVariables false
namespace Go.Proofs.YtjbdboekleaklaaGreatDoor
open Go.RowKit
attribute [local go_sem ↓] Go.wp_at_zero Go.wp_at_succ

abbrev iv (n : Int) : Value := .int .i64 n
def btw (n a b : Int) : Int := min (max n a) b
theorem btw_eq {n a b : Int} (h : a ≤ b) : (n == btw n a b) = decide (a ≤ n ∧ n ≤ b) := by
  unfold btw
  rw [Bool.eq_iff_iff]; simp; omega

set_option maxRecDepth 100000 in
theorem between_any (n a b : Int) (w : World) : Calls Tryz.prog 73 #[iv n, iv a, iv b] w fun e w' => e = .returned (iv (btw n a b)) ∧ w' = w := by
  have hM : Hid (∀ r, btw n a b = r → r = min (max n a) b) := Lib.hid fun r e => by subst e; rfl
  replace hM := Lib.hid (hM.out _ rfl)
  generalize btw n a b = r at *
  go_enter Tryz.func73, Tryz.ntmps73
  go_wp2
  exact bodyPost_ret (v := iv r) (by rw [hM.out]; simp [results, Tryz.results73]) rfl ⟨rfl, rfl⟩

set_option maxRecDepth 100000 in
theorem within_any (n a b : Int) (hab : a ≤ b) (w : World) : Calls Tryz.prog 59 #[iv n, iv a, iv b] w fun e w' => e = .returned (.bool (decide (a ≤ n ∧ n ≤ b))) ∧ w' = w := by
  have hb := btw_eq (n := n) hab
  have HB := Lib.hid hb
  clear hb hab
  go_enter Tryz.func59, Tryz.ntmps59
  go_wp2_with fail
  refine (between_any n a b _).mono ?_
  rintro x w' ⟨rfl, rfl⟩
  go_wp2
  exact bodyPost_ret (v := .bool (decide (a ≤ n ∧ n ≤ b))) (by rw [← HB.out]; simp [results, Tryz.results59]) rfl ⟨rfl, rfl⟩

set_option maxRecDepth 100000 in
set_option maxHeartbeats 1000000 in
theorem all_any (A : Option Addr) (l : List Bool) (c : Nat) (w : World) (hl : l.length ≤ 100) (hr : Rd w A (l.map Value.bool)) :
    Calls Tryz.prog 58 #[.slice A l.length c] w fun e w' => e = .returned (.bool (l.all id)) ∧ w' = w := by
  have HA : Hid (∀ r, l.all id = r → r = l.all id) := Lib.hid fun r e => e.symm
  obtain ⟨r, hr0⟩ : ∃ r, r = l.all id := ⟨_, rfl⟩
  rw [← hr0]
  replace hr0 := Lib.hid hr0
  clear HA
  go_enter Tryz.func58, Tryz.ntmps58
  go_wp2
  go_loopw [7] (fun i wr => ∃ k : Nat, k ≤ l.length ∧ i = .int .i64 k ∧ (l.take k).all id = true ∧ wr = w) (fun i _ => l.length - (intOf i).toNat)
  case atStart => exact ⟨0, Nat.zero_le _, rfl, rfl, rfl⟩
  case round =>
    obtain ⟨k, hk, rfl, hall, rfl⟩ := hrel
    by_cases hkl : k < l.length
    · have g1 : (k : Int) < l.length := by omega
      obtain ⟨b, off, rfl, hb, F⟩ := hr.at (k := k) (by simpa using hkl)
      have hc := F k (by simpa using hkl)
      have hx : (l.map Value.bool)[k]'(by simpa using hkl) = .bool l[k] := by simp
      rw [hx] at hc
      have htk : (l.take (k + 1)).all id = ((l.take k).all id && l[k]) := by rw [List.take_succ_eq_append_getElem hkl, List.all_append]; simp
      by_cases hv : l[k] = true
      · rw [hv] at hc htk
        go_wp2
        exact ⟨⟨k + 1, by omega, by simp, by rw [htk, hall]; rfl, trivial⟩, by simp [intOf]; omega⟩
      · have hf : l[k] = false := by simpa using hv
        rw [hf] at hc
        have hno : l.all id = false := by
          rw [List.all_eq_false]
          exact ⟨l[k], List.getElem_mem hkl, by simp [hf]⟩
        have hrr : r = false := hr0.out.trans hno
        subst hrr
        clear hno hall
        go_wp2
        go_ret
        exact ⟨rfl, rfl⟩
    · have g1 : ¬ (k : Int) < l.length := by omega
      have hkk : k = l.length := by omega
      have hyes : l.all id = true := by rw [hkk, List.take_length] at hall; exact hall
      have hrr : r = true := hr0.out.trans hyes
      subst hrr
      clear hyes hall
      go_wp2
      go_ret
      exact ⟨rfl, rfl⟩

set_option maxRecDepth 100000 in
set_option maxHeartbeats 1000000 in
theorem clamp_any (x s : Int) (w : World) (hs1 : 4 ≤ s) (hs2 : s ≤ 1099511627776) : Calls Tryz.prog 74 #[iv x, iv s] w fun e w' => e = .returned (iv (btw x (s.tdiv 4) (4 * s))) ∧ w' = w := by
  have hb : btw s 4 1099511627776 = s := by unfold btw; omega
  have B1 : Hid (∀ w, Calls Tryz.prog 73 #[iv s, iv 4, iv 1099511627776] w fun e w' => e = .returned (iv s) ∧ w' = w) := Lib.hid fun w => by have := between_any s 4 1099511627776 w; rw [hb] at this; exact this
  have B2 : Hid (∀ w, Calls Tryz.prog 73 #[iv x, iv (s.tdiv 4), iv (4 * s)] w fun e w' => e = .returned (iv (btw x (s.tdiv 4) (4 * s))) ∧ w' = w) := Lib.hid fun w => between_any _ _ _ w
  have hw4 : IntKind.i64.wrap (4 * s) = 4 * s := IntWalk.i64_in _ (by omega)
  have hd1 : IntKind.i64.wrap (s.tdiv 4) = s.tdiv 4 := IntWalk.i64_in _ (by have := Int.tdiv_eq_ediv_of_nonneg (a := s) (b := 4) (by omega); omega)
  clear hb
  generalize btw x (s.tdiv 4) (4 * s) = r at *
  obtain ⟨q, hq⟩ : ∃ q, s.tdiv 4 = q := ⟨_, rfl⟩
  obtain ⟨m, hm⟩ : ∃ m, 4 * s = m := ⟨_, rfl⟩
  rw [hq] at B2 hd1
  rw [hm] at B2 hw4
  go_enter Tryz.func74, Tryz.ntmps74
  go_wp2_with fail
  refine (B1.out _).mono ?_
  rintro e w' ⟨rfl, rfl⟩
  go_wp2_with fail
  refine (B2.out _).mono ?_
  rintro e w' ⟨rfl, rfl⟩
  go_wp2
  exact bodyPost_ret (v := iv r) (by simp [results, Tryz.results74]) rfl ⟨rfl, rfl⟩

def firstI (n i : Int) : Int := if n ≤ btw i 1 1048576 then 0 else n - btw i 1 1048576
set_option maxRecDepth 100000 in
theorem first_any (n i : Int) (w : World) (hn : 0 ≤ n) (hn2 : n ≤ 1000000) : Calls Tryz.prog 61 #[iv n, iv i] w fun e w' => e = .returned (iv (firstI n i)) ∧ w' = w := by
  have hb : 1 ≤ btw i 1 1048576 ∧ btw i 1 1048576 ≤ 1048576 := by unfold btw; omega
  have hF : Hid (∀ r, firstI n i = r → r = if n ≤ btw i 1 1048576 then 0 else n - btw i 1 1048576) := Lib.hid fun r e => by subst e; rfl
  replace hF := Lib.hid (hF.out _ rfl)
  generalize firstI n i = r at *
  have hB := fun w => between_any i 1 1048576 w
  generalize btw i 1 1048576 = m at *
  obtain ⟨b1, b2⟩ := hb
  go_enter Tryz.func61, Tryz.ntmps61
  go_wp2_with fail
  refine (hB _).mono ?_
  clear hB
  rintro e w' ⟨rfl, rfl⟩
  by_cases h : n ≤ m
  · have hr := hF.out
    rw [if_pos h] at hr
    subst hr
    clear hF
    go_wp2
    exact bodyPost_ret (v := iv 0) (by simp [results, Tryz.results61]) rfl ⟨rfl, rfl⟩
  · have hr := hF.out
    rw [if_neg h] at hr
    subst hr
    clear hF
    go_wp2
    exact bodyPost_ret (v := iv (n - m)) (by simp [results, Tryz.results61]) rfl ⟨rfl, rfl⟩

/-- Rules. -/
structure Par where
  limit : UInt32
  itv : Int
  span : Int
  fut : Int
  idx : Int
  orp : Int
  chks : List (Int × List UInt8)
def parV (p : Par) (A : Option Addr) (c : Nat) : Value := .agg #[u32v p.limit, iv p.itv, iv p.span, iv p.fut, iv p.idx, iv p.orp, .slice A p.chks.length c]
def saneL (p : Par) : List Bool := [decide (1 ≤ p.itv ∧ p.itv ≤ 1048576), decide (4 ≤ p.span ∧ p.span ≤ 1099511627776), decide ((expN p.limit).2 = 0), decide (0 ≤ p.fut ∧ p.fut ≤ 4294967296), decide (0 ≤ p.idx ∧ p.idx ≤ 1048576), decide (0 ≤ p.orp ∧ p.orp ≤ 1048576), decide (p.chks.length ≤ 100)]
def saneR (p : Par) : Bool := (saneL p).all id
theorem saneR_iff (p : Par) : saneR p = true ↔ (1 ≤ p.itv ∧ p.itv ≤ 1048576) ∧ (4 ≤ p.span ∧ p.span ≤ 1099511627776) ∧ (expN p.limit).2 = 0 ∧ (0 ≤ p.fut ∧ p.fut ≤ 4294967296) ∧ (0 ≤ p.idx ∧ p.idx ≤ 1048576) ∧ (0 ≤ p.orp ∧ p.orp ≤ 1048576) ∧ p.chks.length ≤ 100 := by
  simp [saneR, saneL]

end Go.Proofs.YtjbdboekleaklaaGreatDoor

/- retarget.Sane. -/
set_option linter.unusedSimpArgs false
set_option linter.unusedVariables false
namespace Go.Proofs.YtjbdboekleaklaaGreatDoor
open Go.RowKit
attribute [local go_sem ↓] Go.wp_at_zero Go.wp_at_succ

theorem boolT : (Tryz.prog.underlying 126 = some (.slice 4)) ∧ (Tryz.prog.info? 4).map (fun i => (i.zero, i.size)) = some (some (.bool false), 1) := ⟨by kernel_rfl, by kernel_rfl⟩
theorem fill7 (b0 b1 b2 b3 b4 b5 b6 : Bool) : Instr.fill (fun i => some (i * 1, 1)) ((Array.range (7 * 1)).map ((Value.bool false).cells[· % (Value.bool false).cells.size]!)) [(0, .bool b0), (1, .bool b1), (2, .bool b2), (3, .bool b3), (4, .bool b4), (5, .bool b5), (6, .bool b6)] = some #[.bool b0, .bool b1, .bool b2, .bool b3, .bool b4, .bool b5, .bool b6] := by kernel_rfl

theorem wp_build7 {o : Oper} {a : Act} {w : World} {K : Act → World → Prop} {Q : Exit → Act → World → Prop} (x0 x1 x2 x3 x4 x5 x6 : Operand) (ho : o.op = .buildSlice 126 7 #[(0, x0), (1, x1), (2, x2), (3, x3), (4, x4), (5, x5), (6, x6)])
    (b0 b1 b2 b3 b4 b5 b6 : Bool) (h0 : a.eval x0 = .bool b0) (h1 : a.eval x1 = .bool b1) (h2 : a.eval x2 = .bool b2) (h3 : a.eval x3 = .bool b3) (h4 : a.eval x4 = .bool b4) (h5 : a.eval x5 = .bool b5) (h6 : a.eval x6 = .bool b6)
    (h : K (a.put o.dst (.slice (some ⟨w.heap.size, 0, none⟩) 7 7)) (w.alloc (.cells #[.bool b0, .bool b1, .bool b2, .bool b3, .bool b4, .bool b5, .bool b6] 4))) : o.wp Tryz.prog a w K Q := by
  obtain ⟨i, hi, hh⟩ := Option.map_eq_some_iff.1 boolT.2
  simp only [Prod.mk.injEq] at hh
  refine wp_buildSlice 126 4 7 _ ho _ i (.bool false) boolT.1 hi hh.1 (by rw [hh.2]; decide) (by rw [hh.2]; decide) ?_ h
  rw [hh.2]
  simp only [List.map_toArray, List.map_cons, List.map_nil, h0, h1, h2, h3, h4, h5, h6]
  exact fill7 b0 b1 b2 b3 b4 b5 b6

set_option maxRecDepth 100000 in
set_option maxHeartbeats 4000000 in
theorem sane_any (p : Par) (A : Option Addr) (c : Nat) (w : World) : Calls Tryz.prog 42 #[parV p A c] w fun e w' => e = .returned (.bool (saneR p)) ∧ Keep w w' := by
  have E1 : Hid (∀ y, Calls Tryz.prog 48 #[u32v p.limit] y fun e w' => e = .returned (.tuple #[uV (expN p.limit).1, .int .i64 (expN p.limit).2]) ∧ Keep y w') := Lib.hid fun y => expand_any p.limit y
  have W1 : Hid (∀ y, Calls Tryz.prog 59 #[iv p.itv, iv 1, iv 1048576] y fun e w' => e = .returned (.bool (decide (1 ≤ p.itv ∧ p.itv ≤ 1048576))) ∧ w' = y) := Lib.hid fun y => within_any _ _ _ (by decide) y
  have W2 : Hid (∀ y, Calls Tryz.prog 59 #[iv p.span, iv 4, iv 1099511627776] y fun e w' => e = .returned (.bool (decide (4 ≤ p.span ∧ p.span ≤ 1099511627776))) ∧ w' = y) := Lib.hid fun y => within_any _ _ _ (by decide) y
  have W3 : Hid (∀ y, Calls Tryz.prog 59 #[iv p.fut, iv 0, iv 4294967296] y fun e w' => e = .returned (.bool (decide (0 ≤ p.fut ∧ p.fut ≤ 4294967296))) ∧ w' = y) := Lib.hid fun y => within_any _ _ _ (by decide) y
  have W4 : Hid (∀ y, Calls Tryz.prog 59 #[iv p.idx, iv 0, iv 1048576] y fun e w' => e = .returned (.bool (decide (0 ≤ p.idx ∧ p.idx ≤ 1048576))) ∧ w' = y) := Lib.hid fun y => within_any _ _ _ (by decide) y
  have W5 : Hid (∀ y, Calls Tryz.prog 59 #[iv p.orp, iv 0, iv 1048576] y fun e w' => e = .returned (.bool (decide (0 ≤ p.orp ∧ p.orp ≤ 1048576))) ∧ w' = y) := Lib.hid fun y => within_any _ _ _ (by decide) y
  have HS : Hid (∀ r, saneR p = r → r = [decide (1 ≤ p.itv ∧ p.itv ≤ 1048576), decide (4 ≤ p.span ∧ p.span ≤ 1099511627776), decide ((expN p.limit).2 = 0), decide (0 ≤ p.fut ∧ p.fut ≤ 4294967296), decide (0 ≤ p.idx ∧ p.idx ≤ 1048576), decide (0 ≤ p.orp ∧ p.orp ≤ 1048576), decide (p.chks.length ≤ 100)].all id) := Lib.hid fun r e => by subst e; rfl
  replace HS := Lib.hid (HS.out _ rfl)
  unfold parV
  generalize saneR p = R at *
  generalize p.limit = limit at *
  generalize p.itv = itv at *
  generalize p.span = span at *
  generalize p.fut = fut at *
  generalize p.idx = idx at *
  generalize p.orp = orp at *
  generalize p.chks.length = n at *
  generalize expN limit = X at *
  obtain ⟨L, le⟩ := X
  simp only at E1 HS
  obtain ⟨b0, hb0⟩ : ∃ b, decide (1 ≤ itv ∧ itv ≤ 1048576) = b := ⟨_, rfl⟩
  obtain ⟨b1, hb1⟩ : ∃ b, decide (4 ≤ span ∧ span ≤ 1099511627776) = b := ⟨_, rfl⟩
  obtain ⟨b2, hb2⟩ : ∃ b, decide (le = 0) = b := ⟨_, rfl⟩
  obtain ⟨b3, hb3⟩ : ∃ b, decide (0 ≤ fut ∧ fut ≤ 4294967296) = b := ⟨_, rfl⟩
  obtain ⟨b4, hb4⟩ : ∃ b, decide (0 ≤ idx ∧ idx ≤ 1048576) = b := ⟨_, rfl⟩
  obtain ⟨b5, hb5⟩ : ∃ b, decide (0 ≤ orp ∧ orp ≤ 1048576) = b := ⟨_, rfl⟩
  obtain ⟨b6, hb6⟩ : ∃ b, decide (n ≤ 100) = b := ⟨_, rfl⟩
  rw [hb0] at W1 HS; rw [hb1] at W2 HS; rw [hb2] at HS; rw [hb3] at W3 HS; rw [hb4] at W4 HS; rw [hb5] at W5 HS; rw [hb6] at HS
  have g2 : (le == 0) = b2 := by rw [← hb2]; rfl
  have g6 : decide ((n : Int) ≤ 100) = b6 := by rw [← hb6]; simp; omega
  clear hb0 hb1 hb2 hb3 hb4 hb5 hb6
  go_enter Tryz.func42, Tryz.ntmps42
  go_wp2_with fail
  refine (E1.out _).mono ?_
  clear E1
  rintro e w2 ⟨rfl, k2⟩
  have HK2 := Lib.hid (keep_trans (keep_new w _) k2)
  have HB2 : Hid (Blk w2 w.heap.size 64 [u32v limit, iv itv, iv span, iv fut, iv idx, iv orp, .slice A n c]) := Lib.hid ((Blk.new w 64 [u32v limit, iv itv, iv span, iv fut, iv idx, iv orp, .slice A n c]).keep k2)
  have hzw : w.heap.size < w2.heap.size := HB2.out.lt
  clear k2
  go_upto_region 2 with fail
  obtain ⟨w3, hw3⟩ : ∃ w3, w3 = w2.alloc (.cells #[n64 (limb L 0), n64 (limb L 1), n64 (limb L 2), n64 (limb L 3)] 42) := ⟨_, rfl⟩
  have HB3 : Hid (Blk w3 w.heap.size 64 [u32v limit, iv itv, iv span, iv fut, iv idx, iv orp, .slice A n c]) := by rw [hw3]; exact Lib.hid (HB2.out.keep (keep_new _ _))
  have HK3 : Hid (Keep w w3) := by rw [hw3]; exact Lib.hid (keep_trans HK2.out (keep_new _ _))
  rw [← hw3]
  clear hw3 HK2 HB2
  refine wp_region_tree (.take [0,1,3,4,6,7,8,9,11,12,14,15,17,18,19,20] (.force [2,5,10,13,16,21,22] (.take [23] .done))) [] (by kernel_rfl) (by kernel_rfl) (fun w9 k9 => ?_)
  have HB9 := HB3.out.keep k9
  have HK9 := Lib.hid (keep_trans HK3.out k9)
  have c1 := aft_cell (HB9.cell 1)
  have c2 := aft_cell (HB9.cell 2)
  have c3 := aft_cell (HB9.cell 3)
  have c4 := aft_cell (HB9.cell 4)
  have c5 := aft_cell (HB9.cell 5)
  have c6 := aft_cell (HB9.cell 6)
  clear HB3 HK3 k9 HB9
  refine mt_take w9 (Below.refl _ _) ?_
  simp only [pick_cons, pick_nil, nth_zero, nth_succ]
  repeat (go_big_quiet_step (fail))
  refine wpQuiet_nil ?_
  clear c1 c2 c3 c4 c5 c6
  refine mt_force ?_
  simp only [pick_cons, pick_nil, nth_zero, nth_succ]
  refine fc_step rfl (fun K hK => ?_)
  go_simp
  (with_reducible refine (W1.out _).mono ?_)
  rintro e w' ⟨rfl, rfl⟩
  refine hK _ _ (Below.refl _ _) ?_
  clear hK K
  refine fc_step rfl (fun K hK => ?_)
  go_simp
  (with_reducible refine (W2.out _).mono ?_)
  rintro e w' ⟨rfl, rfl⟩
  refine hK _ _ (Below.refl _ _) ?_
  clear hK K
  refine fc_step rfl (fun K hK => ?_)
  go_simp
  (with_reducible refine (W3.out _).mono ?_)
  rintro e w' ⟨rfl, rfl⟩
  refine hK _ _ (Below.refl _ _) ?_
  clear hK K
  refine fc_step rfl (fun K hK => ?_)
  go_simp
  (with_reducible refine (W4.out _).mono ?_)
  rintro e w' ⟨rfl, rfl⟩
  refine hK _ _ (Below.refl _ _) ?_
  clear hK K
  refine fc_step rfl (fun K hK => ?_)
  go_simp
  (with_reducible refine (W5.out _).mono ?_)
  rintro e w' ⟨rfl, rfl⟩
  refine hK _ _ (Below.refl _ _) ?_
  clear hK K
  refine fc_step rfl (fun K hK => ?_)
  refine wp_build7 _ _ _ _ _ _ _ rfl b0 b1 b2 b3 b4 b5 b6 rfl rfl rfl rfl rfl rfl rfl ?_
  refine hK _ _ (keep_new _ _) ?_
  clear hK K
  have HL : Hid (∀ y, Keep (w'.alloc (.cells #[.bool b0, .bool b1, .bool b2, .bool b3, .bool b4, .bool b5, .bool b6] 4)) y → Calls Tryz.prog 58 #[.slice (some ⟨w'.heap.size, 0, none⟩) 7 7] y fun e w' => e = .returned (.bool R) ∧ w' = y) := Lib.hid fun y hy => by
    have h := all_any (some ⟨w'.heap.size, 0, none⟩) [b0, b1, b2, b3, b4, b5, b6] 7 y (by simp) ((Blk.new w' 4 [.bool b0, .bool b1, .bool b2, .bool b3, .bool b4, .bool b5, .bool b6]).keep hy).rd
    rw [← HS.out] at h
    exact h
  refine fc_step rfl (fun K hK => ?_)
  simp only [Act.put, Array.set!_eq_setIfInBounds, List.setIfInBounds_toArray, List.set_cons_succ, List.set_cons_zero]
  go_simp
  (with_reducible refine (HL.out _ (Below.refl _ _)).mono ?_)
  rintro e w4 ⟨rfl, rfl⟩
  refine hK _ _ (Below.refl _ _) ?_
  clear hK K
  refine fc_nil ?_
  refine mt_take _ (Below.refl _ _) ?_
  simp only [pick_cons, pick_nil, nth_zero, nth_succ]
  repeat (go_big_quiet_step (fail))
  refine wpQuiet_nil ?_
  refine mt_end ?_
  go_wp2
  exact bodyPost_ret (v := .bool R) (by simp [results, Tryz.results42]) rfl ⟨rfl, keep_trans HK9.out (keep_new _ _)⟩
end Go.Proofs.YtjbdboekleaklaaGreatDoor

/- retarget.Next, Chain. -/
set_option linter.unusedSimpArgs false
set_option linter.unusedVariables false
namespace Go.Proofs.YtjbdboekleaklaaGreatDoor
open Go.RowKit
attribute [local go_sem ↓] Go.wp_at_zero Go.wp_at_succ

def hd0 : Hd := ⟨0, [], [], 0, 0, 0⟩
def actR (p : Par) (h : Hd) (f : UInt32) : Nat := (btw ((h.time.toNat : Int) - f.toNat) (p.span.tdiv 4) (4 * p.span)).toNat
def nextR (p : Par) (n : Int) (h : Hd) (f : UInt32) : UInt32 :=
  if saneR p = false then p.limit else if n.tmod p.itv ≠ 0 then h.bits else scaN h.bits (actR p h f) p.span.toNat p.limit
def chainR (p : Par) (l : List Hd) : UInt32 :=
  if l.length = 0 then p.limit else nextR p l.length (l.getD (l.length - 1) hd0) (l.getD (firstI l.length p.itv).toNat hd0).time

theorem hd_time {h : Hd} (hk : h.ok) : h.cells[65]? = some (u32v h.time) := by
  have e : h.cells = (u32v h.ver :: (h.prev.map u8v ++ h.root.map u8v)) ++ (u32v h.time :: [u32v h.bits, u32v h.nonce]) := by simp [Hd.cells]
  rw [e, List.getElem?_append_right (by simp [hk.1, hk.2])]
  simp [hk.1, hk.2]
theorem hd_bits {h : Hd} (hk : h.ok) : h.cells[66]? = some (u32v h.bits) := by
  have e : h.cells = (u32v h.ver :: (h.prev.map u8v ++ h.root.map u8v) ++ [u32v h.time]) ++ (u32v h.bits :: [u32v h.nonce]) := by simp [Hd.cells]
  rw [e, List.getElem?_append_right (by simp [hk.1, hk.2])]
  simp [hk.1, hk.2]
theorem heads_at {w : World} {B : Option Addr} {l : List Hd} (hr : Rd w B (l.flatMap Hd.cells)) (hk : ∀ h ∈ l, h.ok) {k : Nat} (h : k < l.length) :
    ∃ b off, B = some ⟨b, off, none⟩ ∧ b < w.heap.size ∧ w.rangeAt b (off + k * 68) l[k].cells := by
  have hlen : ∀ a ∈ l, a.cells.length = 68 := fun a ha => Hd.len (hk a ha)
  obtain ⟨b, off, rfl, hb, F⟩ := hr.at (k := k * 68) (by rw [flatMap_len' _ 68 _ hlen]; omega)
  refine ⟨b, off, rfl, hb, fun j v hv => ?_⟩
  have hj : j < 68 := by rw [← hlen l[k] (List.getElem_mem h)]; exact (List.getElem?_eq_some_iff.1 hv).1
  have hg := flatMap_get' Hd.cells 68 l hlen k j h hj
  have hlt : k * 68 + j < (l.flatMap Hd.cells).length := by rw [flatMap_len' _ 68 _ hlen]; omega
  have hc := F (k * 68 + j) hlt
  rw [Nat.add_assoc, hc, ← hv, ← hg, List.getElem?_eq_getElem hlt]

set_option maxRecDepth 100000 in
set_option maxHeartbeats 4000000 in
theorem next_any (p : Par) (A : Option Addr) (c : Nat) (n : Int) (h : Hd) (cs : Array Value) (f : UInt32) (w : World) (hn : 1 ≤ n) (hn2 : n ≤ 1000000) (hk : h.ok) (hcs : HdA h cs) :
    Calls Tryz.prog 62 #[parV p A c, iv n, .agg cs, u32v f] w fun e w' => e = .returned (u32v (nextR p n h f)) ∧ Keep w w' := by
  have S1 : Hid (∀ y, Calls Tryz.prog 42 #[parV p A c] y fun e w' => e = .returned (.bool (saneR p)) ∧ Keep y w') := Lib.hid fun y => sane_any p A c y
  have ht := hd_time hk; have hbt := hd_bits hk
  have HI := Lib.hid (saneR_iff p)
  have HN : Hid (∀ r, nextR p n h f = r → r = if saneR p = false then p.limit else if n.tmod p.itv ≠ 0 then h.bits else scaN h.bits (actR p h f) p.span.toNat p.limit) := Lib.hid fun r e => by subst e; rfl
  replace HN := Lib.hid (HN.out _ rfl)
  have HA : Hid (actR p h f = (btw ((h.time.toNat : Int) - f.toNat) (p.span.tdiv 4) (4 * p.span)).toNat) := Lib.hid rfl
  generalize nextR p n h f = R at *
  generalize actR p h f = k at *
  unfold parV at *
  generalize saneR p = S at *
  generalize p.limit = limit at *
  generalize p.itv = itv at *
  generalize p.span = span at *
  generalize p.fut = fut at *
  generalize p.idx = idx at *
  generalize p.orp = orp at *
  generalize hm : p.chks.length = m at *
  clear hm
  obtain ⟨tm, htm⟩ : ∃ x, h.time = x := ⟨_, rfl⟩
  obtain ⟨bt, hbi⟩ : ∃ x, h.bits = x := ⟨_, rfl⟩
  rw [htm] at ht HA; rw [hbi] at hbt HN
  have hcz := hcs.z; have hcn := hcs.n; have hci := hcs.i
  rw [← hcs.l] at ht hbt
  have Ht := Lib.hid ht; have Hbt := Lib.hid hbt
  clear htm hbi ht hbt hk hcs
  go_enter Tryz.func62, Tryz.ntmps62
  go_upto_region 1 with fail
  obtain ⟨w1, hw1⟩ : ∃ w1, w1 = (w.alloc (.cells #[u32v limit, iv itv, iv span, iv fut, iv idx, iv orp, .slice A m c] 64)).alloc (.cells cs 39) := ⟨_, rfl⟩
  have HP1 : Hid (Blk w1 w.heap.size 64 [u32v limit, iv itv, iv span, iv fut, iv idx, iv orp, .slice A m c]) := by rw [hw1]; exact Lib.hid ((Blk.new w 64 [u32v limit, iv itv, iv span, iv fut, iv idx, iv orp, .slice A m c]).alloc _)
  have HH1 : Hid (Blk w1 (w.heap.size + 1) 39 cs.toList) := by
    rw [hw1]
    have h2 := Blk.new (w.alloc (.cells #[u32v limit, iv itv, iv span, iv fut, iv idx, iv orp, .slice A m c] 64)) 39 cs.toList
    rw [World.size_alloc] at h2
    exact Lib.hid h2
  have HK1 : Hid (Keep w w1) := by rw [hw1]; exact Lib.hid (keep_trans (keep_new _ _) (keep_new _ _))
  rw [← hw1]
  clear hw1
  have p0 := HP1.out.cell 0
  have p1 := HP1.out.cell 1
  have p2 := HP1.out.cell 2
  have p3 := HP1.out.cell 3
  have p4 := HP1.out.cell 4
  have p5 := HP1.out.cell 5
  have p6 := HP1.out.cell 6
  simp only [List.getElem?_cons_succ, List.getElem?_cons_zero] at p0 p1 p2 p3 p4 p5 p6
  go_wp2_with fail
  refine (S1.out _).mono ?_
  clear S1 p0 p1 p2 p3 p4 p5 p6
  rintro e w2 ⟨rfl, k2⟩
  have p0 := (HP1.out.keep k2).cell 0
  have p1 := (HP1.out.keep k2).cell 1
  have p2 := (HP1.out.keep k2).cell 2
  have q0 := (HH1.out.keep k2).cell 65
  have q1 := (HH1.out.keep k2).cell 66
  rw [Ht.out] at q0
  rw [Hbt.out] at q1
  simp only [List.getElem?_cons_succ, List.getElem?_cons_zero] at p0 p1 p2
  have HK2 := Lib.hid (keep_trans HK1.out k2)
  clear k2 HP1 HH1 HK1 Ht Hbt
  cases S with
  | false =>
    have hR := HN.out
    rw [if_pos rfl] at hR
    subst hR
    clear HN HI
    go_wp2
    exact bodyPost_ret (v := u32v R) (by simp [results, Tryz.results62]) rfl ⟨rfl, HK2.out⟩
  | true =>
    obtain ⟨⟨i1, i2⟩, ⟨s1, s2⟩, -⟩ := HI.out.1 rfl
    clear HI
    have hR := HN.out
    rw [if_neg (by simp)] at hR
    replace HN := Lib.hid hR
    clear hR
    have g1 : ¬ n ≤ 0 := by omega
    have g2 : ¬ itv = 0 := by omega
    have g3 : (itv == 0) = false := by simp [g2]
    have tb1 : 0 ≤ n.tmod itv := Int.tmod_nonneg _ (by omega)
    have tb2 : n.tmod itv ≤ n := by rw [Int.tmod_eq_emod_of_nonneg (by omega)]; by_cases hq : n < itv; (· rw [Int.emod_eq_of_lt (by omega) hq]; omega); (· have := Int.emod_lt_of_pos n (show 0 < itv by omega); omega)
    have g4 : IntKind.i64.wrap (n.tmod itv) = n.tmod itv := IntWalk.i64_in _ (by omega)
    clear tb1 tb2
    obtain ⟨x, hx⟩ : ∃ x, n.tmod itv = x := ⟨_, rfl⟩
    rw [hx] at g4 HN
    by_cases h0 : x = 0
    · subst h0
      have hR := HN.out
      rw [if_neg (by simp)] at hR
      clear HN g4
      have hd4 : span.tdiv 4 = span / 4 := Int.tdiv_eq_ediv_of_nonneg (by omega)
      have bt1 := tm.toNat_lt
      have bt2 := f.toNat_lt
      have hkb : btw ((tm.toNat : Int) - f.toNat) (span.tdiv 4) (4 * span) = (k : Int) ∧ k < 18446744073709551616 := by
        have h1 := HA.out
        unfold btw at h1 ⊢
        omega
      have C1 : Hid (∀ y, Calls Tryz.prog 74 #[iv ((tm.toNat : Int) - f.toNat), iv span] y fun e w' => e = .returned (iv k) ∧ w' = y) := Lib.hid fun y => by
        have h1 := clamp_any ((tm.toNat : Int) - f.toNat) span y s1 s2
        rw [hkb.1] at h1
        exact h1
      have hk2 := hkb.2
      have v1 : IntKind.i64.wrap (tm.toNat : Int) = tm.toNat := IntWalk.i64_in _ (by omega)
      have v2 : IntKind.i64.wrap (f.toNat : Int) = f.toNat := IntWalk.i64_in _ (by omega)
      have v3 : IntKind.i64.wrap ((tm.toNat : Int) - f.toNat) = (tm.toNat : Int) - f.toNat := IntWalk.i64_in _ (by omega)
      obtain ⟨s, rfl⟩ : ∃ s : Nat, span = s := ⟨span.toNat, by omega⟩
      have hs2 : s < 18446744073709551616 := by omega
      have v4 : IntKind.u64.wrap (k : Int) = k := IntWalk.u64_in _ (by omega)
      have v5 : IntKind.u64.wrap (s : Int) = s := IntWalk.u64_in _ (by omega)
      rw [Int.toNat_natCast] at hR
      have C2 : Hid (∀ y, Calls Tryz.prog 75 #[u32v bt, n64 k, n64 s, u32v limit] y fun e w' => e = .returned (u32v R) ∧ Keep y w') := Lib.hid fun y => by
        rw [hR]
        exact scale_any bt limit k s y hk2 hs2
      obtain ⟨d, hd⟩ : ∃ d, (tm.toNat : Int) - f.toNat = d := ⟨_, rfl⟩
      rw [hd] at C1 v3
      clear hR HA hd4 hkb bt1 bt2 hk2 hs2 s1 s2
      go_wp2_with fail
      refine (C1.out _).mono ?_
      clear C1
      rintro e w3 ⟨rfl, rfl⟩
      go_wp2_with fail
      refine (C2.out _).mono ?_
      clear C2
      rintro e w4 ⟨rfl, k4⟩
      go_wp2
      exact bodyPost_ret (v := u32v R) (by simp [results, Tryz.results62]) rfl ⟨rfl, keep_trans HK2.out k4⟩
    · have hR := HN.out
      rw [if_pos h0] at hR
      subst hR
      have g5 : (x != 0) = true := by simp [h0]
      have g6 : (x == 0) = false := by simp [h0]
      clear HN
      go_wp2
      exact bodyPost_ret (v := u32v R) (by simp [results, Tryz.results62]) rfl ⟨rfl, HK2.out⟩
end Go.Proofs.YtjbdboekleaklaaGreatDoor

/- retarget.Chain. -/
set_option linter.unusedSimpArgs false
set_option linter.unusedVariables false
namespace Go.Proofs.YtjbdboekleaklaaGreatDoor
open Go.RowKit
attribute [local go_sem ↓] Go.wp_at_zero Go.wp_at_succ

set_option maxRecDepth 100000 in
set_option maxHeartbeats 4000000 in
theorem chain_any (p : Par) (A : Option Addr) (c : Nat) (B : Option Addr) (l : List Hd) (d : Nat) (w : World) (hl : l.length ≤ 1000) (hd : l.length ≤ d) (hr : Rd w B (l.flatMap Hd.cells)) (hk : ∀ h ∈ l, h.ok) :
    Calls Tryz.prog 44 #[parV p A c, .slice B l.length d] w fun e w' => e = .returned (u32v (chainR p l)) ∧ Keep w w' := by
  by_cases h0 : l.length = 0
  · have hR : chainR p l = p.limit := by unfold chainR; rw [if_pos h0]
    rw [hR, h0]
    clear hR h0 hr hk hl hd
    unfold parV
    generalize p.limit = limit
    generalize hm : p.chks.length = m
    clear hm
    go_enter Tryz.func44, Tryz.ntmps44
    go_wp2
    exact bodyPost_ret (v := u32v limit) (by simp [results, Tryz.results44]) rfl ⟨rfl, keep_new _ _⟩
  · have hb : 1 ≤ btw p.itv 1 1048576 := by unfold btw; omega
    obtain ⟨k, hkI, hkl⟩ : ∃ k : Nat, firstI (l.length : Int) p.itv = k ∧ k < l.length := by
      refine ⟨(firstI (l.length : Int) p.itv).toNat, ?_, ?_⟩ <;> (unfold firstI; split <;> omega)
    have hkl2 : l.length - 1 < l.length := by omega
    have F1 : Hid (∀ y, Calls Tryz.prog 61 #[iv l.length, iv p.itv] y fun e w' => e = .returned (iv k) ∧ w' = y) := Lib.hid fun y => by
      have h1 := first_any (l.length : Int) p.itv y (by omega) (by omega)
      rw [hkI] at h1
      exact h1
    have hR : chainR p l = nextR p l.length l[l.length - 1] l[k].time := by
      unfold chainR
      rw [if_neg h0, hkI, Int.toNat_natCast]
      simp only [List.getD_eq_getElem?_getD, List.getElem?_eq_getElem hkl, List.getElem?_eq_getElem hkl2, Option.getD_some]
    have ok1 := hk _ (List.getElem_mem hkl)
    have ok2 := hk _ (List.getElem_mem hkl2)
    obtain ⟨b, off, rfl, hbw, r1⟩ := heads_at hr hk hkl
    obtain ⟨b', off', hB, hbw', r2⟩ := heads_at hr hk hkl2
    cases hB
    have N1 : Hid (∀ y cs, HdA l[l.length - 1] cs → Calls Tryz.prog 62 #[parV p A c, iv l.length, .agg cs, u32v l[k].time] y fun e w' => e = .returned (u32v (chainR p l)) ∧ Keep y w') := Lib.hid fun y cs hcs => by
      rw [hR]
      exact next_any p A c l.length _ cs _ y (by omega) (by omega) ok2 hcs
    have ht := hd_time ok1
    have hcs1 := HdA.of ok1
    have hcs2 := HdA.of ok2
    rw [← hcs1.l] at r1 ht
    rw [← hcs2.l] at r2
    obtain ⟨c1, hc1⟩ : ∃ x, l[k].cells.toArray = x := ⟨_, rfl⟩
    obtain ⟨c2, hc2⟩ : ∃ x, l[l.length - 1].cells.toArray = x := ⟨_, rfl⟩
    rw [hc1] at hcs1 r1 ht
    rw [hc2] at hcs2 r2
    replace N1 := Lib.hid fun y => N1.out y c2 hcs2
    have i1 := hcs1.i; have i2 := hcs2.i; have z1 := hcs1.z; have n1 := hcs1.n; have o1 := Lib.hid hcs1.o
    have R1 := Lib.hid r1; have R2 := Lib.hid r2; have Ht := Lib.hid ht
    obtain ⟨tm, htm⟩ : ∃ x, l[k].time = x := ⟨_, rfl⟩
    rw [htm] at N1 Ht
    clear hR hc1 hc2 hcs1 hcs2 r1 r2 ht htm hb hkI hr ok1 ok2 hbw' hk
    generalize chainR p l = R at *
    obtain ⟨n, hnn⟩ : ∃ n, l.length = n := ⟨_, rfl⟩
    rw [hnn] at hl hd h0 hkl hkl2 F1 R2 N1
    rw [hnn]
    clear hnn
    unfold parV at *
    generalize p.limit = limit at *
    generalize p.itv = itv at *
    generalize p.span = span at *
    generalize p.fut = fut at *
    generalize p.idx = idx at *
    generalize p.orp = orp at *
    generalize hm : p.chks.length = m at *
    clear hm
    obtain ⟨zs, hz1, hz2, hz3, -⟩ := zhead_letter
    have g1 : (n == 0) = false := by simp [h0]
    have g2 : ((n : Int) == 0) = false := by rw [beq_eq_false_iff_ne]; omega
    go_enter Tryz.func44, Tryz.ntmps44
    go_upto_region 3 with fail
    obtain ⟨w1, hw1⟩ : ∃ w1, w1 = w.alloc (.cells #[u32v limit, iv itv, iv span, iv fut, iv idx, iv orp, .slice A m c] 64) := ⟨_, rfl⟩
    have HP1 : Hid (Blk w1 w.heap.size 64 [u32v limit, iv itv, iv span, iv fut, iv idx, iv orp, .slice A m c]) := by rw [hw1]; exact Lib.hid (Blk.new w 64 [u32v limit, iv itv, iv span, iv fut, iv idx, iv orp, .slice A m c])
    have HK1 : Hid (Keep w w1) := by rw [hw1]; exact Lib.hid (keep_new _ _)
    rw [← hw1]
    clear hw1
    have p1 := HP1.out.cell 1
    simp only [List.getElem?_cons_succ, List.getElem?_cons_zero] at p1
    have hst : (storeCells ⟨w1.heap.size, 0, none⟩ c1.toList 0).run Tryz.prog (w1.alloc (.cells zs 39)) = .ok () (w1.alloc (.cells c1 39)) := run_storeCells_new (P := Tryz.prog) w1 39 zs c1 i1 (hz1.trans z1.symm) (by have := all_oneCell_toArray o1.out; rwa [Array.toArray_toList] at this)
    have RA : Hid (w1.rangeAt b (off + k * 68) c1.toList) := Lib.hid fun j v hv => keep_cell HK1.out (R1.out j v hv)
    go_wp2_with fail
    refine (F1.out _).mono ?_
    clear F1
    rintro e w2 ⟨rfl, rfl⟩
    go_upto_region 4 with ((with_reducible refine load_partg b (off + k * 68) c1 (Eq.trans ?_ rfl) RA.out _ Tryz.underlying39 rfl i1 rfl ?_); rfl)
    obtain ⟨j, hj⟩ : ∃ j, n - 1 = j := ⟨_, rfl⟩
    have hj2 : (n : Int) - 1 = j := by omega
    rw [hj] at R2 hkl2
    obtain ⟨w3, hw3⟩ : ∃ w3, w3 = w2.alloc (.cells c1 39) := ⟨_, rfl⟩
    have k3 : Keep w2 w3 := by rw [hw3]; exact keep_new _ _
    have HP3 : Hid (Blk w3 w.heap.size 64 [u32v limit, iv itv, iv span, iv fut, iv idx, iv orp, .slice A m c]) := by rw [hw3]; exact Lib.hid (HP1.out.alloc _)
    have HH3 : Hid (Blk w3 w2.heap.size 39 c1.toList) := by rw [hw3]; exact Lib.hid (Blk.new w2 39 c1.toList)
    rw [← hw3]
    clear hw3 hst p1 hj
    have HK3 := Lib.hid (keep_trans HK1.out k3)
    generalize w2.heap.size = g at *
    clear k3 RA HP1 HK1 R1
    refine wp_region_tree (.take [0,1,2,3,4,5,6,7,8,9,10] (.force [11] (.take [12] .done))) [] (by kernel_rfl) (by kernel_rfl) (fun w9 k9 => ?_)
    have HB9 := HP3.out.keep k9
    have HG9 := HH3.out.keep k9
    have HK9 := Lib.hid (keep_trans HK3.out k9)
    have RA : Hid (w9.rangeAt b (off + j * 68) c2.toList) := Lib.hid fun i v hv => keep_cell HK9.out (R2.out i v hv)
    have q0 := aft_cell (HB9.cell 0)
    have q1 := aft_cell (HB9.cell 1)
    have q2 := aft_cell (HB9.cell 2)
    have q3 := aft_cell (HB9.cell 3)
    have q4 := aft_cell (HB9.cell 4)
    have q5 := aft_cell (HB9.cell 5)
    have q6 := aft_cell (HB9.cell 6)
    have q7 := aft_cell ((HG9.cell 65).trans Ht.out)
    clear HB9 HG9 HP3 HH3 HK3 Ht R2 k9
    refine mt_take w9 (Below.refl _ _) ?_
    simp only [pick_cons, pick_nil, nth_zero, nth_succ]
    repeat (first
      | ((with_reducible refine wpQuiet_load_partg b (off + j * 68) c2 (Eq.trans ?_ rfl) RA.out _ Tryz.underlying39 rfl i2 rfl ?_); rfl; simp only [Act.put, Array.set!_eq_setIfInBounds, List.setIfInBounds_toArray, List.set_cons_succ, List.set_cons_zero])
      | go_big_quiet_step (fail))
    refine wpQuiet_nil ?_
    clear q0 q1 q2 q3 q4 q5 q6 q7
    refine mt_force ?_
    simp only [pick_cons, pick_nil, nth_zero, nth_succ]
    refine fc_step rfl (fun K hK => ?_)
    go_simp
    (with_reducible refine (N1.out _).mono ?_)
    rintro e w4 ⟨rfl, k4⟩
    refine hK _ _ k4 ?_
    clear hK K
    refine fc_nil ?_
    refine mt_take _ (Below.refl _ _) ?_
    simp only [pick_cons, pick_nil, nth_zero, nth_succ]
    repeat (go_big_quiet_step (fail))
    refine wpQuiet_nil ?_
    refine mt_end ?_
    go_wp2
    exact bodyPost_ret (v := u32v R) (by simp [results, Tryz.results44]) rfl ⟨rfl, keep_trans HK9.out k4⟩
end Go.Proofs.YtjbdboekleaklaaGreatDoor

/- errors.Is of an api.Errno, and rules.wrong. -/
set_option linter.unusedSimpArgs false
set_option linter.unusedVariables false
namespace Go.Proofs.YtjbdboekleaklaaGreatDoor
open Go.RowKit Go.Extern.Stop Go.Stop Go.Extern
attribute [local go_sem ↓] Go.wp_at_zero Go.wp_at_succ

theorem errno_comp : (Tryz.prog.info? 59).map (·.comparable) = some true := by kernel_rfl
theorem ei_typeOf (v : Value) (w : World) : (Extern.ReflectliteType.typeOf #[.iface 59 v]).run Tryz.prog w = .ok (.iface 145 (.agg #[.pointer (some ⟨4, 59, none⟩)])) w := by kernel_rfl
def compE : Array Value → Sem Value := Extern.ReflectliteType.method fun t => do Extern.Rtype.noPackHeld "Comparable" t; pure (.bool (← typeInfo t).comparable)
theorem ei_comparable (w : World) : (compE #[.agg #[.pointer (some ⟨4, 59, none⟩)]]).run Tryz.prog w = .ok (.bool true) w := by kernel_rfl
theorem ei_method (v : Value) (w : World) : (Go.method 300 145 v "Comparable").run Tryz.prog w = .ok (119, v) w := by kernel_rfl
theorem ei_noIs (v : Value) (xT : TypeId) (w : World) : (Instr.typeAssert (.iface 59 v) xT 147 true).run Tryz.prog w = .ok (.tuple #[.nilIface, .bool false]) w := run_typeAssert_lacksB Tryz.underlying147 (by kernel_rfl) (by kernel_rfl) v xT w
theorem ei_noUn (v : Value) (xT : TypeId) (w : World) : (Instr.typeAssert (.iface 59 v) xT 150 true).run Tryz.prog w = .ok (.tuple #[.nilIface, .bool false]) w := run_typeAssert_lacksB Tryz.underlying150 (by kernel_rfl) (by kernel_rfl) v xT w
theorem ei_noUns (v : Value) (xT : TypeId) (w : World) : (Instr.typeAssert (.iface 59 v) xT 152 true).run Tryz.prog w = .ok (.tuple #[.nilIface, .bool false]) w := run_typeAssert_lacksB Tryz.underlying152 (by kernel_rfl) (by kernel_rfl) v xT w

set_option maxRecDepth 100000 in
set_option maxHeartbeats 4000000 in
/-- errors.Is(e, api.OK). -/
theorem errors_Is (e : Int) (w : World) : Calls Tryz.prog 63 #[.iface 59 (.int .i64 e), .iface 59 (.int .i64 0)] w fun x w' => x = .returned (.bool (e == 0)) ∧ w' = w := by
  have h8 := @run_callFunc_extern Tryz.prog 76 _ Extern.ReflectliteType.typeOf Tryz.func76 (by kernel_rfl) (by kernel_rfl) (by kernel_rfl) (by kernel_rfl)
  have h32 := @run_callFunc_extern Tryz.prog 119 _ compE Tryz.func119 (by kernel_rfl) (by kernel_rfl) (by kernel_rfl) (by kernel_rfl)
  have tT := ei_typeOf
  have cT := ei_comparable
  have mR := ei_method
  have nE := ei_noIs
  have uE := ei_noUn
  have vE := ei_noUns
  have heq := Lib.run_eql_iface_int (P := Tryz.prog) w (k := .i64) e 0 Tryz.underlying132 errno_comp Tryz.underlying59
  go_enter Tryz.func63, Tryz.ntmps63
  by_cases h0 : e = 0
  · subst h0
    have hb : ((0 : Int) == 0) = true := rfl
    rw [hb] at heq
    go_wp2

    refine wp_loop_rounds 1 ?_
    rw [rounds_succ]
    go_wp2
    go_ret
    exact ⟨rfl, rfl⟩
  · have hb : (e == 0) = false := by simp [h0]
    rw [hb] at heq ⊢
    clear h0
    go_wp2
    refine wp_loop_rounds 1 ?_
    rw [rounds_succ]
    go_wp2
    go_ret
    exact ⟨rfl, rfl⟩

set_option maxRecDepth 100000 in
set_option maxHeartbeats 4000000 in
theorem wrong_any (e : Int) (w : World) : Calls Tryz.prog 45 #[.int .i64 e] w fun x w' => x = .returned (.bool (e != 0)) ∧ w' = w := by
  go_enter Tryz.func45, Tryz.ntmps45
  go_wp2_with fail
  refine (errors_Is e _).mono ?_
  rintro x w' ⟨rfl, rfl⟩
  go_wp2
  exact bodyPost_ret (v := .bool (e != 0)) (by simp [results, Tryz.results45, bne]) rfl ⟨rfl, rfl⟩

end Go.Proofs.YtjbdboekleaklaaGreatDoor

/- header.Mine, where a nonce is found. -/
set_option linter.unusedSimpArgs false
set_option linter.unusedVariables false
namespace Go.Proofs.YtjbdboekleaklaaGreatDoor
open Go.RowKit
attribute [local go_sem ↓] Go.wp_at_zero Go.wp_at_succ

/-- A header with a later nonce. -/
def Hd.bump (h : Hd) (k : Nat) : Hd := ⟨h.ver, h.prev, h.root, h.time, h.bits, h.nonce + UInt32.ofNat k⟩
theorem bump_ok {h : Hd} (hk : h.ok) (k : Nat) : (h.bump k).ok := hk
theorem bump_zero (h : Hd) : h.bump 0 = h := by cases h; simp [Hd.bump]
theorem bump_succ (h : Hd) (k : Nat) : (h.bump (k + 1)).nonce = w32 (((h.bump k).nonce.toNat + 1 : Int) % 4294967296) := by
  apply UInt32.toNat.inj
  have e : (w32 (((h.bump k).nonce.toNat + 1 : Int) % 4294967296)).toNat = ((h.bump k).nonce.toNat + 1) % 4294967296 := by
    unfold w32; rw [UInt32.toNat_ofNat']; omega
  rw [e]
  simp only [Hd.bump, UInt32.toNat_add, UInt32.toNat_ofNat']
  omega
theorem bump_cells {h : Hd} (hk : h.ok) (k : Nat) : (h.bump k).cells.set 67 (u32v (h.bump (k + 1)).nonce) = (h.bump (k + 1)).cells := by
  have e1 : (h.bump k).cells = (u32v h.ver :: (h.prev.map u8v ++ (h.root.map u8v ++ [u32v h.time, u32v h.bits]))) ++ [u32v (h.bump k).nonce] := by simp [Hd.cells, Hd.bump]
  have e2 : (h.bump (k + 1)).cells = (u32v h.ver :: (h.prev.map u8v ++ (h.root.map u8v ++ [u32v h.time, u32v h.bits]))) ++ [u32v (h.bump (k + 1)).nonce] := by simp [Hd.cells, Hd.bump]
  have hl : (u32v h.ver :: (h.prev.map u8v ++ (h.root.map u8v ++ [u32v h.time, u32v h.bits]))).length = 67 := by simp [hk.1, hk.2]
  rw [e1, e2, List.set_append_right _ _ (by rw [hl]; omega), hl]
  rfl

set_option maxRecDepth 100000 in
set_option maxHeartbeats 4000000 in
theorem mine_any (h : Hd) (cs : Array Value) (limit : UInt32) (tries : Int) (k : Nat) (w : World) (hS : ShaOk w) (hk : h.ok) (hcs : HdA h cs) (ht : (k : Int) < tries) (ht2 : tries ≤ 4096)
    (m1 : ∀ j, j < k → meetN (leN (idL (h.bump j))) h.bits limit ≠ 0) (m2 : meetN (leN (idL (h.bump k))) h.bits limit = 0) :
    Calls Tryz.prog 28 #[.agg cs, u32v limit, .int .i64 tries] w fun e w' => ∃ ds, e = .returned (.tuple #[.agg ds, .bool true]) ∧ HdA (h.bump k) ds ∧ Keep w w' := by
  have I1 : Hid (∀ j cs y, Keep w y → HdA (h.bump j) cs → Calls Tryz.prog 21 #[.agg cs] y fun e w' => ∃ ds, e = .returned (.agg ds) ∧ HashA (idL (h.bump j)) ds ∧ Keep y w') := Lib.hid fun j cs y hy hc => id_any (h.bump j) cs y (hS.keep hy) (bump_ok hk j) hc
  have M1 : Hid (∀ j, ∃ m : Int, (j < k → m ≠ 0) ∧ (j = k → m = 0) ∧ ∀ ds y, HashA (idL (h.bump j)) ds → Calls Tryz.prog 37 #[.agg ds, u32v h.bits, u32v limit] y fun e w' => e = .returned (.int .i64 m) ∧ Keep y w') := Lib.hid fun j =>
    ⟨_, m1 j, fun e => by rw [e]; exact m2, fun ds y hd => meets_any (idL (h.bump j)) ds h.bits limit y (idL_len _) hd⟩
  clear m1 m2
  obtain ⟨zs, hz1, hz2, hz3, hz4⟩ := zhead_letter
  have hcz := hcs.z; have hcn := hcs.n; have hci := hcs.i
  have Hcs := Lib.hid hcs; have Hk := Lib.hid hk
  have hmx : max tries 0 = tries := by omega
  have hmn : min tries 4096 = tries := by omega
  clear hcs hk hS hz4
  have hst : ∀ ww : World, (storeCells ⟨ww.heap.size, 0, none⟩ cs.toList 0).run Tryz.prog (ww.alloc (.cells zs 39)) = .ok () (ww.alloc (.cells cs 39)) := fun ww => run_storeCells_new (P := Tryz.prog) ww 39 zs cs Hcs.out.i (hz1.trans hcz.symm) (by have := all_oneCell_toArray Hcs.out.o; rwa [Array.toArray_toList] at this)
  go_enter Tryz.func28, Tryz.ntmps28
  go_upto_region 1 with fail
  obtain ⟨w1, hw1⟩ : ∃ w1, w1 = (w.alloc (.cells cs 39)).alloc (.cells zs 39) := ⟨_, rfl⟩
  have Hbx : Hid (Blk w1 w.heap.size 39 cs.toList) := by rw [hw1]; exact (Blk.new w _ cs.toList).alloc _
  have HR1 : Hid (Blk w1 (w.heap.size + 1) 39 zs.toList) := by
    rw [hw1]
    have h2 := Blk.new (w.alloc (.cells cs 39)) 39 zs.toList
    rw [World.size_alloc] at h2
    exact h2
  have HK1 : Hid (Keep w w1) := by rw [hw1]; exact keep_trans (keep_new _ _) (keep_new _ _)
  rw [← hw1]
  clear hw1
  have hz1w : w.heap.size + 1 < w1.heap.size := HR1.out.lt
  go_upto_region 2 with ((with_reducible refine load_arr w.heap.size cs (Eq.trans ?_ rfl) Hbx.out _ Tryz.underlying39 rfl hci ?_); rfl)
  obtain ⟨w3, hw3⟩ : ∃ w3, w3 = w1.alloc (.cells cs 39) := ⟨_, rfl⟩
  have HM3 : Hid (Blk w3 w1.heap.size 39 (h.bump 0).cells) := by rw [hw3, bump_zero, ← Hcs.out.l]; exact Blk.new w1 _ cs.toList
  have HR3 : Hid (Blk w3 (w.heap.size + 1) 39 zs.toList) := by rw [hw3]; exact HR1.out.alloc _
  have HK3 : Hid (Keep w w3) := by rw [hw3]; exact keep_trans HK1.out (keep_new _ _)
  rw [← hw3]
  clear hw3 HR1 HK1 Hbx hst
  generalize w1.heap.size = M at *
  go_wp2_with fail
  go_loopw [13] (fun i wr => ∃ j : Nat, j ≤ k ∧ i = .int .i64 (j : Int) ∧ Hid (Blk wr M 39 (h.bump j).cells) ∧ Hid (Blk wr (w.heap.size + 1) 39 zs.toList) ∧ Hid (Keep w wr)) (fun i _ => (4096 - intOf i).toNat)
  case atStart => exact ⟨0, by omega, rfl, HM3, HR3, HK3⟩
  case round =>
    obtain ⟨j, hj, rfl, HM, HR, HK⟩ := hrel
    have i1 : (j : Int) < tries := by omega
    obtain ⟨hv, hhv⟩ : ∃ hv, HdA (h.bump j) hv := ⟨_, HdA.of (bump_ok Hk.out j)⟩
    have hvz := hhv.z; have hvn := hhv.n; have hvi := hhv.i
    have Hhv := Lib.hid hhv
    obtain ⟨m, mm1, mm2, mm3⟩ := M1.out j
    have Mm1 := Lib.hid mm1; have Mm2 := Lib.hid mm2; have Mm3 := Lib.hid mm3
    clear hhv mm1 mm2 mm3
    go_upto_region 4 with fail
    refine wp_region_tree (.take [0,2,3,4] (.force [1,5] (.take [6] .done))) [] (by kernel_rfl) (by kernel_rfl) (fun w9 k9 => ?_)
    have HM9 := Lib.hid (HM.out.keep k9); have HR9 := Lib.hid (HR.out.keep k9); have HK9 := Lib.hid (keep_trans HK.out k9)
    have c66 := aft_cell (show w9.cell? ⟨M, 66, none⟩ = some (u32v h.bits) from hd_cell66 (h := h.bump j) HM9.out (bump_ok Hk.out j))
    have Hrg : Hid (w9.rangeAt M 0 hv.toList) := Lib.hid (range_of HM9.out 0 hv.toList (by rw [Hhv.out.l, List.drop_zero, List.take_of_length_le (Nat.le_refl _)]))
    clear k9 HM HR HK
    refine mt_take w9 (Below.refl _ _) ?_
    simp only [pick_cons, pick_nil, nth_zero, nth_succ]
    (with_reducible refine wpQuiet_load_partg M 0 hv (Eq.trans ?_ rfl) Hrg.out _ Tryz.underlying39 rfl hvi (Eq.trans ?_ rfl) ?_)
    rfl
    rfl
    simp only [Act.put, Array.set!_eq_setIfInBounds, List.setIfInBounds_toArray, List.set_cons_succ, List.set_cons_zero]
    repeat (go_big_quiet_step (fail))
    refine wpQuiet_nil (mt_force ?_)
    simp only [pick_cons, pick_nil, nth_zero, nth_succ]
    refine fc_step rfl (fun K hK => ?_)
    go_simp
    (with_reducible refine (I1.out j hv w9 HK9.out Hhv.out).mono ?_)
    rintro e wa ⟨ds, rfl, hds, ka⟩
    refine hK _ _ ka ?_
    have HMa := Lib.hid (HM9.out.keep ka); have HRa := Lib.hid (HR9.out.keep ka); have HKa := Lib.hid (keep_trans HK9.out ka)
    have Hds := Lib.hid hds
    clear hK K c66 ka hds Hrg HM9 HR9 HK9
    refine fc_step rfl (fun K hK => ?_)
    go_simp
    (with_reducible refine (Mm3.out ds wa Hds.out).mono ?_)
    rintro e wb ⟨rfl, kb⟩
    refine hK _ _ kb ?_
    have HMb := Lib.hid (HMa.out.keep kb); have HRb := Lib.hid (HRa.out.keep kb); have HKb := Lib.hid (keep_trans HKa.out kb)
    clear hK K kb HMa HRa HKa Hds Mm3
    refine fc_nil (mt_take wb (Below.refl _ _) ?_)
    simp only [pick_cons, pick_nil, nth_zero, nth_succ]
    repeat (go_big_quiet_step (fail))
    refine wpQuiet_nil (mt_end ?_)
    by_cases hjk : j = k
    · obtain rfl : m = 0 := Mm2.out hjk
      obtain ⟨w8, hst8, hb8, hg8⟩ := run_store_blk (P := Tryz.prog) hv.toList HRb.out (by simp [hz1, hvz]) Hhv.out.o
      have Hb8 := Lib.hid hb8; have Hg8 := Lib.hid hg8
      have HMb' : Hid (Blk wb M 39 hv.toList) := by rw [Hhv.out.l]; exact HMb.out
      subst hjk
      clear hb8 hg8 Mm1 Mm2
      go_wp2_with ((with_reducible refine load_arr M hv (Eq.trans ?_ rfl) HMb'.out _ Tryz.underlying39 rfl hvi ?_); rfl)
      have hb8 := Hb8.out
      exact bodyPost_ret (v := .tuple #[.agg hv, .bool true]) (results_cell_tmp_row Tryz.results28 _ _ (w.heap.size + 1) _ _ _ _ rfl hb8 Tryz.underlying39 rfl (by rw [List.size_toArray, Array.length_toList]; exact hvi)) rfl ⟨hv, rfl, Hhv.out, HKb.out.grown Hg8.out HKb.out.size (fun q hq => by injection hq with hq; omega)⟩
    · have hm0 := Mm1.out (by omega)
      have d1 : (m == 0) = false := by simp [hm0]
      have c67 := hd_cell67 HMb.out (bump_ok Hk.out j)
      have f67 := HMb.out.frozen 67
      have hn32 := (h.bump j).nonce.toNat_lt
      have HB := Lib.hid (bump_succ h j); have HC := Lib.hid (bump_cells Hk.out j)
      generalize (h.bump j).nonce = nn at *
      clear Mm1 Mm2 hm0
      go_wp2
      go_roundw
      case rel =>
        have e : Value.int .u32 (((nn.toNat : Int) + 1) % 4294967296) = u32v (h.bump (j + 1)).nonce := by
          rw [HB.out]
          unfold u32v
          rw [← w32_of (by omega) (by omega)]
        rw [e]
        refine ⟨j + 1, by omega, by go_num, Lib.hid ?_, Lib.hid (HRb.out.far (by simp; omega) _), Lib.hid (Below.setCell HKb.out (by simp; omega) _)⟩
        have h1 := HMb.out.set_ 67 (u32v (h.bump (j + 1)).nonce)
        rw [HC.out] at h1
        exact h1
      case measure => simp [intOf]; omega
end Go.Proofs.YtjbdboekleaklaaGreatDoor

/- rules.Point. -/
set_option linter.unusedSimpArgs false
set_option linter.unusedVariables false
namespace Go.Proofs.YtjbdboekleaklaaGreatDoor
open Go.RowKit
attribute [local go_sem ↓] Go.wp_at_zero Go.wp_at_succ

theorem zhash_Br : Tryz.prog.built 36 [] = some zhash := by kernel_rfl
theorem list_buildr {P : Program} {w : World} {ops : Array Oper} {rest : List Oper} {a : Act} {Q : Exit → Act → World → Prop} {parts : Array (Nat × Operand)} {dst : Option Tmp} {t ty' : TypeId} {pos : String} {af : Array Edge}
    (ps : List (Nat × Value)) (cells : Array Value) (hx : (parts.toList.map fun p => (p.1, a.eval p.2)) = ps) (hb : P.built t ps = some cells)
    (h : wpList P ops Q rest (a.put dst (.agg cells)) w) : wpList P ops Q ({ dst := dst, op := .build t parts, type := ty', pos := pos, after := af, guard := none } :: rest) a w :=
  wpList_plain rfl fun _ hK => wp_build t parts rfl (by rw [show (parts.map fun (i, x) => (i, a.eval x)).toList = ps by rw [Array.toList_map]; exact hx, hb]; rfl) (by rw [show (parts.map fun (i, x) => (i, a.eval x)).toList = ps by rw [Array.toList_map]; exact hx, hb]; exact hK _ _ h)

/-- Checkpoints. -/
def chkC (x : Int × List UInt8) : List Value := iv x.1 :: x.2.map u8v
theorem chkC_len {x : Int × List UInt8} (h : x.2.length = 32) : (chkC x).length = 33 := by simp [chkC, h]
theorem chkC_one (x : Int × List UInt8) : ∀ v ∈ chkC x, v.oneCell' = true := by
  intro v hv
  rcases List.mem_cons.1 hv with rfl | hv
  · rfl
  · exact one_w8 _ v hv
def Chks (p : Par) (A : Option Addr) (w : World) : Prop := Rd w A (p.chks.flatMap chkC) ∧ (∀ x ∈ p.chks, x.2.length = 32) ∧ p.chks.length ≤ 1000
theorem Chks.keep {p : Par} {A : Option Addr} {w w' : World} (h : Chks p A w) (hk : Keep w w') : Chks p A w' := ⟨h.1.keep hk, h.2⟩
theorem chks_at {p : Par} {w : World} {A : Option Addr} (hr : Chks p A w) {k : Nat} (h : k < p.chks.length) :
    ∃ b off, A = some ⟨b, off, none⟩ ∧ b < w.heap.size ∧ w.rangeAt b (off + k * 33) (chkC p.chks[k]) := by
  have hlen : ∀ a ∈ p.chks, (chkC a).length = 33 := fun a ha => chkC_len (hr.2.1 a ha)
  obtain ⟨b, off, rfl, hb, F⟩ := hr.1.at (k := k * 33) (by rw [flatMap_len' _ 33 _ hlen]; omega)
  refine ⟨b, off, rfl, hb, fun j v hv => ?_⟩
  have hj : j < 33 := by rw [← hlen p.chks[k] (List.getElem_mem h)]; exact (List.getElem?_eq_some_iff.1 hv).1
  have hg := flatMap_get' chkC 33 p.chks hlen k j h hj
  have hlt : k * 33 + j < (p.chks.flatMap chkC).length := by rw [flatMap_len' _ 33 _ hlen]; omega
  have hc := F (k * 33 + j) hlt
  rw [Nat.add_assoc, hc, ← hv, ← hg, List.getElem?_eq_getElem hlt]

noncomputable def zchk : Array Value := match (Tryz.prog.info? 129).bind (·.zero) with | some (.agg c) => c | _ => #[]
theorem zchk_size : zchk.size = 33 := by kernel_rfl
theorem zchk_zero (w : World) : (zeroValue 129).run Tryz.prog w = .ok (.agg zchk) w := by kernel_rfl
theorem chk_size : (Tryz.prog.info? 129).map (·.size) = some 33 := by kernel_rfl

def pointR (p : Par) (n : Int) : Option (List UInt8) := (p.chks.find? fun x => x.1 == n).map (·.2)
def pointH (p : Par) (n : Int) : List UInt8 := (pointR p n).getD (List.replicate 32 0)

set_option maxRecDepth 100000 in
set_option maxHeartbeats 4000000 in
theorem point_any (p : Par) (A : Option Addr) (c : Nat) (n : Int) (w : World) (hr : Chks p A w) :
    Calls Tryz.prog 60 #[parV p A c, iv n] w fun e w' => ∃ cs, e = .returned (.tuple #[.agg cs, .bool (pointR p n).isSome]) ∧ HashA (pointH p n) cs ∧ Keep w w' := by
  obtain ⟨zs, hzs⟩ : ∃ zs, zs = zhash := ⟨_, rfl⟩
  have hz1 : zs.size = 32 := by rw [hzs]; exact zhash_size
  have hz2 : ∀ w, (zeroValue 36).run Tryz.prog w = .ok (.agg zs) w := fun w => by rw [hzs]; exact zhash_zero w
  have hz3 : ¬ zs = #[] := fun h => by rw [h] at hz1; cases hz1
  have hz4 : Hid (zs.toList = (List.replicate 32 (0 : UInt8)).map u8v) := Lib.hid (by rw [hzs]; exact zhash_list)
  have hz5 : Hid (Tryz.prog.built 36 [] = some zs) := Lib.hid (by rw [hzs]; exact zhash_Br)
  clear hzs
  obtain ⟨ys, hys⟩ : ∃ ys, ys = zchk := ⟨_, rfl⟩
  have hy1 : ys.size = 33 := by rw [hys]; exact zchk_size
  have hy2 : ∀ w, (zeroValue 129).run Tryz.prog w = .ok (.agg ys) w := fun w => by rw [hys]; exact zchk_zero w
  have hy3 : ¬ ys = #[] := fun h => by rw [h] at hy1; cases hy1
  clear hys
  have HAT : Hid (∀ k (h : k < p.chks.length), ∃ b off, A = some ⟨b, off, none⟩ ∧ w.rangeAt b (off + k * 33) (chkC p.chks[k]) ∧ p.chks[k].2.length = 32) := Lib.hid fun k h => by
    obtain ⟨b, off, h1, -, h2⟩ := chks_at hr h
    exact ⟨b, off, h1, h2, hr.2.1 _ (List.getElem_mem h)⟩
  have hl : p.chks.length ≤ 1000 := hr.2.2
  have HP : Hid (∀ r hsh, (pointR p n).isSome = r → pointH p n = hsh → r = ((p.chks.find? fun x => x.1 == n).map (·.2)).isSome ∧ hsh = ((p.chks.find? fun x => x.1 == n).map (·.2)).getD (List.replicate 32 0)) := Lib.hid fun r hsh e1 e2 => by subst e1 e2; exact ⟨rfl, rfl⟩
  replace HP := Lib.hid (HP.out _ _ rfl rfl)
  clear hr
  generalize (pointR p n).isSome = R at *
  generalize pointH p n = H at *
  unfold parV
  generalize p.chks = L at *
  generalize p.limit = limit at *
  generalize p.itv = itv at *
  generalize p.span = span at *
  generalize p.fut = fut at *
  generalize p.idx = idx at *
  generalize p.orp = orp at *
  clear p
  go_enter Tryz.func60, Tryz.ntmps60
  go_upto_region 1 with fail
  obtain ⟨w1, hw1⟩ : ∃ w1, w1 = (w.alloc (.cells #[u32v limit, iv itv, iv span, iv fut, iv idx, iv orp, .slice A L.length c] 64)).alloc (.cells zs 36) := ⟨_, rfl⟩
  have HP1 : Hid (Blk w1 w.heap.size 64 [u32v limit, iv itv, iv span, iv fut, iv idx, iv orp, .slice A L.length c]) := by rw [hw1]; exact Lib.hid ((Blk.new w 64 [u32v limit, iv itv, iv span, iv fut, iv idx, iv orp, .slice A L.length c]).alloc _)
  have HR1 : Hid (Blk w1 (w.heap.size + 1) 36 zs.toList) := by
    rw [hw1]
    have h2 := Blk.new (w.alloc (.cells #[u32v limit, iv itv, iv span, iv fut, iv idx, iv orp, .slice A L.length c] 64)) 36 zs.toList
    rw [World.size_alloc] at h2
    exact Lib.hid h2
  have HK1 : Hid (Keep w w1) := by rw [hw1]; exact Lib.hid (keep_trans (keep_new _ _) (keep_new _ _))
  rw [← hw1]
  clear hw1
  have p6 := HP1.out.cell 6
  simp only [List.getElem?_cons_succ, List.getElem?_cons_zero] at p6
  go_wp2_with fail
  clear p6 HP1
  go_loopw [11] (fun i wr => ∃ k : Nat, k ≤ L.length ∧ i = .int .i64 k ∧ Hid ((L.take k).find? (fun x => x.1 == n) = none) ∧ Hid (Blk wr (w.heap.size + 1) 36 zs.toList) ∧ Hid (Keep w wr)) (fun i _ => L.length - (intOf i).toNat)
  case atStart => exact ⟨0, Nat.zero_le _, rfl, Lib.hid rfl, HR1, HK1⟩
  case round =>
    obtain ⟨k, hk, rfl, hno, HR, HK⟩ := hrel
    by_cases hlt : k < L.length
    · obtain ⟨b, off, rfl, hrg, hh⟩ := HAT.out k hlt
      have RA : Hid (wr.rangeAt b (off + k * 33) (chkC L[k]).toArray.toList) := Lib.hid fun j v hv => keep_cell HK.out (hrg j v hv)
      have hone := chkC_one L[k]
      have hsz := chkC_len hh
      have hf : (L.take (k + 1)).find? (fun x => x.1 == n) = if L[k].1 = n then some L[k] else none := by
        rw [List.take_succ_eq_append_getElem hlt, List.find?_append, hno.out, Option.none_or]
        simp only [List.find?_cons, List.find?_nil, beq_iff_eq]
        by_cases e : L[k].1 = n
        · simp [e]
        · have e2 : (L[k].1 == n) = false := by simpa using e
          simp [e, e2]
      have hall : (L.find? fun x => x.1 == n) = (((L.take (k + 1)).find? fun x => x.1 == n).or ((L.drop (k + 1)).find? fun x => x.1 == n)) := by
        rw [← List.find?_append, List.take_append_drop]
      have HF := Lib.hid hf; have HL := Lib.hid hall
      clear hf hall hrg
      generalize L[k] = x at *
      obtain ⟨m, hsh⟩ := x
      simp only at hh HF
      obtain ⟨ck, hck⟩ : ∃ ck, (chkC (m, hsh)).toArray = ck := ⟨_, rfl⟩
      have hcl : ck.toList = iv m :: hsh.map u8v := by rw [← hck]; rfl
      have hc1 : ck.size = 33 := by rw [← hck, List.size_toArray, hsz]
      have hc2 : (Tryz.prog.info? 129).map (·.size) = some ck.size := by rw [hc1]; exact chk_size
      have hc3 : ¬ ck = #[] := fun h => by rw [h] at hc1; cases hc1
      have hc4 := Lib.hid (show ∀ v ∈ ck.toList, v.oneCell' = true by rw [← hck]; exact hone)
      rw [hck] at RA
      have hst : (storeCells ⟨wr.heap.size, 0, none⟩ ck.toList 0).run Tryz.prog (wr.alloc (.cells ys 129)) = .ok () (wr.alloc (.cells ck 129)) := run_storeCells_new (P := Tryz.prog) wr 129 ys ck hc2 (hy1.trans hc1.symm) (by have := all_oneCell_toArray hc4.out; rwa [Array.toArray_toList] at this)
      have Hcl := Lib.hid hcl
      have Hh := Lib.hid hh
      clear hck hsz hone hcl hh
      go_upto_region 4 with ((with_reducible refine load_partg b (off + k * 33) ck (Eq.trans ?_ rfl) RA.out _ Tryz.underlying129 rfl hc2 rfl ?_); rfl)
      obtain ⟨w3, hw3⟩ : ∃ w3, w3 = wr.alloc (.cells ck 129) := ⟨_, rfl⟩
      have HC3 : Hid (Blk w3 wr.heap.size 129 (iv m :: hsh.map u8v)) := by rw [hw3, ← Hcl.out]; exact Lib.hid (Blk.new wr 129 ck.toList)
      have HR3 : Hid (Blk w3 (w.heap.size + 1) 36 zs.toList) := by rw [hw3]; exact Lib.hid (HR.out.alloc _)
      have HK3 : Hid (Keep w w3) := by rw [hw3]; exact Lib.hid (keep_trans HK.out (keep_new _ _))
      rw [← hw3]
      clear hw3 hst RA HR HK
      have hg1 : w.heap.size + 1 < w3.heap.size := HR3.out.lt
      generalize wr.heap.size = g at *
      have c0 := HC3.out.cell 0
      simp only [List.getElem?_cons_zero] at c0
      by_cases hmn : m = n
      · subst hmn
        have hR := HP.out.1
        have hH := HP.out.2
        rw [HL.out, HF.out, if_pos rfl] at hR hH
        simp only [Option.some_or, Option.map_some, Option.isSome_some, Option.getD_some] at hR hH
        subst hR hH
        obtain ⟨hv, hhv⟩ : ∃ hv, HashA H hv := ⟨_, HashA.of Hh.out⟩
        have hvz := hhv.z; have hvn := hhv.n; have hvi := hhv.i
        have Hhv := Lib.hid hhv
        have hrg : Hid (w3.rangeAt g 1 hv.toList) := Lib.hid (range_of HC3.out 1 hv.toList (by rw [hhv.l]; simp [List.take_of_length_le]))
        obtain ⟨w8, hst8, hb8, hg8⟩ := run_store_blk (P := Tryz.prog) hv.toList HR3.out (by simp [hz1, hvz]) hhv.o
        have Hb8 := Lib.hid hb8; have Hg8 := Lib.hid hg8
        clear hb8 hg8 hhv HP HL HF hno HC3 HAT
        go_wp2_with ((with_reducible refine load_partg g 1 hv (Eq.trans ?_ rfl) hrg.out _ Tryz.underlying36 rfl hvi rfl ?_); rfl)
        have hb8 := Hb8.out
        exact bodyPost_ret (v := .tuple #[.agg hv, .bool true]) (results_cell_tmp_row Tryz.results60 _ _ (w.heap.size + 1) _ _ _ _ rfl hb8 Tryz.underlying36 rfl (by rw [List.size_toArray, Array.length_toList]; exact hvi)) rfl ⟨hv, rfl, Hhv.out, HK3.out.grown Hg8.out HK3.out.size (fun q hq => by injection hq with hq; omega)⟩
      · have d1 : (m == n) = false := by simp [hmn]
        have hno2 := HF.out
        rw [if_neg hmn] at hno2
        have Hno2 := Lib.hid hno2
        clear hno2 HF HL hmn
        go_wp2
        go_roundw
        case rel => exact ⟨k + 1, by omega, by go_num, Hno2, HR3, HK3⟩
        case measure => simp [intOf]; omega
    · obtain rfl : L.length = k := by omega
      have hR := HP.out.1
      have hH := HP.out.2
      have hno2 := hno.out
      rw [List.take_length] at hno2
      rw [hno2] at hR hH
      simp only [Option.map_none, Option.isSome_none, Option.getD_none] at hR hH
      subst hR hH
      have hzo : ∀ v ∈ zs.toList, v.oneCell' = true := by rw [hz4.out]; exact one_w8 _
      have hzi : (Tryz.prog.info? 36).map (·.size) = some zs.size := by rw [hz1]; kernel_rfl
      obtain ⟨w8, hst8, hb8, hg8⟩ := run_store_blk (P := Tryz.prog) zs.toList HR.out rfl hzo
      have Hb8 := Lib.hid hb8; have Hg8 := Lib.hid hg8
      have hg1 : w.heap.size + 1 < wr.heap.size := HR.out.lt
      clear hb8 hg8 hno2 HP hno hzo HAT
      go_wp2_with ((with_reducible refine list_buildr [] zs (Eq.trans ?_ rfl) hz5.out ?_); rfl)
      have hb8 := Hb8.out
      have hza : HashA (List.replicate 32 0) zs := by
        have h := HashA.of (h := List.replicate 32 (0 : UInt8)) rfl
        have e : ((List.replicate 32 (0 : UInt8)).map u8v).toArray = zs := by rw [← hz4.out, Array.toArray_toList]
        rw [e] at h
        exact h
      exact bodyPost_ret (v := .tuple #[.agg zs, .bool false]) (results_cell_tmp_row Tryz.results60 _ _ (w.heap.size + 1) _ _ _ _ rfl hb8 Tryz.underlying36 rfl (by rw [List.size_toArray, Array.length_toList]; exact hzi)) rfl ⟨zs, rfl, hza, HK.out.grown Hg8.out HK.out.size (fun q hq => by injection hq with hq; omega)⟩
end Go.Proofs.YtjbdboekleaklaaGreatDoor

/- rules.passes; clock.Times of headers. -/
set_option linter.unusedSimpArgs false
set_option linter.unusedVariables false
namespace Go.Proofs.YtjbdboekleaklaaGreatDoor
open Go.RowKit
attribute [local go_sem ↓] Go.wp_at_zero Go.wp_at_succ

theorem hash_neq {l m : List UInt8} {cs ds : Array Value} (h : HashA l cs) (g : HashA m ds) (hl : l.length = 32) (hm : m.length = 32) (w : World) :
    (Go.binOp .neq 36 (.agg cs) (.agg ds)).run Tryz.prog w = .ok (.bool (!(l == m))) w := by
  rw [run_neq_struct, show (10000 : Nat) = 9998 + 2 from rfl, hash_eqIn 9998 h g hl hm]
  rfl
theorem hash_in {l m : List UInt8} {cs ds : Array Value} (h : HashA l cs) (g : HashA m ds) (hl : l.length = 32) (hm : m.length = 32) (w : World) :
    (Op.equalIn 10000 36 (.agg cs) (.agg ds)).run Tryz.prog w = .ok (l == m) w := by
  rw [show (10000 : Nat) = 9998 + 2 from rfl, hash_eqIn 9998 h g hl hm]
theorem u32v_one (x : UInt32) : (u32v x).oneCell' = true := rfl

theorem hd_rs (l : List Hd) (hk : ∀ h ∈ l, h.ok) : ∃ rs : List HdR, rs.flatMap HdR.cells = l.flatMap Hd.cells ∧ rs.map HdR.t = l.map Hd.time ∧ rs.length = l.length := by
  induction l with
  | nil => exact ⟨[], rfl, rfl, rfl⟩
  | cons h l ih =>
    obtain ⟨rs, e1, e2, e3⟩ := ih fun x hx => hk x (List.mem_cons_of_mem _ hx)
    have ho := hk h List.mem_cons_self
    refine ⟨⟨u32v h.ver :: (h.prev.map u8v ++ h.root.map u8v), h.time, [u32v h.bits, u32v h.nonce], by simp [ho.1, ho.2], rfl, ?_, ?_⟩ :: rs, ?_, ?_, ?_⟩
    · intro u hu
      exact Hd.one h u (by simp only [Hd.cells, List.mem_cons, List.mem_append] at hu ⊢; rcases hu with rfl | hu | hu <;> simp_all)
    · intro u hu
      exact Hd.one h u (by simp only [Hd.cells, List.mem_cons, List.mem_append, List.not_mem_nil, or_false] at hu ⊢; rcases hu with rfl | rfl <;> simp)
    · simp [HdR.cells, Hd.cells, e1]
    · simp [e2]
    · simp [e3]
theorem times_hd (A : Option Addr) (l : List Hd) (c : Nat) (w : World) (hl : l.length ≤ 100) (hr : Rd w A (l.flatMap Hd.cells)) (hk : ∀ h ∈ l, h.ok) :
    Calls Tryz.prog 47 #[.slice A l.length c] w (Lasted w.heap.size (l.map Hd.time) w) := by
  obtain ⟨rs, e1, e2, e3⟩ := hd_rs l hk
  rw [← e2, ← e3]
  exact times_any A rs c w (by rw [e3]; exact hl) (by rw [e1]; exact hr)

def passR (p : Par) (n : Int) (id : List UInt8) : Int := if pointR p n = none ∨ pointR p n = some id then 0 else 11
theorem passR_of (p : Par) (n : Int) (id : List UInt8) : passR p n id = if (pointR p n).isSome = true ∧ (pointH p n == id) = false then 11 else 0 := by
  unfold passR pointH
  cases pointR p n with
  | none => simp
  | some x => by_cases e : x = id <;> simp [e]
theorem pointH_len {p : Par} (h : ∀ x ∈ p.chks, x.2.length = 32) (n : Int) : (pointH p n).length = 32 := by
  unfold pointH pointR
  cases hf : p.chks.find? fun x => x.1 == n with
  | none => rfl
  | some x => exact h x (List.mem_of_find?_eq_some hf)

set_option maxRecDepth 100000 in
set_option maxHeartbeats 4000000 in
theorem passes_any (p : Par) (A : Option Addr) (c : Nat) (n : Int) (id : List UInt8) (cs : Array Value) (w : World) (hr : Chks p A w) (hl : id.length = 32) (hcs : HashA id cs) :
    Calls Tryz.prog 43 #[parV p A c, iv n, .agg cs] w fun e w' => e = .returned (iv (passR p n id)) ∧ Keep w w' := by
  have P1 : Hid (∀ y, Keep w y → Calls Tryz.prog 60 #[parV p A c, iv n] y fun e w' => ∃ cs, e = .returned (.tuple #[.agg cs, .bool (pointR p n).isSome]) ∧ HashA (pointH p n) cs ∧ Keep y w') := Lib.hid fun y hy => point_any p A c n y (hr.keep hy)
  have HL := Lib.hid (pointH_len hr.2.1 n)
  have HR := Lib.hid (passR_of p n id)
  obtain ⟨zs, hz1, hz2, hz3, -⟩ := zhash_letter
  have hcz := hcs.z; have hcn := hcs.n; have hci := hcs.i
  have Hcs := Lib.hid hcs; have Hl := Lib.hid hl
  clear hr hcs hl
  generalize passR p n id = R at *
  generalize (pointR p n).isSome = is at *
  generalize pointH p n = H at *
  unfold parV at *
  generalize p.limit = limit at *
  generalize p.itv = itv at *
  generalize p.span = span at *
  generalize p.fut = fut at *
  generalize p.idx = idx at *
  generalize p.orp = orp at *
  generalize hm : p.chks.length = m at *
  clear hm
  go_enter Tryz.func43, Tryz.ntmps43
  go_upto_region 1 with fail
  obtain ⟨w1, hw1⟩ : ∃ w1, w1 = (w.alloc (.cells #[u32v limit, iv itv, iv span, iv fut, iv idx, iv orp, .slice A m c] 64)).alloc (.cells cs 36) := ⟨_, rfl⟩
  have HP1 : Hid (Blk w1 w.heap.size 64 [u32v limit, iv itv, iv span, iv fut, iv idx, iv orp, .slice A m c]) := by rw [hw1]; exact Lib.hid ((Blk.new w 64 [u32v limit, iv itv, iv span, iv fut, iv idx, iv orp, .slice A m c]).alloc _)
  have HI1 : Hid (Blk w1 (w.heap.size + 1) 36 cs.toList) := by
    rw [hw1]
    have h2 := Blk.new (w.alloc (.cells #[u32v limit, iv itv, iv span, iv fut, iv idx, iv orp, .slice A m c] 64)) 36 cs.toList
    rw [World.size_alloc] at h2
    exact Lib.hid h2
  have HK1 : Hid (Keep w w1) := by rw [hw1]; exact Lib.hid (keep_trans (keep_new _ _) (keep_new _ _))
  rw [← hw1]
  clear hw1
  have p0 := HP1.out.cell 0
  have p1 := HP1.out.cell 1
  have p2 := HP1.out.cell 2
  have p3 := HP1.out.cell 3
  have p4 := HP1.out.cell 4
  have p5 := HP1.out.cell 5
  have p6 := HP1.out.cell 6
  simp only [List.getElem?_cons_succ, List.getElem?_cons_zero] at p0 p1 p2 p3 p4 p5 p6
  go_wp2_with fail
  refine (P1.out _ HK1.out).mono ?_
  clear P1 p0 p1 p2 p3 p4 p5 p6
  rintro e w2 ⟨ds, rfl, hds, k2⟩
  have HI2 := Lib.hid (HI1.out.keep k2)
  have HK2 := Lib.hid (keep_trans HK1.out k2)
  have hdz := hds.z; have hdn := hds.n; have hdi := hds.i
  have hst : (storeCells ⟨w2.heap.size, 0, none⟩ ds.toList 0).run Tryz.prog (w2.alloc (.cells zs 36)) = .ok () (w2.alloc (.cells ds 36)) := run_storeCells_new (P := Tryz.prog) w2 36 zs ds hdi (hz1.trans hdz.symm) (by have := all_oneCell_toArray hds.o; rwa [Array.toArray_toList] at this)
  have Hds := Lib.hid hds
  clear k2 HI1 HK1 HP1 hds
  go_upto_region 2 with fail
  obtain ⟨w3, hw3⟩ : ∃ w3, w3 = w2.alloc (.cells ds 36) := ⟨_, rfl⟩
  have HI3 : Hid (Blk w3 (w.heap.size + 1) 36 cs.toList) := by rw [hw3]; exact Lib.hid (HI2.out.alloc _)
  have HD3 : Hid (Blk w3 w2.heap.size 36 ds.toList) := by rw [hw3]; exact Lib.hid (Blk.new w2 36 ds.toList)
  have HK3 : Hid (Keep w w3) := by rw [hw3]; exact Lib.hid (keep_trans HK2.out (keep_new _ _))
  rw [← hw3]
  clear hw3 hst HI2 HK2
  generalize w2.heap.size = g at *
  have q1 : Hid (w3.rangeAt g 0 ds.toList) := Lib.hid (range_of HD3.out 0 ds.toList (by simp [List.take_of_length_le]))
  have q2 : Hid (w3.rangeAt (w.heap.size + 1) 0 cs.toList) := Lib.hid (range_of HI3.out 0 cs.toList (by simp [List.take_of_length_le]))
  have heq := hash_in Hds.out Hcs.out HL.out Hl.out w3
  have hR := HR.out
  cases is with
  | false =>
    rw [if_neg (by simp)] at hR
    subst hR
    clear HR heq q1 q2 HD3 HI3
    go_wp2
    exact bodyPost_ret (v := iv 0) (by simp [results, Tryz.results43]) rfl ⟨rfl, HK3.out⟩
  | true =>
    obtain ⟨b, hb⟩ : ∃ b, (H == id) = b := ⟨_, rfl⟩
    rw [hb] at heq hR
    clear HR hb HD3 HI3 HL
    cases b with
    | true =>
      rw [if_neg (by simp)] at hR
      subst hR
      go_wp2_with (first
        | ((with_reducible refine load_partg g 0 ds (Eq.trans ?_ rfl) q1.out _ Tryz.underlying36 rfl hdi rfl ?_); rfl)
        | ((with_reducible refine load_partg (w.heap.size + 1) 0 cs (Eq.trans ?_ rfl) q2.out _ Tryz.underlying36 rfl hci rfl ?_); rfl))
      exact bodyPost_ret (v := iv 0) (by simp [results, Tryz.results43]) rfl ⟨rfl, HK3.out⟩
    | false =>
      rw [if_pos ⟨rfl, rfl⟩] at hR
      subst hR
      go_wp2_with (first
        | ((with_reducible refine load_partg g 0 ds (Eq.trans ?_ rfl) q1.out _ Tryz.underlying36 rfl hdi rfl ?_); rfl)
        | ((with_reducible refine load_partg (w.heap.size + 1) 0 cs (Eq.trans ?_ rfl) q2.out _ Tryz.underlying36 rfl hci rfl ?_); rfl))
      exact bodyPost_ret (v := iv 11) (by simp [results, Tryz.results43]) rfl ⟨rfl, HK3.out⟩
end Go.Proofs.YtjbdboekleaklaaGreatDoor

/- A map from hashes to numbers: looked up, written. -/
set_option linter.unusedSimpArgs false
set_option linter.unusedVariables false
namespace Go.Proofs.YtjbdboekleaklaaGreatDoor
open Go.RowKit Go.ChangeMaps

theorem hash_under2 : Tryz.prog.underlying 36 = some (.array 32 5) := by kernel_rfl
theorem map_under : Tryz.prog.underlying 70 = some (.map 36 3) := by kernel_rfl
theorem run_keyHash {l : List UInt8} {cs : Array Value} (h : HashA l cs) (hl : l.length = 32) (b : Bool) (w : World) :
    (Instr.checkKey b 10000 36 (.agg cs)).run Tryz.prog w = .ok () w := by
  obtain rfl := h.e
  rw [show (10000 : Nat) = 9998 + 2 from rfl, Instr.checkKey]
  simp only [Sem.run_bind, run_underlying hash_under2, Result.andThen_ok, Std.Legacy.Range.forIn_eq_forIn_range', Std.Legacy.Range.size, Nat.sub_zero, Nat.add_sub_cancel, Nat.div_one]
  have hr : ∀ i ∈ List.range' 0 32 1, i < 32 := fun i hi => by simpa using (List.mem_range'_1.1 hi).2
  generalize List.range' 0 32 1 = r at hr ⊢
  induction r with
  | nil => simp
  | cons i r ih =>
    have hi : i < 32 := hr i (by simp)
    have px : (part 5 (l.map u8v).toArray (i * 1)).run Tryz.prog w = .ok (u8v (l.getD i 0)) w := by
      simp [part, isAgg, run_underlying Tryz.underlying5, List.getD, List.getElem?_eq_getElem (show i < l.length by omega)]
    have pk : (Instr.checkKey b (9998 + 1) 5 (u8v (l.getD i 0))).run Tryz.prog w = .ok () w := by
      rw [Instr.checkKey]
      simp only [Sem.run_bind, run_underlying Tryz.underlying5, Result.andThen_ok, Sem.run_pure]
    have hsz := u8_size w
    simp only [List.forIn_cons, Sem.run_bind, hsz, px, pk, Result.andThen_ok, Sem.run_pure]
    exact ih fun j hj => hr j (by simp [hj])

def EntL : List MapEntry → List (List UInt8) → Nat → Prop
  | [], [], _ => True
  | e :: es, i :: is, k => (∃ cs, e.key = .agg cs ∧ HashA i cs) ∧ e.val = .int .i64 (k : Int) ∧ i.length = 32 ∧ EntL es is (k + 1)
  | _, _, _ => False
theorem EntL.push : ∀ {es : List MapEntry} {is : List (List UInt8)} {k : Nat} (h : EntL es is k) {e : MapEntry} {i : List UInt8} {cs : Array Value} (h1 : e.key = .agg cs) (h2 : HashA i cs) (h3 : e.val = .int .i64 ((k + is.length : Nat) : Int)) (h4 : i.length = 32), EntL (es ++ [e]) (is ++ [i]) k
  | [], [], k, _, e, i, cs, h1, h2, h3, h4 => ⟨⟨cs, h1, h2⟩, h3, h4, trivial⟩
  | [], _ :: _, _, h, _, _, _, _, _, _, _ => h.elim
  | _ :: _, [], _, h, _, _, _, _, _, _, _ => h.elim
  | _ :: es, _ :: is, k, ⟨a, b, c, d⟩, e, i, cs, h1, h2, h3, h4 => ⟨a, b, c, EntL.push d h1 h2 (by rw [h3, List.length_cons]; congr 2; omega) h4⟩
def idxI (is : List (List UInt8)) (id : List UInt8) : Option Nat := is.findIdx? fun x => x == id
theorem run_asking {l : List UInt8} {cs : Array Value} (h : HashA l cs) (hl : l.length = 32) (w : World) : ∀ (es : List MapEntry) (is : List (List UInt8)) (k j : Nat), EntL es is k →
    (Instr.findAsking 36 (.agg cs) es j).run Tryz.prog w = .ok ((idxI is l).map fun n => (j + n, .int .i64 ((k + n : Nat) : Int))) w
  | [], [], k, j, _ => by
    rw [Instr.findAsking]; simp [idxI]
  | [], _ :: _, _, _, he => he.elim
  | _ :: _, [], _, _, he => he.elim
  | e :: es, i :: is, k, j, ⟨⟨ds, h1, h2⟩, h3, h4, h5⟩ => by
    have hq : (Op.equal 36 (.agg cs) (.agg ds)).run Tryz.prog w = .ok (l == i) w := hash_in h h2 hl h4 w
    rw [Instr.findAsking, h1]
    simp only [Sem.run_bind, hq, Result.andThen_ok]
    unfold idxI
    rw [List.findIdx?_cons, BEq.comm (a := i)]
    cases hb : (l == i) with
    | true => simp [h3]
    | false =>
      simp only [Bool.false_eq_true, if_false]
      rw [run_asking h hl w es is (k + 1) (j + 1) h5]
      unfold idxI
      cases List.findIdx? (fun x => x == l) is with
      | none => rfl
      | some n =>
        simp only [Option.map_some]
        rw [show j + 1 + n = j + (n + 1) by omega, show k + 1 + n = k + (n + 1) by omega]
theorem run_find {l : List UInt8} {cs : Array Value} (h : HashA l cs) (hl : l.length = 32) (w : World) {es : List MapEntry} {is : List (List UInt8)} (he : EntL es is 0) :
    (Instr.findKey 36 (.agg cs) es).run Tryz.prog w = .ok ((idxI is l).map fun n => (n, .int .i64 (n : Int))) w := by
  have hA := run_asking h hl w es is 0 0 he
  simp only [Nat.zero_add] at hA
  rw [Instr.findKey]
  simp only [Sem.run_bind, run_underlying hash_under2, Result.andThen_ok]
  cases es with
  | nil =>
    cases is with
    | nil => rw [Instr.findNow]; simp [idxI]
    | cons => exact he.elim
  | cons e es =>
    have hn : Instr.findNow (.array 32 5) (.agg cs) (e :: es) 0 = none := by
      rw [Instr.findNow]
      simp [Instr.sameNow]
    rw [hn]
    exact hA

/-- Block M is a map from these hashes to their places. -/
def MapAt (w : World) (M : Nat) (is : List (List UInt8)) : Prop := ∃ es clock, w.heap[M]? = some (.map es clock) ∧ EntL es.toList is 0
theorem MapAt.lt {w : World} {M : Nat} {is : List (List UInt8)} (h : MapAt w M is) : M < w.heap.size := by
  obtain ⟨es, c, h1, -⟩ := h
  exact (Array.getElem?_eq_some_iff.1 h1).1
theorem MapAt.of_eq {w w' : World} {M : Nat} {is : List (List UInt8)} (h : MapAt w M is) (hb : w'.heap[M]? = w.heap[M]?) : MapAt w' M is := by
  obtain ⟨es, c, h1, h2⟩ := h
  exact ⟨es, c, hb.trans h1, h2⟩
theorem MapAt.keep {w w' : World} {M : Nat} {is : List (List UInt8)} (h : MapAt w M is) (hk : Keep w w') : MapAt w' M is := h.of_eq (hk.block M h.lt)
theorem MapAt.new (w : World) : MapAt (w.alloc (.map #[] 0)) w.heap.size [] := ⟨#[], 0, heap_alloc_new w _, trivial⟩
theorem MapAt.look {w : World} {M : Nat} {is : List (List UInt8)} (h : MapAt w M is) {l : List UInt8} {cs : Array Value} (hc : HashA l cs) (hl : l.length = 32) :
    (Instr.lookup 70 (.map (some M)) (.agg cs) true).run Tryz.prog w = .ok (.tuple #[.int .i64 (((idxI is l).getD 0 : Nat) : Int), .bool (idxI is l).isSome]) w := by
  obtain ⟨es, c, h1, h2⟩ := h
  have hz : (zeroValue 3).run Tryz.prog w = .ok (.int .i64 0) w := by kernel_rfl
  rw [Instr.lookup]
  simp only [Sem.run_bind, Sem.run_pure, run_underlying map_under, Result.andThen_ok, MapKept.run_getObj_map h1, run_keyHash hc hl, run_find hc hl w h2]
  cases idxI is l with
  | none => simp [hz]
  | some n => simp
theorem MapAt.write {w : World} {M : Nat} {is : List (List UInt8)} (h : MapAt w M is) {l : List UInt8} {cs : Array Value} (hc : HashA l cs) (hl : l.length = 32) (hn : idxI is l = none) :
    ∃ w', (Instr.mapUpdate 70 (.map (some M)) (.agg cs) (.int .i64 (is.length : Int))).run Tryz.prog w = .ok () w' ∧ MapAt w' M (is ++ [l]) ∧ w.grownBy w' (some M) := by
  obtain ⟨es, c, h1, h2⟩ := h
  have hf := run_find hc hl w h2
  rw [hn] at hf
  refine ⟨setBlock w M (.map (es.push { key := .agg cs, val := .int .i64 (is.length : Int), born := c }) (c + 1)), ?_, ⟨_, _, heap_setBlock_same h1 _, ?_⟩, ⟨rfl, rfl, rfl, by simp [setBlock], fun i _ hi => heap_setBlock_other h1 _ (fun e => hi (by rw [e]))⟩⟩
  · rw [Instr.mapUpdate]
    simp only [Sem.run_bind, Sem.run_pure, run_underlying map_under, Result.andThen_ok, MapKept.run_getObj_map h1, run_keyHash hc hl, hf, Option.map_none, MapKept.run_setObj_map _ h1]
    rfl
  · rw [Array.toList_push]
    exact h2.push rfl hc (by simp) hl
set_option maxRecDepth 100000 in
theorem wp_look {w : World} {o : Oper} {a : Act} {K : Act → World → Prop} {Q : Exit → Act → World → Prop} {m x : Operand} (ho : o.op = .lookup 70 m x true)
    (M : Nat) (is : List (List UInt8)) (l : List UInt8) (cs : Array Value) (hm : a.eval m = .map (some M)) (hx : a.eval x = .agg cs) (h : MapAt w M is) (hc : HashA l cs) (hl : l.length = 32)
    (hK : K (a.put o.dst (.tuple #[.int .i64 (((idxI is l).getD 0 : Nat) : Int), .bool (idxI is l).isSome])) w) : o.wp Tryz.prog a w K Q := by
  have hrun := h.look hc hl
  unfold Oper.wp execOp
  simp only [ho, hm, hx, hrun, Sem.run_bind, Sem.run_pure, Result.andThen_ok]
  exact hK
set_option maxRecDepth 100000 in
theorem wp_write {w : World} {o : Oper} {a : Act} {K : Act → World → Prop} {Q : Exit → Act → World → Prop} {m x v : Operand} (ho : o.op = .mapUpdate 70 m x v)
    (M : Nat) (is : List (List UInt8)) (l : List UInt8) (cs : Array Value) (hm : a.eval m = .map (some M)) (hx : a.eval x = .agg cs) (hv : a.eval v = .int .i64 (is.length : Int)) (h : MapAt w M is) (hc : HashA l cs) (hl : l.length = 32) (hn : idxI is l = none)
    (hK : ∀ w', MapAt w' M (is ++ [l]) → w.grownBy w' (some M) → K (a.put o.dst undef) w') : o.wp Tryz.prog a w K Q := by
  obtain ⟨w', hrun, h1, h2⟩ := h.write hc hl hn
  unfold Oper.wp execOp
  simp only [ho, hm, hx, hv, hrun, Sem.run_bind, Sem.run_pure, Result.andThen_ok]
  exact hK w' h1 h2
set_option maxRecDepth 100000 in
theorem wpList_write {w : World} {ops : Array Oper} {rest : List Oper} {a : Act} {Q : Exit → Act → World → Prop} {m x v : Operand} {dst : Option Tmp} {ty : TypeId} {pos : String} {af : Array Edge}
    (M : Nat) (is : List (List UInt8)) (l : List UInt8) (cs : Array Value) (hm : a.eval m = .map (some M)) (hx : a.eval x = .agg cs) (hv : a.eval v = .int .i64 (is.length : Int)) (h : MapAt w M is) (hc : HashA l cs) (hl : l.length = 32) (hn : idxI is l = none)
    (hK : ∀ w', MapAt w' M (is ++ [l]) → w.grownBy w' (some M) → wpList Tryz.prog ops Q rest (a.put dst undef) w') :
    wpList Tryz.prog ops Q ({ dst := dst, op := .mapUpdate 70 m x v, type := ty, pos := pos, after := af, guard := none } :: rest) a w :=
  wpList_plain rfl fun _ hK' => wp_write rfl M is l cs hm hx hv h hc hl hn fun w' h1 h2 => hK' _ _ (hK w' h1 h2)
end Go.Proofs.YtjbdboekleaklaaGreatDoor
