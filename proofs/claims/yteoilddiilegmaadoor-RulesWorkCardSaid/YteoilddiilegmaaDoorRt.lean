/- retarget: between, within, all, Clamp, First. -/
import Derived.Test.YteoilddiilegmaaDoorUK
import Derived.Great.BuildSlice
set_option linter.unusedSimpArgs false
set_option linter.unusedVariables false
namespace Go.Proofs.YteoilddiilegmaaDoor
open Go.RowKit
attribute [local go_sem ↓] Go.wp_at_zero Go.wp_at_succ

abbrev iv (n : Int) : Value := .int .i64 n
def btw (n a b : Int) : Int := min (max n a) b
theorem btw_eq {n a b : Int} (h : a ≤ b) : (n == btw n a b) = decide (a ≤ n ∧ n ≤ b) := by
  unfold btw
  rw [Bool.eq_iff_iff]; simp; omega

set_option maxRecDepth 100000 in
theorem between_any (n a b : Int) (w : World) : Calls Tryd.prog 39 #[iv n, iv a, iv b] w fun e w' => e = .returned (iv (btw n a b)) ∧ w' = w := by
  have hM : Hid (∀ r, btw n a b = r → r = min (max n a) b) := Lib.hid fun r e => by subst e; rfl
  replace hM := Lib.hid (hM.out _ rfl)
  generalize btw n a b = r at *
  go_enter Tryd.func39, Tryd.ntmps39
  go_wp2
  exact bodyPost_ret (v := iv r) (by rw [hM.out]; simp [results, Tryd.results39]) rfl ⟨rfl, rfl⟩

set_option maxRecDepth 100000 in
theorem within_any (n a b : Int) (hab : a ≤ b) (w : World) : Calls Tryd.prog 28 #[iv n, iv a, iv b] w fun e w' => e = .returned (.bool (decide (a ≤ n ∧ n ≤ b))) ∧ w' = w := by
  have hb := btw_eq (n := n) hab
  have HB := Lib.hid hb
  clear hb hab
  go_enter Tryd.func28, Tryd.ntmps28
  go_wp2_with fail
  refine (between_any n a b _).mono ?_
  rintro x w' ⟨rfl, rfl⟩
  go_wp2
  exact bodyPost_ret (v := .bool (decide (a ≤ n ∧ n ≤ b))) (by rw [← HB.out]; simp [results, Tryd.results28]) rfl ⟨rfl, rfl⟩

set_option maxRecDepth 100000 in
set_option maxHeartbeats 1000000 in
theorem all_any (A : Option Addr) (l : List Bool) (c : Nat) (w : World) (hl : l.length ≤ 100) (hr : Rd w A (l.map Value.bool)) :
    Calls Tryd.prog 27 #[.slice A l.length c] w fun e w' => e = .returned (.bool (l.all id)) ∧ w' = w := by
  have HA : Hid (∀ r, l.all id = r → r = l.all id) := Lib.hid fun r e => e.symm
  obtain ⟨r, hr0⟩ : ∃ r, r = l.all id := ⟨_, rfl⟩
  rw [← hr0]
  replace hr0 := Lib.hid hr0
  clear HA
  go_enter Tryd.func27, Tryd.ntmps27
  go_wp2
  go_loopw [7] (fun i wr => ∃ k : Nat, k ≤ l.length ∧ i = .int .i64 k ∧ (l.take k).all id = true ∧ wr = w) (fun i _ => l.length - (intOf i).toNat)
  case atStart => exact ⟨0, Nat.zero_le _, rfl, rfl, rfl⟩
  case round =>
    obtain ⟨k, hk, rfl, hall, rfl⟩ := hrel
    by_cases hkl : k < l.length
    · have g1 : (k : Int) < l.length := by omega
      obtain ⟨b, off, rfl, hb, F⟩ := hr.at (k := k) (by simpa using hkl)
      have hc := F k (by simpa using hkl)
      have hx : (l.map Value.bool)[k]'(by simpa using hkl) = .bool l[k] := by simp
      rw [hx] at hc
      have htk : (l.take (k + 1)).all id = ((l.take k).all id && l[k]) := by rw [List.take_succ_eq_append_getElem hkl, List.all_append]; simp
      by_cases hv : l[k] = true
      · rw [hv] at hc htk
        go_wp2
        exact ⟨⟨k + 1, by omega, by simp, by rw [htk, hall]; rfl, trivial⟩, by simp [intOf]; omega⟩
      · have hf : l[k] = false := by simpa using hv
        rw [hf] at hc
        have hno : l.all id = false := by
          rw [List.all_eq_false]
          exact ⟨l[k], List.getElem_mem hkl, by simp [hf]⟩
        have hrr : r = false := hr0.out.trans hno
        subst hrr
        clear hno hall
        go_wp2
        go_ret
        exact ⟨rfl, rfl⟩
    · have g1 : ¬ (k : Int) < l.length := by omega
      have hkk : k = l.length := by omega
      have hyes : l.all id = true := by rw [hkk, List.take_length] at hall; exact hall
      have hrr : r = true := hr0.out.trans hyes
      subst hrr
      clear hyes hall
      go_wp2
      go_ret
      exact ⟨rfl, rfl⟩

set_option maxRecDepth 100000 in
set_option maxHeartbeats 1000000 in
theorem clamp_any (x s : Int) (w : World) (hs1 : 4 ≤ s) (hs2 : s ≤ 1099511627776) : Calls Tryd.prog 42 #[iv x, iv s] w fun e w' => e = .returned (iv (btw x (s.tdiv 4) (4 * s))) ∧ w' = w := by
  have hb : btw s 4 1099511627776 = s := by unfold btw; omega
  have B1 : Hid (∀ w, Calls Tryd.prog 39 #[iv s, iv 4, iv 1099511627776] w fun e w' => e = .returned (iv s) ∧ w' = w) := Lib.hid fun w => by have := between_any s 4 1099511627776 w; rw [hb] at this; exact this
  have B2 : Hid (∀ w, Calls Tryd.prog 39 #[iv x, iv (s.tdiv 4), iv (4 * s)] w fun e w' => e = .returned (iv (btw x (s.tdiv 4) (4 * s))) ∧ w' = w) := Lib.hid fun w => between_any _ _ _ w
  have hw4 : IntKind.i64.wrap (4 * s) = 4 * s := IntWalk.i64_in _ (by omega)
  have hd1 : IntKind.i64.wrap (s.tdiv 4) = s.tdiv 4 := IntWalk.i64_in _ (by have := Int.tdiv_eq_ediv_of_nonneg (a := s) (b := 4) (by omega); omega)
  clear hb
  generalize btw x (s.tdiv 4) (4 * s) = r at *
  obtain ⟨q, hq⟩ : ∃ q, s.tdiv 4 = q := ⟨_, rfl⟩
  obtain ⟨m, hm⟩ : ∃ m, 4 * s = m := ⟨_, rfl⟩
  rw [hq] at B2 hd1
  rw [hm] at B2 hw4
  go_enter Tryd.func42, Tryd.ntmps42
  go_wp2_with fail
  refine (B1.out _).mono ?_
  rintro e w' ⟨rfl, rfl⟩
  go_wp2_with fail
  refine (B2.out _).mono ?_
  rintro e w' ⟨rfl, rfl⟩
  go_wp2
  exact bodyPost_ret (v := iv r) (by simp [results, Tryd.results42]) rfl ⟨rfl, rfl⟩

def firstI (n i : Int) : Int := if n ≤ btw i 1 1048576 then 0 else n - btw i 1 1048576
set_option maxRecDepth 100000 in
theorem first_any (n i : Int) (w : World) (hn : 0 ≤ n) (hn2 : n ≤ 1000000) : Calls Tryd.prog 31 #[iv n, iv i] w fun e w' => e = .returned (iv (firstI n i)) ∧ w' = w := by
  have hb : 1 ≤ btw i 1 1048576 ∧ btw i 1 1048576 ≤ 1048576 := by unfold btw; omega
  have hF : Hid (∀ r, firstI n i = r → r = if n ≤ btw i 1 1048576 then 0 else n - btw i 1 1048576) := Lib.hid fun r e => by subst e; rfl
  replace hF := Lib.hid (hF.out _ rfl)
  generalize firstI n i = r at *
  have hB := fun w => between_any i 1 1048576 w
  generalize btw i 1 1048576 = m at *
  obtain ⟨b1, b2⟩ := hb
  go_enter Tryd.func31, Tryd.ntmps31
  go_wp2_with fail
  refine (hB _).mono ?_
  clear hB
  rintro e w' ⟨rfl, rfl⟩
  by_cases h : n ≤ m
  · have hr := hF.out
    rw [if_pos h] at hr
    subst hr
    clear hF
    go_wp2
    exact bodyPost_ret (v := iv 0) (by simp [results, Tryd.results31]) rfl ⟨rfl, rfl⟩
  · have hr := hF.out
    rw [if_neg h] at hr
    subst hr
    clear hF
    go_wp2
    exact bodyPost_ret (v := iv (n - m)) (by simp [results, Tryd.results31]) rfl ⟨rfl, rfl⟩

/-- Rules. -/
structure Par where
  limit : UInt32
  itv : Int
  span : Int
  fut : Int
  idx : Int
  orp : Int
  chks : List (Int × List UInt8)
def parV (p : Par) (A : Option Addr) (c : Nat) : Value := .agg #[u32v p.limit, iv p.itv, iv p.span, iv p.fut, iv p.idx, iv p.orp, .slice A p.chks.length c]
def saneL (p : Par) : List Bool := [decide (1 ≤ p.itv ∧ p.itv ≤ 1048576), decide (4 ≤ p.span ∧ p.span ≤ 1099511627776), decide ((expN p.limit).2 = 0), decide (0 ≤ p.fut ∧ p.fut ≤ 4294967296), decide (0 ≤ p.idx ∧ p.idx ≤ 1048576), decide (0 ≤ p.orp ∧ p.orp ≤ 1048576), decide (p.chks.length ≤ 100)]
def saneR (p : Par) : Bool := (saneL p).all id
theorem saneR_iff (p : Par) : saneR p = true ↔ (1 ≤ p.itv ∧ p.itv ≤ 1048576) ∧ (4 ≤ p.span ∧ p.span ≤ 1099511627776) ∧ (expN p.limit).2 = 0 ∧ (0 ≤ p.fut ∧ p.fut ≤ 4294967296) ∧ (0 ≤ p.idx ∧ p.idx ≤ 1048576) ∧ (0 ≤ p.orp ∧ p.orp ≤ 1048576) ∧ p.chks.length ≤ 100 := by
  simp [saneR, saneL]

end Go.Proofs.YteoilddiilegmaaDoor
