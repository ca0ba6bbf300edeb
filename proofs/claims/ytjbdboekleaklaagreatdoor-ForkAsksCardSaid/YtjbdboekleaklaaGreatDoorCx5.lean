/- Texts merged by pack.py: Wa, UA, Ta, UB, UC, MoG, UD, UE, UF. -/
import Derived.Test.YtjbdboekleaklaaGreatDoorCx4
import Derived.Lib.BitFns
import Derived.Test.YtjbdboekleaklaaGreatDoorCx1
import Derived.Laws.StructEq
import Derived.Test.YtjbdboekleaklaaGreatDoorCx2
import Derived.Deep.MidRow
import Derived.Laws.Bits64b
/- Words added, taken away, divided (plain). -/
set_option linter.unusedSimpArgs false
set_option linter.unusedVariables false
namespace Go.Proofs.YtjbdboekleaklaaGreatDoor

def addc (N M k : Nat) : Nat := (N % 2 ^ (64 * k) + M % 2 ^ (64 * k)) / 2 ^ (64 * k)
theorem addc_zero (N M : Nat) : addc N M 0 = 0 := by simp [addc, Nat.mod_one]
theorem addc_le (N M k : Nat) : addc N M k ≤ 1 := by
  unfold addc
  have hp : 0 < 2 ^ (64 * k) := Nat.two_pow_pos _
  have h1 := Nat.mod_lt N hp
  have h2 := Nat.mod_lt M hp
  exact Nat.le_of_lt_succ ((Nat.div_lt_iff_lt_mul hp).2 (by omega))
theorem addc_step (N M k : Nat) : limb N k + limb M k + addc N M k = limb (N + M) k + 2 ^ 64 * addc N M (k + 1) := by
  unfold limb addc
  rw [show 64 * (k + 1) = 64 * k + 64 by omega, Nat.pow_add, Nat.mod_mul, Nat.mod_mul]
  have hp : 0 < 2 ^ (64 * k) := Nat.two_pow_pos _
  generalize 2 ^ (64 * k) = B at *
  have e1 : (N % B + B * (N / B % 2 ^ 64) + (M % B + B * (M / B % 2 ^ 64))) / (B * 2 ^ 64) = ((N % B + M % B) / B + (N / B % 2 ^ 64 + M / B % 2 ^ 64)) / 2 ^ 64 := by
    rw [← Nat.div_div_eq_div_mul]
    congr 1
    rw [show N % B + B * (N / B % 2 ^ 64) + (M % B + B * (M / B % 2 ^ 64)) = (N % B + M % B) + B * (N / B % 2 ^ 64 + M / B % 2 ^ 64) by rw [Nat.mul_add]; omega]
    exact Nat.add_mul_div_left _ _ hp
  have e2 : (N + M) / B = (N % B + M % B) / B + (N / B + M / B) := by
    have a1 := Nat.mod_add_div N B
    have a2 := Nat.mod_add_div M B
    conv => lhs; rw [← a1, ← a2, show N % B + B * (N / B) + (M % B + B * (M / B)) = (N % B + M % B) + B * (N / B + M / B) by rw [Nat.mul_add]; omega]
    exact Nat.add_mul_div_left _ _ hp
  rw [e1, e2]
  omega
theorem addc_four {N M : Nat} (hN : N < 2 ^ 256) (hM : M < 2 ^ 256) : addc N M 4 = if 2 ^ 256 ≤ N + M then 1 else 0 := by
  have e : addc N M 4 = (N % 2 ^ 256 + M % 2 ^ 256) / 2 ^ 256 := rfl
  rw [e, Nat.mod_eq_of_lt hN, Nat.mod_eq_of_lt hM]
  split <;> omega
theorem limb_mod (X k : Nat) (hk : k < 4) : limb (X % 2 ^ 256) k = limb X k := by
  unfold limb
  rcases (show k = 0 ∨ k = 1 ∨ k = 2 ∨ k = 3 by omega) with rfl | rfl | rfl | rfl <;> simp only [Nat.reduceMul, Nat.reducePow, Nat.div_one] <;> omega
def sumN (N M : Nat) : Nat := (N + M) % 2 ^ 256
theorem sumN_lt (N M : Nat) : sumN N M < 2 ^ 256 := Nat.mod_lt _ (by decide)
theorem sum_limb (N M k : Nat) (hk : k < 4) : (limb N k + limb M k + addc N M k) % 18446744073709551616 = limb (sumN N M) k ∧ (limb N k + limb M k + addc N M k) / 18446744073709551616 = addc N M (k + 1) := by
  have h := addc_step N M k
  have h2 := limb_lt (N + M) k
  rw [sumN, limb_mod _ _ hk, h]
  simp only [Nat.reducePow] at h2 ⊢
  omega

def subb (N M k : Nat) : Nat := if N % 2 ^ (64 * k) < M % 2 ^ (64 * k) then 1 else 0
def difN (N M : Nat) : Nat := (N + 2 ^ 256 - M) % 2 ^ 256
theorem difN_lt (N M : Nat) : difN N M < 2 ^ 256 := Nat.mod_lt _ (by decide)
theorem subb_le (N M k : Nat) : subb N M k ≤ 1 := by unfold subb; split <;> omega
theorem subb_zero (N M : Nat) : subb N M 0 = 0 := by simp [subb, Nat.mod_one]
theorem subb_step (N M k : Nat) : subb N M (k + 1) = if limb N k < limb M k + subb N M k then 1 else 0 := by
  unfold limb subb
  rw [show 64 * (k + 1) = 64 * k + 64 by omega, Nat.pow_add, Nat.mod_mul, Nat.mod_mul]
  have hp : 0 < 2 ^ (64 * k) := Nat.two_pow_pos _
  generalize 2 ^ (64 * k) = B at *
  have h1 := Nat.mod_lt N hp
  have h2 := Nat.mod_lt M hp
  generalize N % B = r at *
  generalize M % B = s at *
  generalize N / B % 2 ^ 64 = n at *
  generalize M / B % 2 ^ 64 = m at *
  by_cases hnm : n = m
  · subst hnm
    by_cases h : r < s
    · rw [if_pos h, if_pos (by omega), if_pos (by omega)]
    · rw [if_neg h, if_neg (by omega), if_neg (by omega)]
  · by_cases h : n < m
    · have h3 : B * (n + 1) ≤ B * m := Nat.mul_le_mul_left B (by omega)
      rw [Nat.mul_add, Nat.mul_one] at h3
      rw [if_pos (by omega), if_pos (by split <;> omega)]
    · have h3 : B * (m + 1) ≤ B * n := Nat.mul_le_mul_left B (by omega)
      rw [Nat.mul_add, Nat.mul_one] at h3
      rw [if_neg (by omega), if_neg (by split <;> omega)]
theorem dif_limb {N M : Nat} (hN : N < 2 ^ 256) (hM : M < 2 ^ 256) (k : Nat) (hk : k < 4) : (limb N k + 18446744073709551616 - limb M k - subb N M k) % 18446744073709551616 = limb (difN N M) k := by
  have hD : sumN (difN N M) M = N := by unfold sumN difN; omega
  have hs := (sum_limb (difN N M) M k hk).1
  rw [hD] at hs
  have hb : addc (difN N M) M k = subb N M k := by
    have hle := addc_le (difN N M) M k
    unfold addc subb at *
    have hp : 0 < 2 ^ (64 * k) := Nat.two_pow_pos _
    have hm : N % 2 ^ (64 * k) = ((difN N M) % 2 ^ (64 * k) + M % 2 ^ (64 * k)) % 2 ^ (64 * k) := by
      rw [← Nat.add_mod]
      conv => lhs; rw [← hD]
      unfold sumN
      exact Nat.mod_mod_of_dvd _ (Nat.pow_dvd_pow 2 (by omega))
    have h1 := Nat.mod_lt (difN N M) hp
    have h2 := Nat.mod_lt M hp
    generalize difN N M % 2 ^ (64 * k) = r at *
    generalize M % 2 ^ (64 * k) = s at *
    rw [hm]
    generalize 2 ^ (64 * k) = B at *
    by_cases h : r + s < B
    · rw [Nat.div_eq_of_lt h, Nat.mod_eq_of_lt h, if_neg (by omega)]
    · have e : (r + s) / B = 1 := Nat.div_eq_of_lt_le (by omega) (by omega)
      have e2 : (r + s) % B = r + s - B := by rw [Nat.mod_eq_sub_mod (by omega), Nat.mod_eq_of_lt (by omega)]
      rw [e, e2, if_pos (by omega)]
  rw [hb] at hs
  have h1 := limb_lt (difN N M) k
  have h2 := limb_lt N k
  have h3 := limb_lt M k
  have h4 := subb_le N M k
  simp only [Nat.reducePow] at h1 h2 h3
  omega
theorem subb_four {N M : Nat} (hN : N < 2 ^ 256) (hM : M < 2 ^ 256) : subb N M 4 = if N < M then 1 else 0 := by
  have e : subb N M 4 = if N % 2 ^ 256 < M % 2 ^ 256 then 1 else 0 := rfl
  rw [e, Nat.mod_eq_of_lt hN, Nat.mod_eq_of_lt hM]

/-! All digits turned. -/
def notN (N : Nat) : Nat := 2 ^ 256 - 1 - N
theorem not_limb {N : Nat} (hN : N < 2 ^ 256) (k : Nat) (hk : k < 4) : limb (notN N) k = 18446744073709551615 - limb N k := by
  unfold limb notN
  rcases (show k = 0 ∨ k = 1 ∨ k = 2 ∨ k = 3 by omega) with rfl | rfl | rfl | rfl <;> simp only [Nat.reduceMul, Nat.reducePow, Nat.div_one] at * <;> omega

/-! One digit set. -/
theorem limb_or (N M i : Nat) : limb (N ||| M) i = limb N i ||| limb M i := by
  unfold limb
  rw [← Nat.shiftRight_eq_div_pow, ← Nat.shiftRight_eq_div_pow, ← Nat.shiftRight_eq_div_pow, Nat.shiftRight_or_distrib, Nat.or_mod_two_pow]
theorem limb_pow (i j : Nat) : limb (2 ^ i) j = if j = i / 64 then 2 ^ (i % 64) else 0 := by
  apply Nat.eq_of_testBit_eq
  intro b
  rw [limb_bit]
  by_cases h : j = i / 64
  · rw [if_pos h, Nat.testBit_two_pow, Nat.testBit_two_pow, Bool.eq_iff_iff]
    simp only [Bool.and_eq_true, decide_eq_true_eq]
    omega
  · rw [if_neg h, Nat.testBit_two_pow, Nat.zero_testBit]
    simp only [Bool.and_eq_false_iff, decide_eq_false_iff_not]
    omega
/-- Behind the digits from i + 1 on. -/
theorem set_or (q i : Nat) : 2 ^ (i + 1) * q ||| 2 ^ i = 2 ^ (i + 1) * q + 2 ^ i := by
  have h := add_bit (2 ^ i) q (i + 1) (Nat.pow_lt_pow_right (by decide) (by omega))
  rw [Nat.or_comm, ← h, Nat.add_comm]
theorem or_one {a b : Nat} (ha : a % 2 = 0) (hb : b < 2) : a ||| b = a + b := by
  have h := add_bit b (a / 2) 1 (by omega)
  rw [Nat.pow_one] at h
  have e : 2 * (a / 2) = a := by omega
  rw [e] at h
  rw [Nat.or_comm, ← h, Nat.add_comm]
/-- One step of a long division: a's digits from i on. -/
theorem div_more {a b i : Nat} (hb : 0 < b) :
    a / 2 ^ i = 2 * (a / 2 ^ (i + 1)) + a / 2 ^ i % 2 ∧
    (b ≤ 2 * (a / 2 ^ (i + 1) % b) + a / 2 ^ i % 2 → a / 2 ^ i % b = 2 * (a / 2 ^ (i + 1) % b) + a / 2 ^ i % 2 - b ∧ a / 2 ^ i / b = 2 * (a / 2 ^ (i + 1) / b) + 1) ∧
    (2 * (a / 2 ^ (i + 1) % b) + a / 2 ^ i % 2 < b → a / 2 ^ i % b = 2 * (a / 2 ^ (i + 1) % b) + a / 2 ^ i % 2 ∧ a / 2 ^ i / b = 2 * (a / 2 ^ (i + 1) / b)) := by
  have e : a / 2 ^ (i + 1) = a / 2 ^ i / 2 := by rw [Nat.pow_succ, Nat.div_div_eq_div_mul]
  rw [e]
  generalize a / 2 ^ i = x
  have h0 : x = 2 * (x / 2) + x % 2 := by omega
  have h1 := Nat.mod_add_div (x / 2) b
  have h2 := Nat.mod_lt (x / 2) hb
  refine ⟨h0, fun h => ?_, fun h => ?_⟩
  · have hx : x = (2 * (x / 2 % b) + x % 2 - b) + b * (2 * (x / 2 / b) + 1) := by
      have : b * (2 * (x / 2 / b) + 1) = 2 * (b * (x / 2 / b)) + b := by rw [Nat.mul_add, Nat.mul_one, Nat.mul_left_comm]
      omega
    have hlt : 2 * (x / 2 % b) + x % 2 - b < b := by omega
    constructor
    · conv => lhs; rw [hx]
      rw [Nat.add_mul_mod_self_left, Nat.mod_eq_of_lt hlt]
    · conv => lhs; rw [hx]
      rw [Nat.add_mul_div_left _ _ hb, Nat.div_eq_of_lt hlt, Nat.zero_add]
  · have hx : x = (2 * (x / 2 % b) + x % 2) + b * (2 * (x / 2 / b)) := by
      have : b * (2 * (x / 2 / b)) = 2 * (b * (x / 2 / b)) := by rw [Nat.mul_left_comm]
      omega
    constructor
    · conv => lhs; rw [hx]
      rw [Nat.add_mul_mod_self_left, Nat.mod_eq_of_lt h]
    · conv => lhs; rw [hx]
      rw [Nat.add_mul_div_left _ _ hb, Nat.div_eq_of_lt h, Nat.zero_add]
/-- Often, with the digits from i on. -/
def oftN (a b i : Nat) : Nat := a / 2 ^ i / b * 2 ^ i
theorem oft_hit {a b i : Nat} (h : a / 2 ^ i / b = 2 * (a / 2 ^ (i + 1) / b) + 1) : oftN a b i = oftN a b (i + 1) ||| 2 ^ i := by
  unfold oftN
  rw [h, Nat.mul_comm (a / 2 ^ (i + 1) / b), set_or]
  generalize a / 2 ^ (i + 1) / b = X
  rw [Nat.pow_succ]
  generalize 2 ^ i = B
  rw [Nat.add_mul, Nat.one_mul, Nat.mul_assoc, Nat.mul_assoc, Nat.mul_left_comm B, Nat.mul_comm X B]
theorem oft_miss {a b i : Nat} (h : a / 2 ^ i / b = 2 * (a / 2 ^ (i + 1) / b)) : oftN a b i = oftN a b (i + 1) := by
  unfold oftN
  rw [h]
  generalize a / 2 ^ (i + 1) / b = X
  rw [Nat.pow_succ]
  generalize 2 ^ i = B
  rw [Nat.mul_comm B 2, ← Nat.mul_assoc, Nat.mul_comm X 2]
theorem oft_lt {a b i : Nat} (ha : a < 2 ^ 256) : oftN a b i < 2 ^ 256 := by
  unfold oftN
  have h1 : a / 2 ^ i / b * 2 ^ i ≤ a / 2 ^ i * 2 ^ i := Nat.mul_le_mul_right _ (Nat.div_le_self _ _)
  have h2 : a / 2 ^ i * 2 ^ i ≤ a := Nat.div_mul_le_self _ _
  omega
theorem oft_zero (a b : Nat) : oftN a b 0 = a / b := by unfold oftN; simp
/-! What a target is worth. -/
def workN (x : UInt32) : Nat := if (expN x).2 ≠ 0 then 0 else (2 ^ 256 - 1 - (expN x).1) / ((expN x).1 + 1) + 1
theorem workN_lt (x : UInt32) : workN x < 2 ^ 256 := by
  unfold workN
  by_cases h : (expN x).2 ≠ 0
  · rw [if_pos h]; decide
  · rw [if_neg h]
    have h1 : (2 ^ 256 - 1 - (expN x).1) / ((expN x).1 + 1) ≤ 2 ^ 256 - 1 - (expN x).1 := Nat.div_le_self _ _
    by_cases h0 : (expN x).1 = 0
    · exfalso
      unfold expN at h h0
      split at h
      · exact absurd (by decide) h
      · split at h
        · exact absurd (by decide) h
        · rename_i h2 h3
          rw [if_neg h2, if_neg h3] at h0
          exact h3 (Or.inr h0)
    · omega
end Go.Proofs.YtjbdboekleaklaaGreatDoor

/- u256: Cmp, Len. -/
set_option linter.unusedSimpArgs false
set_option linter.unusedVariables false
namespace Go.Proofs.YtjbdboekleaklaaGreatDoor
open Go.RowKit
attribute [local go_sem ↓] Go.wp_at_zero Go.wp_at_succ

/-- A word, and a number of four, as values. -/
abbrev n64 (n : Nat) : Value := .int .u64 (n : Int)
def uL (N : Nat) : List Value := [n64 (limb N 0), n64 (limb N 1), n64 (limb N 2), n64 (limb N 3)]
abbrev uV (N : Nat) : Value := .agg #[n64 (limb N 0), n64 (limb N 1), n64 (limb N 2), n64 (limb N 3)]
theorem uL_get (N k : Nat) (h : k < 4) : (uL N)[k]? = some (n64 (limb N k)) := by
  rcases (show k = 0 ∨ k = 1 ∨ k = 2 ∨ k = 3 by omega) with rfl | rfl | rfl | rfl <;> rfl
theorem uL_one (N : Nat) : ∀ v ∈ uL N, v.oneCell' = true := by
  intro v hv; simp [uL] at hv; rcases hv with rfl | rfl | rfl | rfl <;> rfl

set_option maxRecDepth 100000 in
set_option maxHeartbeats 1000000 in
theorem cmp_any (N M : Nat) (w : World) (hN : N < 2 ^ 256) (hM : M < 2 ^ 256) :
    Calls Tryz.prog 49 #[uV N, uV M] w fun e w' => e = .returned (.int .i64 (cmpN N M)) ∧ Keep w w' := by
  have HC : Hid (∀ c, cmpN N M = c → (N < M → c = -1) ∧ (M < N → c = 1) ∧ (N = M → c = 0)) := fun c e => by
    subst e; unfold cmpN
    refine ⟨fun h => if_pos h, fun h => ?_, fun h => ?_⟩
    · rw [if_neg (by omega), if_pos h]
    · rw [if_neg (by omega), if_neg (by omega)]
  replace HC := Lib.hid (HC.out _ rfl)
  generalize cmpN N M = c at *
  have HN := Lib.hid hN; have HM := Lib.hid hM
  clear hN hM
  go_enter Tryz.func49, Tryz.ntmps49
  go_upto_region 1 with fail
  obtain ⟨w1, hw1⟩ : ∃ w1, w1 = (w.alloc (.cells #[n64 (limb N 0), n64 (limb N 1), n64 (limb N 2), n64 (limb N 3)] 42)).alloc (.cells #[n64 (limb M 0), n64 (limb M 1), n64 (limb M 2), n64 (limb M 3)] 42) := ⟨_, rfl⟩
  have hc1 : ∀ k, k < 4 → w1.cell? ⟨w.heap.size, k, none⟩ = some (n64 (limb N k)) := fun k hk => by
    have h1 : Blk w1 w.heap.size 42 (uL N) := by rw [hw1]; exact (Blk.new w 42 (uL N)).alloc _
    rw [h1.cell, uL_get N k hk]
  have hc2 : ∀ k, k < 4 → w1.cell? ⟨w.heap.size + 1, k, none⟩ = some (n64 (limb M k)) := fun k hk => by
    have h1 : Blk w1 (w.heap.size + 1) 42 (uL M) := by
      rw [hw1]
      have h2 := Blk.new (w.alloc (.cells #[n64 (limb N 0), n64 (limb N 1), n64 (limb N 2), n64 (limb N 3)] 42)) 42 (uL M)
      rw [World.size_alloc] at h2
      exact h2
    rw [h1.cell, uL_get M k hk]
  have HK1 : Hid (Keep w w1) := by rw [hw1]; exact keep_trans (keep_new _ _) (keep_new _ _)
  rw [← hw1]
  have Hc1 := Lib.hid hc1; have Hc2 := Lib.hid hc2
  clear hw1 hc1 hc2
  go_wp2_with fail
  go_loopw [5] (fun i wr => ∃ k : Nat, k ≤ 4 ∧ i = .int .i64 ((k : Int) - 1) ∧ Hid (∀ j, k ≤ j → j < 4 → limb N j = limb M j) ∧ Hid (Keep w1 wr)) (fun i _ => (intOf i + 1).toNat)
  case atStart => exact ⟨4, by omega, rfl, Lib.hid (fun j h1 h2 => by omega), Lib.hid (Below.refl _ _)⟩
  case round =>
    obtain ⟨k, hk, rfl, he, hkr⟩ := hrel
    cases k with
    | zero =>
      have h1 := HC.out.2.2 (limb_ext HN.out HM.out (fun i hi => he.out i (Nat.zero_le _) hi))
      subst h1
      clear HC
      go_wp2
      go_ret
      exact ⟨rfl, keep_trans HK1.out hkr.out⟩
    | succ k =>
      have hi : ((k + 1 : Nat) : Int) - 1 = (k : Int) := by omega
      rw [hi]
      have a0 := keep_cell hkr.out (Hc1.out k (by omega)); have a1 := keep_cell hkr.out (Hc2.out k (by omega))
      have hl := limb_lt N k; have hm := limb_lt M k
      have hk4 : k < 4 := by omega
      have hx : Hid (limb N k < limb M k → N < M) := Lib.hid fun h => cmp_at HN.out HM.out hk4 (fun j h1 h2 => he.out j (by omega) h2) h
      have hy : Hid (limb M k < limb N k → M < N) := Lib.hid fun h => cmp_at HM.out HN.out hk4 (fun j h1 h2 => (he.out j (by omega) h2).symm) h
      have heq : Hid (limb N k = limb M k → ∀ j, k ≤ j → j < 4 → limb N j = limb M j) := Lib.hid fun h j h1 h2 => by
        by_cases e : j = k
        · subst e; exact h
        · exact he.out j (by omega) h2
      generalize limb N k = x at *
      generalize limb M k = y at *
      clear hi he
      have b0 := aft_cell a0; have b1 := aft_cell a1
      have hxi : (x : Int) < 18446744073709551616 := by omega
      have hyi : (y : Int) < 18446744073709551616 := by omega
      clear hl hm
      by_cases h1 : x < y
      · have h2 := HC.out.1 (hx.out h1)
        subst h2
        have d1 : decide (x < y) = true := decide_eq_true (by omega)
        clear HC hx hy heq h1 HN HM
        go_upto_region 4 with fail
        refine wp_region_aft (by kernel_rfl) (by kernel_rfl) wr (Below.refl _ _) ?_
        repeat (go_big_quiet_step (fail))
        refine wpQuiet_nil ?_
        rintro _ ⟨y', rfl⟩
        have j := aft_keep wr y'
        generalize aft wr y' = wz at j ⊢
        clear b0 b1
        go_wp2
        go_ret
        exact ⟨rfl, keep_trans HK1.out (keep_trans hkr.out j)⟩
      · have d1 : decide (x < y) = false := decide_eq_false (by omega)
        go_upto_region 4 with fail
        refine wp_region_aft (by kernel_rfl) (by kernel_rfl) wr (Below.refl _ _) ?_
        repeat (go_big_quiet_step (fail))
        refine wpQuiet_nil ?_
        rintro _ ⟨y', rfl⟩
        have j := aft_keep wr y'
        generalize aft wr y' = wz at j ⊢
        have c0 := aft_cell (keep_cell j a0); have c1 := aft_cell (keep_cell j a1)
        clear b0 b1
        by_cases h2 : y < x
        · have h3 := HC.out.2.1 (hy.out h2)
          subst h3
          have d2 : decide (y < x) = true := decide_eq_true (by omega)
          clear HC hx hy heq h1 h2
          go_upto_region 6 with fail
          refine wp_region_aft (by kernel_rfl) (by kernel_rfl) wz (Below.refl _ _) ?_
          repeat (go_big_quiet_step (fail))
          refine wpQuiet_nil ?_
          rintro _ ⟨y', rfl⟩
          have j2 := aft_keep wz y'
          generalize aft wz y' = wy at j2 ⊢
          clear c0 c1
          go_wp2
          go_ret
          exact ⟨rfl, keep_trans HK1.out (keep_trans hkr.out (keep_trans j j2))⟩
        · have hxy : x = y := by omega
          have He := Lib.hid (heq.out hxy)
          have d2 : decide (y < x) = false := decide_eq_false (by omega)
          clear hx hy heq h1 h2
          go_upto_region 6 with fail
          refine wp_region_aft (by kernel_rfl) (by kernel_rfl) wz (Below.refl _ _) ?_
          repeat (go_big_quiet_step (fail))
          refine wpQuiet_nil ?_
          rintro _ ⟨y', rfl⟩
          have j2 := aft_keep wz y'
          generalize aft wz y' = wy at j2 ⊢
          clear c0 c1
          go_wp2
          go_roundw
          case rel => exact ⟨k, by omega, by go_num, He, Lib.hid (keep_trans hkr.out (keep_trans j j2))⟩
          case measure => simp [intOf]
end Go.Proofs.YtjbdboekleaklaaGreatDoor

/- Trees of headers (plain). -/
set_option linter.unusedSimpArgs false
set_option linter.unusedVariables false
namespace Go.Proofs.YtjbdboekleaklaaGreatDoor
open Go.RowKit

structure Nd where
  id : List UInt8
  head : Hd
  par : Int
  hgt : Nat
  work : Nat
def Nd.ok (n : Nd) : Prop := n.id.length = 32 ∧ n.head.ok ∧ n.work < 2 ^ 256
def Nd.cells (n : Nd) : List Value := n.id.map u8v ++ (n.head.cells ++ (Value.int .i64 n.par :: Value.int .i64 n.hgt :: uL n.work))
theorem Nd.len {n : Nd} (h : n.ok) : n.cells.length = 106 := by simp [Nd.cells, Hd.len h.2.1, h.1, uL]
theorem Nd.one (n : Nd) : ∀ u ∈ n.cells, u.oneCell' = true := by
  intro u hu
  simp only [Nd.cells, List.mem_append, List.mem_cons] at hu
  rcases hu with hu | hu | rfl | rfl | hu
  · exact one_w8 _ u hu
  · exact Hd.one _ u hu
  · rfl
  · rfl
  · exact uL_one _ u hu

def findN (ns : List Nd) (id : List UInt8) : Option Nat := ns.findIdx? fun n => n.id == id
def hgtN (ns : List Nd) (i : Nat) : Nat := (ns[i]?.map Nd.hgt).getD 0
def parN (ns : List Nd) (i : Nat) : Int := (ns[i]?.map Nd.par).getD 0
def upN (ns : List Nd) (i : Nat) : Nat → Nat
  | 0 => i
  | k + 1 => (parN ns (upN ns i k)).toNat
theorem upN_add (ns : List Nd) (i a : Nat) : ∀ b, upN ns i (a + b) = upN ns (upN ns i a) b
  | 0 => rfl
  | b + 1 => by rw [← Nat.add_assoc, upN, upN, upN_add ns i a b]
theorem upN_succ' (ns : List Nd) (i k : Nat) : upN ns i (k + 1) = upN ns (parN ns i).toNat k := by
  rw [Nat.add_comm, upN_add]; rfl
def lineN (ns : List Nd) (i : Nat) : List Nat := (List.range (hgtN ns i + 1)).map fun k => upN ns i (hgtN ns i - k)
theorem line_len (ns : List Nd) (i : Nat) : (lineN ns i).length = hgtN ns i + 1 := by simp [lineN]

/-- A tree as it has to be. -/
structure Tr (ns : List Nd) : Prop where
  ok : ∀ n ∈ ns, n.ok
  id : ∀ n ∈ ns, n.id = idL n.head
  root : ∀ n : Nd, ns[0]? = some n → n.par = -1 ∧ n.hgt = 0
  up : ∀ (i : Nat) (n : Nd), 0 < i → ns[i]? = some n → ∃ p : Nat, n.par = (p : Int) ∧ p < i ∧ ∃ m, ns[p]? = some m ∧ n.hgt = m.hgt + 1 ∧ n.head.prev = m.id
  one : ∀ (i j : Nat) (n m : Nd), ns[i]? = some n → ns[j]? = some m → n.id = m.id → i = j

theorem Tr.nil : Tr [] := by
  refine ⟨?_, ?_, ?_, ?_, ?_⟩
  · intro n h; cases h
  · intro n h; cases h
  · intro n h; simp at h
  · intro i n _ h; simp at h
  · intro i j n m h; simp at h
theorem hgtN_of {ns : List Nd} {i : Nat} {n : Nd} (h : ns[i]? = some n) : hgtN ns i = n.hgt := by simp [hgtN, h]
theorem parN_of {ns : List Nd} {i : Nat} {n : Nd} (h : ns[i]? = some n) : parN ns i = n.par := by simp [parN, h]
theorem Tr.hgt0 {ns : List Nd} (T : Tr ns) (h : 0 < ns.length) : hgtN ns 0 = 0 := by
  have e := List.getElem?_eq_getElem h
  rw [hgtN_of e]
  exact (T.root _ e).2
theorem Tr.par {ns : List Nd} (T : Tr ns) {i : Nat} (h0 : 0 < i) (hi : i < ns.length) : (parN ns i).toNat < i ∧ parN ns i = (parN ns i).toNat ∧ hgtN ns i = hgtN ns (parN ns i).toNat + 1 := by
  have e := List.getElem?_eq_getElem hi
  obtain ⟨p, h1, h2, m, h3, h4, -⟩ := T.up i _ h0 e
  rw [parN_of e, h1]
  simp only [Int.toNat_natCast, true_and]
  refine ⟨h2, ?_⟩
  rw [hgtN_of e, hgtN_of h3, h4]
theorem Tr.pos {ns : List Nd} (T : Tr ns) {i : Nat} (hi : i < ns.length) : 0 < hgtN ns i ↔ 0 < i := by
  constructor
  · intro h
    rcases Nat.eq_zero_or_pos i with rfl | h0
    · rw [T.hgt0 hi] at h; exact h
    · exact h0
  · intro h
    rw [(T.par h hi).2.2]; omega
theorem Tr.le {ns : List Nd} (T : Tr ns) : ∀ i, i < ns.length → hgtN ns i ≤ i := by
  intro i
  induction i using Nat.strongRecOn with
  | ind i ih =>
    intro hi
    rcases Nat.eq_zero_or_pos i with rfl | h0
    · rw [T.hgt0 hi]; exact Nat.le_refl 0
    · obtain ⟨a, b, c⟩ := T.par h0 hi
      have := ih _ a (by omega)
      omega
theorem Tr.upK {ns : List Nd} (T : Tr ns) {i : Nat} (hi : i < ns.length) : ∀ k, k ≤ hgtN ns i → upN ns i k ≤ i ∧ upN ns i k < ns.length ∧ hgtN ns (upN ns i k) = hgtN ns i - k
  | 0, _ => ⟨Nat.le_refl _, hi, rfl⟩
  | k + 1, h => by
    obtain ⟨a, b, c⟩ := T.upK hi k (by omega)
    have h0 : 0 < upN ns i k := (T.pos b).1 (by omega)
    obtain ⟨d, e, f⟩ := T.par h0 b
    show (parN ns (upN ns i k)).toNat ≤ i ∧ _
    refine ⟨by omega, ?_, ?_⟩
    · show (parN ns (upN ns i k)).toNat < _
      omega
    · show hgtN ns (parN ns (upN ns i k)).toNat = _
      omega
theorem Tr.upTop {ns : List Nd} (T : Tr ns) {i : Nat} (hi : i < ns.length) : upN ns i (hgtN ns i) = 0 := by
  obtain ⟨a, b, c⟩ := T.upK hi _ (Nat.le_refl _)
  rcases Nat.eq_zero_or_pos (upN ns i (hgtN ns i)) with h | h
  · exact h
  · have := (T.pos b).2 h; omega
theorem line_at {ns : List Nd} {i k : Nat} (h : k ≤ hgtN ns i) : (lineN ns i)[k]? = some (upN ns i (hgtN ns i - k)) := by
  unfold lineN
  rw [List.getElem?_map, List.getElem?_range (by omega)]
  rfl
/-- Which number of a height lies in a line. -/
def abvN (ns : List Nd) (i h : Nat) : Nat := upN ns i (hgtN ns i - h)
theorem Tr.abv {ns : List Nd} (T : Tr ns) {i h : Nat} (hi : i < ns.length) (hh : h ≤ hgtN ns i) : abvN ns i h ≤ i ∧ abvN ns i h < ns.length ∧ hgtN ns (abvN ns i h) = h := by
  obtain ⟨a, b, c⟩ := T.upK hi (hgtN ns i - h) (by omega)
  refine ⟨a, b, ?_⟩
  unfold abvN
  rw [c]; omega
theorem line_abv {ns : List Nd} {i k : Nat} (h : k ≤ hgtN ns i) : (lineN ns i)[k]? = some (abvN ns i k) := line_at h
theorem abv_top (ns : List Nd) (i : Nat) : abvN ns i (hgtN ns i) = i := by unfold abvN; rw [Nat.sub_self]; rfl
theorem Tr.abv_abv {ns : List Nd} (T : Tr ns) {i h g : Nat} (hi : i < ns.length) (hh : h ≤ hgtN ns i) (hg : g ≤ h) : abvN ns (abvN ns i h) g = abvN ns i g := by
  obtain ⟨-, -, c⟩ := T.abv hi hh
  unfold abvN at c ⊢
  rw [c, ← upN_add]
  congr 1; omega
theorem Tr.abv_par {ns : List Nd} (T : Tr ns) {i h : Nat} (hi : i < ns.length) (hh : h < hgtN ns i) : abvN ns i h = abvN ns (parN ns i).toNat h := by
  have h0 : 0 < i := (T.pos hi).1 (by omega)
  obtain ⟨a, b, c⟩ := T.par h0 hi
  unfold abvN
  rw [c, show hgtN ns (parN ns i).toNat + 1 - h = (hgtN ns (parN ns i).toNat - h) + 1 by omega, upN_succ']

/-! What is added. -/
def newN (ns : List Nd) (I : List UInt8) (h : Hd) (W : Nat) : Nd := if ns = [] then ⟨I, h, -1, 0, W⟩ else match findN ns h.prev with
  | some i => ⟨I, h, i, hgtN ns i + 1, sumN ((ns[i]?.map Nd.work).getD 0) W⟩
  | none => ⟨I, h, -1, 0, W⟩
/-- What Add answers: what is there then; the number, the error. -/
def addI (most : Int) (ns : List Nd) (I : List UInt8) (h : Hd) (W : Nat) : List Nd × Int × Int :=
  match findN ns I with
  | some i => (ns, i, 10)
  | none => if ns ≠ [] ∧ findN ns h.prev = none then (ns, -1, 9)
    else if most ≤ ns.length then (ns, -1, 12) else (ns ++ [newN ns I h W], ns.length, 0)
def addR (most : Int) (ns : List Nd) (h : Hd) : List Nd × Int × Int := addI most ns (idL h) h (workN h.bits)
theorem find_some {ns : List Nd} {id : List UInt8} {i : Nat} (h : findN ns id = some i) : ∃ n, ns[i]? = some n ∧ n.id = id := by
  unfold findN at h
  rw [List.findIdx?_eq_some_iff_getElem] at h
  obtain ⟨h1, h2, -⟩ := h
  exact ⟨ns[i], List.getElem?_eq_getElem h1, by simpa using h2⟩
theorem find_none {ns : List Nd} {id : List UInt8} (h : findN ns id = none) : ∀ n ∈ ns, n.id ≠ id := by
  unfold findN at h
  rw [List.findIdx?_eq_none_iff] at h
  intro n hn e
  have := h n hn
  simp [e] at this
theorem Tr.find {ns : List Nd} (T : Tr ns) {i : Nat} {n : Nd} (h : ns[i]? = some n) : findN ns n.id = some i := by
  cases e : findN ns n.id with
  | none => exact absurd rfl (find_none e n (List.mem_of_getElem? h))
  | some j =>
    obtain ⟨m, h1, h2⟩ := find_some e
    rw [T.one j i m n h1 h h2]
theorem newN_id (ns : List Nd) (I : List UInt8) (h : Hd) (W : Nat) : (newN ns I h W).id = I := by unfold newN; split <;> (try rfl); split <;> rfl
theorem newN_head (ns : List Nd) (I : List UInt8) (h : Hd) (W : Nat) : (newN ns I h W).head = h := by unfold newN; split <;> (try rfl); split <;> rfl
theorem newN_work (ns : List Nd) (I : List UInt8) (h : Hd) (W : Nat) (hW : W < 2 ^ 256) : (newN ns I h W).work < 2 ^ 256 := by
  unfold newN; split
  · exact hW
  · split
    · exact sumN_lt _ _
    · exact hW
theorem Tr.push {ns : List Nd} (T : Tr ns) {h : Hd} (ho : h.ok) {I : List UInt8} {W : Nat} (hI : I = idL h) (hI2 : I.length = 32) (hW : W < 2 ^ 256) (hn : findN ns I = none) (hp : ¬ (ns ≠ [] ∧ findN ns h.prev = none)) : Tr (ns ++ [newN ns I h W]) := by
  have hxi := newN_id ns I h W
  have hxh := newN_head ns I h W
  have hxw := newN_work ns I h W hW
  obtain ⟨x, hx⟩ : ∃ x, newN ns I h W = x := ⟨_, rfl⟩
  rw [hx] at hxi hxh hxw
  rw [hx]
  have split2 : ∀ i n, (ns ++ [x])[i]? = some n → ns[i]? = some n ∨ (i = ns.length ∧ n = x) := fun i n hi => by
    by_cases hlt : i < ns.length
    · rw [List.getElem?_append_left hlt] at hi; exact .inl hi
    · rw [List.getElem?_append_right (by omega)] at hi
      by_cases he : i = ns.length
      · subst he; simp at hi; exact .inr ⟨rfl, hi.symm⟩
      · rw [List.getElem?_eq_none (by simp; omega)] at hi; cases hi
  have old : ∀ i n, ns[i]? = some n → (ns ++ [x])[i]? = some n := fun i n hi => by
    rw [List.getElem?_append_left (List.getElem?_eq_some_iff.1 hi).1]; exact hi
  refine ⟨fun n hn => ?_, fun n hn => ?_, fun n hn => ?_, fun i n h0 hi => ?_, fun i j n m hi hj e => ?_⟩
  · rcases List.mem_append.1 hn with h1 | h1
    · exact T.ok n h1
    · rw [List.mem_singleton.1 h1]; exact ⟨by rw [hxi]; exact hI2, by rw [hxh]; exact ho, hxw⟩
  · rcases List.mem_append.1 hn with h1 | h1
    · exact T.id n h1
    · rw [List.mem_singleton.1 h1, hxi, hxh]; exact hI
  · rcases split2 0 n hn with h1 | ⟨h1, rfl⟩
    · exact T.root n h1
    · have h2 : ns = [] := List.eq_nil_of_length_eq_zero h1.symm
      unfold newN at hx
      rw [if_pos h2] at hx
      rw [← hx]; exact ⟨rfl, rfl⟩
  · rcases split2 i n hi with h1 | ⟨h1, rfl⟩
    · obtain ⟨p, a, b, m, c, d⟩ := T.up i n h0 h1
      exact ⟨p, a, b, m, old p m c, d⟩
    · have h2 : ns ≠ [] := fun e => by rw [e] at h1; simp at h1; omega
      cases hf : findN ns h.prev with
      | none => exact absurd ⟨h2, hf⟩ hp
      | some p =>
        obtain ⟨m, hm, hmi⟩ := find_some hf
        unfold newN at hx
        rw [if_neg h2, hf] at hx
        simp only at hx
        have hpl := (List.getElem?_eq_some_iff.1 hm).1
        refine ⟨p, by rw [← hx], by omega, m, old p m hm, by rw [← hx, hgtN_of hm], by rw [hxh, hmi]⟩
  · rcases split2 i n hi with h1 | ⟨h1, rfl⟩
    · rcases split2 j m hj with h2 | ⟨h2, rfl⟩
      · exact T.one i j n m h1 h2 e
      · exact absurd (e.trans hxi) (find_none hn n (List.mem_of_getElem? h1))
    · rcases split2 j m hj with h2 | ⟨h2, rfl⟩
      · exact absurd (e.symm.trans hxi) (find_none hn m (List.mem_of_getElem? h2))
      · omega
theorem Tr.addI {ns : List Nd} (T : Tr ns) {h : Hd} (ho : h.ok) (most : Int) {I : List UInt8} {W : Nat} (hI : I = idL h) (hI2 : I.length = 32) (hW : W < 2 ^ 256) : Tr (addI most ns I h W).1 ∧ (addI most ns I h W).1.length ≤ ns.length + 1 := by
  unfold Go.Proofs.YtjbdboekleaklaaGreatDoor.addI
  cases hf : findN ns I with
  | some i => exact ⟨T, by simp⟩
  | none =>
    simp only
    by_cases hp : ns ≠ [] ∧ findN ns h.prev = none
    · rw [if_pos hp]; exact ⟨T, by simp⟩
    · rw [if_neg hp]
      by_cases hm : most ≤ ns.length
      · rw [if_pos hm]; exact ⟨T, by simp⟩
      · rw [if_neg hm]; exact ⟨T.push ho hI hI2 hW hf hp, by simp⟩
theorem Tr.add {ns : List Nd} (T : Tr ns) {h : Hd} (ho : h.ok) (most : Int) : Tr (addR most ns h).1 ∧ (addR most ns h).1.length ≤ ns.length + 1 := T.addI ho most rfl (idL_len _) (workN_lt _)
def plainR (l : List Hd) : List Nd := l.foldl (fun ns h => (addR 60 ns h).1) []
theorem plain_tr (l : List Hd) (ho : ∀ h ∈ l, h.ok) : Tr (plainR l) ∧ (plainR l).length ≤ l.length := by
  unfold plainR
  suffices h : ∀ (l : List Hd) (ns : List Nd), (∀ h ∈ l, h.ok) → Tr ns → Tr (l.foldl (fun ns h => (addR 60 ns h).1) ns) ∧ (l.foldl (fun ns h => (addR 60 ns h).1) ns).length ≤ ns.length + l.length by
    have := h l [] ho Tr.nil
    simpa using this
  intro l
  induction l with
  | nil => intro ns _ T; exact ⟨T, by simp⟩
  | cons a l ih =>
    intro ns ho T
    obtain ⟨T2, h2⟩ := T.add (ho a List.mem_cons_self) 60
    obtain ⟨T3, h3⟩ := ih _ (fun h hh => ho h (List.mem_cons_of_mem _ hh)) T2
    refine ⟨T3, ?_⟩
    simp only [List.foldl_cons, List.length_cons] at h3 ⊢
    omega
/-- The first one is there. -/
theorem addI_keeps {ns : List Nd} {h : Hd} {most : Int} {I : List UInt8} {W : Nat} (hn : ns ≠ []) : (addI most ns I h W).1 ≠ [] := by
  unfold addI
  cases findN ns I with
  | some i => exact hn
  | none =>
    simp only
    split
    · exact hn
    · split
      · exact hn
      · simp
theorem addI_first {h : Hd} {I : List UInt8} {W : Nat} : (addI 60 [] I h W).1 ≠ [] := by
  unfold addI
  simp [findN]
theorem plain_some {l : List Hd} (h : l ≠ []) : plainR l ≠ [] := by
  unfold plainR
  suffices g : ∀ (l : List Hd) (ns : List Nd), ns ≠ [] → l.foldl (fun ns h => (addR 60 ns h).1) ns ≠ [] by
    cases l with
    | nil => exact absurd rfl h
    | cons a l =>
      rw [List.foldl_cons]
      exact g l _ addI_first
  intro l
  induction l with
  | nil => intro ns h; exact h
  | cons a l ih => intro ns h; exact ih _ (addI_keeps h)
end Go.Proofs.YtjbdboekleaklaaGreatDoor

/- math/bits.Len64: how many digits (the shelf's contract, laid for this cut); u256.Len. -/
set_option linter.unusedSimpArgs false
set_option linter.unusedVariables false
namespace Go.Proofs.YtjbdboekleaklaaGreatDoor
open Go.RowKit
attribute [local go_sem ↓] Go.wp_at_zero Go.wp_at_succ

theorem lenN_half {x : Nat} (h : x ≠ 0) : lenN x = 1 + lenN (x / 2) := by
  obtain ⟨n, h1, h2, h3⟩ := lenN_pos h
  cases n with
  | zero =>
    have : x / 2 = 0 := by simp only [Nat.zero_add, Nat.pow_one] at h3; omega
    rw [h1, this]; rfl
  | succ n =>
    rw [h1]
    have : lenN (x / 2) = n + 1 := lenN_of (by rw [Nat.pow_succ] at h2; omega) (by rw [Nat.pow_succ 2 (n + 1)] at h3; omega)
    omega
theorem bitLenAux_eq : ∀ (f x : Nat), x < 2 ^ f → Lib.bitLenAux f x = lenN x
  | 0, x, h => by
    have : x = 0 := by simpa using h
    subst this; rfl
  | f + 1, x, h => by
    unfold Lib.bitLenAux
    split
    · rename_i h0; subst h0; rfl
    · rename_i h0
      rw [bitLenAux_eq f (x / 2) (by rw [Nat.pow_succ] at h; omega), lenN_half h0]
theorem bitLen_eq {x : Nat} (h : x < 2 ^ 64) : Lib.bitLen x = lenN x := bitLenAux_eq 64 x h

set_option maxRecDepth 100000 in
set_option maxHeartbeats 1000000 in
theorem len_any (N : Nat) (w : World) (hN : N < 2 ^ 256) :
    Calls Tryz.prog 67 #[uV N] w fun e w' => e = .returned (.int .i64 (lenN N : Nat)) ∧ Keep w w' := by
  have HC : Hid (∀ c, lenN N = c → ((N = 0 → c = 0) ∧ ∀ i, i < 4 → limb N i ≠ 0 → (∀ j, i < j → j < 4 → limb N j = 0) → c = 64 * i + lenN (limb N i))) := fun c e => by
    subst e
    exact ⟨fun h => by subst h; rfl, fun i hi h0 hh => lenN_limb (lt_top hN hi hh) h0⟩
  replace HC := Lib.hid (HC.out _ rfl)
  have hc256 : lenN N ≤ 256 := lenN_le hN
  generalize lenN N = c at *
  have HN := Lib.hid hN
  clear hN
  go_enter Tryz.func67, Tryz.ntmps67
  go_upto_region 1 with fail
  obtain ⟨w1, hw1⟩ : ∃ w1, w1 = w.alloc (.cells #[n64 (limb N 0), n64 (limb N 1), n64 (limb N 2), n64 (limb N 3)] 42) := ⟨_, rfl⟩
  have hc1 : ∀ k, k < 4 → w1.cell? ⟨w.heap.size, k, none⟩ = some (n64 (limb N k)) := fun k hk => by
    have h1 : Blk w1 w.heap.size 42 (uL N) := by rw [hw1]; exact Blk.new w 42 (uL N)
    rw [h1.cell, uL_get N k hk]
  have HK1 : Hid (Keep w w1) := by rw [hw1]; exact keep_new _ _
  rw [← hw1]
  have Hc1 := Lib.hid hc1
  clear hw1 hc1
  go_wp2_with fail
  go_loopw [3] (fun i wr => ∃ k : Nat, k ≤ 4 ∧ i = .int .i64 ((k : Int) - 1) ∧ Hid (∀ j, k ≤ j → j < 4 → limb N j = 0) ∧ Hid (Keep w1 wr)) (fun i _ => (intOf i + 1).toNat)
  case atStart => exact ⟨4, by omega, rfl, Lib.hid (fun j h1 h2 => by omega), Lib.hid (Below.refl _ _)⟩
  case round =>
    obtain ⟨k, hk, rfl, he, hkr⟩ := hrel
    cases k with
    | zero =>
      have h1 := HC.out.1 (zero_top HN.out (fun i hi => he.out i (Nat.zero_le _) hi))
      subst h1
      clear HC HN
      go_wp2
      exact bodyPost_ret (v := .int .i64 0) (by simp [results, Tryz.results67]) rfl ⟨rfl, keep_trans HK1.out hkr.out⟩
    | succ k =>
      have hi : ((k + 1 : Nat) : Int) - 1 = (k : Int) := by omega
      rw [hi]
      have a0 := keep_cell hkr.out (Hc1.out k (by omega))
      have hl := limb_lt N k
      have hk4 : k < 4 := by omega
      have hx : Hid (limb N k ≠ 0 → c = 64 * k + lenN (limb N k)) := Lib.hid fun h => HC.out.2 k hk4 h (fun j h1 h2 => he.out j (by omega) h2)
      have heq : Hid (limb N k = 0 → ∀ j, k ≤ j → j < 4 → limb N j = 0) := Lib.hid fun h j h1 h2 => by
        by_cases e : j = k
        · subst e; exact h
        · exact he.out j (by omega) h2
      generalize limb N k = x at *
      clear hi he
      by_cases h1 : x = 0
      · have He := Lib.hid (heq.out h1)
        have d1 : (x != 0) = false := by simp [h1]
        subst h1
        clear hx heq hl d1
        go_wp2_with fail
        go_roundw
        case rel => exact ⟨k, by omega, by go_num, He, hkr⟩
        case measure => simp [intOf]
      · have hb := bits_Len64 (x : Int) wr (by omega) (by simp only [Nat.reducePow] at hl; omega)
        rw [Int.toNat_natCast, bitLen_eq hl] at hb
        have hcx := hx.out h1
        have HB := Lib.hid hb
        generalize lenN x = m at *
        have d1 : ((x : Int) != 0) = true := by simp [h1]
        have d2 : (x != 0) = true := by simp [h1]
        have HX1 := Lib.hid h1; have HCX := Lib.hid hcx
        have hm : m ≤ 256 := by omega
        clear hx heq hl HC HN hb h1 hcx
        go_wp2_with fail
        refine HB.out.mono ?_
        rintro e w2 ⟨rfl, rfl⟩
        go_wp2
        rw [HCX.out]
        exact bodyPost_ret (v := .int .i64 ((64 * k + m : Nat) : Int)) (by simp [results, Tryz.results67]) rfl ⟨rfl, keep_trans HK1.out hkr.out⟩
end Go.Proofs.YtjbdboekleaklaaGreatDoor

/- u256: Of; numbers compared. -/
set_option linter.unusedSimpArgs false
set_option linter.unusedVariables false
namespace Go.Proofs.YtjbdboekleaklaaGreatDoor
open Go.RowKit
attribute [local go_sem ↓] Go.wp_at_zero Go.wp_at_succ

theorem all_range_eqN : ∀ (xs ys : List Nat), xs.length = ys.length → ((List.range xs.length).all fun i => xs.getD i 0 == ys.getD i 0) = (xs == ys)
  | [], [], _ => rfl
  | x :: xs, y :: ys, h => by
    have ih := all_range_eqN xs ys (by simpa using h)
    rw [List.length_cons, List.range_succ_eq_map, List.all_cons, List.all_map]
    simp only [List.getD_cons_zero, Function.comp_def, List.getD_cons_succ, ih]
    simp [List.cons_beq_cons]
  | [], _ :: _, h => by simp at h
  | _ :: _, [], h => by simp at h
theorem run_equalIn_words {P : Program} (w : World) (d : Nat) (t e : TypeId) (n : Nat) (ht : P.underlying t = some (.array n e)) (he : P.underlying e = some (.int .u64)) (hsz : ∀ w, (sizeOf e).run P w = .ok 1 w)
    (xs ys : List Nat) (hx : xs.length = n) (hy : ys.length = n) :
    (Op.equalIn (d + 2) t (.agg (xs.map n64).toArray) (.agg (ys.map n64).toArray)).run P w = .ok (xs == ys) w := by
  rw [← all_range_eqN xs ys (hx.trans hy.symm), hx, List.range_eq_range', Op.equalIn]
  simp only [Sem.run_bind, run_underlying ht, Result.andThen_ok, hsz, Std.Legacy.Range.forIn_eq_forIn_range', Std.Legacy.Range.size, Nat.sub_zero, Nat.add_sub_cancel, Nat.div_one]
  have hl : ∀ i ∈ List.range' 0 n 1, i < n := fun i hi => by simpa using (List.mem_range'_1.1 hi).2
  generalize List.range' 0 n 1 = l at hl ⊢
  induction l with
  | nil => simp
  | cons i l ih =>
    have hi : i < n := hl i (by simp)
    have px : (part e (xs.map n64).toArray (i * 1)).run P w = .ok (n64 (xs.getD i 0)) w := by
      simp [part, isAgg, run_underlying he, List.getD, List.getElem?_eq_getElem (show i < xs.length by omega)]
    have py : (part e (ys.map n64).toArray (i * 1)).run P w = .ok (n64 (ys.getD i 0)) w := by
      simp [part, isAgg, run_underlying he, List.getD, List.getElem?_eq_getElem (show i < ys.length by omega)]
    have pe : (Op.equalIn (d + 1) e (n64 (xs.getD i 0)) (n64 (ys.getD i 0))).run P w = .ok (xs.getD i 0 == ys.getD i 0) w := by
      unfold n64
      rw [run_equalIn_int w d e .u64 .u64 _ _ he]
      congr 1
      rw [Bool.eq_iff_iff]
      simp
      omega
    simp only [List.forIn_cons, Sem.run_bind, px, py, pe, Result.andThen_ok, List.all_cons]
    cases hb : (xs.getD i 0 == ys.getD i 0)
    · simp
    · simp only [Bool.not_true, Bool.false_eq_true, if_false, Sem.run_pure, Result.andThen_ok, Bool.true_and]
      exact ih fun j hj => hl j (by simp [hj])
theorem u64_size (w : World) : (sizeOf 40).run Tryz.prog w = .ok 1 w := by kernel_rfl
theorem u256_under : Tryz.prog.underlying 42 = some (.array 4 40) := by kernel_rfl
theorem u256_guard : Tryz.prog.eqGuardType Tryz.prog.depth 42 = false := by kernel_rfl
theorem words_eq {N M : Nat} (hN : N < 2 ^ 256) (hM : M < 2 ^ 256) : ([limb N 0, limb N 1, limb N 2, limb N 3] == [limb M 0, limb M 1, limb M 2, limb M 3]) = decide (N = M) := by
  by_cases h : N = M
  · subst h; simp
  · rw [decide_eq_false h, beq_eq_false_iff_ne]
    intro e
    injection e with e0 e
    injection e with e1 e
    injection e with e2 e
    injection e with e3 _
    exact h (limb_ext hN hM fun i hi => by
      rcases (show i = 0 ∨ i = 1 ∨ i = 2 ∨ i = 3 by omega) with rfl | rfl | rfl | rfl <;> assumption)
theorem u_eql {N M : Nat} (hN : N < 2 ^ 256) (hM : M < 2 ^ 256) (w : World) : (Go.binOp .eql 42 (uV N) (uV M)).run Tryz.prog w = .ok (.bool (decide (N = M))) w := by
  rw [run_eql_struct, show (10000 : Nat) = 9998 + 2 from rfl]
  have h := run_equalIn_words (P := Tryz.prog) w 9998 42 40 4 u256_under Tryz.underlying40 u64_size [limb N 0, limb N 1, limb N 2, limb N 3] [limb M 0, limb M 1, limb M 2, limb M 3] rfl rfl
  rw [words_eq hN hM] at h
  have h' : (Op.equalIn (9998 + 2) 42 (uV N) (uV M)).run Tryz.prog w = .ok (decide (N = M)) w := h
  rw [h']
  rfl
theorem u_neq {N M : Nat} (hN : N < 2 ^ 256) (hM : M < 2 ^ 256) (w : World) : (Go.binOp .neq 42 (uV N) (uV M)).run Tryz.prog w = .ok (.bool (!decide (N = M))) w := by
  rw [run_neq_struct, show (10000 : Nat) = 9998 + 2 from rfl]
  have h := run_equalIn_words (P := Tryz.prog) w 9998 42 40 4 u256_under Tryz.underlying40 u64_size [limb N 0, limb N 1, limb N 2, limb N 3] [limb M 0, limb M 1, limb M 2, limb M 3] rfl rfl
  rw [words_eq hN hM] at h
  have h' : (Op.equalIn (9998 + 2) 42 (uV N) (uV M)).run Tryz.prog w = .ok (decide (N = M)) w := h
  rw [h']
  rfl
/-- No number at all. -/
abbrev u0 : Value := .agg #[.int .u64 0, .int .u64 0, .int .u64 0, .int .u64 0]
theorem uV_zero : uV 0 = u0 := by simp [uV, n64, limb0]
theorem uV_small {n : Nat} (h : n < 2 ^ 64) : uV n = .agg #[n64 n, .int .u64 0, .int .u64 0, .int .u64 0] := by simp [uV, n64, limb_small h]

set_option maxHeartbeats 400000 in
theorem of_any (n : Nat) (w : World) (hn : n < 2 ^ 64) : Calls Tryz.prog 51 #[n64 n] w fun e w' => e = .returned (uV n) ∧ Keep w w' := by
  rw [uV_small hn]
  clear hn
  go_enter Tryz.func51, Tryz.ntmps51
  go_wp2
  have hb : Blk (w.alloc (.cells #[n64 n, .int .u64 0, .int .u64 0, .int .u64 0] 42)) w.heap.size 42 [n64 n, .int .u64 0, .int .u64 0, .int .u64 0] := Blk.new w _ [n64 n, .int .u64 0, .int .u64 0, .int .u64 0]
  exact bodyPost_ret (v := .agg #[n64 n, .int .u64 0, .int .u64 0, .int .u64 0]) (results_cell_row Tryz.results51 _ _ w.heap.size _ _ _ _ rfl hb Tryz.underlying42 rfl (by kernel_rfl)) rfl ⟨rfl, keep_new _ _⟩
end Go.Proofs.YtjbdboekleaklaaGreatDoor

/- XMov's theory once more, where one block may turn: the one that is appended to. By the program gen_mog.py. -/
set_option linter.unusedSimpArgs false
set_option linter.unusedVariables false
namespace Go.Proofs.YtjbdboekleaklaaGreatDoor.G
open Go.RowKit

/-- The block that may turn. -/
class Mk where
  m : Option Nat
theorem grown_of_keep {a b : World} (h : Keep a b) (row : Option Nat) : a.grownBy b row := ⟨h.os, h.tape, h.output, h.size, fun k hk _ => h.block k hk⟩
variable [MM : Mk]
def Gr (w w' : World) : Prop := w.grownBy w' MM.m
theorem Gr.refl (w : World) : Gr w w := ⟨rfl, rfl, rfl, Nat.le_refl _, fun _ _ _ => rfl⟩
theorem Gr.drew (w : World) : Gr w { w with drawn := w.drawn + 1 } := ⟨rfl, rfl, rfl, Nat.le_refl _, fun _ _ _ => rfl⟩
theorem Gr.trans {a b c : World} (h : Gr a b) (k : Gr b c) : Gr a c := World.grownBy.trans h k
theorem Gr.of_keep {a b : World} (h : Keep a b) : Gr a b := ⟨h.os, h.tape, h.output, h.size, fun k hk _ => h.block k hk⟩
open Classical in
noncomputable def aftG (w x : World) : World := if Gr w x then x else w
theorem aftG_keep (w x : World) : Gr w (aftG w x) := by
  unfold aftG; split
  · assumption
  · exact Gr.refl _
theorem aftG_of {w w' : World} (h : Gr w w') : w' = aftG w w' := by unfold aftG; rw [if_pos h]
theorem aftG_cell {w : World} {b o : Nat} {v : Value} (h : w.cell? ⟨b, o, none⟩ = some v) (hne : MM.m ≠ some b) : ∀ x, (aftG w x).cell? ⟨b, o, none⟩ = some v := fun x => grown_cell (aftG_keep w x) h hne
theorem aftG_blk {w : World} {g : Nat} {t : TypeId} {cs : List Value} (h : Blk w g t cs) (hne : MM.m ≠ some g) (x : World) : Blk (aftG w x) g t cs := h.grown (aftG_keep w x) hne

section
variable {P : Program} {ops : Array Oper} {Q : Exit → Act → World → Prop} {tl : List Nat}

/-- Whatever order is picked; behind one that is not among 'tl' nothing that was there has turned. -/
def wpAnyK (P : Program) (ops : Array Oper) (Q : Exit → Act → World → Prop) (tl : List Nat) : Nat → Array Bool → Act → World → Prop
  | 0, listed, a, w => Region.ready .any ops listed = [] ∧ Q .normal a w
  | n + 1, listed, a, w => (Region.ready .any ops listed = [] → Q .normal a w) ∧
    ∀ i ∈ Region.ready .any ops listed, wpOp P ops Q i (fun a' w' => (i ∉ tl → Gr w w') ∧ wpAnyK P ops Q tl n (listed.setIfInBounds i true) a' w') a w
theorem wpAny_of_K : ∀ (n : Nat) (listed : Array Bool) (a : Act) (w : World), wpAnyK P ops Q tl n listed a w → wpAny P .any ops Q n listed a w
  | 0, _, _, _, h => h
  | n + 1, _, _, _, h => ⟨h.1, fun i hi => wpOp_mono (fun a' w' h' => wpAny_of_K n _ a' w' h'.2) (h.2 i hi)⟩

theorem wpAnyK_first (hs : Region.noSelect ops = true) {i : Nat} {oi : Oper} {v : Value} (hi : ops[i]? = some oi) (hQ : ∀ c a w, Q (.panic c) (a.put oi.dst v) w → Q (.panic c) a w)
    {S : World → Prop} (hk : ∀ w w', S w → Gr w w' → S w') (hr : (∀ j ∈ tl, reachB ops j i = true) ∨ ∀ w, S w) : ∀ (fuel : Nat) (listed : Array Bool) (a : Act) (w : World), Closed ops listed →
      (∀ j oj, ops[j]? = some oj → j ≠ i → listed.getD j true = false → (∀ e ∈ oj.after, Region.binds .any e = true → e.on ≠ i) → oi.apart ops oj = true) →
      i ∈ Region.ready .any ops listed → YieldsIf P ops S oi v a → S w →
      wpAnyK P ops Q tl fuel (listed.setIfInBounds i true) (a.put oi.dst v) w → wpAnyK P ops Q tl (fuel + 1) listed a w := by
  intro fuel
  have hsel := fun j o cs b (h : ops[j]? = some o) => Region.noSelect_spec hs j o cs b h
  induction fuel with
  | zero =>
    intro listed a w _ _ hri hy hS H
    refine ⟨fun h => absurd hri (by rw [h]; simp), fun j hj => ?_⟩
    by_cases hji : j = i
    · subst hji; exact hy.wpOp hi hS ⟨fun _ => Gr.refl _, H⟩
    · have := ready_mono hj hji
      rw [H.1] at this
      cases this
  | succ fuel ih =>
    intro listed a w hc hfree hri hy hS H
    refine ⟨fun h => absurd hri (by rw [h]; simp), fun j hj => ?_⟩
    by_cases hji : j = i
    · subst hji; exact hy.wpOp hi hS ⟨fun _ => Gr.refl _, H⟩
    · have h1 := H.2 j (ready_mono hj hji)
      obtain ⟨hjun, oj, hoj, hall⟩ := mem_ready.1 hj
      have hiun := (mem_ready.1 hri).1
      have hnot : ∀ e ∈ oj.after, Region.binds .any e = true → e.on ≠ i := fun e he hb heq => by
        have h1 := hall e he hb
        rw [heq, getD_tf hiun] at h1
        cases h1
      have hjt : j ∉ tl ∨ ∀ w, S w := hr.imp (fun hr hjt => by
        have := reach_listed hc j i (fun k hk => ready_waits hj hk) (hr j hjt)
        rw [getD_tf hiun] at this
        cases this) id
      have h2 := wpOp_putIf hoj (hfree j oj hoj hji hjun hnot) (fun cs b => hsel i oi cs b hi) (fun cs b => hsel j oj cs b hoj) hQ hy h1
      have hfree' : ∀ k ok, ops[k]? = some ok → k ≠ i → (listed.setIfInBounds j true).getD k true = false →
          (∀ e ∈ ok.after, Region.binds .any e = true → e.on ≠ i) → oi.apart ops ok = true := fun k ok hk hki hun hno => by
        refine hfree k ok hk hki ?_ hno
        by_cases hjk : j = k
        · subst hjk; exact hjun
        · rw [getD_set_ne true hjk] at hun; exact hun
      refine wpOp_mono (fun a' w' h3 => ⟨fun hn => h3.2.1 hn, ih (listed.setIfInBounds j true) a' w' (hc.set_ hj) hfree' (ready_mono hri (Ne.symm hji)) h3.1 (hjt.elim (fun hn => hk _ _ hS (h3.2.1 hn)) (fun h => h _)) ?_⟩) h2
      rw [Array.setIfInBounds_comm _ _ hji]
      exact h3.2.2

/-- Such as look at no world. -/
def freeB (o : Oper) : Bool :=
  match o.op with
  | .move _ | .assign _ | .extract .. => true
  | _ => false

/-- The moves: (true, those taken first), (false, those forced). -/
def takesB (ops : Array Oper) (tl : List Nat) : List Nat → Array Bool → Bool
  | [], _ => true
  | i :: l, listed => (Region.ready .any ops listed).contains i && Region.free .any ops listed i && (match ops[i]? with | some o => plainB o | none => false) && ((match ops[i]? with | some o => freeB o | none => false) || tl.all fun j => reachB ops j i) && takesB ops tl l (listed.setIfInBounds i true)
def forceB (ops : Array Oper) : List Nat → Array Bool → Bool
  | [], _ => true
  | i :: l, listed => decide (Region.ready .any ops listed = [i]) && forceB ops l (listed.setIfInBounds i true)
def movesB (ops : Array Oper) (tl : List Nat) : List (Bool × List Nat) → Array Bool → Bool
  | [], listed => forceB ops tl listed && decide (Region.ready .any ops (setAll listed tl) = [])
  | (true, l) :: r, listed => (l.all (· < ops.size)) && takesB ops tl l listed && movesB ops tl r (setAll listed l)
  | (false, l) :: r, listed => (l.all (· < ops.size)) && forceB ops l listed && movesB ops tl r (setAll listed l)

def wpForce (P : Program) (ops : Array Oper) (Q : Exit → Act → World → Prop) (N : Act → World → Prop) : List Oper → Act → World → Prop
  | [], a, w => N a w
  | o :: l, a, w => if Region.wanted o (yielded ops a.tmps) then (∀ K : Act → World → Prop, (∀ a' w', Gr w w' → wpForce P ops Q N l a' w' → K a' w') → o.wp P a w K Q) else wpForce P ops Q N l (a.put o.dst undef) w
def wpMoves (P : Program) (ops : Array Oper) (Q : Exit → Act → World → Prop) (T : List Oper) : List (Bool × List Oper) → Act → World → Prop
  | [], a, w => wpList P ops Q T a w
  | (true, l) :: r, a, w => ∃ w0, Gr w0 w ∧ wpQuiet P ops (fun w' => ∃ x, w' = aftG w0 x) (fun a' => wpMoves P ops Q T r a' w) l a
  | (false, l) :: r, a, w => wpForce P ops Q (wpMoves P ops Q T r) l a w


theorem wpAnyK_tail (t0 : List Nat) : ∀ (t : List Nat) (T : List Oper) (listed : Array Bool) (a : Act) (w : World), (∀ i ∈ t, i ∈ t0) → forceB ops t listed = true → Region.ready .any ops (setAll listed t) = [] →
    (∀ (k : Nat), T[k]? = (t[k]?).bind (fun (i : Nat) => ops[i]?)) → wpList P ops Q T a w → wpAnyK P ops Q t0 t.length listed a w
  | [], T, listed, a, w, _, _, he, hT, hw => by
    have : T = [] := by cases T with
      | nil => rfl
      | cons x T => have := hT 0; simp at this
    subst this
    exact ⟨he, hw⟩
  | t :: l, T, listed, a, w, h0, hB, he, hT, hw => by
    simp only [forceB, Bool.and_eq_true, decide_eq_true_eq] at hB
    refine ⟨fun h0 => (by rw [hB.1] at h0; cases h0), fun i hi => ?_⟩
    rw [hB.1] at hi
    obtain rfl : i = t := by simpa using hi
    have hlt : i < ops.size := by
      have hr : i ∈ Region.ready .any ops listed := by rw [hB.1]; simp
      obtain ⟨o, ho, _⟩ := (mem_ready.1 hr).2
      exact (Array.getElem?_eq_some_iff.1 ho).1
    cases T with
    | nil => have := hT 0; simp [hlt] at this
    | cons o T =>
      have ho : ops[i]? = some o := by have := hT 0; simpa using this.symm
      have hw' : wpOp P ops Q i (wpList P ops Q T) a w := by unfold wpOp; simp only [ho]; exact hw
      exact wpOp_mono (fun a' w' h' => ⟨fun hn => absurd (h0 i (by simp)) hn, wpAnyK_tail t0 l T _ a' w' (fun j hj => h0 j (by simp [hj])) hB.2 he (fun k => by have := hT (k + 1); simpa using this) h'⟩) hw'

theorem wpAnyK_force (g : Nat) {N : Act → World → Prop} : ∀ (l : List Nat) (L : List Oper) (listed : Array Bool) (a : Act) (w : World), Closed ops listed → forceB ops l listed = true →
    (∀ (k : Nat), L[k]? = (l[k]?).bind (fun (i : Nat) => ops[i]?)) → (∀ a w, Closed ops (setAll listed l) → N a w → wpAnyK P ops Q tl g (setAll listed l) a w) → wpForce P ops Q N L a w → wpAnyK P ops Q tl (g + l.length) listed a w
  | [], L, listed, a, w, hc, _, hL, hN, h => by
    have : L = [] := by cases L with
      | nil => rfl
      | cons x T => have := hL 0; simp at this
    subst this
    exact hN a w hc h
  | t :: l, L, listed, a, w, hc, hB, hL, hN, h => by
    simp only [forceB, Bool.and_eq_true, decide_eq_true_eq] at hB
    refine ⟨fun h0 => (by rw [hB.1] at h0; cases h0), fun i hi => ?_⟩
    have hi' := hi
    rw [hB.1] at hi
    obtain rfl : i = t := by simpa using hi
    have hlt : i < ops.size := by
      obtain ⟨o, ho, _⟩ := (mem_ready.1 hi').2
      exact (Array.getElem?_eq_some_iff.1 ho).1
    cases L with
    | nil => have := hL 0; simp [hlt] at this
    | cons o L =>
      have ho : ops[i]? = some o := by have := hL 0; simpa using this.symm
      have go := fun (a' : Act) (w' : World) (h' : wpForce P ops Q N L a' w') => wpAnyK_force g l L (listed.setIfInBounds i true) a' w' (hc.set_ hi') hB.2 (fun k => by have := hL (k + 1); simpa using this) hN h'
      unfold wpOp
      simp only [ho]
      unfold wpForce at h
      split at h
      · rename_i hwt
        rw [if_pos hwt]
        exact .inl (h _ fun a' w' hk h' => ⟨fun _ => hk, go a' w' h'⟩)
      · rename_i hwt
        rw [if_neg hwt]
        exact ⟨fun _ => Gr.refl _, go _ _ h⟩

theorem wpAnyK_takes (hs : Region.noSelect ops = true) (hQ : ∀ c a x v w, Q (.panic c) (a.put x v) w → Q (.panic c) a w) (g : Nat) (w w0 : World) (hw : Gr w0 w) : ∀ (l : List Nat) (L : List Oper) (listed : Array Bool) (a : Act), Closed ops listed → takesB ops tl l listed = true →
    (∀ (k : Nat), L[k]? = (l[k]?).bind (fun (i : Nat) => ops[i]?)) → wpQuiet P ops (fun w' => ∃ x, w' = aftG w0 x) (fun a' => Closed ops (setAll listed l) → wpAnyK P ops Q tl g (setAll listed l) a' w) L a → wpAnyK P ops Q tl (g + l.length) listed a w
  | [], L, listed, a, hc, _, hL, h => by
    have : L = [] := by cases L with
      | nil => rfl
      | cons x T => have := hL 0; simp at this
    subst this
    exact h hc
  | i :: l, L, listed, a, hc, hB, hL, h => by
    simp only [takesB, Bool.and_eq_true] at hB
    obtain ⟨⟨⟨⟨hr, hf⟩, hpl⟩, hre⟩, hB⟩ := hB
    have hr' : i ∈ Region.ready .any ops listed := by simpa using hr
    have hi : i < ops.size := by
      obtain ⟨o, ho, _⟩ := (mem_ready.1 hr').2
      exact (Array.getElem?_eq_some_iff.1 ho).1
    cases L with
    | nil => have := hL 0; simp [hi] at this
    | cons o L =>
      have ho : ops[i]? = some o := by have := hL 0; simpa using this.symm
      rw [ho] at hpl
      have h1 : qOp P ops (fun w' => ∃ x, w' = aftG w0 x) i (wpQuiet P ops (fun w' => ∃ x, w' = aftG w0 x) (fun a' => Closed ops (setAll listed (i :: l)) → wpAnyK P ops Q tl g (setAll listed (i :: l)) a' w) L) a := by unfold qOp; simp only [ho]; exact h
      obtain ⟨v, hy, h⟩ := yieldsIn_of_qOp ho h1
      have hy' : YieldsIf P ops (fun w' => Gr w0 w') o v a := by
        rcases hy with ⟨h2, h3⟩ | h2
        · exact .inl ⟨h2, fun w hw => plain_run hpl (h3 w ⟨_, aftG_of hw⟩)⟩
        · exact .inr h2
      have := wpAnyK_takes hs hQ g w w0 hw l L (listed.setIfInBounds i true) (a.put o.dst v) (hc.set_ hr') hB (fun k => by have := hL (k + 1); simpa using this) h
      rw [ho, Bool.or_eq_true] at hre
      rcases hre with hre | hre
      · have hy2 : YieldsIf P ops (fun _ => True) o v a := by
          rcases hy' with ⟨h2, h3⟩ | h2
          · exact .inl ⟨h2, fun w' _ => free_run hre (h3 w hw) w'⟩
          · exact .inr h2
        exact wpAnyK_first hs ho (fun c a w => hQ c a _ _ w) (fun _ _ _ _ => trivial) (.inr fun _ => trivial) _ listed a w hc (Region.free_spec ho hf) hr' hy2 trivial this
      · exact wpAnyK_first hs ho (fun c a w => hQ c a _ _ w) (fun _ _ h1 h2 => Gr.trans h1 h2) (.inl fun j hj => List.all_eq_true.1 hre j hj) _ listed a w hc (Region.free_spec ho hf) hr' hy' hw this

def total : List (Bool × List Nat) → Nat
  | [] => 0
  | (_, l) :: r => total r + l.length


theorem moves_sound {l0 : List Oper} (hs : Region.noSelect l0.toArray = true) (hQ : ∀ c a x v w, Q (.panic c) (a.put x v) w → Q (.panic c) a w) (htl : ∀ i ∈ tl, i < l0.length) : ∀ (mv : List (Bool × List Nat)) (listed : Array Bool) (a : Act) (w : World), Closed l0.toArray listed → movesB l0.toArray tl mv listed = true →
    wpMoves P l0.toArray Q (pick l0 tl) (mv.map fun m => (m.1, pick l0 m.2)) a w → wpAnyK P l0.toArray Q tl (total mv + tl.length) listed a w
  | [], listed, a, w, hc, hB, h => by
    simp only [movesB, Bool.and_eq_true, decide_eq_true_eq] at hB
    rw [total, Nat.zero_add]
    exact wpAnyK_tail tl tl (pick l0 tl) listed a w (fun _ h => h) hB.1 hB.2 (filter_get tl htl).2 h
  | (true, l) :: r, listed, a, w, hc, hB, h => by
    simp only [movesB, Bool.and_eq_true] at hB
    obtain ⟨⟨hin, htk⟩, hB⟩ := hB
    obtain ⟨w0, hw0, hq⟩ := h
    have hl : ∀ i ∈ l, i < l0.length := fun i hi => by simpa using List.all_eq_true.1 hin i hi
    rw [show total ((true, l) :: r) + tl.length = (total r + tl.length) + l.length by show total r + l.length + tl.length = _; omega]
    exact wpAnyK_takes hs hQ _ w w0 hw0 l (pick l0 l) listed a hc htk (filter_get l hl).2 (quiet_mono' (fun a' h' hc' => moves_sound hs hQ htl r _ a' w hc' hB h') _ _ hq)
  | (false, l) :: r, listed, a, w, hc, hB, h => by
    simp only [movesB, Bool.and_eq_true] at hB
    obtain ⟨⟨hin, hfo⟩, hB⟩ := hB
    have hl : ∀ i ∈ l, i < l0.length := fun i hi => by simpa using List.all_eq_true.1 hin i hi
    rw [show total ((false, l) :: r) + tl.length = (total r + tl.length) + l.length by show total r + l.length + tl.length = _; omega]
    exact wpAnyK_force _ l (pick l0 l) listed a w hc hfo (filter_get l hl).2 (fun a' w' hc' h' => moves_sound hs hQ htl r _ a' w' hc' hB h') h
end

def mvB (ops : Array Oper) (mv : List (Bool × List Nat)) (tl : List Nat) : Bool :=
  Region.noSelect ops && (tl.all (· < ops.size)) && decide (total mv + tl.length = ops.size) && movesB ops tl mv (Array.replicate ops.size false)

/-- mv: the moves; tl: what stands behind them, in a row (it may turn what was there). Nothing panics. -/
theorem wp_region_moves {P : Program} {id : Nat} {Q : Exit → Act → World → Prop} {a : Act} {w : World} {l : List Oper} (mv : List (Bool × List Nat)) (tl : List Nat) (hm : P.follows .mixedOrders = true) (hB : mvB l.toArray mv tl = true)
    (h : ∀ w1, Keep w w1 → wpMoves P l.toArray (Exit.then (fun a w => Q .normal a w) (fun _ _ _ => False)) (pick l tl) (mv.map fun m => (m.1, pick l m.2)) a w1) : (Code.region id l.toArray true).wp P Q a w := by
  simp only [mvB, Bool.and_eq_true, decide_eq_true_eq] at hB
  obtain ⟨⟨⟨hs, htl⟩, hlen⟩, hB⟩ := hB
  refine wp_mono (Q := Exit.then (fun a w => Q .normal a w) (fun _ _ _ => False)) (wp_region_any hm ?_) fun e a w h => by
    cases e with
    | normal => exact h
    | _ => exact False.elim h
  have := moves_sound (P := P) (Q := Exit.then (fun a w => Q .normal a w) (fun _ _ _ => False)) hs (fun _ _ _ _ _ h => h) (fun i hi => by simpa using List.all_eq_true.1 htl i hi) mv _ a { w with drawn := w.drawn + 1 } (closed_none _ _) hB (h _ (((Below.refl _ _).drew)))
  rw [hlen] at this
  exact wpAny_of_K _ _ _ _ this

section
variable {P : Program} {ops : Array Oper} {Q : Exit → Act → World → Prop} {T l : List Oper} {r : List (Bool × List Oper)} {o : Oper} {a : Act} {w : World} {N : Act → World → Prop}
/-- A row of such as are taken first: in a world w0 that lies behind them. -/
theorem mv_take (w0 : World) (hw : Gr w0 w) (h : wpQuiet P ops (fun w' => ∃ x, w' = aftG w0 x) (fun a' => wpMoves P ops Q T r a' w) l a) : wpMoves P ops Q T ((true, l) :: r) a w := ⟨w0, hw, h⟩
theorem mv_force (h : wpForce P ops Q (wpMoves P ops Q T r) l a w) : wpMoves P ops Q T ((false, l) :: r) a w := h
theorem mv_end (h : wpList P ops Q T a w) : wpMoves P ops Q T [] a w := h
theorem fc_nil (h : N a w) : wpForce P ops Q N [] a w := h
theorem fc_step (hw : Region.wanted o (yielded ops a.tmps) = true) (h : ∀ K : Act → World → Prop, (∀ a' w', Gr w w' → wpForce P ops Q N l a' w' → K a' w') → o.wp P a w K Q) : wpForce P ops Q N (o :: l) a w := by
  unfold wpForce; rw [if_pos hw]; exact h
theorem fc_skip (hw : Region.wanted o (yielded ops a.tmps) = false) (h : wpForce P ops Q N l (a.put o.dst undef) w) : wpForce P ops Q N (o :: l) a w := by
  unfold wpForce; rw [if_neg (by rw [hw]; exact Bool.false_ne_true)]; exact h
end

/-! The same with forks: two may come up, the one ahead of the other. -/
inductive Mv where
  | done
  | take (l : List Nat) (r : Mv)
  | force (l : List Nat) (r : Mv)
  | fork (i : Nat) (ri : Mv) (j : Nat) (rj : Mv)
  | fork3 (i : Nat) (ri : Mv) (j : Nat) (rj : Mv) (k : Nat) (rk : Mv)
def Mv.total : Mv → Nat
  | .done => 0
  | .take l r => r.total + l.length
  | .force l r => r.total + l.length
  | .fork _ ri _ _ => ri.total + 1
  | .fork3 _ ri _ _ _ _ => ri.total + 1
def Mv.okB (ops : Array Oper) (tl : List Nat) : Mv → Array Bool → Bool
  | .done, listed => forceB ops tl listed && decide (Region.ready .any ops (setAll listed tl) = [])
  | .take l r, listed => (l.all (· < ops.size)) && takesB ops tl l listed && r.okB ops tl (setAll listed l)
  | .force l r, listed => (l.all (· < ops.size)) && forceB ops l listed && r.okB ops tl (setAll listed l)
  | .fork i ri j rj, listed => decide (i < ops.size) && decide (j < ops.size) && decide (Region.ready .any ops listed = [i, j]) && decide (ri.total = rj.total) && ri.okB ops tl (listed.setIfInBounds i true) && rj.okB ops tl (listed.setIfInBounds j true)
  | .fork3 i ri j rj k rk, listed => decide (i < ops.size) && decide (j < ops.size) && decide (k < ops.size) && decide (Region.ready .any ops listed = [i, j, k]) && decide (ri.total = rj.total) && decide (ri.total = rk.total) && ri.okB ops tl (listed.setIfInBounds i true) && rj.okB ops tl (listed.setIfInBounds j true) && rk.okB ops tl (listed.setIfInBounds k true)
def Mv.wp (P : Program) (l0 : List Oper) (Q : Exit → Act → World → Prop) (T : List Oper) : Mv → Act → World → Prop
  | .done, a, w => wpList P l0.toArray Q T a w
  | .take l r, a, w => ∃ w0, Gr w0 w ∧ wpQuiet P l0.toArray (fun w' => ∃ x, w' = aftG w0 x) (fun a' => r.wp P l0 Q T a' w) (pick l0 l) a
  | .force l r, a, w => wpForce P l0.toArray Q (r.wp P l0 Q T) (pick l0 l) a w
  | .fork i ri j rj, a, w => wpForce P l0.toArray Q (ri.wp P l0 Q T) [nth l0 i] a w ∧ wpForce P l0.toArray Q (rj.wp P l0 Q T) [nth l0 j] a w
  | .fork3 i ri j rj k rk, a, w => wpForce P l0.toArray Q (ri.wp P l0 Q T) [nth l0 i] a w ∧ wpForce P l0.toArray Q (rj.wp P l0 Q T) [nth l0 j] a w ∧ wpForce P l0.toArray Q (rk.wp P l0 Q T) [nth l0 k] a w

section
variable {P : Program} {Q : Exit → Act → World → Prop} {tl : List Nat} {l0 : List Oper}
theorem one_force {ops : Array Oper} {N : Act → World → Prop} {i : Nat} {o : Oper} (ho : ops[i]? = some o) {listed : Array Bool} {a : Act} {w : World} {g : Nat} (hN : ∀ a w, N a w → wpAnyK P ops Q tl g (listed.setIfInBounds i true) a w)
    (h : wpForce P ops Q N [o] a w) : wpOp P ops Q i (fun a' w' => (i ∉ tl → Gr w w') ∧ wpAnyK P ops Q tl g (listed.setIfInBounds i true) a' w') a w := by
  unfold wpOp
  simp only [ho]
  unfold wpForce at h
  split at h
  · rename_i hwt
    rw [if_pos hwt]
    exact .inl (h _ fun a' w' hk h' => ⟨fun _ => hk, hN _ _ h'⟩)
  · rename_i hwt
    rw [if_neg hwt]
    exact ⟨fun _ => Gr.refl _, hN _ _ h⟩

theorem Mv.sound (hs : Region.noSelect l0.toArray = true) (hQ : ∀ c a x v w, Q (.panic c) (a.put x v) w → Q (.panic c) a w) (htl : ∀ i ∈ tl, i < l0.length) : ∀ (mv : Mv) (listed : Array Bool) (a : Act) (w : World), Closed l0.toArray listed → mv.okB l0.toArray tl listed = true →
    mv.wp P l0 Q (pick l0 tl) a w → wpAnyK P l0.toArray Q tl (mv.total + tl.length) listed a w
  | .done, listed, a, w, hc, hB, h => by
    simp only [Mv.okB, Bool.and_eq_true, decide_eq_true_eq] at hB
    rw [Mv.total, Nat.zero_add]
    exact wpAnyK_tail tl tl (pick l0 tl) listed a w (fun _ h => h) hB.1 hB.2 (filter_get tl htl).2 h
  | .take l r, listed, a, w, hc, hB, h => by
    simp only [Mv.okB, Bool.and_eq_true] at hB
    obtain ⟨⟨hin, htk⟩, hB⟩ := hB
    obtain ⟨w0, hw0, hq⟩ := h
    have hl : ∀ i ∈ l, i < l0.length := fun i hi => by simpa using List.all_eq_true.1 hin i hi
    rw [show (Mv.take l r).total + tl.length = (r.total + tl.length) + l.length by show r.total + l.length + tl.length = _; omega]
    exact wpAnyK_takes hs hQ _ w w0 hw0 l (pick l0 l) listed a hc htk (filter_get l hl).2 (quiet_mono' (fun a' h' hc' => Mv.sound hs hQ htl r _ a' w hc' hB h') _ _ hq)
  | .force l r, listed, a, w, hc, hB, h => by
    simp only [Mv.okB, Bool.and_eq_true] at hB
    obtain ⟨⟨hin, hfo⟩, hB⟩ := hB
    have hl : ∀ i ∈ l, i < l0.length := fun i hi => by simpa using List.all_eq_true.1 hin i hi
    rw [show (Mv.force l r).total + tl.length = (r.total + tl.length) + l.length by show r.total + l.length + tl.length = _; omega]
    exact wpAnyK_force _ l (pick l0 l) listed a w hc hfo (filter_get l hl).2 (fun a' w' hc' h' => Mv.sound hs hQ htl r _ a' w' hc' hB h') h
  | .fork i ri j rj, listed, a, w, hc, hB, h => by
    simp only [Mv.okB, Bool.and_eq_true, decide_eq_true_eq] at hB
    obtain ⟨⟨⟨⟨⟨hi, hj⟩, hr⟩, ht⟩, hBi⟩, hBj⟩ := hB
    obtain ⟨h1, h2⟩ := h
    have hoi : l0.toArray[i]? = some (nth l0 i) := by simp at hi ⊢; simp [nth, hi]
    have hoj : l0.toArray[j]? = some (nth l0 j) := by simp at hj ⊢; simp [nth, hj]
    have hri : i ∈ Region.ready .any l0.toArray listed := by rw [hr]; simp
    have hrj : j ∈ Region.ready .any l0.toArray listed := by rw [hr]; simp
    rw [show (Mv.fork i ri j rj).total + tl.length = (ri.total + tl.length) + 1 by show ri.total + 1 + tl.length = _; omega]
    refine ⟨fun h0 => (by rw [hr] at h0; cases h0), fun k hk => ?_⟩
    rw [hr] at hk
    have hk' : k = i ∨ k = j := by simpa using hk
    by_cases hki : k = i
    · subst hki
      exact one_force hoi (fun a' w' h' => Mv.sound hs hQ htl ri _ a' w' (hc.set_ hri) hBi h') h1
    · obtain rfl : k = j := hk'.resolve_left hki
      rw [ht]
      exact one_force hoj (fun a' w' h' => Mv.sound hs hQ htl rj _ a' w' (hc.set_ hrj) hBj h') h2
  | .fork3 i ri j rj k rk, listed, a, w, hc, hB, h => by
    simp only [Mv.okB, Bool.and_eq_true, decide_eq_true_eq] at hB
    obtain ⟨⟨⟨⟨⟨⟨⟨⟨hi, hj⟩, hk⟩, hr⟩, ht⟩, ht2⟩, hBi⟩, hBj⟩, hBk⟩ := hB
    obtain ⟨h1, h2, h3⟩ := h
    have hoi : l0.toArray[i]? = some (nth l0 i) := by simp at hi ⊢; simp [nth, hi]
    have hoj : l0.toArray[j]? = some (nth l0 j) := by simp at hj ⊢; simp [nth, hj]
    have hok : l0.toArray[k]? = some (nth l0 k) := by simp at hk ⊢; simp [nth, hk]
    have hri : i ∈ Region.ready .any l0.toArray listed := by rw [hr]; simp
    have hrj : j ∈ Region.ready .any l0.toArray listed := by rw [hr]; simp
    have hrk : k ∈ Region.ready .any l0.toArray listed := by rw [hr]; simp
    rw [show (Mv.fork3 i ri j rj k rk).total + tl.length = (ri.total + tl.length) + 1 by show ri.total + 1 + tl.length = _; omega]
    refine ⟨fun h0 => (by rw [hr] at h0; cases h0), fun m hm => ?_⟩
    rw [hr] at hm
    have hm' : m = i ∨ m = j ∨ m = k := by simpa using hm
    by_cases hmi : m = i
    · subst hmi
      exact one_force hoi (fun a' w' h' => Mv.sound hs hQ htl ri _ a' w' (hc.set_ hri) hBi h') h1
    · by_cases hmj : m = j
      · subst hmj
        rw [ht]
        exact one_force hoj (fun a' w' h' => Mv.sound hs hQ htl rj _ a' w' (hc.set_ hrj) hBj h') h2
      · obtain rfl : m = k := (hm'.resolve_left hmi).resolve_left hmj
        rw [ht2]
        exact one_force hok (fun a' w' h' => Mv.sound hs hQ htl rk _ a' w' (hc.set_ hrk) hBk h') h3
end

def mtB (ops : Array Oper) (mv : Mv) (tl : List Nat) : Bool :=
  Region.noSelect ops && (tl.all (· < ops.size)) && decide (mv.total + tl.length = ops.size) && mv.okB ops tl (Array.replicate ops.size false)
theorem wp_region_tree {P : Program} {id : Nat} {Q : Exit → Act → World → Prop} {a : Act} {w : World} {l : List Oper} (mv : Mv) (tl : List Nat) (hm : P.follows .mixedOrders = true) (hB : mtB l.toArray mv tl = true)
    (h : ∀ w1, Keep w w1 → mv.wp P l (Exit.then (fun a w => Q .normal a w) (fun _ _ _ => False)) (pick l tl) a w1) : (Code.region id l.toArray true).wp P Q a w := by
  simp only [mtB, Bool.and_eq_true, decide_eq_true_eq] at hB
  obtain ⟨⟨⟨hs, htl⟩, hlen⟩, hB⟩ := hB
  refine wp_mono (Q := Exit.then (fun a w => Q .normal a w) (fun _ _ _ => False)) (wp_region_any hm ?_) fun e a w h => by
    cases e with
    | normal => exact h
    | _ => exact False.elim h
  have := Mv.sound (P := P) (Q := Exit.then (fun a w => Q .normal a w) (fun _ _ _ => False)) hs (fun _ _ _ _ _ h => h) (fun i hi => by simpa using List.all_eq_true.1 htl i hi) mv _ a { w with drawn := w.drawn + 1 } (closed_none _ _) hB (h _ (((Below.refl _ _).drew)))
  rw [hlen] at this
  exact wpAny_of_K _ _ _ _ this
section
variable {P : Program} {l0 T : List Oper} {Q : Exit → Act → World → Prop} {a : Act} {w : World} {l : List Nat} {r ri rj rk : Mv} {i j k : Nat}
theorem mt_take (w0 : World) (hw : Gr w0 w) (h : wpQuiet P l0.toArray (fun w' => ∃ x, w' = aftG w0 x) (fun a' => r.wp P l0 Q T a' w) (pick l0 l) a) : (Mv.take l r).wp P l0 Q T a w := ⟨w0, hw, h⟩
theorem mt_force (h : wpForce P l0.toArray Q (r.wp P l0 Q T) (pick l0 l) a w) : (Mv.force l r).wp P l0 Q T a w := h
theorem mt_fork (h1 : wpForce P l0.toArray Q (ri.wp P l0 Q T) [nth l0 i] a w) (h2 : wpForce P l0.toArray Q (rj.wp P l0 Q T) [nth l0 j] a w) : (Mv.fork i ri j rj).wp P l0 Q T a w := ⟨h1, h2⟩
theorem mt_fork3 (h1 : wpForce P l0.toArray Q (ri.wp P l0 Q T) [nth l0 i] a w) (h2 : wpForce P l0.toArray Q (rj.wp P l0 Q T) [nth l0 j] a w) (h3 : wpForce P l0.toArray Q (rk.wp P l0 Q T) [nth l0 k] a w) : (Mv.fork3 i ri j rj k rk).wp P l0 Q T a w := ⟨h1, h2, h3⟩
theorem mt_end (h : wpList P l0.toArray Q T a w) : Mv.done.wp P l0 Q T a w := h
end

/-- A whole variable loaded, in a region that draws its order. -/
theorem wpQuiet_load_arrG {P : Program} {w0 : World} {ops : Array Oper} {rest : List Oper} {a : Act} {Q : Act → Prop} {x : Operand} {dst : Option Tmp} {ty ty' t : TypeId} {pos : String} {af : Array Edge}
    (g : Nat) (cs : Array Value) (hx : a.eval x = .pointer (some ⟨g, 0, none⟩)) (hb : Blk w0 g t cs.toList) (hne : MM.m ≠ some g) (d : TypeDesc) (hu : P.underlying ty = some d) (hd : d.isRow = true) (hi : (P.info? ty).map (·.size) = some cs.size)
    (h : wpQuiet P ops (fun w' => ∃ x, w' = aftG w0 x) Q rest (a.put dst (.agg cs))) :
    wpQuiet P ops (fun w' => ∃ x, w' = aftG w0 x) Q ({ dst := dst, op := .load ty x, type := ty', pos := pos, after := af, guard := none } :: rest) a := by
  refine BigFrame.wpQuiet_want (by simp [Region.wanted]) fun K hK => ⟨.agg cs, fun w hw => ?_, hK _ h⟩
  obtain ⟨y, rfl⟩ := hw
  have hb2 := aftG_blk hb hne y
  unfold Oper.quietAt execOp
  have hl := run_loadVar_mid (P := P) (aftG w0 y) g 0 ty cs.toList d (fun j v hv => by rw [Nat.zero_add, hb2.cell]; exact hv) hu hd (by simpa using hi)
  simp only [hx, Instr.loadAt, Instr.sureAddr, Sem.run_bind, Sem.run_pure, Result.andThen_ok, hl, Array.toArray_toList]
  exact ⟨rfl, rfl⟩
end Go.Proofs.YtjbdboekleaklaaGreatDoor.G

/- u256: Shl. -/
set_option linter.unusedSimpArgs false
set_option linter.unusedVariables false
namespace Go.Proofs.YtjbdboekleaklaaGreatDoor
open Go.RowKit
attribute [local go_sem ↓] Go.wp_at_zero Go.wp_at_succ

/-- The words below k. -/
def lowL (S k : Nat) : List Value := [n64 (if 0 < k then limb S 0 else 0), n64 (if 1 < k then limb S 1 else 0), n64 (if 2 < k then limb S 2 else 0), n64 (if 3 < k then limb S 3 else 0)]
theorem lowL_four (S : Nat) : lowL S 4 = uL S := rfl
theorem lowL_get (S k : Nat) (hk : k < 4) : (lowL S k)[k]? = some (n64 0) := by
  rcases (show k = 0 ∨ k = 1 ∨ k = 2 ∨ k = 3 by omega) with rfl | rfl | rfl | rfl <;> rfl
theorem lowL_set (S k : Nat) (hk : k < 4) : (lowL S k).set k (n64 (limb S k)) = lowL S (k + 1) := by
  rcases (show k = 0 ∨ k = 1 ∨ k = 2 ∨ k = 3 by omega) with rfl | rfl | rfl | rfl <;> rfl
theorem lowL_zero (S k : Nat) (h : ∀ j, j < k → limb S j = 0) : lowL S k = [n64 0, n64 0, n64 0, n64 0] := by
  have e : ∀ j, (if j < k then limb S j else 0) = 0 := fun j => by split; exact h j ‹_›; rfl
  unfold lowL
  rw [e, e, e, e]

theorem or_words (x y d e : Nat) (hy : y < 2 ^ 64) : bits .or .u64 ((x : Int) * 2 ^ d % 18446744073709551616) ((y : Int) / 2 ^ e) = ((x * 2 ^ d % 2 ^ 64 ||| y / 2 ^ e : Nat) : Int) := by
  have h1 : (x : Int) * 2 ^ d % 18446744073709551616 = ((x * 2 ^ d % 2 ^ 64 : Nat) : Int) := by rw [Int.natCast_emod, Int.natCast_mul]; rfl
  have h2 : (y : Int) / 2 ^ e = ((y / 2 ^ e : Nat) : Int) := by rw [Int.natCast_ediv]; rfl
  rw [h1, h2]
  exact bits_or_u64_nat _ _ (Nat.mod_lt _ (by decide)) (Nat.lt_of_le_of_lt (Nat.div_le_self _ _) hy)

set_option maxRecDepth 100000 in
set_option maxHeartbeats 2000000 in
theorem shl_any (N n : Nat) (w : World) (hN : N < 2 ^ 256) (hn : n ≤ 100000) :
    Calls Tryz.prog 66 #[uV N, .int .i64 n] w fun e w' => e = .returned (.tuple #[uV (N * 2 ^ n % 2 ^ 256), .bool (decide (2 ^ 256 ≤ N * 2 ^ n))]) ∧ Keep w w' := by
  by_cases h0 : n = 0
  · subst h0
    have e1 : N * 2 ^ 0 % 2 ^ 256 = N := by rw [Nat.pow_zero, Nat.mul_one]; exact Nat.mod_eq_of_lt hN
    have e2 : decide (2 ^ 256 ≤ N * 2 ^ 0) = false := decide_eq_false (by rw [Nat.pow_zero, Nat.mul_one]; omega)
    rw [e1, e2]
    clear e1 e2 hN hn
    go_enter Tryz.func66, Tryz.ntmps66
    go_wp2
    have hb : Blk ((w.alloc (.cells #[n64 (limb N 0), n64 (limb N 1), n64 (limb N 2), n64 (limb N 3)] 42)).alloc (.cells #[n64 (limb N 0), n64 (limb N 1), n64 (limb N 2), n64 (limb N 3)] 42)) (w.heap.size + 1) 42 (uL N) := by
      have h2 := Blk.new (w.alloc (.cells #[n64 (limb N 0), n64 (limb N 1), n64 (limb N 2), n64 (limb N 3)] 42)) 42 (uL N)
      rw [World.size_alloc] at h2
      exact h2
    exact bodyPost_ret (v := .tuple #[uV N, .bool false]) (results_cell_tmp_row Tryz.results66 _ _ (w.heap.size + 1) _ _ _ _ rfl hb Tryz.underlying42 rfl (by kernel_rfl)) rfl ⟨rfl, keep_trans (keep_new _ _) (keep_new _ _)⟩
  · by_cases h1 : 256 ≤ n
    · have e1 : N * 2 ^ n % 2 ^ 256 = 0 := by
        have : 2 ^ n = 2 ^ 256 * 2 ^ (n - 256) := by rw [← Nat.pow_add]; congr 1; omega
        rw [this, Nat.mul_left_comm]; exact Nat.mul_mod_right _ _
      have e2 : decide (2 ^ 256 ≤ N * 2 ^ n) = !decide (N = 0) := by
        by_cases hz : N = 0
        · subst hz; rw [Nat.zero_mul]; rfl
        · have h3 : 2 ^ 256 ≤ 2 ^ n := Nat.pow_le_pow_right (by decide) h1
          have h4 : 2 ^ n ≤ N * 2 ^ n := Nat.le_mul_of_pos_left _ (by omega)
          rw [decide_eq_true (Nat.le_trans h3 h4), decide_eq_false hz]; rfl
      rw [e1, e2, uV_zero]
      have he : ∀ w, (Go.binOp .neq 42 (uV N) u0).run Tryz.prog w = .ok (.bool (!decide (N = 0))) w := fun w => by
        have := u_neq hN (by decide : 0 < 2 ^ 256) w
        rw [uV_zero] at this; exact this
      have hgd := u256_guard
      generalize (!decide (N = 0)) = bb at *
      have d1 : ¬ (n : Int) ≤ 0 := by omega
      have d2 : (256 : Int) ≤ (n : Int) := by omega
      clear e1 e2 hN h0 h1 hn
      go_enter Tryz.func66, Tryz.ntmps66
      go_upto_region 4 with fail
      go_region
      go_wp2
      have hb : Blk (((w.alloc (.cells #[n64 (limb N 0), n64 (limb N 1), n64 (limb N 2), n64 (limb N 3)] 42)).alloc (.cells #[.int .u64 0, .int .u64 0, .int .u64 0, .int .u64 0] 42)).drew) (w.heap.size + 1) 42 [.int .u64 0, .int .u64 0, .int .u64 0, .int .u64 0] := by
        have h2 := Blk.new (w.alloc (.cells #[n64 (limb N 0), n64 (limb N 1), n64 (limb N 2), n64 (limb N 3)] 42)) 42 [.int .u64 0, .int .u64 0, .int .u64 0, .int .u64 0]
        rw [World.size_alloc] at h2
        exact h2.drew
      exact bodyPost_ret (v := .tuple #[u0, .bool bb]) (results_cell_tmp_row Tryz.results66 _ _ (w.heap.size + 1) _ _ _ _ rfl hb Tryz.underlying42 rfl (by kernel_rfl)) rfl ⟨rfl, (keep_trans (keep_new _ _) (keep_new _ _)).drew⟩
    · obtain ⟨S, hS⟩ : ∃ S, N * 2 ^ n % 2 ^ 256 = S := ⟨_, rfl⟩
      have HS : Hid (∀ i, i < 4 → limb S i = if i < n / 64 then 0 else ((limb N (i - n / 64) * 2 ^ (n % 64)) % 2 ^ 64) ||| (if n / 64 < i then limb N (i - n / 64 - 1) / 2 ^ (64 - n % 64) else 0)) := Lib.hid fun i hi => by rw [← hS]; exact shl_limb N n i hi
      have ho : decide (2 ^ 256 ≤ N * 2 ^ n) = decide (256 < lenN N + n) := decide_eq_decide.2 (over_iff (by omega)).symm
      rw [hS, ho]
      have hL : lenN N ≤ 256 := lenN_le hN
      have Ln : Hid (∀ y, Calls Tryz.prog 67 #[uV N] y fun e w' => e = .returned (.int .i64 (lenN N : Nat)) ∧ Keep y w') := fun y => len_any N y hN
      obtain ⟨q, hq⟩ : ∃ q, n / 64 = q := ⟨_, rfl⟩
      obtain ⟨d, hd⟩ : ∃ d, n % 64 = d := ⟨_, rfl⟩
      have hq1 : Int.tdiv (n : Int) 64 = (q : Int) := by rw [Int.tdiv_eq_ediv_of_nonneg (by omega)]; omega
      have hd1 : Int.tmod (n : Int) 64 = (d : Int) := by rw [Int.tmod_eq_emod_of_nonneg (by omega)]; omega
      rw [hq, hd] at HS
      have hq4 : q < 4 := by omega
      have hd64 : d < 64 := by omega
      have d1 : ¬ (n : Int) ≤ 0 := by omega
      have d2 : ¬ (256 : Int) ≤ (n : Int) := by omega
      have hn1 : (n : Int) ≤ 256 := by omega
      generalize lenN N = L at *
      clear hN hn h0 h1 hS ho hq hd
      go_enter Tryz.func66, Tryz.ntmps66
      go_upto_region 8 with fail
      obtain ⟨w1, hw1⟩ : ∃ w1, w1 = (((w.alloc (.cells #[n64 (limb N 0), n64 (limb N 1), n64 (limb N 2), n64 (limb N 3)] 42)).alloc (.cells #[.int .u64 0, .int .u64 0, .int .u64 0, .int .u64 0] 42)).alloc (.cells #[.int .u64 0, .int .u64 0, .int .u64 0, .int .u64 0] 42)) := ⟨_, rfl⟩
      have HA1 : Hid (Blk w1 w.heap.size 42 (uL N)) := by rw [hw1]; exact ((Blk.new w 42 (uL N)).alloc _).alloc _
      have HR1 : Hid (Blk w1 (w.heap.size + 1) 42 [.int .u64 0, .int .u64 0, .int .u64 0, .int .u64 0]) := by
        rw [hw1]
        have h2 := Blk.new (w.alloc (.cells #[n64 (limb N 0), n64 (limb N 1), n64 (limb N 2), n64 (limb N 3)] 42)) 42 [.int .u64 0, .int .u64 0, .int .u64 0, .int .u64 0]
        rw [World.size_alloc] at h2
        exact h2.alloc _
      have HO1 : Hid (Blk w1 (w.heap.size + 1 + 1) 42 (lowL S q)) := by
        rw [hw1, lowL_zero S q (fun j hj => by rw [HS.out j (by omega), if_pos hj])]
        have h2 := Blk.new ((w.alloc (.cells #[n64 (limb N 0), n64 (limb N 1), n64 (limb N 2), n64 (limb N 3)] 42)).alloc (.cells #[.int .u64 0, .int .u64 0, .int .u64 0, .int .u64 0] 42)) 42 [.int .u64 0, .int .u64 0, .int .u64 0, .int .u64 0]
        rw [World.size_alloc, World.size_alloc] at h2
        exact h2
      have HK1 : Hid (Keep w w1) := by rw [hw1]; exact keep_trans (keep_trans (keep_new _ _) (keep_new _ _)) (keep_new _ _)
      rw [← hw1]
      clear hw1
      go_wp2_with fail
      go_loopw [9] (fun i wr => ∃ j : Nat, q + j ≤ 4 ∧ i = .int .i64 ((q : Int) + (j : Int)) ∧ Hid (Blk wr (w.heap.size + 1 + 1) 42 (lowL S (q + j))) ∧ Hid (Blk wr w.heap.size 42 (uL N)) ∧ Hid (Blk wr (w.heap.size + 1) 42 [.int .u64 0, .int .u64 0, .int .u64 0, .int .u64 0]) ∧ Hid (Keep w wr)) (fun i _ => (4 - intOf i).toNat)
      case atStart => exact ⟨0, by omega, by simp, HO1, HA1, HR1, HK1⟩
      case round =>
        obtain ⟨j, hj, rfl, HO, HA, HR, HK⟩ := hrel
        by_cases hlt : q + j < 4
        · have a0 : wr.cell? ⟨w.heap.size, j, none⟩ = some (n64 (limb N j)) := by rw [HA.out.cell, uL_get N j (by omega)]
          have o0 : wr.cell? ⟨w.heap.size + 1 + 1, q + j, none⟩ = some (n64 0) := by rw [HO.out.cell, lowL_get S (q + j) hlt]
          have of : wr.frozen? ⟨w.heap.size + 1 + 1, q + j, none⟩ = false := HO.out.frozen _
          have i1 : (q : Int) + (j : Int) < 4 := by omega
          have hs := HS.out (q + j) hlt
          rw [if_neg (by omega), show q + j - q = j by omega] at hs
          have Hs := Lib.hid hs
          clear hs
          go_upto_region 11 with fail
          have hv : IntKind.u64.wrap ((limb N j : Int) * 2 ^ d) = ((limb N j * 2 ^ d % 2 ^ 64 : Nat) : Int) := by
            rw [IntKind.wrap_u64, Int.natCast_emod, Int.natCast_mul]; rfl
          obtain ⟨w2, hw2⟩ : ∃ w2, w2 = wr.setCell ⟨w.heap.size + 1 + 1, q + j, none⟩ (.int .u64 (IntKind.u64.wrap ((limb N j : Int) * 2 ^ d))) := ⟨_, rfl⟩
          have HO2 : Hid (Blk w2 (w.heap.size + 1 + 1) 42 ((lowL S (q + j)).set (q + j) (n64 (limb N j * 2 ^ d % 2 ^ 64)))) := by rw [hw2, hv]; exact HO.out.set_ _ _
          have HA2 : Hid (Blk w2 w.heap.size 42 (uL N)) := by rw [hw2]; exact HA.out.far (by simp; omega) _
          have HR2 : Hid (Blk w2 (w.heap.size + 1) 42 [.int .u64 0, .int .u64 0, .int .u64 0, .int .u64 0]) := by rw [hw2]; exact HR.out.far (by simp) _
          have HK2 : Hid (Keep w w2) := by rw [hw2]; exact Below.setCell HK.out (by simp; omega) _
          rw [← hw2]
          clear hw2 a0 o0 of HO HA HR HK
          cases j with
          | zero =>
            have hl := Hs.out
            rw [if_neg (by omega), Nat.or_zero] at hl
            have HO3 : Hid (Blk w2 (w.heap.size + 1 + 1) 42 (lowL S (q + (0 + 1)))) := by
              have h1 := HO2.out
              rw [← hl, lowL_set S (q + 0) hlt] at h1; exact h1
            clear hl hv Hs
            go_wp2
            go_roundw
            case rel => exact ⟨0 + 1, by omega, by go_num, HO3, HA2, HR2, HK2⟩
            case measure => simp [intOf]; omega
          | succ j =>
            have i2 : decide ((q : Int) < (q : Int) + ((j + 1 : Nat) : Int)) = true := decide_eq_true (by omega)
            have i3 : (q : Int) + (j : Int) < 3 := by omega
            go_upto_region 12 with fail
            refine wp_region_tree (.take [0,1,2,3,4,5,6,7,8,9,10,11,12,13] .done) [14] (by kernel_rfl) (by kernel_rfl) (fun w9 k9 => ?_)
            have HO9 := Lib.hid (HO2.out.keep k9); have HA9 := Lib.hid (HA2.out.keep k9); have HR9 := Lib.hid (HR2.out.keep k9); have HK9 := Lib.hid (keep_trans HK2.out k9)
            clear k9
            have a0 := aft_cell (show w9.cell? ⟨w.heap.size, j, none⟩ = some (n64 (limb N j)) by rw [HA9.out.cell, uL_get N j (by omega)])
            have p0 : w9.cell? ⟨w.heap.size + 1 + 1, q + (j + 1), none⟩ = some (n64 (limb N (j + 1) * 2 ^ d % 2 ^ 64)) := by rw [HO9.out.cell, List.getElem?_set_self (by unfold lowL; simpa using hlt)]
            have o0 := aft_cell (show w9.cell? ⟨w.heap.size + 1 + 1, q + (j + 1), none⟩ = some (n64 (limb N (j + 1) * 2 ^ d % 2 ^ 64)) by rw [HO9.out.cell, List.getElem?_set_self (by unfold lowL; simpa using hlt)])
            have of9 : w9.frozen? ⟨w.heap.size + 1 + 1, q + (j + 1), none⟩ = false := HO9.out.frozen _
            refine mt_take w9 (Below.refl _ _) ?_
            simp only [pick_cons, pick_nil, nth_zero, nth_succ]
            repeat (go_big_quiet_step (fail))
            refine wpQuiet_nil ?_
            refine mt_end ?_
            clear a0 o0
            have hl := Hs.out
            rw [if_pos (by omega)] at hl
            have Hl := Lib.hid hl
            clear hl Hs hv
            go_wp2
            go_roundw
            case rel =>
              rw [or_words _ _ _ _ (limb_lt N j)]
              refine ⟨j + 1 + 1, by omega, by go_num, Lib.hid ?_, Lib.hid (HA9.out.far (by simp; omega) _), Lib.hid (HR9.out.far (by simp) _), Lib.hid (Below.setCell HK9.out (by simp; omega) _)⟩
              have h1 := HO9.out.set_ (q + (j + 1)) (n64 (limb S (q + (j + 1))))
              rw [List.set_set, lowL_set S _ hlt, Hl.out] at h1
              exact h1
            case measure => simp [intOf]; omega
        · obtain rfl : j = 4 - q := by omega
          have hO := HO.out; have hA := HA.out; have hR := HR.out
          rw [show q + (4 - q) = 4 by omega, lowL_four] at hO
          have o0 := hO.cell 0; have o1 := hO.cell 1; have o2 := hO.cell 2; have o3 := hO.cell 3
          have a0 := hA.cell 0; have a1 := hA.cell 1; have a2 := hA.cell 2; have a3 := hA.cell 3
          have r0 := hR.cell 0; have r1 := hR.cell 1; have r2 := hR.cell 2; have r3 := hR.cell 3
          have f0 := hR.frozen 0; have f1 := hR.frozen 1; have f2 := hR.frozen 2; have f3 := hR.frozen 3
          simp only [uL, List.getElem?_cons_zero, List.getElem?_cons_succ] at o0 o1 o2 o3 a0 a1 a2 a3 r0 r1 r2 r3
          have i1 : ¬ (q : Int) + ((4 - q : Nat) : Int) < 4 := by omega
          have hOl := hO.lt
          clear hO hA HO HA HS HO1 HA1 HR1 HK1
          go_upto_region 13 with fail
          letI iM : G.Mk := ⟨some (w.heap.size + 1)⟩
          refine G.wp_region_tree (.take [0,1,3] (.force [2] (.take [4,5] (.force [6] .done)))) [7] (by kernel_rfl) (by kernel_rfl) (fun w9 k9 => ?_)
          have hneA : G.Mk.m ≠ some w.heap.size := fun e => by have e2 : w.heap.size + 1 = w.heap.size := Option.some.inj e; omega
          have hneO : G.Mk.m ≠ some (w.heap.size + 1 + 1) := fun e => by have e2 : w.heap.size + 1 = w.heap.size + 1 + 1 := Option.some.inj e; omega
          have b0 := G.aftG_cell (keep_cell k9 a0) hneA; have b1 := G.aftG_cell (keep_cell k9 a1) hneA; have b2 := G.aftG_cell (keep_cell k9 a2) hneA; have b3 := G.aftG_cell (keep_cell k9 a3) hneA
          have c0 := G.aftG_cell (keep_cell k9 o0) hneO; have c1 := G.aftG_cell (keep_cell k9 o1) hneO; have c2 := G.aftG_cell (keep_cell k9 o2) hneO; have c3 := G.aftG_cell (keep_cell k9 o3) hneO
          have HK9 := Lib.hid (keep_trans HK.out k9); have HR9 := Lib.hid (HR.out.keep k9)
          clear a0 a1 a2 a3 o0 o1 o2 o3 r0 r1 r2 r3 f0 f1 f2 f3 HK k9
          refine G.mt_take w9 (G.Gr.refl _) ?_
          simp only [pick_cons, pick_nil, nth_zero, nth_succ]
          repeat (go_big_quiet_step (fail))
          refine wpQuiet_nil (G.mt_force ?_)
          simp only [pick_cons, pick_nil, nth_zero, nth_succ]
          refine G.fc_step rfl (fun K hK => ?_)
          go_simp
          (with_reducible refine (Ln.out _).mono ?_)
          rintro e wa ⟨rfl, ka⟩
          refine hK _ _ (G.Gr.of_keep ka) ?_
          have HKa := Lib.hid (keep_trans HK9.out ka); have HRa := Lib.hid (HR9.out.keep ka)
          clear hK K b0 b1 b2 b3 c0 c1 c2 c3 ka
          refine G.fc_nil (G.mt_take wa (G.Gr.refl _) ?_)
          simp only [pick_cons, pick_nil, nth_zero, nth_succ]
          repeat (go_big_quiet_step (fail))
          refine wpQuiet_nil (G.mt_force ?_)
          simp only [pick_cons, pick_nil, nth_zero, nth_succ]
          refine G.fc_step rfl (fun K hK => ?_)
          have r0 := HRa.out.cell 0; have r1 := HRa.out.cell 1; have r2 := HRa.out.cell 2; have r3 := HRa.out.cell 3
          have f0 := HRa.out.frozen 0; have f1 := HRa.out.frozen 1; have f2 := HRa.out.frozen 2; have f3 := HRa.out.frozen 3
          simp only [List.getElem?_cons_zero, List.getElem?_cons_succ] at r0 r1 r2 r3
          go_simp
          refine hK _ _ (show G.Gr wa _ from grown_set (grown_set (grown_set (grown_set (grown_refl wa _))))) ?_
          clear hK K r0 r1 r2 r3 f0 f1 f2 f3
          refine G.fc_nil (G.mt_end ?_)
          clear hneA hneO
          clear iM
          have hb8 := (((HRa.out.set_ 0 (n64 (limb S 0))).set_ 1 (n64 (limb S 1))).set_ 2 (n64 (limb S 2))).set_ 3 (n64 (limb S 3))
          have HK8 : Hid (Keep w ((((wa.setCell ⟨w.heap.size + 1, 0, none⟩ (n64 (limb S 0))).setCell ⟨w.heap.size + 1, 1, none⟩ (n64 (limb S 1))).setCell ⟨w.heap.size + 1, 2, none⟩ (n64 (limb S 2))).setCell ⟨w.heap.size + 1, 3, none⟩ (n64 (limb S 3)))) := by
            refine Lib.hid ?_
            iterate 4 (refine Below.setCell ?_ (by simp) _)
            exact HKa.out
          have Hb8 := Lib.hid hb8
          clear hb8
          go_wp2
          exact bodyPost_ret (v := .tuple #[uV S, .bool (decide ((256 : Int) < (L : Int) + (n : Int)))]) (results_cell_tmp_row Tryz.results66 _ _ (w.heap.size + 1) _ _ _ _ rfl Hb8.out Tryz.underlying42 rfl (by kernel_rfl)) rfl ⟨by rw [show decide ((256 : Int) < (L : Int) + (n : Int)) = decide (256 < L + n) from decide_eq_decide.2 (by omega)], HK8.out⟩
end Go.Proofs.YtjbdboekleaklaaGreatDoor

/- u256: Shr. -/
set_option linter.unusedSimpArgs false
set_option linter.unusedVariables false
namespace Go.Proofs.YtjbdboekleaklaaGreatDoor
open Go.RowKit
attribute [local go_sem ↓] Go.wp_at_zero Go.wp_at_succ

theorem or_words2 (x y d e : Nat) (hx : x < 2 ^ 64) : bits .or .u64 ((x : Int) / 2 ^ d) ((y : Int) * 2 ^ e % 18446744073709551616) = ((x / 2 ^ d ||| y * 2 ^ e % 2 ^ 64 : Nat) : Int) := by
  have h1 : (y : Int) * 2 ^ e % 18446744073709551616 = ((y * 2 ^ e % 2 ^ 64 : Nat) : Int) := by rw [Int.natCast_emod, Int.natCast_mul]; rfl
  have h2 : (x : Int) / 2 ^ d = ((x / 2 ^ d : Nat) : Int) := by rw [Int.natCast_ediv]; rfl
  rw [h1, h2]
  exact bits_or_u64_nat _ _ (Nat.lt_of_le_of_lt (Nat.div_le_self _ _) hx) (Nat.mod_lt _ (by decide))
theorem lowL_all (S k : Nat) (h : ∀ j, k ≤ j → j < 4 → limb S j = 0) : lowL S k = uL S := by
  have e : ∀ j, j < 4 → (if j < k then limb S j else 0) = limb S j := fun j hj => by
    split
    · rfl
    · exact (h j (by omega) hj).symm
  unfold lowL uL
  rw [e 0 (by omega), e 1 (by omega), e 2 (by omega), e 3 (by omega)]

set_option maxRecDepth 100000 in
set_option maxHeartbeats 2000000 in
theorem shr_any (N n : Nat) (w : World) (hN : N < 2 ^ 256) (hn : n ≤ 100000) :
    Calls Tryz.prog 65 #[uV N, .int .i64 n] w fun e w' => e = .returned (uV (N / 2 ^ n)) ∧ Keep w w' := by
  by_cases h0 : n = 0
  · subst h0
    have e1 : N / 2 ^ 0 = N := by rw [Nat.pow_zero, Nat.div_one]
    rw [e1]
    clear e1 hN hn
    go_enter Tryz.func65, Tryz.ntmps65
    go_wp2
    have hb : Blk ((w.alloc (.cells #[n64 (limb N 0), n64 (limb N 1), n64 (limb N 2), n64 (limb N 3)] 42)).alloc (.cells #[n64 (limb N 0), n64 (limb N 1), n64 (limb N 2), n64 (limb N 3)] 42)) (w.heap.size + 1) 42 (uL N) := by
      have h2 := Blk.new (w.alloc (.cells #[n64 (limb N 0), n64 (limb N 1), n64 (limb N 2), n64 (limb N 3)] 42)) 42 (uL N)
      rw [World.size_alloc] at h2
      exact h2
    exact bodyPost_ret (v := uV N) (results_cell_row Tryz.results65 _ _ (w.heap.size + 1) _ _ _ _ rfl hb Tryz.underlying42 rfl (by kernel_rfl)) rfl ⟨rfl, keep_trans (keep_new _ _) (keep_new _ _)⟩
  · by_cases h1 : 256 ≤ n
    · have e1 : N / 2 ^ n = 0 := Nat.div_eq_of_lt (Nat.lt_of_lt_of_le hN (Nat.pow_le_pow_right (by decide) h1))
      rw [e1, uV_zero]
      have d1 : ¬ (n : Int) ≤ 0 := by omega
      have d2 : (256 : Int) ≤ (n : Int) := by omega
      clear e1 hN h0 h1 hn
      go_enter Tryz.func65, Tryz.ntmps65
      go_wp2
      have hb : Blk ((w.alloc (.cells #[n64 (limb N 0), n64 (limb N 1), n64 (limb N 2), n64 (limb N 3)] 42)).alloc (.cells #[.int .u64 0, .int .u64 0, .int .u64 0, .int .u64 0] 42)) (w.heap.size + 1) 42 [.int .u64 0, .int .u64 0, .int .u64 0, .int .u64 0] := by
        have h2 := Blk.new (w.alloc (.cells #[n64 (limb N 0), n64 (limb N 1), n64 (limb N 2), n64 (limb N 3)] 42)) 42 [.int .u64 0, .int .u64 0, .int .u64 0, .int .u64 0]
        rw [World.size_alloc] at h2
        exact h2
      exact bodyPost_ret (v := u0) (results_cell_row Tryz.results65 _ _ (w.heap.size + 1) _ _ _ _ rfl hb Tryz.underlying42 rfl (by kernel_rfl)) rfl ⟨rfl, keep_trans (keep_new _ _) (keep_new _ _)⟩
    · obtain ⟨S, hS⟩ : ∃ S, N / 2 ^ n = S := ⟨_, rfl⟩
      have HS : Hid (∀ i, limb S i = if i + n / 64 < 4 then (limb N (i + n / 64) / 2 ^ (n % 64)) ||| (if i + n / 64 < 3 then (limb N (i + n / 64 + 1) * 2 ^ (64 - n % 64)) % 2 ^ 64 else 0) else 0) := Lib.hid fun i => by rw [← hS]; exact shr_limb N n i hN
      rw [hS]
      obtain ⟨q, hq⟩ : ∃ q, n / 64 = q := ⟨_, rfl⟩
      obtain ⟨d, hd⟩ : ∃ d, n % 64 = d := ⟨_, rfl⟩
      have hq1 : Int.tdiv (n : Int) 64 = (q : Int) := by rw [Int.tdiv_eq_ediv_of_nonneg (by omega)]; omega
      have hd1 : Int.tmod (n : Int) 64 = (d : Int) := by rw [Int.tmod_eq_emod_of_nonneg (by omega)]; omega
      rw [hq, hd] at HS
      have hq4 : q < 4 := by omega
      have hd64 : d < 64 := by omega
      have d1 : ¬ (n : Int) ≤ 0 := by omega
      have d2 : ¬ (256 : Int) ≤ (n : Int) := by omega
      have hn1 : (n : Int) ≤ 256 := by omega
      clear hN hn h0 h1 hS hq hd
      go_enter Tryz.func65, Tryz.ntmps65
      go_upto_region 7 with fail
      obtain ⟨w1, hw1⟩ : ∃ w1, w1 = (((w.alloc (.cells #[n64 (limb N 0), n64 (limb N 1), n64 (limb N 2), n64 (limb N 3)] 42)).alloc (.cells #[.int .u64 0, .int .u64 0, .int .u64 0, .int .u64 0] 42)).alloc (.cells #[.int .u64 0, .int .u64 0, .int .u64 0, .int .u64 0] 42)) := ⟨_, rfl⟩
      have HA1 : Hid (Blk w1 w.heap.size 42 (uL N)) := by rw [hw1]; exact ((Blk.new w 42 (uL N)).alloc _).alloc _
      have HR1 : Hid (Blk w1 (w.heap.size + 1) 42 [.int .u64 0, .int .u64 0, .int .u64 0, .int .u64 0]) := by
        rw [hw1]
        have h2 := Blk.new (w.alloc (.cells #[n64 (limb N 0), n64 (limb N 1), n64 (limb N 2), n64 (limb N 3)] 42)) 42 [.int .u64 0, .int .u64 0, .int .u64 0, .int .u64 0]
        rw [World.size_alloc] at h2
        exact h2.alloc _
      have HO1 : Hid (Blk w1 (w.heap.size + 1 + 1) 42 (lowL S 0)) := by
        rw [hw1, lowL_zero S 0 (fun j hj => by omega)]
        have h2 := Blk.new ((w.alloc (.cells #[n64 (limb N 0), n64 (limb N 1), n64 (limb N 2), n64 (limb N 3)] 42)).alloc (.cells #[.int .u64 0, .int .u64 0, .int .u64 0, .int .u64 0] 42)) 42 [.int .u64 0, .int .u64 0, .int .u64 0, .int .u64 0]
        rw [World.size_alloc, World.size_alloc] at h2
        exact h2
      have HK1 : Hid (Keep w w1) := by rw [hw1]; exact keep_trans (keep_trans (keep_new _ _) (keep_new _ _)) (keep_new _ _)
      rw [← hw1]
      clear hw1
      go_wp2_with fail
      go_loopw [8] (fun i wr => ∃ j : Nat, j + q ≤ 4 ∧ i = .int .i64 (j : Int) ∧ Hid (Blk wr (w.heap.size + 1 + 1) 42 (lowL S j)) ∧ Hid (Blk wr w.heap.size 42 (uL N)) ∧ Hid (Blk wr (w.heap.size + 1) 42 [.int .u64 0, .int .u64 0, .int .u64 0, .int .u64 0]) ∧ Hid (Keep w wr)) (fun i _ => (4 - intOf i).toNat)
      case atStart => exact ⟨0, by omega, rfl, HO1, HA1, HR1, HK1⟩
      case round =>
        obtain ⟨j, hj, rfl, HO, HA, HR, HK⟩ := hrel
        by_cases hlt : j + q < 4
        · have a0 : wr.cell? ⟨w.heap.size, j + q, none⟩ = some (n64 (limb N (j + q))) := by rw [HA.out.cell, uL_get N (j + q) hlt]
          have o0 : wr.cell? ⟨w.heap.size + 1 + 1, j, none⟩ = some (n64 0) := by rw [HO.out.cell, lowL_get S j (by omega)]
          have of : wr.frozen? ⟨w.heap.size + 1 + 1, j, none⟩ = false := HO.out.frozen _
          have i1 : (j : Int) + (q : Int) < 4 := by omega
          have hs := HS.out j
          rw [if_pos hlt] at hs
          have Hs := Lib.hid hs
          clear hs
          go_upto_region 11 with fail
          have hv : (limb N (j + q) : Int) / 2 ^ d = ((limb N (j + q) / 2 ^ d : Nat) : Int) := by rw [Int.natCast_ediv]; rfl
          obtain ⟨w2, hw2⟩ : ∃ w2, w2 = wr.setCell ⟨w.heap.size + 1 + 1, j, none⟩ (.int .u64 ((limb N (j + q) : Int) / 2 ^ d)) := ⟨_, rfl⟩
          have HO2 : Hid (Blk w2 (w.heap.size + 1 + 1) 42 ((lowL S j).set j (n64 (limb N (j + q) / 2 ^ d)))) := by rw [hw2, hv]; exact HO.out.set_ _ _
          have HA2 : Hid (Blk w2 w.heap.size 42 (uL N)) := by rw [hw2]; exact HA.out.far (by simp; omega) _
          have HR2 : Hid (Blk w2 (w.heap.size + 1) 42 [.int .u64 0, .int .u64 0, .int .u64 0, .int .u64 0]) := by rw [hw2]; exact HR.out.far (by simp) _
          have HK2 : Hid (Keep w w2) := by rw [hw2]; exact Below.setCell HK.out (by simp; omega) _
          rw [← hw2]
          clear hw2 a0 o0 of HO HA HR HK hv
          by_cases h3 : j + q < 3
          · have i2 : decide ((j : Int) + (q : Int) < 3) = true := decide_eq_true (by omega)
            have i3 : (j : Int) + (q : Int) + 1 < 4 := by omega
            go_upto_region 12 with fail
            refine wp_region_tree (.take [0,1,2,3,4,5,6,7,8,9,10,11,12,13] .done) [14] (by kernel_rfl) (by kernel_rfl) (fun w9 k9 => ?_)
            have HO9 := Lib.hid (HO2.out.keep k9); have HA9 := Lib.hid (HA2.out.keep k9); have HR9 := Lib.hid (HR2.out.keep k9); have HK9 := Lib.hid (keep_trans HK2.out k9)
            clear k9
            have a0 := aft_cell (show w9.cell? ⟨w.heap.size, j + q + 1, none⟩ = some (n64 (limb N (j + q + 1))) by rw [HA9.out.cell, uL_get N (j + q + 1) (by omega)])
            have p0 : w9.cell? ⟨w.heap.size + 1 + 1, j, none⟩ = some (n64 (limb N (j + q) / 2 ^ d)) := by rw [HO9.out.cell, List.getElem?_set_self (by unfold lowL; simp; omega)]
            have o0 := aft_cell p0
            have of9 : w9.frozen? ⟨w.heap.size + 1 + 1, j, none⟩ = false := HO9.out.frozen _
            refine mt_take w9 (Below.refl _ _) ?_
            simp only [pick_cons, pick_nil, nth_zero, nth_succ]
            repeat (go_big_quiet_step (fail))
            refine wpQuiet_nil ?_
            refine mt_end ?_
            clear a0 o0
            have hl := Hs.out
            rw [if_pos h3] at hl
            have Hl := Lib.hid hl
            clear hl Hs
            go_wp2
            go_roundw
            case rel =>
              refine ⟨j + 1, by omega, by go_num, Lib.hid ?_, Lib.hid (HA9.out.far (by simp; omega) _), Lib.hid (HR9.out.far (by simp) _), Lib.hid (Below.setCell HK9.out (by simp; omega) _)⟩
              have h1 := HO9.out.set_ j (n64 (limb S j))
              rw [List.set_set, lowL_set S _ (by omega), Hl.out] at h1
              have h2 := or_words2 (limb N (j + q)) (limb N (j + q + 1)) d (64 - d) (limb_lt _ _)
              rw [IntKind.wrap_u64, h2]
              exact h1
            case measure => simp [intOf]; omega
          · have i2 : decide ((j : Int) + (q : Int) < 3) = false := decide_eq_false (by omega)
            have hl := Hs.out
            rw [if_neg h3, Nat.or_zero] at hl
            have HO3 : Hid (Blk w2 (w.heap.size + 1 + 1) 42 (lowL S (j + 1))) := by
              have h1 := HO2.out
              rw [← hl, lowL_set S j (by omega)] at h1; exact h1
            clear hl Hs
            go_wp2
            go_roundw
            case rel => exact ⟨j + 1, by omega, by go_num, HO3, HA2, HR2, HK2⟩
            case measure => simp [intOf]; omega
        · have hO := HO.out; have hR := HR.out
          rw [lowL_all S j (fun i h1 h2 => by rw [HS.out i, if_neg (by omega)])] at hO
          have o0 := hO.cell 0; have o1 := hO.cell 1; have o2 := hO.cell 2; have o3 := hO.cell 3
          have r0 := hR.cell 0; have r1 := hR.cell 1; have r2 := hR.cell 2; have r3 := hR.cell 3
          have f0 := hR.frozen 0; have f1 := hR.frozen 1; have f2 := hR.frozen 2; have f3 := hR.frozen 3
          simp only [uL, List.getElem?_cons_zero, List.getElem?_cons_succ] at o0 o1 o2 o3 r0 r1 r2 r3
          have i1 : ¬ (j : Int) + (q : Int) < 4 := by omega
          have hb8 := (((HR.out.set_ 0 (n64 (limb S 0))).set_ 1 (n64 (limb S 1))).set_ 2 (n64 (limb S 2))).set_ 3 (n64 (limb S 3))
          have HK8 : Hid (Keep w ((((wr.setCell ⟨w.heap.size + 1, 0, none⟩ (n64 (limb S 0))).setCell ⟨w.heap.size + 1, 1, none⟩ (n64 (limb S 1))).setCell ⟨w.heap.size + 1, 2, none⟩ (n64 (limb S 2))).setCell ⟨w.heap.size + 1, 3, none⟩ (n64 (limb S 3)))) := by
            refine Lib.hid ?_
            iterate 4 (refine Below.setCell ?_ (by simp) _)
            exact HK.out
          have Hb8 := Lib.hid hb8
          clear hb8 hO hR HO HA HS HO1 HA1 HR1 HK1 HR
          go_wp2
          exact bodyPost_ret (v := uV S) (results_cell_row Tryz.results65 _ _ (w.heap.size + 1) _ _ _ _ rfl Hb8.out Tryz.underlying42 rfl (by kernel_rfl)) rfl ⟨rfl, HK8.out⟩
end Go.Proofs.YtjbdboekleaklaaGreatDoor

/- hash.Number. -/
set_option linter.unusedSimpArgs false
set_option linter.unusedVariables false
namespace Go.Proofs.YtjbdboekleaklaaGreatDoor
open Go.RowKit
attribute [local go_sem ↓] Go.wp_at_zero Go.wp_at_succ

theorem idx_hash {l : List UInt8} {cs : Array Value} (h : HashA l cs) (hl : l.length = 32) (k : Nat) (hk : k < 32) (w : World) :
    (Instr.index 36 (.agg cs) (.int .i64 k)).run Tryz.prog w = .ok (u8v (l.getD k 0)) w := by
  have hc : cs[k]? = some (u8v (l.getD k 0)) := by
    rw [← Array.getElem?_toList, h.l, List.getElem?_map, List.getElem?_eq_getElem (show k < l.length by omega), List.getD_eq_getElem?_getD, List.getElem?_eq_getElem (show k < l.length by omega)]
    rfl
  have hp : (part 5 cs (k * 1)).run Tryz.prog w = .ok (u8v (l.getD k 0)) w := by
    simp [part, isAgg, run_underlying Tryz.underlying5, hc]
  have hi : (asIntOf (.int .i64 (k : Int))).run Tryz.prog w = .ok (.i64, (k : Int)) w := rfl
  unfold Instr.index
  simp only [Sem.run_bind, hi, Result.andThen_ok, run_underlying hash_under]
  rw [if_pos ⟨by omega, by omega⟩]
  simp only [Sem.run_bind, u8_size, Result.andThen_ok, Int.toNat_natCast, hp]

theorem uL_byte (T x k : Nat) (hT : T < 2 ^ (8 * k)) (hx : x < 256) (hk : k < 32) : (uL T).set (k / 8) (n64 (limb T (k / 8) ||| (x * 2 ^ (8 * (k % 8))))) = uL (T + 2 ^ (8 * k) * x) := by
  unfold uL
  rw [byte_limb T x k 0 hT hx, byte_limb T x k 1 hT hx, byte_limb T x k 2 hT hx, byte_limb T x k 3 hT hx]
  rcases (show k / 8 = 0 ∨ k / 8 = 1 ∨ k / 8 = 2 ∨ k / 8 = 3 by omega) with e | e | e | e <;> rw [e] <;> rfl
theorem or_byte (x y e : Nat) (hx : x < 2 ^ 64) (hy : y < 256) (he : e ≤ 56) : bits .or .u64 (x : Int) (IntKind.u64.wrap ((y : Int) * 2 ^ e)) = ((x ||| y * 2 ^ e : Nat) : Int) := by
  have h0 : y * 2 ^ e < 2 ^ 64 := by
    have h1 : 2 ^ e ≤ 2 ^ 56 := Nat.pow_le_pow_right (by decide) he
    have h2 : y * 2 ^ e ≤ 255 * 2 ^ 56 := Nat.mul_le_mul (by omega) h1
    have h3 : 255 * 2 ^ 56 < 2 ^ 64 := by decide
    omega
  have h1 : IntKind.u64.wrap ((y : Int) * 2 ^ e) = ((y * 2 ^ e : Nat) : Int) := by
    rw [IntKind.wrap_u64, show (y : Int) * 2 ^ e = ((y * 2 ^ e : Nat) : Int) by rw [Int.natCast_mul]; rfl]
    have : 2 ^ 64 = 18446744073709551616 := by decide
    omega
  rw [h1]
  exact bits_or_u64_nat _ _ hx h0

set_option maxRecDepth 100000 in
set_option maxHeartbeats 2000000 in
theorem hnum_any (l : List UInt8) (cs : Array Value) (w : World) (hl : l.length = 32) (h : HashA l cs) :
    Calls Tryz.prog 50 #[.agg cs] w fun e w' => e = .returned (uV (leN l)) ∧ Keep w w' := by
  have hz := h.z; have hn := h.n; have hi := h.i
  have hI : Hid (∀ k : Nat, k < 32 → ∀ w, (Instr.index 36 (.agg cs) (.int .i64 k)).run Tryz.prog w = .ok (u8v (l.getD k 0)) w) := Lib.hid fun k hk w => idx_hash h hl k hk w
  have HT : Hid (∀ k : Nat, k < 32 → leN (l.take k) < 2 ^ (8 * k) ∧ leN (l.take (k + 1)) = leN (l.take k) + 2 ^ (8 * k) * (l.getD k 0).toNat) := Lib.hid fun k hk => by
    have hlt : (l.take k).length = k := by rw [List.length_take]; omega
    refine ⟨by have := leN_lt (l.take k); rw [hlt] at this; exact this, ?_⟩
    rw [List.take_succ_eq_append_getElem (by omega), leN_snoc, hlt, List.getD_eq_getElem?_getD, List.getElem?_eq_getElem (show k < l.length by omega)]
    rfl
  have HE : Hid (leN (l.take 32) = leN l) := Lib.hid (by rw [List.take_of_length_le (by omega)])
  have H := Lib.hid h
  clear h hl
  generalize leN l = M at *
  go_enter Tryz.func50, Tryz.ntmps50
  go_upto_region 2 with fail
  obtain ⟨w1, hw1⟩ : ∃ w1, w1 = (((w.alloc (.cells cs 36)).alloc (.cells #[.int .u64 0, .int .u64 0, .int .u64 0, .int .u64 0] 42)).alloc (.cells #[.int .u64 0, .int .u64 0, .int .u64 0, .int .u64 0] 42)) := ⟨_, rfl⟩
  have HA1 : Hid (Blk w1 w.heap.size 36 cs.toList) := by rw [hw1]; exact ((Blk.new w 36 cs.toList).alloc _).alloc _
  have HR1 : Hid (Blk w1 (w.heap.size + 1) 42 [.int .u64 0, .int .u64 0, .int .u64 0, .int .u64 0]) := by
    rw [hw1]
    have h2 := Blk.new (w.alloc (.cells cs 36)) 42 [.int .u64 0, .int .u64 0, .int .u64 0, .int .u64 0]
    rw [World.size_alloc] at h2
    exact h2.alloc _
  have HO1 : Hid (Blk w1 (w.heap.size + 1 + 1) 42 (uL (leN (l.take 0)))) := by
    have e : uL (leN (l.take 0)) = [.int .u64 0, .int .u64 0, .int .u64 0, .int .u64 0] := by rw [List.take_zero]; simp [uL, n64, leN, limb0]
    rw [hw1, e]
    have h2 := Blk.new ((w.alloc (.cells cs 36)).alloc (.cells #[.int .u64 0, .int .u64 0, .int .u64 0, .int .u64 0] 42)) 42 [.int .u64 0, .int .u64 0, .int .u64 0, .int .u64 0]
    rw [World.size_alloc, World.size_alloc] at h2
    exact h2
  have HK1 : Hid (Keep w w1) := by rw [hw1]; exact keep_trans (keep_trans (keep_new _ _) (keep_new _ _)) (keep_new _ _)
  rw [← hw1]
  clear hw1
  go_wp2_with ((with_reducible refine load_arr w.heap.size cs (Eq.trans ?_ rfl) HA1.out (.array 32 5) hash_under (arr_row _ _) hi ?_); rfl)
  go_loopw [4, 5, 7] (fun _ _ i wr => ∃ k : Nat, k ≤ 32 ∧ i = .int .i64 (k : Int) ∧ Hid (Blk wr (w.heap.size + 1 + 1) 42 (uL (leN (l.take k)))) ∧ Hid (Blk wr (w.heap.size + 1) 42 [.int .u64 0, .int .u64 0, .int .u64 0, .int .u64 0]) ∧ Hid (Keep w wr)) (fun _ _ i _ => (32 - intOf i).toNat)
  case atStart => exact ⟨0, by omega, rfl, HO1, HR1, HK1⟩
  case round =>
    obtain ⟨k, hk, rfl, HO, HR, HK⟩ := hrel
    by_cases hlt : k < 32
    · have i1 : (k : Int) < 32 := by omega
      have ix := hI.out k hlt
      obtain ⟨hT, hS⟩ := HT.out k hlt
      have hx := (l.getD k 0).toNat_lt
      have hset := uL_byte (leN (l.take k)) (l.getD k 0).toNat k hT hx hlt
      rw [← hS] at hset
      have Hset := Lib.hid hset
      have q1 : Int.tdiv (k : Int) 8 = ((k / 8 : Nat) : Int) := by rw [Int.tdiv_eq_ediv_of_nonneg (by omega)]; omega
      have q2 : Int.tmod (k : Int) 8 = ((k % 8 : Nat) : Int) := by rw [Int.tmod_eq_emod_of_nonneg (by omega)]; omega
      generalize l.getD k 0 = x at *
      generalize hT2 : leN (l.take (k + 1)) = T2 at *
      have HT2 := Lib.hid hT2
      clear hT2
      generalize leN (l.take k) = T at *
      have hd8 : k / 8 < 4 := by omega
      have hr8 : k % 8 < 8 := by omega
      generalize hqe : k / 8 = q at *
      generalize hre : k % 8 = r at *
      clear hset hT hS hqe hre
      go_upto_region 5 with fail
      refine wp_region_tree (.take [0,1,2,3,4,5,6,7,8,9,10,11] .done) [12] (by kernel_rfl) (by kernel_rfl) (fun w9 k9 => ?_)
      have HO9 := Lib.hid (HO.out.keep k9); have HR9 := Lib.hid (HR.out.keep k9); have HK9 := Lib.hid (keep_trans HK.out k9)
      clear k9
      have p0 : w9.cell? ⟨w.heap.size + 1 + 1, q, none⟩ = some (n64 (limb T q)) := by rw [HO9.out.cell, uL_get T q hd8]
      have o0 := aft_cell p0
      have of9 : w9.frozen? ⟨w.heap.size + 1 + 1, q, none⟩ = false := HO9.out.frozen _
      refine mt_take w9 (Below.refl _ _) ?_
      simp only [pick_cons, pick_nil, nth_zero, nth_succ]
      repeat (go_big_quiet_step (fail))
      refine wpQuiet_nil ?_
      refine mt_end ?_
      clear o0
      go_wp2
      go_roundw
      case rel =>
        rw [or_byte _ _ _ (limb_lt T q) hx (by omega)]
        refine ⟨k + 1, by omega, by go_num, Lib.hid ?_, Lib.hid (HR9.out.far (by simp) _), Lib.hid (Below.setCell HK9.out (by simp; omega) _)⟩
        have h1 := HO9.out.set_ q (n64 (limb T q ||| (x.toNat * 2 ^ (8 * r))))
        rw [Hset.out, ← HT2.out] at h1
        exact h1
      case measure => simp [intOf]; omega
    · obtain rfl : k = 32 := by omega
      have hO := HO.out
      rw [HE.out] at hO
      have hR := HR.out
      have o0 := hO.cell 0; have o1 := hO.cell 1; have o2 := hO.cell 2; have o3 := hO.cell 3
      have r0 := hR.cell 0; have r1 := hR.cell 1; have r2 := hR.cell 2; have r3 := hR.cell 3
      have f0 := hR.frozen 0; have f1 := hR.frozen 1; have f2 := hR.frozen 2; have f3 := hR.frozen 3
      simp only [uL, List.getElem?_cons_zero, List.getElem?_cons_succ] at o0 o1 o2 o3 r0 r1 r2 r3
      have hb8 := (((HR.out.set_ 0 (n64 (limb M 0))).set_ 1 (n64 (limb M 1))).set_ 2 (n64 (limb M 2))).set_ 3 (n64 (limb M 3))
      have HK8 : Hid (Keep w ((((wr.setCell ⟨w.heap.size + 1, 0, none⟩ (n64 (limb M 0))).setCell ⟨w.heap.size + 1, 1, none⟩ (n64 (limb M 1))).setCell ⟨w.heap.size + 1, 2, none⟩ (n64 (limb M 2))).setCell ⟨w.heap.size + 1, 3, none⟩ (n64 (limb M 3)))) := by
        refine Lib.hid ?_
        iterate 4 (refine Below.setCell ?_ (by simp) _)
        exact HK.out
      have Hb8 := Lib.hid hb8
      clear hb8 hO hR HO HR HT HE hI HO1 HA1 HR1 HK1
      go_wp2
      exact bodyPost_ret (v := uV M) (results_cell_row Tryz.results50 _ _ (w.heap.size + 1) _ _ _ _ rfl Hb8.out Tryz.underlying42 rfl (by kernel_rfl)) rfl ⟨rfl, HK8.out⟩
end Go.Proofs.YtjbdboekleaklaaGreatDoor
