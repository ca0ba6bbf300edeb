/- A product of five words, and its division: plainly. -/
import Derived.Test.YteoilddiilegmaaDoorUP
set_option linter.unusedSimpArgs false
set_option linter.unusedVariables false
namespace Go.Proofs.YteoilddiilegmaaDoor
/-! A product, word by word. -/
theorem mod_step (T i : Nat) : T % 2 ^ (64 * (i + 1)) = T % 2 ^ (64 * i) + 2 ^ (64 * i) * limb T i := by
  rw [show 64 * (i + 1) = 64 * i + 64 by omega, Nat.pow_add, Nat.mod_mul]; rfl
theorem limb_add_mul {S X i j : Nat} (hj : j < i) : limb (S + 2 ^ (64 * i) * X) j = limb S j := by
  unfold limb
  have e : 2 ^ (64 * i) * X = 2 ^ (64 * j) * (2 ^ 64 * (2 ^ (64 * (i - j - 1)) * X)) := by
    rw [← Nat.mul_assoc, ← Nat.mul_assoc, ← Nat.pow_add, ← Nat.pow_add]
    congr 2; omega
  rw [e, Nat.add_mul_div_left _ _ (Nat.two_pow_pos _), Nat.add_mul_mod_self_left]
theorem split_at {S i : Nat} (hS : S < 2 ^ (64 * (i + 1))) : S = S % 2 ^ (64 * i) + 2 ^ (64 * i) * limb S i := by
  have h := mod_step S i
  rw [Nat.mod_eq_of_lt hS] at h
  exact h
theorem limb_high {r Z i k : Nat} (hr : r < 2 ^ (64 * i)) : limb (r + 2 ^ (64 * i) * Z) (i + k) = limb Z k := by
  unfold limb
  rw [show 64 * (i + k) = 64 * i + 64 * k by omega, Nat.pow_add, ← Nat.div_div_eq_div_mul, Nat.add_mul_div_left _ _ (Nat.two_pow_pos _), Nat.div_eq_of_lt hr, Nat.zero_add]
theorem prod_step {S X i : Nat} (hS : S < 2 ^ (64 * (i + 1))) (hX : limb S i + X < 2 ^ 128) :
    (∀ j, j < i → limb (S + 2 ^ (64 * i) * X) j = limb S j) ∧ limb (S + 2 ^ (64 * i) * X) i = (limb S i + X) % 2 ^ 64 ∧ limb (S + 2 ^ (64 * i) * X) (i + 1) = (limb S i + X) / 2 ^ 64 ∧ S + 2 ^ (64 * i) * X < 2 ^ (64 * (i + 1 + 1)) := by
  have hs := split_at hS
  have hr : S % 2 ^ (64 * i) < 2 ^ (64 * i) := Nat.mod_lt _ (Nat.two_pow_pos _)
  have e : S + 2 ^ (64 * i) * X = S % 2 ^ (64 * i) + 2 ^ (64 * i) * (limb S i + X) := by
    rw [Nat.mul_add, ← Nat.add_assoc, ← hs]
  refine ⟨fun j hj => limb_add_mul hj, ?_, ?_, ?_⟩
  · have h := limb_high (Z := limb S i + X) (k := 0) hr
    rw [← e] at h
    rw [Nat.add_zero] at h
    rw [h]; simp [limb]
  · have h := limb_high (Z := limb S i + X) (k := 1) hr
    rw [← e] at h
    rw [h]
    show (limb S i + X) / 2 ^ (64 * 1) % 2 ^ 64 = _
    rw [Nat.mul_one, Nat.mod_eq_of_lt]
    rw [Nat.div_lt_iff_lt_mul (Nat.two_pow_pos _), ← Nat.pow_add]; exact hX
  · rw [e]
    have h1 : 2 ^ (64 * i) * (limb S i + X + 1) ≤ 2 ^ (64 * i) * 2 ^ 128 := Nat.mul_le_mul_left _ hX
    rw [Nat.mul_add, Nat.mul_one, ← Nat.pow_add] at h1
    rw [show 64 * (i + 1 + 1) = 64 * i + 128 by omega]
    omega
/-- The words of a product by its digits. -/
theorem low_high {a t num : Nat} (ha : a < 2 ^ 64) (ht : t < 2 ^ 64) (hn : num < 2 ^ 64) :
    a + t * num < 2 ^ 128 ∧ (a + t * num) % 2 ^ 64 = (a + t * num % 2 ^ 64) % 2 ^ 64 ∧ (a + t * num) / 2 ^ 64 = t * num / 2 ^ 64 + (a + t * num % 2 ^ 64) / 2 ^ 64 ∧ t * num / 2 ^ 64 + (a + t * num % 2 ^ 64) / 2 ^ 64 < 2 ^ 64 := by
  have h1 : t * num ≤ (2 ^ 64 - 1) * (2 ^ 64 - 1) := Nat.mul_le_mul (by omega) (by omega)
  generalize t * num = p at *
  simp only [Nat.reducePow, Nat.reduceSub, Nat.reduceMul] at *
  omega
theorem quo_limb {P den i : Nat} (hd : 0 < den) : limb (P / den) i = (P / 2 ^ (64 * (i + 1)) % den * 2 ^ 64 + limb P i) / den := by
  obtain ⟨h1, _, h3⟩ := div_step (P := P) (i := i) hd
  unfold limb
  rw [Nat.div_div_eq_div_mul, Nat.mul_comm den, ← Nat.div_div_eq_div_mul, h1]
  show (_ * 2 ^ 64 + _) % 2 ^ 64 = _
  rw [Nat.mul_comm, Nat.mul_add_mod, Nat.mod_eq_of_lt h3]
  rfl
theorem top_word {P : Nat} (h : P < 2 ^ 64 * 2 ^ 256) : P / 2 ^ 256 = limb P 4 := by
  unfold limb
  rw [Nat.mod_eq_of_lt]
  rw [Nat.div_lt_iff_lt_mul (Nat.two_pow_pos _)]; exact h
theorem fits_iff {P den : Nat} (h : P < 2 ^ 64 * 2 ^ 256) (hd : 0 < den) : limb P 4 / den = 0 ↔ P / den < 2 ^ 256 := by
  rw [← top_word h, Nat.div_div_eq_div_mul, Nat.mul_comm, ← Nat.div_div_eq_div_mul]
  constructor
  · intro e
    have := Nat.div_eq_zero_iff.1 e
    rcases this with h | h
    · exact absurd h (by decide)
    · exact h
  · intro e; exact Nat.div_eq_of_lt e
end Go.Proofs.YteoilddiilegmaaDoor
