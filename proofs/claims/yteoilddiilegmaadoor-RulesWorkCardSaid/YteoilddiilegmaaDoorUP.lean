/- Numbers below 2^256 in four words, targets: plainly. -/
set_option linter.unusedSimpArgs false
set_option linter.unusedVariables false
namespace Go.Proofs.YteoilddiilegmaaDoor
/-! Numbers below 2^256 in four words, plainly. -/
theorem pow64 : (2:Nat) ^ 64 = 18446744073709551616 := by decide
/-- A word of a number. -/
def limb (N i : Nat) : Nat := N / 2 ^ (64 * i) % 2 ^ 64
theorem limb_lt (N i : Nat) : limb N i < 2 ^ 64 := Nat.mod_lt _ (by decide)
theorem limb_bit (N i j : Nat) : (limb N i).testBit j = (decide (j < 64) && N.testBit (64 * i + j)) := by
  unfold limb
  rw [Nat.testBit_mod_two_pow, Nat.testBit_div_two_pow, Nat.add_comm]
theorem bit_hi {N j p : Nat} (h : N < 2 ^ p) (hj : p ≤ j) : N.testBit j = false :=
  Nat.testBit_lt_two_pow (Nat.lt_of_lt_of_le h (Nat.pow_le_pow_right (by decide) hj))
theorem limb_ext {N M : Nat} (hN : N < 2 ^ 256) (hM : M < 2 ^ 256) (h : ∀ i, i < 4 → limb N i = limb M i) : N = M := by
  apply Nat.eq_of_testBit_eq
  intro j
  by_cases hj : j < 256
  · have h1 := congrArg (fun x => x.testBit (j % 64)) (h (j / 64) (by omega))
    simp only [limb_bit] at h1
    have e : 64 * (j / 64) + j % 64 = j := by omega
    have e2 : j % 64 < 64 := Nat.mod_lt _ (by decide)
    simpa [e, e2] using h1
  · rw [bit_hi hN (by omega), bit_hi hM (by omega)]
theorem limb0 (i : Nat) : limb 0 i = 0 := by simp [limb]
theorem limb_small {N : Nat} (h : N < 2 ^ 64) (i : Nat) : limb N i = if i = 0 then N else 0 := by
  by_cases hi : i = 0
  · subst hi; rw [if_pos rfl]; unfold limb; rw [Nat.mul_zero, Nat.pow_zero, Nat.div_one, Nat.mod_eq_of_lt h]
  · rw [if_neg hi]; unfold limb
    rw [Nat.div_eq_of_lt (Nat.lt_of_lt_of_le h (Nat.pow_le_pow_right (by decide) (by omega))), Nat.zero_mod]
/-- By its words. -/
theorem by_words {N : Nat} (h : N < 2 ^ 256) : N = limb N 0 + 2 ^ 64 * limb N 1 + 2 ^ 128 * limb N 2 + 2 ^ 192 * limb N 3 := by
  unfold limb
  simp only [Nat.mul_zero, Nat.mul_one, Nat.reduceMul, Nat.reducePow, Nat.div_one] at *
  omega

/-! Comparing. -/
def cmpN (a b : Nat) : Int := if a < b then -1 else if b < a then 1 else 0
theorem cmp_at {a b k : Nat} (ha : a < 2 ^ 256) (hb : b < 2 ^ 256) (hk : k < 4) (he : ∀ j, k < j → j < 4 → limb a j = limb b j) (hl : limb a k < limb b k) : a < b := by
  have h1 := by_words ha; have h2 := by_words hb
  have a0 := limb_lt a 0; have a1 := limb_lt a 1; have a2 := limb_lt a 2; have a3 := limb_lt a 3
  have b0 := limb_lt b 0; have b1 := limb_lt b 1; have b2 := limb_lt b 2; have b3 := limb_lt b 3
  have e3 : k < 3 → limb a 3 = limb b 3 := fun h => he 3 h (by decide)
  have e2 : k < 2 → limb a 2 = limb b 2 := fun h => he 2 h (by decide)
  have e1 : k < 1 → limb a 1 = limb b 1 := fun h => he 1 h (by decide)
  rcases (show k = 0 ∨ k = 1 ∨ k = 2 ∨ k = 3 by omega) with rfl | rfl | rfl | rfl <;> simp only [Nat.reducePow] at * <;> omega

/-! Moving up and down. -/
theorem shl_limb (N n i : Nat) (hi : i < 4) : limb (N * 2 ^ n % 2 ^ 256) i =
    if i < n / 64 then 0 else ((limb N (i - n / 64) * 2 ^ (n % 64)) % 2 ^ 64) ||| (if n / 64 < i then limb N (i - n / 64 - 1) / 2 ^ (64 - n % 64) else 0) := by
  apply Nat.eq_of_testBit_eq
  intro j
  rw [limb_bit, Nat.testBit_mod_two_pow, Nat.mul_comm N, Nat.testBit_two_pow_mul]
  by_cases hj : j < 64
  · have e1 : decide (j < 64) = true := by simpa using hj
    have e2 : decide (64 * i + j < 256) = true := by simp; omega
    rw [e1, e2, Bool.true_and, Bool.true_and]
    by_cases h1 : i < n / 64
    · rw [if_pos h1, Nat.zero_testBit]
      have : decide (64 * i + j ≥ n) = false := by simp; omega
      rw [this, Bool.false_and]
    · rw [if_neg h1, Nat.testBit_or, Nat.testBit_mod_two_pow, e1, Bool.true_and, Nat.mul_comm (limb N _), Nat.testBit_two_pow_mul, limb_bit]
      by_cases h2 : n % 64 ≤ j
      · have e3 : decide (j ≥ n % 64) = true := by simpa using h2
        have e4 : decide (j - n % 64 < 64) = true := by simp; omega
        have e5 : decide (64 * i + j ≥ n) = true := by simp; omega
        have e6 : 64 * (i - n / 64) + (j - n % 64) = 64 * i + j - n := by omega
        rw [e3, e4, e5, e6]
        simp only [Bool.true_and]
        have e7 : (if n / 64 < i then limb N (i - n / 64 - 1) / 2 ^ (64 - n % 64) else 0).testBit j = false := by
          split
          · rw [Nat.testBit_div_two_pow, limb_bit]
            have : decide (j + (64 - n % 64) < 64) = false := by simp; omega
            rw [this, Bool.false_and]
          · exact Nat.zero_testBit j
        rw [e7, Bool.or_false]
      · have e3 : decide (j ≥ n % 64) = false := by simp; omega
        rw [e3, Bool.false_and, Bool.false_or]
        by_cases h3 : n / 64 < i
        · rw [if_pos h3, Nat.testBit_div_two_pow, limb_bit]
          have e4 : decide (j + (64 - n % 64) < 64) = true := by simp; omega
          have e5 : decide (64 * i + j ≥ n) = true := by simp; omega
          have e6 : 64 * (i - n / 64 - 1) + (j + (64 - n % 64)) = 64 * i + j - n := by omega
          rw [e4, e5, e6]
        · rw [if_neg h3, Nat.zero_testBit]
          have e5 : decide (64 * i + j ≥ n) = false := by simp; omega
          rw [e5, Bool.false_and]
  · have e1 : decide (j < 64) = false := by simpa using hj
    rw [e1, Bool.false_and]
    symm
    split
    · exact Nat.zero_testBit j
    · rw [Nat.testBit_or, Nat.testBit_mod_two_pow, e1, Bool.false_and, Bool.false_or]
      split
      · rw [Nat.testBit_div_two_pow, limb_bit]
        have : decide (j + (64 - n % 64) < 64) = false := by simp; omega
        rw [this, Bool.false_and]
      · exact Nat.zero_testBit j
theorem shr_limb (N n i : Nat) (hN : N < 2 ^ 256) : limb (N / 2 ^ n) i =
    if i + n / 64 < 4 then (limb N (i + n / 64) / 2 ^ (n % 64)) ||| (if i + n / 64 < 3 then (limb N (i + n / 64 + 1) * 2 ^ (64 - n % 64)) % 2 ^ 64 else 0) else 0 := by
  apply Nat.eq_of_testBit_eq
  intro j
  rw [limb_bit, Nat.testBit_div_two_pow]
  by_cases h4 : i + n / 64 < 4
  · rw [if_pos h4, Nat.testBit_or, Nat.testBit_div_two_pow, limb_bit]
    by_cases hj : j < 64
    · have e1 : decide (j < 64) = true := by simpa using hj
      rw [e1, Bool.true_and]
      by_cases h1 : j + n % 64 < 64
      · have e2 : decide (j + n % 64 < 64) = true := by simpa using h1
        have e3 : 64 * (i + n / 64) + (j + n % 64) = 64 * i + j + n := by omega
        rw [e2, e3, Bool.true_and]
        have e7 : (if i + n / 64 < 3 then (limb N (i + n / 64 + 1) * 2 ^ (64 - n % 64)) % 2 ^ 64 else 0).testBit j = false := by
          split
          · rw [Nat.testBit_mod_two_pow, Nat.mul_comm (limb N _), Nat.testBit_two_pow_mul]
            have : decide (j ≥ 64 - n % 64) = false := by simp; omega
            rw [this, Bool.false_and, Bool.and_false]
          · exact Nat.zero_testBit j
        rw [e7, Bool.or_false]
      · have e2 : decide (j + n % 64 < 64) = false := by simpa using h1
        rw [e2, Bool.false_and, Bool.false_or]
        by_cases h3 : i + n / 64 < 3
        · rw [if_pos h3, Nat.testBit_mod_two_pow, Nat.mul_comm (limb N _), Nat.testBit_two_pow_mul, limb_bit, e1]
          have e4 : decide (j ≥ 64 - n % 64) = true := by simp; omega
          have e5 : decide (j - (64 - n % 64) < 64) = true := by simp; omega
          have e6 : 64 * (i + n / 64 + 1) + (j - (64 - n % 64)) = 64 * i + j + n := by omega
          rw [e4, e5, e6]; simp
        · rw [if_neg h3, Nat.zero_testBit]
          exact bit_hi hN (by omega)
    · have e1 : decide (j < 64) = false := by simpa using hj
      have e2 : decide (j + n % 64 < 64) = false := by simp; omega
      rw [e1, e2, Bool.false_and, Bool.false_and, Bool.false_or]
      symm
      split
      · rw [Nat.testBit_mod_two_pow, e1, Bool.false_and]
      · exact Nat.zero_testBit j
  · rw [if_neg h4, Nat.zero_testBit, bit_hi hN (by omega), Bool.and_false]

/-! A number out of bytes. -/
def leN : List UInt8 → Nat
  | [] => 0
  | x :: l => x.toNat + 256 * leN l
theorem leN_lt : ∀ l : List UInt8, leN l < 2 ^ (8 * l.length)
  | [] => by decide
  | x :: l => by
    have h := leN_lt l
    have hx := x.toNat_lt
    rw [List.length_cons, Nat.mul_add, Nat.pow_add]
    unfold leN
    simp only [Nat.mul_one, Nat.reducePow] at *
    omega
theorem leN_snoc : ∀ (l : List UInt8) (x : UInt8), leN (l ++ [x]) = leN l + 2 ^ (8 * l.length) * x.toNat
  | [], x => by simp [leN]
  | y :: l, x => by
    rw [List.cons_append, leN, leN_snoc l x, leN, List.length_cons, Nat.mul_add 8, Nat.pow_add]
    simp only [Nat.mul_one, Nat.reducePow]
    rw [Nat.mul_add, Nat.add_assoc, Nat.mul_comm (2 ^ (8 * l.length)) 256, Nat.mul_assoc]
theorem add_bit (N x p : Nat) (h : N < 2 ^ p) : N + 2 ^ p * x = N ||| (2 ^ p * x) := by
  rw [Nat.add_comm, Nat.two_pow_add_eq_or_of_lt h x, Nat.or_comm]
theorem byte_limb (N x k j : Nat) (hN : N < 2 ^ (8 * k)) (hx : x < 256) : limb (N + 2 ^ (8 * k) * x) j =
    if j = k / 8 then limb N j ||| (x * 2 ^ (8 * (k % 8))) else limb N j := by
  rw [add_bit N x _ hN]
  apply Nat.eq_of_testBit_eq
  intro m
  have hx8 : x < 2 ^ 8 := hx
  by_cases hj : j = k / 8
  · rw [if_pos hj, limb_bit, Nat.testBit_or, Nat.testBit_two_pow_mul, Nat.testBit_or, limb_bit, Nat.mul_comm x, Nat.testBit_two_pow_mul]
    by_cases hm : m < 64
    · have e1 : decide (m < 64) = true := by simpa using hm
      rw [e1, Bool.true_and, Bool.true_and]
      congr 1
      have e2 : decide (64 * j + m ≥ 8 * k) = decide (m ≥ 8 * (k % 8)) := by rw [decide_eq_decide]; omega
      rw [e2]
      have e3 : 64 * j + m - 8 * k = m - 8 * (k % 8) := by omega
      rw [e3]
    · have e1 : decide (m < 64) = false := by simpa using hm
      rw [e1, Bool.false_and, Bool.false_and, Bool.false_or, bit_hi hx8 (by omega), Bool.and_false]
  · rw [if_neg hj, limb_bit, limb_bit, Nat.testBit_or, Nat.testBit_two_pow_mul]
    by_cases hm : m < 64
    · have : (decide (64 * j + m ≥ 8 * k) && x.testBit (64 * j + m - 8 * k)) = false := by
        by_cases h1 : 8 * k ≤ 64 * j + m
        · rw [bit_hi hx8 (by omega), Bool.and_false]
        · have : decide (64 * j + m ≥ 8 * k) = false := by simp; omega
          rw [this, Bool.false_and]
      rw [this, Bool.or_false]
    · have e1 : decide (m < 64) = false := by simpa using hm
      rw [e1, Bool.false_and, Bool.false_and]

/-! How many digits. -/
def lenN (N : Nat) : Nat := if N = 0 then 0 else Nat.log2 N + 1
theorem lenN_of {N n : Nat} (h1 : 2 ^ n ≤ N) (h2 : N < 2 ^ (n + 1)) : lenN N = n + 1 := by
  have h0 : N ≠ 0 := by have := Nat.two_pow_pos n; omega
  unfold lenN
  rw [if_neg h0]
  have a := (Nat.le_log2 h0).2 h1
  have b := (Nat.log2_lt h0).2 h2
  omega
theorem lenN_pos {N : Nat} (h : N ≠ 0) : ∃ n, lenN N = n + 1 ∧ 2 ^ n ≤ N ∧ N < 2 ^ (n + 1) := by
  refine ⟨Nat.log2 N, by unfold lenN; rw [if_neg h], Nat.log2_self_le h, Nat.lt_log2_self⟩
theorem lenN_lt (N : Nat) : N < 2 ^ lenN N := by
  by_cases h : N = 0
  · subst h; exact Nat.two_pow_pos _
  · obtain ⟨n, h1, _, h3⟩ := lenN_pos h; rw [h1]; exact h3
theorem lenN_le {N p : Nat} (h : N < 2 ^ p) : lenN N ≤ p := by
  by_cases h0 : N = 0
  · subst h0; exact Nat.zero_le _
  · obtain ⟨n, h1, h2, _⟩ := lenN_pos h0
    have : 2 ^ n < 2 ^ p := Nat.lt_of_le_of_lt h2 h
    have := (Nat.pow_lt_pow_iff_right (by decide : 1 < 2)).1 this
    omega
/-- By the highest word that is not zero. -/
theorem lenN_limb {N i : Nat} (hN : N < 2 ^ (64 * i + 64)) (hi : limb N i ≠ 0) : lenN N = 64 * i + lenN (limb N i) := by
  obtain ⟨n, h1, h2, h3⟩ := lenN_pos hi
  have hd : N / 2 ^ (64 * i) < 2 ^ 64 := by
    rw [Nat.div_lt_iff_lt_mul (Nat.two_pow_pos _), ← Nat.pow_add, Nat.add_comm]; exact hN
  have hl : limb N i = N / 2 ^ (64 * i) := Nat.mod_eq_of_lt hd
  rw [hl] at h1 h2 h3 ⊢
  rw [h1, ← Nat.add_assoc]
  refine lenN_of ?_ ?_
  · rw [Nat.add_comm, Nat.pow_add, ← Nat.le_div_iff_mul_le (Nat.two_pow_pos _)]; exact h2
  · rw [Nat.add_assoc, Nat.add_comm, Nat.pow_add, ← Nat.div_lt_iff_lt_mul (Nat.two_pow_pos _)]; exact h3
theorem lt_top {N i : Nat} (hN : N < 2 ^ 256) (hi : i < 4) (h : ∀ j, i < j → j < 4 → limb N j = 0) : N < 2 ^ (64 * i + 64) := by
  have h1 := by_words hN
  have a0 := limb_lt N 0; have a1 := limb_lt N 1; have a2 := limb_lt N 2; have a3 := limb_lt N 3
  have e3 : i < 3 → limb N 3 = 0 := fun h' => h 3 h' (by decide)
  have e2 : i < 2 → limb N 2 = 0 := fun h' => h 2 h' (by decide)
  have e1 : i < 1 → limb N 1 = 0 := fun h' => h 1 h' (by decide)
  rcases (show i = 0 ∨ i = 1 ∨ i = 2 ∨ i = 3 by omega) with rfl | rfl | rfl | rfl <;> simp only [Nat.reducePow, Nat.reduceMul, Nat.reduceAdd] at * <;> omega
theorem zero_top {N : Nat} (hN : N < 2 ^ 256) (h : ∀ j, j < 4 → limb N j = 0) : N = 0 := limb_ext hN (by decide) (fun i hi => by rw [h i hi, limb0])
theorem over_iff {N n : Nat} (hn : n < 256) : 256 < lenN N + n ↔ 2 ^ 256 ≤ N * 2 ^ n := by
  by_cases h0 : N = 0
  · subst h0
    have : lenN 0 = 0 := rfl
    rw [this, Nat.zero_mul]
    constructor
    · intro h; omega
    · intro h; have := Nat.two_pow_pos 256; omega
  · obtain ⟨k, h1, h2, h3⟩ := lenN_pos h0
    constructor
    · intro h
      have e : 2 ^ 256 ≤ 2 ^ (k + n) := Nat.pow_le_pow_right (by decide) (by omega)
      exact Nat.le_trans e (by rw [Nat.pow_add]; exact Nat.mul_le_mul_right _ h2)
    · intro h
      apply Nat.lt_of_not_le
      intro hle
      have e : N * 2 ^ n < 2 ^ (k + 1 + n) := by rw [Nat.pow_add]; exact Nat.mul_lt_mul_of_pos_right h3 (Nat.two_pow_pos _)
      have e2 : 2 ^ (k + 1 + n) ≤ 2 ^ 256 := Nat.pow_le_pow_right (by decide) (by omega)
      omega

/-! Targets. -/
def expT (b : UInt32) : Nat := if b.toNat / 16777216 < 3 then b.toNat % 8388608 / 2 ^ (8 * (3 - b.toNat / 16777216)) else b.toNat % 8388608 * 2 ^ (8 * (b.toNat / 16777216 - 3))
def expN (b : UInt32) : Nat × Int :=
  if b.toNat % 8388608 ≠ 0 ∧ b.toNat / 8388608 % 2 = 1 then (0, 7) else if 2 ^ 256 ≤ expT b ∨ expT b = 0 then (0, 7) else (expT b, 0)
theorem expN_lt (b : UInt32) : (expN b).1 < 2 ^ 256 := by
  unfold expN
  split
  · exact Nat.two_pow_pos _
  · split
    · exact Nat.two_pow_pos _
    · rename_i h; exact Nat.lt_of_not_le fun e => h (Or.inl e)
theorem expN_err (b : UInt32) : (expN b).2 = 0 ∨ (expN b).2 = 7 := by
  unfold expN
  split
  · exact Or.inr rfl
  · split
    · exact Or.inr rfl
    · exact Or.inl rfl
def meetN (h : Nat) (bits limit : UInt32) : Int :=
  if (expN bits).2 ≠ 0 then 7 else if (expN limit).2 ≠ 0 ∨ (expN limit).1 < (expN bits).1 then 7 else if (expN bits).1 < h then 6 else 0
def shrN (t : Nat) : UInt32 :=
  if t = 0 then 0 else
  let e := (lenN t + 7) / 8
  let m := (if e < 3 then t * 2 ^ (8 * (3 - e)) else t / 2 ^ (8 * (e - 3))) % 4294967296
  if m / 8388608 % 2 = 1 then UInt32.ofNat ((e + 1) * 16777216 ||| m / 256) else UInt32.ofNat (e * 16777216 ||| m)
def scaN (bits : UInt32) (num den : Nat) (limit : UInt32) : UInt32 :=
  if (expN bits).2 ≠ 0 ∨ num = 0 ∨ den = 0 then limit else if (expN limit).2 ≠ 0 then limit else
  let q := (expN bits).1 * num / den
  shrN (if 2 ^ 256 ≤ q ∨ q = 0 ∨ (expN limit).1 < q then (expN limit).1 else q)

/-! Five words: a product and its division. -/
theorem div_step {P den i : Nat} (hd : 0 < den) : P / 2 ^ (64 * i) / den = P / 2 ^ (64 * (i + 1)) / den * 2 ^ 64 + (P / 2 ^ (64 * (i + 1)) % den * 2 ^ 64 + limb P i) / den ∧
    P / 2 ^ (64 * i) % den = (P / 2 ^ (64 * (i + 1)) % den * 2 ^ 64 + limb P i) % den ∧ (P / 2 ^ (64 * (i + 1)) % den * 2 ^ 64 + limb P i) / den < 2 ^ 64 := by
  have e : P / 2 ^ (64 * i) = P / 2 ^ (64 * (i + 1)) * 2 ^ 64 + limb P i := by
    unfold limb
    have h : P / 2 ^ (64 * (i + 1)) = P / 2 ^ (64 * i) / 2 ^ 64 := by rw [Nat.div_div_eq_div_mul, ← Nat.pow_add]; congr 1
    rw [h]
    have := Nat.div_add_mod (P / 2 ^ (64 * i)) (2 ^ 64)
    omega
  generalize P / 2 ^ (64 * (i + 1)) = X at *
  rw [e]
  have hX : X * 2 ^ 64 + limb P i = (X % den * 2 ^ 64 + limb P i) + den * (X / den * 2 ^ 64) := by
    have := Nat.div_add_mod X den
    calc X * 2 ^ 64 + limb P i = (den * (X / den) + X % den) * 2 ^ 64 + limb P i := by rw [this]
      _ = _ := by rw [Nat.add_mul, Nat.mul_assoc]; omega
  refine ⟨?_, ?_, ?_⟩
  · rw [hX, Nat.add_mul_div_left _ _ hd, Nat.add_comm]
  · rw [hX, Nat.add_mul_mod_self_left]
  · rw [Nat.div_lt_iff_lt_mul hd]
    have h1 := Nat.mod_lt X hd
    have h2 := limb_lt P i
    calc X % den * 2 ^ 64 + limb P i < X % den * 2 ^ 64 + 2 ^ 64 := by omega
      _ = (X % den + 1) * 2 ^ 64 := by rw [Nat.add_mul, Nat.one_mul]
      _ ≤ den * 2 ^ 64 := Nat.mul_le_mul_right _ h1
      _ = 2 ^ 64 * den := Nat.mul_comm _ _
end Go.Proofs.YteoilddiilegmaaDoor
