/- Two words divided by one, by halves: plainly. -/
set_option linter.unusedSimpArgs false
set_option linter.unusedVariables false
namespace Go.Proofs.YteoilddiilegmaaDoor
/-! Two words by one, as it is done by halves (Knuth's D): plainly. -/
structure DStep (y1 y0 u n q r : Nat) : Prop where
  e : q * y1 + r = u
  ge : (u * 4294967296 + n) / (y1 * 4294967296 + y0) ≤ q
  q2 : q ≤ 4294967297
  rl : r < 4294967296
section
variable {y1 y0 u n q r : Nat}
theorem d_start (h1 : 2147483648 ≤ y1) (h2 : y1 < 4294967296) (h3 : y0 < 4294967296) (hu : u < y1 * 4294967296 + y0) (hn : n < 4294967296) : DStep y1 y0 u n (u / y1) (u % y1) := by
  have hp : 0 < y1 := by omega
  have hm := Nat.mod_lt u hp
  have hd := Nat.div_add_mod u y1
  refine ⟨by rw [Nat.mul_comm]; exact hd, ?_, ?_, by omega⟩
  · apply Nat.le_of_lt_succ
    rw [Nat.div_lt_iff_lt_mul (by omega), Nat.succ_mul, Nat.mul_add, ← Nat.mul_assoc]
    generalize hb : u / y1 * y0 = b
    rw [Nat.mul_comm y1] at hd
    generalize u / y1 * y1 = a at *
    omega
  · apply Nat.le_of_lt_succ
    rw [Nat.div_lt_iff_lt_mul hp]
    show u < 4294967298 * y1
    omega
theorem d_le (hu : u < y1 * 4294967296 + y0) (hn : n < 4294967296) : (u * 4294967296 + n) / (y1 * 4294967296 + y0) < 4294967296 := by
  rw [Nat.div_lt_iff_lt_mul (by omega)]
  omega
theorem d_exit (hp : 0 < y1) (h : DStep y1 y0 u n q r) (hb : q * y0 ≤ 4294967296 * r + n) : q = (u * 4294967296 + n) / (y1 * 4294967296 + y0) := by
  refine Nat.le_antisymm ?_ h.ge
  rw [Nat.le_div_iff_mul_le (by omega), Nat.mul_add, ← Nat.mul_assoc]
  have he := h.e
  generalize q * y1 = a at *
  generalize q * y0 = b at *
  omega
theorem d_step (hp : 0 < y1) (hu : u < y1 * 4294967296 + y0) (hn : n < 4294967296) (h : DStep y1 y0 u n q r) (hb : ¬ (q < 4294967296 ∧ q * y0 ≤ 4294967296 * r + n)) :
    1 ≤ q ∧ (u * 4294967296 + n) / (y1 * 4294967296 + y0) ≤ q - 1 ∧ (q - 1) * y1 + (r + y1) = u ∧ q - 1 ≤ 4294967296 := by
  have hQ := d_le hu hn
  have hlt : (u * 4294967296 + n) / (y1 * 4294967296 + y0) < q := by
    by_cases hq : q < 4294967296
    · have hb2 : ¬ q * y0 ≤ 4294967296 * r + n := fun e => hb ⟨hq, e⟩
      rw [Nat.div_lt_iff_lt_mul (by omega), Nat.mul_add, ← Nat.mul_assoc]
      have he := h.e
      generalize q * y1 = a at *
      generalize q * y0 = b at *
      omega
    · exact Nat.lt_of_lt_of_le hQ (Nat.le_of_not_lt hq)
  generalize (u * 4294967296 + n) / (y1 * 4294967296 + y0) = Q at *
  have h1 : 1 ≤ q := by omega
  have h2 := h.q2
  refine ⟨h1, by omega, ?_, by omega⟩
  have he := h.e
  obtain ⟨p, rfl⟩ : ∃ p, q = p + 1 := ⟨q - 1, by omega⟩
  rw [Nat.add_mul, Nat.one_mul] at he
  rw [Nat.add_sub_cancel]
  omega
theorem d_break (hp : 0 < y1) (h3 : y0 < 4294967296) (he : q * y1 + r = u) (hge : (u * 4294967296 + n) / (y1 * 4294967296 + y0) ≤ q) (h2 : q ≤ 4294967296) (hr : 4294967296 ≤ r) : q = (u * 4294967296 + n) / (y1 * 4294967296 + y0) := by
  refine Nat.le_antisymm ?_ hge
  rw [Nat.le_div_iff_mul_le (by omega), Nat.mul_add, ← Nat.mul_assoc]
  have hb : q * y0 ≤ 4294967296 * 4294967295 := Nat.mul_le_mul h2 (by omega)
  generalize q * y1 = a at *
  generalize q * y0 = b at *
  omega
end
/-- What is left behind a step, as it is reckoned: below 2^64. -/
theorem d_left {y u n Q : Nat} (hy : 0 < y) (hy64 : y < 18446744073709551616) (hQ : Q = (u * 4294967296 + n) / y) :
    ((u * 4294967296 + n) + 18446744073709551616 * (Q * y / 18446744073709551616 + 1) - Q * y) % 18446744073709551616 = (u * 4294967296 + n) % y := by
  have h1 := Nat.div_add_mod (u * 4294967296 + n) y
  have h2 := Nat.mod_lt (u * 4294967296 + n) hy
  rw [← hQ, Nat.mul_comm] at h1
  generalize Q * y = a at *
  omega
/-- All of it. -/
theorem d_all {N y s y' u32 n1 n0 q1 q0 r1 r0 : Nat} (hy : 0 < y) (hy' : y' = y * 2 ^ s) (hU : N * 2 ^ s = (u32 * 4294967296 + n1) * 4294967296 + n0)
    (e1 : q1 = (u32 * 4294967296 + n1) / y') (e2 : r1 = (u32 * 4294967296 + n1) % y') (e3 : q0 = (r1 * 4294967296 + n0) / y') (e4 : r0 = (r1 * 4294967296 + n0) % y') :
    q1 * 4294967296 + q0 = N / y ∧ r0 / 2 ^ s = N % y := by
  have hp : 0 < 2 ^ s := Nat.two_pow_pos s
  have hyp : 0 < y' := by rw [hy']; exact Nat.mul_pos hy hp
  have a1 := Nat.div_add_mod (u32 * 4294967296 + n1) y'
  have a2 := Nat.div_add_mod (r1 * 4294967296 + n0) y'
  have a3 : r0 < y' := by rw [e4]; exact Nat.mod_lt _ hyp
  rw [← e1, ← e2] at a1
  rw [← e3, ← e4] at a2
  have hE : N * 2 ^ s = y' * (q1 * 4294967296 + q0) + r0 := by
    rw [hU, ← a1, Nat.mul_add, Nat.add_mul, ← Nat.mul_assoc]
    generalize y' * q1 = b at *
    omega
  have hd : N * 2 ^ s / y' = q1 * 4294967296 + q0 := by
    rw [hE, Nat.mul_add_div hyp, Nat.div_eq_of_lt a3, Nat.add_zero]
  have hm : N * 2 ^ s % y' = r0 := by
    rw [hE, Nat.mul_add_mod, Nat.mod_eq_of_lt a3]
  rw [hy', Nat.mul_div_mul_right _ _ hp] at hd
  rw [hy', Nat.mul_mod_mul_right] at hm
  exact ⟨hd.symm, by rw [← hm]; exact Nat.mul_div_cancel _ hp⟩
end Go.Proofs.YteoilddiilegmaaDoor
