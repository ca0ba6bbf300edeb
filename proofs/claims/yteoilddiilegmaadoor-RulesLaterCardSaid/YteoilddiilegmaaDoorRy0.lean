/- What rules.Check and Valid answer (plain). -/
import Derived.Test.YteoilddiilegmaaDoorRl
set_option linter.unusedSimpArgs false
set_option linter.unusedVariables false
namespace Go.Proofs.YteoilddiilegmaaDoor
open Go.RowKit

theorem check_zero {p : Par} {l : List Hd} {h : Hd} {now : Int} : checkR p l h now = 0 ↔ saneR p = true ∧ l.length ≠ 0 ∧ (h.prev == idL (lastH l)) = true ∧ (h.bits.toNat == (chainR p l).toNat) = true ∧
    meetN (leN (idL h)) h.bits p.limit = 0 ∧ chkI h.time (l.map Hd.time) now p.fut = 0 ∧ passR p l.length (idL h) = 0 := by
  unfold checkR
  generalize (h.prev == idL (lastH l)) = b1
  generalize (h.bits.toNat == (chainR p l).toNat) = b2
  generalize meetN (leN (idL h)) h.bits p.limit = M
  generalize chkI h.time (l.map Hd.time) now p.fut = C
  generalize passR p l.length (idL h) = PR
  generalize saneR p = S
  generalize l.length = n
  by_cases h1 : S = false ∨ n = 0
  · rw [if_pos h1]
    constructor
    · intro h; cases h
    · rintro ⟨a, b, -⟩
      rcases h1 with e | e
      · rw [a] at e; cases e
      · exact absurd e b
  · rw [if_neg h1]
    have hS : S = true := by cases S with | true => rfl | false => exact absurd (Or.inl rfl) h1
    have hn : n ≠ 0 := fun e => h1 (Or.inr e)
    cases b1 with
    | false => simp
    | true =>
      cases b2 with
      | false => simp
      | true =>
        simp only [Bool.true_eq_false, if_false]
        by_cases hM : M = 0
        · by_cases hC : C = 0
          · simp [hS, hn, hM, hC]
          · simp [hM, hC]
        · simp [hM]
theorem chkI_mono {t : UInt32} {ts : List UInt32} {a b f : Int} (hab : a ≤ b) (h : chkI t ts a f = 0) : chkI t ts b f = 0 := by
  unfold chkI at h ⊢
  by_cases h1 : (ts ≠ [] ∧ t.toNat ≤ (medL ts).toNat) ∨ clampI a + clampI f < (t.toNat : Int)
  · rw [if_pos h1] at h; cases h
  · rw [if_neg]
    rintro (e | e)
    · exact h1 (.inl e)
    · refine h1 (.inr ?_)
      have : clampI a ≤ clampI b := by unfold clampI; omega
      omega
theorem check_mono {p : Par} {l : List Hd} {h : Hd} {a b : Int} (hab : a ≤ b) (h0 : checkR p l h a = 0) : checkR p l h b = 0 := by
  rw [check_zero] at h0 ⊢
  obtain ⟨h1, h2, h3, h4, h5, h6, h7⟩ := h0
  exact ⟨h1, h2, h3, h4, h5, chkI_mono hab h6, h7⟩
theorem step_mono {p : Par} {l : List Hd} {a b : Int} (hab : a ≤ b) {i : Nat} (h0 : stepR p l a i = 0) : stepR p l b i = 0 := by
  unfold stepR at h0 ⊢
  by_cases e : i = 0
  · rw [if_pos e] at h0 ⊢; exact h0
  · rw [if_neg e] at h0 ⊢; exact check_mono hab h0
theorem valid_mono {p : Par} {l : List Hd} {a b : Int} (hab : a ≤ b) : validN p l a ≤ validN p l b := by
  obtain ⟨h1, h2, -⟩ := valid_low (p := p) (l := l) (now := a)
  obtain ⟨-, -, h3⟩ := valid_low (p := p) (l := l) (now := b)
  by_cases h : validN p l a ≤ validN p l b
  · exact h
  · exact absurd (step_mono hab (h1 _ (by omega))) (h3 (by omega))
theorem validE_zero {p : Par} {l : List Hd} {now : Int} : validE p l now = 0 ↔ validN p l now = l.length := by
  obtain ⟨-, h2, h3⟩ := valid_low (p := p) (l := l) (now := now)
  unfold validE
  by_cases h : validN p l now < l.length
  · rw [if_pos h]
    exact ⟨fun e => absurd e (h3 h), fun e => absurd h (by omega)⟩
  · rw [if_neg h]
    exact ⟨fun _ => by omega, fun _ => rfl⟩
theorem take_last {l : List Hd} {j : Nat} (h0 : j ≠ 0) (hj : j < l.length) : lastH (l.take j) = l.getD (j - 1) hd0 := by
  unfold lastH
  have e : (l.take j).length = j := by simp; omega
  rw [e]
  simp only [List.getD_eq_getElem?_getD]
  rw [List.getElem?_take_of_lt (by omega)]
theorem valid_link {p : Par} {l : List Hd} {now : Int} : validN p l now ≤ linkN l := by
  obtain ⟨h1, h2, -⟩ := valid_low (p := p) (l := l) (now := now)
  refine link_le h2 fun j hj => ?_
  by_cases h0 : j = 0
  · subst h0; rfl
  · have h3 := h1 j hj
    unfold stepR at h3
    rw [if_neg h0, check_zero] at h3
    have h4 := h3.2.2.1
    rw [take_last h0 (by omega)] at h4
    unfold linkB
    rw [h4]; simp
end Go.Proofs.YteoilddiilegmaaDoor
