/- What rules.Check and Valid answer, for RulesMay, Spoilt, Work, Parts (plain). -/
import Derived.Test.YteoilddiilegmaaDoorRu
set_option linter.unusedSimpArgs false
set_option linter.unusedVariables false
namespace Go.Proofs.YteoilddiilegmaaDoor
open Go.RowKit

theorem check_zero {p : Par} {l : List Hd} {h : Hd} {now : Int} : checkR p l h now = 0 ↔ saneR p = true ∧ l.length ≠ 0 ∧ (h.prev == idL (lastH l)) = true ∧ (h.bits.toNat == (chainR p l).toNat) = true ∧
    meetN (leN (idL h)) h.bits p.limit = 0 ∧ chkI h.time (l.map Hd.time) now p.fut = 0 ∧ passR p l.length (idL h) = 0 := by
  unfold checkR
  generalize (h.prev == idL (lastH l)) = b1
  generalize (h.bits.toNat == (chainR p l).toNat) = b2
  generalize meetN (leN (idL h)) h.bits p.limit = M
  generalize chkI h.time (l.map Hd.time) now p.fut = C
  generalize passR p l.length (idL h) = PR
  generalize saneR p = S
  generalize l.length = n
  by_cases h1 : S = false ∨ n = 0
  · rw [if_pos h1]
    constructor
    · intro h; cases h
    · rintro ⟨a, b, -⟩
      rcases h1 with e | e
      · rw [a] at e; cases e
      · exact absurd e b
  · rw [if_neg h1]
    have hS : S = true := by cases S with | true => rfl | false => exact absurd (Or.inl rfl) h1
    have hn : n ≠ 0 := fun e => h1 (Or.inr e)
    cases b1 with
    | false => simp
    | true =>
      cases b2 with
      | false => simp
      | true =>
        simp only [Bool.true_eq_false, if_false]
        by_cases hM : M = 0
        · by_cases hC : C = 0
          · simp [hS, hn, hM, hC]
          · simp [hM, hC]
        · simp [hM]

/-! RulesMay. -/
theorem may_law {p : Par} {l : List Hd} {h : Hd} {now : Int} (hs : saneR p = true) (hn : l.length ≠ 0) : (checkR p l h now == 0) =
    ((h.prev == idL (lastH l)) && ((h.bits.toNat == (chainR p l).toNat) && ((meetN (leN (idL h)) h.bits p.limit == 0) && ((chkI h.time (l.map Hd.time) now p.fut == 0) && (!(pointR p l.length).isSome || (pointH p l.length == idL h)))))) := by
  rw [Bool.eq_iff_iff]
  simp only [beq_iff_eq, Bool.and_eq_true]
  rw [← beq_iff_eq (a := h.prev), ← beq_iff_eq (a := h.bits.toNat), check_zero, passR_of]
  generalize (h.prev == idL (lastH l)) = b1
  generalize (h.bits.toNat == (chainR p l).toNat) = b2
  generalize meetN (leN (idL h)) h.bits p.limit = M
  generalize chkI h.time (l.map Hd.time) now p.fut = C
  generalize (pointR p l.length).isSome = is
  generalize (pointH p l.length == idL h) = b5
  cases is <;> cases b5 <;> simp [hs, hn]
theorem may_none {p : Par} {l : List Hd} {h : Hd} {now : Int} (hs : l.length = 0 ∨ saneR p = false) : checkR p l h now = 15 := by
  unfold checkR
  rw [if_pos (hs.symm)]

/-! RulesSpoilt. -/
theorem spoilt_prev {p : Par} {l : List Hd} {h g : Hd} {now : Int} (h0 : checkR p l h now = 0) (hp : g.prev ≠ h.prev) : checkR p l g now = 9 := by
  obtain ⟨h1, h2, h3, -⟩ := check_zero.1 h0
  have e : h.prev = idL (lastH l) := by simpa using h3
  unfold checkR
  rw [if_neg (by rintro (e | e); (· rw [h1] at e; cases e); (· exact h2 e)), if_pos (by rw [← e]; simpa using hp)]
theorem spoilt_bits {p : Par} {l : List Hd} {h g : Hd} {now : Int} (h0 : checkR p l h now = 0) (hp : g.prev = h.prev) (hb : g.bits ≠ h.bits) : checkR p l g now = 7 := by
  obtain ⟨h1, h2, h3, h4, -⟩ := check_zero.1 h0
  have e : h.bits.toNat = (chainR p l).toNat := by simpa using h4
  have hne : g.bits.toNat ≠ h.bits.toNat := fun e => hb (UInt32.toNat.inj e)
  unfold checkR
  rw [if_neg (by rintro (e | e); (· rw [h1] at e; cases e); (· exact h2 e)), hp, if_neg (by rw [h3]; simp), if_pos (by rw [← e]; simpa using hne)]
theorem meet_same {a b : Nat} {x y : UInt32} (h : meetN a x y = 0) : meetN b x y = 0 ∨ meetN b x y = 6 := by
  unfold meetN at h ⊢
  by_cases h1 : (expN x).2 ≠ 0
  · rw [if_pos h1] at h; cases h
  rw [if_neg h1] at h ⊢
  by_cases h2 : (expN y).2 ≠ 0 ∨ (expN y).1 < (expN x).1
  · rw [if_pos h2] at h; cases h
  rw [if_neg h2] at h ⊢
  by_cases h3 : (expN x).1 < b
  · rw [if_pos h3]; exact Or.inr rfl
  · rw [if_neg h3]; exact Or.inl rfl
theorem spoilt_time {p : Par} {l : List Hd} {h g : Hd} {now : Int} (h0 : checkR p l h now = 0) (hp : g.prev = h.prev) (hb : g.bits = h.bits) (ht : g.time = medL (l.map Hd.time)) :
    checkR p l g now = 8 ∨ checkR p l g now = 6 := by
  obtain ⟨h1, h2, h3, h4, h5, -⟩ := check_zero.1 h0
  have hm := meet_same (b := leN (idL g)) h5
  have hc : chkI g.time (l.map Hd.time) now p.fut = 8 := by
    unfold chkI
    rw [if_pos]
    refine Or.inl ⟨fun e => h2 ?_, by rw [ht]; exact Nat.le_refl _⟩
    have := congrArg List.length e
    simpa using this
  unfold checkR
  rw [if_neg (by rintro (e | e); (· rw [h1] at e; cases e); (· exact h2 e)), hp, if_neg (by rw [h3]; simp), hb, if_neg (by rw [h4]; simp), hc]
  rcases hm with e | e
  · rw [e]; exact Or.inl rfl
  · rw [e]; exact Or.inr rfl

/-! RulesWork. -/
theorem meet_zero {a : Nat} {x y : UInt32} (h : meetN a x y = 0) : (expN x).2 = 0 ∧ cmpN (expN x).1 (expN y).1 ≤ 0 := by
  unfold meetN at h
  by_cases h1 : (expN x).2 ≠ 0
  · rw [if_pos h1] at h; cases h
  rw [if_neg h1] at h
  by_cases h2 : (expN y).2 ≠ 0 ∨ (expN y).1 < (expN x).1
  · rw [if_pos h2] at h; cases h
  refine ⟨by omega, ?_⟩
  have h3 : ¬ (expN y).1 < (expN x).1 := fun e => h2 (Or.inr e)
  unfold cmpN
  rw [if_neg h3]
  split <;> omega
theorem work_at {p : Par} {l : List Hd} {now : Int} {i : Nat} (h0 : i ≠ 0) (hi : i < validN p l now) : (expN (l.getD i hd0).bits).2 = 0 ∧ cmpN (expN (l.getD i hd0).bits).1 (expN p.limit).1 ≤ 0 ∧ meetN (leN (idL (l.getD i hd0))) (l.getD i hd0).bits p.limit = 0 := by
  have h1 := (valid_low (p := p) (l := l) (now := now)).1 i hi
  unfold stepR at h1
  rw [if_neg h0] at h1
  have h2 := (check_zero.1 h1).2.2.2.2.1
  exact ⟨(meet_zero h2).1, (meet_zero h2).2, h2⟩

/-! RulesParts. -/
theorem step_part {p : Par} {l m : List Hd} {now : Int} {i : Nat} (hi : i < l.length) : stepR p (l ++ m) now i = stepR p l now i := by
  unfold stepR
  have e1 : (l ++ m).getD i hd0 = l.getD i hd0 := by simp [List.getD_eq_getElem?_getD, List.getElem?_append_left hi]
  rw [e1, List.take_append_of_le_length (by omega)]
theorem valid_part {p : Par} {l : List Hd} {now : Int} {m : Nat} (hm : m ≤ l.length) : validN p (l.take m) now = min (validN p l now) m := by
  have hl : (l.take m).length = m := by simp; omega
  have hs : ∀ i, i < m → stepR p (l.take m) now i = stepR p l now i := fun i hi => by
    conv => rhs; rw [← List.take_append_drop m l]
    exact (step_part (by omega)).symm
  obtain ⟨a1, a2, a3⟩ := valid_low (p := p) (l := l) (now := now)
  by_cases h : validN p l now < m
  · rw [Nat.min_eq_left (by omega)]
    exact (valid_stop (by omega) (fun j hj => by rw [hs j (by omega)]; exact a1 j hj) (by rw [hs _ h]; exact a3 (by omega))).1
  · rw [Nat.min_eq_right (by omega)]
    have h2 := (valid_all (p := p) (l := l.take m) (now := now) (fun j hj => by rw [hs j (by omega)]; exact a1 j (by omega))).1
    rw [h2, hl]
def moreR (p : Par) (l : List Hd) (h : Hd) (now : Int) : Int := if l.length = 0 then beginsR p h else checkR p l h now
theorem step_more {p : Par} {l : List Hd} {h : Hd} {now : Int} : stepR p (l ++ [h]) now l.length = moreR p l h now := by
  unfold stepR moreR
  have e1 : (l ++ [h]).getD l.length hd0 = h := by simp [List.getD_eq_getElem?_getD]
  rw [e1, List.take_left]
theorem valid_more {p : Par} {l : List Hd} {h : Hd} {now : Int} :
    (validN p l now < l.length → validN p (l ++ [h]) now = validN p l now) ∧ (validN p l now = l.length → ((validN p (l ++ [h]) now = l.length + 1 ↔ moreR p l h now = 0) ∧ validE p (l ++ [h]) now = moreR p l h now)) := by
  obtain ⟨a1, a2, a3⟩ := valid_low (p := p) (l := l) (now := now)
  have hlen : (l ++ [h]).length = l.length + 1 := by simp
  constructor
  · intro hlt
    exact (valid_stop (by omega) (fun j hj => by rw [step_part (by omega)]; exact a1 j hj) (by rw [step_part hlt]; exact a3 hlt)).1
  · intro he
    by_cases h0 : moreR p l h now = 0
    · have h1 := valid_all (p := p) (l := l ++ [h]) (now := now) (fun j hj => by
        by_cases e : j = l.length
        · rw [e, step_more, h0]
        · rw [step_part (by omega)]; exact a1 j (by omega))
      rw [h1.1, h1.2, hlen]
      exact ⟨⟨fun _ => h0, fun _ => rfl⟩, h0.symm⟩
    · have h1 := valid_stop (p := p) (l := l ++ [h]) (now := now) (k := l.length) (by omega) (fun j hj => by rw [step_part hj]; exact a1 j (by omega)) (by rw [step_more]; exact h0)
      rw [h1.1, h1.2, step_more]
      exact ⟨⟨fun e => by omega, fun e => absurd e h0⟩, rfl⟩
end Go.Proofs.YteoilddiilegmaaDoor
