import Derived.Test.YtofcjfkakmlbbaaScrI
namespace Go.Proofs.Ytofcjfkakmlbbaa

def StepR.fits (s : StepR) : Bool := fitsD s.k s.p s.n s.d.length

theorem lo_nat (n : Int) : ((lo n).toNat : Int) = n % 256 := by simp [lo]; omega
theorem hi_nat (n : Int) : ((hi n).toNat : Int) = n / 256 % 256 := by simp [hi]; omega

theorem put_t (s : StepR) (h : s.fits = true) : s.put = [lo s.k, lo s.p, lo s.n, hi s.n, lo s.d.length, hi s.d.length] ++ s.d := if_pos h
theorem put_f (s : StepR) (h : ¬ s.fits = true) : s.put = [] := if_neg h

theorem get_put_one (s : StepR) (h : s.fits = true) (rest : List UInt8) : getOne (s.put ++ rest) = s.pl ∧ getRest (s.put ++ rest) = rest := by
  have hf := of_decide_eq_true h
  obtain ⟨k0, k1, p0, p1, n0, n1, d1⟩ := hf
  have hp : s.put = [lo s.k, lo s.p, lo s.n, hi s.n, lo s.d.length, hi s.d.length] ++ s.d := put_t s h
  have e1 := lo_nat s.k; have e2 := lo_nat s.p; have e3 := lo_nat s.n; have e4 := hi_nat s.n; have e5 := lo_nat s.d.length; have e6 := hi_nat s.d.length
  have hE : (lo s.d.length).toNat + 256 * (hi s.d.length).toNat = s.d.length := by omega
  rw [hp]
  refine ⟨?_, ?_⟩
  · unfold getOne StepR.pl
    simp only [List.cons_append, List.nil_append, List.getD_cons_zero, List.getD_cons_succ, List.drop_succ_cons, List.drop_zero, hE]
    rw [List.take_left]
    simp only [Prod.mk.injEq, and_true]
    omega
  · unfold getRest
    simp only [List.cons_append, List.nil_append, List.getD_cons_zero, List.getD_cons_succ, List.drop_succ_cons, List.drop_zero, hE]
    rw [List.drop_left]

theorem get_put : ∀ (vs : List StepR) (n : Nat), (vs.filter StepR.fits).length ≤ n → getL n (vs.flatMap StepR.put) = (vs.filter StepR.fits).map StepR.pl
  | [], n, _ => by simp [getL_nil]
  | s :: vs, n, h => by
    by_cases hf : s.fits = true
    · simp only [List.filter_cons, hf, if_true, List.length_cons] at h
      obtain ⟨m, rfl⟩ : ∃ m, n = m + 1 := ⟨n - 1, by omega⟩
      have hl : 0 < (s.put ++ vs.flatMap StepR.put).length := by
        rw [put_t s hf]; simp
      simp only [List.flatMap_cons, List.filter_cons, hf, if_true, List.map_cons]
      rw [getL_step m hl, (get_put_one s hf _).1, (get_put_one s hf _).2, get_put vs m (by omega)]
    · have hp : s.put = [] := put_f s hf
      simp only [List.filter_cons, hf] at h ⊢
      simp only [List.flatMap_cons, hp, List.nil_append]
      exact get_put vs n h

/-- What is got of any bytes fits. -/
def plFits (x : Int × Int × Int × List UInt8) : Prop := 0 ≤ x.1 ∧ x.1 < 10 ∧ 0 ≤ x.2.1 ∧ x.2.1 ≤ 255 ∧ 0 ≤ x.2.2.1 ∧ x.2.2.1 ≤ 65535 ∧ x.2.2.2.length ≤ 65535

theorem getOne_fits (l : List UInt8) : plFits (getOne l) := by
  have h1 := (l.getD 1 0).toNat_lt; have h2 := (l.getD 2 0).toNat_lt; have h3 := (l.getD 3 0).toNat_lt; have h4 := (l.getD 4 0).toNat_lt; have h5 := (l.getD 5 0).toNat_lt
  unfold plFits getOne
  refine ⟨by simp only []; omega, by simp only []; omega, by simp only []; omega, by simp only []; omega, by simp only []; omega, by simp only []; omega, ?_⟩
  simp only [List.length_take]; omega

theorem getL_fits : ∀ (n : Nat) (l : List UInt8), ∀ x ∈ getL n l, plFits x
  | 0, _, x, h => by simp [getL] at h
  | n + 1, l, x, h => by
    by_cases h0 : 0 < l.length
    · rw [getL_step n h0] at h
      rcases List.mem_cons.1 h with rfl | h
      · exact getOne_fits l
      · exact getL_fits n _ x h
    · obtain rfl : l = [] := List.eq_nil_of_length_eq_zero (by omega)
      simp [getL_nil] at h

def plSize (l : List (Int × Int × Int × List UInt8)) : Nat := (l.map fun x => 6 + x.2.2.2.length).sum
theorem one_size (l : List UInt8) (h : 0 < l.length) : l.length ≤ 6 + (getOne l).2.2.2.length + (getRest l).length ∧ 6 + (getOne l).2.2.2.length + (getRest l).length < l.length + 6 ∧
    (0 < (getRest l).length → 6 + (getOne l).2.2.2.length + (getRest l).length = l.length) := by
  unfold getOne getRest
  simp only [List.length_take, List.length_drop]
  omega
theorem getL_size : ∀ (n : Nat) (l : List UInt8), ((getL n l).length = n ∨ l.length ≤ plSize (getL n l)) ∧ plSize (getL n l) < l.length + 6
  | 0, l => by simp [getL, plSize]
  | n + 1, l => by
    by_cases h0 : 0 < l.length
    · have ih := getL_size n (getRest l)
      have ho := one_size l h0
      rw [getL_step n h0]
      simp only [plSize, List.map_cons, List.sum_cons, List.length_cons] at ih ⊢
      by_cases hr : 0 < (getRest l).length
      · have := ho.2.2 hr; omega
      · have hr0 : getRest l = [] := List.eq_nil_of_length_eq_zero (by omega)
        rw [hr0, getL_nil] at ih ⊢
        simp at ih ⊢; rw [hr0] at ho; simp at ho; omega
    · obtain rfl : l = [] := List.eq_nil_of_length_eq_zero (by omega)
      simp [getL_nil, plSize]

theorem getL_empty (l : List UInt8) : getL 400 l = [] ↔ l = [] := by
  constructor
  · intro h
    by_cases h0 : 0 < l.length
    · rw [getL_step 399 h0] at h; cases h
    · exact List.eq_nil_of_length_eq_zero (by omega)
  · rintro rfl; exact getL_nil _

theorem fits_of_pl (s : StepR) (h : plFits s.pl) : s.fits = true := decide_eq_true h
theorem name_of_pl (s : StepR) (h : plFits s.pl) : nameL s.k ≠ [] := by
  have h1 : 0 ≤ s.k := h.1
  have h2 : s.k < 10 := h.2.1
  rcases (show s.k = 0 ∨ s.k = 1 ∨ s.k = 2 ∨ s.k = 3 ∨ s.k = 4 ∨ s.k = 5 ∨ s.k = 6 ∨ s.k = 7 ∨ s.k = 8 ∨ s.k = 9 by omega) with e | e | e | e | e | e | e | e | e | e <;> rw [e] <;> decide

theorem plSize_take (l : List (Int × Int × Int × List UInt8)) (k : Nat) : plSize (l.take k) ≤ plSize l := by
  conv => rhs; rw [← List.take_append_drop k l]
  unfold plSize; rw [List.map_append, List.sum_append]; omega
theorem plSize_snoc (l : List (Int × Int × Int × List UInt8)) (k : Nat) (h : k < l.length) : plSize (l.take (k + 1)) = plSize (l.take k) + 6 + l[k].2.2.2.length := by
  rw [List.take_succ_eq_append_getElem h]; unfold plSize; rw [List.map_append, List.sum_append]; simp; omega
theorem filter_all (vs : List StepR) (h : ∀ s ∈ vs, s.fits = true) : vs.filter StepR.fits = vs := List.filter_eq_self.2 h
theorem fits_len (s : StepR) (h : s.fits = true) : s.d.length ≤ 65535 := (of_decide_eq_true h).2.2.2.2.2.2
end Go.Proofs.Ytofcjfkakmlbbaa
