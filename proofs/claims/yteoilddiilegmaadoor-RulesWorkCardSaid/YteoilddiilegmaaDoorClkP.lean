/- Times in order: plain lists of 32-bit words. -/
namespace Go.Proofs.YteoilddiilegmaaDoor

abbrev le32 (a b : UInt32) : Prop := a.toNat ≤ b.toNat
def lb (xs : List UInt32) (t : UInt32) : Nat := xs.countP fun x => decide (x.toNat < t.toNat)
def insAt (xs : List UInt32) (t : UInt32) : List UInt32 := xs.take (lb xs t) ++ t :: xs.drop (lb xs t)
def sortL (l : List UInt32) : List UInt32 := l.foldl insAt []
def lasT (l : List UInt32) : List UInt32 := sortL (l.drop (l.length - 11))
def medL (l : List UInt32) : UInt32 := (lasT l).getD ((lasT l).length / 2) 0

theorem lb_le (xs : List UInt32) (t : UInt32) : lb xs t ≤ xs.length := List.countP_le_length
theorem lb_cons_lt {x t : UInt32} (xs : List UInt32) (h : x.toNat < t.toNat) : lb (x :: xs) t = lb xs t + 1 := by unfold lb; rw [List.countP_cons]; simp [h]
theorem lb_zero {t : UInt32} : ∀ {xs : List UInt32}, (∀ x ∈ xs, t.toNat ≤ x.toNat) → lb xs t = 0
  | [], _ => rfl
  | x :: xs, h => by
    have h1 := h x (by simp)
    unfold lb
    rw [List.countP_cons]
    have := lb_zero (xs := xs) fun y hy => h y (by simp [hy])
    unfold lb at this
    rw [this]
    simp; omega
/-- What stands ahead of the place is below, what stands from it on is not. -/
theorem lb_spec {t : UInt32} : ∀ {xs : List UInt32}, xs.Pairwise le32 → (∀ x ∈ xs.take (lb xs t), x.toNat < t.toNat) ∧ (∀ x ∈ xs.drop (lb xs t), t.toNat ≤ x.toNat)
  | [], _ => by simp
  | x :: xs, h => by
    rw [List.pairwise_cons] at h
    by_cases hx : x.toNat < t.toNat
    · rw [lb_cons_lt xs hx]
      obtain ⟨h1, h2⟩ := lb_spec (t := t) h.2
      refine ⟨fun y hy => ?_, fun y hy => h2 y (by simpa using hy)⟩
      rw [List.take_succ_cons, List.mem_cons] at hy
      rcases hy with rfl | hy
      · exact hx
      · exact h1 y hy
    · have h0 : lb (x :: xs) t = 0 := lb_zero fun y hy => by
        rcases List.mem_cons.1 hy with rfl | hy
        · omega
        · have := h.1 y hy; unfold le32 at this; omega
      rw [h0]
      refine ⟨by simp, fun y hy => ?_⟩
      rw [List.drop_zero] at hy
      rcases List.mem_cons.1 hy with rfl | hy
      · omega
      · have := h.1 y hy; unfold le32 at this; omega
theorem lb_get_lt {xs : List UInt32} {t : UInt32} (h : xs.Pairwise le32) {i : Nat} (hi : i < xs.length) (hl : i < lb xs t) : xs[i].toNat < t.toNat :=
  (lb_spec h).1 _ (List.mem_take_iff_getElem.2 ⟨i, by omega, rfl⟩)
theorem lb_get_ge {xs : List UInt32} {t : UInt32} (h : xs.Pairwise le32) {i : Nat} (hi : i < xs.length) (hl : lb xs t ≤ i) : t.toNat ≤ xs[i].toNat := by
  refine (lb_spec h).2 _ ?_
  rw [List.mem_drop_iff_getElem]
  exact ⟨i - lb xs t, by omega, by congr 1; omega⟩

theorem insAt_perm (xs : List UInt32) (t : UInt32) : (insAt xs t).Perm (t :: xs) := by
  unfold insAt
  have := List.perm_middle (a := t) (l₁ := xs.take (lb xs t)) (l₂ := xs.drop (lb xs t))
  rwa [List.take_append_drop] at this
theorem insAt_len (xs : List UInt32) (t : UInt32) : (insAt xs t).length = xs.length + 1 := by have := (insAt_perm xs t).length_eq; simpa using this
theorem insAt_sorted {xs : List UInt32} (t : UInt32) (h : xs.Pairwise le32) : (insAt xs t).Pairwise le32 := by
  obtain ⟨h1, h2⟩ := lb_spec (t := t) h
  unfold insAt
  rw [List.pairwise_append, List.pairwise_cons]
  refine ⟨h.sublist (List.take_sublist _ _), ⟨fun y hy => h2 y hy, h.sublist (List.drop_sublist _ _)⟩, fun a ha b hb => ?_⟩
  have ha1 := h1 a ha
  rcases List.mem_cons.1 hb with rfl | hb
  · show _ ≤ _; omega
  · have hb1 := h2 b hb
    show _ ≤ _; omega
theorem sort_go (l : List UInt32) : ∀ (acc : List UInt32), acc.Pairwise le32 → (l.foldl insAt acc).Pairwise le32 ∧ (l.foldl insAt acc).Perm (l ++ acc) := by
  induction l with
  | nil => intro acc h; exact ⟨h, List.Perm.refl _⟩
  | cons t l ih =>
    intro acc h
    obtain ⟨h1, h2⟩ := ih (insAt acc t) (insAt_sorted t h)
    refine ⟨h1, h2.trans ?_⟩
    exact ((insAt_perm acc t).append_left l).trans List.perm_middle
theorem sortL_sorted (l : List UInt32) : (sortL l).Pairwise le32 := (sort_go l [] List.Pairwise.nil).1
theorem sortL_perm (l : List UInt32) : (sortL l).Perm l := by have := (sort_go l [] List.Pairwise.nil).2; rwa [List.append_nil] at this
theorem sortL_len (l : List UInt32) : (sortL l).length = l.length := (sortL_perm l).length_eq
theorem sortL_snoc (l : List UInt32) (t : UInt32) : sortL (l ++ [t]) = insAt (sortL l) t := by unfold sortL; rw [List.foldl_append]; rfl
theorem sorted_unique {a b : List UInt32} (ha : a.Pairwise le32) (hb : b.Pairwise le32) (h : a.Perm b) : a = b :=
  List.Perm.eq_of_pairwise (le := le32) (fun x y _ _ h1 h2 => UInt32.toNat_inj.1 (by unfold le32 at h1 h2; omega)) ha hb h
theorem sortL_eq {a b : List UInt32} (h : a.Perm b) : sortL a = sortL b := sorted_unique (sortL_sorted a) (sortL_sorted b) ((sortL_perm a).trans (h.trans (sortL_perm b).symm))
theorem lasT_len (l : List UInt32) : (lasT l).length = min l.length 11 := by unfold lasT; rw [sortL_len, List.length_drop]; omega
theorem medL_get {l : List UInt32} (h : (lasT l).length / 2 < (lasT l).length) : medL l = (lasT l)[(lasT l).length / 2] := by
  unfold medL; rw [List.getD_eq_getElem?_getD, List.getElem?_eq_getElem h]; rfl

/-- In a row that rises: fewer than k + 1 are below the one of place k, and fewer than n - k above. -/
theorem below_le {s : List UInt32} (h : s.Pairwise le32) {k : Nat} (hk : k < s.length) : s.countP (fun x => decide (x.toNat < s[k].toNat)) ≤ k := by
  have hs : s.countP (fun x => decide (x.toNat < s[k].toNat)) = (s.take k).countP (fun x => decide (x.toNat < s[k].toNat)) + (s.drop k).countP (fun x => decide (x.toNat < s[k].toNat)) := by
    generalize (fun x : UInt32 => decide (x.toNat < s[k].toNat)) = p
    rw [← List.countP_append, List.take_append_drop]
  rw [hs]
  have h2 : (s.drop k).countP (fun x => decide (x.toNat < s[k].toNat)) = 0 := by
    rw [List.countP_eq_zero]
    intro x hx
    rw [List.mem_drop_iff_getElem] at hx
    obtain ⟨i, hi, rfl⟩ := hx
    have : le32 s[k] s[k + i] := by
      by_cases h0 : i = 0
      · subst h0; exact Nat.le_refl _
      · exact (List.pairwise_iff_getElem.1 h) k (k + i) hk (by omega) (by omega)
    unfold le32 at this
    simp; omega
  have h1 := List.countP_le_length (p := fun x => decide (x.toNat < s[k].toNat)) (l := s.take k)
  rw [List.length_take] at h1
  omega
theorem above_le {s : List UInt32} (h : s.Pairwise le32) {k : Nat} (hk : k < s.length) : s.countP (fun x => decide (s[k].toNat < x.toNat)) ≤ s.length - 1 - k := by
  have hs : s.countP (fun x => decide (s[k].toNat < x.toNat)) = (s.take (k + 1)).countP (fun x => decide (s[k].toNat < x.toNat)) + (s.drop (k + 1)).countP (fun x => decide (s[k].toNat < x.toNat)) := by
    generalize (fun x : UInt32 => decide (s[k].toNat < x.toNat)) = p
    rw [← List.countP_append, List.take_append_drop]
  rw [hs]
  have h1 : (s.take (k + 1)).countP (fun x => decide (s[k].toNat < x.toNat)) = 0 := by
    rw [List.countP_eq_zero]
    intro x hx
    rw [List.mem_take_iff_getElem] at hx
    obtain ⟨i, hi, rfl⟩ := hx
    have : le32 s[i] s[k] := by
      by_cases h0 : i = k
      · subst h0; exact Nat.le_refl _
      · exact (List.pairwise_iff_getElem.1 h) i k (by omega) hk (by omega)
    unfold le32 at this
    simp; omega
  have h2 := List.countP_le_length (p := fun x => decide (s[k].toNat < x.toNat)) (l := s.drop (k + 1))
  rw [List.length_drop] at h2
  omega
theorem med_law {l : List UInt32} (hl : l ≠ []) : (l.drop (l.length - 11)).countP (fun x => decide (x.toNat < (medL l).toNat)) ≤ min l.length 11 / 2 ∧
    (l.drop (l.length - 11)).countP (fun x => decide ((medL l).toNat < x.toNat)) ≤ min l.length 11 - 1 - min l.length 11 / 2 ∧ medL l ∈ l.drop (l.length - 11) := by
  have hp : 0 < l.length := List.length_pos_iff.2 hl
  have hn := lasT_len l
  have hk : (lasT l).length / 2 < (lasT l).length := by omega
  have hm := medL_get hk
  have hsrt := sortL_sorted (l.drop (l.length - 11))
  have hprm := sortL_perm (l.drop (l.length - 11))
  have b1 := below_le hsrt hk
  have b2 := above_le hsrt hk
  rw [hprm.countP_eq] at b1 b2
  have e : (sortL (l.drop (l.length - 11))).length = min l.length 11 := hn
  rw [hm]
  refine ⟨?_, ?_, ?_⟩
  · have : (lasT l).length / 2 = min l.length 11 / 2 := by rw [hn]
    rw [← this]; exact b1
  · have h2 : (sortL (l.drop (l.length - 11))).length - 1 - (lasT l).length / 2 = min l.length 11 - 1 - min l.length 11 / 2 := by rw [e, hn]
    rw [← h2]; exact b2
  · exact hprm.mem_iff.1 (List.getElem_mem hk)
end Go.Proofs.YteoilddiilegmaaDoor
