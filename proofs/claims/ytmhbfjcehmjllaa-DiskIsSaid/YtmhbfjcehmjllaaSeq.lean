/- A region that draws its order: some operations first, that answer the same in every world of a class, in any order that their edges allow; behind them the others, in one forced order. One walk serves every order. -/
import Derived.Test.YtmhbfjcehmjllaaRgn
import Derived.OrdersHeld
set_option linter.unusedSimpArgs false
set_option linter.unusedVariables false
namespace Go.Proofs.Ytmhbfjcehmjllaa
open Go.RowKit

def waits (ops : Array Oper) (j i : Nat) : Bool :=
  match ops[j]? with
  | some o => o.after.any fun e => Region.binds .any e && e.on == i
  | none => false
theorem waits_spec {ops : Array Oper} {j i : Nat} (h : waits ops j i = true) : ∃ o, ops[j]? = some o ∧ ∃ e ∈ o.after, Region.binds .any e = true ∧ e.on = i := by
  unfold waits at h
  split at h
  · rename_i o ho
    obtain ⟨e, he, hb⟩ := Array.any_eq_true'.1 h
    simp only [Bool.and_eq_true, beq_iff_eq] at hb
    exact ⟨o, ho, e, he, hb.1, hb.2⟩
  · cases h
theorem waits_mk {ops : Array Oper} {j i : Nat} {o : Oper} (ho : ops[j]? = some o) {e : Edge} (he : e ∈ o.after) (hb : Region.binds .any e = true) (hi : e.on = i) : waits ops j i = true := by
  unfold waits
  rw [ho]
  exact Array.any_eq_true'.2 ⟨e, he, by simp [hb, hi]⟩
def partB (ops : Array Oper) (i j : Nat) : Bool :=
  match ops[i]?, ops[j]? with
  | some x, some y => x.apart ops y
  | _, _ => false

/-- What is still to come up: hd in any order that the edges allow, tl behind it, in a row. -/
structure HT (ops : Array Oper) (listed : Array Bool) (hd tl : List Nat) : Prop where
  un : ∀ i, listed.getD i true = false ↔ i ∈ hd ++ tl
  inb : ∀ i ∈ hd ++ tl, i < ops.size
  nd : (hd ++ tl).Nodup
  edge : ∀ pre i post, hd ++ tl = pre ++ i :: post → ∀ k, waits ops i k = true → listed.getD k false = true ∨ k ∈ pre
  part : ∀ pre i post j, hd = pre ++ i :: post → j ∈ post → waits ops j i = true ∨ partB ops i j = true
  sink : ∀ pre i post, hd = pre ++ i :: post → ∃ j ∈ post ++ tl.head?.toList, waits ops j i = true
  chain : ∀ pre t t' post, tl = pre ++ t :: t' :: post → waits ops t' t = true

section
variable {P : Program} {ops : Array Oper} {listed : Array Bool} {hd tl : List Nat} {C : World → Prop} {Q : Exit → Act → World → Prop}

theorem getD_tf {l : Array Bool} {i : Nat} (h : l.getD i true = false) : l.getD i false = false := by
  rcases Nat.lt_or_ge i l.size with h' | h'
  · simp [h'] at h ⊢; exact h
  · simp [Array.getElem?_eq_none h'] at h

/-- One that comes up waits for nothing that has not. -/
theorem ready_free {i k : Nat} (h : i ∈ Region.ready .any ops listed) (hk : listed.getD k true = false) : waits ops i k = false := by
  cases hw : waits ops i k with
  | false => rfl
  | true =>
    obtain ⟨_, o, ho, hall⟩ := mem_ready.1 h
    obtain ⟨o', ho', e, he, hb, hon⟩ := waits_spec hw
    have : o' = o := Option.some.inj (ho'.symm.trans ho)
    subst this
    have := hall e he hb
    rw [hon, getD_tf hk] at this
    cases this

theorem ready_of {i : Nat} (hi : i < ops.size) (hu : listed.getD i true = false) (h : ∀ k, waits ops i k = true → listed.getD k false = true) : i ∈ Region.ready .any ops listed :=
  mem_ready.2 ⟨hu, ops[i], Array.getElem?_eq_getElem hi, fun e he hb => h _ (waits_mk (Array.getElem?_eq_getElem hi) he hb rfl)⟩

theorem HT.unset {pre post : List Nat} {i : Nat} (h : HT ops listed hd tl) (hs : hd ++ tl = pre ++ i :: post) (j : Nat) :
    (listed.setIfInBounds i true).getD j true = false ↔ j ∈ pre ++ post := by
  have hn := h.nd
  rw [hs] at hn
  by_cases hij : i = j
  · subst hij
    have h1 : i ∉ pre ++ post := by
      rw [List.nodup_append] at hn
      obtain ⟨_, h2, h3⟩ := hn
      rw [List.nodup_cons] at h2
      simp only [List.mem_append, not_or]
      exact ⟨fun hp => h3 i hp i (by simp) rfl, h2.1⟩
    have h2 := (h.un i).2 (by rw [hs]; simp)
    have hlt : i < listed.size := by
      rcases Nat.lt_or_ge i listed.size with h' | h'
      · exact h'
      · simp [Array.getElem?_eq_none h'] at h2
    simp [hlt]; simpa using h1
  · rw [getD_set_ne true hij, h.un, hs]
    simp only [List.mem_append, List.mem_cons]
    constructor
    · rintro (h1 | rfl | h1)
      · exact .inl h1
      · exact absurd rfl hij
      · exact .inr h1
    · rintro (h1 | h1)
      · exact .inl h1
      · exact .inr (.inr h1)

theorem lset {i k : Nat} (h : listed.getD k false = true ∨ k = i) (hi : i < listed.size) : (listed.setIfInBounds i true).getD k false = true := by
  rcases h with h | rfl
  · exact getD_set_true h
  · simp [hi]
theorem un_lt {i : Nat} (h : listed.getD i true = false) : i < listed.size := by
  rcases Nat.lt_or_ge i listed.size with h' | h'
  · exact h'
  · simp [Array.getElem?_eq_none h'] at h

theorem HT.tail {t : Nat} (h : HT ops listed [] (t :: tl)) : HT ops (listed.setIfInBounds t true) [] tl := by
  have hlt : t < listed.size := un_lt ((h.un t).2 (by simp))
  refine ⟨fun j => by simpa using h.unset (pre := []) (post := tl) rfl j, fun i hi => h.inb i (by simp at hi ⊢; exact .inr hi), ?_, ?_, by simp, by simp, fun pre a b post e => h.chain (t :: pre) a b post (by rw [e]; rfl)⟩
  · have := h.nd; simp only [List.nil_append, List.nodup_cons] at this ⊢; exact this.2
  · intro pre i post e k hk
    rcases h.edge (t :: pre) i post (by simp at e ⊢; exact e) k hk with h1 | h1
    · exact .inl (lset (.inl h1) hlt)
    · rcases List.mem_cons.1 h1 with rfl | h1
      · exact .inl (lset (.inr rfl) hlt)
      · exact .inr h1

/-- Whatever order is picked; behind one that is not among 'tl' the world is of the class. -/
def wpAnyD (P : Program) (ops : Array Oper) (C : World → Prop) (Q : Exit → Act → World → Prop) (tl : List Nat) : Nat → Array Bool → Act → World → Prop
  | 0, listed, a, w => Region.ready .any ops listed = [] ∧ Q .normal a w
  | n + 1, listed, a, w => (Region.ready .any ops listed = [] → Q .normal a w) ∧
    ∀ i ∈ Region.ready .any ops listed, wpOp P ops Q i (fun a' w' => (i ∉ tl → C w') ∧ wpAnyD P ops C Q tl n (listed.setIfInBounds i true) a' w') a w
theorem wpAny_of_D {t : List Nat} : ∀ (n : Nat) (listed : Array Bool) (a : Act) (w : World), wpAnyD P ops C Q t n listed a w → wpAny P .any ops Q n listed a w
  | 0, _, _, _, h => h
  | n + 1, _, _, _, h => ⟨h.1, fun i hi => wpOp_mono (fun a' w' h' => wpAny_of_D n _ a' w' h'.2) (h.2 i hi)⟩

/-- The row behind: first such as leave the class alone, one after the other. -/
def wpAl (P : Program) (ops : Array Oper) (C : World → Prop) (Q : Exit → Act → World → Prop) (T : List Oper) : List Oper → Act → World → Prop
  | [], a, w => wpList P ops Q T a w
  | o :: l, a, w => if Region.wanted o (yielded ops a.tmps) then (∀ K : Act → World → Prop, (∀ a' w', C w' → wpAl P ops C Q T l a' w' → K a' w') → o.wp P a w K Q) else C w ∧ wpAl P ops C Q T l (a.put o.dst undef) w

theorem only_ready {t i : Nat} (h : HT ops listed [] (t :: tl)) (hi : i ∈ Region.ready .any ops listed) : i = t := by
  have him := (h.un i).1 (mem_ready.1 hi).1
  by_cases hit : i = t
  · exact hit
  · exfalso
    simp only [List.nil_append, List.mem_cons, hit, false_or] at him
    obtain ⟨pre, post, e⟩ := List.append_of_mem him
    rcases List.eq_nil_or_concat pre with rfl | ⟨pre', x, rfl⟩
    · have h1 := h.chain [] t i post (by rw [e]; rfl)
      rw [ready_free hi ((h.un t).2 (by simp))] at h1
      cases h1
    · have h1 := h.chain (t :: pre') x i post (by rw [e]; simp)
      rw [ready_free hi ((h.un x).2 (by rw [e]; simp))] at h1
      cases h1
theorem first_ready {t : Nat} (h : HT ops listed [] (t :: tl)) : t ∈ Region.ready .any ops listed :=
  ready_of (h.inb t (by simp)) ((h.un t).2 (by simp)) fun k hk => by
    rcases h.edge [] t tl rfl k hk with h1 | h1
    · exact h1
    · simp at h1
theorem none_ready (h : HT ops listed [] []) : Region.ready .any ops listed = [] := by
  rw [List.eq_nil_iff_forall_not_mem]
  intro i hi
  have := (h.un i).1 (mem_ready.1 hi).1
  simp at this

theorem wpAny_tail (t0 : List Nat) : ∀ (tl : List Nat) (T : List Oper) (listed : Array Bool) (a : Act) (w : World), (∀ i ∈ tl, i ∈ t0) → HT ops listed [] tl → (∀ (k : Nat), T[k]? = (tl[k]?).bind (fun (i : Nat) => ops[i]?)) →
    wpList P ops Q T a w → wpAnyD P ops C Q t0 tl.length listed a w
  | [], T, listed, a, w, _, h, hT, hw => by
    have : T = [] := by cases T with
      | nil => rfl
      | cons x T => have := hT 0; simp at this
    subst this
    exact ⟨none_ready h, hw⟩
  | t :: tl, T, listed, a, w, h0, h, hT, hw => by
    have hr := first_ready h
    refine ⟨fun h0 => absurd hr (by rw [h0]; simp), fun i hi => ?_⟩
    obtain rfl := only_ready h hi
    have hlt := h.inb i (by simp)
    cases T with
    | nil => have := hT 0; simp [hlt] at this
    | cons o T =>
      have ho : ops[i]? = some o := by have := hT 0; simpa using this.symm
      have hw' : wpOp P ops Q i (wpList P ops Q T) a w := by unfold wpOp; simp only [ho]; exact hw
      exact wpOp_mono (fun a' w' h' => ⟨fun hn => absurd (h0 i (by simp)) hn, wpAny_tail t0 tl T _ a' w' (fun j hj => h0 j (by simp [hj])) h.tail (fun k => by have := hT (k + 1); simpa using this) h'⟩) hw'

theorem wpAny_al {tl : List Nat} {T : List Oper} (hT : ∀ (k : Nat), T[k]? = (tl[k]?).bind (fun (i : Nat) => ops[i]?)) : ∀ (al : List Nat) (L : List Oper) (listed : Array Bool) (a : Act) (w : World), HT ops listed [] (al ++ tl) →
    (∀ (k : Nat), L[k]? = (al[k]?).bind (fun (i : Nat) => ops[i]?)) → wpAl P ops C Q T L a w → wpAnyD P ops C Q tl (al ++ tl).length listed a w
  | [], L, listed, a, w, h, hL, hw => by
    have : L = [] := by cases L with
      | nil => rfl
      | cons x T => have := hL 0; simp at this
    subst this
    exact wpAny_tail tl tl T listed a w (fun _ h => h) h hT hw
  | t :: al, L, listed, a, w, h, hL, hw => by
    have hr := first_ready h
    refine ⟨fun h0 => absurd hr (by rw [h0]; simp), fun i hi => ?_⟩
    obtain rfl := only_ready h hi
    have hlt := h.inb i (by simp)
    cases L with
    | nil => have := hL 0; simp [hlt] at this
    | cons o L =>
      have ho : ops[i]? = some o := by have := hL 0; simpa using this.symm
      have next := fun (a' : Act) (w' : World) (h' : wpAl P ops C Q T L a' w') => wpAny_al hT al L (listed.setIfInBounds i true) a' w' h.tail (fun k => by have := hL (k + 1); simpa using this) h'
      unfold wpOp
      simp only [ho]
      unfold wpAl at hw
      split at hw
      · rename_i hwt
        rw [if_pos hwt]
        exact .inl (hw _ fun a' w' hc h' => ⟨fun _ => hc, next a' w' h'⟩)
      · rename_i hwt
        rw [if_neg hwt]
        exact ⟨fun _ => hw.1, next _ _ hw.2⟩

/-- One is taken out of the midst: ahead of it stand such as do not meet it. -/
theorem quiet_pull {Qq : Act → Prop} (hs : Region.noSelect ops = true) {i : Nat} {o : Oper} (hi : ops[i]? = some o) : ∀ (pre : List Nat) (L : List Oper) (post : List Oper) (a : Act),
    L.length = pre.length → (∀ (k : Nat), L[k]? = (pre[k]?).bind (fun (i : Nat) => ops[i]?)) → (∀ p ∈ pre, partB ops p i = true) → wpQuiet P ops C Qq (L ++ o :: post) a →
    ∃ v, YieldsIn P ops C o v a ∧ wpQuiet P ops C Qq (L ++ post) (a.put o.dst v)
  | [], L, post, a, hl, hL, hp, h => by
    obtain rfl : L = [] := List.eq_nil_of_length_eq_zero hl
    have h1 : qOp P ops C i (wpQuiet P ops C Qq post) a := by unfold qOp; simp only [hi]; exact h
    exact yieldsIn_of_qOp hi h1
  | p :: pre, [], post, a, hl, hL, hp, h => by simp at hl
  | p :: pre, x :: L, post, a, hl, hL, hp, h => by
    have hx : ops[p]? = some x := by have := hL 0; simpa using this.symm
    have h1 : qOp P ops C p (wpQuiet P ops C Qq (L ++ o :: post)) a := by unfold qOp; simp only [hx]; exact h
    obtain ⟨u, hu, h2⟩ := yieldsIn_of_qOp hx h1
    obtain ⟨v, hv, h3⟩ := quiet_pull hs hi pre L post (a.put x.dst u) (by simpa using hl) (fun k => by have := hL (k + 1); simpa using this) (fun q hq => hp q (by simp [hq])) h2
    have hap : x.apart ops o = true := by have := hp p (by simp); unfold partB at this; simpa [hx, hi] using this
    obtain ⟨a1, a2, a3⟩ := Oper.apart_spec hap
    have hso := fun cs b => Region.noSelect_spec hs i o cs b hi
    have hsx := fun cs b => Region.noSelect_spec hs p x cs b hx
    refine ⟨v, hv.of_same (execOp_put o hso a x.dst u a1).symm (wanted_put o a x.dst u a1).symm, ?_⟩
    have hu' : YieldsIn P ops C x u (a.put o.dst v) := hu.of_same (execOp_put x hsx a o.dst v a3) (wanted_put x a o.dst v a3)
    have h4 : wpQuiet P ops C Qq (L ++ post) ((a.put o.dst v).put x.dst u) := by rw [← Act.put_comm a u v a2]; exact h3
    have h5 := hu'.qOp hx h4
    unfold qOp at h5
    simp only [hx] at h5
    exact h5

theorem HT.pull {pre post : List Nat} {i : Nat} (h : HT ops listed hd tl) (hs : hd = pre ++ i :: post) (hi : i ∈ Region.ready .any ops listed) : HT ops (listed.setIfInBounds i true) (pre ++ post) tl := by
  subst hs
  have hlt : i < listed.size := un_lt ((h.un i).2 (by simp))
  have hpost : ∀ k ∈ pre ++ i :: post, waits ops i k = false := fun k hk => ready_free hi ((h.un k).2 (by simp at hk ⊢; rcases hk with h1 | h1 | h1 <;> simp [h1]))
  refine ⟨fun j => ?_, fun j hj => h.inb j ?_, ?_, ?_, ?_, ?_, h.chain⟩
  · have := h.unset (pre := pre) (post := post ++ tl) (i := i) (by simp) j
    rw [this]; simp
  · simp at hj ⊢; rcases hj with h1 | h1 | h1 <;> simp [h1]
  · have := h.nd
    rw [List.append_assoc, List.cons_append, List.nodup_append] at this
    obtain ⟨n1, n2, n3⟩ := this
    rw [List.append_assoc, List.nodup_append]
    exact ⟨n1, (List.nodup_cons.1 n2).2, fun a ha b hb => n3 a ha b (by simp at hb ⊢; exact .inr hb)⟩
  · intro p j q e k hk
    rw [List.append_assoc] at e
    rcases List.append_eq_append_iff.1 e with ⟨m, e1, e2⟩ | ⟨m, e1, e2⟩
    · rcases h.edge (pre ++ i :: m) j q (by rw [List.append_assoc, List.cons_append, e2]; simp) k hk with h1 | h1
      · exact .inl (lset (.inl h1) hlt)
      · subst e1
        simp only [List.mem_append, List.mem_cons] at h1
        rcases h1 with h1 | rfl | h1
        · exact .inr (by simp [h1])
        · exact .inl (lset (.inr rfl) hlt)
        · exact .inr (by simp [h1])
    · cases m with
      | nil =>
        simp at e1 e2
        subst e1
        rcases h.edge (pre ++ [i]) j q (by rw [List.append_assoc, List.append_assoc]; simp [← e2]) k hk with h1 | h1
        · exact .inl (lset (.inl h1) hlt)
        · simp only [List.mem_append, List.mem_singleton] at h1
          rcases h1 with h1 | rfl
          · exact .inr h1
          · exact .inl (lset (.inr rfl) hlt)
      | cons y m =>
        simp only [List.cons_append, List.cons.injEq] at e2
        obtain ⟨rfl, e2⟩ := e2
        rcases h.edge p j (m ++ i :: (post ++ tl)) (by rw [e1]; simp) k hk with h1 | h1
        · exact .inl (lset (.inl h1) hlt)
        · exact .inr h1
  · intro p j q k e hk
    rcases List.append_eq_append_iff.1 e with ⟨m, e1, e2⟩ | ⟨m, e1, e2⟩
    · exact h.part (pre ++ i :: m) j q k (by rw [e2]; simp) hk
    · cases m with
      | nil => simp at e1 e2; subst e1; exact h.part (pre ++ [i]) j q k (by simp [← e2]) hk
      | cons y m =>
        simp only [List.cons_append, List.cons.injEq] at e2
        obtain ⟨rfl, rfl⟩ := e2
        exact h.part p j (m ++ i :: post) k (by rw [e1]; simp) (by simp at hk ⊢; rcases hk with h1 | h1 <;> simp [h1])
  · intro p j q e
    rcases List.append_eq_append_iff.1 e with ⟨m, e1, e2⟩ | ⟨m, e1, e2⟩
    · exact h.sink (pre ++ i :: m) j q (by rw [e2]; simp)
    · cases m with
      | nil => simp at e1 e2; subst e1; exact h.sink (pre ++ [i]) j q (by simp [← e2])
      | cons y m =>
        simp only [List.cons_append, List.cons.injEq] at e2
        obtain ⟨rfl, rfl⟩ := e2
        obtain ⟨k, hk, hw⟩ := h.sink p j (m ++ i :: post) (by rw [e1]; simp)
        refine ⟨k, ?_, hw⟩
        simp only [List.append_assoc, List.cons_append, List.mem_append, List.mem_cons] at hk ⊢
        rcases hk with h1 | rfl | h1 | h1
        · exact .inl h1
        · rw [hpost j (by rw [e1]; simp)] at hw; cases hw
        · exact .inr (.inl h1)
        · exact .inr (.inr h1)

theorem wpAny_ht (hs : Region.noSelect ops = true) {al : List Nat} {T L : List Oper} (hT : ∀ (k : Nat), T[k]? = (tl[k]?).bind (fun (i : Nat) => ops[i]?)) (hL : ∀ (k : Nat), L[k]? = (al[k]?).bind (fun (i : Nat) => ops[i]?)) : ∀ (n : Nat) (hd : List Nat) (H : List Oper) (listed : Array Bool) (a : Act) (w : World), hd.length = n → (∀ i ∈ hd, i ∉ tl) → HT ops listed hd (al ++ tl) →
    H.length = hd.length → (∀ (k : Nat), H[k]? = (hd[k]?).bind (fun (i : Nat) => ops[i]?)) → C w → wpQuiet P ops C (fun a' => ∀ w', C w' → wpAl P ops C Q T L a' w') H a → wpAnyD P ops C Q tl (n + (al ++ tl).length) listed a w
  | 0, hd, H, listed, a, w, hn, hnt, h, hl, hH, hC, hq => by
    obtain rfl : hd = [] := List.eq_nil_of_length_eq_zero hn
    obtain rfl : H = [] := List.eq_nil_of_length_eq_zero (by simpa using hl)
    rw [Nat.zero_add]
    exact wpAny_al hT al L listed a w h hL (hq w hC)
  | n + 1, hd, H, listed, a, w, hn, hnt, h, hl, hH, hC, hq => by
    rw [show n + 1 + (al ++ tl).length = (n + (al ++ tl).length) + 1 by omega]
    obtain ⟨x, hd', rfl⟩ : ∃ x hd', hd = x :: hd' := by cases hd with
      | nil => simp at hn
      | cons x l => exact ⟨x, l, rfl⟩
    have hr : x ∈ Region.ready .any ops listed := ready_of (h.inb x (by simp)) ((h.un x).2 (by simp)) fun k hk => by
      rcases h.edge [] x (hd' ++ (al ++ tl)) rfl k hk with h1 | h1
      · exact h1
      · simp at h1
    refine ⟨fun h0 => absurd hr (by rw [h0]; simp), fun i hi => ?_⟩
    have him := (h.un i).1 (mem_ready.1 hi).1
    rcases List.mem_append.1 him with him | him
    · obtain ⟨pre, post, e⟩ := List.append_of_mem him
      have hlt := h.inb i (List.mem_append_left _ him)
      have ho : ops[i]? = some ops[i] := Array.getElem?_eq_getElem hlt
      have hpre : pre.length ≤ H.length := by rw [hl, e]; simp
      have hHi : H[pre.length]? = some ops[i] := by rw [hH, e]; simp [ho]
      have hlt2 : pre.length < H.length := (List.getElem?_eq_some_iff.1 hHi).1
      have eH : H = H.take pre.length ++ ops[i] :: H.drop (pre.length + 1) := by
        have h1 : H[pre.length] = ops[i] := by rw [List.getElem?_eq_getElem hlt2] at hHi; exact Option.some.inj hHi
        conv => lhs; rw [← List.take_append_drop pre.length H, List.drop_eq_getElem_cons hlt2, h1]
      rw [eH] at hq
      have hpart : ∀ p ∈ pre, partB ops p i = true := fun p hp => by
        obtain ⟨p1, p2, rfl⟩ := List.append_of_mem hp
        rcases h.part p1 p (p2 ++ i :: post) i (by rw [e]; simp) (by simp) with h1 | h1
        · rw [ready_free hi ((h.un p).2 (by rw [e]; simp))] at h1; cases h1
        · exact h1
      obtain ⟨v, hv, hq'⟩ := quiet_pull hs ho pre (H.take pre.length) _ a (by simp; omega) (fun k => by
        rw [List.getElem?_take]
        split
        · rw [hH, e, List.getElem?_append_left (by assumption)]
        · rw [List.getElem?_eq_none (by omega)]; rfl) hpart hq
      have hop := hv.qOp ho hq'
      refine wpOp_of_qOp hC (fun a' w' hw' hK => ⟨fun _ => hw', wpAny_ht hs hT hL n (pre ++ post) (H.take pre.length ++ H.drop (pre.length + 1)) (listed.setIfInBounds i true) a' w' ?_ (fun j hj => hnt j (by rw [e]; simp at hj ⊢; rcases hj with h1 | h1 <;> simp [h1])) (h.pull e hi) ?_ (fun k => ?_) hw' hK⟩) hop
      · rw [e] at hn; simp at hn ⊢; omega
      · rw [e] at hl; simp at hl ⊢; omega
      · rcases Nat.lt_or_ge k pre.length with hk | hk
        · rw [List.getElem?_append_left (by simp; omega), List.getElem?_take, if_pos hk, hH, e, List.getElem?_append_left hk, List.getElem?_append_left hk]
        · rw [List.getElem?_append_right (by simp; omega), List.getElem?_drop, List.length_take, Nat.min_eq_left hpre, hH, e, List.getElem?_append_right (by omega), List.getElem?_append_right hk,
            show pre.length + 1 + (k - pre.length) - pre.length = (k - pre.length) + 1 by omega, List.getElem?_cons_succ]
    · exfalso
      obtain ⟨pre, post, e⟩ := List.append_of_mem him
      rcases List.eq_nil_or_concat pre with rfl | ⟨pre', t, rfl⟩
      · rcases List.eq_nil_or_concat hd' with h0 | ⟨hd2, z, h0⟩
        · obtain ⟨j, hj, hw⟩ := h.sink [] x hd' rfl
          rw [h0, e] at hj
          simp at hj
          subst hj
          rw [ready_free hi ((h.un x).2 (by simp))] at hw; cases hw
        · obtain ⟨j, hj, hw⟩ := h.sink (x :: hd2) z [] (by rw [h0]; simp)
          rw [e] at hj
          simp at hj
          subst hj
          rw [ready_free hi ((h.un z).2 (by rw [h0]; simp))] at hw; cases hw
      · have h1 := h.chain pre' t i post (by rw [e]; simp)
        rw [ready_free hi ((h.un t).2 (by rw [e]; simp))] at h1
        cases h1
end

/-- The same as one Bool, for a region that begins. -/
def edgeB (ops : Array Oper) : List Nat → List Nat → Bool
  | _, [] => true
  | pre, i :: post => (match ops[i]? with | some o => o.after.all fun e => !Region.binds .any e || pre.contains e.on | none => false) && edgeB ops (i :: pre) post
def partsB (ops : Array Oper) : List Nat → Bool
  | [] => true
  | i :: post => (post.all fun j => waits ops j i || partB ops i j) && partsB ops post
def sinkB (ops : Array Oper) (t : List Nat) : List Nat → Bool
  | [] => true
  | i :: post => ((post ++ t).any fun j => waits ops j i) && sinkB ops t post
def chainB (ops : Array Oper) : List Nat → Bool
  | [] => true
  | [_] => true
  | t :: t' :: post => waits ops t' t && chainB ops (t' :: post)
theorem edgeB_spec {ops : Array Oper} : ∀ (l pre0 : List Nat), edgeB ops pre0 l = true → ∀ pre i post, l = pre ++ i :: post → ∀ k, waits ops i k = true → k ∈ pre ∨ k ∈ pre0
  | [], _, _, pre, i, post, e, _, _ => by simp at e
  | x :: l, pre0, h, pre, i, post, e, k, hk => by
    simp only [edgeB, Bool.and_eq_true] at h
    cases pre with
    | nil =>
      simp at e
      obtain ⟨rfl, rfl⟩ := e
      obtain ⟨o, ho, ed, hed, hb, hon⟩ := waits_spec hk
      have h1 := h.1
      rw [ho] at h1
      have := Array.all_eq_true_iff_forall_mem.1 h1 ed hed
      simp [hb] at this
      exact .inr (hon ▸ this)
    | cons y pre =>
      simp at e
      obtain ⟨rfl, e⟩ := e
      rcases edgeB_spec l (x :: pre0) h.2 pre i post e k hk with h1 | h1
      · exact .inl (by simp [h1])
      · rcases List.mem_cons.1 h1 with rfl | h1
        · exact .inl (by simp)
        · exact .inr h1
theorem partsB_spec {ops : Array Oper} : ∀ (l : List Nat), partsB ops l = true → ∀ pre i post j, l = pre ++ i :: post → j ∈ post → waits ops j i = true ∨ partB ops i j = true
  | [], _, pre, i, post, j, e, _ => by simp at e
  | x :: l, h, pre, i, post, j, e, hj => by
    simp only [partsB, Bool.and_eq_true] at h
    cases pre with
    | nil => simp at e; obtain ⟨rfl, rfl⟩ := e; simpa using List.all_eq_true.1 h.1 j hj
    | cons y pre => simp at e; exact partsB_spec l h.2 pre i post j e.2 hj
theorem sinkB_spec {ops : Array Oper} {t : List Nat} : ∀ (l : List Nat), sinkB ops t l = true → ∀ pre i post, l = pre ++ i :: post → ∃ j ∈ post ++ t, waits ops j i = true
  | [], _, pre, i, post, e => by simp at e
  | x :: l, h, pre, i, post, e => by
    simp only [sinkB, Bool.and_eq_true] at h
    cases pre with
    | nil => simp at e; obtain ⟨rfl, rfl⟩ := e; exact List.any_eq_true.1 h.1
    | cons y pre => simp at e; exact sinkB_spec l h.2 pre i post e.2
theorem chainB_spec {ops : Array Oper} : ∀ (l : List Nat), chainB ops l = true → ∀ pre t t' post, l = pre ++ t :: t' :: post → waits ops t' t = true
  | [], _, pre, t, t', post, e => by simp at e
  | [x], _, pre, t, t', post, e => by
    have := congrArg List.length e; simp at this; omega
  | x :: y :: l, h, pre, t, t', post, e => by
    simp only [chainB, Bool.and_eq_true] at h
    cases pre with
    | nil => simp at e; obtain ⟨rfl, rfl, rfl⟩ := e; exact h.1
    | cons z pre => simp at e; exact chainB_spec (y :: l) h.2 pre t t' post e.2

/-- What floats: one that looks at no memory is taken first. -/
def takeB (ops : Array Oper) : List Nat → Array Bool → Bool
  | [], _ => true
  | i :: l, listed => (Region.ready .any ops listed).contains i && Region.free .any ops listed i && takeB ops l (listed.setIfInBounds i true)
def setAll (listed : Array Bool) (l : List Nat) : Array Bool := l.foldl (fun x i => x.setIfInBounds i true) listed
/-- Those that hand a value on and leave the world alone. -/
def plainB (o : Oper) : Bool :=
  match o.op with
  | .move _ | .assign _ | .load .. | .fieldAddr .. | .indexAddr .. | .index .. | .binOp .. | .unOp .. | .convert .. | .slice .. | .field .. | .extract .. | .build .. => true
  | .pick .. | .makeInterface .. | .nilCheck .. | .typeAssert .. => true
  | .call { callee := .builtin .len, .. } | .call { callee := .builtin .cap, .. } | .call { callee := .builtin .min, .. } | .call { callee := .builtin .max, .. } => true
  | _ => false
theorem nilCheck_run {P : Program} {C : World → Prop} {w : World} {v : Value} {o : Oper} {a : Act} {x : Operand} (ho : o.op = .nilCheck x) (h : Oper.quietUpon P C w v ((execOp a.eval o).run P w)) : (execOp a.eval o).run P w = .ok (.value v) w := by
  unfold execOp at h ⊢
  simp only [ho] at h ⊢
  generalize a.eval x = y at h ⊢
  split at h
  · simp [runtimePanic, Oper.quietUpon] at h
  · simp [runtimePanic, Oper.quietUpon] at h
  · simp [runtimePanic, Oper.quietUpon] at h
  · split at h
    · simp [runtimePanic, Oper.quietUpon] at h
    · rename_i t w0 hq
      simp only [Sem.run_bind] at h ⊢
      cases hx : (program).run P w with
      | halt e w' => rw [hx] at h; simp [Result.andThen, Oper.quietUpon] at h
      | ok p w' =>
        rw [hx] at h
        simp only [Result.andThen_ok] at h ⊢
        cases hy : (nilAhead (p.types.size + Made.depth) t w0 _).run P w' with
        | halt e w'' => rw [hy] at h; simp [Result.andThen, Oper.quietUpon] at h
        | ok b w'' =>
          rw [hy] at h
          simp only [Result.andThen_ok] at h ⊢
          split at h
          · simp [unsupported, Oper.quietUpon, Result.andThen] at h
          · rename_i hb
            rw [if_neg hb]
            simp only [Sem.run_pure, Oper.quietUpon] at h ⊢
            rw [h.1, h.2]
    · simp only [Sem.run_pure, Oper.quietUpon] at h ⊢
      rw [h.2]
  · simp only [Sem.run_pure, Oper.quietUpon] at h ⊢
    rw [h.2]
theorem plain_run {P : Program} {o : Oper} {a : Act} {C : World → Prop} {w : World} {v : Value} (hp : plainB o = true) (h : o.quietAt P a C w v) : (execOp a.eval o).run P w = .ok (.value v) w := by
  have fin : ∀ (r : Sem Value), Oper.quietUpon P C w v ((do pure (Next.value (← r)) : Sem Next).run P w) → (do pure (Next.value (← r)) : Sem Next).run P w = .ok (.value v) w := by
    intro r hr
    rw [Sem.run_bind] at hr ⊢
    cases hx : r.run P w with
    | ok u w' =>
      rw [hx] at hr
      simp only [Result.andThen_ok, Sem.run_pure, Oper.quietUpon] at hr ⊢
      rw [hr.1, hr.2]
    | halt x w' => rw [hx] at hr; simp [Result.andThen, Oper.quietUpon] at hr
  have fin2 : ∀ (r : Sem Bool) (g : Bool → Value), Oper.quietUpon P C w v ((do let b ← r; pure (Next.value (g b)) : Sem Next).run P w) → (do let b ← r; pure (Next.value (g b)) : Sem Next).run P w = .ok (.value v) w := by
    intro r g hr
    rw [Sem.run_bind] at hr ⊢
    cases hx : r.run P w with
    | ok u w' =>
      rw [hx] at hr
      simp only [Result.andThen_ok, Sem.run_pure, Oper.quietUpon] at hr ⊢
      rw [hr.1, hr.2]
    | halt x w' => rw [hx] at hr; simp [Result.andThen, Oper.quietUpon] at hr
  unfold Oper.quietAt at h
  unfold plainB at hp
  by_cases hnc : ∃ x, o.op = .nilCheck x
  · obtain ⟨x, hx⟩ := hnc; exact nilCheck_run hx h
  unfold execOp at h ⊢
  split at hp <;> rename_i ho <;> (try cases hp) <;> simp only [ho] at h ⊢ <;> first
    | exact (hnc ⟨_, ho⟩).elim
    | exact fin _ h
    | exact fin2 _ (fun b => if b = true then _ else _) h
    | (simp only [resolve, invoke, builtin, Sem.run_bind, Sem.run_pure, Result.andThen_ok] at h ⊢; simp only [← Sem.run_pure, ← Sem.run_bind] at h ⊢; exact fin _ h)
    | (simp only [resolve, invoke, builtin, Sem.run_bind, Sem.run_pure, Result.andThen_ok] at h ⊢
       have h2 := fin _ (by rw [Sem.run_bind]; exact h)
       rw [Sem.run_bind] at h2
       exact h2)
    | (simp only [Sem.run_pure, Oper.quietUpon] at h ⊢; rw [h.2])

/-- Every one that waits for i has it behind itself, when it comes up. -/
def depsOf (ops : Array Oper) (k : Nat) : List Nat :=
  match ops[k]? with
  | some o => (o.after.toList.filter fun e => Region.binds .any e).map (·.on)
  | none => []
def downB (ops : Array Oper) : Nat → List Nat → List Nat
  | 0, S => S
  | k + 1, S => downB ops k (if S.contains k then depsOf ops k ++ S else S)
def reachB (ops : Array Oper) (j i : Nat) : Bool := (downB ops ops.size (depsOf ops j)).contains i
theorem depsOf_waits {ops : Array Oper} {k i : Nat} (h : i ∈ depsOf ops k) : waits ops k i = true := by
  unfold depsOf at h
  split at h
  · rename_i o ho
    obtain ⟨e, he, rfl⟩ := List.mem_map.1 h
    obtain ⟨h1, h2⟩ := List.mem_filter.1 he
    exact waits_mk ho (Array.mem_toList_iff.1 h1) h2 rfl
  · cases h
def Closed (ops : Array Oper) (listed : Array Bool) : Prop := ∀ j k, listed.getD j false = true → waits ops j k = true → listed.getD k false = true
theorem ready_waits {ops : Array Oper} {listed : Array Bool} {j k : Nat} (hj : j ∈ Region.ready .any ops listed) (hk : waits ops j k = true) : listed.getD k false = true := by
  obtain ⟨_, o, ho, hall⟩ := mem_ready.1 hj
  obtain ⟨o', ho', e, he, hb, hon⟩ := waits_spec hk
  have : o' = o := Option.some.inj (ho'.symm.trans ho)
  subst this
  exact hon ▸ hall e he hb
theorem down_listed {ops : Array Oper} {listed : Array Bool} (hc : Closed ops listed) : ∀ (k : Nat) (S : List Nat), (∀ s ∈ S, listed.getD s false = true) → ∀ s ∈ downB ops k S, listed.getD s false = true
  | 0, S, h => h
  | k + 1, S, h => by
    refine down_listed hc k _ ?_
    split
    · rename_i hk
      have hk' : k ∈ S := by simpa using hk
      intro s hs
      rcases List.mem_append.1 hs with h1 | h1
      · exact hc k s (h k hk') (depsOf_waits h1)
      · exact h s h1
    · exact h
theorem reach_listed {ops : Array Oper} {listed : Array Bool} (hc : Closed ops listed) (j i : Nat) (hj : ∀ k, waits ops j k = true → listed.getD k false = true) (h : reachB ops j i = true) : listed.getD i false = true :=
  down_listed hc _ _ (fun s hs => hj s (depsOf_waits hs)) i (by simpa [reachB] using h)
theorem Closed.set_ {ops : Array Oper} {listed : Array Bool} (hc : Closed ops listed) {i : Nat} (hi : i ∈ Region.ready .any ops listed) : Closed ops (listed.setIfInBounds i true) := by
  intro j k hj hk
  by_cases hij : i = j
  · subst hij; exact getD_set_true (ready_waits hi hk)
  · rw [getD_set_ne false hij] at hj; exact getD_set_true (hc j k hj hk)

theorem wpAnyD_first {P : Program} {ops : Array Oper} {Q : Exit → Act → World → Prop} {C : World → Prop} {tl : List Nat} (hs : Region.noSelect ops = true) {i : Nat} {oi : Oper} {v : Value} (hi : ops[i]? = some oi) (hQ : ∀ c a w, Q (.panic c) (a.put oi.dst v) w → Q (.panic c) a w)
    (hr : ∀ j ∈ tl, reachB ops j i = true) : ∀ (fuel : Nat) (listed : Array Bool) (a : Act) (w : World), Closed ops listed →
      (∀ j oj, ops[j]? = some oj → j ≠ i → listed.getD j true = false → (∀ e ∈ oj.after, Region.binds .any e = true → e.on ≠ i) → oi.apart ops oj = true) →
      i ∈ Region.ready .any ops listed → YieldsIf P ops C oi v a → C w →
      wpAnyD P ops C Q tl fuel (listed.setIfInBounds i true) (a.put oi.dst v) w → wpAnyD P ops C Q tl (fuel + 1) listed a w := by
  intro fuel
  have hsel := fun j o cs b (h : ops[j]? = some o) => Region.noSelect_spec hs j o cs b h
  induction fuel with
  | zero =>
    intro listed a w _ _ hri hy hS H
    refine ⟨fun h => absurd hri (by rw [h]; simp), fun j hj => ?_⟩
    by_cases hji : j = i
    · subst hji; exact hy.wpOp hi hS ⟨fun _ => hS, H⟩
    · have := ready_mono hj hji
      rw [H.1] at this
      cases this
  | succ fuel ih =>
    intro listed a w hc hfree hri hy hS H
    refine ⟨fun h => absurd hri (by rw [h]; simp), fun j hj => ?_⟩
    by_cases hji : j = i
    · subst hji; exact hy.wpOp hi hS ⟨fun _ => hS, H⟩
    · have h1 := H.2 j (ready_mono hj hji)
      obtain ⟨hjun, oj, hoj, hall⟩ := mem_ready.1 hj
      have hiun := (mem_ready.1 hri).1
      have hnot : ∀ e ∈ oj.after, Region.binds .any e = true → e.on ≠ i := fun e he hb heq => by
        have h1 := hall e he hb
        rw [heq, getD_tf hiun] at h1
        cases h1
      have hjt : j ∉ tl := fun hjt => by
        have := reach_listed hc j i (fun k hk => ready_waits hj hk) (hr j hjt)
        rw [getD_tf hiun] at this
        cases this
      have h2 := wpOp_putIf hoj (hfree j oj hoj hji hjun hnot) (fun cs b => hsel i oi cs b hi) (fun cs b => hsel j oj cs b hoj) hQ hy h1
      have hfree' : ∀ k ok, ops[k]? = some ok → k ≠ i → (listed.setIfInBounds j true).getD k true = false →
          (∀ e ∈ ok.after, Region.binds .any e = true → e.on ≠ i) → oi.apart ops ok = true := fun k ok hk hki hun hno => by
        refine hfree k ok hk hki ?_ hno
        by_cases hjk : j = k
        · subst hjk; exact hjun
        · rw [getD_set_ne true hjk] at hun; exact hun
      refine wpOp_mono (fun a' w' h3 => ⟨fun _ => h3.2.1 hjt, ih (listed.setIfInBounds j true) a' w' (hc.set_ hj) hfree' (ready_mono hri (Ne.symm hji)) h3.1 (h3.2.1 hjt) ?_⟩) h2
      rw [Array.setIfInBounds_comm _ _ hji]
      exact h3.2.2

theorem wpAny_float {P : Program} {ops : Array Oper} {Q : Exit → Act → World → Prop} {C : World → Prop} {tl : List Nat} (hs : Region.noSelect ops = true) (hQ : ∀ c a x v w, Q (.panic c) (a.put x v) w → Q (.panic c) a w) (g : Nat) (w : World) (hC : C w) : ∀ (fl : List Nat) (F : List Oper) (listed : Array Bool) (a : Act), Closed ops listed →
    (∀ i ∈ fl, ∀ j ∈ tl, reachB ops j i = true) → (∀ o ∈ F, plainB o = true) →
    (∀ (k : Nat), F[k]? = (fl[k]?).bind (fun (i : Nat) => ops[i]?)) → takeB ops fl listed = true → wpQuiet P ops C (fun a' => wpAnyD P ops C Q tl g (setAll listed fl) a' w) F a → wpAnyD P ops C Q tl (g + fl.length) listed a w
  | [], F, listed, a, _, _, _, hF, _, h => by
    have : F = [] := by cases F with
      | nil => rfl
      | cons x T => have := hF 0; simp at this
    subst this
    exact h
  | i :: fl, F, listed, a, hc, hreach, hpl, hF, hB, h => by
    simp only [takeB, Bool.and_eq_true] at hB
    obtain ⟨⟨hr, hf⟩, hB⟩ := hB
    have hr' : i ∈ Region.ready .any ops listed := by simpa using hr
    have hi : i < ops.size := by
      obtain ⟨o, ho, _⟩ := (mem_ready.1 hr').2
      exact (Array.getElem?_eq_some_iff.1 ho).1
    cases F with
    | nil => have := hF 0; simp [hi] at this
    | cons o F =>
      have ho : ops[i]? = some o := by have := hF 0; simpa using this.symm
      have h1 : qOp P ops C i (wpQuiet P ops C (fun a' => wpAnyD P ops C Q tl g (setAll listed (i :: fl)) a' w) F) a := by unfold qOp; simp only [ho]; exact h
      obtain ⟨v, hy, h⟩ := yieldsIn_of_qOp ho h1
      have hy' : YieldsIf P ops C o v a := by
        rcases hy with ⟨h2, h3⟩ | h2
        · exact .inl ⟨h2, fun w hw => plain_run (hpl o (by simp)) (h3 w hw)⟩
        · exact .inr h2
      have := wpAny_float hs hQ g w hC fl F (listed.setIfInBounds i true) (a.put o.dst v) (hc.set_ hr') (fun j hj => hreach j (by simp [hj])) (fun o ho => hpl o (by simp [ho])) (fun k => by have := hF (k + 1); simpa using this) hB h
      exact wpAnyD_first hs ho (fun c a w => hQ c a _ _ w) (hreach i (by simp)) _ listed a w hc (Region.free_spec ho hf) hr' hy' hC this

def htfB (ops : Array Oper) (fl hd al tl : List Nat) : Bool :=
  Region.noSelect ops && takeB ops fl (Array.replicate ops.size false) && (fl ++ hd ++ (al ++ tl)).all (· < ops.size) && decide ((fl ++ hd ++ (al ++ tl)).length = ops.size) && decide ((fl ++ hd ++ (al ++ tl)).Nodup) &&
    (List.range ops.size).all (fun i => (fl ++ hd ++ (al ++ tl)).contains i) && edgeB ops fl (hd ++ (al ++ tl)) && partsB ops hd && sinkB ops (al ++ tl).head?.toList hd && chainB ops (al ++ tl) &&
    (fl.all fun i => (tl.all fun j => reachB ops j i) && match ops[i]? with | some o => plainB o | none => false)

theorem setAll_get : ∀ (l : List Nat) (listed : Array Bool) (i : Nat) (d : Bool), (∀ j ∈ l, j < listed.size) → (setAll listed l).getD i d = if i ∈ l then true else listed.getD i d
  | [], _, _, _, _ => by simp [setAll]
  | x :: l, listed, i, d, h => by
    have ih := setAll_get l (listed.setIfInBounds x true) i d (fun j hj => by simpa using h j (by simp [hj]))
    have e : setAll listed (x :: l) = setAll (listed.setIfInBounds x true) l := rfl
    rw [e, ih]
    by_cases h1 : i ∈ l
    · simp [h1]
    · rw [if_neg h1]
      by_cases h2 : i = x
      · subst h2; simp [h i (by simp)]
      · rw [getD_set_ne d (Ne.symm h2), if_neg (by simp [h1, h2])]

theorem HT.off {ops : Array Oper} {fl hd al tl : List Nat} (h : htfB ops fl hd al tl = true) : Region.noSelect ops = true ∧ takeB ops fl (Array.replicate ops.size false) = true ∧ (fl ++ hd ++ (al ++ tl)).length = ops.size ∧ HT ops (setAll (Array.replicate ops.size false) fl) hd (al ++ tl) ∧ (∀ i ∈ fl, i < ops.size) ∧ (∀ i ∈ hd, i ∉ tl) ∧ (∀ i ∈ fl, ∀ j ∈ tl, reachB ops j i = true) ∧ (∀ i ∈ fl, ∀ o, ops[i]? = some o → plainB o = true) := by
  simp only [htfB, Bool.and_eq_true, decide_eq_true_eq] at h
  obtain ⟨⟨⟨⟨⟨⟨⟨⟨⟨⟨h0, h9⟩, h1⟩, h2⟩, h3⟩, h8⟩, h4⟩, h5⟩, h6⟩, h7⟩, h11⟩ := h
  have h1' : ∀ i ∈ fl ++ hd ++ (al ++ tl), i < ops.size := fun i hi => by simpa using List.all_eq_true.1 h1 i hi
  have hfl : ∀ j ∈ fl, j < (Array.replicate ops.size false).size := fun j hj => by simpa using h1' j (by simp [hj])
  rw [List.append_assoc, List.nodup_append] at h3
  obtain ⟨n1, n2, n3⟩ := h3
  refine ⟨h0, h9, h2, ⟨fun i => ?_, fun i hi => h1' i (by rw [List.append_assoc]; exact List.mem_append_right _ hi), n2, fun pre i post e k hk => ?_, partsB_spec hd h5, sinkB_spec hd h6, chainB_spec (al ++ tl) h7⟩, fun i hi => h1' i (by simp [hi]), fun i hi ht => ?_, fun i hi j hj => ?_, fun i hi o ho => ?_⟩
  · rw [setAll_get fl _ i true hfl]
    constructor
    · intro hi
      by_cases hf : i ∈ fl
      · simp [hf] at hi
      · rw [if_neg hf] at hi
        have hlt : i < ops.size := by
          rcases Nat.lt_or_ge i ops.size with h | h
          · exact h
          · rw [Array.getD_eq_getD_getElem?, Array.getElem?_eq_none (show (Array.replicate ops.size false).size ≤ i by simpa using h)] at hi
            cases hi
        have := List.all_eq_true.1 h8 i (List.mem_range.2 hlt)
        have h10 : i ∈ fl ++ (hd ++ (al ++ tl)) := by simpa using this
        exact (List.mem_append.1 h10).resolve_left hf
    · intro hi
      have hf : i ∉ fl := fun hf => n3 i hf i hi rfl
      rw [if_neg hf]
      have := h1' i (by rw [List.append_assoc]; exact List.mem_append_right _ hi)
      simp [this]
  · rcases edgeB_spec _ _ h4 pre i post e k hk with h | h
    · exact .inr h
    · left; rw [setAll_get fl _ k false hfl, if_pos h]
  · rw [List.nodup_append] at n2
    exact n2.2.2 i hi i (List.mem_append_right _ ht) rfl
  · have := List.all_eq_true.1 h11 i hi
    simp only [Bool.and_eq_true] at this
    exact List.all_eq_true.1 this.1 j hj
  · have := List.all_eq_true.1 h11 i hi
    simp only [Bool.and_eq_true, ho] at this
    exact this.2

def nth (l : List Oper) (i : Nat) : Oper := (l[i]?).getD default
def pick (l : List Oper) (is : List Nat) : List Oper := is.map (nth l)
theorem pick_nil (l : List Oper) : pick l [] = [] := rfl
theorem pick_cons (l : List Oper) (i : Nat) (is : List Nat) : pick l (i :: is) = nth l i :: pick l is := rfl
theorem nth_zero (o : Oper) (l : List Oper) : nth (o :: l) 0 = o := rfl
theorem nth_succ (o : Oper) (l : List Oper) (n : Nat) : nth (o :: l) (n + 1) = nth l n := rfl
theorem filter_get {l : List Oper} (m : List Nat) (hm : ∀ i ∈ m, i < l.length) : (pick l m).length = m.length ∧ ∀ (k : Nat), (pick l m)[k]? = (m[k]?).bind (fun (i : Nat) => l.toArray[i]?) := by
  refine ⟨by simp [pick], fun k => ?_⟩
  unfold pick
  rw [List.getElem?_map]
  cases hk : m[k]? with
  | none => rfl
  | some i =>
    have hi := hm i (List.mem_of_getElem? hk)
    simp [nth, hi]

theorem closed_none (ops : Array Oper) (n : Nat) : Closed ops (Array.replicate n false) := by
  intro j k hj
  rcases Nat.lt_or_ge j n with h | h
  · simp [h] at hj
  · rw [Array.getD_eq_getD_getElem?, Array.getElem?_eq_none (by simpa using h)] at hj; cases hj

theorem wp_region_ht {P : Program} {id : Nat} {Q : Exit → Act → World → Prop} {a : Act} {w : World} {l : List Oper} {C : World → Prop} (fl hd al tl : List Nat) (hm : P.follows .mixedOrders = true) (hB : htfB l.toArray fl hd al tl = true) (hQ : ∀ c a x v w, Q (.panic c) (a.put x v) w → Q (.panic c) a w) (hC : C { w with drawn := w.drawn + 1 })
    (h : wpQuiet P l.toArray C (wpQuiet P l.toArray C (fun a' => ∀ w', C w' → wpAl P l.toArray C Q (pick l tl) (pick l al) a' w') (pick l hd)) (pick l fl) a) : (Code.region id l.toArray true).wp P Q a w := by
  obtain ⟨hs, htk, hlen, ht, hfl, hnt, hreach, hplain⟩ := HT.off hB
  have hin : ∀ i ∈ hd ++ (al ++ tl), i < l.length := fun i hi => by simpa using ht.inb i hi
  obtain ⟨k1, k2⟩ := filter_get (l := l) hd fun i hi => hin i (List.mem_append_left _ hi)
  obtain ⟨_, k5⟩ := filter_get (l := l) al fun i hi => hin i (List.mem_append_right _ (List.mem_append_left _ hi))
  obtain ⟨_, k3⟩ := filter_get (l := l) tl fun i hi => hin i (List.mem_append_right _ (List.mem_append_right _ hi))
  obtain ⟨_, k4⟩ := filter_get (l := l) fl fun i hi => by simpa using hfl i hi
  refine wp_region_any hm ?_
  have key : ∀ a', wpQuiet P l.toArray C (fun a' => ∀ w', C w' → wpAl P l.toArray C Q (pick l tl) (pick l al) a' w') (pick l hd) a' →
      wpAnyD P l.toArray C Q tl (hd.length + (al ++ tl).length) (setAll (Array.replicate l.toArray.size false) fl) a' { w with drawn := w.drawn + 1 } := fun a' h' => wpAny_ht (C := C) hs k3 k5 hd.length hd _ _ a' _ rfl hnt ht k1 k2 hC h'
  have mono : ∀ (F : List Oper) (a : Act) (N N' : Act → Prop), (∀ a, N a → N' a) → wpQuiet P l.toArray C N F a → wpQuiet P l.toArray C N' F a := by
    intro F
    induction F with
    | nil => intro a N N' hN h; exact hN _ h
    | cons o F ih =>
      intro a N N' hN h
      unfold wpQuiet at h ⊢
      split
      · rename_i hw; rw [if_pos hw] at h; exact Oper.quiet_mono (fun a h => ih a N N' hN h) h
      · rename_i hw; rw [if_neg hw] at h; exact ih _ N N' hN h
  have hpl : ∀ o ∈ pick l fl, plainB o = true := fun o ho => by
    obtain ⟨i, hi, rfl⟩ := List.mem_map.1 ho
    have hlt := hfl i hi
    exact hplain i hi _ (by simp [nth] at hlt ⊢; simp [hlt])
  have := wpAny_float (C := C) hs hQ (hd.length + (al ++ tl).length) { w with drawn := w.drawn + 1 } hC fl _ (Array.replicate l.toArray.size false) a (closed_none _ _) hreach hpl k4 htk (mono _ a _ _ key h)
  have e : hd.length + (al ++ tl).length + fl.length = l.toArray.size := by
    rw [← hlen]; simp; omega
  rw [e] at this
  exact wpAny_of_D _ _ _ _ this

/-- fl: taken first (loads, addresses); hd: quiet calls and what hangs on them; al: such as make memory; tl: the rest, in a row. Nothing panics. -/
theorem wp_region_seq {P : Program} {id : Nat} {Q : Exit → Act → World → Prop} {a : Act} {w : World} {l : List Oper} (fl hd al tl : List Nat) (hm : P.follows .mixedOrders = true) (hB : htfB l.toArray fl hd al tl = true) (w0 : World) (hw : Keep w0 w)
    (h : wpQuiet P l.toArray (fun w' => ∃ x, w' = aft w0 x) (wpQuiet P l.toArray (fun w' => ∃ x, w' = aft w0 x) (fun a' => ∀ w', (∃ x, w' = aft w0 x) → wpAl P l.toArray (fun w' => ∃ x, w' = aft w0 x) (Exit.then (fun a w => Q .normal a w) (fun _ _ _ => False)) (pick l tl) (pick l al) a' w') (pick l hd)) (pick l fl) a) : (Code.region id l.toArray true).wp P Q a w :=
  wp_mono (wp_region_ht (C := fun w' => ∃ x, w' = aft w0 x) fl hd al tl hm hB (fun _ _ _ _ _ h => h) ⟨_, aft_of (hw.drew)⟩ h) fun e a w h => by
    cases e with
    | normal => exact h
    | _ => exact False.elim h

theorem wpAl_step {P : Program} {ops : Array Oper} {C : World → Prop} {Q : Exit → Act → World → Prop} {T l : List Oper} {o : Oper} {a : Act} {w : World} (hw : Region.wanted o (yielded ops a.tmps) = true)
    (h : ∀ K : Act → World → Prop, (∀ a' w', C w' → wpAl P ops C Q T l a' w' → K a' w') → o.wp P a w K Q) : wpAl P ops C Q T (o :: l) a w := by
  unfold wpAl; rw [if_pos hw]; exact h
theorem wpAl_nil {P : Program} {ops : Array Oper} {C : World → Prop} {Q : Exit → Act → World → Prop} {T : List Oper} {a : Act} {w : World} (h : wpList P ops Q T a w) : wpAl P ops C Q T [] a w := h
theorem keep_new (w : World) (o : Obj) : Keep w (w.alloc o) := (Below.refl _ _).alloc (Nat.le_refl _) o
theorem grown_frozen {w w1 w' : World} {row : Option Nat} (hg : w1.grownBy w' row) {b o : Nat} {v : Value} (h : w.cell? ⟨b, o, none⟩ = some v) (hk : Keep w w1) (hf : w.frozen? ⟨b, o, none⟩ = false) (hne : row ≠ some b) : w'.frozen? ⟨b, o, none⟩ = false :=
  (hg.frozen_far _ (Nat.lt_of_lt_of_le (cell_lt h) hk.size) (Ne.symm hne)).trans (keep_frozen hk (cell_lt h) hf)
theorem aft_all {w0 w : World} (h : Keep w0 w) : ∃ x, w = aft w0 x := ⟨_, aft_of h⟩
end Go.Proofs.Ytmhbfjcehmjllaa
