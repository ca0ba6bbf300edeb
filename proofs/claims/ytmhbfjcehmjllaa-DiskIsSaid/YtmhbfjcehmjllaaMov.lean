/- A region that draws its order, walked as a row of moves: 'taken first' (it answers the same in every later world) or 'forced' (it alone may come up). One walk serves every order. -/
import Derived.Test.YtmhbfjcehmjllaaSeq
set_option linter.unusedSimpArgs false
set_option linter.unusedVariables false
namespace Go.Proofs.Ytmhbfjcehmjllaa
open Go.RowKit

section
variable {P : Program} {ops : Array Oper} {Q : Exit → Act → World → Prop} {tl : List Nat}

/-- Whatever order is picked; behind one that is not among 'tl' nothing that was there has turned. -/
def wpAnyK (P : Program) (ops : Array Oper) (Q : Exit → Act → World → Prop) (tl : List Nat) : Nat → Array Bool → Act → World → Prop
  | 0, listed, a, w => Region.ready .any ops listed = [] ∧ Q .normal a w
  | n + 1, listed, a, w => (Region.ready .any ops listed = [] → Q .normal a w) ∧
    ∀ i ∈ Region.ready .any ops listed, wpOp P ops Q i (fun a' w' => (i ∉ tl → Keep w w') ∧ wpAnyK P ops Q tl n (listed.setIfInBounds i true) a' w') a w
theorem wpAny_of_K : ∀ (n : Nat) (listed : Array Bool) (a : Act) (w : World), wpAnyK P ops Q tl n listed a w → wpAny P .any ops Q n listed a w
  | 0, _, _, _, h => h
  | n + 1, _, _, _, h => ⟨h.1, fun i hi => wpOp_mono (fun a' w' h' => wpAny_of_K n _ a' w' h'.2) (h.2 i hi)⟩

theorem wpAnyK_first (hs : Region.noSelect ops = true) {i : Nat} {oi : Oper} {v : Value} (hi : ops[i]? = some oi) (hQ : ∀ c a w, Q (.panic c) (a.put oi.dst v) w → Q (.panic c) a w)
    {S : World → Prop} (hk : ∀ w w', S w → Keep w w' → S w') (hr : (∀ j ∈ tl, reachB ops j i = true) ∨ ∀ w, S w) : ∀ (fuel : Nat) (listed : Array Bool) (a : Act) (w : World), Closed ops listed →
      (∀ j oj, ops[j]? = some oj → j ≠ i → listed.getD j true = false → (∀ e ∈ oj.after, Region.binds .any e = true → e.on ≠ i) → oi.apart ops oj = true) →
      i ∈ Region.ready .any ops listed → YieldsIf P ops S oi v a → S w →
      wpAnyK P ops Q tl fuel (listed.setIfInBounds i true) (a.put oi.dst v) w → wpAnyK P ops Q tl (fuel + 1) listed a w := by
  intro fuel
  have hsel := fun j o cs b (h : ops[j]? = some o) => Region.noSelect_spec hs j o cs b h
  induction fuel with
  | zero =>
    intro listed a w _ _ hri hy hS H
    refine ⟨fun h => absurd hri (by rw [h]; simp), fun j hj => ?_⟩
    by_cases hji : j = i
    · subst hji; exact hy.wpOp hi hS ⟨fun _ => Below.refl _ _, H⟩
    · have := ready_mono hj hji
      rw [H.1] at this
      cases this
  | succ fuel ih =>
    intro listed a w hc hfree hri hy hS H
    refine ⟨fun h => absurd hri (by rw [h]; simp), fun j hj => ?_⟩
    by_cases hji : j = i
    · subst hji; exact hy.wpOp hi hS ⟨fun _ => Below.refl _ _, H⟩
    · have h1 := H.2 j (ready_mono hj hji)
      obtain ⟨hjun, oj, hoj, hall⟩ := mem_ready.1 hj
      have hiun := (mem_ready.1 hri).1
      have hnot : ∀ e ∈ oj.after, Region.binds .any e = true → e.on ≠ i := fun e he hb heq => by
        have h1 := hall e he hb
        rw [heq, getD_tf hiun] at h1
        cases h1
      have hjt : j ∉ tl ∨ ∀ w, S w := hr.imp (fun hr hjt => by
        have := reach_listed hc j i (fun k hk => ready_waits hj hk) (hr j hjt)
        rw [getD_tf hiun] at this
        cases this) id
      have h2 := wpOp_putIf hoj (hfree j oj hoj hji hjun hnot) (fun cs b => hsel i oi cs b hi) (fun cs b => hsel j oj cs b hoj) hQ hy h1
      have hfree' : ∀ k ok, ops[k]? = some ok → k ≠ i → (listed.setIfInBounds j true).getD k true = false →
          (∀ e ∈ ok.after, Region.binds .any e = true → e.on ≠ i) → oi.apart ops ok = true := fun k ok hk hki hun hno => by
        refine hfree k ok hk hki ?_ hno
        by_cases hjk : j = k
        · subst hjk; exact hjun
        · rw [getD_set_ne true hjk] at hun; exact hun
      refine wpOp_mono (fun a' w' h3 => ⟨fun hn => h3.2.1 hn, ih (listed.setIfInBounds j true) a' w' (hc.set_ hj) hfree' (ready_mono hri (Ne.symm hji)) h3.1 (hjt.elim (fun hn => hk _ _ hS (h3.2.1 hn)) (fun h => h _)) ?_⟩) h2
      rw [Array.setIfInBounds_comm _ _ hji]
      exact h3.2.2

/-- Such as look at no world. -/
def freeB (o : Oper) : Bool :=
  match o.op with
  | .move _ | .assign _ | .extract .. => true
  | _ => false
theorem free_run {P : Program} {o : Oper} {a : Act} {w : World} {v : Value} (hf : freeB o = true) (h : (execOp a.eval o).run P w = .ok (.value v) w) (w' : World) : (execOp a.eval o).run P w' = .ok (.value v) w' := by
  unfold freeB at hf
  unfold execOp at h ⊢
  split at hf <;> rename_i ho <;> (try cases hf) <;> simp only [ho] at h ⊢
  · simp only [Sem.run_pure] at h ⊢
    injection h with h1
    rw [h1]
  · simp only [Sem.run_pure] at h ⊢
    injection h with h1
    rw [h1]
  · rename_i t ix
    unfold Instr.extract at h ⊢
    cases ht : a.eval t with
    | tuple vs =>
      rw [ht] at h
      simp only at h ⊢
      cases hv : vs[ix]? with
      | some u =>
        rw [hv] at h
        simp only [Sem.run_bind, Sem.run_pure, Result.andThen_ok] at h ⊢
        injection h with h1
        rw [h1]
      | none => rw [hv] at h; simp [Sem.run_bind, stuck, Result.andThen] at h
    | _ => rw [ht] at h; simp [Sem.run_bind, stuck, Result.andThen] at h

/-- The moves: (true, those taken first), (false, those forced). -/
def takesB (ops : Array Oper) (tl : List Nat) : List Nat → Array Bool → Bool
  | [], _ => true
  | i :: l, listed => (Region.ready .any ops listed).contains i && Region.free .any ops listed i && (match ops[i]? with | some o => plainB o | none => false) && ((match ops[i]? with | some o => freeB o | none => false) || tl.all fun j => reachB ops j i) && takesB ops tl l (listed.setIfInBounds i true)
def forceB (ops : Array Oper) : List Nat → Array Bool → Bool
  | [], _ => true
  | i :: l, listed => decide (Region.ready .any ops listed = [i]) && forceB ops l (listed.setIfInBounds i true)
def movesB (ops : Array Oper) (tl : List Nat) : List (Bool × List Nat) → Array Bool → Bool
  | [], listed => forceB ops tl listed && decide (Region.ready .any ops (setAll listed tl) = [])
  | (true, l) :: r, listed => (l.all (· < ops.size)) && takesB ops tl l listed && movesB ops tl r (setAll listed l)
  | (false, l) :: r, listed => (l.all (· < ops.size)) && forceB ops l listed && movesB ops tl r (setAll listed l)

def wpForce (P : Program) (ops : Array Oper) (Q : Exit → Act → World → Prop) (N : Act → World → Prop) : List Oper → Act → World → Prop
  | [], a, w => N a w
  | o :: l, a, w => if Region.wanted o (yielded ops a.tmps) then (∀ K : Act → World → Prop, (∀ a' w', Keep w w' → wpForce P ops Q N l a' w' → K a' w') → o.wp P a w K Q) else wpForce P ops Q N l (a.put o.dst undef) w
def wpMoves (P : Program) (ops : Array Oper) (Q : Exit → Act → World → Prop) (T : List Oper) : List (Bool × List Oper) → Act → World → Prop
  | [], a, w => wpList P ops Q T a w
  | (true, l) :: r, a, w => ∃ w0, Keep w0 w ∧ wpQuiet P ops (fun w' => ∃ x, w' = aft w0 x) (fun a' => wpMoves P ops Q T r a' w) l a
  | (false, l) :: r, a, w => wpForce P ops Q (wpMoves P ops Q T r) l a w

theorem setAll_cons (listed : Array Bool) (i : Nat) (l : List Nat) : setAll listed (i :: l) = setAll (listed.setIfInBounds i true) l := rfl

theorem wpAnyK_tail (t0 : List Nat) : ∀ (t : List Nat) (T : List Oper) (listed : Array Bool) (a : Act) (w : World), (∀ i ∈ t, i ∈ t0) → forceB ops t listed = true → Region.ready .any ops (setAll listed t) = [] →
    (∀ (k : Nat), T[k]? = (t[k]?).bind (fun (i : Nat) => ops[i]?)) → wpList P ops Q T a w → wpAnyK P ops Q t0 t.length listed a w
  | [], T, listed, a, w, _, _, he, hT, hw => by
    have : T = [] := by cases T with
      | nil => rfl
      | cons x T => have := hT 0; simp at this
    subst this
    exact ⟨he, hw⟩
  | t :: l, T, listed, a, w, h0, hB, he, hT, hw => by
    simp only [forceB, Bool.and_eq_true, decide_eq_true_eq] at hB
    refine ⟨fun h0 => (by rw [hB.1] at h0; cases h0), fun i hi => ?_⟩
    rw [hB.1] at hi
    obtain rfl : i = t := by simpa using hi
    have hlt : i < ops.size := by
      have hr : i ∈ Region.ready .any ops listed := by rw [hB.1]; simp
      obtain ⟨o, ho, _⟩ := (mem_ready.1 hr).2
      exact (Array.getElem?_eq_some_iff.1 ho).1
    cases T with
    | nil => have := hT 0; simp [hlt] at this
    | cons o T =>
      have ho : ops[i]? = some o := by have := hT 0; simpa using this.symm
      have hw' : wpOp P ops Q i (wpList P ops Q T) a w := by unfold wpOp; simp only [ho]; exact hw
      exact wpOp_mono (fun a' w' h' => ⟨fun hn => absurd (h0 i (by simp)) hn, wpAnyK_tail t0 l T _ a' w' (fun j hj => h0 j (by simp [hj])) hB.2 he (fun k => by have := hT (k + 1); simpa using this) h'⟩) hw'

theorem wpAnyK_force (g : Nat) {N : Act → World → Prop} : ∀ (l : List Nat) (L : List Oper) (listed : Array Bool) (a : Act) (w : World), Closed ops listed → forceB ops l listed = true →
    (∀ (k : Nat), L[k]? = (l[k]?).bind (fun (i : Nat) => ops[i]?)) → (∀ a w, Closed ops (setAll listed l) → N a w → wpAnyK P ops Q tl g (setAll listed l) a w) → wpForce P ops Q N L a w → wpAnyK P ops Q tl (g + l.length) listed a w
  | [], L, listed, a, w, hc, _, hL, hN, h => by
    have : L = [] := by cases L with
      | nil => rfl
      | cons x T => have := hL 0; simp at this
    subst this
    exact hN a w hc h
  | t :: l, L, listed, a, w, hc, hB, hL, hN, h => by
    simp only [forceB, Bool.and_eq_true, decide_eq_true_eq] at hB
    refine ⟨fun h0 => (by rw [hB.1] at h0; cases h0), fun i hi => ?_⟩
    have hi' := hi
    rw [hB.1] at hi
    obtain rfl : i = t := by simpa using hi
    have hlt : i < ops.size := by
      obtain ⟨o, ho, _⟩ := (mem_ready.1 hi').2
      exact (Array.getElem?_eq_some_iff.1 ho).1
    cases L with
    | nil => have := hL 0; simp [hlt] at this
    | cons o L =>
      have ho : ops[i]? = some o := by have := hL 0; simpa using this.symm
      have go := fun (a' : Act) (w' : World) (h' : wpForce P ops Q N L a' w') => wpAnyK_force g l L (listed.setIfInBounds i true) a' w' (hc.set_ hi') hB.2 (fun k => by have := hL (k + 1); simpa using this) hN h'
      unfold wpOp
      simp only [ho]
      unfold wpForce at h
      split at h
      · rename_i hwt
        rw [if_pos hwt]
        exact .inl (h _ fun a' w' hk h' => ⟨fun _ => hk, go a' w' h'⟩)
      · rename_i hwt
        rw [if_neg hwt]
        exact ⟨fun _ => Below.refl _ _, go _ _ h⟩

theorem wpAnyK_takes (hs : Region.noSelect ops = true) (hQ : ∀ c a x v w, Q (.panic c) (a.put x v) w → Q (.panic c) a w) (g : Nat) (w w0 : World) (hw : Keep w0 w) : ∀ (l : List Nat) (L : List Oper) (listed : Array Bool) (a : Act), Closed ops listed → takesB ops tl l listed = true →
    (∀ (k : Nat), L[k]? = (l[k]?).bind (fun (i : Nat) => ops[i]?)) → wpQuiet P ops (fun w' => ∃ x, w' = aft w0 x) (fun a' => Closed ops (setAll listed l) → wpAnyK P ops Q tl g (setAll listed l) a' w) L a → wpAnyK P ops Q tl (g + l.length) listed a w
  | [], L, listed, a, hc, _, hL, h => by
    have : L = [] := by cases L with
      | nil => rfl
      | cons x T => have := hL 0; simp at this
    subst this
    exact h hc
  | i :: l, L, listed, a, hc, hB, hL, h => by
    simp only [takesB, Bool.and_eq_true] at hB
    obtain ⟨⟨⟨⟨hr, hf⟩, hpl⟩, hre⟩, hB⟩ := hB
    have hr' : i ∈ Region.ready .any ops listed := by simpa using hr
    have hi : i < ops.size := by
      obtain ⟨o, ho, _⟩ := (mem_ready.1 hr').2
      exact (Array.getElem?_eq_some_iff.1 ho).1
    cases L with
    | nil => have := hL 0; simp [hi] at this
    | cons o L =>
      have ho : ops[i]? = some o := by have := hL 0; simpa using this.symm
      rw [ho] at hpl
      have h1 : qOp P ops (fun w' => ∃ x, w' = aft w0 x) i (wpQuiet P ops (fun w' => ∃ x, w' = aft w0 x) (fun a' => Closed ops (setAll listed (i :: l)) → wpAnyK P ops Q tl g (setAll listed (i :: l)) a' w) L) a := by unfold qOp; simp only [ho]; exact h
      obtain ⟨v, hy, h⟩ := yieldsIn_of_qOp ho h1
      have hy' : YieldsIf P ops (fun w' => Keep w0 w') o v a := by
        rcases hy with ⟨h2, h3⟩ | h2
        · exact .inl ⟨h2, fun w hw => plain_run hpl (h3 w ⟨_, aft_of hw⟩)⟩
        · exact .inr h2
      have := wpAnyK_takes hs hQ g w w0 hw l L (listed.setIfInBounds i true) (a.put o.dst v) (hc.set_ hr') hB (fun k => by have := hL (k + 1); simpa using this) h
      rw [ho, Bool.or_eq_true] at hre
      rcases hre with hre | hre
      · have hy2 : YieldsIf P ops (fun _ => True) o v a := by
          rcases hy' with ⟨h2, h3⟩ | h2
          · exact .inl ⟨h2, fun w' _ => free_run hre (h3 w hw) w'⟩
          · exact .inr h2
        exact wpAnyK_first hs ho (fun c a w => hQ c a _ _ w) (fun _ _ _ _ => trivial) (.inr fun _ => trivial) _ listed a w hc (Region.free_spec ho hf) hr' hy2 trivial this
      · exact wpAnyK_first hs ho (fun c a w => hQ c a _ _ w) (fun _ _ h1 h2 => keep_trans h1 h2) (.inl fun j hj => List.all_eq_true.1 hre j hj) _ listed a w hc (Region.free_spec ho hf) hr' hy' hw this

def total : List (Bool × List Nat) → Nat
  | [] => 0
  | (_, l) :: r => total r + l.length

theorem quiet_mono' {C : World → Prop} {N N' : Act → Prop} (hN : ∀ a, N a → N' a) : ∀ (F : List Oper) (a : Act), wpQuiet P ops C N F a → wpQuiet P ops C N' F a
  | [], a, h => hN _ h
  | o :: F, a, h => by
    unfold wpQuiet at h ⊢
    split
    · rename_i hw; rw [if_pos hw] at h; exact Oper.quiet_mono (fun a h => quiet_mono' hN F a h) h
    · rename_i hw; rw [if_neg hw] at h; exact quiet_mono' hN F _ h

theorem moves_sound {l0 : List Oper} (hs : Region.noSelect l0.toArray = true) (hQ : ∀ c a x v w, Q (.panic c) (a.put x v) w → Q (.panic c) a w) (htl : ∀ i ∈ tl, i < l0.length) : ∀ (mv : List (Bool × List Nat)) (listed : Array Bool) (a : Act) (w : World), Closed l0.toArray listed → movesB l0.toArray tl mv listed = true →
    wpMoves P l0.toArray Q (pick l0 tl) (mv.map fun m => (m.1, pick l0 m.2)) a w → wpAnyK P l0.toArray Q tl (total mv + tl.length) listed a w
  | [], listed, a, w, hc, hB, h => by
    simp only [movesB, Bool.and_eq_true, decide_eq_true_eq] at hB
    rw [total, Nat.zero_add]
    exact wpAnyK_tail tl tl (pick l0 tl) listed a w (fun _ h => h) hB.1 hB.2 (filter_get tl htl).2 h
  | (true, l) :: r, listed, a, w, hc, hB, h => by
    simp only [movesB, Bool.and_eq_true] at hB
    obtain ⟨⟨hin, htk⟩, hB⟩ := hB
    obtain ⟨w0, hw0, hq⟩ := h
    have hl : ∀ i ∈ l, i < l0.length := fun i hi => by simpa using List.all_eq_true.1 hin i hi
    rw [show total ((true, l) :: r) + tl.length = (total r + tl.length) + l.length by show total r + l.length + tl.length = _; omega]
    exact wpAnyK_takes hs hQ _ w w0 hw0 l (pick l0 l) listed a hc htk (filter_get l hl).2 (quiet_mono' (fun a' h' hc' => moves_sound hs hQ htl r _ a' w hc' hB h') _ _ hq)
  | (false, l) :: r, listed, a, w, hc, hB, h => by
    simp only [movesB, Bool.and_eq_true] at hB
    obtain ⟨⟨hin, hfo⟩, hB⟩ := hB
    have hl : ∀ i ∈ l, i < l0.length := fun i hi => by simpa using List.all_eq_true.1 hin i hi
    rw [show total ((false, l) :: r) + tl.length = (total r + tl.length) + l.length by show total r + l.length + tl.length = _; omega]
    exact wpAnyK_force _ l (pick l0 l) listed a w hc hfo (filter_get l hl).2 (fun a' w' hc' h' => moves_sound hs hQ htl r _ a' w' hc' hB h') h
end

def mvB (ops : Array Oper) (mv : List (Bool × List Nat)) (tl : List Nat) : Bool :=
  Region.noSelect ops && (tl.all (· < ops.size)) && decide (total mv + tl.length = ops.size) && movesB ops tl mv (Array.replicate ops.size false)

/-- mv: the moves; tl: what stands behind them, in a row (it may turn what was there). Nothing panics. -/
theorem wp_region_moves {P : Program} {id : Nat} {Q : Exit → Act → World → Prop} {a : Act} {w : World} {l : List Oper} (mv : List (Bool × List Nat)) (tl : List Nat) (hm : P.follows .mixedOrders = true) (hB : mvB l.toArray mv tl = true)
    (h : ∀ w1, Keep w w1 → wpMoves P l.toArray (Exit.then (fun a w => Q .normal a w) (fun _ _ _ => False)) (pick l tl) (mv.map fun m => (m.1, pick l m.2)) a w1) : (Code.region id l.toArray true).wp P Q a w := by
  simp only [mvB, Bool.and_eq_true, decide_eq_true_eq] at hB
  obtain ⟨⟨⟨hs, htl⟩, hlen⟩, hB⟩ := hB
  refine wp_mono (Q := Exit.then (fun a w => Q .normal a w) (fun _ _ _ => False)) (wp_region_any hm ?_) fun e a w h => by
    cases e with
    | normal => exact h
    | _ => exact False.elim h
  have := moves_sound (P := P) (Q := Exit.then (fun a w => Q .normal a w) (fun _ _ _ => False)) hs (fun _ _ _ _ _ h => h) (fun i hi => by simpa using List.all_eq_true.1 htl i hi) mv _ a { w with drawn := w.drawn + 1 } (closed_none _ _) hB (h _ ((Below.refl _ _).drew))
  rw [hlen] at this
  exact wpAny_of_K _ _ _ _ this

section
variable {P : Program} {ops : Array Oper} {Q : Exit → Act → World → Prop} {T l : List Oper} {r : List (Bool × List Oper)} {o : Oper} {a : Act} {w : World} {N : Act → World → Prop}
/-- A row of such as are taken first: in a world w0 that lies behind them. -/
theorem mv_take (w0 : World) (hw : Keep w0 w) (h : wpQuiet P ops (fun w' => ∃ x, w' = aft w0 x) (fun a' => wpMoves P ops Q T r a' w) l a) : wpMoves P ops Q T ((true, l) :: r) a w := ⟨w0, hw, h⟩
theorem mv_force (h : wpForce P ops Q (wpMoves P ops Q T r) l a w) : wpMoves P ops Q T ((false, l) :: r) a w := h
theorem mv_end (h : wpList P ops Q T a w) : wpMoves P ops Q T [] a w := h
theorem fc_nil (h : N a w) : wpForce P ops Q N [] a w := h
theorem fc_step (hw : Region.wanted o (yielded ops a.tmps) = true) (h : ∀ K : Act → World → Prop, (∀ a' w', Keep w w' → wpForce P ops Q N l a' w' → K a' w') → o.wp P a w K Q) : wpForce P ops Q N (o :: l) a w := by
  unfold wpForce; rw [if_pos hw]; exact h
theorem fc_skip (hw : Region.wanted o (yielded ops a.tmps) = false) (h : wpForce P ops Q N l (a.put o.dst undef) w) : wpForce P ops Q N (o :: l) a w := by
  unfold wpForce; rw [if_neg (by rw [hw]; exact Bool.false_ne_true)]; exact h
theorem mv_cons (b : Bool) (m : List Nat) (ms : List (Bool × List Nat)) (l0 : List Oper) : ((b, m) :: ms).map (fun x => (x.1, pick l0 x.2)) = (b, pick l0 m) :: ms.map (fun x => (x.1, pick l0 x.2)) := rfl
theorem mv_nil (l0 : List Oper) : ([] : List (Bool × List Nat)).map (fun x => (x.1, pick l0 x.2)) = [] := rfl
end

/-! The same with forks: two may come up, the one ahead of the other. -/
inductive Mv where
  | done
  | take (l : List Nat) (r : Mv)
  | force (l : List Nat) (r : Mv)
  | fork (i : Nat) (ri : Mv) (j : Nat) (rj : Mv)
  | fork3 (i : Nat) (ri : Mv) (j : Nat) (rj : Mv) (k : Nat) (rk : Mv)
def Mv.total : Mv → Nat
  | .done => 0
  | .take l r => r.total + l.length
  | .force l r => r.total + l.length
  | .fork _ ri _ _ => ri.total + 1
  | .fork3 _ ri _ _ _ _ => ri.total + 1
def Mv.okB (ops : Array Oper) (tl : List Nat) : Mv → Array Bool → Bool
  | .done, listed => forceB ops tl listed && decide (Region.ready .any ops (setAll listed tl) = [])
  | .take l r, listed => (l.all (· < ops.size)) && takesB ops tl l listed && r.okB ops tl (setAll listed l)
  | .force l r, listed => (l.all (· < ops.size)) && forceB ops l listed && r.okB ops tl (setAll listed l)
  | .fork i ri j rj, listed => decide (i < ops.size) && decide (j < ops.size) && decide (Region.ready .any ops listed = [i, j]) && decide (ri.total = rj.total) && ri.okB ops tl (listed.setIfInBounds i true) && rj.okB ops tl (listed.setIfInBounds j true)
  | .fork3 i ri j rj k rk, listed => decide (i < ops.size) && decide (j < ops.size) && decide (k < ops.size) && decide (Region.ready .any ops listed = [i, j, k]) && decide (ri.total = rj.total) && decide (ri.total = rk.total) && ri.okB ops tl (listed.setIfInBounds i true) && rj.okB ops tl (listed.setIfInBounds j true) && rk.okB ops tl (listed.setIfInBounds k true)
def Mv.wp (P : Program) (l0 : List Oper) (Q : Exit → Act → World → Prop) (T : List Oper) : Mv → Act → World → Prop
  | .done, a, w => wpList P l0.toArray Q T a w
  | .take l r, a, w => ∃ w0, Keep w0 w ∧ wpQuiet P l0.toArray (fun w' => ∃ x, w' = aft w0 x) (fun a' => r.wp P l0 Q T a' w) (pick l0 l) a
  | .force l r, a, w => wpForce P l0.toArray Q (r.wp P l0 Q T) (pick l0 l) a w
  | .fork i ri j rj, a, w => wpForce P l0.toArray Q (ri.wp P l0 Q T) [nth l0 i] a w ∧ wpForce P l0.toArray Q (rj.wp P l0 Q T) [nth l0 j] a w
  | .fork3 i ri j rj k rk, a, w => wpForce P l0.toArray Q (ri.wp P l0 Q T) [nth l0 i] a w ∧ wpForce P l0.toArray Q (rj.wp P l0 Q T) [nth l0 j] a w ∧ wpForce P l0.toArray Q (rk.wp P l0 Q T) [nth l0 k] a w

section
variable {P : Program} {Q : Exit → Act → World → Prop} {tl : List Nat} {l0 : List Oper}
theorem one_force {ops : Array Oper} {N : Act → World → Prop} {i : Nat} {o : Oper} (ho : ops[i]? = some o) {listed : Array Bool} {a : Act} {w : World} {g : Nat} (hN : ∀ a w, N a w → wpAnyK P ops Q tl g (listed.setIfInBounds i true) a w)
    (h : wpForce P ops Q N [o] a w) : wpOp P ops Q i (fun a' w' => (i ∉ tl → Keep w w') ∧ wpAnyK P ops Q tl g (listed.setIfInBounds i true) a' w') a w := by
  unfold wpOp
  simp only [ho]
  unfold wpForce at h
  split at h
  · rename_i hwt
    rw [if_pos hwt]
    exact .inl (h _ fun a' w' hk h' => ⟨fun _ => hk, hN _ _ h'⟩)
  · rename_i hwt
    rw [if_neg hwt]
    exact ⟨fun _ => Below.refl _ _, hN _ _ h⟩

theorem Mv.sound (hs : Region.noSelect l0.toArray = true) (hQ : ∀ c a x v w, Q (.panic c) (a.put x v) w → Q (.panic c) a w) (htl : ∀ i ∈ tl, i < l0.length) : ∀ (mv : Mv) (listed : Array Bool) (a : Act) (w : World), Closed l0.toArray listed → mv.okB l0.toArray tl listed = true →
    mv.wp P l0 Q (pick l0 tl) a w → wpAnyK P l0.toArray Q tl (mv.total + tl.length) listed a w
  | .done, listed, a, w, hc, hB, h => by
    simp only [Mv.okB, Bool.and_eq_true, decide_eq_true_eq] at hB
    rw [Mv.total, Nat.zero_add]
    exact wpAnyK_tail tl tl (pick l0 tl) listed a w (fun _ h => h) hB.1 hB.2 (filter_get tl htl).2 h
  | .take l r, listed, a, w, hc, hB, h => by
    simp only [Mv.okB, Bool.and_eq_true] at hB
    obtain ⟨⟨hin, htk⟩, hB⟩ := hB
    obtain ⟨w0, hw0, hq⟩ := h
    have hl : ∀ i ∈ l, i < l0.length := fun i hi => by simpa using List.all_eq_true.1 hin i hi
    rw [show (Mv.take l r).total + tl.length = (r.total + tl.length) + l.length by show r.total + l.length + tl.length = _; omega]
    exact wpAnyK_takes hs hQ _ w w0 hw0 l (pick l0 l) listed a hc htk (filter_get l hl).2 (quiet_mono' (fun a' h' hc' => Mv.sound hs hQ htl r _ a' w hc' hB h') _ _ hq)
  | .force l r, listed, a, w, hc, hB, h => by
    simp only [Mv.okB, Bool.and_eq_true] at hB
    obtain ⟨⟨hin, hfo⟩, hB⟩ := hB
    have hl : ∀ i ∈ l, i < l0.length := fun i hi => by simpa using List.all_eq_true.1 hin i hi
    rw [show (Mv.force l r).total + tl.length = (r.total + tl.length) + l.length by show r.total + l.length + tl.length = _; omega]
    exact wpAnyK_force _ l (pick l0 l) listed a w hc hfo (filter_get l hl).2 (fun a' w' hc' h' => Mv.sound hs hQ htl r _ a' w' hc' hB h') h
  | .fork i ri j rj, listed, a, w, hc, hB, h => by
    simp only [Mv.okB, Bool.and_eq_true, decide_eq_true_eq] at hB
    obtain ⟨⟨⟨⟨⟨hi, hj⟩, hr⟩, ht⟩, hBi⟩, hBj⟩ := hB
    obtain ⟨h1, h2⟩ := h
    have hoi : l0.toArray[i]? = some (nth l0 i) := by simp at hi ⊢; simp [nth, hi]
    have hoj : l0.toArray[j]? = some (nth l0 j) := by simp at hj ⊢; simp [nth, hj]
    have hri : i ∈ Region.ready .any l0.toArray listed := by rw [hr]; simp
    have hrj : j ∈ Region.ready .any l0.toArray listed := by rw [hr]; simp
    rw [show (Mv.fork i ri j rj).total + tl.length = (ri.total + tl.length) + 1 by show ri.total + 1 + tl.length = _; omega]
    refine ⟨fun h0 => (by rw [hr] at h0; cases h0), fun k hk => ?_⟩
    rw [hr] at hk
    have hk' : k = i ∨ k = j := by simpa using hk
    by_cases hki : k = i
    · subst hki
      exact one_force hoi (fun a' w' h' => Mv.sound hs hQ htl ri _ a' w' (hc.set_ hri) hBi h') h1
    · obtain rfl : k = j := hk'.resolve_left hki
      rw [ht]
      exact one_force hoj (fun a' w' h' => Mv.sound hs hQ htl rj _ a' w' (hc.set_ hrj) hBj h') h2
  | .fork3 i ri j rj k rk, listed, a, w, hc, hB, h => by
    simp only [Mv.okB, Bool.and_eq_true, decide_eq_true_eq] at hB
    obtain ⟨⟨⟨⟨⟨⟨⟨⟨hi, hj⟩, hk⟩, hr⟩, ht⟩, ht2⟩, hBi⟩, hBj⟩, hBk⟩ := hB
    obtain ⟨h1, h2, h3⟩ := h
    have hoi : l0.toArray[i]? = some (nth l0 i) := by simp at hi ⊢; simp [nth, hi]
    have hoj : l0.toArray[j]? = some (nth l0 j) := by simp at hj ⊢; simp [nth, hj]
    have hok : l0.toArray[k]? = some (nth l0 k) := by simp at hk ⊢; simp [nth, hk]
    have hri : i ∈ Region.ready .any l0.toArray listed := by rw [hr]; simp
    have hrj : j ∈ Region.ready .any l0.toArray listed := by rw [hr]; simp
    have hrk : k ∈ Region.ready .any l0.toArray listed := by rw [hr]; simp
    rw [show (Mv.fork3 i ri j rj k rk).total + tl.length = (ri.total + tl.length) + 1 by show ri.total + 1 + tl.length = _; omega]
    refine ⟨fun h0 => (by rw [hr] at h0; cases h0), fun m hm => ?_⟩
    rw [hr] at hm
    have hm' : m = i ∨ m = j ∨ m = k := by simpa using hm
    by_cases hmi : m = i
    · subst hmi
      exact one_force hoi (fun a' w' h' => Mv.sound hs hQ htl ri _ a' w' (hc.set_ hri) hBi h') h1
    · by_cases hmj : m = j
      · subst hmj
        rw [ht]
        exact one_force hoj (fun a' w' h' => Mv.sound hs hQ htl rj _ a' w' (hc.set_ hrj) hBj h') h2
      · obtain rfl : m = k := (hm'.resolve_left hmi).resolve_left hmj
        rw [ht2]
        exact one_force hok (fun a' w' h' => Mv.sound hs hQ htl rk _ a' w' (hc.set_ hrk) hBk h') h3
end

def mtB (ops : Array Oper) (mv : Mv) (tl : List Nat) : Bool :=
  Region.noSelect ops && (tl.all (· < ops.size)) && decide (mv.total + tl.length = ops.size) && mv.okB ops tl (Array.replicate ops.size false)
theorem wp_region_tree {P : Program} {id : Nat} {Q : Exit → Act → World → Prop} {a : Act} {w : World} {l : List Oper} (mv : Mv) (tl : List Nat) (hm : P.follows .mixedOrders = true) (hB : mtB l.toArray mv tl = true)
    (h : ∀ w1, Keep w w1 → mv.wp P l (Exit.then (fun a w => Q .normal a w) (fun _ _ _ => False)) (pick l tl) a w1) : (Code.region id l.toArray true).wp P Q a w := by
  simp only [mtB, Bool.and_eq_true, decide_eq_true_eq] at hB
  obtain ⟨⟨⟨hs, htl⟩, hlen⟩, hB⟩ := hB
  refine wp_mono (Q := Exit.then (fun a w => Q .normal a w) (fun _ _ _ => False)) (wp_region_any hm ?_) fun e a w h => by
    cases e with
    | normal => exact h
    | _ => exact False.elim h
  have := Mv.sound (P := P) (Q := Exit.then (fun a w => Q .normal a w) (fun _ _ _ => False)) hs (fun _ _ _ _ _ h => h) (fun i hi => by simpa using List.all_eq_true.1 htl i hi) mv _ a { w with drawn := w.drawn + 1 } (closed_none _ _) hB (h _ ((Below.refl _ _).drew))
  rw [hlen] at this
  exact wpAny_of_K _ _ _ _ this
section
variable {P : Program} {l0 T : List Oper} {Q : Exit → Act → World → Prop} {a : Act} {w : World} {l : List Nat} {r ri rj rk : Mv} {i j k : Nat}
theorem mt_take (w0 : World) (hw : Keep w0 w) (h : wpQuiet P l0.toArray (fun w' => ∃ x, w' = aft w0 x) (fun a' => r.wp P l0 Q T a' w) (pick l0 l) a) : (Mv.take l r).wp P l0 Q T a w := ⟨w0, hw, h⟩
theorem mt_force (h : wpForce P l0.toArray Q (r.wp P l0 Q T) (pick l0 l) a w) : (Mv.force l r).wp P l0 Q T a w := h
theorem mt_fork (h1 : wpForce P l0.toArray Q (ri.wp P l0 Q T) [nth l0 i] a w) (h2 : wpForce P l0.toArray Q (rj.wp P l0 Q T) [nth l0 j] a w) : (Mv.fork i ri j rj).wp P l0 Q T a w := ⟨h1, h2⟩
theorem mt_fork3 (h1 : wpForce P l0.toArray Q (ri.wp P l0 Q T) [nth l0 i] a w) (h2 : wpForce P l0.toArray Q (rj.wp P l0 Q T) [nth l0 j] a w) (h3 : wpForce P l0.toArray Q (rk.wp P l0 Q T) [nth l0 k] a w) : (Mv.fork3 i ri j rj k rk).wp P l0 Q T a w := ⟨h1, h2, h3⟩
theorem mt_end (h : wpList P l0.toArray Q T a w) : Mv.done.wp P l0 Q T a w := h
end
end Go.Proofs.Ytmhbfjcehmjllaa
