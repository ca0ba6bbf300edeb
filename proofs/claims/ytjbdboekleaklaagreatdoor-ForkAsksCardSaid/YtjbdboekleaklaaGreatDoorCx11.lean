/- Texts merged by pack.py: MoH, Tk, Tl, Tq0, Rl, Tu0, Tu, Tw0, Tw. -/
import Derived.Test.YtjbdboekleaklaaGreatDoorCx2
import Derived.Test.YtjbdboekleaklaaGreatDoorCx9
import Derived.Deep.MidRow
import Derived.Test.YtjbdboekleaklaaGreatDoorCx10
import Derived.Test.YtjbdboekleaklaaGreatDoorCx7
/- XMov's theory once more, where some blocks may turn. (XMoG turned by a program: gen_moh.py) -/
set_option linter.unusedSimpArgs false
set_option linter.unusedVariables false
namespace Go.Proofs.YtjbdboekleaklaaGreatDoor.H
open Go.RowKit

/-- The blocks that may turn. -/
class Mk where
  m : Nat → Prop
theorem kx_cell {X : Nat → Prop} {a b : World} (h : KeepX X a b) {g o : Nat} {v : Value} (hc : a.cell? ⟨g, o, none⟩ = some v) (hn : ¬ X g) : b.cell? ⟨g, o, none⟩ = some v := by
  have hb := h.2.2.2.2 g (cell_lt hc) hn
  rw [← hc]
  unfold World.cell?
  simp only [hb]
variable [MM : Mk]
def Gr (w w' : World) : Prop := KeepX MM.m w w'
theorem Gr.refl (w : World) : Gr w w := ⟨rfl, rfl, rfl, Nat.le_refl _, fun _ _ _ => rfl⟩
theorem Gr.drew (w : World) : Gr w { w with drawn := w.drawn + 1 } := ⟨rfl, rfl, rfl, Nat.le_refl _, fun _ _ _ => rfl⟩
theorem Gr.trans {a b c : World} (h : Gr a b) (k : Gr b c) : Gr a c := KeepX.trans h k fun _ _ q => q
theorem Gr.of_keep {a b : World} (h : Keep a b) : Gr a b := KeepX.of h
open Classical in
noncomputable def aftG (w x : World) : World := if Gr w x then x else w
theorem aftG_keep (w x : World) : Gr w (aftG w x) := by
  unfold aftG; split
  · assumption
  · exact Gr.refl _
theorem aftG_of {w w' : World} (h : Gr w w') : w' = aftG w w' := by unfold aftG; rw [if_pos h]
theorem aftG_cell {w : World} {b o : Nat} {v : Value} (h : w.cell? ⟨b, o, none⟩ = some v) (hne : ¬ MM.m b) : ∀ x, (aftG w x).cell? ⟨b, o, none⟩ = some v := fun x => kx_cell (aftG_keep w x) h hne
theorem aftG_blk {w : World} {g : Nat} {t : TypeId} {cs : List Value} (h : Blk w g t cs) (hne : ¬ MM.m g) (x : World) : Blk (aftG w x) g t cs := h.kx (aftG_keep w x) hne

section
variable {P : Program} {ops : Array Oper} {Q : Exit → Act → World → Prop} {tl : List Nat}

/-- Whatever order is picked; behind one that is not among 'tl' nothing that was there has turned. -/
def wpAnyK (P : Program) (ops : Array Oper) (Q : Exit → Act → World → Prop) (tl : List Nat) : Nat → Array Bool → Act → World → Prop
  | 0, listed, a, w => Region.ready .any ops listed = [] ∧ Q .normal a w
  | n + 1, listed, a, w => (Region.ready .any ops listed = [] → Q .normal a w) ∧
    ∀ i ∈ Region.ready .any ops listed, wpOp P ops Q i (fun a' w' => (i ∉ tl → Gr w w') ∧ wpAnyK P ops Q tl n (listed.setIfInBounds i true) a' w') a w
theorem wpAny_of_K : ∀ (n : Nat) (listed : Array Bool) (a : Act) (w : World), wpAnyK P ops Q tl n listed a w → wpAny P .any ops Q n listed a w
  | 0, _, _, _, h => h
  | n + 1, _, _, _, h => ⟨h.1, fun i hi => wpOp_mono (fun a' w' h' => wpAny_of_K n _ a' w' h'.2) (h.2 i hi)⟩

theorem wpAnyK_first (hs : Region.noSelect ops = true) {i : Nat} {oi : Oper} {v : Value} (hi : ops[i]? = some oi) (hQ : ∀ c a w, Q (.panic c) (a.put oi.dst v) w → Q (.panic c) a w)
    {S : World → Prop} (hk : ∀ w w', S w → Gr w w' → S w') (hr : (∀ j ∈ tl, reachB ops j i = true) ∨ ∀ w, S w) : ∀ (fuel : Nat) (listed : Array Bool) (a : Act) (w : World), Closed ops listed →
      (∀ j oj, ops[j]? = some oj → j ≠ i → listed.getD j true = false → (∀ e ∈ oj.after, Region.binds .any e = true → e.on ≠ i) → oi.apart ops oj = true) →
      i ∈ Region.ready .any ops listed → YieldsIf P ops S oi v a → S w →
      wpAnyK P ops Q tl fuel (listed.setIfInBounds i true) (a.put oi.dst v) w → wpAnyK P ops Q tl (fuel + 1) listed a w := by
  intro fuel
  have hsel := fun j o cs b (h : ops[j]? = some o) => Region.noSelect_spec hs j o cs b h
  induction fuel with
  | zero =>
    intro listed a w _ _ hri hy hS H
    refine ⟨fun h => absurd hri (by rw [h]; simp), fun j hj => ?_⟩
    by_cases hji : j = i
    · subst hji; exact hy.wpOp hi hS ⟨fun _ => Gr.refl _, H⟩
    · have := ready_mono hj hji
      rw [H.1] at this
      cases this
  | succ fuel ih =>
    intro listed a w hc hfree hri hy hS H
    refine ⟨fun h => absurd hri (by rw [h]; simp), fun j hj => ?_⟩
    by_cases hji : j = i
    · subst hji; exact hy.wpOp hi hS ⟨fun _ => Gr.refl _, H⟩
    · have h1 := H.2 j (ready_mono hj hji)
      obtain ⟨hjun, oj, hoj, hall⟩ := mem_ready.1 hj
      have hiun := (mem_ready.1 hri).1
      have hnot : ∀ e ∈ oj.after, Region.binds .any e = true → e.on ≠ i := fun e he hb heq => by
        have h1 := hall e he hb
        rw [heq, getD_tf hiun] at h1
        cases h1
      have hjt : j ∉ tl ∨ ∀ w, S w := hr.imp (fun hr hjt => by
        have := reach_listed hc j i (fun k hk => ready_waits hj hk) (hr j hjt)
        rw [getD_tf hiun] at this
        cases this) id
      have h2 := wpOp_putIf hoj (hfree j oj hoj hji hjun hnot) (fun cs b => hsel i oi cs b hi) (fun cs b => hsel j oj cs b hoj) hQ hy h1
      have hfree' : ∀ k ok, ops[k]? = some ok → k ≠ i → (listed.setIfInBounds j true).getD k true = false →
          (∀ e ∈ ok.after, Region.binds .any e = true → e.on ≠ i) → oi.apart ops ok = true := fun k ok hk hki hun hno => by
        refine hfree k ok hk hki ?_ hno
        by_cases hjk : j = k
        · subst hjk; exact hjun
        · rw [getD_set_ne true hjk] at hun; exact hun
      refine wpOp_mono (fun a' w' h3 => ⟨fun hn => h3.2.1 hn, ih (listed.setIfInBounds j true) a' w' (hc.set_ hj) hfree' (ready_mono hri (Ne.symm hji)) h3.1 (hjt.elim (fun hn => hk _ _ hS (h3.2.1 hn)) (fun h => h _)) ?_⟩) h2
      rw [Array.setIfInBounds_comm _ _ hji]
      exact h3.2.2

/-- Such as look at no world. -/
def freeB (o : Oper) : Bool :=
  match o.op with
  | .move _ | .assign _ | .extract .. => true
  | _ => false

/-- The moves: (true, those taken first), (false, those forced). -/
def takesB (ops : Array Oper) (tl : List Nat) : List Nat → Array Bool → Bool
  | [], _ => true
  | i :: l, listed => (Region.ready .any ops listed).contains i && Region.free .any ops listed i && (match ops[i]? with | some o => plainB o | none => false) && ((match ops[i]? with | some o => freeB o | none => false) || tl.all fun j => reachB ops j i) && takesB ops tl l (listed.setIfInBounds i true)
def forceB (ops : Array Oper) : List Nat → Array Bool → Bool
  | [], _ => true
  | i :: l, listed => decide (Region.ready .any ops listed = [i]) && forceB ops l (listed.setIfInBounds i true)
def movesB (ops : Array Oper) (tl : List Nat) : List (Bool × List Nat) → Array Bool → Bool
  | [], listed => forceB ops tl listed && decide (Region.ready .any ops (setAll listed tl) = [])
  | (true, l) :: r, listed => (l.all (· < ops.size)) && takesB ops tl l listed && movesB ops tl r (setAll listed l)
  | (false, l) :: r, listed => (l.all (· < ops.size)) && forceB ops l listed && movesB ops tl r (setAll listed l)

def wpForce (P : Program) (ops : Array Oper) (Q : Exit → Act → World → Prop) (N : Act → World → Prop) : List Oper → Act → World → Prop
  | [], a, w => N a w
  | o :: l, a, w => if Region.wanted o (yielded ops a.tmps) then (∀ K : Act → World → Prop, (∀ a' w', Gr w w' → wpForce P ops Q N l a' w' → K a' w') → o.wp P a w K Q) else wpForce P ops Q N l (a.put o.dst undef) w
def wpMoves (P : Program) (ops : Array Oper) (Q : Exit → Act → World → Prop) (T : List Oper) : List (Bool × List Oper) → Act → World → Prop
  | [], a, w => wpList P ops Q T a w
  | (true, l) :: r, a, w => ∃ w0, Gr w0 w ∧ wpQuiet P ops (fun w' => ∃ x, w' = aftG w0 x) (fun a' => wpMoves P ops Q T r a' w) l a
  | (false, l) :: r, a, w => wpForce P ops Q (wpMoves P ops Q T r) l a w


theorem wpAnyK_tail (t0 : List Nat) : ∀ (t : List Nat) (T : List Oper) (listed : Array Bool) (a : Act) (w : World), (∀ i ∈ t, i ∈ t0) → forceB ops t listed = true → Region.ready .any ops (setAll listed t) = [] →
    (∀ (k : Nat), T[k]? = (t[k]?).bind (fun (i : Nat) => ops[i]?)) → wpList P ops Q T a w → wpAnyK P ops Q t0 t.length listed a w
  | [], T, listed, a, w, _, _, he, hT, hw => by
    have : T = [] := by cases T with
      | nil => rfl
      | cons x T => have := hT 0; simp at this
    subst this
    exact ⟨he, hw⟩
  | t :: l, T, listed, a, w, h0, hB, he, hT, hw => by
    simp only [forceB, Bool.and_eq_true, decide_eq_true_eq] at hB
    refine ⟨fun h0 => (by rw [hB.1] at h0; cases h0), fun i hi => ?_⟩
    rw [hB.1] at hi
    obtain rfl : i = t := by simpa using hi
    have hlt : i < ops.size := by
      have hr : i ∈ Region.ready .any ops listed := by rw [hB.1]; simp
      obtain ⟨o, ho, _⟩ := (mem_ready.1 hr).2
      exact (Array.getElem?_eq_some_iff.1 ho).1
    cases T with
    | nil => have := hT 0; simp [hlt] at this
    | cons o T =>
      have ho : ops[i]? = some o := by have := hT 0; simpa using this.symm
      have hw' : wpOp P ops Q i (wpList P ops Q T) a w := by unfold wpOp; simp only [ho]; exact hw
      exact wpOp_mono (fun a' w' h' => ⟨fun hn => absurd (h0 i (by simp)) hn, wpAnyK_tail t0 l T _ a' w' (fun j hj => h0 j (by simp [hj])) hB.2 he (fun k => by have := hT (k + 1); simpa using this) h'⟩) hw'

theorem wpAnyK_force (g : Nat) {N : Act → World → Prop} : ∀ (l : List Nat) (L : List Oper) (listed : Array Bool) (a : Act) (w : World), Closed ops listed → forceB ops l listed = true →
    (∀ (k : Nat), L[k]? = (l[k]?).bind (fun (i : Nat) => ops[i]?)) → (∀ a w, Closed ops (setAll listed l) → N a w → wpAnyK P ops Q tl g (setAll listed l) a w) → wpForce P ops Q N L a w → wpAnyK P ops Q tl (g + l.length) listed a w
  | [], L, listed, a, w, hc, _, hL, hN, h => by
    have : L = [] := by cases L with
      | nil => rfl
      | cons x T => have := hL 0; simp at this
    subst this
    exact hN a w hc h
  | t :: l, L, listed, a, w, hc, hB, hL, hN, h => by
    simp only [forceB, Bool.and_eq_true, decide_eq_true_eq] at hB
    refine ⟨fun h0 => (by rw [hB.1] at h0; cases h0), fun i hi => ?_⟩
    have hi' := hi
    rw [hB.1] at hi
    obtain rfl : i = t := by simpa using hi
    have hlt : i < ops.size := by
      obtain ⟨o, ho, _⟩ := (mem_ready.1 hi').2
      exact (Array.getElem?_eq_some_iff.1 ho).1
    cases L with
    | nil => have := hL 0; simp [hlt] at this
    | cons o L =>
      have ho : ops[i]? = some o := by have := hL 0; simpa using this.symm
      have go := fun (a' : Act) (w' : World) (h' : wpForce P ops Q N L a' w') => wpAnyK_force g l L (listed.setIfInBounds i true) a' w' (hc.set_ hi') hB.2 (fun k => by have := hL (k + 1); simpa using this) hN h'
      unfold wpOp
      simp only [ho]
      unfold wpForce at h
      split at h
      · rename_i hwt
        rw [if_pos hwt]
        exact .inl (h _ fun a' w' hk h' => ⟨fun _ => hk, go a' w' h'⟩)
      · rename_i hwt
        rw [if_neg hwt]
        exact ⟨fun _ => Gr.refl _, go _ _ h⟩

theorem wpAnyK_takes (hs : Region.noSelect ops = true) (hQ : ∀ c a x v w, Q (.panic c) (a.put x v) w → Q (.panic c) a w) (g : Nat) (w w0 : World) (hw : Gr w0 w) : ∀ (l : List Nat) (L : List Oper) (listed : Array Bool) (a : Act), Closed ops listed → takesB ops tl l listed = true →
    (∀ (k : Nat), L[k]? = (l[k]?).bind (fun (i : Nat) => ops[i]?)) → wpQuiet P ops (fun w' => ∃ x, w' = aftG w0 x) (fun a' => Closed ops (setAll listed l) → wpAnyK P ops Q tl g (setAll listed l) a' w) L a → wpAnyK P ops Q tl (g + l.length) listed a w
  | [], L, listed, a, hc, _, hL, h => by
    have : L = [] := by cases L with
      | nil => rfl
      | cons x T => have := hL 0; simp at this
    subst this
    exact h hc
  | i :: l, L, listed, a, hc, hB, hL, h => by
    simp only [takesB, Bool.and_eq_true] at hB
    obtain ⟨⟨⟨⟨hr, hf⟩, hpl⟩, hre⟩, hB⟩ := hB
    have hr' : i ∈ Region.ready .any ops listed := by simpa using hr
    have hi : i < ops.size := by
      obtain ⟨o, ho, _⟩ := (mem_ready.1 hr').2
      exact (Array.getElem?_eq_some_iff.1 ho).1
    cases L with
    | nil => have := hL 0; simp [hi] at this
    | cons o L =>
      have ho : ops[i]? = some o := by have := hL 0; simpa using this.symm
      rw [ho] at hpl
      have h1 : qOp P ops (fun w' => ∃ x, w' = aftG w0 x) i (wpQuiet P ops (fun w' => ∃ x, w' = aftG w0 x) (fun a' => Closed ops (setAll listed (i :: l)) → wpAnyK P ops Q tl g (setAll listed (i :: l)) a' w) L) a := by unfold qOp; simp only [ho]; exact h
      obtain ⟨v, hy, h⟩ := yieldsIn_of_qOp ho h1
      have hy' : YieldsIf P ops (fun w' => Gr w0 w') o v a := by
        rcases hy with ⟨h2, h3⟩ | h2
        · exact .inl ⟨h2, fun w hw => plain_run hpl (h3 w ⟨_, aftG_of hw⟩)⟩
        · exact .inr h2
      have := wpAnyK_takes hs hQ g w w0 hw l L (listed.setIfInBounds i true) (a.put o.dst v) (hc.set_ hr') hB (fun k => by have := hL (k + 1); simpa using this) h
      rw [ho, Bool.or_eq_true] at hre
      rcases hre with hre | hre
      · have hy2 : YieldsIf P ops (fun _ => True) o v a := by
          rcases hy' with ⟨h2, h3⟩ | h2
          · exact .inl ⟨h2, fun w' _ => free_run hre (h3 w hw) w'⟩
          · exact .inr h2
        exact wpAnyK_first hs ho (fun c a w => hQ c a _ _ w) (fun _ _ _ _ => trivial) (.inr fun _ => trivial) _ listed a w hc (Region.free_spec ho hf) hr' hy2 trivial this
      · exact wpAnyK_first hs ho (fun c a w => hQ c a _ _ w) (fun _ _ h1 h2 => Gr.trans h1 h2) (.inl fun j hj => List.all_eq_true.1 hre j hj) _ listed a w hc (Region.free_spec ho hf) hr' hy' hw this

def total : List (Bool × List Nat) → Nat
  | [] => 0
  | (_, l) :: r => total r + l.length


theorem moves_sound {l0 : List Oper} (hs : Region.noSelect l0.toArray = true) (hQ : ∀ c a x v w, Q (.panic c) (a.put x v) w → Q (.panic c) a w) (htl : ∀ i ∈ tl, i < l0.length) : ∀ (mv : List (Bool × List Nat)) (listed : Array Bool) (a : Act) (w : World), Closed l0.toArray listed → movesB l0.toArray tl mv listed = true →
    wpMoves P l0.toArray Q (pick l0 tl) (mv.map fun m => (m.1, pick l0 m.2)) a w → wpAnyK P l0.toArray Q tl (total mv + tl.length) listed a w
  | [], listed, a, w, hc, hB, h => by
    simp only [movesB, Bool.and_eq_true, decide_eq_true_eq] at hB
    rw [total, Nat.zero_add]
    exact wpAnyK_tail tl tl (pick l0 tl) listed a w (fun _ h => h) hB.1 hB.2 (filter_get tl htl).2 h
  | (true, l) :: r, listed, a, w, hc, hB, h => by
    simp only [movesB, Bool.and_eq_true] at hB
    obtain ⟨⟨hin, htk⟩, hB⟩ := hB
    obtain ⟨w0, hw0, hq⟩ := h
    have hl : ∀ i ∈ l, i < l0.length := fun i hi => by simpa using List.all_eq_true.1 hin i hi
    rw [show total ((true, l) :: r) + tl.length = (total r + tl.length) + l.length by show total r + l.length + tl.length = _; omega]
    exact wpAnyK_takes hs hQ _ w w0 hw0 l (pick l0 l) listed a hc htk (filter_get l hl).2 (quiet_mono' (fun a' h' hc' => moves_sound hs hQ htl r _ a' w hc' hB h') _ _ hq)
  | (false, l) :: r, listed, a, w, hc, hB, h => by
    simp only [movesB, Bool.and_eq_true] at hB
    obtain ⟨⟨hin, hfo⟩, hB⟩ := hB
    have hl : ∀ i ∈ l, i < l0.length := fun i hi => by simpa using List.all_eq_true.1 hin i hi
    rw [show total ((false, l) :: r) + tl.length = (total r + tl.length) + l.length by show total r + l.length + tl.length = _; omega]
    exact wpAnyK_force _ l (pick l0 l) listed a w hc hfo (filter_get l hl).2 (fun a' w' hc' h' => moves_sound hs hQ htl r _ a' w' hc' hB h') h
end

def mvB (ops : Array Oper) (mv : List (Bool × List Nat)) (tl : List Nat) : Bool :=
  Region.noSelect ops && (tl.all (· < ops.size)) && decide (total mv + tl.length = ops.size) && movesB ops tl mv (Array.replicate ops.size false)

/-- mv: the moves; tl: what stands behind them, in a row (it may turn what was there). Nothing panics. -/
theorem wp_region_moves {P : Program} {id : Nat} {Q : Exit → Act → World → Prop} {a : Act} {w : World} {l : List Oper} (mv : List (Bool × List Nat)) (tl : List Nat) (hm : P.follows .mixedOrders = true) (hB : mvB l.toArray mv tl = true)
    (h : ∀ w1, Keep w w1 → wpMoves P l.toArray (Exit.then (fun a w => Q .normal a w) (fun _ _ _ => False)) (pick l tl) (mv.map fun m => (m.1, pick l m.2)) a w1) : (Code.region id l.toArray true).wp P Q a w := by
  simp only [mvB, Bool.and_eq_true, decide_eq_true_eq] at hB
  obtain ⟨⟨⟨hs, htl⟩, hlen⟩, hB⟩ := hB
  refine wp_mono (Q := Exit.then (fun a w => Q .normal a w) (fun _ _ _ => False)) (wp_region_any hm ?_) fun e a w h => by
    cases e with
    | normal => exact h
    | _ => exact False.elim h
  have := moves_sound (P := P) (Q := Exit.then (fun a w => Q .normal a w) (fun _ _ _ => False)) hs (fun _ _ _ _ _ h => h) (fun i hi => by simpa using List.all_eq_true.1 htl i hi) mv _ a { w with drawn := w.drawn + 1 } (closed_none _ _) hB (h _ (((Below.refl _ _).drew)))
  rw [hlen] at this
  exact wpAny_of_K _ _ _ _ this

section
variable {P : Program} {ops : Array Oper} {Q : Exit → Act → World → Prop} {T l : List Oper} {r : List (Bool × List Oper)} {o : Oper} {a : Act} {w : World} {N : Act → World → Prop}
/-- A row of such as are taken first: in a world w0 that lies behind them. -/
theorem mv_take (w0 : World) (hw : Gr w0 w) (h : wpQuiet P ops (fun w' => ∃ x, w' = aftG w0 x) (fun a' => wpMoves P ops Q T r a' w) l a) : wpMoves P ops Q T ((true, l) :: r) a w := ⟨w0, hw, h⟩
theorem mv_force (h : wpForce P ops Q (wpMoves P ops Q T r) l a w) : wpMoves P ops Q T ((false, l) :: r) a w := h
theorem mv_end (h : wpList P ops Q T a w) : wpMoves P ops Q T [] a w := h
theorem fc_nil (h : N a w) : wpForce P ops Q N [] a w := h
theorem fc_step (hw : Region.wanted o (yielded ops a.tmps) = true) (h : ∀ K : Act → World → Prop, (∀ a' w', Gr w w' → wpForce P ops Q N l a' w' → K a' w') → o.wp P a w K Q) : wpForce P ops Q N (o :: l) a w := by
  unfold wpForce; rw [if_pos hw]; exact h
theorem fc_skip (hw : Region.wanted o (yielded ops a.tmps) = false) (h : wpForce P ops Q N l (a.put o.dst undef) w) : wpForce P ops Q N (o :: l) a w := by
  unfold wpForce; rw [if_neg (by rw [hw]; exact Bool.false_ne_true)]; exact h
end

/-! The same with forks: two may come up, the one ahead of the other. -/
inductive Mv where
  | done
  | take (l : List Nat) (r : Mv)
  | force (l : List Nat) (r : Mv)
  | fork (i : Nat) (ri : Mv) (j : Nat) (rj : Mv)
  | fork3 (i : Nat) (ri : Mv) (j : Nat) (rj : Mv) (k : Nat) (rk : Mv)
def Mv.total : Mv → Nat
  | .done => 0
  | .take l r => r.total + l.length
  | .force l r => r.total + l.length
  | .fork _ ri _ _ => ri.total + 1
  | .fork3 _ ri _ _ _ _ => ri.total + 1
def Mv.okB (ops : Array Oper) (tl : List Nat) : Mv → Array Bool → Bool
  | .done, listed => forceB ops tl listed && decide (Region.ready .any ops (setAll listed tl) = [])
  | .take l r, listed => (l.all (· < ops.size)) && takesB ops tl l listed && r.okB ops tl (setAll listed l)
  | .force l r, listed => (l.all (· < ops.size)) && forceB ops l listed && r.okB ops tl (setAll listed l)
  | .fork i ri j rj, listed => decide (i < ops.size) && decide (j < ops.size) && decide (Region.ready .any ops listed = [i, j]) && decide (ri.total = rj.total) && ri.okB ops tl (listed.setIfInBounds i true) && rj.okB ops tl (listed.setIfInBounds j true)
  | .fork3 i ri j rj k rk, listed => decide (i < ops.size) && decide (j < ops.size) && decide (k < ops.size) && decide (Region.ready .any ops listed = [i, j, k]) && decide (ri.total = rj.total) && decide (ri.total = rk.total) && ri.okB ops tl (listed.setIfInBounds i true) && rj.okB ops tl (listed.setIfInBounds j true) && rk.okB ops tl (listed.setIfInBounds k true)
def Mv.wp (P : Program) (l0 : List Oper) (Q : Exit → Act → World → Prop) (T : List Oper) : Mv → Act → World → Prop
  | .done, a, w => wpList P l0.toArray Q T a w
  | .take l r, a, w => ∃ w0, Gr w0 w ∧ wpQuiet P l0.toArray (fun w' => ∃ x, w' = aftG w0 x) (fun a' => r.wp P l0 Q T a' w) (pick l0 l) a
  | .force l r, a, w => wpForce P l0.toArray Q (r.wp P l0 Q T) (pick l0 l) a w
  | .fork i ri j rj, a, w => wpForce P l0.toArray Q (ri.wp P l0 Q T) [nth l0 i] a w ∧ wpForce P l0.toArray Q (rj.wp P l0 Q T) [nth l0 j] a w
  | .fork3 i ri j rj k rk, a, w => wpForce P l0.toArray Q (ri.wp P l0 Q T) [nth l0 i] a w ∧ wpForce P l0.toArray Q (rj.wp P l0 Q T) [nth l0 j] a w ∧ wpForce P l0.toArray Q (rk.wp P l0 Q T) [nth l0 k] a w

section
variable {P : Program} {Q : Exit → Act → World → Prop} {tl : List Nat} {l0 : List Oper}
theorem one_force {ops : Array Oper} {N : Act → World → Prop} {i : Nat} {o : Oper} (ho : ops[i]? = some o) {listed : Array Bool} {a : Act} {w : World} {g : Nat} (hN : ∀ a w, N a w → wpAnyK P ops Q tl g (listed.setIfInBounds i true) a w)
    (h : wpForce P ops Q N [o] a w) : wpOp P ops Q i (fun a' w' => (i ∉ tl → Gr w w') ∧ wpAnyK P ops Q tl g (listed.setIfInBounds i true) a' w') a w := by
  unfold wpOp
  simp only [ho]
  unfold wpForce at h
  split at h
  · rename_i hwt
    rw [if_pos hwt]
    exact .inl (h _ fun a' w' hk h' => ⟨fun _ => hk, hN _ _ h'⟩)
  · rename_i hwt
    rw [if_neg hwt]
    exact ⟨fun _ => Gr.refl _, hN _ _ h⟩

theorem Mv.sound (hs : Region.noSelect l0.toArray = true) (hQ : ∀ c a x v w, Q (.panic c) (a.put x v) w → Q (.panic c) a w) (htl : ∀ i ∈ tl, i < l0.length) : ∀ (mv : Mv) (listed : Array Bool) (a : Act) (w : World), Closed l0.toArray listed → mv.okB l0.toArray tl listed = true →
    mv.wp P l0 Q (pick l0 tl) a w → wpAnyK P l0.toArray Q tl (mv.total + tl.length) listed a w
  | .done, listed, a, w, hc, hB, h => by
    simp only [Mv.okB, Bool.and_eq_true, decide_eq_true_eq] at hB
    rw [Mv.total, Nat.zero_add]
    exact wpAnyK_tail tl tl (pick l0 tl) listed a w (fun _ h => h) hB.1 hB.2 (filter_get tl htl).2 h
  | .take l r, listed, a, w, hc, hB, h => by
    simp only [Mv.okB, Bool.and_eq_true] at hB
    obtain ⟨⟨hin, htk⟩, hB⟩ := hB
    obtain ⟨w0, hw0, hq⟩ := h
    have hl : ∀ i ∈ l, i < l0.length := fun i hi => by simpa using List.all_eq_true.1 hin i hi
    rw [show (Mv.take l r).total + tl.length = (r.total + tl.length) + l.length by show r.total + l.length + tl.length = _; omega]
    exact wpAnyK_takes hs hQ _ w w0 hw0 l (pick l0 l) listed a hc htk (filter_get l hl).2 (quiet_mono' (fun a' h' hc' => Mv.sound hs hQ htl r _ a' w hc' hB h') _ _ hq)
  | .force l r, listed, a, w, hc, hB, h => by
    simp only [Mv.okB, Bool.and_eq_true] at hB
    obtain ⟨⟨hin, hfo⟩, hB⟩ := hB
    have hl : ∀ i ∈ l, i < l0.length := fun i hi => by simpa using List.all_eq_true.1 hin i hi
    rw [show (Mv.force l r).total + tl.length = (r.total + tl.length) + l.length by show r.total + l.length + tl.length = _; omega]
    exact wpAnyK_force _ l (pick l0 l) listed a w hc hfo (filter_get l hl).2 (fun a' w' hc' h' => Mv.sound hs hQ htl r _ a' w' hc' hB h') h
  | .fork i ri j rj, listed, a, w, hc, hB, h => by
    simp only [Mv.okB, Bool.and_eq_true, decide_eq_true_eq] at hB
    obtain ⟨⟨⟨⟨⟨hi, hj⟩, hr⟩, ht⟩, hBi⟩, hBj⟩ := hB
    obtain ⟨h1, h2⟩ := h
    have hoi : l0.toArray[i]? = some (nth l0 i) := by simp at hi ⊢; simp [nth, hi]
    have hoj : l0.toArray[j]? = some (nth l0 j) := by simp at hj ⊢; simp [nth, hj]
    have hri : i ∈ Region.ready .any l0.toArray listed := by rw [hr]; simp
    have hrj : j ∈ Region.ready .any l0.toArray listed := by rw [hr]; simp
    rw [show (Mv.fork i ri j rj).total + tl.length = (ri.total + tl.length) + 1 by show ri.total + 1 + tl.length = _; omega]
    refine ⟨fun h0 => (by rw [hr] at h0; cases h0), fun k hk => ?_⟩
    rw [hr] at hk
    have hk' : k = i ∨ k = j := by simpa using hk
    by_cases hki : k = i
    · subst hki
      exact one_force hoi (fun a' w' h' => Mv.sound hs hQ htl ri _ a' w' (hc.set_ hri) hBi h') h1
    · obtain rfl : k = j := hk'.resolve_left hki
      rw [ht]
      exact one_force hoj (fun a' w' h' => Mv.sound hs hQ htl rj _ a' w' (hc.set_ hrj) hBj h') h2
  | .fork3 i ri j rj k rk, listed, a, w, hc, hB, h => by
    simp only [Mv.okB, Bool.and_eq_true, decide_eq_true_eq] at hB
    obtain ⟨⟨⟨⟨⟨⟨⟨⟨hi, hj⟩, hk⟩, hr⟩, ht⟩, ht2⟩, hBi⟩, hBj⟩, hBk⟩ := hB
    obtain ⟨h1, h2, h3⟩ := h
    have hoi : l0.toArray[i]? = some (nth l0 i) := by simp at hi ⊢; simp [nth, hi]
    have hoj : l0.toArray[j]? = some (nth l0 j) := by simp at hj ⊢; simp [nth, hj]
    have hok : l0.toArray[k]? = some (nth l0 k) := by simp at hk ⊢; simp [nth, hk]
    have hri : i ∈ Region.ready .any l0.toArray listed := by rw [hr]; simp
    have hrj : j ∈ Region.ready .any l0.toArray listed := by rw [hr]; simp
    have hrk : k ∈ Region.ready .any l0.toArray listed := by rw [hr]; simp
    rw [show (Mv.fork3 i ri j rj k rk).total + tl.length = (ri.total + tl.length) + 1 by show ri.total + 1 + tl.length = _; omega]
    refine ⟨fun h0 => (by rw [hr] at h0; cases h0), fun m hm => ?_⟩
    rw [hr] at hm
    have hm' : m = i ∨ m = j ∨ m = k := by simpa using hm
    by_cases hmi : m = i
    · subst hmi
      exact one_force hoi (fun a' w' h' => Mv.sound hs hQ htl ri _ a' w' (hc.set_ hri) hBi h') h1
    · by_cases hmj : m = j
      · subst hmj
        rw [ht]
        exact one_force hoj (fun a' w' h' => Mv.sound hs hQ htl rj _ a' w' (hc.set_ hrj) hBj h') h2
      · obtain rfl : m = k := (hm'.resolve_left hmi).resolve_left hmj
        rw [ht2]
        exact one_force hok (fun a' w' h' => Mv.sound hs hQ htl rk _ a' w' (hc.set_ hrk) hBk h') h3
end

def mtB (ops : Array Oper) (mv : Mv) (tl : List Nat) : Bool :=
  Region.noSelect ops && (tl.all (· < ops.size)) && decide (mv.total + tl.length = ops.size) && mv.okB ops tl (Array.replicate ops.size false)
theorem wp_region_tree {P : Program} {id : Nat} {Q : Exit → Act → World → Prop} {a : Act} {w : World} {l : List Oper} (mv : Mv) (tl : List Nat) (hm : P.follows .mixedOrders = true) (hB : mtB l.toArray mv tl = true)
    (h : ∀ w1, Keep w w1 → mv.wp P l (Exit.then (fun a w => Q .normal a w) (fun _ _ _ => False)) (pick l tl) a w1) : (Code.region id l.toArray true).wp P Q a w := by
  simp only [mtB, Bool.and_eq_true, decide_eq_true_eq] at hB
  obtain ⟨⟨⟨hs, htl⟩, hlen⟩, hB⟩ := hB
  refine wp_mono (Q := Exit.then (fun a w => Q .normal a w) (fun _ _ _ => False)) (wp_region_any hm ?_) fun e a w h => by
    cases e with
    | normal => exact h
    | _ => exact False.elim h
  have := Mv.sound (P := P) (Q := Exit.then (fun a w => Q .normal a w) (fun _ _ _ => False)) hs (fun _ _ _ _ _ h => h) (fun i hi => by simpa using List.all_eq_true.1 htl i hi) mv _ a { w with drawn := w.drawn + 1 } (closed_none _ _) hB (h _ (((Below.refl _ _).drew)))
  rw [hlen] at this
  exact wpAny_of_K _ _ _ _ this
section
variable {P : Program} {l0 T : List Oper} {Q : Exit → Act → World → Prop} {a : Act} {w : World} {l : List Nat} {r ri rj rk : Mv} {i j k : Nat}
theorem mt_take (w0 : World) (hw : Gr w0 w) (h : wpQuiet P l0.toArray (fun w' => ∃ x, w' = aftG w0 x) (fun a' => r.wp P l0 Q T a' w) (pick l0 l) a) : (Mv.take l r).wp P l0 Q T a w := ⟨w0, hw, h⟩
theorem mt_force (h : wpForce P l0.toArray Q (r.wp P l0 Q T) (pick l0 l) a w) : (Mv.force l r).wp P l0 Q T a w := h
theorem mt_fork (h1 : wpForce P l0.toArray Q (ri.wp P l0 Q T) [nth l0 i] a w) (h2 : wpForce P l0.toArray Q (rj.wp P l0 Q T) [nth l0 j] a w) : (Mv.fork i ri j rj).wp P l0 Q T a w := ⟨h1, h2⟩
theorem mt_fork3 (h1 : wpForce P l0.toArray Q (ri.wp P l0 Q T) [nth l0 i] a w) (h2 : wpForce P l0.toArray Q (rj.wp P l0 Q T) [nth l0 j] a w) (h3 : wpForce P l0.toArray Q (rk.wp P l0 Q T) [nth l0 k] a w) : (Mv.fork3 i ri j rj k rk).wp P l0 Q T a w := ⟨h1, h2, h3⟩
theorem mt_end (h : wpList P l0.toArray Q T a w) : Mv.done.wp P l0 Q T a w := h
end

/-- A whole variable loaded, in a region that draws its order. -/
theorem wpQuiet_load_arrG {P : Program} {w0 : World} {ops : Array Oper} {rest : List Oper} {a : Act} {Q : Act → Prop} {x : Operand} {dst : Option Tmp} {ty ty' t : TypeId} {pos : String} {af : Array Edge}
    (g : Nat) (cs : Array Value) (hx : a.eval x = .pointer (some ⟨g, 0, none⟩)) (hb : Blk w0 g t cs.toList) (hne : ¬ MM.m g) (d : TypeDesc) (hu : P.underlying ty = some d) (hd : d.isRow = true) (hi : (P.info? ty).map (·.size) = some cs.size)
    (h : wpQuiet P ops (fun w' => ∃ x, w' = aftG w0 x) Q rest (a.put dst (.agg cs))) :
    wpQuiet P ops (fun w' => ∃ x, w' = aftG w0 x) Q ({ dst := dst, op := .load ty x, type := ty', pos := pos, after := af, guard := none } :: rest) a := by
  refine BigFrame.wpQuiet_want (by simp [Region.wanted]) fun K hK => ⟨.agg cs, fun w hw => ?_, hK _ h⟩
  obtain ⟨y, rfl⟩ := hw
  have hb2 := aftG_blk hb hne y
  unfold Oper.quietAt execOp
  have hl := run_loadVar_mid (P := P) (aftG w0 y) g 0 ty cs.toList d (fun j v hv => by rw [Nat.zero_add, hb2.cell]; exact hv) hu hd (by simpa using hi)
  simp only [hx, Instr.loadAt, Instr.sureAddr, Sem.run_bind, Sem.run_pure, Result.andThen_ok, hl, Array.toArray_toList]
  exact ⟨rfl, rfl⟩
end Go.Proofs.YtjbdboekleaklaaGreatDoor.H

/- florinlaw17's example walked. (printed by gen_tk17.py) -/
set_option linter.unusedSimpArgs false
set_option linter.unusedVariables false
namespace Go.Proofs.YtjbdboekleaklaaGreatDoor
open Go.RowKit
attribute [local go_sem ↓] Go.wp_at_zero Go.wp_at_succ

theorem ruF_B : Tryz.prog.built 64 [(0, .int .u32 545259519), (1, .int .i64 9), (2, .int .i64 90), (3, .int .i64 10)] = some #[u32v 545259519, iv 9, iv 90, iv 10, iv 0, iv 0, .slice none 0 0] := by kernel_rfl
theorem parF_info : (Tryz.prog.info? 64).map (·.size) = some 7 := by kernel_rfl
set_option maxRecDepth 100000 in
theorem ruleF_any (w : World) : Calls Tryz.prog 27 #[] w fun e w' => e = .returned (parV fkR none 0) ∧ Keep w w' := by
  have hB := ruF_B
  go_enter Tryz.func27, Tryz.ntmps27
  go_wp2
  exact bodyPost_ret (v := parV fkR none 0) (results_cell_row Tryz.results27 _ _ w.heap.size _ _ _ _ rfl (heap_alloc_new w _) Tryz.underlying64 rfl parF_info) rfl ⟨rfl, keep_new _ _⟩
theorem fkA_built : Tryz.prog.built 39 [(4, .int .u32 545259519)] = some fkA.cells.toArray := by kernel_rfl
set_option maxRecDepth 100000 in
theorem mkF_built (l : List UInt8) (ds : Array Value) (hl : l.length = 32) (hd : HashA l ds) : Tryz.prog.built 39 [(1, .agg ds), (3, .int .u32 1), (4, .int .u32 545259519)] = some (mkF l 0).cells.toArray := by
  obtain rfl := hd.e
  obtain ⟨a0, a1, a2, a3, a4, a5, a6, a7, a8, a9, b0, b1, b2, b3, b4, b5, b6, b7, b8, b9, c0, c1, c2, c3, c4, c5, c6, c7, c8, c9, d0, d1, rfl⟩ := list32b hl
  show _ = _
  kernel_rfl

set_option maxRecDepth 100000 in
set_option maxHeartbeats 8000000 in
theorem awake_any (w : World) (hS : ShaOk w) : Calls Tryz.prog 8 #[] w fun e w' => e = .returned (.bool true) ∧ Keep w w' := by
  obtain ⟨av, hav, have_⟩ : ∃ av, HdA fkA av ∧ fkA.cells.toArray = av := ⟨_, HdA.of fkA_ok, rfl⟩
  obtain ⟨W0, hW0⟩ := acc_first fkR fkA 5 (fk_b _)
  have hne := fk_ne
  obtain ⟨hmine1, hmine2⟩ := fk_mine
  have hm2 := fk_m2
  obtain ⟨I0, hI0⟩ : ∃ I, idL fkA = I := ⟨_, rfl⟩
  have hI0l : I0.length = 32 := by rw [← hI0]; exact idL_len _
  rw [hI0] at hW0 hne hmine1 hmine2 hm2
  have hck := fk_check I0 2 hI0 hm2
  obtain ⟨hH, hHe⟩ : ∃ h, mkF I0 2 = h := ⟨_, rfl⟩
  have hHo : hH.ok := by rw [← hHe]; exact mkF_ok _ _ hI0l
  have hHb : (mkF I0 0).bump 2 = hH := by rw [mkF_bump, ← hHe]; rfl
  rw [hHe] at hne hck hm2
  obtain ⟨I1, hI1⟩ : ∃ I, idL hH = I := ⟨_, rfl⟩
  rw [hI1] at hne
  obtain ⟨S, hS2⟩ := acc_second W0 (fk_b hH) hI1 (by rw [← hHe]; exact mkF_prev _ _) hne hck
  obtain ⟨hv, hhv⟩ : ∃ hv, HdA hH hv := ⟨_, HdA.of hHo⟩
  obtain ⟨bv, hbv, hbve⟩ : ∃ bv, HdA (mkF I0 0) bv ∧ (mkF I0 0).cells.toArray = bv := ⟨_, HdA.of (mkF_ok _ _ hI0l), rfl⟩
  have NW : Hid (∀ y, Calls Tryz.prog 25 #[.int .i64 5] y fun e w' => ∃ T M, e = .returned (pT T) ∧ TrO w' y.heap.size T M (.slice none 0 0) 5 [] ∧ Keep y w') := Lib.hid fun y => new_any 5 y
  have BA : Hid (Tryz.prog.built 39 [(4, .int .u32 545259519)] = some av) := Lib.hid (by rw [← have_]; exact fkA_built)
  have BB : Hid (∀ ds, HashA I0 ds → Tryz.prog.built 39 [(1, .agg ds), (3, .int .u32 1), (4, .int .u32 545259519)] = some bv) := Lib.hid fun ds hd => by rw [← hbve]; exact mkF_built _ ds hI0l hd
  have RU : Hid (∀ y, Calls Tryz.prog 27 #[] y fun e w' => e = .returned (parV fkR none 0) ∧ Keep y w') := Lib.hid ruleF_any
  have ID : Hid (∀ y, Keep w y → Calls Tryz.prog 21 #[.agg av] y fun e w' => ∃ ds, e = .returned (.agg ds) ∧ HashA I0 ds ∧ Keep y w') := Lib.hid fun y hy => by rw [← hI0]; exact id_any fkA av y (hS.keep hy) fkA_ok hav
  have MI : Hid (∀ y, Keep w y → Calls Tryz.prog 28 #[.agg bv, .int .u32 545259519, .int .i64 200] y fun e w' => ∃ ds, e = .returned (.tuple #[.agg ds, .bool true]) ∧ ds = hv ∧ Keep y w') := Lib.hid fun y hy => by
    refine (mine_any (mkF I0 0) bv 545259519 200 2 y (hS.keep hy) (mkF_ok _ _ hI0l) hbv (by decide) (by decide) hmine1 hmine2).mono ?_
    rintro e w' ⟨ds, h1, h2, h3⟩
    rw [hHb] at h2
    exact ⟨ds, h1, by rw [← Array.toArray_toList (xs := ds), h2.l, ← hhv.l, Array.toArray_toList], h3⟩
  have A1 : Hid (∀ y T M v, Keep w y → TrO y w.heap.size T M v 5 [] → Calls Tryz.prog 26 #[parV fkR none 0, pT T, .agg av, iv 5] y fun e w' => ∃ x, e = .returned x ∧ ∃ v', TrO w' w.heap.size T M v' 5 [⟨I0, fkA, -1, 0, W0⟩] ∧ KeepX (XT T M v) y w') := Lib.hid fun y T M v hy hO => by
    have q := accept_any fkR none 0 w.heap.size T M v 5 [] fkA av 5 y (hS.keep hy) ⟨Rd.nil _ _, (fun x hx => absurd hx List.not_mem_nil), by decide⟩ Tr.nil hO (by decide) fkA_ok hav hy.size
    rw [hW0] at q
    exact q.mono fun e w' ⟨h1, v', h2, h3, _⟩ => ⟨_, h1, v', h2, h3⟩
  have T1 : Tr [(⟨I0, fkA, -1, 0, W0⟩ : Nd)] := by
    have q := Tr.push Tr.nil fkA_ok (I := I0) (W := workN fkA.bits) hI0.symm hI0l (workN_lt _) (by rfl) (by simp)
    have hw : W0 = workN fkA.bits := by
      have q2 : (accR fkR 5 [] fkA 5).1 = [⟨I0, fkA, -1, 0, workN fkA.bits⟩] := by
        unfold accR addR
        rw [fk_b, if_neg (by decide), if_pos rfl, if_neg (by simp), hI0]
        generalize workN fkA.bits = Wx
        rfl
      rw [hW0] at q2
      generalize workN fkA.bits = Wx at *
      exact congrArg Nd.work (List.cons.inj q2).1
    rw [hw]
    exact q
  have A2 : Hid (∀ y T M v, Keep w y → TrO y w.heap.size T M v 5 [⟨I0, fkA, -1, 0, W0⟩] → Calls Tryz.prog 26 #[parV fkR none 0, pT T, .agg hv, iv 5] y fun e w' => e = .returned (.tuple #[iv 1, iv 0]) ∧ ∃ v', TrO w' w.heap.size T M v' 5 [⟨I0, fkA, -1, 0, W0⟩, ⟨I1, hH, 0, 1, S⟩] ∧ KeepX (XT T M v) y w') := Lib.hid fun y T M v hy hO => by
    have q := accept_any fkR none 0 w.heap.size T M v 5 _ hH hv 5 y (hS.keep hy) ⟨Rd.nil _ _, (fun x hx => absurd hx List.not_mem_nil), by decide⟩ T1 hO (by simp) hHo hhv hy.size
    rw [hS2] at q
    exact q.mono fun e w' ⟨h1, v', h2, h3, _⟩ => ⟨h1, v', h2, h3⟩
  have T2 : Tr [(⟨I0, fkA, -1, 0, W0⟩ : Nd), ⟨I1, hH, 0, 1, S⟩] := by
    have f1 : findN [(⟨I0, fkA, -1, 0, W0⟩ : Nd)] I1 = none := by unfold findN; simp [List.findIdx?_cons, hne]
    have f2 : findN [(⟨I0, fkA, -1, 0, W0⟩ : Nd)] hH.prev = some 0 := by unfold findN; rw [← hHe, mkF_prev]; simp [List.findIdx?_cons]
    have q := T1.push hHo (I := I1) (W := workN hH.bits) hI1.symm (by rw [← hI1]; exact idL_len _) (workN_lt _) f1 (by rw [f2]; simp)
    have q2 : (accR fkR 5 [⟨I0, fkA, -1, 0, W0⟩] hH 5).1 = [(⟨I0, fkA, -1, 0, W0⟩ : Nd)] ++ [newN [⟨I0, fkA, -1, 0, W0⟩] I1 hH (workN hH.bits)] := by
      have f3 : (lineO [(⟨I0, fkA, -1, 0, W0⟩ : Nd)] ((0 : Nat) : Int)).map (headN [(⟨I0, fkA, -1, 0, W0⟩ : Nd)]) = [fkA] := rfl
      unfold accR addR
      rw [fk_b, hI1, if_neg (by decide), if_neg (by simp), f1]
      simp only
      rw [f2]
      simp only
      rw [f3, hck, if_neg (by simp)]
      unfold addI
      rw [f1]
      simp only
      rw [f2, if_neg (by simp), if_neg (by simp)]
    rw [hS2] at q2
    rw [← q2] at q
    exact q
  have RE : Hid (∀ y T, TrR y T [⟨I0, fkA, -1, 0, W0⟩, ⟨I1, hH, 0, 1, S⟩] → Calls Tryz.prog 11 #[pT T, .int .i64 1, .int .i64 0] y fun e w' => ∃ B1 c1 B2 c2, e = .returned (.tuple #[.slice B1 1 c1, .slice B2 0 c2]) ∧ Keep y w') := Lib.hid fun y T hr => by
    have q := reorg_any T _ 1 0 y hr T2 (by simp) (by omega) (by omega)
    rw [(two_line I0 I1 fkA hH W0 S).1, (two_line I0 I1 fkA hH W0 S).2, two_und.1, two_und.2.1] at q
    refine q.mono fun e w' ⟨v1, v2, h1, h2, h3, h4⟩ => ?_
    obtain ⟨B1, c1, rfl, -⟩ := own_form h2
    obtain ⟨B2, c2, rfl, -⟩ := own_form h3
    exact ⟨B1, c1, B2, c2, h1, h4⟩
  have DE : Hid (∀ y T, TrR y T [⟨I0, fkA, -1, 0, W0⟩, ⟨I1, hH, 0, 1, S⟩] → Calls Tryz.prog 14 #[pT T, .int .i64 1, .int .i64 0] y fun e w' => e = .returned (.tuple #[.int .i64 2, .bool true]) ∧ Keep y w') := Lib.hid fun y T hr => by
    have q := depth_any T _ 1 0 y hr T2 (by simp) (by omega) (by omega)
    rw [two_dep] at q
    exact q
  have LO : Hid (∀ y T, TrR y T [⟨I0, fkA, -1, 0, W0⟩, ⟨I1, hH, 0, 1, S⟩] → Calls Tryz.prog 16 #[pT T, .int .i64 1] y fun e w' => ∃ B1 c1, e = .returned (.slice B1 2 c1) ∧ Keep y w') := Lib.hid fun y T hr => by
    have q := locator_any T _ 1 y hr T2 (by simp) (by omega)
    refine q.mono fun e w' ⟨v1, h1, h2, h3⟩ => ?_
    obtain ⟨B1, c1, rfl, -⟩ := own_form h2
    refine ⟨B1, c1, ?_, h3⟩
    rw [h1, show (locN [⟨I0, fkA, -1, 0, W0⟩, ⟨I1, hH, 0, 1, S⟩] 1).length = 2 by unfold locN; rw [List.length_map, (two_line I0 I1 fkA hH W0 S).1]; exact two_und.2.2]
  have avz := hav.z; have avn := hav.n; have avi := hav.i; have avo := Lib.hid hav.o
  have hvz := hhv.z; have hvn := hhv.n; have hvi := hhv.i; have hvo := Lib.hid hhv.o
  clear hav have_ hW0 hne hmine1 hmine2 hm2 hI0 hI0l hck hHe hHo hHb hI1 hS2 hhv hbv hbve hS T1 T2
  obtain ⟨N1, hN1⟩ : ∃ n, [(⟨I0, fkA, -1, 0, W0⟩ : Nd)] = n := ⟨_, rfl⟩
  obtain ⟨N2, hN2⟩ : ∃ n, [(⟨I0, fkA, -1, 0, W0⟩ : Nd), ⟨I1, hH, 0, 1, S⟩] = n := ⟨_, rfl⟩
  rw [hN1] at A1 A2
  rw [hN2] at A2 RE DE LO
  clear hN1 hN2
  generalize parV fkR none 0 = PV at *
  obtain ⟨zs, hz1, hz2, hz3, -⟩ := zhead_letter
  go_enter Tryz.func8, Tryz.ntmps8
  go_wp2_with fail
  refine (NW.out _).mono ?_
  clear NW
  rintro e w1 ⟨T, M, rfl, hO, k1⟩
  have HO1 := Lib.hid hO; have HK1 := Lib.hid k1
  clear hO k1
  have hst : (storeCells ⟨w1.heap.size, 0, none⟩ av.toList 0).run Tryz.prog (w1.alloc (.cells zs 39)) = .ok () (w1.alloc (.cells av 39)) := run_storeCells_new (P := Tryz.prog) w1 39 zs av avi (hz1.trans avz.symm) (by have := all_oneCell_toArray avo.out; rwa [Array.toArray_toList] at this)
  go_upto_region 3 with ((with_reducible refine list_buildr [(4, .int .u32 545259519)] av (Eq.trans ?_ rfl) BA.out ?_); rfl)
  clear hst BA
  have hT1 := HO1.out.b.lt; have hM1 := HO1.out.m.lt
  obtain ⟨w2, hw2⟩ : ∃ w2, w2 = w1.alloc (.cells av 39) := ⟨_, rfl⟩
  have HO2 : Hid (TrO w2 w.heap.size T M (.slice none 0 0) 5 []) := by rw [hw2]; exact Lib.hid (HO1.out.keep (keep_new _ _))
  have HA2 : Hid (Blk w2 w1.heap.size 39 av.toList) := by rw [hw2]; exact Lib.hid (Blk.new w1 _ av.toList)
  have HK2 : Hid (Keep w w2) := by rw [hw2]; exact Lib.hid (keep_trans HK1.out (keep_new _ _))
  rw [← hw2]
  clear hw2 HO1 HK1
  generalize w1.heap.size = ga at *
  refine wp_region_tree (.take [1,2] (.force [0] .done)) [3] (by kernel_rfl) (by kernel_rfl) (fun w3 k3 => ?_)
  have HO3 := Lib.hid (HO2.out.keep k3)
  have HA3 := Lib.hid (HA2.out.keep k3)
  have HK3 := Lib.hid (keep_trans HK2.out k3)
  have RA : Hid (w3.rangeAt ga 0 av.toList) := Lib.hid (range_of HA3.out 0 av.toList (by simp [List.take_of_length_le]))
  clear k3 HO2 HA2 HK2
  refine mt_take w3 (Below.refl _ _) ?_
  simp only [pick_cons, pick_nil, nth_zero, nth_succ]
  repeat (first
    | ((with_reducible refine wpQuiet_load_partg ga 0 av (Eq.trans ?_ rfl) RA.out _ Tryz.underlying39 rfl avi (Eq.trans ?_ rfl) ?_); rfl; rfl; simp only [Act.put, Array.set!_eq_setIfInBounds, List.setIfInBounds_toArray, List.set_cons_succ, List.set_cons_zero])
    | go_big_quiet_step (fail))
  refine wpQuiet_nil (mt_force ?_)
  simp only [pick_cons, pick_nil, nth_zero, nth_succ]
  refine fc_step rfl (fun K hK => ?_)
  go_simp
  (with_reducible refine (RU.out _).mono ?_)
  rintro e w4 ⟨rfl, k4⟩
  refine hK _ _ k4 ?_
  clear hK K
  have HO4 := Lib.hid (HO3.out.keep k4)
  clear HO3 RA
  have HA4 := Lib.hid (HA3.out.keep k4)
  have HK4 := Lib.hid (keep_trans HK3.out k4)
  clear k4 HA3 HK3
  refine fc_nil (mt_end ?_)
  go_wp2_with fail
  refine (A1.out _ T M _ HK4.out HO4.out).mono ?_
  clear A1
  rintro e w5 ⟨x5, rfl, v5, hO5, kx5⟩
  have HA5 : Hid (Blk w5 ga 39 av.toList) := Lib.hid (HA4.out.kx kx5 (by simp [XT, Value.ownBlock]; omega))
  have HK5 : Hid (Keep w w5) := Lib.hid (kx5.keep HK4.out HO4.out.x)
  have HO5 := Lib.hid hO5
  clear hO5 kx5 HA4 HK4 HO4
  have RA : Hid (w5.rangeAt ga 0 av.toList) := Lib.hid (range_of HA5.out 0 av.toList (by simp [List.take_of_length_le]))
  go_wp2_with ((with_reducible refine load_partg ga 0 av (Eq.trans ?_ rfl) RA.out _ Tryz.underlying39 rfl avi rfl ?_); rfl)
  refine (ID.out _ HK5.out).mono ?_
  clear ID RA
  rintro e w6 ⟨ds, rfl, hds, k6⟩
  have HBB := Lib.hid (BB.out ds hds)
  have HK6 := Lib.hid (keep_trans HK5.out k6)
  have HO6 := Lib.hid (HO5.out.keep k6)
  clear hds BB k6 HK5 HO5 HA5
  go_wp2_with ((with_reducible refine list_buildr [(1, .agg ds), (3, .int .u32 1), (4, .int .u32 545259519)] bv (Eq.trans ?_ rfl) HBB.out ?_); rfl)
  refine (MI.out _ HK6.out).mono ?_
  clear MI HBB
  rintro e w7 ⟨es, rfl, hes, k7⟩
  subst hes
  have HK7 := Lib.hid (keep_trans HK6.out k7)
  have HO7 := Lib.hid (HO6.out.keep k7)
  clear k7 HK6 HO6
  have hst : (storeCells ⟨w7.heap.size, 0, none⟩ es.toList 0).run Tryz.prog (w7.alloc (.cells zs 39)) = .ok () (w7.alloc (.cells es 39)) := run_storeCells_new (P := Tryz.prog) w7 39 zs es hvi (hz1.trans hvz.symm) (by have := all_oneCell_toArray hvo.out; rwa [Array.toArray_toList] at this)
  go_upto_region 5 with fail
  clear hst
  obtain ⟨w8, hw8⟩ : ∃ w8, w8 = w7.alloc (.cells es 39) := ⟨_, rfl⟩
  have HO8 : Hid (TrO w8 w.heap.size T M v5 5 N1) := by rw [hw8]; exact Lib.hid (HO7.out.keep (keep_new _ _))
  have HH8 : Hid (Blk w8 w7.heap.size 39 es.toList) := by rw [hw8]; exact Lib.hid (Blk.new w7 _ es.toList)
  have HK8 : Hid (Keep w w8) := by rw [hw8]; exact Lib.hid (keep_trans HK7.out (keep_new _ _))
  rw [← hw8]
  obtain ⟨gh, hgh⟩ : ∃ g, w7.heap.size = g := ⟨_, rfl⟩
  have hT7 := HO7.out.b.lt; have hM7 := HO7.out.m.lt
  have hNX : ¬ XT T M v5 gh := by
    rintro (q | q | q)
    · omega
    · omega
    · have := (HO7.out.o.lt gh q).2; omega
  rw [hgh] at HH8 ⊢
  clear hgh
  clear hw8 HO7 HK7
  letI iM : H.Mk := ⟨XT T M v5⟩
  have hNX2 : ¬ H.Mk.m gh := hNX
  refine H.wp_region_tree (.take [1,2] (.force [0,3] (.take [4,5,6,7,8] .done))) [] (by kernel_rfl) (by kernel_rfl) (fun w9 k9 => ?_)
  have HO9 := Lib.hid (HO8.out.keep k9)
  have HH9 := Lib.hid (HH8.out.keep k9)
  have HK9 := Lib.hid (keep_trans HK8.out k9)
  clear k9 HO8 HH8 HK8
  refine H.mt_take w9 (H.Gr.refl _) ?_
  simp only [pick_cons, pick_nil, nth_zero, nth_succ]
  repeat (first
    | ((with_reducible refine H.wpQuiet_load_arrG gh es (Eq.trans ?_ rfl) HH9.out hNX2 _ Tryz.underlying39 rfl hvi ?_); rfl; simp only [Act.put, Array.set!_eq_setIfInBounds, List.setIfInBounds_toArray, List.set_cons_succ, List.set_cons_zero])
    | go_big_quiet_step (fail))
  refine wpQuiet_nil (H.mt_force ?_)
  simp only [pick_cons, pick_nil, nth_zero, nth_succ]
  refine H.fc_step rfl (fun K hK => ?_)
  go_simp
  (with_reducible refine (RU.out _).mono ?_)
  rintro e wa ⟨rfl, ka⟩
  refine hK _ _ (H.Gr.of_keep ka) ?_
  clear hK K
  have HOa := Lib.hid (HO9.out.keep ka)
  have HKa := Lib.hid (keep_trans HK9.out ka)
  clear ka HO9 HH9 HK9
  refine H.fc_step rfl (fun K hK => ?_)
  go_simp
  (with_reducible refine (A2.out _ T M _ HKa.out HOa.out).mono ?_)
  clear A2
  rintro e wb ⟨rfl, v6, hOb, kxb⟩
  refine hK _ _ kxb ?_
  clear hK K
  refine H.fc_nil (H.mt_take wb (H.Gr.refl _) ?_)
  simp only [pick_cons, pick_nil, nth_zero, nth_succ]
  repeat (go_big_quiet_step (fail))
  refine wpQuiet_nil (H.mt_end ?_)
  have HKb : Hid (Keep w wb) := Lib.hid (kxb.keep HKa.out HOa.out.x)
  have HRb := Lib.hid hOb.r
  clear hNX hNX2 hOb kxb HKa HOa RU
  clear iM
  go_wp2_with fail
  refine (RE.out _ T HRb.out).mono ?_
  clear RE
  rintro e wc ⟨B1, c1, B2, c2, rfl, kc⟩
  have HRc := Lib.hid (HRb.out.keep kc); have HKc := Lib.hid (keep_trans HKb.out kc)
  clear kc HRb HKb
  go_wp2_with fail
  refine (DE.out _ T HRc.out).mono ?_
  clear DE
  rintro e wd ⟨rfl, kd⟩
  have HRd := Lib.hid (HRc.out.keep kd); have HKd := Lib.hid (keep_trans HKc.out kd)
  clear kd HRc HKc
  go_wp2_with fail
  refine (LO.out _ T HRd.out).mono ?_
  clear LO
  rintro e we ⟨B3, c3, rfl, ke⟩
  have HKe := Lib.hid (keep_trans HKd.out ke)
  clear ke HRd HKd
  go_wp2
  exact bodyPost_ret (v := .bool true) (by simp [results, Tryz.results8]) rfl ⟨rfl, HKe.out⟩
end Go.Proofs.YtjbdboekleaklaaGreatDoor

/- ForkDepth: the walk. -/
set_option linter.unusedSimpArgs false
set_option linter.unusedVariables false
namespace Go.Proofs.YtjbdboekleaklaaGreatDoor
open Go.RowKit
attribute [local go_sem ↓] Go.wp_at_zero Go.wp_at_succ

theorem line_some {ns : List Nd} (TR : Tr ns) {i : Int} {k x : Nat} (h : (lineO ns i)[k]? = some x) : ∃ n : Nat, i = n ∧ n < ns.length ∧ k ≤ hgtN ns n ∧ x = abvN ns n k ∧ x < ns.length ∧ hgtN ns x = k := by
  unfold lineO at h
  split at h
  · rename_i hc
    have hk := (List.getElem?_eq_some_iff.1 h).1
    rw [line_len] at hk
    rw [line_abv (by omega)] at h
    have hx := Option.some.inj h
    obtain ⟨-, a, b⟩ := TR.abv hc.2 (h := k) (by omega)
    rw [hx] at a b
    exact ⟨i.toNat, by omega, hc.2, by omega, hx.symm, a, b⟩
  · simp at h
theorem dep_some {ns : List Nd} (TR : Tr ns) {i j : Int} {d : Nat} (h : depR ns i j = some d) : ∃ k, (∃ x : Nat, (lineO ns i)[k]? = some x ∧ (x : Int) = j) ∧ d + k = (lineO ns i).length ∧ ∀ m x : Nat, (lineO ns i)[m]? = some x → (x : Int) = j → m = k := by
  unfold depR at h
  split at h
  · rename_i hc
    obtain ⟨hs, ha⟩ := hc
    obtain ⟨q, hq, hqj⟩ : ∃ q, abvO ns i (((nodeO ns j).getD nd0).hgt : Int) = some q ∧ (q : Int) = j := by
      cases hq : abvO ns i (((nodeO ns j).getD nd0).hgt : Int) with
      | none => rw [hq] at ha; cases ha
      | some q => rw [hq] at ha; exact ⟨q, rfl, by simpa using ha⟩
    obtain ⟨n, g, h1, h2, h3, h4, h5⟩ := abvO_some hq
    obtain ⟨y, hy⟩ := Option.isSome_iff_exists.1 hs
    rw [hy] at h h2
    simp only [Option.getD_some] at h h2
    have hL : lineO ns i = lineN ns n := by unfold lineO; rw [if_pos ⟨by omega, by omega⟩, h1]; simp
    have hgk : (lineO ns i)[g]? = some q := by rw [hL, line_abv h4, h5]
    refine ⟨g, ⟨q, hgk, hqj⟩, ?_, fun m x hm hx => ?_⟩
    · have hd := Option.some.inj h
      rw [hL, line_len]
      rw [h1, Int.toNat_natCast] at hd
      have : y.hgt = g := by omega
      omega
    · obtain ⟨-, -, -, -, -, -, e1⟩ := line_some TR hm
      obtain ⟨-, -, -, -, -, -, e2⟩ := line_some TR hgk
      have : x = q := by omega
      rw [this] at e1
      omega
  · cases h
theorem dep_none {ns : List Nd} (TR : Tr ns) {i j : Int} (h : depR ns i j = none) (m x : Nat) (hm : (lineO ns i)[m]? = some x) : (x : Int) ≠ j := fun hx => by
  obtain ⟨n, h1, h2, h3, h4, h5, h6⟩ := line_some TR hm
  have hn : nodeO ns j = some ns[x] := by rw [← hx, nodeO_nat, List.getElem?_eq_getElem h5]
  have hh : ns[x].hgt = m := by rw [← hgtN_of (List.getElem?_eq_getElem h5)]; exact h6
  have ha : abvO ns i (m : Int) = some x := by
    unfold abvO
    rw [h1, nodeO_nat, List.getElem?_eq_getElem h2]
    rw [hgtN_of (List.getElem?_eq_getElem h2)] at h3
    rw [if_pos ⟨rfl, by omega, by simp; omega⟩]
    simp [h4]
  unfold depR at h
  rw [hn] at h
  simp only [Option.getD_some, hh, ha] at h
  rw [if_pos ⟨rfl, by simp [hx]⟩] at h
  cases h

set_option maxRecDepth 100000 in
set_option maxHeartbeats 8000000 in
theorem depth_walk (B : Option Addr) (l : List Hd) (d : Nat) (i j : Int) (w : World) (hS : ShaOk w) (hd : l.length ≤ d) (hdm : d ≤ maxLen) (hr : Rd w B (l.flatMap Hd.cells)) (hk : ∀ h ∈ l, h.ok)
    (hi : -9223372036854775808 ≤ i ∧ i ≤ 9223372036854775807) (hj : -9223372036854775808 ≤ j ∧ j ≤ 9223372036854775807) :
    Calls Tryz.prog 4 #[.slice B l.length d, iv i, iv j] w fun e w' => e = .returned (.bool true) ∧ Keep w w' := by
  have AW : Hid (∀ y, Keep w y → Calls Tryz.prog 8 #[] y fun e w' => e = .returned (.bool true) ∧ Keep y w') := Lib.hid fun y hy => awake_any y (hS.keep hy)
  have PL : Hid (∀ y, Keep w y → l.length ≤ 30 → Calls Tryz.prog 9 #[.slice B l.length d] y fun e w' => ∃ T, e = .returned (pT T) ∧ TrR w' T (plainR l) ∧ Keep y w') := Lib.hid fun y hy h1 =>
    (plainly_any B l d y (hS.keep hy) (by omega) (hr.keep hy) hk).mono fun e w' ⟨T, M, v, h2, h3, h4⟩ => ⟨T, h2, h3.r, h4⟩
  obtain ⟨TR, hlen⟩ := plain_tr l hk
  have L1 : Hid (∀ y T, TrR y T (plainR l) → l.length ≤ 30 → Calls Tryz.prog 12 #[pT T, iv i] y (Lined y.heap.size (lineO (plainR l) i) y)) := Lib.hid fun y T hy h1 => line_any T _ i y hy TR (by omega) hi
  have D1 : Hid (∀ y T, TrR y T (plainR l) → l.length ≤ 30 → Calls Tryz.prog 14 #[pT T, iv i, iv j] y fun e w' => e = .returned (.tuple #[iv ((depR (plainR l) i j).getD 0 : Nat), .bool (depR (plainR l) i j).isSome]) ∧ Keep y w') := Lib.hid fun y T hy h1 => depth_any T _ i j y hy TR (by omega) hj hi
  have HLL : Hid (l.length ≤ 30 → (lineO (plainR l) i).length ≤ 30) := Lib.hid fun h1 => by have := lineO_len TR i; omega
  have HS : Hid (∀ d, depR (plainR l) i j = some d → ∃ k, (∃ x : Nat, (lineO (plainR l) i)[k]? = some x ∧ (x : Int) = j) ∧ d + k = (lineO (plainR l) i).length ∧ ∀ m x : Nat, (lineO (plainR l) i)[m]? = some x → (x : Int) = j → m = k) := Lib.hid fun d h => dep_some TR h
  have HN : Hid (depR (plainR l) i j = none → ∀ m x : Nat, (lineO (plainR l) i)[m]? = some x → (x : Int) ≠ j) := Lib.hid fun h => dep_none TR h
  clear hS hr hk hd hdm TR hlen
  generalize depR (plainR l) i j = DR at *
  generalize lineO (plainR l) i = L at *
  generalize plainR l = ns at *
  generalize l.length = n at *
  unfold Lined at *
  have HK : Hid (Keep w w) := Lib.hid (Below.refl _ _)
  go_enter Tryz.func4, Tryz.ntmps4
  go_wp2_with fail
  refine (AW.out _ HK.out).mono ?_
  clear AW
  rintro e w1 ⟨rfl, k1⟩
  have HK1 := Lib.hid k1
  clear k1 HK
  by_cases hn : 30 < n
  · have d1 : (30 : Int) < n := by omega
    clear PL L1 D1 HLL HS HN
    go_wp2
    exact bodyPost_ret (v := .bool true) (by simp [results, Tryz.results4]) rfl ⟨rfl, HK1.out⟩
  have d1 : ¬ (30 : Int) < n := by omega
  have hn2 : n ≤ 30 := by omega
  have hL30 := HLL.out hn2
  go_wp2_with fail
  refine (PL.out _ HK1.out hn2).mono ?_
  clear PL
  rintro e w2 ⟨T, rfl, hT, k2⟩
  have HT2 := Lib.hid hT; have HK2 := Lib.hid (keep_trans HK1.out k2)
  clear hT k2 HK1
  go_wp2_with fail
  refine (L1.out _ T HT2.out hn2).mono ?_
  clear L1
  rintro e w3 ⟨v3, rfl, hown, k3⟩
  obtain ⟨A3, c3, rfl, hc3, hm3, hr3⟩ := own_form hown
  have HT3 := Lib.hid (HT2.out.keep k3); have HK3 := Lib.hid (keep_trans HK2.out k3)
  have RL := Lib.hid hr3
  clear hown hr3 k3 HT2 HK2
  go_wp2_with fail
  refine (D1.out _ T HT3.out hn2).mono ?_
  clear D1
  rintro e w4 ⟨rfl, k4⟩
  have HK4 := Lib.hid (keep_trans HK3.out k4)
  have RL4 := Lib.hid (RL.out.keep k4)
  clear k4 HT3 HK3 RL
  go_wp2_with fail
  go_loopw [12, 13] (fun f s wr => ∃ k : Nat, k ≤ L.length ∧ s = .int .i64 k ∧ wr = w4 ∧ ((f = .int .i64 (-1) ∧ ∀ m x : Nat, m < k → L[m]? = some x → (x : Int) ≠ j) ∨ ∃ k0 : Nat, f = .int .i64 k0 ∧ k0 < k ∧ ∃ x : Nat, L[k0]? = some x ∧ (x : Int) = j)) (fun _ s _ => L.length - (intOf s).toNat)
  case atStart => exact ⟨0, Nat.zero_le _, rfl, rfl, .inl ⟨rfl, fun m x hm => absurd hm (Nat.not_lt_zero _)⟩⟩
  case round =>
    obtain ⟨k, hkl, rfl, rfl, hf⟩ := hrel
    have HF := Lib.hid hf
    clear hf
    by_cases hlt : k < L.length
    · obtain ⟨x, hx⟩ : ∃ x, L[k]? = some x := ⟨_, List.getElem?_eq_getElem hlt⟩
      obtain ⟨b, off, hA0, hcx⟩ := nv_at RL4.out hx
      cases hA0
      have HX := Lib.hid hx
      have d2 : (k : Int) < L.length := by omega
      clear hx
      by_cases hxj : (x : Int) = j
      · subst hxj
        have s1 : ((x : Int) == (x : Int)) = true := beq_self_eq_true _
        clear HF HS HN
        go_wp2
        go_roundw
        case rel => exact ⟨k + 1, by omega, by go_num, by first | rfl | trivial, .inr ⟨k, by first | rfl | trivial, by omega, x, HX.out, rfl⟩⟩
        case measure => simp [intOf]; omega
      · have s1 : ((x : Int) == j) = false := by simp [hxj]
        clear HS HN
        go_wp2
        go_roundw
        case rel =>
          refine ⟨k + 1, by omega, by go_num, by first | rfl | trivial, ?_⟩
          rcases HF.out with ⟨h1, h2⟩ | ⟨k0, h1, h2, h3⟩
          · refine .inl ⟨h1, fun m y hm hy => ?_⟩
            by_cases q : m = k
            · rw [q, HX.out] at hy
              rw [← Option.some.inj hy]; exact hxj
            · exact h2 m y (by omega) hy
          · exact .inr ⟨k0, h1, by omega, h3⟩
        case measure => simp [intOf]; omega
    · obtain rfl : k = L.length := by omega
      have d2 : ¬ ((L.length : Int) < L.length) := by omega
      cases DR with
      | none =>
        have hall := HN.out rfl
        rcases HF.out with ⟨h1, h2⟩ | ⟨k0, h1, h2, x, h3, h4⟩
        · subst h1
          clear HF HS HN hall h2
          go_wp2
          exact bodyPost_ret (v := .bool true) (by simp [results, Tryz.results4]) rfl ⟨rfl, HK4.out⟩
        · exact absurd h4 (hall k0 x h3)
      | some dd =>
        obtain ⟨k1, ⟨x1, hx1, hx2⟩, hdk, huni⟩ := HS.out dd rfl
        rcases HF.out with ⟨h1, h2⟩ | ⟨k0, h1, h2, x, h3, h4⟩
        · exact absurd hx2 (h2 k1 x1 (List.getElem?_eq_some_iff.1 hx1).1 hx1)
        · have hkk := huni k0 x h3 h4
          subst h1
          have f1 : (L.length : Int) - (k0 : Int) = (dd : Int) := by omega
          have f2 : IntKind.i64.wrap (dd : Int) = dd := IntWalk.i64_in _ (by omega)
          have f3 : (0 : Int) ≤ (k0 : Int) := by omega
          have s1 : ((dd : Int) == (dd : Int)) = true := beq_self_eq_true _
          clear HF HS HN huni hx1 hx2 hdk h3 h4 hkk
          go_wp2
          exact bodyPost_ret (v := .bool true) (by simp [results, Tryz.results4]) rfl ⟨rfl, HK4.out⟩
end Go.Proofs.YtjbdboekleaklaaGreatDoor

/- The plain law of a locator; a hash in a row of hashes. -/
set_option linter.unusedSimpArgs false
set_option linter.unusedVariables false
namespace Go.Proofs.YtjbdboekleaklaaGreatDoor
open Go.RowKit

theorem hash_at {w : World} {B : Option Addr} {l : List (List UInt8)} (hr : Rd w B (hsL l)) (hk : ∀ h ∈ l, h.length = 32) {k : Nat} (h : k < l.length) :
    ∃ b off, B = some ⟨b, off, none⟩ ∧ b < w.heap.size ∧ w.rangeAt b (off + k * 32) (l[k].map u8v) := by
  have hlen : ∀ a ∈ l, (a.map u8v).length = 32 := fun a ha => by rw [List.length_map]; exact hk a ha
  unfold hsL at hr
  obtain ⟨b, off, rfl, hb, F⟩ := hr.at (k := k * 32) (by rw [flatMap_len' _ 32 _ hlen]; omega)
  refine ⟨b, off, rfl, hb, fun j v hv => ?_⟩
  have hj : j < 32 := by rw [← hlen l[k] (List.getElem_mem h)]; exact (List.getElem?_eq_some_iff.1 hv).1
  have hg := flatMap_get' (fun a : List UInt8 => a.map u8v) 32 l hlen k j h hj
  have hlt : k * 32 + j < (l.flatMap fun a => a.map u8v).length := by rw [flatMap_len' _ 32 _ hlen]; omega
  have hc := F (k * 32 + j) hlt
  rw [Nat.add_assoc, hc, ← hv, ← hg, List.getElem?_eq_getElem hlt]

theorem locH_head (f x s c : Nat) (h : x ≤ f) : (locH f x s c ++ [0])[0]? = some x := by
  cases f with
  | zero => obtain rfl : x = 0 := by omega
            rfl
  | succ f => by_cases h0 : x = 0
              · subst h0; simp [locH]
              · simp [locH, h0]
theorem locH_get : ∀ (f x s c : Nat), x ≤ f → 1 ≤ s → ∀ k g, (locH f x s c ++ [0])[k]? = some g → g ≤ x ∧ (0 < k → ∃ p, (locH f x s c ++ [0])[k - 1]? = some p ∧ g < p)
  | 0, x, s, c, hx, _, k, g, hg => by
    obtain rfl : x = 0 := by omega
    rw [locH_zero] at hg ⊢
    obtain ⟨h1, h2⟩ := List.getElem?_eq_some_iff.1 hg
    simp at h1
    subst h1
    simp at h2
    exact ⟨by omega, fun q => absurd q (Nat.lt_irrefl _)⟩
  | f + 1, x, s, c, hx, hs, k, g, hg => by
    by_cases h0 : x = 0
    · subst h0
      rw [locH_zero] at hg ⊢
      obtain ⟨h1, h2⟩ := List.getElem?_eq_some_iff.1 hg
      simp at h1
      subst h1
      simp at h2
      exact ⟨by omega, fun q => absurd q (Nat.lt_irrefl _)⟩
    · have hst : 1 ≤ stpN s c := by unfold stpN; split <;> omega
      have e : locH (f + 1) x s c ++ [0] = x :: (locH f (x - stpN s c) (stpN s c) (c + 1) ++ [0]) := by simp only [locH]; rw [if_neg h0]; rfl
      rw [e] at hg ⊢
      cases k with
      | zero => simp at hg; exact ⟨by omega, fun q => absurd q (Nat.lt_irrefl _)⟩
      | succ k =>
        rw [List.getElem?_cons_succ] at hg
        obtain ⟨a1, a2⟩ := locH_get f _ _ (c + 1) (by omega) hst k g hg
        refine ⟨by omega, fun _ => ?_⟩
        rw [Nat.add_sub_cancel]
        cases k with
        | zero => exact ⟨x, rfl, by omega⟩
        | succ k => obtain ⟨p, h1, h2⟩ := a2 (Nat.succ_pos _)
                    exact ⟨p, h1, h2⟩
theorem locH_len2 : ∀ (k f x s c : Nat), 9 ≤ c → x + 2 * s ≤ s * 2 ^ (k + 1) → (locH f x s c).length ≤ k
  | k, 0, x, s, c, _, _ => Nat.zero_le _
  | 0, f + 1, x, s, c, hc, h => by
    have : x = 0 := by rw [Nat.zero_add, Nat.pow_one] at h; omega
    subst this; rw [locH_zero]; exact Nat.le_refl _
  | k + 1, f + 1, x, s, c, hc, h => by
    by_cases h0 : x = 0
    · subst h0; rw [locH_zero]; exact Nat.zero_le _
    · simp only [locH]; rw [if_neg h0]
      have e : stpN s c = 2 * s := by unfold stpN; rw [if_pos (by omega)]
      rw [e, List.length_cons]
      have := locH_len2 k f (x - 2 * s) (2 * s) (c + 1) (by omega) (by
        have q : s * 2 ^ (k + 1 + 1) = 2 * s * 2 ^ (k + 1) := by rw [Nat.pow_succ, Nat.mul_comm 2 s, Nat.mul_assoc, Nat.mul_comm 2 (2 ^ _)]
        rw [← q]
        have p1 : 2 ^ (k + 1) = 2 * 2 ^ k := by rw [Nat.pow_succ]; omega
        have p2 : 1 ≤ 2 ^ k := Nat.one_le_two_pow
        have p3 : 4 * s ≤ s * 2 ^ (k + 1 + 1) := by
          rw [Nat.mul_comm 4 s]; exact Nat.mul_le_mul_left s (by rw [Nat.pow_succ, Nat.pow_succ]; omega)
        omega)
      omega
theorem locH_len1 : ∀ (j f x k : Nat), j ≤ 9 → (x - j) + 2 ≤ 2 ^ (k + 1) → (locH f x 1 (9 - j)).length ≤ j + k
  | 0, f, x, k, _, h => by
    have := locH_len2 k f x 1 9 (by omega) (by rw [Nat.one_mul]; omega)
    rw [Nat.sub_zero]; omega
  | j + 1, 0, x, k, _, _ => Nat.zero_le _
  | j + 1, f + 1, x, k, hj, h => by
    by_cases h0 : x = 0
    · subst h0; rw [locH_zero]; exact Nat.zero_le _
    · simp only [locH]; rw [if_neg h0]
      have e : stpN 1 (9 - (j + 1)) = 1 := by unfold stpN; rw [if_neg (by omega)]
      rw [e, List.length_cons, show 9 - (j + 1) + 1 = 9 - j by omega]
      have := locH_len1 j f (x - 1) k (by omega) (by rw [show x - 1 - j = x - (j + 1) by omega]; exact h)
      omega
theorem locH_len {n d : Nat} (h : n / 2 ^ d = 0) : (locH n n 1 0 ++ [0]).length ≤ 12 + d := by
  have hlt : n < 2 ^ d := by
    rcases Nat.div_eq_zero_iff.1 h with h | h
    · have := Nat.two_pow_pos d; omega
    · exact h
  have := locH_len1 9 n n d (by omega) (by rw [Nat.pow_succ]; have := Nat.two_pow_pos d; omega)
  rw [Nat.sub_self] at this
  rw [List.length_append]
  simp
  omega

theorem loc_none {ns : List Nd} {i : Int} (h : nodeO ns i = none) : locN ns i = [] := by
  have hL : lineO ns i = [] := by
    unfold lineO
    split
    · rename_i hc
      unfold nodeO at h
      rw [if_pos hc.1, List.getElem?_eq_getElem hc.2] at h
      cases h
    · rfl
  unfold locN locL
  rw [hL, if_pos rfl]
  rfl
theorem loc_some {ns : List Nd} (TR : Tr ns) {i : Int} {y : Nd} (h : nodeO ns i = some y) : ∃ hs : List Nat, hs.length = (locN ns i).length ∧ 0 < hs.length ∧ hs[0]? = some y.hgt ∧ (locN ns i)[0]? = some y.id ∧
    hs[hs.length - 1]? = some 0 ∧ (∀ d, y.hgt / 2 ^ d = 0 → hs.length ≤ 12 + d) ∧ ∀ k g, hs[k]? = some g → g ≤ y.hgt ∧ (0 < k → ∃ p, hs[k - 1]? = some p ∧ g < p) ∧
      ∃ (I : List UInt8) (x : Nat) (z : Nd), (locN ns i)[k]? = some I ∧ findN ns I = some x ∧ nodeO ns x = some z ∧ z.hgt = g ∧ abvO ns i g = some x := by
  obtain ⟨m, hm, hml, hmh⟩ := nodeO_some h
  subst hm
  have hy : ns[m]? = some y := by rw [← nodeO_nat]; exact h
  have hL : lineO ns (m : Int) = lineN ns m := by unfold lineO; rw [if_pos ⟨by omega, by simpa using hml⟩]; simp
  have hne : ¬ lineN ns m = [] := fun q => by have := line_len ns m; rw [q] at this; simp at this
  have hloc : locN ns (m : Int) = (locH y.hgt y.hgt 1 0 ++ [0]).map fun k => idN ns ((lineN ns m).getD k 0) := by
    unfold locN locL
    rw [hL, if_neg hne, line_len, Nat.add_sub_cancel, hmh, List.map_map]
    rfl
  rw [hloc]
  refine ⟨locH y.hgt y.hgt 1 0 ++ [0], by simp, by simp, locH_head _ _ _ _ (Nat.le_refl _), ?_, by simp, fun d hd => locH_len hd, fun k g hg => ?_⟩
  · rw [List.getElem?_map, locH_head _ _ _ _ (Nat.le_refl _)]
    have e : (lineN ns m).getD y.hgt 0 = m := by
      rw [List.getD_eq_getElem?_getD, line_abv (by omega), ← hmh, abv_top]; rfl
    show some (idN ns ((lineN ns m).getD y.hgt 0)) = some y.id
    rw [e]; unfold idN; rw [hy]; rfl
  · obtain ⟨a1, a2⟩ := locH_get y.hgt y.hgt 1 0 (Nat.le_refl _) (Nat.le_refl _) k g hg
    obtain ⟨-, b1, b2⟩ := TR.abv hml (h := g) (by omega)
    have e : (lineN ns m).getD g 0 = abvN ns m g := by rw [List.getD_eq_getElem?_getD, line_abv (by omega)]; rfl
    have hz := List.getElem?_eq_getElem b1
    refine ⟨a1, a2, _, abvN ns m g, ns[abvN ns m g], by rw [List.getElem?_map, hg]; rfl, ?_, by rw [nodeO_nat]; exact hz, by rw [← hgtN_of hz]; exact b2, ?_⟩
    · show findN ns (idN ns ((lineN ns m).getD g 0)) = _
      rw [e]; unfold idN; rw [hz]; exact TR.find hz
    · unfold abvO
      rw [h]
      rw [if_pos ⟨rfl, by omega, by simp; omega⟩]
      simp
theorem loc_law {ns : List Nd} (TR : Tr ns) {i : Int} {y : Nd} (h : nodeO ns i = some y) : ∃ LA : Nat → Nat, LA 0 = y.hgt + 1 ∧ LA (locN ns i).length = 0 ∧ 0 < (locN ns i).length ∧ (locN ns i)[0]? = some y.id ∧
    (∀ d, y.hgt / 2 ^ d = 0 → (locN ns i).length ≤ 12 + d) ∧ ∀ k, k < (locN ns i).length → LA (k + 1) < LA k ∧ LA (k + 1) ≤ y.hgt ∧ ∃ (I : List UInt8) (x : Nat) (z : Nd), (locN ns i)[k]? = some I ∧ findN ns I = some x ∧ nodeO ns x = some z ∧ z.hgt = LA (k + 1) ∧ abvO ns i (LA (k + 1)) = some x := by
  obtain ⟨hs, h1, h2, h3, h4, h5, h6, h7⟩ := loc_some TR h
  rw [← h1]
  refine ⟨fun k => if k = 0 then y.hgt + 1 else hs.getD (k - 1) 0, if_pos rfl, ?_, h2, h4, h6, fun k hk => ?_⟩
  · show (if hs.length = 0 then _ else hs.getD (hs.length - 1) 0) = 0
    rw [if_neg (by omega), List.getD_eq_getElem?_getD, h5]; rfl
  · have hg := List.getElem?_eq_getElem hk
    obtain ⟨a1, a2, a3⟩ := h7 k _ hg
    have e : (if k + 1 = 0 then y.hgt + 1 else hs.getD (k + 1 - 1) 0) = hs[k] := by
      rw [if_neg (by omega), Nat.add_sub_cancel, List.getD_eq_getElem?_getD, hg]; rfl
    simp only [e]
    refine ⟨?_, a1, a3⟩
    by_cases h0 : k = 0
    · rw [if_pos h0]; omega
    · obtain ⟨p, p1, p2⟩ := a2 (by omega)
      rw [if_neg h0, List.getD_eq_getElem?_getD, p1]; exact p2
end Go.Proofs.YtjbdboekleaklaaGreatDoor

/- header.Linked. -/
set_option linter.unusedSimpArgs false
set_option linter.unusedVariables false
namespace Go.Proofs.YtjbdboekleaklaaGreatDoor
open Go.RowKit
attribute [local go_sem ↓] Go.wp_at_zero Go.wp_at_succ

/-- Does the header of an index stand on the one ahead? -/
def linkB (l : List Hd) (i : Nat) : Bool := i == 0 || (l.getD i hd0).prev == idL (l.getD (i - 1) hd0)
def linkN (l : List Hd) : Nat := ((List.range l.length).find? fun i => !linkB l i).getD l.length
theorem link_stop {l : List Hd} {k : Nat} (hk : k < l.length) (h0 : ∀ j, j < k → linkB l j = true) (h1 : linkB l k = false) : linkN l = k := by
  unfold linkN
  have h2 : (List.range l.length).find? (fun i => !linkB l i) = some k := by
    rw [List.find?_range_eq_some]
    exact ⟨by simpa using h1, by simpa using hk, fun j hj => by simpa using h0 j hj⟩
  rw [h2]; rfl
theorem link_all {l : List Hd} (h0 : ∀ j, j < l.length → linkB l j = true) : linkN l = l.length := by
  unfold linkN
  have h2 : (List.range l.length).find? (fun i => !linkB l i) = none := by
    rw [List.find?_eq_none]
    intro j hj
    have := h0 j (by simpa using hj)
    simpa using this
  rw [h2]; rfl
theorem link_le {l : List Hd} {n : Nat} (hn : n ≤ l.length) (h : ∀ j, j < n → linkB l j = true) : n ≤ linkN l := by
  unfold linkN
  cases hf : (List.range l.length).find? (fun i => !linkB l i) with
  | none => exact hn
  | some k =>
    rw [List.find?_range_eq_some] at hf
    obtain ⟨h1, h2, h3⟩ := hf
    by_cases hk : k < n
    · rw [h k hk] at h1; cases h1
    · exact Nat.le_of_not_lt hk

set_option maxRecDepth 100000 in
set_option maxHeartbeats 4000000 in
theorem linked_any (B : Option Addr) (l : List Hd) (d : Nat) (w : World) (hS : ShaOk w) (hl : l.length ≤ 100) (hr : Rd w B (l.flatMap Hd.cells)) (hk : ∀ h ∈ l, h.ok) :
    Calls Tryz.prog 20 #[.slice B l.length d] w fun e w' => e = .returned (iv (linkN l)) ∧ Keep w w' := by
  have STOP : Hid (∀ k, k < l.length → (∀ j, j < k → linkB l j = true) → linkB l k = false → linkN l = k) := Lib.hid fun k h1 h2 h3 => link_stop h1 h2 h3
  have ALL : Hid ((∀ j, j < l.length → linkB l j = true) → linkN l = l.length) := Lib.hid link_all
  have HAT : Hid (∀ k, k < l.length → ∃ b off, B = some ⟨b, off, none⟩ ∧ ∃ xs, HdA (l.getD k hd0) xs ∧ (l.getD k hd0).ok ∧ w.rangeAt b (off + k * 68) xs.toList) := Lib.hid fun k hlt => by
    obtain ⟨b, off, h1, -, h2⟩ := heads_at hr hk hlt
    have hx := HdA.of (hk _ (List.getElem_mem hlt))
    have e : l.getD k hd0 = l[k] := by simp [List.getD_eq_getElem?_getD, List.getElem?_eq_getElem hlt]
    refine ⟨b, off, h1, _, by rw [e]; exact hx, by rw [e]; exact hk _ (List.getElem_mem hlt), ?_⟩
    exact h2
  have I1 : Hid (∀ k y xs, Keep w y → HdA (l.getD k hd0) xs → (l.getD k hd0).ok → Calls Tryz.prog 21 #[.agg xs] y fun e w' => ∃ ds, e = .returned (.agg ds) ∧ HashA (idL (l.getD k hd0)) ds ∧ Keep y w') := Lib.hid fun k y xs hy hx ho => id_any _ xs y (hS.keep hy) ho hx
  have HLB : Hid (∀ k, k ≠ 0 → linkB l k = ((l.getD k hd0).prev == idL (l.getD (k - 1) hd0))) := Lib.hid fun k h0 => by unfold linkB; simp [h0]
  have HL0 : Hid (linkB l 0 = true) := Lib.hid rfl
  clear hr hS hk
  generalize linkN l = R at *
  obtain ⟨lk, hlk⟩ : ∃ f, linkB l = f := ⟨_, rfl⟩
  obtain ⟨at_, hat⟩ : ∃ f : Nat → Hd, (fun k => l.getD k hd0) = f := ⟨_, rfl⟩
  have hat' : ∀ k, l.getD k hd0 = at_ k := fun k => by rw [← hat]
  rw [hlk] at STOP ALL HLB HL0
  simp only [hat'] at HAT I1 HLB
  obtain ⟨ids, hid⟩ : ∃ f : Nat → List UInt8, (fun k => idL (at_ k)) = f ∧ ∀ k, (f k).length = 32 := ⟨_, rfl, fun k => idL_len _⟩
  have hid' : ∀ k, idL (at_ k) = ids k := fun k => by rw [← hid.1]
  have HIL := Lib.hid hid.2
  simp only [hid'] at I1 HLB
  clear hlk hat hat' hid hid'
  generalize l.length = n at *
  go_enter Tryz.func20, Tryz.ntmps20
  go_wp2_with fail
  go_loopw [6] (fun i wr => ∃ k : Nat, k ≤ n ∧ i = .int .i64 k ∧ Hid (∀ j, j < k → lk j = true) ∧ Hid (Keep w wr)) (fun i _ => n - (intOf i).toNat)
  case atStart => exact ⟨0, Nat.zero_le _, rfl, Lib.hid (fun j hj => absurd hj (Nat.not_lt_zero _)), Lib.hid (Below.refl _ _)⟩
  case round =>
    obtain ⟨k, hk, rfl, hz, HK⟩ := hrel
    by_cases hlt : k < n
    · by_cases hk0 : k = 0
      · subst hk0
        have d1 : ¬ (0 : Int) > 0 := by decide
        clear STOP ALL HAT I1 HLB
        go_upto_region 4 with fail
        refine wp_region_tree (.take [0,1,2,3,4,5,6,7,8,9,10,11,12] (.force [13] (.take [14,15] .done))) [] (by kernel_rfl) (by kernel_rfl) (fun w3 k3 => ?_)
        have HK3 := Lib.hid (keep_trans HK.out k3)
        refine mt_take w3 (Below.refl _ _) ?_
        simp only [pick_cons, pick_nil, nth_zero, nth_succ]
        repeat (go_big_quiet_step (fail))
        refine wpQuiet_nil (mt_force ?_)
        simp only [pick_cons, pick_nil, nth_zero, nth_succ]
        refine fc_skip rfl ?_
        simp only [Act.put, Array.set!_eq_setIfInBounds, List.setIfInBounds_toArray, List.set_cons_succ, List.set_cons_zero]
        refine fc_nil (mt_take w3 (Below.refl _ _) ?_)
        simp only [pick_cons, pick_nil, nth_zero, nth_succ]
        repeat (go_big_quiet_step (fail))
        refine wpQuiet_nil (mt_end ?_)
        clear HK k3
        go_wp2
        go_roundw
        case rel =>
          have hone : ∀ j, j < 1 → lk j = true := fun j hj => by
            obtain rfl : j = 0 := by omega
            exact HL0.out
          exact ⟨1, by omega, by go_num, Lib.hid hone, HK3⟩
        case measure => simp [intOf]; omega
      · obtain ⟨b, off, rfl, xs, hxs, hxo, hrx⟩ := HAT.out k hlt
        obtain ⟨b', off', hB, ys, hys, hyo, hry⟩ := HAT.out (k - 1) (by omega)
        cases hB
        obtain ⟨j, hj⟩ : ∃ j, k - 1 = j := ⟨_, rfl⟩
        have hj2 : (k : Int) - 1 = j := by omega
        have hjn : j < n := by omega
        have hLB := HLB.out k hk0
        rw [hj] at hry hys hyo hLB
        have I2 : Hid (∀ y, Keep w y → Calls Tryz.prog 21 #[.agg ys] y fun e w' => ∃ ds, e = .returned (.agg ds) ∧ HashA (ids j) ds ∧ Keep y w') := Lib.hid fun y hy => I1.out j y ys hy hys hyo
        have hyz := hys.z; have hyn := hys.n; have hyi := hys.i
        have hpl := hxo.1
        obtain ⟨pv, hpv⟩ : ∃ pv, HashA (at_ k).prev pv := ⟨_, HashA.of hpl⟩
        have hpz := hpv.z; have hpn := hpv.n; have hpi := hpv.i
        have hsub : ∀ i v, pv.toList[i]? = some v → xs.toList[1 + i]? = some v := fun i v hv => by
          have hi : i < 32 := by have h1 := (List.getElem?_eq_some_iff.1 hv).1; rw [Array.length_toList, hpz] at h1; exact h1
          rw [hpv.l] at hv
          rw [hxs.l, Nat.add_comm]
          unfold Hd.cells
          rw [List.getElem?_cons_succ, List.getElem?_append_left (by simp [hpl]; omega)]
          exact hv
        have RP0 : Hid (w.rangeAt b (off + k * 68 + 1) pv.toList) := Lib.hid fun i v hv => by
          have h1 := hrx (1 + i) v (hsub i v hv)
          rw [show off + k * 68 + (1 + i) = off + k * 68 + 1 + i by omega] at h1
          exact h1
        have RY0 := Lib.hid hry
        have Hpl := Lib.hid hpl; have Hpv := Lib.hid hpv
        have HLB2 := Lib.hid hLB
        have d1 : (0 : Int) < k := by omega
        have d2 : 0 < k := by omega
        clear HAT I1 HLB hLB hrx hry hys hyo hxs hxo hpl hpv hsub hj HL0
        generalize (at_ k).prev = PV at *
        go_upto_region 4 with fail
        refine wp_region_tree (.take [0,1,2,3,4,5,6,7,8,9,10,11,12] (.force [13] (.take [14,15] .done))) [] (by kernel_rfl) (by kernel_rfl) (fun w3 k3 => ?_)
        have HK3 := Lib.hid (keep_trans HK.out k3)
        have RY : Hid (w3.rangeAt b (off + j * 68) ys.toList) := Lib.hid fun i v hv => keep_cell HK3.out (RY0.out i v hv)
        have RP : Hid (w3.rangeAt b (off + k * 68 + 1) pv.toList) := Lib.hid fun i v hv => keep_cell HK3.out (RP0.out i v hv)
        clear k3 RY0 RP0 HK
        refine mt_take w3 (Below.refl _ _) ?_
        simp only [pick_cons, pick_nil, nth_zero, nth_succ]
        repeat (first
          | ((with_reducible refine wpQuiet_load_partg b (off + k * 68 + 1) pv (Eq.trans ?_ rfl) RP.out _ Tryz.underlying36 rfl hpi (Eq.trans ?_ rfl) ?_); rfl; rfl; simp only [Act.put, Array.set!_eq_setIfInBounds, List.setIfInBounds_toArray, List.set_cons_succ, List.set_cons_zero])
          | ((with_reducible refine wpQuiet_load_partg b (off + j * 68) ys (Eq.trans ?_ rfl) RY.out _ Tryz.underlying39 rfl hyi (Eq.trans ?_ rfl) ?_); rfl; rfl; simp only [Act.put, Array.set!_eq_setIfInBounds, List.setIfInBounds_toArray, List.set_cons_succ, List.set_cons_zero])
          | go_big_quiet_step (fail))
        refine wpQuiet_nil (mt_force ?_)
        simp only [pick_cons, pick_nil, nth_zero, nth_succ]
        refine fc_step rfl (fun K hK => ?_)
        go_simp
        (with_reducible refine (I2.out _ HK3.out).mono ?_)
        rintro e w4 ⟨ds, rfl, hds, k4⟩
        refine hK _ _ k4 ?_
        have heq : ∀ x, (Op.equalIn 10000 36 (.agg pv) (.agg ds)).run Tryz.prog (aft w4 x) = .ok (PV == ids j) (aft w4 x) := fun x => hash_in Hpv.out hds Hpl.out (HIL.out j) _
        have hdz := hds.z; have hdn := hds.n; have hdi := hds.i
        have HK4 := Lib.hid (keep_trans HK3.out k4)
        clear hK K hds k4 HK3 RY RP I2 Hpv Hpl
        obtain ⟨b1, hb1⟩ : ∃ b, (PV == ids j) = b := ⟨_, rfl⟩
        rw [hb1] at HLB2 heq
        clear hb1
        refine fc_nil (mt_take w4 (Below.refl _ _) ?_)
        simp only [pick_cons, pick_nil, nth_zero, nth_succ]
        repeat (go_big_quiet_step (fail))
        refine wpQuiet_nil (mt_end ?_)
        clear heq
        cases b1 with
        | true =>
          have hnext : Hid (∀ j, j < k + 1 → lk j = true) := Lib.hid fun i hi => by
            by_cases e : i < k
            · exact hz.out i e
            · obtain rfl : i = k := by omega
              exact HLB2.out
          clear hz HLB2 STOP ALL
          go_wp2
          go_roundw
          case rel => exact ⟨k + 1, by omega, by go_num, hnext, HK4⟩
          case measure => simp [intOf]; omega
        | false =>
          have hN := STOP.out k hlt hz.out HLB2.out
          subst hN
          clear hz HLB2 STOP ALL
          go_wp2
          exact bodyPost_ret (v := iv R) (by simp [results, Tryz.results20]) rfl ⟨rfl, HK4.out⟩
    · obtain rfl : n = k := by omega
      have hN := ALL.out hz.out
      subst hN
      clear STOP ALL hz HAT I1 HLB HL0
      go_wp2
      exact bodyPost_ret (v := iv R) (by simp [results, Tryz.results20]) rfl ⟨rfl, HK.out⟩
end Go.Proofs.YtjbdboekleaklaaGreatDoor

/- What is behind a locator: plain. -/
set_option linter.unusedSimpArgs false
set_option linter.unusedVariables false
namespace Go.Proofs.YtjbdboekleaklaaGreatDoor
open Go.RowKit

/-- At which place of a line a hash stands. -/
def plcN (ns : List Nd) (L : List Nat) (h : List UInt8) : Option Nat := match findN ns h with
  | none => none
  | some i => if L[hgtN ns i]? = some i then some (hgtN ns i) else none
def begN (ns : List Nd) (L : List Nat) (b : Nat) (loc : List (List UInt8)) : Nat := loc.foldl (fun b h => match plcN ns L h with | some a => max b (a + 1) | none => b) b
theorem begN_snoc (ns : List Nd) (L : List Nat) (b : Nat) (loc : List (List UInt8)) (h : List UInt8) : begN ns L b (loc ++ [h]) = match plcN ns L h with | some a => max (begN ns L b loc) (a + 1) | none => begN ns L b loc := by
  unfold begN; rw [List.foldl_append]; rfl
def endN (ns : List Nd) (L : List Nat) (b : Nat) (stop : List UInt8) (most : Int) : Nat :=
  match plcN ns L stop with
  | some a => if b ≤ a then min (min L.length (b + min (max most 0).toNat 2000)) (a + 1) else min L.length (b + min (max most 0).toNat 2000)
  | none => min L.length (b + min (max most 0).toNat 2000)
def aftN (ns : List Nd) (L : List Nat) (loc : List (List UInt8)) (stop : List UInt8) (most : Int) : List Nat :=
  if L = [] then [] else (L.take (endN ns L (begN ns L 1 loc) stop most)).drop (begN ns L 1 loc)
theorem plcN_lt {ns : List Nd} {L : List Nat} {h : List UInt8} {a : Nat} (e : plcN ns L h = some a) : a < L.length := by
  unfold plcN at e
  split at e
  · cases e
  · split at e
    · rename_i q
      cases e; exact (List.getElem?_eq_some_iff.1 q).1
    · cases e
theorem begN_le (ns : List Nd) (L : List Nat) : ∀ (loc : List (List UInt8)) (b : Nat), b ≤ L.length → b ≤ begN ns L b loc ∧ begN ns L b loc ≤ L.length
  | [], b, h => ⟨Nat.le_refl _, h⟩
  | x :: t, b, h => by
    have e : begN ns L b (x :: t) = begN ns L (match plcN ns L x with | some a => max b (a + 1) | none => b) t := rfl
    rw [e]
    cases hp : plcN ns L x with
    | none => exact begN_le ns L t b h
    | some a =>
      have := plcN_lt hp
      have q := begN_le ns L t (max b (a + 1)) (by omega)
      simp only
      omega
theorem endN_le (ns : List Nd) (L : List Nat) (b : Nat) (stop : List UInt8) (most : Int) (hb : b ≤ L.length) : b ≤ endN ns L b stop most ∧ endN ns L b stop most ≤ L.length ∧ endN ns L b stop most ≤ b + min (max most 0).toNat 2000 := by
  unfold endN
  split
  · split
    · omega
    · omega
  · omega
theorem aft_len {ns : List Nd} {L : List Nat} (hL : L ≠ []) (loc : List (List UInt8)) (stop : List UInt8) (most : Int) :
    (aftN ns L loc stop most).length = endN ns L (begN ns L 1 loc) stop most - begN ns L 1 loc ∧ 1 ≤ begN ns L 1 loc ∧ begN ns L 1 loc ≤ L.length := by
  have hp := List.length_pos_iff.2 hL
  have h1 := begN_le ns L loc 1 hp
  have h2 := endN_le ns L (begN ns L 1 loc) stop most h1.2
  unfold aftN
  rw [if_neg hL, List.length_drop, List.length_take]
  omega
theorem aft_get {ns : List Nd} {L : List Nat} (hL : L ≠ []) (loc : List (List UInt8)) (stop : List UInt8) (most : Int) {k : Nat} (hk : k < (aftN ns L loc stop most).length) :
    (aftN ns L loc stop most)[k]? = L[begN ns L 1 loc + k]? := by
  have h1 := aft_len (ns := ns) hL loc stop most
  rw [h1.1] at hk
  unfold aftN
  rw [if_neg hL, List.getElem?_drop, List.getElem?_take]
  rw [if_pos (by omega)]

/-- A line's numbers: what they are in the tree. -/
theorem line_nd {ns : List Nd} (TR : Tr ns) {i : Int} {k x : Nat} (h : (lineO ns i)[k]? = some x) : hgtN ns x = k ∧ findN ns (idN ns x) = some x ∧ idL (headN ns x) = idN ns x ∧ (headN ns x).ok ∧
    ∀ p, (lineO ns i)[k + 1]? = some p → (headN ns p).prev = idN ns x := by
  obtain ⟨n, h1, h2, h3, h4, h5, h6⟩ := line_some TR h
  have hx := List.getElem?_eq_getElem h5
  have hid : idN ns x = ns[x].id := by unfold idN; rw [hx]; rfl
  have hhd : headN ns x = ns[x].head := by unfold headN; rw [hx]; rfl
  have ho := TR.ok _ (List.getElem_mem h5)
  refine ⟨h6, by rw [hid]; exact TR.find hx, by rw [hid, hhd]; exact (TR.id _ (List.getElem_mem h5)).symm, by rw [hhd]; exact ho.2.1, fun p hp => ?_⟩
  obtain ⟨n', g1, g2, g3, g4, g5, g6⟩ := line_some TR hp
  obtain rfl : n' = n := by omega
  have hp0 : 0 < p := by have := (TR.pos g5).1 (by omega); exact this
  have hpx := List.getElem?_eq_getElem g5
  obtain ⟨q, q1, q2, m, q3, q4, q5⟩ := TR.up p ns[p] hp0 hpx
  have e1 : headN ns p = ns[p].head := by unfold headN; rw [hpx]; rfl
  rw [e1, q5, hid]
  have e2 : x = q := by
    have a1 := TR.abv_abv g2 (h := k + 1) (g := k) g3 (by omega)
    rw [← g4] at a1
    rw [h4, ← a1, TR.abv_par g5 (by omega), parN_of hpx, q1, Int.toNat_natCast]
    have a2 : hgtN ns q = k := by
      rw [hgtN_of q3]
      have := hgtN_of hpx
      omega
    rw [← a2]; exact abv_top ns q
  have a3 : ns[x]? = some m := by rw [e2]; exact q3
  rw [Option.some.inj (hx.symm.trans a3)]
theorem after_law {ns : List Nd} (TR : Tr ns) (tip : Int) (loc : List (List UInt8)) (stop : List UInt8) (most : Int) :
    ∃ G, aftN ns (lineO ns tip) loc stop most = G ∧ (∀ x ∈ G, x < ns.length) ∧ G.length ≤ (lineO ns tip).length ∧ (G.length : Int) ≤ max 0 (min most 2000) ∧ linkN (G.map (headN ns)) = G.length ∧ (G.length ≠ 0 → G.length < (lineO ns tip).length) ∧
      ∀ k, k < G.length → ∃ x m, G[k]? = some x ∧ findN ns (idL (headN ns x)) = some x ∧ 1 ≤ m ∧ (lineO ns tip)[m]? = some x ∧ (k + 1 < G.length → idL (headN ns x) ≠ stop) := by
  by_cases hL : lineO ns tip = []
  · refine ⟨[], ?_, by simp, by simp, by simp; omega, rfl, fun h => absurd rfl h, fun k hk => absurd hk (Nat.not_lt_zero _)⟩
    unfold aftN; rw [if_pos hL]
  · obtain ⟨h1, h2, h3⟩ := aft_len (ns := ns) hL loc stop most
    have hget : ∀ {k : Nat}, k < (aftN ns (lineO ns tip) loc stop most).length → (aftN ns (lineO ns tip) loc stop most)[k]? = (lineO ns tip)[begN ns (lineO ns tip) 1 loc + k]? := fun hk => aft_get hL loc stop most hk
    obtain ⟨e1, e2, e3⟩ := endN_le ns (lineO ns tip) (begN ns (lineO ns tip) 1 loc) stop most h3
    have hmid : ∀ a, plcN ns (lineO ns tip) stop = some a → begN ns (lineO ns tip) 1 loc ≤ a → endN ns (lineO ns tip) (begN ns (lineO ns tip) 1 loc) stop most ≤ a + 1 := fun a ha hb => by
      unfold endN; rw [ha]; simp only; rw [if_pos hb]; omega
    obtain ⟨G, hG⟩ : ∃ G, aftN ns (lineO ns tip) loc stop most = G := ⟨_, rfl⟩
    rw [hG] at h1 hget
    refine ⟨G, hG, ?_, by omega, by omega, ?_, fun _ => by omega, fun k hk => ?_⟩
    · intro x hx
      obtain ⟨k, hk, rfl⟩ := List.mem_iff_getElem.1 hx
      have := hget hk
      rw [List.getElem?_eq_getElem hk] at this
      exact lineO_lt TR tip _ (List.mem_of_getElem? this.symm)
    · have hall : ∀ j, j < (G.map (headN ns)).length → linkB (G.map (headN ns)) j = true := by
        intro j hj
        rw [List.length_map] at hj
        unfold linkB
        by_cases hj0 : j = 0
        · subst hj0; rfl
        · have a1 := hget (k := j) hj
          have a2 := hget (k := j - 1) (by omega)
          rw [List.getElem?_eq_getElem hj] at a1
          rw [List.getElem?_eq_getElem (show j - 1 < G.length by omega)] at a2
          obtain ⟨-, -, b3, -, b5⟩ := line_nd TR a2.symm
          have b6 := b5 G[j] (by rw [show begN ns (lineO ns tip) 1 loc + (j - 1) + 1 = begN ns (lineO ns tip) 1 loc + j by omega]; exact a1.symm)
          have c1 : (G.map (headN ns)).getD j hd0 = headN ns G[j] := by simp [List.getD_eq_getElem?_getD, List.getElem?_eq_getElem hj]
          have c2 : (G.map (headN ns)).getD (j - 1) hd0 = headN ns G[j - 1] := by simp [List.getD_eq_getElem?_getD, List.getElem?_eq_getElem (show j - 1 < G.length by omega)]
          rw [c1, c2, b6, b3, beq_self_eq_true, Bool.or_true]
      rw [link_all hall, List.length_map]
    · have a1 := hget hk
      rw [List.getElem?_eq_getElem hk] at a1
      obtain ⟨b1, b2, b3, -, -⟩ := line_nd TR a1.symm
      refine ⟨G[k], begN ns (lineO ns tip) 1 loc + k, List.getElem?_eq_getElem hk, by rw [b3]; exact b2, by omega, a1.symm, fun hk2 hst => ?_⟩
      rw [b3] at hst
      have hpl : plcN ns (lineO ns tip) stop = some (begN ns (lineO ns tip) 1 loc + k) := by
        unfold plcN; rw [← hst, b2]; simp only; rw [b1, if_pos a1.symm]
      have := hmid _ hpl (by omega)
      omega
end Go.Proofs.YtjbdboekleaklaaGreatDoor

/- fork.place and fork.After. (printed by gen_tu.py) -/
set_option linter.unusedSimpArgs false
set_option linter.unusedVariables false
namespace Go.Proofs.YtjbdboekleaklaaGreatDoor
open Go.RowKit
attribute [local go_sem ↓] Go.wp_at_zero Go.wp_at_succ

set_option maxRecDepth 100000 in
set_option maxHeartbeats 4000000 in
theorem place_any (T : Nat) (ns : List Nd) (A : Option Addr) (L : List Nat) (c : Nat) (h : List UInt8) (cs : Array Value) (w : World) (hT : TrR w T ns) (TR : Tr ns) (hl : ns.length ≤ 100000) (hL : L.length ≤ 100000) (hr : Rd w A (nvL L)) (hh : h.length = 32) (hcs : HashA h cs) :
    Calls Tryz.prog 31 #[pT T, .slice A L.length c, .agg cs] w fun e w' => e = .returned (.tuple #[iv ((plcN ns L h).getD 0 : Nat), .bool (plcN ns L h).isSome]) ∧ Keep w w' := by
  have F1 : Hid (∀ y, Keep w y → Calls Tryz.prog 17 #[pT T, .agg cs] y fun e w' => e = .returned (.tuple #[iv ((findN ns h).getD 0 : Nat), .bool (findN ns h).isSome]) ∧ Keep y w') := Lib.hid fun y hy => find_any T ns h cs y (hT.keep hy) hh hcs
  have N1 : Hid (∀ x, findN ns h = some x → ∃ (z : Nd) (g : Nat), z.ok ∧ z.hgt = g ∧ hgtN ns x = g ∧ g ≤ 100000 ∧ x ≤ 100000 ∧ ∀ y, Keep w y → Calls Tryz.prog 15 #[pT T, iv x] y fun e w' => ∃ ds, e = .returned (.tuple #[.agg ds, .bool true]) ∧ NdA z ds ∧ Keep y w') := Lib.hid fun x hx => by
    obtain ⟨z, hz, -⟩ := find_some hx
    have hxl := (List.getElem?_eq_some_iff.1 hz).1
    have h1 := hgtN_of hz
    have h2 := TR.le x hxl
    refine ⟨z, z.hgt, TR.ok _ (List.mem_of_getElem? hz), rfl, h1, by omega, by omega, fun y hy => ?_⟩
    have := node_any T ns x y (hT.keep hy) TR.ok (by omega) (by omega)
    rw [nodeO_nat, hz] at this; exact this
  have HPL : Hid (∀ P, plcN ns L h = P → P = match findN ns h with | none => none | some i => if L[hgtN ns i]? = some i then some (hgtN ns i) else none) := Lib.hid fun P e => by subst e; rfl
  replace HPL := Lib.hid (HPL.out _ rfl)
  have RL := Lib.hid hr
  have hcz := hcs.z; have hcn := hcs.n; have hci := hcs.i
  clear hT hr hcs hh TR
  generalize plcN ns L h = P at *
  generalize findN ns h = O at *
  obtain ⟨n, hn⟩ : ∃ n, L.length = n := ⟨_, rfl⟩
  rw [hn] at hL ⊢
  have HLN := Lib.hid hn
  clear hn
  have HK : Hid (Keep w w) := Lib.hid (Below.refl _ _)
  obtain ⟨zs, hz1, hz2, hz3, -, -⟩ := znode_letter
  go_enter Tryz.func31, Tryz.ntmps31
  go_upto_region 1 with fail
  obtain ⟨w1, hw1⟩ : ∃ w1, w1 = w.alloc (.cells cs 36) := ⟨_, rfl⟩
  have HC1 : Hid (Blk w1 w.heap.size 36 cs.toList) := by rw [hw1]; exact Lib.hid (Blk.new w 36 cs.toList)
  have HK1 : Hid (Keep w w1) := by rw [hw1]; exact Lib.hid (keep_trans HK.out (keep_new _ _))
  rw [← hw1]
  have hgs1 : w.heap.size ≤ w.heap.size := HK.out.size
  clear hw1  HK
  generalize w.heap.size = gc at *
  have RC : Hid (w1.rangeAt gc 0 cs.toList) := Lib.hid (range_of HC1.out 0 cs.toList (by simp [List.take_of_length_le]))
  clear HC1 hgs1
  go_wp2_with ((with_reducible refine load_partg gc 0 cs (Eq.trans ?_ rfl) RC.out _ Tryz.underlying36 rfl hci rfl ?_); rfl)
  refine (F1.out _ HK1.out).mono ?_
  clear F1 RC hcz hcn hci
  rintro e w2 ⟨rfl, k2⟩
  have HK2 := Lib.hid (keep_trans HK1.out k2)
  clear k2 HK1
  cases O with
  | none =>
    have hP := HPL.out
    simp only at hP
    subst hP
    clear HPL N1 RL HLN
    go_wp2
    exact bodyPost_ret (v := .tuple #[iv 0, .bool false]) (by simp [results, Tryz.results31]) rfl ⟨rfl, HK2.out⟩
  | some x =>
  obtain ⟨z, g, hzo, hzg, hxg, hg, hx, N2⟩ := N1.out x rfl
  have N2 := Lib.hid N2
  have hP := HPL.out
  simp only at hP
  rw [hxg] at hP
  have HPQ := Lib.hid hP
  have HZO := Lib.hid hzo
  clear hP HPL N1 hxg hzo
  go_wp2_with fail
  refine (N2.out _ HK2.out).mono ?_
  clear N2
  rintro e w3 ⟨ds, rfl, hds, k3⟩
  have HK3 := Lib.hid (keep_trans HK2.out k3)
  clear k3  HK2
  have hdsz := hds.z; have hdsn := hds.n; have hdsi := hds.i
  have hstds : (storeCells ⟨w3.heap.size, 0, none⟩ ds.toList 0).run Tryz.prog (w3.alloc (.cells zs 44)) = .ok () (w3.alloc (.cells ds 44)) := run_storeCells_new (P := Tryz.prog) w3 44 zs ds hdsi (hz1.trans hdsz.symm) (by have := all_oneCell_toArray hds.o; rwa [Array.toArray_toList] at this)
  have Hds := Lib.hid hds
  clear hds
  go_upto_region 5 with fail
  obtain ⟨w4, hw4⟩ : ∃ w4, w4 = w3.alloc (.cells ds 44) := ⟨_, rfl⟩
  have HGN4 : Hid (Blk w4 w3.heap.size 44 ds.toList) := by rw [hw4]; exact Lib.hid (Blk.new w3 44 ds.toList)
  have HK4 : Hid (Keep w w4) := by rw [hw4]; exact Lib.hid (keep_trans HK3.out (keep_new _ _))
  rw [← hw4]
  have hgs4 : w.heap.size ≤ w3.heap.size := HK3.out.size
  clear hw4  HK3
  generalize w3.heap.size = gn at *
  clear hstds
  have c101 : w4.cell? ⟨gn, 101, none⟩ = some (iv (g : Int)) := (HGN4.out.cell 101).trans (by rw [Hds.out.l, ← hzg]; exact nd_hgt HZO.out)
  clear HGN4 Hds HZO hzg
  by_cases hgn : g < n
  · obtain ⟨q, hq⟩ : ∃ q, L[g]? = some q := ⟨_, List.getElem?_eq_getElem (by rw [HLN.out]; exact hgn)⟩
    obtain ⟨b, off, hA0, hcw⟩ := nv_at RL.out hq
    cases hA0
    have hcw := keep_cell HK4.out hcw
    have hP := HPQ.out
    rw [hq] at hP
    have d1 : ¬ (n : Int) ≤ g := by omega
    by_cases hqx : q = x
    · subst hqx
      rw [if_pos rfl] at hP
      subst hP
      have s1 : ((q : Int) != (q : Int)) = false := by simp
      clear HPQ hq RL HLN
      go_wp2
      exact bodyPost_ret (v := .tuple #[iv (g : Nat), .bool true]) (by simp [results, Tryz.results31]) rfl ⟨rfl, HK4.out⟩
    · rw [if_neg (fun r => hqx (Option.some.inj r))] at hP
      subst hP
      have s1 : ((q : Int) != (x : Int)) = true := by simp; omega
      clear HPQ hq RL HLN hqx
      go_wp2
      exact bodyPost_ret (v := .tuple #[iv 0, .bool false]) (by simp [results, Tryz.results31]) rfl ⟨rfl, HK4.out⟩
  · have hP := HPQ.out
    rw [List.getElem?_eq_none (by rw [HLN.out]; omega), if_neg (by simp)] at hP
    subst hP
    have d1 : (n : Int) ≤ g := by omega
    clear HPQ RL HLN
    go_wp2
    exact bodyPost_ret (v := .tuple #[iv 0, .bool false]) (by simp [results, Tryz.results31]) rfl ⟨rfl, HK4.out⟩

theorem cut_rd {w : World} {b off : Nat} {L : List Nat} (h : Rd w (some ⟨b, off, none⟩) (nvL L)) (k e : Nat) (hk : k ≤ e) (he : e ≤ L.length) : Rd w (some ⟨b, off + k, none⟩) (nvL ((L.take e).drop k)) := by
  have q := h.sub k (e - k) (by rw [nvL_len]; omega)
  have e1 : ((nvL L).drop k).take (e - k) = nvL ((L.take e).drop k) := by
    unfold nvL
    rw [List.drop_take, List.map_take, List.map_drop]
  rw [e1] at q; exact q
set_option maxRecDepth 100000 in
set_option maxHeartbeats 8000000 in
theorem after_any (T : Nat) (ns : List Nd) (tip most : Int) (Al : Option Addr) (loc : List (List UInt8)) (cl : Nat) (stop : List UInt8) (ss : Array Value) (w : World) (h : TrR w T ns) (TR : Tr ns) (hl : ns.length ≤ 100000) (htip : -9223372036854775808 ≤ tip ∧ tip ≤ 9223372036854775807)
    (hmost : -9223372036854775808 ≤ most ∧ most ≤ 9223372036854775807) (hloc : loc.length ≤ 100000) (hrl : Rd w Al (hsL loc)) (hk : ∀ h ∈ loc, h.length = 32) (hstop : stop.length = 32) (hss : HashA stop ss) :
    Calls Tryz.prog 19 #[pT T, iv tip, .slice Al loc.length cl, .agg ss, iv most] w (Headed w.heap.size ((aftN ns (lineO ns tip) loc stop most).map (headN ns)) w) := by
  have L1 : Hid (∀ y, Keep w y → Calls Tryz.prog 12 #[pT T, iv tip] y (Lined y.heap.size (lineO ns tip) y)) := Lib.hid fun y hy => line_any T ns tip y (h.keep hy) TR (by omega) htip
  have hla := lineO_len TR tip
  have hlt := lineO_lt TR tip
  have PL : Hid (∀ y A c I is, Keep w y → Rd y A (nvL (lineO ns tip)) → I.length = 32 → HashA I is → Calls Tryz.prog 31 #[pT T, .slice A (lineO ns tip).length c, .agg is] y fun e w' => e = .returned (.tuple #[iv ((plcN ns (lineO ns tip) I).getD 0 : Nat), .bool (plcN ns (lineO ns tip) I).isSome]) ∧ Keep y w') := Lib.hid fun y A c I is hy hr h1 h2 => place_any T ns A _ c I is y (h.keep hy) TR hl (by omega) hr h1 h2
  obtain ⟨L, hL⟩ : ∃ L, lineO ns tip = L := ⟨_, rfl⟩
  rw [hL] at L1 hla hlt PL ⊢
  clear hL
  have HE : Hid (∀ y A c k m, Keep w y → Rd y A (nvL ((L.take m).drop k)) → Calls Tryz.prog 32 #[pT T, .slice A ((L.take m).drop k).length c] y (Headed y.heap.size (((L.take m).drop k).map (headN ns)) y)) := Lib.hid fun y A c k m hy hr => heads_any T ns A _ c y (h.keep hy) TR (by omega) (by rw [List.length_drop, List.length_take]; omega) hr fun x hx => hlt x (List.mem_of_mem_take (List.mem_of_mem_drop hx))
  have BS : Hid (∀ k, k < loc.length → begN ns L 1 (loc.take (k + 1)) = match plcN ns L (loc.getD k z32) with | some a => max (begN ns L 1 (loc.take k)) (a + 1) | none => begN ns L 1 (loc.take k)) := Lib.hid fun k hk => by
    rw [List.take_succ_eq_append_getElem hk, begN_snoc]
    have : loc.getD k z32 = loc[k] := by simp [List.getD_eq_getElem?_getD, List.getElem?_eq_getElem hk]
    first | (rw [this]; done) | (rw [this]; rfl)
  have PLT : Hid (∀ I a, plcN ns L I = some a → a < L.length) := Lib.hid fun I a e => plcN_lt e
  have HLC : Hid (∀ k, k < loc.length → ∃ (b off : Nat) (is : Array Value), Al = some ⟨b, off, none⟩ ∧ HashA (loc.getD k z32) is ∧ (loc.getD k z32).length = 32 ∧ w.rangeAt b (off + k * 32) is.toList) := Lib.hid fun k hlt2 => by
    have e0 : loc.getD k z32 = loc[k] := by simp [List.getD_eq_getElem?_getD, List.getElem?_eq_getElem hlt2]
    rw [e0]
    obtain ⟨b, off, h1, -, h2⟩ := hash_at hrl hk hlt2
    have h3 := HashA.of (hk _ (List.getElem_mem hlt2))
    exact ⟨b, off, _, h1, h3, hk _ (List.getElem_mem hlt2), by rw [h3.l]; exact h2⟩
  have HBE : Hid (begN ns L 1 (loc.take loc.length) = begN ns L 1 loc) := Lib.hid (by rw [List.take_length])
  have HGN : Hid (∀ G, aftN ns L loc stop most = G → G = if L = [] then [] else (L.take (endN ns L (begN ns L 1 loc) stop most)).drop (begN ns L 1 loc)) := Lib.hid fun G e => by subst e; rfl
  replace HGN := Lib.hid (HGN.out _ rfl)
  have HEN : Hid (∀ b, endN ns L b stop most = match plcN ns L stop with
    | some a => if b ≤ a then min (min L.length (b + min (max most 0).toNat 2000)) (a + 1) else min L.length (b + min (max most 0).toNat 2000)
    | none => min L.length (b + min (max most 0).toNat 2000)) := Lib.hid fun b => rfl
  have Hstop := Lib.hid hstop; have Hss := Lib.hid hss
  have hcz := hss.z; have hcn := hss.n; have hci := hss.i
  have hl2 : L.length ≤ 100000 := by omega
  obtain ⟨m0, hm0⟩ : ∃ m0, min (max most 0).toNat 2000 = m0 := ⟨_, rfl⟩
  have HM0 := Lib.hid hm0
  have hm0l : m0 ≤ 2000 := by omega
  rw [hm0] at HEN
  clear h TR hl hla htip hrl hk hstop hss hlt hm0
  generalize aftN ns L loc stop most = G at *
  generalize loc.length = n at *
  obtain ⟨gg, hgg⟩ : ∃ f : Nat → List UInt8, (fun k => loc.getD k z32) = f := ⟨_, rfl⟩
  have hgg' : ∀ k, loc.getD k z32 = gg k := fun k => by rw [← hgg]
  simp only [hgg'] at HLC BS
  obtain ⟨bg, hbg⟩ : ∃ f : Nat → Nat, (fun k => begN ns L 1 (loc.take k)) = f := ⟨_, rfl⟩
  have hbg' : ∀ k, begN ns L 1 (loc.take k) = bg k := fun k => by rw [← hbg]
  have hb0 : bg 0 = 1 := by rw [← hbg]; rfl
  simp only [hbg'] at HBE BS
  rw [← HBE.out] at HGN
  have HB0 := Lib.hid hb0
  clear hgg hgg' hbg hbg' HBE hb0
  generalize plcN ns L = pl at *
  generalize endN ns L = en at *
  generalize headN ns = hd at *
  unfold Headed Lined at *
  have HK : Hid (Keep w w) := Lib.hid (Below.refl _ _)
  obtain ⟨zs, hz1, hz2, hz3, -⟩ := zhash_letter
  go_enter Tryz.func19, Tryz.ntmps19
  go_upto_region 1 with fail
  obtain ⟨w1, hw1⟩ : ∃ w1, w1 = w.alloc (.cells ss 36) := ⟨_, rfl⟩
  have HC1 : Hid (Blk w1 w.heap.size 36 ss.toList) := by rw [hw1]; exact Lib.hid (Blk.new w 36 ss.toList)
  have HK1 : Hid (Keep w w1) := by rw [hw1]; exact Lib.hid (keep_trans HK.out (keep_new _ _))
  rw [← hw1]
  have hgs1 : w.heap.size ≤ w.heap.size := HK.out.size
  clear hw1  HK
  generalize w.heap.size = gc at *
  go_wp2_with fail
  refine (L1.out _ HK1.out).mono ?_
  clear L1
  rintro e w2 ⟨v, rfl, hown, k2⟩
  obtain ⟨A2, c2, rfl, hc2, hm2, hr2⟩ := own_form hown
  have RL := Lib.hid hr2
  clear hown hr2
  have HC2 := Lib.hid (HC1.out.keep k2)
  have HK2 := Lib.hid (keep_trans HK1.out k2)
  clear k2 HC1 HK1
  by_cases h0 : L.length = 0
  · have hL0 : L = [] := List.eq_nil_of_length_eq_zero h0
    have hG := HGN.out
    rw [if_pos hL0] at hG
    subst hG
    clear HGN HEN BS PLT HLC PL HE hL0
    go_wp2
    exact bodyPost_ret (v := .slice none 0 0) (by simp [results, Tryz.results19]) rfl ⟨_, rfl, World.ownsRow_nil _ _ _ _, HK2.out⟩
  have hG := HGN.out
  rw [if_neg (fun q => h0 (by rw [q]; rfl))] at hG
  have HG := Lib.hid hG
  clear HGN hG
  obtain ⟨b2, o2, hA2, -, -⟩ := RL.out.at (k := 0) (by rw [nvL_len]; omega)
  cases hA2
  have hp : 0 < L.length := by omega
  obtain ⟨ll, hll⟩ : ∃ ll, L.length = ll := ⟨_, rfl⟩
  have HLL := Lib.hid hll
  rw [hll] at PL PLT HEN h0 hp hl2 hc2 ⊢
  clear hll
  have g1 : ((ll : Int) == 0) = false := by rw [beq_eq_false_iff_ne]; omega
  go_wp2_with fail
  clear g1 h0
  go_loopw [12, 28] (fun b i wr => ∃ (k bb : Nat), k ≤ n ∧ i = .int .i64 k ∧ b = .int .i64 bb ∧ 1 ≤ bb ∧ bb ≤ ll ∧ Hid (bb = bg k) ∧ Hid (Keep w2 wr)) (fun _ i _ => n - (intOf i).toNat)
  case atStart => exact ⟨0, 1, Nat.zero_le _, rfl, rfl, Nat.le_refl _, hp, Lib.hid HB0.out.symm, Lib.hid (Below.refl _ _)⟩
  case round =>
    obtain ⟨k, bb, hkn, rfl, rfl, hb1, hb2, HBB, HKr⟩ := hrel
    by_cases hlt : k < n
    · obtain ⟨b, off, is, rfl, his, hi32, hrg⟩ := HLC.out k hlt
      have hbs := BS.out k hlt
      rw [← HBB.out] at hbs
      have HPT : Hid (∀ a, pl (gg k) = some a → a < ll) := Lib.hid fun a e => PLT.out _ a e
      have P1 : Hid (∀ y, Keep w y → Rd y (some ⟨b2, o2, none⟩) (nvL L) → Calls Tryz.prog 31 #[pT T, .slice (some ⟨b2, o2, none⟩) ll c2, .agg is] y fun e w' => e = .returned (.tuple #[iv ((pl (gg k)).getD 0 : Nat), .bool (pl (gg k)).isSome]) ∧ Keep y w') := Lib.hid fun y hy hr => PL.out y _ c2 _ is hy hr hi32 his
      generalize pl (gg k) = P at *
      have HBS := Lib.hid hbs
      have hiz := his.z; have hin := his.n; have hii := his.i
      have RI : Hid (wr.rangeAt b (off + k * 32) is.toList) := Lib.hid fun j v hv => keep_cell (keep_trans HK2.out HKr.out) (hrg j v hv)
      have hst : (storeCells ⟨wr.heap.size, 0, none⟩ is.toList 0).run Tryz.prog (wr.alloc (.cells zs 36)) = .ok () (wr.alloc (.cells is 36)) := run_storeCells_new (P := Tryz.prog) wr 36 zs is hii (hz1.trans hiz.symm) (by have := all_oneCell_toArray his.o; rwa [Array.toArray_toList] at this)
      have d2 : (k : Int) < n := by omega
      clear his hrg hbs hi32 PL HLC BS PLT
      go_upto_region 8 with ((with_reducible refine load_partg b (off + k * 32) is (Eq.trans ?_ rfl) RI.out _ Tryz.underlying36 rfl hii rfl ?_); rfl)
      obtain ⟨w3, hw3⟩ : ∃ w3, w3 = wr.alloc (.cells is 36) := ⟨_, rfl⟩
      have HI3 : Hid (Blk w3 wr.heap.size 36 is.toList) := by rw [hw3]; exact Lib.hid (Blk.new wr 36 is.toList)
      have HK3 : Hid (Keep w2 w3) := by rw [hw3]; exact Lib.hid (keep_trans HKr.out (keep_new _ _))
      rw [← hw3]
      clear hw3 hst RI HKr
      generalize wr.heap.size = gi at *
      have RB : Hid (w3.rangeAt gi 0 is.toList) := Lib.hid (range_of HI3.out 0 is.toList (by simp [List.take_of_length_le]))
      have HKW3 := Lib.hid (keep_trans HK2.out HK3.out)
      have RL3 := Lib.hid (RL.out.keep HK3.out)
      clear HI3
      go_wp2_with ((with_reducible refine load_partg gi 0 is (Eq.trans ?_ rfl) RB.out _ Tryz.underlying36 rfl hii rfl ?_); rfl)
      refine (P1.out _ HKW3.out RL3.out).mono ?_
      clear P1 RB RL3 HKW3
      rintro e w4 ⟨rfl, k4⟩
      have HK4 := Lib.hid (keep_trans HK3.out k4)
      clear k4 HK3 hiz hin hii
      cases P with
      | none =>
        have hb3 : bb = bg (k + 1) := by have := HBS.out; simp only at this; exact this.symm
        have HB3 := Lib.hid hb3
        clear hb3 HBS HPT HBB
        go_wp2
        go_roundw
        case rel => exact ⟨k + 1, bb, by omega, by go_num, rfl, hb1, hb2, HB3, HK4⟩
        case measure => simp [intOf]; omega
      | some a =>
        have ha := HPT.out a rfl
        have hb3 : max bb (a + 1) = bg (k + 1) := by have := HBS.out; simp only at this; exact this.symm
        have HB3 := Lib.hid hb3
        have hmx : max (bb : Int) ((a : Int) + 1) = ((max bb (a + 1) : Nat) : Int) := by omega
        have hwa : IntKind.i64.wrap ((a : Int) + 1) = (a : Int) + 1 := IntWalk.i64_in _ (by omega)
        clear hb3 HBS HPT HBB
        go_wp2
        go_roundw
        case rel => exact ⟨k + 1, max bb (a + 1), by omega, by go_num, by first | rfl | (rw [← hmx]; rfl) | go_num, by omega, by omega, HB3, HK4⟩
        case measure => simp [intOf]; omega
    · obtain rfl : k = n := by omega
      have d2 : ¬ ((k : Int) < k) := by omega
      rw [← HBB.out] at HG
      have hex := HEN.out bb
      have PS : Hid (∀ y, Keep w y → Rd y (some ⟨b2, o2, none⟩) (nvL L) → Calls Tryz.prog 31 #[pT T, .slice (some ⟨b2, o2, none⟩) ll c2, .agg ss] y fun e w' => e = .returned (.tuple #[iv ((pl stop).getD 0 : Nat), .bool (pl stop).isSome]) ∧ Keep y w') := Lib.hid fun y hy hr => PL.out y _ c2 _ ss hy hr Hstop.out Hss.out
      have HPT : Hid (∀ a, pl stop = some a → a < ll) := Lib.hid fun a e => PLT.out _ a e
      generalize pl stop = P at *
      have RC : Hid (wr.rangeAt gc 0 ss.toList) := Lib.hid (range_of (HC2.out.keep HKr.out) 0 ss.toList (by simp [List.take_of_length_le]))
      have hmx : min (max most 0) 2000 = (m0 : Int) := by have := HM0.out; omega
      obtain ⟨e0, he0⟩ : ∃ e0, min ll (bb + m0) = e0 := ⟨_, rfl⟩
      have hmi : min (ll : Int) ((bb : Int) + (m0 : Int)) = (e0 : Int) := by omega
      have he1 : bb ≤ e0 ∧ e0 ≤ ll := by omega
      rw [he0] at hex
      have HEX := Lib.hid hex
      have FIN : Hid (∀ e : Nat, en bb stop most = e → bb ≤ e → e ≤ ll → ∀ y A N c', Keep w2 y → N = e - bb → (A = some ⟨b2, o2 + bb, none⟩ ∨ (A = some ⟨b2, o2, none⟩ ∧ bb = c2)) → Calls Tryz.prog 32 #[pT T, .slice A N c'] y fun e w' => ∃ v, e = .returned v ∧ w'.ownsRow w.heap.size 39 68 v (G.map hd).length ((G.map hd).flatMap Hd.cells) ∧ Keep y w') := Lib.hid fun e h1 h2 h3 y A N c' hy hN hA => by
        have hg := HG.out
        rw [h1] at hg
        have hN2 : N = ((L.take e).drop bb).length := by rw [List.length_drop, List.length_take, HLL.out]; omega
        rw [hg, hN2]
        have hyw := keep_trans HK2.out hy
        have hrd : Rd y A (nvL ((L.take e).drop bb)) := by
          rcases hA with rfl | ⟨rfl, hbc⟩
          · exact cut_rd (RL.out.keep hy) bb e h2 (by rw [HLL.out]; exact h3)
          · have : (L.take e).drop bb = [] := List.eq_nil_of_length_eq_zero (by rw [← hN2]; omega)
            rw [this]; exact Rd.nil _ _
        refine (HE.out y A c' bb e hyw hrd).mono ?_
        rintro e w' ⟨v, h4, h5, h6⟩
        exact ⟨v, h4, own_base h5 hyw.size, h6⟩
      have HKWr := Lib.hid (keep_trans HK2.out HKr.out); have RLr := Lib.hid (RL.out.keep HKr.out)
      clear PL PLT HEN BS HLC HBB HB0 HM0 HE hex he0 HG
      go_wp2_with ((with_reducible refine load_partg gc 0 ss (Eq.trans ?_ rfl) RC.out _ Tryz.underlying36 rfl hci rfl ?_); rfl)
      refine (PS.out _ HKWr.out RLr.out).mono ?_
      clear PS RC RLr HKWr hmx hmi hcz hcn hci
      rintro e w4 ⟨rfl, k4⟩
      have HK4 := Lib.hid (keep_trans HKr.out k4)
      clear k4 HKr
      cases P with
      | none =>
        have hex := HEX.out
        simp only at hex
        have F2 := Lib.hid (FIN.out e0 hex he1.1 he1.2)
        clear HEX HPT FIN hex
        go_wp2_with fail
        all_goals
          with_reducible refine (F2.out _ _ _ _ HK4.out rfl (by first | exact .inl rfl | exact .inr ⟨rfl, rfl⟩ | exact .inr ⟨rfl, by omega⟩)).mono ?_
          clear F2
          rintro e w5 ⟨v, rfl, hown, k5⟩
          have HOWN := Lib.hid hown
          have HK5 := Lib.hid (keep_trans HK2.out (keep_trans HK4.out k5))
          clear hown k5 HK4 HK2
          go_wp2
          exact bodyPost_ret (v := v) (by simp [results, Tryz.results19]) rfl ⟨_, rfl, HOWN.out, HK5.out⟩
      | some a =>
        have ha := HPT.out a rfl
        have hwa : IntKind.i64.wrap ((a : Int) + 1) = (a : Int) + 1 := IntWalk.i64_in _ (by omega)
        by_cases hba : bb ≤ a
        · have hex := HEX.out
          simp only at hex
          rw [if_pos hba] at hex
          obtain ⟨e1, he1b⟩ : ∃ e1, min e0 (a + 1) = e1 := ⟨_, rfl⟩
          rw [he1b] at hex
          have hmi : min (e0 : Int) ((a : Int) + 1) = (e1 : Int) := by omega
          have d3 : (bb : Int) ≤ (a : Int) := by omega
          have F2 := Lib.hid (FIN.out e1 hex (by omega) (by omega))
          have he2 : bb ≤ e1 ∧ e1 ≤ ll := by omega
          clear HEX HPT FIN hex he1b he1
          go_wp2_with fail
          all_goals
            with_reducible refine (F2.out _ _ _ _ HK4.out rfl (by first | exact .inl rfl | exact .inr ⟨rfl, rfl⟩ | exact .inr ⟨rfl, by omega⟩)).mono ?_
            clear F2
            rintro e w5 ⟨v, rfl, hown, k5⟩
            have HOWN := Lib.hid hown
            have HK5 := Lib.hid (keep_trans HK2.out (keep_trans HK4.out k5))
            clear hown k5 HK4 HK2
            go_wp2
            exact bodyPost_ret (v := v) (by simp [results, Tryz.results19]) rfl ⟨_, rfl, HOWN.out, HK5.out⟩
        · have hex := HEX.out
          simp only at hex
          rw [if_neg hba] at hex
          have d3 : ¬ (bb : Int) ≤ (a : Int) := by omega
          have F2 := Lib.hid (FIN.out e0 hex he1.1 he1.2)
          clear HEX HPT FIN hex
          go_wp2_with fail
          all_goals
            with_reducible refine (F2.out _ _ _ _ HK4.out rfl (by first | exact .inl rfl | exact .inr ⟨rfl, rfl⟩ | exact .inr ⟨rfl, by omega⟩)).mono ?_
            clear F2
            rintro e w5 ⟨v, rfl, hown, k5⟩
            have HOWN := Lib.hid hown
            have HK5 := Lib.hid (keep_trans HK2.out (keep_trans HK4.out k5))
            clear hown k5 HK4 HK2
            go_wp2
            exact bodyPost_ret (v := v) (by simp [results, Tryz.results19]) rfl ⟨_, rfl, HOWN.out, HK5.out⟩
end Go.Proofs.YtjbdboekleaklaaGreatDoor

/- The last one in two lines, and who is told what it lacks: plain. -/
set_option linter.unusedSimpArgs false
set_option linter.unusedVariables false
namespace Go.Proofs.YtjbdboekleaklaaGreatDoor
open Go.RowKit

/-- The greatest height, no more than k, at which two lines have the same. -/
def comH (ns : List Nd) (a b : Nat) : Nat → Nat
  | 0 => 0
  | k + 1 => if abvN ns a (k + 1) = abvN ns b (k + 1) then k + 1 else comH ns a b k
def comN (ns : List Nd) (a b : Nat) : Nat := comH ns a b (min (hgtN ns a) (hgtN ns b))
theorem comH_le (ns : List Nd) (a b : Nat) : ∀ k, comH ns a b k ≤ k
  | 0 => Nat.le_refl _
  | k + 1 => by unfold comH; split
                · exact Nat.le_refl _
                · have := comH_le ns a b k; omega
theorem comH_eq {ns : List Nd} {a b : Nat} (h0 : abvN ns a 0 = abvN ns b 0) : ∀ k, abvN ns a (comH ns a b k) = abvN ns b (comH ns a b k)
  | 0 => h0
  | k + 1 => by unfold comH; split
                · assumption
                · exact comH_eq h0 k
theorem comH_max (ns : List Nd) (a b : Nat) : ∀ k m, m ≤ k → abvN ns a m = abvN ns b m → m ≤ comH ns a b k
  | 0, m, h, _ => by unfold comH; exact h
  | k + 1, m, h, e => by
    unfold comH; split
    · exact h
    · rename_i q
      have : m ≠ k + 1 := fun x => q (by rw [← x]; exact e)
      exact comH_max ns a b k m (by omega) e
theorem abv_zero {ns : List Nd} (TR : Tr ns) {i : Nat} (hi : i < ns.length) : abvN ns i 0 = 0 := by unfold abvN; rw [Nat.sub_zero]; exact TR.upTop hi
theorem com_law {ns : List Nd} (TR : Tr ns) {a b : Nat} (ha : a < ns.length) (hb : b < ns.length) :
    comN ns a b ≤ hgtN ns a ∧ comN ns a b ≤ hgtN ns b ∧ abvN ns a (comN ns a b) = abvN ns b (comN ns a b) ∧ ∀ m, m ≤ hgtN ns a → m ≤ hgtN ns b → abvN ns a m = abvN ns b m → m ≤ comN ns a b := by
  have h := comH_le ns a b (min (hgtN ns a) (hgtN ns b))
  refine ⟨?_, ?_, comH_eq (by rw [abv_zero TR ha, abv_zero TR hb]) _, fun m h1 h2 e => comH_max ns a b _ m (by omega) e⟩
  · show comH ns a b _ ≤ _; omega
  · show comH ns a b _ ≤ _; omega
theorem abv_mono {ns : List Nd} (TR : Tr ns) {b : Nat} (hb : b < ns.length) {g h : Nat} (hgh : g ≤ h) (hh : h ≤ hgtN ns b) : abvN ns b g ≤ abvN ns b h := by
  obtain ⟨-, h2, h3⟩ := TR.abv hb hh
  rw [← TR.abv_abv hb hh hgh]
  exact (TR.abv h2 (by omega)).1
/-- One round of Common. -/
theorem com_step {ns : List Nd} (TR : Tr ns) {a b p q : Nat} (ha : a < ns.length) (hb : b < ns.length) (hp : p ≤ hgtN ns a) (hq : q ≤ hgtN ns b) (h1 : comN ns a b ≤ p) (h2 : comN ns a b ≤ q) (h : abvN ns b q < abvN ns a p) :
    comN ns a b + 1 ≤ p ∧ (∃ y, ns[abvN ns a p]? = some y ∧ y.par = (abvN ns a (p - 1) : Nat)) := by
  obtain ⟨c1, c2, c3, c4⟩ := com_law TR ha hb
  have hlt : comN ns a b + 1 ≤ p := by
    rcases Nat.lt_or_ge (comN ns a b) p with h5 | h5
    · exact h5
    · have e : p = comN ns a b := by omega
      rw [e, c3] at h
      have := abv_mono TR hb h2 hq
      omega
  refine ⟨hlt, ?_⟩
  obtain ⟨d1, d2, d3⟩ := TR.abv ha hp
  have hy := List.getElem?_eq_getElem d2
  refine ⟨_, hy, ?_⟩
  have e1 := TR.par (i := abvN ns a p) (by have := TR.pos d2; omega) d2
  have e2 := parN_of hy
  rw [← e2, e1.2.1]
  congr 1
  rw [← TR.abv_abv ha hp (show p - 1 ≤ p by omega), TR.abv_par d2 (by omega)]
  have e3 : hgtN ns (parN ns (abvN ns a p)).toNat = p - 1 := by omega
  rw [← e3, abv_top]
theorem com_step' {ns : List Nd} (TR : Tr ns) {a b p q : Nat} (ha : a < ns.length) (hb : b < ns.length) (hp : p ≤ hgtN ns a) (hq : q ≤ hgtN ns b) (h1 : comN ns a b ≤ p) (h2 : comN ns a b ≤ q) (h : abvN ns a p < abvN ns b q) :
    comN ns a b + 1 ≤ q ∧ (∃ y, ns[abvN ns b q]? = some y ∧ y.par = (abvN ns b (q - 1) : Nat)) := by
  obtain ⟨c1, c2, c3, c4⟩ := com_law TR ha hb
  have hlt : comN ns a b + 1 ≤ q := by
    rcases Nat.lt_or_ge (comN ns a b) q with h5 | h5
    · exact h5
    · have e : q = comN ns a b := by omega
      rw [e, ← c3] at h
      have := abv_mono TR ha h1 hp
      omega
  refine ⟨hlt, ?_⟩
  obtain ⟨d1, d2, d3⟩ := TR.abv hb hq
  have hy := List.getElem?_eq_getElem d2
  refine ⟨_, hy, ?_⟩
  have e1 := TR.par (i := abvN ns b q) (by have := TR.pos d2; omega) d2
  have e2 := parN_of hy
  rw [← e2, e1.2.1]
  congr 1
  rw [← TR.abv_abv hb hq (show q - 1 ≤ q by omega), TR.abv_par d2 (by omega)]
  have e3 : hgtN ns (parN ns (abvN ns b q)).toNat = q - 1 := by omega
  rw [← e3, abv_top]
theorem com_end {ns : List Nd} (TR : Tr ns) {a b p q : Nat} (ha : a < ns.length) (hb : b < ns.length) (hp : p ≤ hgtN ns a) (hq : q ≤ hgtN ns b) (h1 : comN ns a b ≤ p) (h : abvN ns a p = abvN ns b q) : p = comN ns a b := by
  obtain ⟨-, -, d3⟩ := TR.abv ha hp
  obtain ⟨-, -, e3⟩ := TR.abv hb hq
  rw [h, e3] at d3
  subst d3
  have := (com_law TR ha hb).2.2.2 q hp hq h
  omega

theorem locH_le : ∀ (f x s c : Nat), 1 ≤ s → (locH f x s c).length ≤ x
  | 0, _, _, _, _ => Nat.zero_le _
  | f + 1, x, s, c, hs => by
    by_cases h0 : x = 0
    · subst h0; rw [locH_zero]; exact Nat.zero_le _
    · simp only [locH]; rw [if_neg h0, List.length_cons]
      have hst : 1 ≤ stpN s c := by unfold stpN; split <;> omega
      have := locH_le f (x - stpN s c) (stpN s c) (c + 1) hst
      omega
theorem locH_mem : ∀ (f x c g : Nat), x ≤ f → 0 < g → g ≤ x → x - g + c ≤ 9 → g ∈ locH f x 1 c
  | 0, x, c, g, hx, h1, h2, _ => by omega
  | f + 1, x, c, g, hx, h1, h2, h3 => by
    simp only [locH]; rw [if_neg (by omega)]
    by_cases e : g = x
    · rw [e]; exact List.mem_cons_self
    · have hst : stpN 1 c = 1 := by unfold stpN; rw [if_neg (by omega)]
      rw [hst]
      exact List.mem_cons_of_mem _ (locH_mem f (x - 1) (c + 1) g (by omega) h1 (by omega) (by omega))
theorem begN_heights {ns : List Nd} {L : List Nat} {f : Nat → List UInt8} {hc : Nat} : ∀ (gs : List Nat) (b : Nat), (∀ g ∈ gs, plcN ns L (f g) = if g ≤ hc then some g else none) →
    b ≤ begN ns L b (gs.map f) ∧ begN ns L b (gs.map f) ≤ max b (hc + 1) ∧ ∀ g ∈ gs, g ≤ hc → g + 1 ≤ begN ns L b (gs.map f)
  | [], b, _ => ⟨Nat.le_refl _, Nat.le_max_left _ _, fun g hg => absurd hg (by simp)⟩
  | x :: t, b, h => by
    have e : begN ns L b ((x :: t).map f) = begN ns L (match plcN ns L (f x) with | some a => max b (a + 1) | none => b) (t.map f) := rfl
    rw [e, h x List.mem_cons_self]
    by_cases hx : x ≤ hc
    · rw [if_pos hx]
      simp only
      obtain ⟨q1, q2, q3⟩ := begN_heights t (max b (x + 1)) fun g hg => h g (List.mem_cons_of_mem _ hg)
      refine ⟨by omega, by omega, fun g hg hgc => ?_⟩
      rcases List.mem_cons.1 hg with rfl | hg
      · omega
      · exact q3 g hg hgc
    · rw [if_neg hx]
      simp only
      obtain ⟨q1, q2, q3⟩ := begN_heights t b fun g hg => h g (List.mem_cons_of_mem _ hg)
      refine ⟨q1, q2, fun g hg hgc => ?_⟩
      rcases List.mem_cons.1 hg with rfl | hg
      · exact absurd hgc hx
      · exact q3 g hg hgc
theorem locN_eq {ns : List Nd} {a : Nat} (ha : a < ns.length) : locN ns (a : Int) = (locH (hgtN ns a) (hgtN ns a) 1 0 ++ [0]).map fun k => idN ns ((lineN ns a).getD k 0) := by
  have hL : lineO ns (a : Int) = lineN ns a := by unfold lineO; rw [if_pos ⟨by omega, by simpa using ha⟩]; simp
  have hne : ¬ lineN ns a = [] := fun q => by have := line_len ns a; rw [q] at this; simp at this
  unfold locN locL
  rw [hL, if_neg hne, line_len, Nat.add_sub_cancel, List.map_map]
  rfl
theorem asks_law {ns : List Nd} (TR : Tr ns) {a b : Nat} (ha : a < ns.length) (hb : b < ns.length) (h2k : ns.length ≤ 2000) :
    ∃ (L G : List Nat) (loc : List (List UInt8)) (fr hc : Nat), lineO ns (b : Int) = L ∧ locN ns (a : Int) = loc ∧ aftN ns L loc (idN ns b) 2000 = G ∧ comN ns a b = hc ∧ L.length ≤ ns.length ∧ (∀ x ∈ G, x < ns.length) ∧
      G.length + fr = L.length ∧ 1 ≤ fr ∧ fr ≤ hc + 1 ∧ L.drop fr = G ∧ 0 < loc.length ∧ loc.length ≤ hc + ns.length ∧ loc[0]? = some (idN ns a) ∧ loc[loc.length - 1]? = some (idN ns 0) ∧ (hc + 10 ≤ hgtN ns a ∨ fr = hc + 1) ∧ hc ≤ hgtN ns a := by
  have hL : lineO ns (b : Int) = lineN ns b := by unfold lineO; rw [if_pos ⟨by omega, by simpa using hb⟩]; simp
  obtain ⟨c1, c2, c3, c4⟩ := com_law TR ha hb
  have hla := TR.le a ha
  have hlb := TR.le b hb
  have hne : ¬ lineN ns b = [] := fun q => by have := line_len ns b; rw [q] at this; simp at this
  have hget : ∀ k, k ≤ hgtN ns a → (lineN ns a).getD k 0 = abvN ns a k := fun k hk => by
    rw [List.getD_eq_getElem?_getD, line_abv hk]; rfl
  have hpl : ∀ g, g ≤ hgtN ns a → plcN ns (lineN ns b) (idN ns ((lineN ns a).getD g 0)) = if g ≤ comN ns a b then some g else none := by
    intro g hg
    rw [hget g hg]
    obtain ⟨d1, d2, d3⟩ := TR.abv ha hg
    have hz := List.getElem?_eq_getElem d2
    have hf : findN ns (idN ns (abvN ns a g)) = some (abvN ns a g) := by unfold idN; rw [hz]; exact TR.find hz
    unfold plcN
    rw [hf]
    simp only
    rw [d3]
    by_cases hgc : g ≤ comN ns a b
    · rw [if_pos hgc, line_abv (by omega), if_pos]
      have e1 := TR.abv_abv ha c1 hgc
      have e2 := TR.abv_abv hb c2 hgc
      rw [c3] at e1
      rw [← e1, ← e2]
    · rw [if_neg hgc]
      by_cases hgb : g ≤ hgtN ns b
      · rw [line_abv hgb, if_neg]
        intro q
        exact hgc (c4 g hg hgb (Option.some.inj q).symm)
      · rw [List.getElem?_eq_none (by rw [line_len]; omega), if_neg (by simp)]
  obtain ⟨gs, hgs⟩ : ∃ gs, locH (hgtN ns a) (hgtN ns a) 1 0 ++ [0] = gs := ⟨_, rfl⟩
  have hloc := locN_eq ha
  rw [hgs] at hloc
  have hgle : ∀ g ∈ gs, g ≤ hgtN ns a := fun g hg => by
    obtain ⟨k, hk, rfl⟩ := List.mem_iff_getElem.1 hg
    exact (locH_get _ _ 1 0 (Nat.le_refl _) (Nat.le_refl _) k gs[k] (by rw [hgs]; exact List.getElem?_eq_getElem hk)).1
  obtain ⟨q1, q2, q3⟩ := begN_heights gs 1 fun g hg => hpl g (hgle g hg)
  rw [← hloc] at q1 q2 q3
  obtain ⟨r1, r2, r3⟩ := aft_len (ns := ns) hne (locN ns (a : Int)) (idN ns b) 2000
  have hend : endN ns (lineN ns b) (begN ns (lineN ns b) 1 (locN ns (a : Int))) (idN ns b) 2000 = (lineN ns b).length := by
    have hz := List.getElem?_eq_getElem hb
    have hf : findN ns (idN ns b) = some b := by unfold idN; rw [hz]; exact TR.find hz
    have hp : plcN ns (lineN ns b) (idN ns b) = some (hgtN ns b) := by
      unfold plcN; rw [hf]; simp only; rw [line_abv (Nat.le_refl _), abv_top, if_pos rfl]
    unfold endN
    rw [hp]
    simp only
    rw [line_len] at r3 ⊢
    split <;> omega
  rw [hend] at r1
  have hfr : (lineN ns b).length = hgtN ns b + 1 := line_len ns b
  have hgl : gs.length = (locN ns (a : Int)).length := by rw [hloc, List.length_map]
  have hg1 : gs.length ≤ hgtN ns a + 1 := by rw [← hgs, List.length_append, List.length_singleton]; have := locH_le (hgtN ns a) (hgtN ns a) 1 0 (Nat.le_refl _); omega
  have hg0 : 0 < gs.length := by rw [← hgs]; simp
  have h00 : (lineN ns a).getD 0 0 = 0 := by rw [hget 0 (Nat.zero_le _), abv_zero TR ha]
  have hmem : ∀ x ∈ aftN ns (lineN ns b) (locN ns (a : Int)) (idN ns b) 2000, x < ns.length := fun x hx => by
    unfold aftN at hx
    rw [if_neg hne] at hx
    have := lineO_lt TR (b : Int)
    rw [hL] at this
    exact this x (List.mem_of_mem_take (List.mem_of_mem_drop hx))
  refine ⟨lineN ns b, _, _, begN ns (lineN ns b) 1 (locN ns (a : Int)), _, hL, rfl, rfl, rfl, by omega, hmem, by omega, r2, by omega, ?_, by omega, by omega, ?_, ?_, ?_, c1⟩
  · unfold aftN; rw [if_neg hne, hend, List.take_length]
  · rw [hloc, List.getElem?_map, ← hgs, locH_head _ _ _ _ (Nat.le_refl _)]
    show some (idN ns ((lineN ns a).getD (hgtN ns a) 0)) = _
    rw [hget _ (Nat.le_refl _), abv_top]
  · rw [← hgl, hloc, List.getElem?_map, ← hgs]
    rw [List.length_append, List.length_singleton, Nat.add_sub_cancel, List.getElem?_append_right (Nat.le_refl _), Nat.sub_self]
    show some (idN ns ((lineN ns a).getD 0 0)) = _
    rw [h00]
  · rcases Nat.lt_or_ge (hgtN ns a) (comN ns a b + 10) with h | h
    · right
      have hm : comN ns a b ∈ gs := by
        rw [← hgs]
        by_cases h0 : comN ns a b = 0
        · rw [h0]; simp
        · exact List.mem_append_left _ (locH_mem _ _ 0 _ (Nat.le_refl _) (by omega) c1 (by omega))
      have := q3 _ hm (Nat.le_refl _)
      omega
    · left; exact h
end Go.Proofs.YtjbdboekleaklaaGreatDoor

/- florinref07.Same and (*Tree).Common. (printed by gen_tw.py) -/
set_option linter.unusedSimpArgs false
set_option linter.unusedVariables false
namespace Go.Proofs.YtjbdboekleaklaaGreatDoor
open Go.RowKit
attribute [local go_sem ↓] Go.wp_at_zero Go.wp_at_succ

set_option maxRecDepth 100000 in
set_option maxHeartbeats 2000000 in
theorem hsame_any (A : Option Addr) (hs : List Hd) (c : Nat) (B : Option Addr) (gs : List Hd) (d : Nat) (w : World) (ha : Rd w A (hs.flatMap Hd.cells)) (hb : Rd w B (gs.flatMap Hd.cells)) (ho : ∀ x ∈ hs, x.ok) (go : ∀ x ∈ gs, x.ok)
    (hl : hs.length ≤ 1000000) (gl : gs.length ≤ 1000000) :
    Calls Tryz.prog 24 #[.slice A hs.length c, .slice B gs.length d] w fun e w' => e = .returned (.bool (decide (hs = gs))) ∧ Keep w w' := by
  by_cases hn : hs.length = gs.length
  case neg =>
    have hn1 : ((hs.length : Int) != (gs.length : Int)) = true := by simp; omega
    have HE := Lib.hid (show decide (hs = gs) = false from decide_eq_false fun e => hn (by rw [e]))
    clear hn
    go_enter Tryz.func24, Tryz.ntmps24
    go_wp2_with fail
    exact bodyPost_ret (v := .bool false) (by simp [results, Tryz.results24]) rfl ⟨by rw [HE.out], Below.refl _ _⟩
  have hn1 : ((hs.length : Int) != (gs.length : Int)) = false := by simp; omega
  have Hn := Lib.hid hn; clear hn
  go_enter Tryz.func24, Tryz.ntmps24
  go_wp2_with fail
  go_loopw [5] (fun i wr => ∃ k : Nat, k ≤ hs.length ∧ i = .int .i64 k ∧ Keep w wr ∧ Hid (hs.take k = gs.take k)) (fun i _ => hs.length - (intOf i).toNat)
  case atStart => exact ⟨0, Nat.zero_le _, rfl, Below.refl _ _, Lib.hid (by simp)⟩
  case round =>
    obtain ⟨k, hk, rfl, hkr, Heq⟩ := hrel
    by_cases hlt : k < hs.length
    · have hlt' : k < gs.length := by have := Hn.out; omega
      obtain ⟨b, off, rfl, hbb, F⟩ := heads_at ha ho hlt
      obtain ⟨b', off', rfl, hbb', F'⟩ := heads_at hb go hlt'
      have hx := ho _ (List.getElem_mem hlt); have gx := go _ (List.getElem_mem hlt')
      have hts : hs.take (k + 1) = hs.take k ++ [hs[k]] := List.take_succ_eq_append_getElem hlt
      have gts : gs.take (k + 1) = gs.take k ++ [gs[k]] := List.take_succ_eq_append_getElem hlt'
      have hno : hs[k] ≠ gs[k] → decide (hs = gs) = false := fun h => decide_eq_false fun e => h (by subst e; rfl)
      generalize hs[k] = x at F hx hts hno
      generalize gs[k] = y at F' gx gts hno
      obtain ⟨xv, hxv⟩ : ∃ xv, HdA x xv := ⟨_, HdA.of hx⟩
      obtain ⟨yv, hyv⟩ : ∃ yv, HdA y yv := ⟨_, HdA.of gx⟩
      have xz := hxv.z; have xn := hxv.n; have xi := hxv.i
      have yz := hyv.z; have yn := hyv.n; have yi := hyv.i
      have Hx0 : Hid (wr.rangeAt b (off + k * 68) xv.toList) := by rw [hxv.l]; exact Lib.hid fun j v hv => keep_cell hkr (F j v hv)
      have Hy0 : Hid (wr.rangeAt b' (off' + k * 68) yv.toList) := by rw [hyv.l]; exact Lib.hid fun j v hv => keep_cell hkr (F' j v hv)
      have he : ∀ w, (Go.binOp .neq 39 (.agg xv) (.agg yv)).run Tryz.prog w = .ok (.bool (!hdEq x y)) w := fun w => hd_neq hxv hyv hx gx w
      have hgd := hd_guard
      have Hts := Lib.hid hts; have Gts := Lib.hid gts; have Hno := Lib.hid hno
      have HX := Lib.hid (hdEq_iff x y)
      clear F F' hts gts hno hxv hyv hx gx
      obtain ⟨q, hq⟩ : ∃ q, hdEq x y = q := ⟨_, rfl⟩
      rw [hq] at he HX
      clear hq
      go_upto_region 6 with fail
      refine wp_region_tree (.take [0,1,2,3,4,5,6,7,8] .done) [] (by kernel_rfl) (by kernel_rfl) (fun w3 k3 => ?_)
      have HK3 := Lib.hid (keep_trans hkr k3)
      have Hx : Hid (w3.rangeAt b (off + k * 68) xv.toList) := Lib.hid fun j v hv => keep_cell k3 (Hx0.out j v hv)
      have Hy : Hid (w3.rangeAt b' (off' + k * 68) yv.toList) := Lib.hid fun j v hv => keep_cell k3 (Hy0.out j v hv)
      clear k3 Hx0 Hy0 hkr
      refine mt_take w3 (Below.refl _ _) ?_
      simp only [pick_cons, pick_nil, nth_zero, nth_succ]
      repeat (first
        | ((with_reducible refine wpQuiet_load_partg b (off + k * 68) xv (Eq.trans ?_ rfl) Hx.out _ Tryz.underlying39 rfl xi (Eq.trans ?_ rfl) ?_); rfl; rfl; simp only [Act.put, Array.set!_eq_setIfInBounds, List.setIfInBounds_toArray, List.set_cons_succ, List.set_cons_zero])
        | ((with_reducible refine wpQuiet_load_partg b' (off' + k * 68) yv (Eq.trans ?_ rfl) Hy.out _ Tryz.underlying39 rfl yi (Eq.trans ?_ rfl) ?_); rfl; rfl; simp only [Act.put, Array.set!_eq_setIfInBounds, List.setIfInBounds_toArray, List.set_cons_succ, List.set_cons_zero])
        | go_big_quiet_step (fail))
      refine wpQuiet_nil (mt_end ?_)
      clear he
      cases q with
      | true =>
        have Q := Lib.hid (HX.out.1 rfl)
        clear HX
        go_wp2
        go_roundw
        case rel => exact ⟨k + 1, by omega, by go_num, HK3.out, Lib.hid (by rw [Hts.out, Gts.out, Heq.out, Q.out])⟩
        case measure => simp [intOf]; omega
      | false =>
        have Q := Lib.hid (Hno.out fun e => by have := HX.out.2 e; cases this)
        clear HX
        go_wp2
        exact bodyPost_ret (v := .bool false) (by simp [results, Tryz.results24]) rfl ⟨by rw [Q.out], HK3.out⟩
    · have HE := Lib.hid (show decide (hs = gs) = true from decide_eq_true (by
        have h1 := Heq.out
        have hn := Hn.out
        rw [show k = hs.length by omega, List.take_length, hn, List.take_length] at h1
        exact h1))
      go_wp2_with fail
      exact bodyPost_ret (v := .bool true) (by simp [results, Tryz.results24]) rfl ⟨by rw [HE.out], hkr⟩

def CoR (ns : List Nd) (a b i j : Nat) : Prop := ∃ p q, i = abvN ns a p ∧ j = abvN ns b q ∧ p ≤ hgtN ns a ∧ q ≤ hgtN ns b ∧ comN ns a b ≤ p ∧ comN ns a b ≤ q
theorem CoR.lt {ns : List Nd} (TR : Tr ns) {a b i j : Nat} (ha : a < ns.length) (hb : b < ns.length) (h : CoR ns a b i j) : i < ns.length ∧ j < ns.length := by
  obtain ⟨p, q, rfl, rfl, h1, h2, -, -⟩ := h
  exact ⟨(TR.abv ha h1).2.1, (TR.abv hb h2).2.1⟩
theorem CoR.left {ns : List Nd} (TR : Tr ns) {a b i j : Nat} (ha : a < ns.length) (hb : b < ns.length) (h : CoR ns a b i j) (hl : j < i) : ∃ r : Nat, parN ns i = (r : Nat) ∧ r < i ∧ CoR ns a b r j := by
  obtain ⟨p, q, rfl, rfl, h1, h2, h3, h4⟩ := h
  obtain ⟨s1, y, s2, s3⟩ := com_step TR ha hb h1 h2 h3 h4 hl
  have e := parN_of s2
  rw [s3] at e
  have hp := (TR.par (by omega) (TR.abv ha h1).2.1).1
  rw [e, Int.toNat_natCast] at hp
  exact ⟨_, e, hp, p - 1, q, rfl, rfl, by omega, h2, by omega, h4⟩
theorem CoR.right {ns : List Nd} (TR : Tr ns) {a b i j : Nat} (ha : a < ns.length) (hb : b < ns.length) (h : CoR ns a b i j) (hl : i < j) : ∃ r : Nat, parN ns j = (r : Nat) ∧ r < j ∧ CoR ns a b i r := by
  obtain ⟨p, q, rfl, rfl, h1, h2, h3, h4⟩ := h
  obtain ⟨s1, y, s2, s3⟩ := com_step' TR ha hb h1 h2 h3 h4 hl
  have e := parN_of s2
  rw [s3] at e
  have hp := (TR.par (by omega) (TR.abv hb h2).2.1).1
  rw [e, Int.toNat_natCast] at hp
  exact ⟨_, e, hp, p, q - 1, rfl, rfl, h1, by omega, h3, by omega⟩
theorem CoR.stop {ns : List Nd} (TR : Tr ns) {a b i : Nat} (ha : a < ns.length) (hb : b < ns.length) (h : CoR ns a b i i) : i = abvN ns a (comN ns a b) := by
  obtain ⟨p, q, e1, e2, h1, h2, h3, h4⟩ := h
  rw [e1, ← com_end TR ha hb h1 h2 h3 (e1.symm.trans e2)]
theorem CoR.start {ns : List Nd} (TR : Tr ns) {a b : Nat} (ha : a < ns.length) (hb : b < ns.length) : CoR ns a b a b := by
  obtain ⟨c1, c2, -, -⟩ := com_law TR ha hb
  exact ⟨_, _, (abv_top ns a).symm, (abv_top ns b).symm, Nat.le_refl _, Nat.le_refl _, c1, c2⟩

set_option maxRecDepth 100000 in
set_option maxHeartbeats 4000000 in
theorem common_any (T : Nat) (ns : List Nd) (a b : Nat) (w : World) (h : TrR w T ns) (TR : Tr ns) (hl : ns.length ≤ 1048576) (ha : a < ns.length) (hb : b < ns.length) :
    Calls Tryz.prog 23 #[pT T, iv a, iv b] w fun e w' => e = .returned (.tuple #[iv (abvN ns a (comN ns a b) : Nat), .bool true]) ∧ Keep w w' := by
  have L1 : Hid (∀ y, Keep w y → Calls Tryz.prog 10 #[pT T] y fun e w' => e = .returned (iv ns.length) ∧ Keep y w') := Lib.hid fun y hy => tlen_any T ns y (h.keep hy)
  have HT : Hid (∃ A c M, (∃ most, Blk w T 72 [.int .i64 most, .slice A ns.length c, .map (some M)]) ∧ ∀ k, k < ns.length → ∃ b off, A = some ⟨b, off, none⟩ ∧ b < w.heap.size ∧ w.cell? ⟨b, off + k * 106 + 100, none⟩ = some (.int .i64 (parN ns k)) ∧ w.cell? ⟨b, off + k * 106 + 101, none⟩ = some (.int .i64 (hgtN ns k : Int))) := by
    obtain ⟨most, A, c, M, hb, hr, -, -, -⟩ := h
    exact Lib.hid ⟨A, c, M, ⟨most, hb⟩, fun k hk => par_at hr TR.ok hk⟩
  obtain ⟨A, c, M, ⟨most, hbk⟩, hpar⟩ := HT.out
  have PAR := Lib.hid hpar; have HB := Lib.hid hbk
  have RS : Hid (CoR ns a b a b) := Lib.hid (CoR.start TR ha hb)
  have RL : Hid (∀ i j, CoR ns a b i j → i < ns.length ∧ j < ns.length) := Lib.hid fun i j q => CoR.lt TR ha hb q
  have R1 : Hid (∀ i j, CoR ns a b i j → j < i → ∃ r : Nat, parN ns i = (r : Nat) ∧ r < i ∧ CoR ns a b r j) := Lib.hid fun i j q => CoR.left TR ha hb q
  have R2 : Hid (∀ i j, CoR ns a b i j → i < j → ∃ r : Nat, parN ns j = (r : Nat) ∧ r < j ∧ CoR ns a b i r) := Lib.hid fun i j q => CoR.right TR ha hb q
  have R3 : Hid (∀ i, CoR ns a b i i → i = abvN ns a (comN ns a b)) := Lib.hid fun i q => CoR.stop TR ha hb q
  clear hpar hbk HT h TR
  generalize abvN ns a (comN ns a b) = C at *
  generalize CoR ns a b = R at *
  generalize parN ns = pr at *
  generalize hgtN ns = hg at *
  generalize ns.length = n at *
  have HK : Hid (Keep w w) := Lib.hid (Below.refl _ _)
  have d1 : ¬ min (a : Int) (b : Int) < 0 := by omega
  have d2 : ¬ (n : Int) ≤ max (a : Int) (b : Int) := by omega
  go_enter Tryz.func23, Tryz.ntmps23
  go_wp2_with fail
  refine (L1.out _ HK.out).mono ?_
  clear L1
  rintro e w1 ⟨rfl, k1⟩
  have HB1 := Lib.hid (HB.out.keep k1); have HK1 := Lib.hid (keep_trans HK.out k1)
  clear k1 HB HK
  go_wp2_with fail
  clear d1 d2
  go_loopw [1, 2] (fun iv_ jv wr => ∃ i j : Nat, iv_ = .int .i64 i ∧ jv = .int .i64 j ∧ Hid (R i j) ∧ w1 = wr) (fun iv_ jv _ => (intOf iv_).toNat + (intOf jv).toNat)
  case atStart => exact ⟨a, b, rfl, rfl, RS, rfl⟩
  case round =>
    obtain ⟨i, j, rfl, rfl, HR, rfl⟩ := hrel
    obtain ⟨l1, l2⟩ := RL.out i j HR.out
    have ct := HB1.out.cell 1
    simp only [List.getElem?_cons_succ, List.getElem?_cons_zero] at ct
    rcases Nat.lt_trichotomy i j with hlt | rfl | hlt
    · obtain ⟨r, p1, p2, p3⟩ := R2.out i j HR.out hlt
      obtain ⟨bb, off, rfl, hbw, hp, -⟩ := PAR.out j l2
      have hp := keep_cell HK1.out hp
      rw [p1] at hp
      have HN := Lib.hid p3
      have d1 : ((i : Int) != (j : Int)) = true := by simp; omega
      have d2 : ¬ (j : Int) < (i : Int) := by omega
      have d3 : (j : Int) < n := by omega
      clear p3 p1 HR
      go_wp2
      go_roundw
      case rel => exact ⟨i, r, rfl, rfl, HN, by first | rfl | trivial⟩
      case measure => simp [intOf]; omega
    · have hC := R3.out i HR.out
      subst hC
      have d1 : ((i : Int) != (i : Int)) = false := by simp
      clear HR PAR R3 RL R1 R2 ct
      go_wp2
      exact bodyPost_ret (v := .tuple #[iv i, .bool true]) (by simp [results, Tryz.results23]) rfl ⟨rfl, HK1.out⟩
    · obtain ⟨r, p1, p2, p3⟩ := R1.out i j HR.out hlt
      obtain ⟨bb, off, rfl, hbw, hp, -⟩ := PAR.out i l1
      have hp := keep_cell HK1.out hp
      rw [p1] at hp
      have HN := Lib.hid p3
      have d1 : ((i : Int) != (j : Int)) = true := by simp; omega
      have d2 : (j : Int) < (i : Int) := by omega
      have d3 : (i : Int) < n := by omega
      clear p3 p1 HR
      go_wp2
      go_roundw
      case rel => exact ⟨r, j, rfl, rfl, HN, by first | rfl | trivial⟩
      case measure => simp [intOf]; omega
end Go.Proofs.YtjbdboekleaklaaGreatDoor
