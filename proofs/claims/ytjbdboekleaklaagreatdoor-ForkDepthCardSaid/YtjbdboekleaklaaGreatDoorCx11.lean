/- Texts merged by pack.py: MoH, Tk, Arg, OpZ. -/
import Derived.Test.YtjbdboekleaklaaGreatDoorCx2
import Derived.Test.YtjbdboekleaklaaGreatDoorCx9
import Derived.Deep.MidRow
import Derived.Test.YtjbdboekleaklaaGreatDoorCx10
import Derived.Test.YtjbdboekleaklaaGreatDoorCx7
import Derived.ProofKit
import Derived.Deep.Slices
import Derived.Deep.Fields
import Derived.Test.YtjbdboekleaklaaGreatDoorCards
import Derived.Test.YtjbdboekleaklaaGreatDoorTie
import Derived.WalkKit
import Derived.OpenShut
import Derived.Deep.DeepHandedRow
import Derived.Lib.LaidTab
/- XMov's theory once more, where some blocks may turn. (XMoG turned by a program: gen_moh.py) -/
set_option linter.unusedSimpArgs false
set_option linter.unusedVariables false
namespace Go.Proofs.YtjbdboekleaklaaGreatDoor.H
open Go.RowKit

/-- The blocks that may turn. -/
class Mk where
  m : Nat → Prop
theorem kx_cell {X : Nat → Prop} {a b : World} (h : KeepX X a b) {g o : Nat} {v : Value} (hc : a.cell? ⟨g, o, none⟩ = some v) (hn : ¬ X g) : b.cell? ⟨g, o, none⟩ = some v := by
  have hb := h.2.2.2.2 g (cell_lt hc) hn
  rw [← hc]
  unfold World.cell?
  simp only [hb]
variable [MM : Mk]
def Gr (w w' : World) : Prop := KeepX MM.m w w'
theorem Gr.refl (w : World) : Gr w w := ⟨rfl, rfl, rfl, Nat.le_refl _, fun _ _ _ => rfl⟩
theorem Gr.drew (w : World) : Gr w { w with drawn := w.drawn + 1 } := ⟨rfl, rfl, rfl, Nat.le_refl _, fun _ _ _ => rfl⟩
theorem Gr.trans {a b c : World} (h : Gr a b) (k : Gr b c) : Gr a c := KeepX.trans h k fun _ _ q => q
theorem Gr.of_keep {a b : World} (h : Keep a b) : Gr a b := KeepX.of h
open Classical in
noncomputable def aftG (w x : World) : World := if Gr w x then x else w
theorem aftG_keep (w x : World) : Gr w (aftG w x) := by
  unfold aftG; split
  · assumption
  · exact Gr.refl _
theorem aftG_of {w w' : World} (h : Gr w w') : w' = aftG w w' := by unfold aftG; rw [if_pos h]
theorem aftG_cell {w : World} {b o : Nat} {v : Value} (h : w.cell? ⟨b, o, none⟩ = some v) (hne : ¬ MM.m b) : ∀ x, (aftG w x).cell? ⟨b, o, none⟩ = some v := fun x => kx_cell (aftG_keep w x) h hne
theorem aftG_blk {w : World} {g : Nat} {t : TypeId} {cs : List Value} (h : Blk w g t cs) (hne : ¬ MM.m g) (x : World) : Blk (aftG w x) g t cs := h.kx (aftG_keep w x) hne

section
variable {P : Program} {ops : Array Oper} {Q : Exit → Act → World → Prop} {tl : List Nat}

/-- Whatever order is picked; behind one that is not among 'tl' nothing that was there has turned. -/
def wpAnyK (P : Program) (ops : Array Oper) (Q : Exit → Act → World → Prop) (tl : List Nat) : Nat → Array Bool → Act → World → Prop
  | 0, listed, a, w => Region.ready .any ops listed = [] ∧ Q .normal a w
  | n + 1, listed, a, w => (Region.ready .any ops listed = [] → Q .normal a w) ∧
    ∀ i ∈ Region.ready .any ops listed, wpOp P ops Q i (fun a' w' => (i ∉ tl → Gr w w') ∧ wpAnyK P ops Q tl n (listed.setIfInBounds i true) a' w') a w
theorem wpAny_of_K : ∀ (n : Nat) (listed : Array Bool) (a : Act) (w : World), wpAnyK P ops Q tl n listed a w → wpAny P .any ops Q n listed a w
  | 0, _, _, _, h => h
  | n + 1, _, _, _, h => ⟨h.1, fun i hi => wpOp_mono (fun a' w' h' => wpAny_of_K n _ a' w' h'.2) (h.2 i hi)⟩

theorem wpAnyK_first (hs : Region.noSelect ops = true) {i : Nat} {oi : Oper} {v : Value} (hi : ops[i]? = some oi) (hQ : ∀ c a w, Q (.panic c) (a.put oi.dst v) w → Q (.panic c) a w)
    {S : World → Prop} (hk : ∀ w w', S w → Gr w w' → S w') (hr : (∀ j ∈ tl, reachB ops j i = true) ∨ ∀ w, S w) : ∀ (fuel : Nat) (listed : Array Bool) (a : Act) (w : World), Closed ops listed →
      (∀ j oj, ops[j]? = some oj → j ≠ i → listed.getD j true = false → (∀ e ∈ oj.after, Region.binds .any e = true → e.on ≠ i) → oi.apart ops oj = true) →
      i ∈ Region.ready .any ops listed → YieldsIf P ops S oi v a → S w →
      wpAnyK P ops Q tl fuel (listed.setIfInBounds i true) (a.put oi.dst v) w → wpAnyK P ops Q tl (fuel + 1) listed a w := by
  intro fuel
  have hsel := fun j o cs b (h : ops[j]? = some o) => Region.noSelect_spec hs j o cs b h
  induction fuel with
  | zero =>
    intro listed a w _ _ hri hy hS H
    refine ⟨fun h => absurd hri (by rw [h]; simp), fun j hj => ?_⟩
    by_cases hji : j = i
    · subst hji; exact hy.wpOp hi hS ⟨fun _ => Gr.refl _, H⟩
    · have := ready_mono hj hji
      rw [H.1] at this
      cases this
  | succ fuel ih =>
    intro listed a w hc hfree hri hy hS H
    refine ⟨fun h => absurd hri (by rw [h]; simp), fun j hj => ?_⟩
    by_cases hji : j = i
    · subst hji; exact hy.wpOp hi hS ⟨fun _ => Gr.refl _, H⟩
    · have h1 := H.2 j (ready_mono hj hji)
      obtain ⟨hjun, oj, hoj, hall⟩ := mem_ready.1 hj
      have hiun := (mem_ready.1 hri).1
      have hnot : ∀ e ∈ oj.after, Region.binds .any e = true → e.on ≠ i := fun e he hb heq => by
        have h1 := hall e he hb
        rw [heq, getD_tf hiun] at h1
        cases h1
      have hjt : j ∉ tl ∨ ∀ w, S w := hr.imp (fun hr hjt => by
        have := reach_listed hc j i (fun k hk => ready_waits hj hk) (hr j hjt)
        rw [getD_tf hiun] at this
        cases this) id
      have h2 := wpOp_putIf hoj (hfree j oj hoj hji hjun hnot) (fun cs b => hsel i oi cs b hi) (fun cs b => hsel j oj cs b hoj) hQ hy h1
      have hfree' : ∀ k ok, ops[k]? = some ok → k ≠ i → (listed.setIfInBounds j true).getD k true = false →
          (∀ e ∈ ok.after, Region.binds .any e = true → e.on ≠ i) → oi.apart ops ok = true := fun k ok hk hki hun hno => by
        refine hfree k ok hk hki ?_ hno
        by_cases hjk : j = k
        · subst hjk; exact hjun
        · rw [getD_set_ne true hjk] at hun; exact hun
      refine wpOp_mono (fun a' w' h3 => ⟨fun hn => h3.2.1 hn, ih (listed.setIfInBounds j true) a' w' (hc.set_ hj) hfree' (ready_mono hri (Ne.symm hji)) h3.1 (hjt.elim (fun hn => hk _ _ hS (h3.2.1 hn)) (fun h => h _)) ?_⟩) h2
      rw [Array.setIfInBounds_comm _ _ hji]
      exact h3.2.2

/-- Such as look at no world. -/
def freeB (o : Oper) : Bool :=
  match o.op with
  | .move _ | .assign _ | .extract .. => true
  | _ => false

/-- The moves: (true, those taken first), (false, those forced). -/
def takesB (ops : Array Oper) (tl : List Nat) : List Nat → Array Bool → Bool
  | [], _ => true
  | i :: l, listed => (Region.ready .any ops listed).contains i && Region.free .any ops listed i && (match ops[i]? with | some o => plainB o | none => false) && ((match ops[i]? with | some o => freeB o | none => false) || tl.all fun j => reachB ops j i) && takesB ops tl l (listed.setIfInBounds i true)
def forceB (ops : Array Oper) : List Nat → Array Bool → Bool
  | [], _ => true
  | i :: l, listed => decide (Region.ready .any ops listed = [i]) && forceB ops l (listed.setIfInBounds i true)
def movesB (ops : Array Oper) (tl : List Nat) : List (Bool × List Nat) → Array Bool → Bool
  | [], listed => forceB ops tl listed && decide (Region.ready .any ops (setAll listed tl) = [])
  | (true, l) :: r, listed => (l.all (· < ops.size)) && takesB ops tl l listed && movesB ops tl r (setAll listed l)
  | (false, l) :: r, listed => (l.all (· < ops.size)) && forceB ops l listed && movesB ops tl r (setAll listed l)

def wpForce (P : Program) (ops : Array Oper) (Q : Exit → Act → World → Prop) (N : Act → World → Prop) : List Oper → Act → World → Prop
  | [], a, w => N a w
  | o :: l, a, w => if Region.wanted o (yielded ops a.tmps) then (∀ K : Act → World → Prop, (∀ a' w', Gr w w' → wpForce P ops Q N l a' w' → K a' w') → o.wp P a w K Q) else wpForce P ops Q N l (a.put o.dst undef) w
def wpMoves (P : Program) (ops : Array Oper) (Q : Exit → Act → World → Prop) (T : List Oper) : List (Bool × List Oper) → Act → World → Prop
  | [], a, w => wpList P ops Q T a w
  | (true, l) :: r, a, w => ∃ w0, Gr w0 w ∧ wpQuiet P ops (fun w' => ∃ x, w' = aftG w0 x) (fun a' => wpMoves P ops Q T r a' w) l a
  | (false, l) :: r, a, w => wpForce P ops Q (wpMoves P ops Q T r) l a w


theorem wpAnyK_tail (t0 : List Nat) : ∀ (t : List Nat) (T : List Oper) (listed : Array Bool) (a : Act) (w : World), (∀ i ∈ t, i ∈ t0) → forceB ops t listed = true → Region.ready .any ops (setAll listed t) = [] →
    (∀ (k : Nat), T[k]? = (t[k]?).bind (fun (i : Nat) => ops[i]?)) → wpList P ops Q T a w → wpAnyK P ops Q t0 t.length listed a w
  | [], T, listed, a, w, _, _, he, hT, hw => by
    have : T = [] := by cases T with
      | nil => rfl
      | cons x T => have := hT 0; simp at this
    subst this
    exact ⟨he, hw⟩
  | t :: l, T, listed, a, w, h0, hB, he, hT, hw => by
    simp only [forceB, Bool.and_eq_true, decide_eq_true_eq] at hB
    refine ⟨fun h0 => (by rw [hB.1] at h0; cases h0), fun i hi => ?_⟩
    rw [hB.1] at hi
    obtain rfl : i = t := by simpa using hi
    have hlt : i < ops.size := by
      have hr : i ∈ Region.ready .any ops listed := by rw [hB.1]; simp
      obtain ⟨o, ho, _⟩ := (mem_ready.1 hr).2
      exact (Array.getElem?_eq_some_iff.1 ho).1
    cases T with
    | nil => have := hT 0; simp [hlt] at this
    | cons o T =>
      have ho : ops[i]? = some o := by have := hT 0; simpa using this.symm
      have hw' : wpOp P ops Q i (wpList P ops Q T) a w := by unfold wpOp; simp only [ho]; exact hw
      exact wpOp_mono (fun a' w' h' => ⟨fun hn => absurd (h0 i (by simp)) hn, wpAnyK_tail t0 l T _ a' w' (fun j hj => h0 j (by simp [hj])) hB.2 he (fun k => by have := hT (k + 1); simpa using this) h'⟩) hw'

theorem wpAnyK_force (g : Nat) {N : Act → World → Prop} : ∀ (l : List Nat) (L : List Oper) (listed : Array Bool) (a : Act) (w : World), Closed ops listed → forceB ops l listed = true →
    (∀ (k : Nat), L[k]? = (l[k]?).bind (fun (i : Nat) => ops[i]?)) → (∀ a w, Closed ops (setAll listed l) → N a w → wpAnyK P ops Q tl g (setAll listed l) a w) → wpForce P ops Q N L a w → wpAnyK P ops Q tl (g + l.length) listed a w
  | [], L, listed, a, w, hc, _, hL, hN, h => by
    have : L = [] := by cases L with
      | nil => rfl
      | cons x T => have := hL 0; simp at this
    subst this
    exact hN a w hc h
  | t :: l, L, listed, a, w, hc, hB, hL, hN, h => by
    simp only [forceB, Bool.and_eq_true, decide_eq_true_eq] at hB
    refine ⟨fun h0 => (by rw [hB.1] at h0; cases h0), fun i hi => ?_⟩
    have hi' := hi
    rw [hB.1] at hi
    obtain rfl : i = t := by simpa using hi
    have hlt : i < ops.size := by
      obtain ⟨o, ho, _⟩ := (mem_ready.1 hi').2
      exact (Array.getElem?_eq_some_iff.1 ho).1
    cases L with
    | nil => have := hL 0; simp [hlt] at this
    | cons o L =>
      have ho : ops[i]? = some o := by have := hL 0; simpa using this.symm
      have go := fun (a' : Act) (w' : World) (h' : wpForce P ops Q N L a' w') => wpAnyK_force g l L (listed.setIfInBounds i true) a' w' (hc.set_ hi') hB.2 (fun k => by have := hL (k + 1); simpa using this) hN h'
      unfold wpOp
      simp only [ho]
      unfold wpForce at h
      split at h
      · rename_i hwt
        rw [if_pos hwt]
        exact .inl (h _ fun a' w' hk h' => ⟨fun _ => hk, go a' w' h'⟩)
      · rename_i hwt
        rw [if_neg hwt]
        exact ⟨fun _ => Gr.refl _, go _ _ h⟩

theorem wpAnyK_takes (hs : Region.noSelect ops = true) (hQ : ∀ c a x v w, Q (.panic c) (a.put x v) w → Q (.panic c) a w) (g : Nat) (w w0 : World) (hw : Gr w0 w) : ∀ (l : List Nat) (L : List Oper) (listed : Array Bool) (a : Act), Closed ops listed → takesB ops tl l listed = true →
    (∀ (k : Nat), L[k]? = (l[k]?).bind (fun (i : Nat) => ops[i]?)) → wpQuiet P ops (fun w' => ∃ x, w' = aftG w0 x) (fun a' => Closed ops (setAll listed l) → wpAnyK P ops Q tl g (setAll listed l) a' w) L a → wpAnyK P ops Q tl (g + l.length) listed a w
  | [], L, listed, a, hc, _, hL, h => by
    have : L = [] := by cases L with
      | nil => rfl
      | cons x T => have := hL 0; simp at this
    subst this
    exact h hc
  | i :: l, L, listed, a, hc, hB, hL, h => by
    simp only [takesB, Bool.and_eq_true] at hB
    obtain ⟨⟨⟨⟨hr, hf⟩, hpl⟩, hre⟩, hB⟩ := hB
    have hr' : i ∈ Region.ready .any ops listed := by simpa using hr
    have hi : i < ops.size := by
      obtain ⟨o, ho, _⟩ := (mem_ready.1 hr').2
      exact (Array.getElem?_eq_some_iff.1 ho).1
    cases L with
    | nil => have := hL 0; simp [hi] at this
    | cons o L =>
      have ho : ops[i]? = some o := by have := hL 0; simpa using this.symm
      rw [ho] at hpl
      have h1 : qOp P ops (fun w' => ∃ x, w' = aftG w0 x) i (wpQuiet P ops (fun w' => ∃ x, w' = aftG w0 x) (fun a' => Closed ops (setAll listed (i :: l)) → wpAnyK P ops Q tl g (setAll listed (i :: l)) a' w) L) a := by unfold qOp; simp only [ho]; exact h
      obtain ⟨v, hy, h⟩ := yieldsIn_of_qOp ho h1
      have hy' : YieldsIf P ops (fun w' => Gr w0 w') o v a := by
        rcases hy with ⟨h2, h3⟩ | h2
        · exact .inl ⟨h2, fun w hw => plain_run hpl (h3 w ⟨_, aftG_of hw⟩)⟩
        · exact .inr h2
      have := wpAnyK_takes hs hQ g w w0 hw l L (listed.setIfInBounds i true) (a.put o.dst v) (hc.set_ hr') hB (fun k => by have := hL (k + 1); simpa using this) h
      rw [ho, Bool.or_eq_true] at hre
      rcases hre with hre | hre
      · have hy2 : YieldsIf P ops (fun _ => True) o v a := by
          rcases hy' with ⟨h2, h3⟩ | h2
          · exact .inl ⟨h2, fun w' _ => free_run hre (h3 w hw) w'⟩
          · exact .inr h2
        exact wpAnyK_first hs ho (fun c a w => hQ c a _ _ w) (fun _ _ _ _ => trivial) (.inr fun _ => trivial) _ listed a w hc (Region.free_spec ho hf) hr' hy2 trivial this
      · exact wpAnyK_first hs ho (fun c a w => hQ c a _ _ w) (fun _ _ h1 h2 => Gr.trans h1 h2) (.inl fun j hj => List.all_eq_true.1 hre j hj) _ listed a w hc (Region.free_spec ho hf) hr' hy' hw this

def total : List (Bool × List Nat) → Nat
  | [] => 0
  | (_, l) :: r => total r + l.length


theorem moves_sound {l0 : List Oper} (hs : Region.noSelect l0.toArray = true) (hQ : ∀ c a x v w, Q (.panic c) (a.put x v) w → Q (.panic c) a w) (htl : ∀ i ∈ tl, i < l0.length) : ∀ (mv : List (Bool × List Nat)) (listed : Array Bool) (a : Act) (w : World), Closed l0.toArray listed → movesB l0.toArray tl mv listed = true →
    wpMoves P l0.toArray Q (pick l0 tl) (mv.map fun m => (m.1, pick l0 m.2)) a w → wpAnyK P l0.toArray Q tl (total mv + tl.length) listed a w
  | [], listed, a, w, hc, hB, h => by
    simp only [movesB, Bool.and_eq_true, decide_eq_true_eq] at hB
    rw [total, Nat.zero_add]
    exact wpAnyK_tail tl tl (pick l0 tl) listed a w (fun _ h => h) hB.1 hB.2 (filter_get tl htl).2 h
  | (true, l) :: r, listed, a, w, hc, hB, h => by
    simp only [movesB, Bool.and_eq_true] at hB
    obtain ⟨⟨hin, htk⟩, hB⟩ := hB
    obtain ⟨w0, hw0, hq⟩ := h
    have hl : ∀ i ∈ l, i < l0.length := fun i hi => by simpa using List.all_eq_true.1 hin i hi
    rw [show total ((true, l) :: r) + tl.length = (total r + tl.length) + l.length by show total r + l.length + tl.length = _; omega]
    exact wpAnyK_takes hs hQ _ w w0 hw0 l (pick l0 l) listed a hc htk (filter_get l hl).2 (quiet_mono' (fun a' h' hc' => moves_sound hs hQ htl r _ a' w hc' hB h') _ _ hq)
  | (false, l) :: r, listed, a, w, hc, hB, h => by
    simp only [movesB, Bool.and_eq_true] at hB
    obtain ⟨⟨hin, hfo⟩, hB⟩ := hB
    have hl : ∀ i ∈ l, i < l0.length := fun i hi => by simpa using List.all_eq_true.1 hin i hi
    rw [show total ((false, l) :: r) + tl.length = (total r + tl.length) + l.length by show total r + l.length + tl.length = _; omega]
    exact wpAnyK_force _ l (pick l0 l) listed a w hc hfo (filter_get l hl).2 (fun a' w' hc' h' => moves_sound hs hQ htl r _ a' w' hc' hB h') h
end

def mvB (ops : Array Oper) (mv : List (Bool × List Nat)) (tl : List Nat) : Bool :=
  Region.noSelect ops && (tl.all (· < ops.size)) && decide (total mv + tl.length = ops.size) && movesB ops tl mv (Array.replicate ops.size false)

/-- mv: the moves; tl: what stands behind them, in a row (it may turn what was there). Nothing panics. -/
theorem wp_region_moves {P : Program} {id : Nat} {Q : Exit → Act → World → Prop} {a : Act} {w : World} {l : List Oper} (mv : List (Bool × List Nat)) (tl : List Nat) (hm : P.follows .mixedOrders = true) (hB : mvB l.toArray mv tl = true)
    (h : ∀ w1, Keep w w1 → wpMoves P l.toArray (Exit.then (fun a w => Q .normal a w) (fun _ _ _ => False)) (pick l tl) (mv.map fun m => (m.1, pick l m.2)) a w1) : (Code.region id l.toArray true).wp P Q a w := by
  simp only [mvB, Bool.and_eq_true, decide_eq_true_eq] at hB
  obtain ⟨⟨⟨hs, htl⟩, hlen⟩, hB⟩ := hB
  refine wp_mono (Q := Exit.then (fun a w => Q .normal a w) (fun _ _ _ => False)) (wp_region_any hm ?_) fun e a w h => by
    cases e with
    | normal => exact h
    | _ => exact False.elim h
  have := moves_sound (P := P) (Q := Exit.then (fun a w => Q .normal a w) (fun _ _ _ => False)) hs (fun _ _ _ _ _ h => h) (fun i hi => by simpa using List.all_eq_true.1 htl i hi) mv _ a { w with drawn := w.drawn + 1 } (closed_none _ _) hB (h _ (((Below.refl _ _).drew)))
  rw [hlen] at this
  exact wpAny_of_K _ _ _ _ this

section
variable {P : Program} {ops : Array Oper} {Q : Exit → Act → World → Prop} {T l : List Oper} {r : List (Bool × List Oper)} {o : Oper} {a : Act} {w : World} {N : Act → World → Prop}
/-- A row of such as are taken first: in a world w0 that lies behind them. -/
theorem mv_take (w0 : World) (hw : Gr w0 w) (h : wpQuiet P ops (fun w' => ∃ x, w' = aftG w0 x) (fun a' => wpMoves P ops Q T r a' w) l a) : wpMoves P ops Q T ((true, l) :: r) a w := ⟨w0, hw, h⟩
theorem mv_force (h : wpForce P ops Q (wpMoves P ops Q T r) l a w) : wpMoves P ops Q T ((false, l) :: r) a w := h
theorem mv_end (h : wpList P ops Q T a w) : wpMoves P ops Q T [] a w := h
theorem fc_nil (h : N a w) : wpForce P ops Q N [] a w := h
theorem fc_step (hw : Region.wanted o (yielded ops a.tmps) = true) (h : ∀ K : Act → World → Prop, (∀ a' w', Gr w w' → wpForce P ops Q N l a' w' → K a' w') → o.wp P a w K Q) : wpForce P ops Q N (o :: l) a w := by
  unfold wpForce; rw [if_pos hw]; exact h
theorem fc_skip (hw : Region.wanted o (yielded ops a.tmps) = false) (h : wpForce P ops Q N l (a.put o.dst undef) w) : wpForce P ops Q N (o :: l) a w := by
  unfold wpForce; rw [if_neg (by rw [hw]; exact Bool.false_ne_true)]; exact h
end

/-! The same with forks: two may come up, the one ahead of the other. -/
inductive Mv where
  | done
  | take (l : List Nat) (r : Mv)
  | force (l : List Nat) (r : Mv)
  | fork (i : Nat) (ri : Mv) (j : Nat) (rj : Mv)
  | fork3 (i : Nat) (ri : Mv) (j : Nat) (rj : Mv) (k : Nat) (rk : Mv)
def Mv.total : Mv → Nat
  | .done => 0
  | .take l r => r.total + l.length
  | .force l r => r.total + l.length
  | .fork _ ri _ _ => ri.total + 1
  | .fork3 _ ri _ _ _ _ => ri.total + 1
def Mv.okB (ops : Array Oper) (tl : List Nat) : Mv → Array Bool → Bool
  | .done, listed => forceB ops tl listed && decide (Region.ready .any ops (setAll listed tl) = [])
  | .take l r, listed => (l.all (· < ops.size)) && takesB ops tl l listed && r.okB ops tl (setAll listed l)
  | .force l r, listed => (l.all (· < ops.size)) && forceB ops l listed && r.okB ops tl (setAll listed l)
  | .fork i ri j rj, listed => decide (i < ops.size) && decide (j < ops.size) && decide (Region.ready .any ops listed = [i, j]) && decide (ri.total = rj.total) && ri.okB ops tl (listed.setIfInBounds i true) && rj.okB ops tl (listed.setIfInBounds j true)
  | .fork3 i ri j rj k rk, listed => decide (i < ops.size) && decide (j < ops.size) && decide (k < ops.size) && decide (Region.ready .any ops listed = [i, j, k]) && decide (ri.total = rj.total) && decide (ri.total = rk.total) && ri.okB ops tl (listed.setIfInBounds i true) && rj.okB ops tl (listed.setIfInBounds j true) && rk.okB ops tl (listed.setIfInBounds k true)
def Mv.wp (P : Program) (l0 : List Oper) (Q : Exit → Act → World → Prop) (T : List Oper) : Mv → Act → World → Prop
  | .done, a, w => wpList P l0.toArray Q T a w
  | .take l r, a, w => ∃ w0, Gr w0 w ∧ wpQuiet P l0.toArray (fun w' => ∃ x, w' = aftG w0 x) (fun a' => r.wp P l0 Q T a' w) (pick l0 l) a
  | .force l r, a, w => wpForce P l0.toArray Q (r.wp P l0 Q T) (pick l0 l) a w
  | .fork i ri j rj, a, w => wpForce P l0.toArray Q (ri.wp P l0 Q T) [nth l0 i] a w ∧ wpForce P l0.toArray Q (rj.wp P l0 Q T) [nth l0 j] a w
  | .fork3 i ri j rj k rk, a, w => wpForce P l0.toArray Q (ri.wp P l0 Q T) [nth l0 i] a w ∧ wpForce P l0.toArray Q (rj.wp P l0 Q T) [nth l0 j] a w ∧ wpForce P l0.toArray Q (rk.wp P l0 Q T) [nth l0 k] a w

section
variable {P : Program} {Q : Exit → Act → World → Prop} {tl : List Nat} {l0 : List Oper}
theorem one_force {ops : Array Oper} {N : Act → World → Prop} {i : Nat} {o : Oper} (ho : ops[i]? = some o) {listed : Array Bool} {a : Act} {w : World} {g : Nat} (hN : ∀ a w, N a w → wpAnyK P ops Q tl g (listed.setIfInBounds i true) a w)
    (h : wpForce P ops Q N [o] a w) : wpOp P ops Q i (fun a' w' => (i ∉ tl → Gr w w') ∧ wpAnyK P ops Q tl g (listed.setIfInBounds i true) a' w') a w := by
  unfold wpOp
  simp only [ho]
  unfold wpForce at h
  split at h
  · rename_i hwt
    rw [if_pos hwt]
    exact .inl (h _ fun a' w' hk h' => ⟨fun _ => hk, hN _ _ h'⟩)
  · rename_i hwt
    rw [if_neg hwt]
    exact ⟨fun _ => Gr.refl _, hN _ _ h⟩

theorem Mv.sound (hs : Region.noSelect l0.toArray = true) (hQ : ∀ c a x v w, Q (.panic c) (a.put x v) w → Q (.panic c) a w) (htl : ∀ i ∈ tl, i < l0.length) : ∀ (mv : Mv) (listed : Array Bool) (a : Act) (w : World), Closed l0.toArray listed → mv.okB l0.toArray tl listed = true →
    mv.wp P l0 Q (pick l0 tl) a w → wpAnyK P l0.toArray Q tl (mv.total + tl.length) listed a w
  | .done, listed, a, w, hc, hB, h => by
    simp only [Mv.okB, Bool.and_eq_true, decide_eq_true_eq] at hB
    rw [Mv.total, Nat.zero_add]
    exact wpAnyK_tail tl tl (pick l0 tl) listed a w (fun _ h => h) hB.1 hB.2 (filter_get tl htl).2 h
  | .take l r, listed, a, w, hc, hB, h => by
    simp only [Mv.okB, Bool.and_eq_true] at hB
    obtain ⟨⟨hin, htk⟩, hB⟩ := hB
    obtain ⟨w0, hw0, hq⟩ := h
    have hl : ∀ i ∈ l, i < l0.length := fun i hi => by simpa using List.all_eq_true.1 hin i hi
    rw [show (Mv.take l r).total + tl.length = (r.total + tl.length) + l.length by show r.total + l.length + tl.length = _; omega]
    exact wpAnyK_takes hs hQ _ w w0 hw0 l (pick l0 l) listed a hc htk (filter_get l hl).2 (quiet_mono' (fun a' h' hc' => Mv.sound hs hQ htl r _ a' w hc' hB h') _ _ hq)
  | .force l r, listed, a, w, hc, hB, h => by
    simp only [Mv.okB, Bool.and_eq_true] at hB
    obtain ⟨⟨hin, hfo⟩, hB⟩ := hB
    have hl : ∀ i ∈ l, i < l0.length := fun i hi => by simpa using List.all_eq_true.1 hin i hi
    rw [show (Mv.force l r).total + tl.length = (r.total + tl.length) + l.length by show r.total + l.length + tl.length = _; omega]
    exact wpAnyK_force _ l (pick l0 l) listed a w hc hfo (filter_get l hl).2 (fun a' w' hc' h' => Mv.sound hs hQ htl r _ a' w' hc' hB h') h
  | .fork i ri j rj, listed, a, w, hc, hB, h => by
    simp only [Mv.okB, Bool.and_eq_true, decide_eq_true_eq] at hB
    obtain ⟨⟨⟨⟨⟨hi, hj⟩, hr⟩, ht⟩, hBi⟩, hBj⟩ := hB
    obtain ⟨h1, h2⟩ := h
    have hoi : l0.toArray[i]? = some (nth l0 i) := by simp at hi ⊢; simp [nth, hi]
    have hoj : l0.toArray[j]? = some (nth l0 j) := by simp at hj ⊢; simp [nth, hj]
    have hri : i ∈ Region.ready .any l0.toArray listed := by rw [hr]; simp
    have hrj : j ∈ Region.ready .any l0.toArray listed := by rw [hr]; simp
    rw [show (Mv.fork i ri j rj).total + tl.length = (ri.total + tl.length) + 1 by show ri.total + 1 + tl.length = _; omega]
    refine ⟨fun h0 => (by rw [hr] at h0; cases h0), fun k hk => ?_⟩
    rw [hr] at hk
    have hk' : k = i ∨ k = j := by simpa using hk
    by_cases hki : k = i
    · subst hki
      exact one_force hoi (fun a' w' h' => Mv.sound hs hQ htl ri _ a' w' (hc.set_ hri) hBi h') h1
    · obtain rfl : k = j := hk'.resolve_left hki
      rw [ht]
      exact one_force hoj (fun a' w' h' => Mv.sound hs hQ htl rj _ a' w' (hc.set_ hrj) hBj h') h2
  | .fork3 i ri j rj k rk, listed, a, w, hc, hB, h => by
    simp only [Mv.okB, Bool.and_eq_true, decide_eq_true_eq] at hB
    obtain ⟨⟨⟨⟨⟨⟨⟨⟨hi, hj⟩, hk⟩, hr⟩, ht⟩, ht2⟩, hBi⟩, hBj⟩, hBk⟩ := hB
    obtain ⟨h1, h2, h3⟩ := h
    have hoi : l0.toArray[i]? = some (nth l0 i) := by simp at hi ⊢; simp [nth, hi]
    have hoj : l0.toArray[j]? = some (nth l0 j) := by simp at hj ⊢; simp [nth, hj]
    have hok : l0.toArray[k]? = some (nth l0 k) := by simp at hk ⊢; simp [nth, hk]
    have hri : i ∈ Region.ready .any l0.toArray listed := by rw [hr]; simp
    have hrj : j ∈ Region.ready .any l0.toArray listed := by rw [hr]; simp
    have hrk : k ∈ Region.ready .any l0.toArray listed := by rw [hr]; simp
    rw [show (Mv.fork3 i ri j rj k rk).total + tl.length = (ri.total + tl.length) + 1 by show ri.total + 1 + tl.length = _; omega]
    refine ⟨fun h0 => (by rw [hr] at h0; cases h0), fun m hm => ?_⟩
    rw [hr] at hm
    have hm' : m = i ∨ m = j ∨ m = k := by simpa using hm
    by_cases hmi : m = i
    · subst hmi
      exact one_force hoi (fun a' w' h' => Mv.sound hs hQ htl ri _ a' w' (hc.set_ hri) hBi h') h1
    · by_cases hmj : m = j
      · subst hmj
        rw [ht]
        exact one_force hoj (fun a' w' h' => Mv.sound hs hQ htl rj _ a' w' (hc.set_ hrj) hBj h') h2
      · obtain rfl : m = k := (hm'.resolve_left hmi).resolve_left hmj
        rw [ht2]
        exact one_force hok (fun a' w' h' => Mv.sound hs hQ htl rk _ a' w' (hc.set_ hrk) hBk h') h3
end

def mtB (ops : Array Oper) (mv : Mv) (tl : List Nat) : Bool :=
  Region.noSelect ops && (tl.all (· < ops.size)) && decide (mv.total + tl.length = ops.size) && mv.okB ops tl (Array.replicate ops.size false)
theorem wp_region_tree {P : Program} {id : Nat} {Q : Exit → Act → World → Prop} {a : Act} {w : World} {l : List Oper} (mv : Mv) (tl : List Nat) (hm : P.follows .mixedOrders = true) (hB : mtB l.toArray mv tl = true)
    (h : ∀ w1, Keep w w1 → mv.wp P l (Exit.then (fun a w => Q .normal a w) (fun _ _ _ => False)) (pick l tl) a w1) : (Code.region id l.toArray true).wp P Q a w := by
  simp only [mtB, Bool.and_eq_true, decide_eq_true_eq] at hB
  obtain ⟨⟨⟨hs, htl⟩, hlen⟩, hB⟩ := hB
  refine wp_mono (Q := Exit.then (fun a w => Q .normal a w) (fun _ _ _ => False)) (wp_region_any hm ?_) fun e a w h => by
    cases e with
    | normal => exact h
    | _ => exact False.elim h
  have := Mv.sound (P := P) (Q := Exit.then (fun a w => Q .normal a w) (fun _ _ _ => False)) hs (fun _ _ _ _ _ h => h) (fun i hi => by simpa using List.all_eq_true.1 htl i hi) mv _ a { w with drawn := w.drawn + 1 } (closed_none _ _) hB (h _ (((Below.refl _ _).drew)))
  rw [hlen] at this
  exact wpAny_of_K _ _ _ _ this
section
variable {P : Program} {l0 T : List Oper} {Q : Exit → Act → World → Prop} {a : Act} {w : World} {l : List Nat} {r ri rj rk : Mv} {i j k : Nat}
theorem mt_take (w0 : World) (hw : Gr w0 w) (h : wpQuiet P l0.toArray (fun w' => ∃ x, w' = aftG w0 x) (fun a' => r.wp P l0 Q T a' w) (pick l0 l) a) : (Mv.take l r).wp P l0 Q T a w := ⟨w0, hw, h⟩
theorem mt_force (h : wpForce P l0.toArray Q (r.wp P l0 Q T) (pick l0 l) a w) : (Mv.force l r).wp P l0 Q T a w := h
theorem mt_fork (h1 : wpForce P l0.toArray Q (ri.wp P l0 Q T) [nth l0 i] a w) (h2 : wpForce P l0.toArray Q (rj.wp P l0 Q T) [nth l0 j] a w) : (Mv.fork i ri j rj).wp P l0 Q T a w := ⟨h1, h2⟩
theorem mt_fork3 (h1 : wpForce P l0.toArray Q (ri.wp P l0 Q T) [nth l0 i] a w) (h2 : wpForce P l0.toArray Q (rj.wp P l0 Q T) [nth l0 j] a w) (h3 : wpForce P l0.toArray Q (rk.wp P l0 Q T) [nth l0 k] a w) : (Mv.fork3 i ri j rj k rk).wp P l0 Q T a w := ⟨h1, h2, h3⟩
theorem mt_end (h : wpList P l0.toArray Q T a w) : Mv.done.wp P l0 Q T a w := h
end

/-- A whole variable loaded, in a region that draws its order. -/
theorem wpQuiet_load_arrG {P : Program} {w0 : World} {ops : Array Oper} {rest : List Oper} {a : Act} {Q : Act → Prop} {x : Operand} {dst : Option Tmp} {ty ty' t : TypeId} {pos : String} {af : Array Edge}
    (g : Nat) (cs : Array Value) (hx : a.eval x = .pointer (some ⟨g, 0, none⟩)) (hb : Blk w0 g t cs.toList) (hne : ¬ MM.m g) (d : TypeDesc) (hu : P.underlying ty = some d) (hd : d.isRow = true) (hi : (P.info? ty).map (·.size) = some cs.size)
    (h : wpQuiet P ops (fun w' => ∃ x, w' = aftG w0 x) Q rest (a.put dst (.agg cs))) :
    wpQuiet P ops (fun w' => ∃ x, w' = aftG w0 x) Q ({ dst := dst, op := .load ty x, type := ty', pos := pos, after := af, guard := none } :: rest) a := by
  refine BigFrame.wpQuiet_want (by simp [Region.wanted]) fun K hK => ⟨.agg cs, fun w hw => ?_, hK _ h⟩
  obtain ⟨y, rfl⟩ := hw
  have hb2 := aftG_blk hb hne y
  unfold Oper.quietAt execOp
  have hl := run_loadVar_mid (P := P) (aftG w0 y) g 0 ty cs.toList d (fun j v hv => by rw [Nat.zero_add, hb2.cell]; exact hv) hu hd (by simpa using hi)
  simp only [hx, Instr.loadAt, Instr.sureAddr, Sem.run_bind, Sem.run_pure, Result.andThen_ok, hl, Array.toArray_toList]
  exact ⟨rfl, rfl⟩
end Go.Proofs.YtjbdboekleaklaaGreatDoor.H

/- florinlaw17's example walked. (printed by gen_tk17.py) -/
set_option linter.unusedSimpArgs false
set_option linter.unusedVariables false
namespace Go.Proofs.YtjbdboekleaklaaGreatDoor
open Go.RowKit
attribute [local go_sem ↓] Go.wp_at_zero Go.wp_at_succ

theorem ruF_B : Tryz.prog.built 64 [(0, .int .u32 545259519), (1, .int .i64 9), (2, .int .i64 90), (3, .int .i64 10)] = some #[u32v 545259519, iv 9, iv 90, iv 10, iv 0, iv 0, .slice none 0 0] := by kernel_rfl
theorem parF_info : (Tryz.prog.info? 64).map (·.size) = some 7 := by kernel_rfl
set_option maxRecDepth 100000 in
theorem ruleF_any (w : World) : Calls Tryz.prog 27 #[] w fun e w' => e = .returned (parV fkR none 0) ∧ Keep w w' := by
  have hB := ruF_B
  go_enter Tryz.func27, Tryz.ntmps27
  go_wp2
  exact bodyPost_ret (v := parV fkR none 0) (results_cell_row Tryz.results27 _ _ w.heap.size _ _ _ _ rfl (heap_alloc_new w _) Tryz.underlying64 rfl parF_info) rfl ⟨rfl, keep_new _ _⟩
theorem fkA_built : Tryz.prog.built 39 [(4, .int .u32 545259519)] = some fkA.cells.toArray := by kernel_rfl
set_option maxRecDepth 100000 in
theorem mkF_built (l : List UInt8) (ds : Array Value) (hl : l.length = 32) (hd : HashA l ds) : Tryz.prog.built 39 [(1, .agg ds), (3, .int .u32 1), (4, .int .u32 545259519)] = some (mkF l 0).cells.toArray := by
  obtain rfl := hd.e
  obtain ⟨a0, a1, a2, a3, a4, a5, a6, a7, a8, a9, b0, b1, b2, b3, b4, b5, b6, b7, b8, b9, c0, c1, c2, c3, c4, c5, c6, c7, c8, c9, d0, d1, rfl⟩ := list32b hl
  show _ = _
  kernel_rfl

set_option maxRecDepth 100000 in
set_option maxHeartbeats 8000000 in
theorem awake_any (w : World) (hS : ShaOk w) : Calls Tryz.prog 8 #[] w fun e w' => e = .returned (.bool true) ∧ Keep w w' := by
  obtain ⟨av, hav, have_⟩ : ∃ av, HdA fkA av ∧ fkA.cells.toArray = av := ⟨_, HdA.of fkA_ok, rfl⟩
  obtain ⟨W0, hW0⟩ := acc_first fkR fkA 5 (fk_b _)
  have hne := fk_ne
  obtain ⟨hmine1, hmine2⟩ := fk_mine
  have hm2 := fk_m2
  obtain ⟨I0, hI0⟩ : ∃ I, idL fkA = I := ⟨_, rfl⟩
  have hI0l : I0.length = 32 := by rw [← hI0]; exact idL_len _
  rw [hI0] at hW0 hne hmine1 hmine2 hm2
  have hck := fk_check I0 2 hI0 hm2
  obtain ⟨hH, hHe⟩ : ∃ h, mkF I0 2 = h := ⟨_, rfl⟩
  have hHo : hH.ok := by rw [← hHe]; exact mkF_ok _ _ hI0l
  have hHb : (mkF I0 0).bump 2 = hH := by rw [mkF_bump, ← hHe]; rfl
  rw [hHe] at hne hck hm2
  obtain ⟨I1, hI1⟩ : ∃ I, idL hH = I := ⟨_, rfl⟩
  rw [hI1] at hne
  obtain ⟨S, hS2⟩ := acc_second W0 (fk_b hH) hI1 (by rw [← hHe]; exact mkF_prev _ _) hne hck
  obtain ⟨hv, hhv⟩ : ∃ hv, HdA hH hv := ⟨_, HdA.of hHo⟩
  obtain ⟨bv, hbv, hbve⟩ : ∃ bv, HdA (mkF I0 0) bv ∧ (mkF I0 0).cells.toArray = bv := ⟨_, HdA.of (mkF_ok _ _ hI0l), rfl⟩
  have NW : Hid (∀ y, Calls Tryz.prog 25 #[.int .i64 5] y fun e w' => ∃ T M, e = .returned (pT T) ∧ TrO w' y.heap.size T M (.slice none 0 0) 5 [] ∧ Keep y w') := Lib.hid fun y => new_any 5 y
  have BA : Hid (Tryz.prog.built 39 [(4, .int .u32 545259519)] = some av) := Lib.hid (by rw [← have_]; exact fkA_built)
  have BB : Hid (∀ ds, HashA I0 ds → Tryz.prog.built 39 [(1, .agg ds), (3, .int .u32 1), (4, .int .u32 545259519)] = some bv) := Lib.hid fun ds hd => by rw [← hbve]; exact mkF_built _ ds hI0l hd
  have RU : Hid (∀ y, Calls Tryz.prog 27 #[] y fun e w' => e = .returned (parV fkR none 0) ∧ Keep y w') := Lib.hid ruleF_any
  have ID : Hid (∀ y, Keep w y → Calls Tryz.prog 21 #[.agg av] y fun e w' => ∃ ds, e = .returned (.agg ds) ∧ HashA I0 ds ∧ Keep y w') := Lib.hid fun y hy => by rw [← hI0]; exact id_any fkA av y (hS.keep hy) fkA_ok hav
  have MI : Hid (∀ y, Keep w y → Calls Tryz.prog 28 #[.agg bv, .int .u32 545259519, .int .i64 200] y fun e w' => ∃ ds, e = .returned (.tuple #[.agg ds, .bool true]) ∧ ds = hv ∧ Keep y w') := Lib.hid fun y hy => by
    refine (mine_any (mkF I0 0) bv 545259519 200 2 y (hS.keep hy) (mkF_ok _ _ hI0l) hbv (by decide) (by decide) hmine1 hmine2).mono ?_
    rintro e w' ⟨ds, h1, h2, h3⟩
    rw [hHb] at h2
    exact ⟨ds, h1, by rw [← Array.toArray_toList (xs := ds), h2.l, ← hhv.l, Array.toArray_toList], h3⟩
  have A1 : Hid (∀ y T M v, Keep w y → TrO y w.heap.size T M v 5 [] → Calls Tryz.prog 26 #[parV fkR none 0, pT T, .agg av, iv 5] y fun e w' => ∃ x, e = .returned x ∧ ∃ v', TrO w' w.heap.size T M v' 5 [⟨I0, fkA, -1, 0, W0⟩] ∧ KeepX (XT T M v) y w') := Lib.hid fun y T M v hy hO => by
    have q := accept_any fkR none 0 w.heap.size T M v 5 [] fkA av 5 y (hS.keep hy) ⟨Rd.nil _ _, (fun x hx => absurd hx List.not_mem_nil), by decide⟩ Tr.nil hO (by decide) fkA_ok hav hy.size
    rw [hW0] at q
    exact q.mono fun e w' ⟨h1, v', h2, h3, _⟩ => ⟨_, h1, v', h2, h3⟩
  have T1 : Tr [(⟨I0, fkA, -1, 0, W0⟩ : Nd)] := by
    have q := Tr.push Tr.nil fkA_ok (I := I0) (W := workN fkA.bits) hI0.symm hI0l (workN_lt _) (by rfl) (by simp)
    have hw : W0 = workN fkA.bits := by
      have q2 : (accR fkR 5 [] fkA 5).1 = [⟨I0, fkA, -1, 0, workN fkA.bits⟩] := by
        unfold accR addR
        rw [fk_b, if_neg (by decide), if_pos rfl, if_neg (by simp), hI0]
        generalize workN fkA.bits = Wx
        rfl
      rw [hW0] at q2
      generalize workN fkA.bits = Wx at *
      exact congrArg Nd.work (List.cons.inj q2).1
    rw [hw]
    exact q
  have A2 : Hid (∀ y T M v, Keep w y → TrO y w.heap.size T M v 5 [⟨I0, fkA, -1, 0, W0⟩] → Calls Tryz.prog 26 #[parV fkR none 0, pT T, .agg hv, iv 5] y fun e w' => e = .returned (.tuple #[iv 1, iv 0]) ∧ ∃ v', TrO w' w.heap.size T M v' 5 [⟨I0, fkA, -1, 0, W0⟩, ⟨I1, hH, 0, 1, S⟩] ∧ KeepX (XT T M v) y w') := Lib.hid fun y T M v hy hO => by
    have q := accept_any fkR none 0 w.heap.size T M v 5 _ hH hv 5 y (hS.keep hy) ⟨Rd.nil _ _, (fun x hx => absurd hx List.not_mem_nil), by decide⟩ T1 hO (by simp) hHo hhv hy.size
    rw [hS2] at q
    exact q.mono fun e w' ⟨h1, v', h2, h3, _⟩ => ⟨h1, v', h2, h3⟩
  have T2 : Tr [(⟨I0, fkA, -1, 0, W0⟩ : Nd), ⟨I1, hH, 0, 1, S⟩] := by
    have f1 : findN [(⟨I0, fkA, -1, 0, W0⟩ : Nd)] I1 = none := by unfold findN; simp [List.findIdx?_cons, hne]
    have f2 : findN [(⟨I0, fkA, -1, 0, W0⟩ : Nd)] hH.prev = some 0 := by unfold findN; rw [← hHe, mkF_prev]; simp [List.findIdx?_cons]
    have q := T1.push hHo (I := I1) (W := workN hH.bits) hI1.symm (by rw [← hI1]; exact idL_len _) (workN_lt _) f1 (by rw [f2]; simp)
    have q2 : (accR fkR 5 [⟨I0, fkA, -1, 0, W0⟩] hH 5).1 = [(⟨I0, fkA, -1, 0, W0⟩ : Nd)] ++ [newN [⟨I0, fkA, -1, 0, W0⟩] I1 hH (workN hH.bits)] := by
      have f3 : (lineO [(⟨I0, fkA, -1, 0, W0⟩ : Nd)] ((0 : Nat) : Int)).map (headN [(⟨I0, fkA, -1, 0, W0⟩ : Nd)]) = [fkA] := rfl
      unfold accR addR
      rw [fk_b, hI1, if_neg (by decide), if_neg (by simp), f1]
      simp only
      rw [f2]
      simp only
      rw [f3, hck, if_neg (by simp)]
      unfold addI
      rw [f1]
      simp only
      rw [f2, if_neg (by simp), if_neg (by simp)]
    rw [hS2] at q2
    rw [← q2] at q
    exact q
  have RE : Hid (∀ y T, TrR y T [⟨I0, fkA, -1, 0, W0⟩, ⟨I1, hH, 0, 1, S⟩] → Calls Tryz.prog 11 #[pT T, .int .i64 1, .int .i64 0] y fun e w' => ∃ B1 c1 B2 c2, e = .returned (.tuple #[.slice B1 1 c1, .slice B2 0 c2]) ∧ Keep y w') := Lib.hid fun y T hr => by
    have q := reorg_any T _ 1 0 y hr T2 (by simp) (by omega) (by omega)
    rw [(two_line I0 I1 fkA hH W0 S).1, (two_line I0 I1 fkA hH W0 S).2, two_und.1, two_und.2.1] at q
    refine q.mono fun e w' ⟨v1, v2, h1, h2, h3, h4⟩ => ?_
    obtain ⟨B1, c1, rfl, -⟩ := own_form h2
    obtain ⟨B2, c2, rfl, -⟩ := own_form h3
    exact ⟨B1, c1, B2, c2, h1, h4⟩
  have DE : Hid (∀ y T, TrR y T [⟨I0, fkA, -1, 0, W0⟩, ⟨I1, hH, 0, 1, S⟩] → Calls Tryz.prog 14 #[pT T, .int .i64 1, .int .i64 0] y fun e w' => e = .returned (.tuple #[.int .i64 2, .bool true]) ∧ Keep y w') := Lib.hid fun y T hr => by
    have q := depth_any T _ 1 0 y hr T2 (by simp) (by omega) (by omega)
    rw [two_dep] at q
    exact q
  have LO : Hid (∀ y T, TrR y T [⟨I0, fkA, -1, 0, W0⟩, ⟨I1, hH, 0, 1, S⟩] → Calls Tryz.prog 16 #[pT T, .int .i64 1] y fun e w' => ∃ B1 c1, e = .returned (.slice B1 2 c1) ∧ Keep y w') := Lib.hid fun y T hr => by
    have q := locator_any T _ 1 y hr T2 (by simp) (by omega)
    refine q.mono fun e w' ⟨v1, h1, h2, h3⟩ => ?_
    obtain ⟨B1, c1, rfl, -⟩ := own_form h2
    refine ⟨B1, c1, ?_, h3⟩
    rw [h1, show (locN [⟨I0, fkA, -1, 0, W0⟩, ⟨I1, hH, 0, 1, S⟩] 1).length = 2 by unfold locN; rw [List.length_map, (two_line I0 I1 fkA hH W0 S).1]; exact two_und.2.2]
  have avz := hav.z; have avn := hav.n; have avi := hav.i; have avo := Lib.hid hav.o
  have hvz := hhv.z; have hvn := hhv.n; have hvi := hhv.i; have hvo := Lib.hid hhv.o
  clear hav have_ hW0 hne hmine1 hmine2 hm2 hI0 hI0l hck hHe hHo hHb hI1 hS2 hhv hbv hbve hS T1 T2
  obtain ⟨N1, hN1⟩ : ∃ n, [(⟨I0, fkA, -1, 0, W0⟩ : Nd)] = n := ⟨_, rfl⟩
  obtain ⟨N2, hN2⟩ : ∃ n, [(⟨I0, fkA, -1, 0, W0⟩ : Nd), ⟨I1, hH, 0, 1, S⟩] = n := ⟨_, rfl⟩
  rw [hN1] at A1 A2
  rw [hN2] at A2 RE DE LO
  clear hN1 hN2
  generalize parV fkR none 0 = PV at *
  obtain ⟨zs, hz1, hz2, hz3, -⟩ := zhead_letter
  go_enter Tryz.func8, Tryz.ntmps8
  go_wp2_with fail
  refine (NW.out _).mono ?_
  clear NW
  rintro e w1 ⟨T, M, rfl, hO, k1⟩
  have HO1 := Lib.hid hO; have HK1 := Lib.hid k1
  clear hO k1
  have hst : (storeCells ⟨w1.heap.size, 0, none⟩ av.toList 0).run Tryz.prog (w1.alloc (.cells zs 39)) = .ok () (w1.alloc (.cells av 39)) := run_storeCells_new (P := Tryz.prog) w1 39 zs av avi (hz1.trans avz.symm) (by have := all_oneCell_toArray avo.out; rwa [Array.toArray_toList] at this)
  go_upto_region 3 with ((with_reducible refine list_buildr [(4, .int .u32 545259519)] av (Eq.trans ?_ rfl) BA.out ?_); rfl)
  clear hst BA
  have hT1 := HO1.out.b.lt; have hM1 := HO1.out.m.lt
  obtain ⟨w2, hw2⟩ : ∃ w2, w2 = w1.alloc (.cells av 39) := ⟨_, rfl⟩
  have HO2 : Hid (TrO w2 w.heap.size T M (.slice none 0 0) 5 []) := by rw [hw2]; exact Lib.hid (HO1.out.keep (keep_new _ _))
  have HA2 : Hid (Blk w2 w1.heap.size 39 av.toList) := by rw [hw2]; exact Lib.hid (Blk.new w1 _ av.toList)
  have HK2 : Hid (Keep w w2) := by rw [hw2]; exact Lib.hid (keep_trans HK1.out (keep_new _ _))
  rw [← hw2]
  clear hw2 HO1 HK1
  generalize w1.heap.size = ga at *
  refine wp_region_tree (.take [1,2] (.force [0] .done)) [3] (by kernel_rfl) (by kernel_rfl) (fun w3 k3 => ?_)
  have HO3 := Lib.hid (HO2.out.keep k3)
  have HA3 := Lib.hid (HA2.out.keep k3)
  have HK3 := Lib.hid (keep_trans HK2.out k3)
  have RA : Hid (w3.rangeAt ga 0 av.toList) := Lib.hid (range_of HA3.out 0 av.toList (by simp [List.take_of_length_le]))
  clear k3 HO2 HA2 HK2
  refine mt_take w3 (Below.refl _ _) ?_
  simp only [pick_cons, pick_nil, nth_zero, nth_succ]
  repeat (first
    | ((with_reducible refine wpQuiet_load_partg ga 0 av (Eq.trans ?_ rfl) RA.out _ Tryz.underlying39 rfl avi (Eq.trans ?_ rfl) ?_); rfl; rfl; simp only [Act.put, Array.set!_eq_setIfInBounds, List.setIfInBounds_toArray, List.set_cons_succ, List.set_cons_zero])
    | go_big_quiet_step (fail))
  refine wpQuiet_nil (mt_force ?_)
  simp only [pick_cons, pick_nil, nth_zero, nth_succ]
  refine fc_step rfl (fun K hK => ?_)
  go_simp
  (with_reducible refine (RU.out _).mono ?_)
  rintro e w4 ⟨rfl, k4⟩
  refine hK _ _ k4 ?_
  clear hK K
  have HO4 := Lib.hid (HO3.out.keep k4)
  clear HO3 RA
  have HA4 := Lib.hid (HA3.out.keep k4)
  have HK4 := Lib.hid (keep_trans HK3.out k4)
  clear k4 HA3 HK3
  refine fc_nil (mt_end ?_)
  go_wp2_with fail
  refine (A1.out _ T M _ HK4.out HO4.out).mono ?_
  clear A1
  rintro e w5 ⟨x5, rfl, v5, hO5, kx5⟩
  have HA5 : Hid (Blk w5 ga 39 av.toList) := Lib.hid (HA4.out.kx kx5 (by simp [XT, Value.ownBlock]; omega))
  have HK5 : Hid (Keep w w5) := Lib.hid (kx5.keep HK4.out HO4.out.x)
  have HO5 := Lib.hid hO5
  clear hO5 kx5 HA4 HK4 HO4
  have RA : Hid (w5.rangeAt ga 0 av.toList) := Lib.hid (range_of HA5.out 0 av.toList (by simp [List.take_of_length_le]))
  go_wp2_with ((with_reducible refine load_partg ga 0 av (Eq.trans ?_ rfl) RA.out _ Tryz.underlying39 rfl avi rfl ?_); rfl)
  refine (ID.out _ HK5.out).mono ?_
  clear ID RA
  rintro e w6 ⟨ds, rfl, hds, k6⟩
  have HBB := Lib.hid (BB.out ds hds)
  have HK6 := Lib.hid (keep_trans HK5.out k6)
  have HO6 := Lib.hid (HO5.out.keep k6)
  clear hds BB k6 HK5 HO5 HA5
  go_wp2_with ((with_reducible refine list_buildr [(1, .agg ds), (3, .int .u32 1), (4, .int .u32 545259519)] bv (Eq.trans ?_ rfl) HBB.out ?_); rfl)
  refine (MI.out _ HK6.out).mono ?_
  clear MI HBB
  rintro e w7 ⟨es, rfl, hes, k7⟩
  subst hes
  have HK7 := Lib.hid (keep_trans HK6.out k7)
  have HO7 := Lib.hid (HO6.out.keep k7)
  clear k7 HK6 HO6
  have hst : (storeCells ⟨w7.heap.size, 0, none⟩ es.toList 0).run Tryz.prog (w7.alloc (.cells zs 39)) = .ok () (w7.alloc (.cells es 39)) := run_storeCells_new (P := Tryz.prog) w7 39 zs es hvi (hz1.trans hvz.symm) (by have := all_oneCell_toArray hvo.out; rwa [Array.toArray_toList] at this)
  go_upto_region 5 with fail
  clear hst
  obtain ⟨w8, hw8⟩ : ∃ w8, w8 = w7.alloc (.cells es 39) := ⟨_, rfl⟩
  have HO8 : Hid (TrO w8 w.heap.size T M v5 5 N1) := by rw [hw8]; exact Lib.hid (HO7.out.keep (keep_new _ _))
  have HH8 : Hid (Blk w8 w7.heap.size 39 es.toList) := by rw [hw8]; exact Lib.hid (Blk.new w7 _ es.toList)
  have HK8 : Hid (Keep w w8) := by rw [hw8]; exact Lib.hid (keep_trans HK7.out (keep_new _ _))
  rw [← hw8]
  obtain ⟨gh, hgh⟩ : ∃ g, w7.heap.size = g := ⟨_, rfl⟩
  have hT7 := HO7.out.b.lt; have hM7 := HO7.out.m.lt
  have hNX : ¬ XT T M v5 gh := by
    rintro (q | q | q)
    · omega
    · omega
    · have := (HO7.out.o.lt gh q).2; omega
  rw [hgh] at HH8 ⊢
  clear hgh
  clear hw8 HO7 HK7
  letI iM : H.Mk := ⟨XT T M v5⟩
  have hNX2 : ¬ H.Mk.m gh := hNX
  refine H.wp_region_tree (.take [1,2] (.force [0,3] (.take [4,5,6,7,8] .done))) [] (by kernel_rfl) (by kernel_rfl) (fun w9 k9 => ?_)
  have HO9 := Lib.hid (HO8.out.keep k9)
  have HH9 := Lib.hid (HH8.out.keep k9)
  have HK9 := Lib.hid (keep_trans HK8.out k9)
  clear k9 HO8 HH8 HK8
  refine H.mt_take w9 (H.Gr.refl _) ?_
  simp only [pick_cons, pick_nil, nth_zero, nth_succ]
  repeat (first
    | ((with_reducible refine H.wpQuiet_load_arrG gh es (Eq.trans ?_ rfl) HH9.out hNX2 _ Tryz.underlying39 rfl hvi ?_); rfl; simp only [Act.put, Array.set!_eq_setIfInBounds, List.setIfInBounds_toArray, List.set_cons_succ, List.set_cons_zero])
    | go_big_quiet_step (fail))
  refine wpQuiet_nil (H.mt_force ?_)
  simp only [pick_cons, pick_nil, nth_zero, nth_succ]
  refine H.fc_step rfl (fun K hK => ?_)
  go_simp
  (with_reducible refine (RU.out _).mono ?_)
  rintro e wa ⟨rfl, ka⟩
  refine hK _ _ (H.Gr.of_keep ka) ?_
  clear hK K
  have HOa := Lib.hid (HO9.out.keep ka)
  have HKa := Lib.hid (keep_trans HK9.out ka)
  clear ka HO9 HH9 HK9
  refine H.fc_step rfl (fun K hK => ?_)
  go_simp
  (with_reducible refine (A2.out _ T M _ HKa.out HOa.out).mono ?_)
  clear A2
  rintro e wb ⟨rfl, v6, hOb, kxb⟩
  refine hK _ _ kxb ?_
  clear hK K
  refine H.fc_nil (H.mt_take wb (H.Gr.refl _) ?_)
  simp only [pick_cons, pick_nil, nth_zero, nth_succ]
  repeat (go_big_quiet_step (fail))
  refine wpQuiet_nil (H.mt_end ?_)
  have HKb : Hid (Keep w wb) := Lib.hid (kxb.keep HKa.out HOa.out.x)
  have HRb := Lib.hid hOb.r
  clear hNX hNX2 hOb kxb HKa HOa RU
  clear iM
  go_wp2_with fail
  refine (RE.out _ T HRb.out).mono ?_
  clear RE
  rintro e wc ⟨B1, c1, B2, c2, rfl, kc⟩
  have HRc := Lib.hid (HRb.out.keep kc); have HKc := Lib.hid (keep_trans HKb.out kc)
  clear kc HRb HKb
  go_wp2_with fail
  refine (DE.out _ T HRc.out).mono ?_
  clear DE
  rintro e wd ⟨rfl, kd⟩
  have HRd := Lib.hid (HRc.out.keep kd); have HKd := Lib.hid (keep_trans HKc.out kd)
  clear kd HRc HKc
  go_wp2_with fail
  refine (LO.out _ T HRd.out).mono ?_
  clear LO
  rintro e we ⟨B3, c3, rfl, ke⟩
  have HKe := Lib.hid (keep_trans HKd.out ke)
  clear ke HRd HKd
  go_wp2
  exact bodyPost_ret (v := .bool true) (by simp [results, Tryz.results8]) rfl ⟨rfl, HKe.out⟩
end Go.Proofs.YtjbdboekleaklaaGreatDoor

/- Arguments opened to lists, and the last step of a law: it answers true and leaves what was there. -/
set_option linter.unusedSimpArgs false
set_option linter.unusedVariables false
namespace Go.Proofs.YtjbdboekleaklaaGreatDoor
open Go.RowKit Go.ChangeShapes Go.WideShapes Go.Deep

theorem addr_plain {w : World} {a : Addr} {v : Value} (h : w.cell? a = some v) : a = ⟨a.block, a.off, none⟩ := by
  obtain ⟨b, o, s⟩ := a
  cases s with
  | none => rfl
  | some x => unfold World.cell? at h; split at h <;> simp at h

theorem Rd.of_add {w : World} {a : Addr} {xs : List Value} (h : ∀ j (hj : j < xs.length), w.cell? (a.add j) = some xs[j]) : Rd w (some a) xs := by
  by_cases h0 : xs = []
  · exact .inl h0
  · have hp : 0 < xs.length := List.length_pos_iff.2 h0
    have h1 := h 0 hp
    have e : a.add 0 = a := by unfold Addr.add; simp
    rw [e] at h1
    have ha := addr_plain h1
    refine .inr ⟨a.block, a.off, by rw [← ha], fun j hj => ?_⟩
    have := h j hj
    rw [ha, add_lit0] at this
    exact this

theorem list_choose {α β : Type} {f : α → β} {p : α → Prop} : ∀ (l : List β), (∀ x ∈ l, ∃ a, x = f a ∧ p a) → ∃ ys : List α, l = ys.map f ∧ ∀ a ∈ ys, p a
  | [], _ => ⟨[], rfl, by simp⟩
  | x :: l, h => by
    obtain ⟨a, rfl, ha⟩ := h x (by simp)
    obtain ⟨ys, rfl, hys⟩ := list_choose l fun y hy => h y (by simp [hy])
    exact ⟨a :: ys, rfl, by simpa using ⟨ha, hys⟩⟩

section
variable {H : Type} {enc : TypeId × Value → H} {P : Program} {w : World} {spare : Nat → Bool} {held : Bool}

theorem slice_open {t e : TypeId} {size fuel : Nat} {cs : List Value} {x : DataW H × List MemPlace} (ht : P.underlying t = some (.slice e)) (hc : P.cellsOf e = size) (hz : 0 < size)
    (h : DataW.trod enc P w 0 spare held fuel t cs = some x) :
    ∃ (A : Option Addr) (n c : Nat) (Cs : List (List Value)), cs = [.slice A n c] ∧ n ≤ c ∧ c ≤ maxLen ∧ Cs.length = n ∧ Rd w A Cs.flatten ∧
      ∀ y ∈ Cs, y.length = size ∧ ∃ m z, DataW.trod enc P w 0 spare held m e y = some z := by
  rcases open_slice ht h with ⟨rfl, _⟩ | ⟨a, len, cap, m, n, D, Pl, rfl, _, hl, hm, hmm, _, hi⟩
  · exact ⟨none, 0, 0, [], rfl, Nat.le_refl _, Nat.zero_le _, rfl, .inl rfl, by simp⟩
  · have hlm : len ≤ m := by rw [hmm]; split <;> omega
    rw [hc] at hi
    obtain ⟨V, hV⟩ := choose_lt (p := fun i (cs' : List Value) => w.cells? 0 (a.add (i * size)) size = some cs' ∧ DataW.trod enc P w 0 spare held n e cs' = some (D i, Pl i)) (n := len) fun i hi' => hi i (by omega)
    have hlen : ∀ y ∈ (List.range len).map V, y.length = size := by
      intro y hy
      obtain ⟨i, hi', rfl⟩ := List.mem_map.1 hy
      exact (World.cells?_some (hV i (List.mem_range.1 hi')).1).2.1
    refine ⟨some a, len, cap, (List.range len).map V, rfl, hl, hm, by simp, Rd.of_add fun j hj => ?_, fun y hy => ⟨hlen y hy, ?_⟩⟩
    · have hfl : ((List.range len).map V).flatten.length = len * size := by
        rw [← List.flatMap_id, flatMap_len' id size _ hlen]; simp
      have hj' : j < len * size := by rw [← hfl]; exact hj
      have hq : j / size < len := by rwa [Nat.div_lt_iff_lt_mul hz]
      have hr : j % size < size := Nat.mod_lt _ hz
      have hcell := (World.cells?_some (hV (j / size) hq).1).2.2 (j % size) hr
      have hjj : j = j / size * size + j % size := by rw [Nat.mul_comm]; exact (Nat.div_add_mod j size).symm
      have hadd : (a.add (j / size * size)).add (j % size) = a.add j := by
        rw [add_add', ← hjj]
      rw [hadd] at hcell
      rw [hcell, ← List.getElem?_eq_getElem hj, ← List.flatMap_id]
      conv => rhs; rw [hjj]
      rw [flatMap_get' id size _ hlen (j / size) (j % size) (by simpa using hq) hr]
      simp
    · obtain ⟨i, hi', rfl⟩ := List.mem_map.1 hy
      exact ⟨n, _, (hV i (List.mem_range.1 hi')).2⟩

theorem fields_open {t : TypeId} {fs : Array Field} {fuel : Nat} {cs : List Value} {x : DataW H × List MemPlace} (ht : P.underlying t = some (.struct fs)) (hone : oneCellFields P fs = true)
    (h : DataW.trod enc P w 0 spare held fuel t cs = some x) (hl : cs.length = fs.size) :
    ∀ (j : Nat) (f : Field), fs[j]? = some f → ∃ v m y, cs[j]? = some v ∧ DataW.trod enc P w 0 spare held m f.type [v] = some y := by
  obtain ⟨ys, n, _, _, _, hyl, hf⟩ := DataW.trod_struct ht h
  intro j f hj
  obtain ⟨ho, hk⟩ := hone_of hone j f hj
  have hjl : j < fs.size := (Array.getElem?_eq_some_iff.1 hj).1
  have h1 := hf j f hj
  rw [ho, hk] at h1
  have hone' : (cs.drop j).take 1 = [cs[j]'(by omega)] := by
    rw [List.drop_eq_getElem_cons (by omega)]; rfl
  rw [hone'] at h1
  have hys : ys[j]? = some (ys[j]'(by omega)) := List.getElem?_eq_getElem (by omega)
  exact ⟨_, n, _, List.getElem?_eq_getElem (by omega), h1.trans hys⟩

theorem bytes_open {t e : TypeId} {fuel : Nat} {cs : List Value} {x : DataW H × List MemPlace} (ht : P.underlying t = some (.slice e)) (he : P.underlying e = some (.int .u8)) (hc : P.cellsOf e = 1)
    (h : DataW.trod enc P w 0 spare held fuel t cs = some x) :
    ∃ (A : Option Addr) (l : List UInt8) (c : Nat), cs = [.slice A l.length c] ∧ l.length ≤ c ∧ c ≤ maxLen ∧ Rd w A (l.map u8v) := by
  obtain ⟨A, n, c, Cs, rfl, h1, h2, rfl, h3, h4⟩ := slice_open ht hc (by omega) h
  obtain ⟨l, rfl, _⟩ := list_choose (f := fun x : UInt8 => [u8v x]) (p := fun _ => True) Cs fun y hy => by
    obtain ⟨_, m, z, hz⟩ := h4 y hy
    obtain ⟨n, rfl, _, hw⟩ := DataW.trod_int he hz
    have hb : 0 ≤ n ∧ n ≤ 255 := by simpa [Lit.wf, IntKind.min, IntKind.max, IntKind.signed, IntKind.bits] using hw
    refine ⟨UInt8.ofNat n.toNat, ?_, trivial⟩
    have : ((UInt8.ofNat n.toNat).toNat : Int) = n := by
      rw [UInt8.toNat_ofNat']
      omega
    show [Value.int .u8 n] = [Value.int .u8 ((UInt8.ofNat n.toNat).toNat : Int)]
    rw [this]
  refine ⟨A, l, c, by simp, by simpa using h1, h2, ?_⟩
  have e : (l.map fun x : UInt8 => [u8v x]).flatten = l.map u8v := by rw [← List.flatMap_def, ← List.map_eq_flatMap]
  rwa [e] at h3
end

section
variable {H : Type} {enc : TypeId × Value → H} {P : Program}

theorem trodAll_below (hl : laidOutB P = true) {W W' : World} (hb : Below W.heap.size W W') : ∀ (ts : List TypeId) (vs : List Value) (ds : List (DataW H)) (ps : List MemPlace),
    (∀ t ∈ ts, P.readableRec t = true ∧ t < P.types.size) → (∀ x ∈ ps, x.block < W.heap.size) → DataW.TrodAll enc P W 0 (fun _ => true) true ts vs ds ps →
    DataW.TrodAll enc P W' 0 (fun b => decide (b < W.heap.size)) true ts vs ds ps
  | [], [], [], ps, _, _, h => h
  | t :: ts, v :: vs, d :: ds, ps, hr, hlt, h => by
    obtain ⟨p, q, h1, h2, rfl⟩ := h
    exact ⟨p, q, Below.trod hl (hr t (by simp)).1 (hr t (by simp)).2 h1 hb fun x hx => hlt x (by simp [hx]),
      trodAll_below hl hb ts vs ds q (fun t ht => hr t (by simp [ht])) (fun x hx => hlt x (by simp [hx])) h2, rfl⟩
  | [], _ :: _, _, _, _, _, h => by cases h
  | [], [], _ :: _, _, _, _, h => by cases h
  | _ :: _, [], _, _, _, _, h => by cases h
  | _ :: _, _ :: _, [], _, _, _, h => by cases h

/-- A law's last step. -/
theorem law_post {f : Func} {s : ChangeSpec} {apart fresh handsOn : Bool} {W W' : World} {args : Array Value} {ds gs : List (DataW H)} {before : List MemPlace} {tb : TypeId}
    (hW : DataW.Whole enc P f.params.toList s.vars apart W args.toList ds gs before) (hv : s.vars = []) (hl : laidOutB P = true)
    (hrB : (f.params.toList.all fun t => P.readableRec t && decide (t < P.types.size)) = true) (hres : f.resultTypes = #[tb]) (htb : P.underlying tb = some .bool)
    (hs : s.fn H ds = { results := [.lit (.bool true)], args := ds }) (hb : Below W.heap.size W W') :
    s.post enc P f apart fresh handsOn false W args (.bool true) W' := by
  have hr : ∀ t ∈ f.params.toList, P.readableRec t = true ∧ t < P.types.size := fun t ht => by
    have := List.all_eq_true.1 hrB t ht
    simpa using this
  have hW' := hW
  obtain ⟨p, q, hA, hV, rfl, hfz, hnd⟩ := hW
  rw [hv] at hV
  obtain ⟨rfl, rfl⟩ := trodVars_none hV
  simp only [List.append_nil] at hW'
  have hlt : ∀ x ∈ p, x.block < W.heap.size := fun x hx => hW'.lt x (by simpa using hx)
  refine ⟨ds, [], p, [], p, [], by simpa using hW', ?_, ?_, ?_, hb.frame _, fun h => by cases h⟩
  · rw [List.append_nil, hs, hres]
    exact trodAll_mk1 (shut_bool htb true)
  · rw [List.append_nil, hs]
    exact trodAll_below hl hb _ _ _ _ hr hlt hA
  · rw [List.append_nil, hs, hv]
    exact rfl
end
end Go.Proofs.YtjbdboekleaklaaGreatDoor

/- Headers, sums and rules that came in, opened; what the laid tables give (JrnZ without the disk). -/
set_option linter.unusedSimpArgs false
set_option linter.unusedVariables false
namespace Go.Proofs.YtjbdboekleaklaaGreatDoor
open Go.RowKit Go.ChangeShapes Go.WideShapes Go.ChangeAt Go.Deep

theorem cellsByte : Tryz.prog.cellsOf 5 = 1 := by kernel_rfl
theorem word_ofJ {x : Int} (h : 0 ≤ x ∧ x ≤ 4294967295) : ∃ t : UInt32, x = (t.toNat : Int) := ⟨w32 x, w32_of h.1 h.2⟩
theorem byte_ofJ {x : Int} (h : 0 ≤ x ∧ x ≤ 255) : ∃ t : UInt8, x = (t.toNat : Int) := ⟨w8 x, w8_of h.1 h.2⟩
theorem word_openJ {H : Type} {enc : TypeId × Value → H} {w : World} {spare : Nat → Bool} {held : Bool} {fuel : Nat} {cs : List Value} {x : DataW H × List MemPlace}
    (h : DataW.trod enc Tryz.prog w 0 spare held fuel 37 cs = some x) : ∃ t : UInt32, cs = [u32v t] := by
  obtain ⟨k, ek, _, wk⟩ := DataW.trod_int Tryz.underlying37 h
  obtain ⟨t, rfl⟩ := word_ofJ (x := k) (by simpa [Lit.wf, IntKind.min, IntKind.max, IntKind.signed, IntKind.bits] using wk)
  exact ⟨t, ek⟩
theorem cellsHeaderJ : Tryz.prog.cellsOf 39 = 68 := by kernel_rfl
theorem cellsHashJ : Tryz.prog.cellsOf 36 = 32 := by kernel_rfl
theorem cellsWordJ : Tryz.prog.cellsOf 37 = 1 := by kernel_rfl
theorem underHashJ : Tryz.prog.underlying 36 = some (.array 32 5) := by kernel_rfl
theorem hash_openJ {H : Type} {enc : TypeId × Value → H} {w : World} {spare : Nat → Bool} {held : Bool} {fuel : Nat} {cs : List Value} {x : DataW H × List MemPlace}
    (h : DataW.trod enc Tryz.prog w 0 spare held fuel 36 cs = some x) : ∃ l : List UInt8, cs = l.map u8v ∧ l.length = 32 := by
  obtain ⟨xs, m, _, _, h1, h2, h3⟩ := DataW.trod_array underHashJ h
  rw [cellsHashJ] at h1
  obtain ⟨l, rfl, _⟩ := list_choose (f := u8v) (p := fun _ => True) cs fun u hu => by
    obtain ⟨i, hi, rfl⟩ := List.mem_iff_getElem.1 hu
    have h4 := h3 i (by omega)
    rw [cellsByte, Nat.mul_one, List.getElem?_eq_getElem (by omega)] at h4
    obtain ⟨k, ek, _, wk⟩ := DataW.trod_int Tryz.underlying5 h4
    obtain ⟨t, rfl⟩ := byte_ofJ (x := k) (by simpa [Lit.wf, IntKind.min, IntKind.max, IntKind.signed, IntKind.bits] using wk)
    rw [List.drop_eq_getElem_cons hi, List.take_succ_cons, List.take_zero] at ek
    exact ⟨t, (List.cons.inj ek).1, trivial⟩
  exact ⟨l, rfl, by simpa using h1⟩
theorem header_openJ {H : Type} {enc : TypeId × Value → H} {w : World} {spare : Nat → Bool} {held : Bool} {fuel : Nat} {cs : List Value} {x : DataW H × List MemPlace}
    (h : DataW.trod enc Tryz.prog w 0 spare held fuel 39 cs = some x) : ∃ r : Hd, cs = r.cells ∧ r.ok := by
  obtain ⟨xs, n, _, _, hl, hx, F⟩ := DataW.trod_struct Tryz.underlying39 h
  rw [cellsHeaderJ] at hl
  have hx' : xs.length = 6 := hx
  have g : ∀ (i : Nat) (hi : i < 6), xs[i]? = some (xs[i]'(by omega)) := fun i hi => List.getElem?_eq_getElem (by omega)
  have f0 : DataW.trod enc Tryz.prog w 0 spare held n 37 ((cs.drop 0).take (Tryz.prog.cellsOf 37)) = some _ := (F 0 _ rfl).trans (g 0 (by omega))
  have f1 : DataW.trod enc Tryz.prog w 0 spare held n 36 ((cs.drop 1).take (Tryz.prog.cellsOf 36)) = some _ := (F 1 _ rfl).trans (g 1 (by omega))
  have f2 : DataW.trod enc Tryz.prog w 0 spare held n 36 ((cs.drop 33).take (Tryz.prog.cellsOf 36)) = some _ := (F 2 _ rfl).trans (g 2 (by omega))
  have f3 : DataW.trod enc Tryz.prog w 0 spare held n 37 ((cs.drop 65).take (Tryz.prog.cellsOf 37)) = some _ := (F 3 _ rfl).trans (g 3 (by omega))
  have f4 : DataW.trod enc Tryz.prog w 0 spare held n 37 ((cs.drop 66).take (Tryz.prog.cellsOf 37)) = some _ := (F 4 _ rfl).trans (g 4 (by omega))
  have f5 : DataW.trod enc Tryz.prog w 0 spare held n 37 ((cs.drop 67).take (Tryz.prog.cellsOf 37)) = some _ := (F 5 _ rfl).trans (g 5 (by omega))
  simp only [cellsWordJ, cellsHashJ] at f0 f1 f2 f3 f4 f5
  obtain ⟨a, ea⟩ := word_openJ f0
  obtain ⟨p, ep, hp⟩ := hash_openJ f1
  obtain ⟨q, eq, hq⟩ := hash_openJ f2
  obtain ⟨t, et⟩ := word_openJ f3
  obtain ⟨b, eb⟩ := word_openJ f4
  obtain ⟨c, ec⟩ := word_openJ f5
  have key : ∀ (l : List Value) (i k : Nat), l.drop i = (l.drop i).take k ++ l.drop (i + k) := fun l i k => by
    have h1 := (List.take_append_drop k (l.drop i)).symm
    rwa [List.drop_drop] at h1
  refine ⟨⟨a, p, q, t, b, c⟩, ?_, hp, hq⟩
  have e : cs = cs.drop 0 := rfl
  rw [e, key cs 0 1, ea, key cs (0 + 1) 32, ep, key cs (0 + 1 + 32) 32, eq, key cs (0 + 1 + 32 + 32) 1, et, key cs (0 + 1 + 32 + 32 + 1) 1, eb, key cs (0 + 1 + 32 + 32 + 1 + 1) 1, ec, List.drop_eq_nil_of_le (by omega)]
  simp [Hd.cells]
theorem heads_openJ {H : Type} {enc : TypeId × Value → H} {w : World} {spare : Nat → Bool} {held : Bool} {fuel : Nat} {cs : List Value} {x : DataW H × List MemPlace}
    (h : DataW.trod enc Tryz.prog w 0 spare held fuel 22 cs = some x) :
    ∃ (A : Option Addr) (l : List Hd) (c : Nat), cs = [.slice A l.length c] ∧ l.length ≤ c ∧ c ≤ maxLen ∧ Rd w A (l.flatMap Hd.cells) ∧ ∀ y ∈ l, y.ok := by
  obtain ⟨A, n, c, Cs, rfl, h1, h2, rfl, h3, h4⟩ := slice_open Tryz.underlying22 cellsHeaderJ (by omega) h
  obtain ⟨l, rfl, hok⟩ := list_choose (f := Hd.cells) (p := Hd.ok) Cs fun y hy => by
    obtain ⟨_, m, z, hz⟩ := h4 y hy
    exact header_openJ hz
  refine ⟨A, l, c, by simp, by simpa using h1, h2, ?_, hok⟩
  rwa [← List.flatMap_def] at h3

/-! The tables. -/
theorem gK : Tryz.prog.globalNamed "florin/sha2.constants" = some 1 := by kernel_rfl
theorem gH : Tryz.prog.globalNamed "florin/sha2.initials" = some 0 := by kernel_rfl
theorem gKT : (Tryz.prog.globals[1]?).map (·.type) = some 139 := by kernel_rfl
theorem gHT : (Tryz.prog.globals[0]?).map (·.type) = some 105 := by kernel_rfl
theorem cellsK : Tryz.prog.cellsOf 139 = 64 := by kernel_rfl
theorem cells8 : Tryz.prog.cellsOf 105 = 8 := by kernel_rfl
theorem tab_cell {W : World} {name : String} {l : List UInt32} {g : Nat} (h : Lib.TabIs Tryz.prog W name .u32 (l.map fun y => (y.toNat : Int))) (hg : Tryz.prog.globalNamed name = some g) (i : Nat) (y : UInt32) (hy : l[i]? = some y) :
    W.cell? ⟨g, i, none⟩ = some (u32v y) := by
  have hi : i < l.length := (List.getElem?_eq_some_iff.1 hy).1
  have h1 := h.cell hg i (by rw [List.length_map]; exact hi)
  rw [h1, List.getD_eq_getElem?_getD, List.getElem?_map, hy]
  rfl
theorem tab_tail {x : String × DataW Unit} {rest : List (String × DataW Unit)} {W : World} (h : laidMet Tryz.prog (x :: rest) W) : ∃ ps, DataW.LaidVars Tryz.prog W rest ps := by
  obtain ⟨ps, ⟨_, _, _, _, _, q, _, _, _, _, hq, _⟩, _⟩ := h
  exact ⟨q, hq⟩
theorem laid_eqK {H : Type} : (Rows.laid_florin_sha2_constants : DataW H) = Lib.tabData .u32 (kTab.map fun y => (y.toNat : Int)) := by kernel_rfl
theorem laid_eqH {H : Type} : (Rows.laid_florin_sha2_initials : DataW H) = Lib.tabData .u32 (hTab.map fun y => (y.toNat : Int)) := by kernel_rfl
theorem sha_ok {W : World} (h : laidMet Tryz.prog [("florin/sha2.constants", Rows.laid_florin_sha2_constants), ("florin/sha2.initials", Rows.laid_florin_sha2_initials)] W) : ShaOk W := by
  rw [laid_eqK, laid_eqH] at h
  have hK := Lib.tabIs_of_head gK gKT Tryz.underlying139 Tryz.underlying37 cellsWordJ cellsK h
  have hH : Lib.TabIs Tryz.prog W "florin/sha2.initials" .u32 (hTab.map fun y => (y.toNat : Int)) := by
    obtain ⟨qs, g', t', cs, fuel, p, q, hg', ht', hvar, hd, _, _⟩ := tab_tail h
    obtain rfl := Option.some.inj (gH.symm.trans hg')
    obtain rfl := Option.some.inj (gHT.symm.trans ht')
    unfold Lib.TabIs
    rw [hvar, ← Lib.cells_of_tab Tryz.underlying105 Tryz.underlying37 cellsWordJ cells8 hd]
  exact ⟨fun i y hy => tab_cell hK gK i y hy, fun i y hy => tab_cell hH gH i y hy⟩

def layTab (g : Nat) (cs : Array Value) (h : Array Obj) : Array Obj := h.modify g fun
  | .cells _ t frozen => .cells cs t frozen
  | o => o
/-- A world for the witness: the settled one, the two tables holding what is laid. -/
noncomputable def laidWorld (os : Os) : World :=
  { World.holding Tryz.prog os ⟨#[], #[], []⟩ with heap := layTab 0 (hTab.map u32v).toArray (layTab 1 (kTab.map u32v).toArray (World.holding Tryz.prog os ⟨#[], #[], []⟩).heap) }
theorem hda_of {r : Hd} {cs : Array Value} (ho : r.ok) (h : cs.toList = r.cells) : HdA r cs := by
  have e : cs = r.cells.toArray := by rw [← h]
  rw [e]; exact HdA.of ho
theorem hasha_of {l : List UInt8} {cs : Array Value} (hl : l.length = 32) (h : cs.toList = l.map u8v) : HashA l cs := by
  have e : cs = (l.map u8v).toArray := by rw [← h]
  rw [e]; exact HashA.of hl
theorem cellsCheckJ : Tryz.prog.cellsOf 129 = 33 := by kernel_rfl
theorem cellsIntJ : Tryz.prog.cellsOf 3 = 1 := by kernel_rfl
theorem check_openJ {H : Type} {enc : TypeId × Value → H} {w : World} {spare : Nat → Bool} {held : Bool} {fuel : Nat} {cs : List Value} {x : DataW H × List MemPlace}
    (h : DataW.trod enc Tryz.prog w 0 spare held fuel 129 cs = some x) : ∃ r : Int × List UInt8, cs = chkC r ∧ r.2.length = 32 := by
  obtain ⟨xs, n, _, _, hl, hx, F⟩ := DataW.trod_struct Tryz.underlying129 h
  rw [cellsCheckJ] at hl
  have hx' : xs.length = 2 := hx
  have g : ∀ (i : Nat) (hi : i < 2), xs[i]? = some (xs[i]'(by omega)) := fun i hi => List.getElem?_eq_getElem (by omega)
  have f0 : DataW.trod enc Tryz.prog w 0 spare held n 3 ((cs.drop 0).take (Tryz.prog.cellsOf 3)) = some _ := (F 0 _ rfl).trans (g 0 (by omega))
  have f1 : DataW.trod enc Tryz.prog w 0 spare held n 36 ((cs.drop 1).take (Tryz.prog.cellsOf 36)) = some _ := (F 1 _ rfl).trans (g 1 (by omega))
  simp only [cellsIntJ, cellsHashJ] at f0 f1
  obtain ⟨k, ek, _, _⟩ := DataW.trod_int Tryz.underlying3 f0
  obtain ⟨p, ep, hp⟩ := hash_openJ f1
  have key : ∀ (l : List Value) (i k : Nat), l.drop i = (l.drop i).take k ++ l.drop (i + k) := fun l i k => by
    have h1 := (List.take_append_drop k (l.drop i)).symm
    rwa [List.drop_drop] at h1
  refine ⟨⟨k, p⟩, ?_, hp⟩
  have e : cs = cs.drop 0 := rfl
  rw [e, key cs 0 1, ek, key cs (0 + 1) 32, ep, List.drop_eq_nil_of_le (by omega)]
  simp [chkC]
theorem checks_openJ {H : Type} {enc : TypeId × Value → H} {w : World} {spare : Nat → Bool} {held : Bool} {fuel : Nat} {cs : List Value} {x : DataW H × List MemPlace}
    (h : DataW.trod enc Tryz.prog w 0 spare held fuel 62 cs = some x) :
    ∃ (A : Option Addr) (l : List (Int × List UInt8)) (c : Nat), cs = [.slice A l.length c] ∧ Rd w A (l.flatMap chkC) ∧ ∀ y ∈ l, y.2.length = 32 := by
  obtain ⟨A, n, c, Cs, rfl, h1, h2, rfl, h3, h4⟩ := slice_open Tryz.underlying62 cellsCheckJ (by omega) h
  obtain ⟨l, rfl, hok⟩ := list_choose (f := chkC) (p := fun r => r.2.length = 32) Cs fun y hy => by
    obtain ⟨_, m, z, hz⟩ := h4 y hy
    exact check_openJ hz
  refine ⟨A, l, c, by simp, ?_, hok⟩
  rwa [← List.flatMap_def] at h3
theorem params_openJ {H : Type} {enc : TypeId × Value → H} {w : World} {spare : Nat → Bool} {held : Bool} {fuel : Nat} {cs : List Value} {x : DataW H × List MemPlace}
    (h : DataW.trod enc Tryz.prog w 0 spare held fuel 64 cs = some x) (hl : cs.length = 7) :
    ∃ (p : Par) (A : Option Addr) (c : Nat), Value.agg cs.toArray = parV p A c ∧ Rd w A (p.chks.flatMap chkC) ∧ ∀ y ∈ p.chks, y.2.length = 32 := by
  have F := fields_open Tryz.underlying64 (by kernel_rfl) h hl
  match cs, hl with
  | [c0, c1, c2, c3, c4, c5, c6], _ =>
    obtain ⟨v0, m0, y0, e0, t0⟩ := F 0 _ rfl
    obtain ⟨v1, m1, y1, e1, t1⟩ := F 1 _ rfl
    obtain ⟨v2, m2, y2, e2, t2⟩ := F 2 _ rfl
    obtain ⟨v3, m3, y3, e3, t3⟩ := F 3 _ rfl
    obtain ⟨v4, m4, y4, e4, t4⟩ := F 4 _ rfl
    obtain ⟨v5, m5, y5, e5, t5⟩ := F 5 _ rfl
    obtain ⟨v6, m6, y6, e6, t6⟩ := F 6 _ rfl
    simp only [List.getElem?_cons_zero, List.getElem?_cons_succ, Option.some.injEq] at e0 e1 e2 e3 e4 e5 e6
    subst e0 e1 e2 e3 e4 e5 e6
    obtain ⟨a, ea⟩ := word_openJ t0
    obtain ⟨k1, ek1, _, _⟩ := DataW.trod_int Tryz.underlying3 t1
    obtain ⟨k2, ek2, _, _⟩ := DataW.trod_int Tryz.underlying3 t2
    obtain ⟨k3, ek3, _, _⟩ := DataW.trod_int Tryz.underlying3 t3
    obtain ⟨k4, ek4, _, _⟩ := DataW.trod_int Tryz.underlying3 t4
    obtain ⟨k5, ek5, _, _⟩ := DataW.trod_int Tryz.underlying3 t5
    obtain ⟨A, l, c, ed, hr, ho⟩ := checks_openJ t6
    simp only [List.cons.injEq, and_true] at ea ek1 ek2 ek3 ek4 ek5 ed
    subst ea ek1 ek2 ek3 ek4 ek5 ed
    exact ⟨⟨a, k1, k2, k3, k4, k5, l⟩, A, c, rfl, hr, ho⟩
end Go.Proofs.YtjbdboekleaklaaGreatDoor
