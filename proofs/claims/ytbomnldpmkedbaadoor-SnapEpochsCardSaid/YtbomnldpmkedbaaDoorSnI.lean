/- The operations that write a log anew: what they are. -/
import Derived.Test.YtbomnldpmkedbaaDoorSnH
set_option linter.unusedSimpArgs false
set_option linter.unusedVariables false
namespace Go.Proofs.YtbomnldpmkedbaaDoor
open Go.RowKit
attribute [local go_sem ↓] Go.wp_at_zero Go.wp_at_succ

theorem opT : ElT Tryd.prog 83 101 .nilFunc 1 8 := ElT.mk' Tryd.underlying83 (by kernel_rfl) rfl (by omega)
theorem OpR.one (x : OpR) : x.val.oneCell' = true := by cases x <;> rfl
theorem ops_one (l : List OpR) : ∀ u ∈ l.map OpR.val, u.oneCell' = true := by
  intro u hu; obtain ⟨x, _, rfl⟩ := List.mem_map.1 hu; exact x.one

/-- The records that are laid. -/
def recsP (at_ : Int) : Nat → List UInt8 → List Hd → List POp
  | _, _, [] => []
  | k, last, h :: hs => .lay (at_ + 4 * (k : Int)) (recB last k h) :: recsP at_ (k + 1) (recSum last k h) hs
theorem recsP_snoc (at_ : Int) : ∀ (hs : List Hd) (k : Nat) (last : List UInt8) (h : Hd), recsP at_ k last (hs ++ [h]) = recsP at_ k last hs ++ [.lay (at_ + 4 * ((k + hs.length : Nat) : Int)) (recB (lastL k last hs) (k + hs.length : Nat) h)]
  | [], k, last, h => rfl
  | x :: hs, k, last, h => by
    rw [List.cons_append, recsP, recsP_snoc at_ hs (k + 1), recsP, List.cons_append]
    simp only [lastL, List.length_cons]
    rw [show k + 1 + hs.length = k + (hs.length + 1) by omega]
def zerP (at_ : Int) (n : Nat) : List POp := (List.range n).map fun (k : Nat) => .lay (at_ + (k : Int)) z32
theorem zerP_succ (at_ : Int) (n : Nat) : zerP at_ (n + 1) = zerP at_ n ++ [.lay (at_ + (n : Int)) z32] := by unfold zerP; rw [List.range_succ, List.map_append]; rfl
/-- All of them. -/
def opsP (at_ : Int) (room : Nat) (keep : List Hd) (slot ep r : Int) : List POp := .sync :: (zerP at_ (4 * room) ++ (recsP at_ 0 z32 keep ++ [.sync, .lay (slot * 2) (supB (ep + 1) r), .sync]))

/-- Operations collected in a row of the call's own. -/
structure OpsI (w wr : World) (Z : Nat → Prop) (A : Option Addr) (c : Nat) (ops : List OpR) : Prop where
  own : wr.ownsRow w.heap.size 101 1 (.slice A ops.length c) ops.length (ops.map OpR.val)
  ok : ∀ W, Fr w.heap.size (fun q => (Value.slice A ops.length c).ownBlock = some q ∨ Z q) wr W → ∀ x ∈ ops, x.ok W
  keep : Keep w wr
theorem OpsI.kept {w wr w2 : World} {Z : Nat → Prop} {A : Option Addr} {c : Nat} {ops : List OpR} (h : OpsI w wr Z A c ops) (hk : Keep wr w2) : OpsI w w2 Z A c ops :=
  ⟨own_keep h.own hk, fun W hW => h.ok W (hW.keep hk), keep_trans h.keep hk⟩
theorem OpsI.app {w y w7 : World} {Z : Nat → Prop} {A : Option Addr} {c : Nat} {ops : List OpR} (hI : OpsI w y Z A c ops) (xs : List OpR) (hx : ∀ W, Fr w.heap.size (fun q => (Value.slice A ops.length c).ownBlock = some q ∨ Z q) y W → ∀ x ∈ xs, x.ok W) {v' : Value}
    (own7 : w7.ownsRow w.heap.size 101 1 v' (ops.length + xs.length) (ops.map OpR.val ++ xs.map OpR.val)) (hg : y.grownBy w7 (Value.slice A ops.length c).ownBlock) (hat : v'.ownBlock = (Value.slice A ops.length c).ownBlock ∨ v'.ownBlock = some y.heap.size) :
    ∃ A' c', v' = .slice A' (ops ++ xs).length c' ∧ OpsI w w7 Z A' c' (ops ++ xs) ∧ (v'.ownBlock = (Value.slice A ops.length c).ownBlock ∨ v'.ownBlock = some y.heap.size) := by
  have own8 := own_eq own7 (n' := (ops ++ xs).length) (xs' := (ops ++ xs).map OpR.val) (by rw [List.length_append]) (by rw [List.map_append])
  obtain ⟨A', c', rfl, _⟩ := own_form own8
  refine ⟨A', c', rfl, ⟨own8, fun W hW x hx' => ?_, hI.keep.grown hg hI.keep.size (fun q hq => (hI.own.lt q hq).1)⟩, hat⟩
  have hf : Fr w.heap.size (fun q => (Value.slice A ops.length c).ownBlock = some q ∨ Z q) y W := fun k h1 h2 h3 => by
    have hn : (Value.slice A' (ops ++ xs).length c').ownBlock ≠ some k := fun e => by
      rcases hat with h4 | h4
      · exact h3 (.inl (h4.symm.trans e))
      · have e2 : y.heap.size = k := Option.some.inj (h4.symm.trans e)
        omega
    exact (hW k h1 (Nat.lt_of_lt_of_le h2 hg.size) (fun e => e.elim hn (fun e => h3 (.inr e)))).trans (hg.block k h2 (fun e => h3 (.inl e.symm)))
  rcases List.mem_append.1 hx' with h | h
  · exact hI.ok W hf x h
  · exact hx W hf x h
theorem HoldsOp.fr {y W : World} {lo : Nat} {X : Nat → Prop} {p q : Nat} {at_ : Int} {A : Option Addr} {s : List UInt8} {c : Nat} (h : HoldsOp y p q at_ A s c) (hp : lo ≤ p ∧ ¬ X p) (hq : lo ≤ q ∧ ¬ X q) (hW : Fr lo X y W) (hr : Rd W A (s.map u8v)) : HoldsOp W p q at_ A s c :=
  ⟨(World.cell?_of_block (w := y) (hW p hp.1 (cell_lt h.p) hp.2)).trans h.p, (World.cell?_of_block (w := y) (hW q hq.1 (cell_lt h.q) hq.2)).trans h.q, hr, h.l, h.i⟩
/-- Two boxes made and filled. -/
theorem two_boxesS (w : World) (hz sz hv sv : Array Value) (h1 : hz.size = hv.size) (h2 : sz.size = sv.size) (o1 : ∀ v ∈ hv.toList, v.oneCell' = true) (o2 : ∀ v ∈ sv.toList, v.oneCell' = true) : ∃ wa wb,
    (storeCells ⟨w.heap.size, 0, none⟩ hv.toList 0).run Tryd.prog ((w.alloc (.cells hz 65)).alloc (.cells sz 34)) = .ok () wa ∧ (storeCells ⟨w.heap.size + 1, 0, none⟩ sv.toList 0).run Tryd.prog wa = .ok () wb ∧
    Blk wb w.heap.size 65 hv.toList ∧ Blk wb (w.heap.size + 1) 34 sv.toList ∧ Keep w wb := by
  have b1 : Blk ((w.alloc (.cells hz 65)).alloc (.cells sz 34)) w.heap.size 65 hz.toList := (Blk.new w _ hz.toList).alloc _
  have b2 : Blk ((w.alloc (.cells hz 65)).alloc (.cells sz 34)) (w.heap.size + 1) 34 sz.toList := by
    have h := Blk.new (w.alloc (.cells hz 65)) 34 sz.toList
    rw [World.size_alloc] at h
    exact h
  obtain ⟨wa, s1, c1, g1⟩ := run_store_blk (P := Tryd.prog) hv.toList b1 (by simp [h1]) o1
  obtain ⟨wb, s2, c2, g2⟩ := run_store_blk (P := Tryd.prog) sv.toList (b2.grown g1 (fun e => by have e2 : w.heap.size = w.heap.size + 1 := Option.some.inj e; omega)) (by simp [h2]) o2
  have k0 : Keep w ((w.alloc (.cells hz 65)).alloc (.cells sz 34)) := keep_trans (keep_new _ _) (keep_new _ _)
  have k1 : Keep w wa := k0.grown g1 k0.size (fun q hq => by injection hq with hq; omega)
  exact ⟨wa, wb, s1, s2, c1.grown g2 (fun e => by have e2 : w.heap.size + 1 = w.heap.size := Option.some.inj e; omega), c2, k1.grown g2 k1.size (fun q hq => by injection hq with hq; omega)⟩
end Go.Proofs.YtbomnldpmkedbaaDoor
