/- A region that draws its order, whose operations read and whose callees leave what was there (they may make memory that the value does not show): one walk in the order of the text, guards and all. -/
import Derived.Test.YtmhbfjcehmjllaaBase
import Derived.Deep.QuietTactic
import Derived.BigQuiet
set_option linter.unusedSimpArgs false
set_option linter.unusedVariables false
namespace Go.Proofs.Ytmhbfjcehmjllaa
open Go.RowKit

open Classical in
/-- A world behind w in which nothing of w has turned. -/
noncomputable def aft (w x : World) : World := if Keep w x then x else w
theorem aft_keep (w x : World) : Keep w (aft w x) := by
  unfold aft; split
  · assumption
  · exact Below.refl _ _
theorem aft_of {w w' : World} (h : Keep w w') : w' = aft w w' := by unfold aft; rw [if_pos h]
theorem aft_cell {w : World} {b o : Nat} {v : Value} (h : w.cell? ⟨b, o, none⟩ = some v) : ∀ x, (aft w x).cell? ⟨b, o, none⟩ = some v := fun x => keep_cell (aft_keep w x) h

theorem quiet_aft {P : Program} {f : FuncId} {args : Array Value} {w x : World} {v : Value} (h : Calls P f args (aft w x) fun e w' => e = .returned v ∧ Keep (aft w x) w') :
    Calls P f args (aft w x) fun e w'' => e = .returned v ∧ ∃ y, w'' = aft w y :=
  h.mono fun _ w' ⟨he, hk⟩ => ⟨he, w', aft_of (keep_trans (aft_keep w x) hk)⟩
theorem quiet_aft_same {P : Program} {f : FuncId} {args : Array Value} {w x : World} {v : Value} (h : Calls P f args (aft w x) fun e w' => e = .returned v ∧ aft w x = w') :
    Calls P f args (aft w x) fun e w'' => e = .returned v ∧ ∃ y, w'' = aft w y :=
  h.mono fun _ w' ⟨he, hk⟩ => ⟨he, x, hk.symm⟩

theorem wp_region_aft {P : Program} {id : Nat} {Q : Exit → Act → World → Prop} {a : Act} {w : World} {l : List Oper} (hm : P.follows .mixedOrders = true) (hB : Region.lexB .any l.toArray = true) (w0 : World) (hw : Keep w0 w)
    (h : wpQuiet P l.toArray (fun w' => ∃ x, w' = aft w0 x) (fun a' => ∀ w', (∃ x, w' = aft w0 x) → Q .normal a' w') l a) : (Code.region id l.toArray true).wp P Q a w :=
  wp_region_quiet (C := fun w' => ∃ x, w' = aft w0 x) hm hB ⟨_, aft_of (hw.drew)⟩ (by simpa using h)
end Go.Proofs.Ytmhbfjcehmjllaa
