/- A region in one order, whose operations only read, and whose callees leave what was there: guards and all (as in SnVr, of no chapter). -/
import Derived.Test.YtmhbfjcehmjllaaRgn
set_option linter.unusedSimpArgs false
set_option linter.unusedVariables false
namespace Go.Proofs.Ytmhbfjcehmjllaa
open Go.RowKit
theorem wpList_of_quietP {P : Program} {ops : Array Oper} {C : World → Prop} {N : Act → Prop} {Q : Exit → Act → World → Prop} (hN : ∀ a w, C w → N a → Q .normal a w) : ∀ (l : List Oper) (a : Act) (w : World), C w → wpQuiet P ops C N l a → wpList P ops Q l a w
  | [], a, w, hC, h => hN a w hC h
  | o :: l, a, w, hC, h => by
    unfold wpQuiet at h
    unfold wpList
    split at h
    · rename_i hw
      rw [if_pos hw]
      exact .inl (Oper.wp_of_quiet hC (fun a' w' hw' hk => wpList_of_quietP hN l a' w' hw' hk) h)
    · rename_i hw
      rw [if_neg hw]
      exact wpList_of_quietP hN l _ w hC h
theorem wp_region_plainp {P : Program} {id : Nat} {Q : Exit → Act → World → Prop} {a : Act} {w : World} {l : List Oper} (w0 : World) (hw : Keep w0 w)
    (h : wpQuiet P l.toArray (fun w' => ∃ x, w' = aft w0 x) (fun a' => ∀ w', (∃ x, w' = aft w0 x) → Q .normal a' w') l a) : (Code.region id l.toArray false).wp P Q a w :=
  wp_region_lit (wpList_of_quietP (fun a' w' hw' h => h w' hw') l a w ⟨_, aft_of hw⟩ h)
end Go.Proofs.Ytmhbfjcehmjllaa
