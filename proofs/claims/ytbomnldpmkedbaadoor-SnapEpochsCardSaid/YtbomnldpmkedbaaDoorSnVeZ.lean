/- Rows of headers that came in, opened. -/
import Derived.Test.YtbomnldpmkedbaaDoorSnVe
import Derived.Test.YtbomnldpmkedbaaDoorJrnZ
set_option linter.unusedSimpArgs false
set_option linter.unusedVariables false
namespace Go.Proofs.YtbomnldpmkedbaaDoor
open Go.RowKit Go.ChangeShapes Go.WideShapes Go.Deep

theorem cellsHeads : Tryd.prog.cellsOf 39 = 1 := by kernel_rfl
theorem flat_val : ∀ l : List RowH, (l.map fun r : RowH => [r.val]).flatten = l.map RowH.val
  | [] => rfl
  | a :: l => by rw [List.map_cons, List.flatten_cons, flat_val l]; rfl
theorem rows_open {H : Type} {enc : TypeId × Value → H} {w : World} {spare : Nat → Bool} {held : Bool} {fuel : Nat} {cs : List Value} {x : DataW H × List MemPlace}
    (h : DataW.trod enc Tryd.prog w 0 spare held fuel 29 cs = some x) :
    ∃ (A : Option Addr) (rows : List RowH) (c : Nat), cs = [.slice A rows.length c] ∧ rows.length ≤ c ∧ c ≤ maxLen ∧ Rd w A (rows.map RowH.val) ∧ ∀ r ∈ rows, OkRow w r := by
  obtain ⟨A, n, c, Cs, rfl, h1, h2, rfl, h3, h4⟩ := slice_open Tryd.underlying29 cellsHeads (by omega) h
  obtain ⟨l, rfl, hok⟩ := list_choose (f := fun r : RowH => [r.val]) (p := OkRow w) Cs fun y hy => by
    obtain ⟨_, m, z, hz⟩ := h4 y hy
    obtain ⟨A, l, c, rfl, g1, g2, g3, g4⟩ := heads_openJ hz
    exact ⟨⟨A, l, c⟩, rfl, g3, g4, g1, g2⟩
  refine ⟨A, l, c, by simp, by simpa using h1, h2, ?_, hok⟩
  rwa [flat_val] at h3
end Go.Proofs.YtbomnldpmkedbaaDoor
