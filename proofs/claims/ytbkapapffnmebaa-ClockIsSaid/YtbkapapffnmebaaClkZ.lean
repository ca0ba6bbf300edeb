/- Times that came in, opened. -/
import Derived.Test.YtbkapapffnmebaaClkE
import Derived.Test.YtbkapapffnmebaaArg
set_option linter.unusedSimpArgs false
set_option linter.unusedVariables false
namespace Go.Proofs.Ytbkapapffnmebaa
open Go.RowKit Go.ChangeShapes Go.WideShapes Go.Deep

theorem cellsWord : Try.prog.cellsOf 24 = 1 := by kernel_rfl
theorem gave_and {P : Program} {f : FuncId} {a : Array Value} {w : World} {v : Value} (h : Calls P f a w (Gave v w)) : Calls P f a w fun e w' => e = .returned v ∧ Keep w w' := h
theorem word_of {x : Int} (h : 0 ≤ x ∧ x ≤ 4294967295) : ∃ t : UInt32, x = (t.toNat : Int) :=
  ⟨UInt32.ofNat x.toNat, by rw [UInt32.toNat_ofNat']; omega⟩

theorem words_open {H : Type} {enc : TypeId × Value → H} {P : Program} {w : World} {spare : Nat → Bool} {held : Bool} {t e : TypeId} {fuel : Nat} {cs : List Value} {x : DataW H × List MemPlace} (ht : P.underlying t = some (.slice e)) (he : P.underlying e = some (.int .u32)) (hc : P.cellsOf e = 1)
    (h : DataW.trod enc P w 0 spare held fuel t cs = some x) :
    ∃ (A : Option Addr) (l : List UInt32) (c : Nat), cs = [.slice A l.length c] ∧ l.length ≤ c ∧ c ≤ maxLen ∧ Rd w A (l.map u32v) := by
  obtain ⟨A, n, c, Cs, rfl, h1, h2, rfl, h3, h4⟩ := slice_open ht hc (by omega) h
  obtain ⟨l, rfl, _⟩ := list_choose (f := fun x : UInt32 => [u32v x]) (p := fun _ => True) Cs fun y hy => by
    obtain ⟨_, m, z, hz⟩ := h4 y hy
    obtain ⟨n, rfl, _, hw⟩ := DataW.trod_int he hz
    obtain ⟨t, rfl⟩ := word_of (x := n) (by simpa [Lit.wf, IntKind.min, IntKind.max, IntKind.signed, IntKind.bits] using hw)
    exact ⟨t, rfl, trivial⟩
  refine ⟨A, l, c, by simp, by simpa using h1, h2, ?_⟩
  have e : (l.map fun x : UInt32 => [u32v x]).flatten = l.map u32v := by rw [← List.flatMap_def, ← List.map_eq_flatMap]
  rwa [e] at h3
end Go.Proofs.Ytbkapapffnmebaa
