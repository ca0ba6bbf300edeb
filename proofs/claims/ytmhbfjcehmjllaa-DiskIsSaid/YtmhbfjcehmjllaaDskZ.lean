/- A disk that came in, opened. -/
import Derived.Test.YtmhbfjcehmjllaaDsk
import Derived.Test.YtmhbfjcehmjllaaArg
set_option linter.unusedSimpArgs false
set_option linter.unusedVariables false
namespace Go.Proofs.Ytmhbfjcehmjllaa
open Go.RowKit Go.ChangeShapes Go.WideShapes Go.Deep

theorem cellsByte : Try.prog.cellsOf 5 = 1 := by kernel_rfl
theorem cellsWrite : Try.prog.cellsOf 53 = 2 := by kernel_rfl
theorem cellsDisk : Try.prog.cellsOf 25 = 2 := by kernel_rfl

theorem writes_open {H : Type} {enc : TypeId × Value → H} {w : World} {spare : Nat → Bool} {held : Bool} {fuel : Nat} {cs : List Value} {x : DataW H × List MemPlace}
    (h : DataW.trod enc Try.prog w 0 spare held fuel 23 cs = some x) :
    ∃ (A : Option Addr) (vs : List WriteR) (c : Nat), cs = [.slice A vs.length c] ∧ vs.length ≤ c ∧ c ≤ maxLen ∧ Rd w A (vs.flatMap WriteR.cells) ∧ ∀ s ∈ vs, OkW w s := by
  obtain ⟨A, n, c, Cs, rfl, h1, h2, rfl, h3, h4⟩ := slice_open Try.underlying23 cellsWrite (by omega) h
  obtain ⟨vs, rfl, hvs⟩ := list_choose (f := WriteR.cells) (p := fun s => OkW w s) Cs fun y hy => by
    obtain ⟨hl, m, z, hz⟩ := h4 y hy
    have F := fields_open Try.underlying53 (by kernel_rfl) hz hl
    match y, hl with
    | [c0, c1], _ =>
      obtain ⟨v0, m0, y0, e0, t0⟩ := F 0 _ rfl
      obtain ⟨v1, m1, y1, e1, t1⟩ := F 1 _ rfl
      simp only [List.getElem?_cons_zero, List.getElem?_cons_succ, Option.some.injEq] at e0 e1
      subst e0 e1
      obtain ⟨k, ek, _, _⟩ := DataW.trod_int Try.underlying3 t0
      obtain ⟨B, d, cap, ed, g1, g2, g3⟩ := bytes_open Try.underlying22 Try.underlying5 cellsByte t1
      simp only [List.cons.injEq, and_true] at ek ed
      subst ek ed
      exact ⟨⟨k, B, cap, d⟩, rfl, g3, g1, g2⟩
  refine ⟨A, vs, c, by simp, by simpa using h1, h2, ?_, hvs⟩
  rwa [← List.flatMap_def] at h3

theorem disk_open {H : Type} {enc : TypeId × Value → H} {w : World} {spare : Nat → Bool} {held : Bool} {fuel : Nat} {cs : List Value} {x : DataW H × List MemPlace}
    (h : DataW.trod enc Try.prog w 0 spare held fuel 25 cs = some x) (hl : cs.length = 2) :
    ∃ (A : Option Addr) (b : List UInt8) (c : Nat) (PA : Option Addr) (ws : List WriteR) (pc : Nat), cs = [.slice A b.length c, .slice PA ws.length pc] ∧ DOk w A b c PA ws pc := by
  have F := fields_open Try.underlying25 (by kernel_rfl) h hl
  match cs, hl with
  | [c0, c1], _ =>
    obtain ⟨v0, m0, y0, e0, t0⟩ := F 0 _ rfl
    obtain ⟨v1, m1, y1, e1, t1⟩ := F 1 _ rfl
    simp only [List.getElem?_cons_zero, List.getElem?_cons_succ, Option.some.injEq] at e0 e1
    subst e0 e1
    obtain ⟨A, b, c, ed, g1, g2, g3⟩ := bytes_open Try.underlying22 Try.underlying5 cellsByte t0
    obtain ⟨PA, ws, pc, ew, k1, k2, k3, k4⟩ := writes_open t1
    simp only [List.cons.injEq, and_true] at ed ew
    subst ed ew
    exact ⟨A, b, c, PA, ws, pc, rfl, g3, g1, g2, k3, k1, k2, k4⟩
end Go.Proofs.Ytmhbfjcehmjllaa
