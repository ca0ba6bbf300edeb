/- A slice of steps that came in, opened; the three other laws' walks. -/
import Derived.Test.YtofcjfkakmlbbaaScrJ
import Derived.Test.YtofcjfkakmlbbaaArg
namespace Go.Proofs.Ytofcjfkakmlbbaa
open Go.RowKit Go.ChangeShapes Go.WideShapes Go.Deep

theorem cellsByte : Try.prog.cellsOf 5 = 1 := by kernel_rfl
theorem cellsStep : Try.prog.cellsOf 26 = 4 := by kernel_rfl

theorem steps_open {H : Type} {enc : TypeId × Value → H} {w : World} {spare : Nat → Bool} {held : Bool} {fuel : Nat} {cs : List Value} {x : DataW H × List MemPlace}
    (h : DataW.trod enc Try.prog w 0 spare held fuel 22 cs = some x) :
    ∃ (A : Option Addr) (vs : List StepR) (c : Nat), cs = [.slice A vs.length c] ∧ vs.length ≤ c ∧ c ≤ maxLen ∧ Rd w A (vs.flatMap StepR.cells) ∧ ∀ s ∈ vs, Ok w s ∧ s.d.length ≤ s.cap ∧ s.cap ≤ maxLen := by
  obtain ⟨A, n, c, Cs, rfl, h1, h2, rfl, h3, h4⟩ := slice_open Try.underlying22 cellsStep (by omega) h
  obtain ⟨vs, rfl, hvs⟩ := list_choose (f := StepR.cells) (p := fun s => Ok w s ∧ s.d.length ≤ s.cap ∧ s.cap ≤ maxLen) Cs fun y hy => by
    obtain ⟨hl, m, z, hz⟩ := h4 y hy
    have F := fields_open Try.underlying26 (by kernel_rfl) hz hl
    match y, hl with
    | [c0, c1, c2, c3], _ =>
      obtain ⟨v0, m0, y0, e0, t0⟩ := F 0 _ rfl
      obtain ⟨v1, m1, y1, e1, t1⟩ := F 1 _ rfl
      obtain ⟨v2, m2, y2, e2, t2⟩ := F 2 _ rfl
      obtain ⟨v3, m3, y3, e3, t3⟩ := F 3 _ rfl
      simp only [List.getElem?_cons_zero, List.getElem?_cons_succ, Option.some.injEq] at e0 e1 e2 e3
      subst e0 e1 e2 e3
      obtain ⟨k, ek, _, _⟩ := DataW.trod_int Try.underlying3 t0
      obtain ⟨p, ep, _, _⟩ := DataW.trod_int Try.underlying3 t1
      obtain ⟨n, en, _, _⟩ := DataW.trod_int Try.underlying3 t2
      obtain ⟨B, d, cap, ed, g1, g2, g3⟩ := bytes_open Try.underlying23 Try.underlying5 cellsByte t3
      simp only [List.cons.injEq, and_true] at ek ep en ed
      subst ek ep en ed
      exact ⟨⟨k, p, n, B, cap, d⟩, rfl, g3, g1, g2⟩
  refine ⟨A, vs, c, by simp, by simpa using h1, h2, ?_, hvs⟩
  rwa [← List.flatMap_def] at h3
end Go.Proofs.Ytofcjfkakmlbbaa
