/- Headers that came in, opened. -/
import Derived.Test.YtbkapapffnmebaaClkZ
import Derived.Test.YtbkapapffnmebaaClkO
import Derived.OpenShut
set_option linter.unusedSimpArgs false
set_option linter.unusedVariables false
namespace Go.Proofs.Ytbkapapffnmebaa
open Go.RowKit Go.ChangeShapes Go.WideShapes Go.Deep

theorem one_of {P : Program} {w : World} {H : Type} {enc : TypeId × Value → H} {spare : Nat → Bool} {held : Bool} {t : TypeId} {k : IntKind} {fuel : Nat} {cs : List Value} {x : DataW H × List MemPlace} (ht : P.underlying t = some (.int k))
    (h : DataW.trod enc P w 0 spare held fuel t cs = some x) : ∀ u ∈ cs, u.oneCell' = true := by
  obtain ⟨n, rfl, _, _⟩ := DataW.trod_int ht h
  intro u hu
  obtain rfl := List.mem_singleton.1 hu
  rfl
theorem array_ones {P : Program} {w : World} {H : Type} {enc : TypeId × Value → H} {spare : Nat → Bool} {held : Bool} {t e : TypeId} {k : IntKind} {n : Nat} {fuel : Nat} {cs : List Value} {x : DataW H × List MemPlace} (ht : P.underlying t = some (.array n e)) (he : P.underlying e = some (.int k)) (hc : P.cellsOf e = 1) (hl : P.cellsOf t = n)
    (h : DataW.trod enc P w 0 spare held fuel t cs = some x) : ∀ u ∈ cs, u.oneCell' = true := by
  obtain ⟨xs, m, _, _, h1, h2, h3⟩ := DataW.trod_array ht h
  intro u hu
  obtain ⟨i, hi, rfl⟩ := List.mem_iff_getElem.1 hu
  have hin : i < n := by rw [hl] at h1; omega
  have h4 := h3 i hin
  rw [hc, Nat.mul_one, List.getElem?_eq_getElem (by omega)] at h4
  refine one_of he h4 _ ?_
  rw [List.drop_eq_getElem_cons hi, List.take_succ_cons]
  exact List.mem_cons_self

theorem cellsHeader : Try.prog.cellsOf 42 = 68 := by kernel_rfl
theorem cellsHash : Try.prog.cellsOf 40 = 32 := by kernel_rfl
theorem underHash : Try.prog.underlying 40 = some (.array 32 5) := by kernel_rfl

theorem header_open {H : Type} {enc : TypeId × Value → H} {w : World} {spare : Nat → Bool} {held : Bool} {fuel : Nat} {cs : List Value} {x : DataW H × List MemPlace}
    (h : DataW.trod enc Try.prog w 0 spare held fuel 42 cs = some x) : ∃ r : HdR, cs = r.cells := by
  obtain ⟨xs, n, _, _, hl, hx, F⟩ := DataW.trod_struct Try.underlying42 h
  rw [cellsHeader] at hl
  have hx' : xs.length = 6 := hx
  have g : ∀ (i : Nat) (hi : i < 6), xs[i]? = some (xs[i]'(by omega)) := fun i hi => List.getElem?_eq_getElem (by omega)
  have f0 : DataW.trod enc Try.prog w 0 spare held n 24 ((cs.drop 0).take (Try.prog.cellsOf 24)) = some _ := (F 0 _ rfl).trans (g 0 (by omega))
  have f1 : DataW.trod enc Try.prog w 0 spare held n 40 ((cs.drop 1).take (Try.prog.cellsOf 40)) = some _ := (F 1 _ rfl).trans (g 1 (by omega))
  have f2 : DataW.trod enc Try.prog w 0 spare held n 40 ((cs.drop 33).take (Try.prog.cellsOf 40)) = some _ := (F 2 _ rfl).trans (g 2 (by omega))
  have f3 : DataW.trod enc Try.prog w 0 spare held n 24 ((cs.drop 65).take (Try.prog.cellsOf 24)) = some _ := (F 3 _ rfl).trans (g 3 (by omega))
  have f4 : DataW.trod enc Try.prog w 0 spare held n 24 ((cs.drop 66).take (Try.prog.cellsOf 24)) = some _ := (F 4 _ rfl).trans (g 4 (by omega))
  have f5 : DataW.trod enc Try.prog w 0 spare held n 24 ((cs.drop 67).take (Try.prog.cellsOf 24)) = some _ := (F 5 _ rfl).trans (g 5 (by omega))
  simp only [cellsWord, cellsHash] at f0 f1 f2 f3 f4 f5
  have o0 := one_of Try.underlying24 f0
  have o1 := array_ones underHash Try.underlying5 (by kernel_rfl) cellsHash f1
  have o2 := array_ones underHash Try.underlying5 (by kernel_rfl) cellsHash f2
  have o4 := one_of Try.underlying24 f4
  have o5 := one_of Try.underlying24 f5
  obtain ⟨k, ek, _, wk⟩ := DataW.trod_int Try.underlying24 f3
  obtain ⟨t, rfl⟩ := word_of (x := k) (by simpa [Lit.wf, IntKind.min, IntKind.max, IntKind.signed, IntKind.bits] using wk)
  have e65 : cs = cs.take 65 ++ (u32v t :: cs.drop 66) := by
    have : cs.drop 65 = u32v t :: cs.drop 66 := by
      have h1 : cs.drop 65 = (cs.drop 65).take 1 ++ (cs.drop 65).drop 1 := (List.take_append_drop 1 _).symm
      rw [ek, List.drop_drop] at h1
      exact h1
    rw [← this, List.take_append_drop]
  refine ⟨⟨cs.take 65, t, cs.drop 66, by rw [List.length_take]; omega, by rw [List.length_drop]; omega, ?_, ?_⟩, e65⟩
  · intro u hu
    have e1 : cs.take 65 = (cs.drop 0).take 1 ++ ((cs.drop 1).take 32 ++ (cs.drop 33).take 32) := by
      rw [show cs.take 65 = (cs.take 65).take 1 ++ ((cs.take 65).drop 1) from (List.take_append_drop 1 _).symm]
      rw [show (cs.take 65).drop 1 = ((cs.take 65).drop 1).take 32 ++ ((cs.take 65).drop 1).drop 32 from (List.take_append_drop 32 _).symm]
      simp [List.take_take, List.drop_take, List.drop_drop]
    rw [e1, List.mem_append, List.mem_append] at hu
    rcases hu with hu | hu | hu
    · exact o0 u hu
    · exact o1 u hu
    · exact o2 u hu
  · intro u hu
    have e1 : cs.drop 66 = (cs.drop 66).take 1 ++ (cs.drop 67).take 1 := by
      conv => lhs; rw [← List.take_append_drop 1 (cs.drop 66), List.drop_drop]
      congr 1
      rw [List.take_of_length_le (by rw [List.length_drop]; omega)]
    rw [e1, List.mem_append] at hu
    rcases hu with hu | hu
    · exact o4 u hu
    · exact o5 u hu

theorem headers_open {H : Type} {enc : TypeId × Value → H} {w : World} {spare : Nat → Bool} {held : Bool} {fuel : Nat} {cs : List Value} {x : DataW H × List MemPlace}
    (h : DataW.trod enc Try.prog w 0 spare held fuel 32 cs = some x) :
    ∃ (A : Option Addr) (l : List HdR) (c : Nat), cs = [.slice A l.length c] ∧ l.length ≤ c ∧ c ≤ maxLen ∧ Rd w A (l.flatMap HdR.cells) := by
  obtain ⟨A, n, c, Cs, rfl, h1, h2, rfl, h3, h4⟩ := slice_open Try.underlying32 cellsHeader (by omega) h
  obtain ⟨l, rfl, _⟩ := list_choose (f := HdR.cells) (p := fun _ => True) Cs fun y hy => by
    obtain ⟨_, m, z, hz⟩ := h4 y hy
    obtain ⟨r, rfl⟩ := header_open hz
    exact ⟨r, rfl, trivial⟩
  refine ⟨A, l, c, by simp, by simpa using h1, h2, ?_⟩
  rwa [← List.flatMap_def] at h3
end Go.Proofs.Ytbkapapffnmebaa
