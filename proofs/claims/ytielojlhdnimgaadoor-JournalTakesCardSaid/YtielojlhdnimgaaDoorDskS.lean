/- A cell of a splice. -/
import Derived.Test.YtielojlhdnimgaaDoorDskG
set_option linter.unusedSimpArgs false
set_option linter.unusedVariables false
namespace Go.Proofs.YtielojlhdnimgaaDoor
open Go.RowKit

theorem splice_get {b d : List UInt8} {o k : Nat} (hk : k < b.length) (ho : o + d.length ≤ b.length) : (splice b o d)[k]? = if o ≤ k ∧ k < o + d.length then d[k - o]? else b[k]? := by
  unfold splice
  by_cases h1 : k < o
  · rw [if_neg (by omega), List.getElem?_append_left (by simp; omega), List.getElem?_take, if_pos h1]
  · by_cases h2 : k < o + d.length
    · rw [if_pos ⟨by omega, h2⟩, List.getElem?_append_right (by simp; omega), List.getElem?_append_left (by simp; omega)]
      congr 1; simp; omega
    · rw [if_neg (by omega), List.getElem?_append_right (by simp; omega), List.getElem?_append_right (by simp; omega), List.getElem?_drop]
      congr 1; simp; omega

end Go.Proofs.YtielojlhdnimgaaDoor
