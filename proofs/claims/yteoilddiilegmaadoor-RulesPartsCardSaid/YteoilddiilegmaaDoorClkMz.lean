/- Headers by their times. -/
import Derived.Test.YteoilddiilegmaaDoorClkE
set_option linter.unusedSimpArgs false
set_option linter.unusedVariables false
namespace Go.Proofs.YteoilddiilegmaaDoor
open Go.RowKit
attribute [local go_sem ↓] Go.wp_at_zero Go.wp_at_succ

structure HdR where
  pre : List Value
  t : UInt32
  post : List Value
  h1 : pre.length = 65
  h2 : post.length = 2
  h3 : ∀ u ∈ pre, u.oneCell' = true
  h4 : ∀ u ∈ post, u.oneCell' = true
def HdR.cells (h : HdR) : List Value := h.pre ++ u32v h.t :: h.post
theorem HdR.len (h : HdR) : h.cells.length = 68 := by simp [HdR.cells, h.h1, h.h2]
theorem HdR.time (h : HdR) : h.cells[65]? = some (u32v h.t) := by
  unfold HdR.cells
  rw [List.getElem?_append_right (by rw [h.h1]; omega), h.h1]; rfl
theorem HdR.at {w : World} {A : Option Addr} {hs : List HdR} (hr : Rd w A (hs.flatMap HdR.cells)) {k : Nat} (hk : k < hs.length) :
    ∃ b off, A = some ⟨b, off, none⟩ ∧ b < w.heap.size ∧ ∀ j, j < 68 → w.cell? ⟨b, off + k * 68 + j, none⟩ = hs[k].cells[j]? := by
  obtain ⟨b, off, rfl, hb, F⟩ := hr.at (k := k * 68) (by rw [flatMap_len _ 68 HdR.len]; omega)
  exact ⟨b, off, rfl, hb, fun j hj => Rd.field HdR.len F k j hk hj⟩

theorem times_snoc (hs : List HdR) (k : Nat) (h : k < hs.length) : (hs.take (k + 1)).map HdR.t = (hs.take k).map HdR.t ++ [hs[k].t] := by
  rw [List.take_succ_eq_append_getElem h, List.map_append]; rfl

end Go.Proofs.YteoilddiilegmaaDoor
