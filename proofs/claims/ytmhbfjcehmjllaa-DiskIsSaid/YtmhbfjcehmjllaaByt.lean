/- Rows of bytes; bytes.Clone. -/
import Derived.Test.YtmhbfjcehmjllaaRows
import Derived.Test.YtmhbfjcehmjllaaBase
import Derived.Deep.RegionHeld3
import Derived.Deep.DrawnRows
import Derived.Deep.DeepCutAuto
import Derived.Deep.RegionLaw
import Derived.Test.YtmhbfjcehmjllaaRgn
set_option linter.unusedSimpArgs false
set_option linter.unusedVariables false
namespace Go.Proofs.Ytmhbfjcehmjllaa
open Go.RowKit
attribute [local go_sem ↓] Go.wp_at_zero Go.wp_at_succ

theorem byteT : ElT Try.prog 22 5 (.int .u8 0) 1 1 := ElT.mk' Try.underlying22 (by kernel_rfl) rfl (by omega)
theorem one_bytes (l : List UInt8) : ∀ u ∈ l.map u8v, u.oneCell' = true := by
  intro u hu; obtain ⟨x, _, rfl⟩ := List.mem_map.1 hu; rfl

set_option maxHeartbeats 400000 in
theorem clone_any (A : Option Addr) (l : List UInt8) (c : Nat) (w : World) (hl : l.length ≤ 140737488355328) (hr : Rd w A (l.map u8v)) :
    Calls Try.prog 29 #[.slice A l.length c] w fun e w' => ∃ v, e = .returned v ∧ w'.ownsRow w.heap.size 5 1 v l.length (l.map u8v) ∧ Keep w w' := by
  have hq := fun W => run_eql_slice_nil (P := Try.prog) W A l.length c Try.underlying22
  cases A with
  | none =>
    obtain rfl : l = [] := by
      rcases hr with h | ⟨b, off, h, _⟩
      · simpa using h
      · cases h
    simp only [List.length_nil, Option.isNone_none] at hq
    go_enter Try.func29, Try.ntmps29
    go_wp2
    go_ret
    exact ⟨_, rfl, World.ownsRow_nil _ _ _ _, Below.refl _ _⟩
  | some a =>
    go_enter Try.func29, Try.ntmps29
    simp only [Option.isNone_some] at hq
    go_wp2_with (at_builtin; refine wpList_app byteT (by rfl) (.tmp 5) (.tmp 6) (by rfl) w.heap.size _ 0 [] (by rfl) (own_zero _ _ _) _ l.length c (l.map u8v) (by rfl) (by simp) (hr.alloc _) (one_bytes _) (by omega) (by unfold maxLen; omega) (by simp) ?_; intro v1 w1 hown1 hg1 hat1)
    go_ret
    rw [List.nil_append, Nat.zero_add] at hown1
    exact ⟨_, rfl, hown1, keep_grown ((Below.refl _ _).alloc (Nat.le_refl _) _) (by simp) hg1 (own_zero _ _ 1)⟩

end Go.Proofs.Ytmhbfjcehmjllaa
