import Derived.Test.YtofcjfkakmlbbaaRows
import Derived.Test.YtofcjfkakmlbbaaBase
namespace Go.Proofs.Ytofcjfkakmlbbaa
open Go.RowKit

structure StepR where
  k : Int
  p : Int
  n : Int
  A : Option Addr
  cap : Nat
  d : List UInt8


def fitsD (k p n : Int) (len : Nat) : Bool := decide (0 ≤ k ∧ k < 10 ∧ 0 ≤ p ∧ p ≤ 255 ∧ 0 ≤ n ∧ n ≤ 65535 ∧ len ≤ 65535)

theorem fitsD_t {k p n : Int} {len : Nat} (h : 0 ≤ k ∧ k < 10 ∧ 0 ≤ p ∧ p ≤ 255 ∧ 0 ≤ n ∧ n ≤ 65535 ∧ len ≤ 65535) : fitsD k p n len = true := decide_eq_true h
theorem fitsD_f {k p n : Int} {len : Nat} (h : ¬ (0 ≤ k ∧ k < 10 ∧ 0 ≤ p ∧ p ≤ 255 ∧ 0 ≤ n ∧ n ≤ 65535 ∧ len ≤ 65535)) : fitsD k p n len = false := decide_eq_false h

set_option maxHeartbeats 400000 in
theorem fits_any (k p n : Int) (A : Option Addr) (len cap : Nat) (w : World) (hl : len ≤ 9223372036854775807) :
    Calls Try.prog 8 #[.agg #[.int .i64 k, .int .i64 p, .int .i64 n, .slice A len cap]] w fun e w' =>
      e = .returned (.bool (fitsD k p n len)) ∧ Keep w w' := by
  go_enter Try.func8, Try.ntmps8
  go_wp2
  all_goals go_ret
  all_goals refine ⟨ret_bool ?_, (Below.refl _ _).alloc (Nat.le_refl _) _⟩
  all_goals unfold fitsD
  all_goals rw [Bool.eq_iff_iff]
  all_goals simp
  all_goals omega

set_option maxHeartbeats 400000 in
theorem at_any (A : Option Addr) (l : List UInt8) (cap : Nat) (i0 : Int) (w : World) (hi0 : 0 ≤ i0) (hl : l.length ≤ 9223372036854775807) (hr : Rd w A (l.map u8v)) :
    Calls Try.prog 19 #[.slice A l.length cap, .int .i64 i0] w fun e w' =>
      e = .returned (.int .i64 (l.getD i0.toNat 0).toNat) ∧ w = w' := by
  obtain ⟨i, rfl⟩ := Int.eq_ofNat_of_zero_le hi0
  rw [Int.toNat_natCast]
  by_cases h : i < l.length
  · obtain ⟨b, off, rfl, hb, hc⟩ := hr.at (k := i) (by simpa using h)
    have hi := hc i (by simpa using h)
    simp only [List.getElem_map] at hi
    clear hc
    go_enter Try.func19, Try.ntmps19
    go_wp2
    go_ret
    exact ⟨ret_int (by simp [h]), rfl⟩
  · go_enter Try.func19, Try.ntmps19
    go_wp2
    go_ret
    exact ⟨ret_int (by simp [List.getElem?_eq_none (Nat.le_of_not_lt h)]), rfl⟩
end Go.Proofs.Ytofcjfkakmlbbaa
