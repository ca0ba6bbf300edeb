import Derived.Test.YteoilddiilegmaaDoorRows
import Derived.Test.YteoilddiilegmaaDoorMov
import Derived.Test.YteoilddiilegmaaDoorClkP
import Derived.Deep.RegionHeld3
import Derived.Deep.DrawnRows
import Derived.Deep.DeepCutAuto
import Derived.Deep.RegionLaw
import Derived.Lib.AppendZerosOnto
import Derived.Laws.Externs
import Derived.Lib.Overlaps
set_option linter.unusedSimpArgs false
set_option linter.unusedVariables false
namespace Go.Proofs.YteoilddiilegmaaDoor
open Go.RowKit
attribute [local go_sem ↓] Go.wp_at_zero Go.wp_at_succ

theorem wordT : ElT Tryd.prog 41 22 (.int .u32 0) 1 4 := ElT.mk' Tryd.underlying41 (by kernel_rfl) rfl (by omega)
theorem one_words (l : List UInt32) : ∀ u ∈ l.map u32v, u.oneCell' = true := by
  intro u hu; obtain ⟨x, _, rfl⟩ := List.mem_map.1 hu; rfl

set_option maxHeartbeats 400000 in
theorem less_any (x y : UInt32) (w : World) : Calls Tryd.prog 55 #[u32v x, u32v y] w fun e w' => e = .returned (.bool (decide (x.toNat < y.toNat))) ∧ w = w' := by
  go_enter Tryd.func55, Tryd.ntmps55
  go_wp2
  go_ret
  exact ⟨ret_bool (by simp), rfl⟩

def FoundC (n : Nat) (w : World) (e : Ending) (w' : World) : Prop := ∃ f, e = .returned (.tuple #[.int .i64 n, .bool f]) ∧ w = w'

set_option maxRecDepth 100000 in
set_option maxHeartbeats 2000000 in
theorem search_any (A : Option Addr) (xs : List UInt32) (c : Nat) (t : UInt32) (w : World) (hs : xs.Pairwise le32) (hl : xs.length ≤ 100000) (hr : Rd w A (xs.map u32v)) :
    Calls Tryd.prog 45 #[.slice A xs.length c, u32v t] w (FoundC (lb xs t) w) := by
  have hlb := lb_le xs t
  go_enter Tryd.func45, Tryd.ntmps45
  go_wp2_with fail
  go_loop [7, 8] (fun i j => ∃ a b : Nat, i = .int .i64 a ∧ j = .int .i64 b ∧ a ≤ lb xs t ∧ lb xs t ≤ b ∧ b ≤ xs.length) (fun i j => (intOf j).toNat - (intOf i).toNat)
  case atStart => exact ⟨0, xs.length, rfl, rfl, Nat.zero_le _, hlb, Nat.le_refl _⟩
  case round =>
    obtain ⟨a, b, rfl, rfl, ha, hb, hbl⟩ := hrel
    by_cases hlt : a < b
    · have hm : (a + b) / 2 < xs.length := by omega
      obtain ⟨g, o, rfl, hg, F⟩ := hr.at (k := (a + b) / 2) (by simpa using hm)
      have hc := F ((a + b) / 2) (by simpa using hm)
      simp only [List.getElem_map] at hc
      have h1 := fun h => lb_get_lt (t := t) hs hm h
      have h2 := fun h => lb_get_ge (t := t) hs hm h
      generalize xs[(a + b) / 2] = y at hc h1 h2
      have H1 := Lib.hid h1; have H2 := Lib.hid h2
      clear F h1 h2
      by_cases hy : y.toNat < t.toNat
      · have hlb2 : (a + b) / 2 < lb xs t := by
          rcases Nat.lt_or_ge ((a + b) / 2) (lb xs t) with h | h
          · exact h
          · have := H2.out h; omega
        go_wp2_with (go_at_call 55; refine (less_any y t _).mono ?_; rw [decide_eq_true hy]; rintro e w' ⟨rfl, rfl⟩)
        go_round
        case rel => exact ⟨(a + b) / 2 + 1, b, by go_num, rfl, by omega, hb, hbl⟩
        case measure => simp [intOf]; omega
      · have hlb2 : lb xs t ≤ (a + b) / 2 := by
          rcases Nat.lt_or_ge ((a + b) / 2) (lb xs t) with h | h
          · have := H1.out h; omega
          · exact h
        go_wp2_with (go_at_call 55; refine (less_any y t _).mono ?_; rw [decide_eq_false hy]; rintro e w' ⟨rfl, rfl⟩)
        go_round
        case rel => exact ⟨a, (a + b) / 2, rfl, by go_num, ha, hlb2, by omega⟩
        case measure => simp [intOf]; omega
    · obtain rfl : a = lb xs t := by omega
      obtain rfl : b = lb xs t := by omega
      generalize hk0 : lb xs t = k at ha hb hbl hlb hlt ⊢
      have Hk := Lib.hid hk0; clear hk0
      by_cases hk : k < xs.length
      · obtain ⟨g, o, rfl, hg, F⟩ := hr.at (k := k) (by simpa using hk)
        have hc := F k (by simpa using hk)
        simp only [List.getElem_map] at hc
        generalize xs[k] = y at hc
        clear F
        by_cases hy : y = t
        · subst hy
          go_wp2
          go_ret2
          exact ⟨true, by rw [Hk.out]; rfl, rfl⟩
        · have hy' : ((y.toNat : Int) == (t.toNat : Int)) = false := by
            have : y.toNat ≠ t.toNat := fun e => hy (UInt32.toNat_inj.1 e)
            simp; omega
          go_wp2
          go_ret2
          exact ⟨false, by rw [Hk.out]; rfl, rfl⟩
      · obtain rfl : k = xs.length := by omega
        go_wp2
        go_ret2
        exact ⟨false, by rw [Hk.out]; rfl, rfl⟩
end Go.Proofs.YteoilddiilegmaaDoor
