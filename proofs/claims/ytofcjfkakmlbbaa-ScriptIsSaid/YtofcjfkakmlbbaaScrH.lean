import Derived.Test.YtofcjfkakmlbbaaScrG
namespace Go.Proofs.Ytofcjfkakmlbbaa
open Go.RowKit

def nameL (k : Int) : List UInt8 :=
  if k = 0 then [99, 111, 110, 110, 101, 99, 116] else
  if k = 1 then [98, 121, 116, 101, 115] else
  if k = 2 then [116, 105, 99, 107] else
  if k = 3 then [119, 97, 116, 99, 104] else
  if k = 4 then [97, 115, 107] else
  if k = 5 then [116, 105, 112] else
  if k = 6 then [116, 120] else
  if k = 7 then [115, 121, 110, 99] else
  if k = 8 then [99, 114, 97, 115, 104] else
  if k = 9 then [99, 111, 109, 112, 97, 99, 116] else
  []

set_option maxRecDepth 100000 in
set_option maxHeartbeats 1000000 in
theorem name_any (k : Int) (w : World) : Calls Try.prog 17 #[.int .i64 k] w fun e w' => e = .returned (.string (str (nameL k))) ∧ Keep w w' := by
  by_cases h : 0 ≤ k ∧ k ≤ 9
  · obtain ⟨h1, h2⟩ := h
    rcases (show k = 0 ∨ k = 1 ∨ k = 2 ∨ k = 3 ∨ k = 4 ∨ k = 5 ∨ k = 6 ∨ k = 7 ∨ k = 8 ∨ k = 9 by omega) with rfl | rfl | rfl | rfl | rfl | rfl | rfl | rfl | rfl | rfl
    all_goals
      clear h1 h2
      go_enter Try.func17, Try.ntmps17
      go_wp2
      go_ret
      exact ⟨rfl, Below.refl _ _⟩
  · have hn : nameL k = [] := by
      unfold nameL
      repeat rw [if_neg (by omega)]
    have HN := Lib.hid hn; clear hn
    have g0 : (k == 0) = false := by simp; omega
    have g1 : (k == 1) = false := by simp; omega
    have g2 : (k == 2) = false := by simp; omega
    have g3 : (k == 3) = false := by simp; omega
    have g4 : (k == 4) = false := by simp; omega
    have g5 : (k == 5) = false := by simp; omega
    have g6 : (k == 6) = false := by simp; omega
    have g7 : (k == 7) = false := by simp; omega
    have g8 : (k == 8) = false := by simp; omega
    have g9 : (k == 9) = false := by simp; omega
    clear h
    go_enter Try.func17, Try.ntmps17
    go_wp2
    go_ret
    exact ⟨by rw [HN.out]; rfl, Below.refl _ _⟩

set_option maxRecDepth 100000 in
set_option maxHeartbeats 1000000 in
theorem rname_any (k : Int) (w : World) : Calls Try.prog 18 #[.int .i64 k] w fun e w' => e = .returned (.string (str (nameL k))) ∧ Keep w w' := by
  by_cases h : 0 ≤ k ∧ k ≤ 9
  · obtain ⟨h1, h2⟩ := h
    rcases (show k = 0 ∨ k = 1 ∨ k = 2 ∨ k = 3 ∨ k = 4 ∨ k = 5 ∨ k = 6 ∨ k = 7 ∨ k = 8 ∨ k = 9 by omega) with rfl | rfl | rfl | rfl | rfl | rfl | rfl | rfl | rfl | rfl
    all_goals
      clear h1 h2
      go_enter Try.func18, Try.ntmps18
      go_wp2
      go_ret
      exact ⟨rfl, (Below.refl _ _).alloc (Nat.le_refl _) _⟩
  · have hn : nameL k = [] := by
      unfold nameL
      repeat rw [if_neg (by omega)]
    have HN := Lib.hid hn; clear hn
    by_cases h0 : k < 0
    · clear h
      go_enter Try.func18, Try.ntmps18
      go_wp2
      go_ret
      exact ⟨by rw [HN.out]; rfl, (Below.refl _ _).alloc (Nat.le_refl _) _⟩
    · have h9 : 9 < k := by omega
      clear h
      go_enter Try.func18, Try.ntmps18
      go_wp2
      go_ret
      exact ⟨by rw [HN.out]; rfl, (Below.refl _ _).alloc (Nat.le_refl _) _⟩

end Go.Proofs.Ytofcjfkakmlbbaa
