/- disk.Read. -/
import Derived.Test.YtmhbfjcehmjllaaDsk
set_option linter.unusedSimpArgs false
set_option linter.unusedVariables false
namespace Go.Proofs.Ytmhbfjcehmjllaa
open Go.RowKit
attribute [local go_sem ↓] Go.wp_at_zero Go.wp_at_succ

def readD (b : List UInt8) (ws : List WriteR) (i : Int) : List UInt8 × Int :=
  if 0 ≤ i ∧ i < ((bytesD b ws).length / 32 : Nat) then (((bytesD b ws).drop (32 * i.toNat)).take 32, 0) else ([], 14)

set_option maxRecDepth 100000 in
set_option maxHeartbeats 2000000 in
theorem read_any (A : Option Addr) (b : List UInt8) (c : Nat) (PA : Option Addr) (ws : List WriteR) (pc : Nat) (i : Int) (w : World) (h : DOk w A b c PA ws pc) :
    Calls Try.prog 7 #[DV A b.length c PA ws.length pc, .int .i64 i] w fun e w' => ∃ A' c', e = .returned (.tuple #[.slice A' (readD b ws i).1.length c', .int .i64 (readD b ws i).2]) ∧ Rd w' A' ((readD b ws i).1.map u8v) ∧ Keep w w' := by
  go_enter Try.func7, Try.ntmps7
  go_wp2_with fail
  refine (bytes_any _ _ _ _ _ _ _ (h.keep ((Below.refl _ _).alloc (Nat.le_refl _) _))).mono ?_
  rintro e w2 ⟨v, rfl, hown, hk2⟩
  have k2 : Keep w w2 := keep_trans ((Below.refl _ _).alloc (Nat.le_refl _) _) hk2
  obtain ⟨A2, c2, rfl, hc2, hm2, hrd2⟩ := own_form hown
  unfold maxLen at hm2
  by_cases hi0 : i < 0
  · have HR : readD b ws i = ([], 14) := if_neg (by omega)
    go_wp2_with fail
    exact bodyPost_ret (v := .tuple #[.slice none 0 0, .int .i64 14]) (by simp [results, Try.results7, go_sem]) rfl ⟨none, 0, by rw [HR]; rfl, by rw [HR]; exact .inl rfl, k2⟩
  · have hwz : wrap64 (((bytesD b ws).length : Int) / 32) = ((bytesD b ws).length / 32 : Nat) := by
      unfold wrap64; omega
    by_cases hi1 : i < ((bytesD b ws).length / 32 : Nat)
    · have HR : readD b ws i = (((bytesD b ws).drop (32 * i.toNat)).take 32, 0) := if_pos ⟨by omega, hi1⟩
      have hl32 : (((bytesD b ws).drop (32 * i.toNat)).take 32).length = 32 := by rw [List.length_take, List.length_drop]; omega
      rcases hrd2 with h0 | ⟨g, off, rfl, hcell⟩
      · have := congrArg List.length h0; simp at this; rw [this] at hi1; simp at hi1; omega
      · go_wp2_with fail
        obtain ⟨n, hn⟩ : ∃ n : Nat, i = n := ⟨i.toNat, by omega⟩
        refine (sector_any g off (bytesD b ws).length c2 n w2 (by omega) hc2 (by omega) i hn).mono ?_
        rintro e w3 ⟨rfl, rfl⟩
        go_wp2_with fail
        refine bodyPost_ret (v := .tuple #[.slice (some ⟨g, off + 32 * n, none⟩) 32 32, .int .i64 0]) (by simp [results, Try.results7, go_sem]) rfl ⟨_, 32, by rw [HR, hl32], ?_, k2⟩
        rw [HR, hn, List.map_take, List.map_drop]
        exact Rd.sub (.inr ⟨g, off, rfl, hcell⟩) _ _ (by simp; omega)
    · have HR : readD b ws i = ([], 14) := if_neg (by omega)
      go_wp2_with fail
      exact bodyPost_ret (v := .tuple #[.slice none 0 0, .int .i64 14]) (by simp [results, Try.results7, go_sem]) rfl ⟨none, 0, by rw [HR]; rfl, by rw [HR]; exact .inl rfl, k2⟩
end Go.Proofs.Ytmhbfjcehmjllaa
