/- florinref18.Read, Sync. -/
import Derived.Test.YtmhbfjcehmjllaaDrd
import Derived.Test.YtmhbfjcehmjllaaDskR
set_option linter.unusedSimpArgs false
set_option linter.unusedVariables false
namespace Go.Proofs.Ytmhbfjcehmjllaa
open Go.RowKit
attribute [local go_sem ↓] Go.wp_at_zero Go.wp_at_succ
set_option maxRecDepth 100000 in
set_option maxHeartbeats 2000000 in
theorem rsync_any (A : Option Addr) (b : List UInt8) (c : Nat) (PA : Option Addr) (ws : List WriteR) (pc : Nat) (w : World) (h : DOk w A b c PA ws pc) :
    Calls Try.prog 20 #[DV A b.length c PA ws.length pc] w fun e w' => ∃ A' c', e = .returned (DV A' (bytesD b ws).length c' none 0 0) ∧ DOk w' A' (bytesD b ws) c' none [] 0 ∧ Keep w w' := by
  go_enter Try.func20, Try.ntmps20
  go_wp2_with (go_at_call 18; refine (rbytes_any _ _ _ _ _ _ _ (h.keep (((Below.refl _ _).alloc (Nat.le_refl _) _).alloc (by simp) _))).mono ?_; rintro e w2 ⟨v, rfl, hown, hk2⟩; have r0 : w2.cell? ⟨w.heap.size + 1, 0, none⟩ = some (.slice none 0 0) := keep_cell hk2 (by go_simp); have r1 : w2.cell? ⟨w.heap.size + 1, 1, none⟩ = some (.slice none 0 0) := keep_cell hk2 (by go_simp); have g0 : w2.frozen? ⟨w.heap.size + 1, 0, none⟩ = false := keep_frozen hk2 (by simp) (by go_simp); have g1 : w2.frozen? ⟨w.heap.size + 1, 1, none⟩ = false := keep_frozen hk2 (by simp) (by go_simp); have k2 : Keep w w2 := keep_trans (((Below.refl _ _).alloc (Nat.le_refl _) _).alloc (by simp) _) hk2; obtain ⟨A2, c2, rfl, hc2, hm2, hrd2⟩ := own_form hown)
  unfold maxLen at hm2
  refine bodyPost_ret (v := DV A2 (bytesD b ws).length c2 none 0 0) (by simp [results, Try.results20, go_sem, r0, r1, g0, g1]) rfl ⟨A2, c2, rfl, ⟨?_, hc2, by unfold maxLen; omega, .inl rfl, Nat.le_refl _, by unfold maxLen; omega, fun x hx => absurd hx (by simp)⟩, ?_⟩
  · have ho9 := ownsRow_setCell_below (ownsRow_setCell_below hown (a := ⟨w.heap.size + 1, 0, none⟩) (by simp) (.slice A2 (bytesD b ws).length c2)) (a := ⟨w.heap.size + 1, 1, none⟩) (by simp) (.slice none 0 0)
    exact own_rd ho9
  · exact (k2.setCell (by simp) _).setCell (by simp) _
theorem elem_bD : Try.prog.elem 22 = 5 := by kernel_rfl
theorem u8_sizeD (y : World) : (sizeOf 5).run Try.prog y = .ok 1 y := by kernel_rfl
theorem slice_32 (g off N c n : Nat) (h : 32 * n + 32 ≤ N) (hc : N ≤ c) (y : World) : (Instr.slice 22 (.slice (some ⟨g, off, none⟩) N c) (some (.int .i64 (32 * (n : Int)))) (some (.int .i64 (32 * (n : Int) + 32))) none).run Try.prog y = .ok (.slice (if c = 32 * n then some ⟨g, off, none⟩ else some ⟨g, off + 32 * n, none⟩) 32 (c - 32 * n)) y := by
  have hh : (32 * (n : Int) + 32).toNat = 32 * n + 32 := by omega
  have h1 : (32 * (n : Int)).toNat = 32 * n := by omega
  rw [run_slice_lh y 22 (some ⟨g, off, none⟩) N c (by rw [elem_bD]; exact Try.underlying22) .i64 .i64 (32 * (n : Int)) (32 * (n : Int) + 32) (by omega) (by omega) (by omega), elem_bD, u8_sizeD, Result.andThen_ok, hh, h1, sliced]
  have e1 : 32 * n + 32 - 32 * n = 32 := by omega
  rw [e1]
  by_cases hc : c = 32 * n
  · rw [if_pos hc, if_pos hc]
  · rw [if_neg hc, if_neg hc]
    simp [Addr.add]
set_option maxRecDepth 100000 in
set_option maxHeartbeats 2000000 in
theorem rread_any (A : Option Addr) (b : List UInt8) (c : Nat) (PA : Option Addr) (ws : List WriteR) (pc : Nat) (i : Int) (w : World) (h : DOk w A b c PA ws pc) :
    Calls Try.prog 8 #[DV A b.length c PA ws.length pc, .int .i64 i] w fun e w' => ∃ A' c', e = .returned (.tuple #[.slice A' (readD b ws i).1.length c', .int .i64 (readD b ws i).2]) ∧ Rd w' A' ((readD b ws i).1.map u8v) ∧ Keep w w' := by
  have BY : Hid (∀ y, Keep w y → Calls Try.prog 18 #[DV A b.length c PA ws.length pc] y fun e w' => ∃ v, e = .returned v ∧ w'.ownsRow y.heap.size 5 1 v (bytesD b ws).length ((bytesD b ws).map u8v) ∧ Keep y w') := Lib.hid fun y hy => rbytes_any _ _ _ _ _ _ _ (h.keep hy)
  have HR : Hid (readD b ws i = if 0 ≤ i ∧ i < ((bytesD b ws).length / 32 : Nat) then (((bytesD b ws).drop (32 * i.toNat)).take 32, 0) else ([], 14)) := Lib.hid rfl
  obtain ⟨Y, hY⟩ : ∃ Y, bytesD b ws = Y := ⟨_, rfl⟩
  rw [hY] at BY HR
  generalize readD b ws i = R at *
  clear h hY
  by_cases hi0 : i < 0
  · have hR := HR.out
    rw [if_neg (by omega)] at hR
    subst hR
    clear HR
    go_enter Try.func8, Try.ntmps8
    go_wp2_with (go_at_call 18; refine (BY.out _ ((Below.refl _ _).alloc (Nat.le_refl _) _)).mono ?_; rintro e w2 ⟨v, rfl, hown, hk2⟩; have k2 : Keep w w2 := keep_trans ((Below.refl _ _).alloc (Nat.le_refl _) _) hk2; obtain ⟨A2, c2, rfl, hc2, hm2, hrd2⟩ := own_form hown)
    exact bodyPost_ret (v := .tuple #[.slice none 0 0, .int .i64 14]) (by simp [results, Try.results8]) rfl ⟨none, 0, rfl, .inl rfl, k2⟩
  · by_cases hi1 : i < (Y.length / 32 : Nat)
    · have hR := HR.out
      rw [if_pos ⟨by omega, hi1⟩] at hR
      obtain ⟨n, hn⟩ : ∃ n : Nat, i = n := ⟨i.toNat, by omega⟩
      subst hn
      rw [Int.toNat_natCast] at hR
      have hl32 : ((Y.drop (32 * n)).take 32).length = 32 := by rw [List.length_take, List.length_drop]; omega
      have hfit : 32 * n + 32 ≤ Y.length := by omega
      have d1 : (n : Int) < ((Y.length / 32 : Nat) : Int) := by omega
      have d2 : ¬ ((Y.length / 32 : Nat) : Int) ≤ n := by omega
      have d0 : ¬ (n : Int) < 0 := hi0
      subst hR
      rw [hl32]
      clear HR hi0 hi1
      go_enter Try.func8, Try.ntmps8
      go_upto_region 2 with (go_at_call 18; refine (BY.out _ ((Below.refl _ _).alloc (Nat.le_refl _) _)).mono ?_; rintro e w2 ⟨v, rfl, hown, hk2⟩; have k2 : Keep w w2 := keep_trans ((Below.refl _ _).alloc (Nat.le_refl _) _) hk2; obtain ⟨A2, c2, rfl, hc2, hm2, hrd2⟩ := own_form hown)
      have hwz : wrap64 ((Y.length : Int) / 32) = ((Y.length / 32 : Nat) : Int) := by unfold wrap64; unfold maxLen at hm2; omega
      unfold maxLen at hm2
      rcases hrd2 with h0 | ⟨g, off, rfl, hcell⟩
      · have := congrArg List.length h0; simp at this; rw [this] at hfit; simp at hfit
      have hsl := slice_32 g off Y.length c2 n hfit hc2
      rw [if_neg (by omega)] at hsl
      go_wp2
      refine bodyPost_ret (v := .tuple #[.slice (some ⟨g, off + 32 * n, none⟩) 32 (c2 - 32 * n), .int .i64 0]) (by simp [results, Try.results8]) rfl ⟨_, _, rfl, ?_, k2⟩
      rw [List.map_take, List.map_drop]
      refine .inr ⟨g, off + 32 * n, rfl, fun j hj => ?_⟩
      rw [List.getElem_take, List.getElem_drop]
      have := hcell (32 * n + j) (by simp at hj ⊢; omega)
      rw [← Nat.add_assoc] at this
      exact this
    · have hR := HR.out
      rw [if_neg (by omega)] at hR
      subst hR
      have d1 : ((Y.length / 32 : Nat) : Int) ≤ i := by omega
      clear HR
      go_enter Try.func8, Try.ntmps8
      go_upto_region 2 with (go_at_call 18; refine (BY.out _ ((Below.refl _ _).alloc (Nat.le_refl _) _)).mono ?_; rintro e w2 ⟨v, rfl, hown, hk2⟩; have k2 : Keep w w2 := keep_trans ((Below.refl _ _).alloc (Nat.le_refl _) _) hk2; obtain ⟨A2, c2, rfl, hc2, hm2, hrd2⟩ := own_form hown)
      have hwz : wrap64 ((Y.length : Int) / 32) = ((Y.length / 32 : Nat) : Int) := by unfold wrap64; unfold maxLen at hm2; omega
      go_wp2
      exact bodyPost_ret (v := .tuple #[.slice none 0 0, .int .i64 14]) (by simp [results, Try.results8]) rfl ⟨none, 0, rfl, .inl rfl, k2⟩
end Go.Proofs.Ytmhbfjcehmjllaa
