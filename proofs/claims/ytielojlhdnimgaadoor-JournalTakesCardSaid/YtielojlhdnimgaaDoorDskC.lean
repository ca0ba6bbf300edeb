import Derived.Test.YtielojlhdnimgaaDoorDskB
set_option linter.unusedSimpArgs false
set_option linter.unusedVariables false
namespace Go.Proofs.YtielojlhdnimgaaDoor
open Go.RowKit
attribute [local go_sem ↓] Go.wp_at_zero Go.wp_at_succ

/-- The disk that a call takes: the base, the writes. -/
def tkB (b : List UInt8) (ws : List WriteR) : List UInt8 := if saneD b.length ws then b else []
def tkW (b : List UInt8) (ws : List WriteR) : List WriteR := if saneD b.length ws then ws else []

set_option maxRecDepth 100000 in
set_option maxHeartbeats 2000000 in
theorem taken_anyF (A : Option Addr) (b : List UInt8) (c : Nat) (PA : Option Addr) (ws : List WriteR) (pc : Nat) (w : World) (F : World → Prop) (hF : ∀ W, Keep w W → F W) (h0 : ∀ W, F W → DOk W A b c PA ws pc) :
    Calls Tryd.prog 40 #[DV A b.length c PA ws.length pc] w fun e w' => ∃ A' c' PA' pc', e = .returned (DV A' (tkB b ws).length c' PA' (tkW b ws).length pc') ∧ (∀ W, F W → DOk W A' (tkB b ws) c' PA' (tkW b ws) pc') ∧ Keep w w' := by
  have h := h0 w (hF w (Below.refl _ _))
  by_cases hs : saneD b.length ws = true
  · have e1 : tkB b ws = b := if_pos hs
    have e2 : tkW b ws = ws := if_pos hs
    rw [e1, e2]
    clear e1 e2
    go_enter Tryd.func40, Tryd.ntmps40
    go_wp2_with (first
      | (go_at_call 22; refine (sane_any _ _ _ _ _ _ _ (h.keep (((Below.refl _ _).alloc (Nat.le_refl _) _).alloc (by simp) _))).mono ?_; rintro e w2 ⟨rfl, hk2⟩
         have b0 : w2.cell? ⟨w.heap.size, 0, none⟩ = some (.slice A b.length c) := keep_cell hk2 (by go_simp)
         have b1 : w2.cell? ⟨w.heap.size, 1, none⟩ = some (.slice PA ws.length pc) := keep_cell hk2 (by go_simp)
         have r0 : w2.cell? ⟨w.heap.size + 1, 0, none⟩ = some (.slice none 0 0) := keep_cell hk2 (by go_simp)
         have r1 : w2.cell? ⟨w.heap.size + 1, 1, none⟩ = some (.slice none 0 0) := keep_cell hk2 (by go_simp)
         have f0 : w2.frozen? ⟨w.heap.size + 1, 0, none⟩ = false := keep_frozen hk2 (by simp) (by go_simp)
         have f1 : w2.frozen? ⟨w.heap.size + 1, 1, none⟩ = false := keep_frozen hk2 (by simp) (by go_simp)
         have k2 : Keep w w2 := keep_trans (((Below.refl _ _).alloc (Nat.le_refl _) _).alloc (by simp) _) hk2))
    exact bodyPost_ret (v := DV A b.length c PA ws.length pc) (by simp [results, Tryd.results40, go_sem, r0, r1]) rfl ⟨A, c, PA, pc, rfl, fun W hW => h0 W hW, (k2.setCell (by simp) _).setCell (by simp) _⟩
  · have e1 : tkB b ws = [] := if_neg hs
    have e2 : tkW b ws = [] := if_neg hs
    have hs' : saneD b.length ws = false := by simpa using hs
    rw [e1, e2]
    clear e1 e2 hs
    go_enter Tryd.func40, Tryd.ntmps40
    go_wp2_with (first
      | (go_at_call 22; refine (sane_any _ _ _ _ _ _ _ (h.keep (((Below.refl _ _).alloc (Nat.le_refl _) _).alloc (by simp) _))).mono ?_; rintro e w2 ⟨rfl, hk2⟩
         have b0 : w2.cell? ⟨w.heap.size, 0, none⟩ = some (.slice A b.length c) := keep_cell hk2 (by go_simp)
         have b1 : w2.cell? ⟨w.heap.size, 1, none⟩ = some (.slice PA ws.length pc) := keep_cell hk2 (by go_simp)
         have r0 : w2.cell? ⟨w.heap.size + 1, 0, none⟩ = some (.slice none 0 0) := keep_cell hk2 (by go_simp)
         have r1 : w2.cell? ⟨w.heap.size + 1, 1, none⟩ = some (.slice none 0 0) := keep_cell hk2 (by go_simp)
         have f0 : w2.frozen? ⟨w.heap.size + 1, 0, none⟩ = false := keep_frozen hk2 (by simp) (by go_simp)
         have f1 : w2.frozen? ⟨w.heap.size + 1, 1, none⟩ = false := keep_frozen hk2 (by simp) (by go_simp)
         have k2 : Keep w w2 := keep_trans (((Below.refl _ _).alloc (Nat.le_refl _) _).alloc (by simp) _) hk2)
      | (go_at_call 24; refine (new_any 0 0 _ (by omega)).mono ?_; rintro e w3 ⟨A3, c3, rfl, hown3, hk3⟩
         have r0' := keep_cell hk3 r0; have r1' := keep_cell hk3 r1
         have f0' := keep_frozen hk3 (cell_lt r0) f0; have f1' := keep_frozen hk3 (cell_lt r1) f1
         have k3 := keep_trans k2 hk3))
    exact bodyPost_ret (v := DV A3 0 c3 none 0 0) (by simp [results, Tryd.results40, go_sem, r0', r1']) rfl ⟨A3, c3, none, 0, rfl, fun W _ => ⟨.inl rfl, Nat.zero_le _, by have h1 := own_form hown3; obtain ⟨_, _, h1, _, h2, _⟩ := h1; injection h1 with _ _ h1; rw [h1]; exact h2, .inl rfl, Nat.zero_le _, Nat.zero_le _, by simp⟩, (k3.setCell (by simp) _).setCell (by simp) _⟩
theorem taken_any (A : Option Addr) (b : List UInt8) (c : Nat) (PA : Option Addr) (ws : List WriteR) (pc : Nat) (w w0 : World) (hk0 : Keep w0 w) (h0 : DOk w0 A b c PA ws pc) :
    Calls Tryd.prog 40 #[DV A b.length c PA ws.length pc] w fun e w' => ∃ A' c' PA' pc', e = .returned (DV A' (tkB b ws).length c' PA' (tkW b ws).length pc') ∧ (∀ W, Keep w0 W → DOk W A' (tkB b ws) c' PA' (tkW b ws) pc') ∧ Keep w w' :=
  taken_anyF A b c PA ws pc w (fun W => Keep w0 W) (fun W hW => keep_trans hk0 hW) (fun W hW => h0.keep hW)
end Go.Proofs.YtielojlhdnimgaaDoor
