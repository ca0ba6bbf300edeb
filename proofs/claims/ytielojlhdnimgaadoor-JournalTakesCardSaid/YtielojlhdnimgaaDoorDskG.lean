import Derived.Test.YtielojlhdnimgaaDoorDskF
set_option linter.unusedSimpArgs false
set_option linter.unusedVariables false
namespace Go.Proofs.YtielojlhdnimgaaDoor
open Go.RowKit
attribute [local go_sem ↓] Go.wp_at_zero Go.wp_at_succ

theorem set_ne (w : World) (g o : Nat) (v : Value) (k : Nat) (h : k ≠ g) : (w.setCell ⟨g, o, none⟩ v).heap[k]? = w.heap[k]? := by
  exact Below.heap_setCell w _ v k h

/-- What Put answers. -/
def putD (b : List UInt8) (ws : List WriteR) (at_ : Int) (data : List UInt8) : List (Int × List UInt8) × Int :=
  if data.length = 32 then layD b ws at_ data else ((tkW b ws).map WriteR.pl, 14)

set_option maxRecDepth 100000 in
set_option maxHeartbeats 2000000 in
theorem put_anyF (A : Option Addr) (b : List UInt8) (c : Nat) (PA : Option Addr) (ws : List WriteR) (pc : Nat) (i : Int) (B : Option Addr) (data : List UInt8) (cd : Nat) (w : World) (F : World → Prop) (hF : ∀ W, Keep w W → F W) (h : ∀ W, F W → DOk W A b c PA ws pc)
    (hdr : Rd w B (data.map u8v)) (hdl : data.length ≤ 1000000) (hi : -9223372036854775808 ≤ i ∧ i ≤ 9223372036854775807) :
    Calls Tryd.prog 44 #[DV A b.length c PA ws.length pc, .int .i64 i, .slice B data.length cd] w fun e w' =>
      ∃ A' c' PA' pc' vs, e = .returned (.tuple #[DV A' (tkB b ws).length c' PA' vs.length pc', .int .i64 (putD b ws i data).2]) ∧ vs.map WriteR.pl = (putD b ws i data).1 ∧
        (∀ W, MidF F w w' W → DOk W A' (tkB b ws) c' PA' vs pc') ∧ Keep w w' := by
  by_cases h32 : data.length = 32
  · have HP := Lib.hid (show putD b ws i data = layD b ws i data from if_pos h32)
    have t1 : ((data.length : Int) != 32) = false := by simp; omega
    clear h32
    go_enter Tryd.func44, Tryd.ntmps44
    go_wp2_with fail
    refine (lay_anyF _ _ _ _ _ _ i _ data _ _ F (fun W hW => hF W (keep_trans (((Below.refl _ _).alloc (Nat.le_refl _) _).alloc (by simp) _) hW)) h (hdr.keep (((Below.refl _ _).alloc (Nat.le_refl _) _).alloc (by simp) _)) hdl hi).mono ?_
    rintro e w2 ⟨A2, c2, PA2, pc2, vs, rfl, hvs, hd, hk2⟩
    have r0 : w2.cell? ⟨w.heap.size + 1, 0, none⟩ = some (.slice none 0 0) := keep_cell hk2 (by go_simp)
    have r1 : w2.cell? ⟨w.heap.size + 1, 1, none⟩ = some (.slice none 0 0) := keep_cell hk2 (by go_simp)
    have g0 : w2.frozen? ⟨w.heap.size + 1, 0, none⟩ = false := keep_frozen hk2 (by simp) (by go_simp)
    have g1 : w2.frozen? ⟨w.heap.size + 1, 1, none⟩ = false := keep_frozen hk2 (by simp) (by go_simp)
    have k2 : Keep w w2 := keep_trans (((Below.refl _ _).alloc (Nat.le_refl _) _).alloc (by simp) _) hk2
    go_wp2_with fail
    refine bodyPost_ret (v := .tuple #[DV A2 (tkB b ws).length c2 PA2 vs.length pc2, .int .i64 (layD b ws i data).2]) (by simp [results, Tryd.results44, go_sem, r0, r1, g0, g1]) rfl ⟨A2, c2, PA2, pc2, vs, by rw [HP.out], by rw [HP.out]; exact hvs, fun W hW => hd W ⟨hW.1, fun k hk1 hk2 => ?_⟩, (k2.setCell (by simp) _).setCell (by simp) _⟩
    have hk1' : w.heap.size + 2 ≤ k := by simpa using hk1
    rw [hW.2 k (by omega) (by simpa using hk2), set_ne _ _ _ _ _ (by omega), set_ne _ _ _ _ _ (by omega)]
  · have HP := Lib.hid (show putD b ws i data = ((tkW b ws).map WriteR.pl, 14) from if_neg h32)
    have t1 : ((data.length : Int) != 32) = true := by simp; omega
    clear h32
    go_enter Tryd.func44, Tryd.ntmps44
    go_wp2_with fail
    refine (taken_anyF _ _ _ _ _ _ _ F (fun W hW => hF W (keep_trans (((Below.refl _ _).alloc (Nat.le_refl _) _).alloc (by simp) _) hW)) h).mono ?_
    rintro e w2 ⟨A2, c2, PA2, pc2, rfl, hd, hk2⟩
    have r0 : w2.cell? ⟨w.heap.size + 1, 0, none⟩ = some (.slice none 0 0) := keep_cell hk2 (by go_simp)
    have r1 : w2.cell? ⟨w.heap.size + 1, 1, none⟩ = some (.slice none 0 0) := keep_cell hk2 (by go_simp)
    have g0 : w2.frozen? ⟨w.heap.size + 1, 0, none⟩ = false := keep_frozen hk2 (by simp) (by go_simp)
    have g1 : w2.frozen? ⟨w.heap.size + 1, 1, none⟩ = false := keep_frozen hk2 (by simp) (by go_simp)
    have k2 : Keep w w2 := keep_trans (((Below.refl _ _).alloc (Nat.le_refl _) _).alloc (by simp) _) hk2
    go_wp2_with fail
    refine bodyPost_ret (v := .tuple #[DV A2 (tkB b ws).length c2 PA2 (tkW b ws).length pc2, .int .i64 14]) (by simp [results, Tryd.results44, go_sem, r0, r1, g0, g1]) rfl ⟨A2, c2, PA2, pc2, tkW b ws, by rw [HP.out], by rw [HP.out], fun W hW => hd W hW.1, (k2.setCell (by simp) _).setCell (by simp) _⟩

theorem put_any (A : Option Addr) (b : List UInt8) (c : Nat) (PA : Option Addr) (ws : List WriteR) (pc : Nat) (i : Int) (B : Option Addr) (data : List UInt8) (cd : Nat) (w w0 : World) (hk0 : Keep w0 w) (h : DOk w0 A b c PA ws pc)
    (hdr : Rd w0 B (data.map u8v)) (hdl : data.length ≤ 1000000) (hi : -9223372036854775808 ≤ i ∧ i ≤ 9223372036854775807) :
    Calls Tryd.prog 44 #[DV A b.length c PA ws.length pc, .int .i64 i, .slice B data.length cd] w fun e w' =>
      ∃ A' c' PA' pc' vs, e = .returned (.tuple #[DV A' (tkB b ws).length c' PA' vs.length pc', .int .i64 (putD b ws i data).2]) ∧ vs.map WriteR.pl = (putD b ws i data).1 ∧
        (∀ W, Mid w0 w w' W → DOk W A' (tkB b ws) c' PA' vs pc') ∧ Keep w w' :=
  put_anyF A b c PA ws pc i B data cd w (fun W => Keep w0 W) (fun W hW => keep_trans hk0 hW) (fun W hW => h.keep hW) (hdr.keep hk0) hdl hi

set_option maxRecDepth 100000 in
set_option maxHeartbeats 2000000 in
theorem sync_any (A : Option Addr) (b : List UInt8) (c : Nat) (PA : Option Addr) (ws : List WriteR) (pc : Nat) (w : World) (h : DOk w A b c PA ws pc) :
    Calls Tryd.prog 34 #[DV A b.length c PA ws.length pc] w fun e w' => ∃ A' c', e = .returned (DV A' (bytesD b ws).length c' none 0 0) ∧ (∀ W, Keep w' W → DOk W A' (bytesD b ws) c' none [] 0) ∧ Keep w w' := by
  go_enter Tryd.func34, Tryd.ntmps34
  go_wp2_with fail
  refine (bytes_any _ _ _ _ _ _ _ (h.keep (((Below.refl _ _).alloc (Nat.le_refl _) _).alloc (by simp) _))).mono ?_
  rintro e w2 ⟨v, rfl, hown, hk2⟩
  have r0 : w2.cell? ⟨w.heap.size + 1, 0, none⟩ = some (.slice none 0 0) := keep_cell hk2 (by go_simp)
  have r1 : w2.cell? ⟨w.heap.size + 1, 1, none⟩ = some (.slice none 0 0) := keep_cell hk2 (by go_simp)
  have g0 : w2.frozen? ⟨w.heap.size + 1, 0, none⟩ = false := keep_frozen hk2 (by simp) (by go_simp)
  have g1 : w2.frozen? ⟨w.heap.size + 1, 1, none⟩ = false := keep_frozen hk2 (by simp) (by go_simp)
  have k2 : Keep w w2 := keep_trans (((Below.refl _ _).alloc (Nat.le_refl _) _).alloc (by simp) _) hk2
  obtain ⟨A2, c2, rfl, hc2, hm2, hrd2⟩ := own_form hown
  go_wp2_with fail
  unfold maxLen at hm2
  refine bodyPost_ret (v := DV A2 (bytesD b ws).length c2 none 0 0) (by simp [results, Tryd.results34, go_sem, r0, r1, g0, g1]) rfl ⟨A2, c2, rfl, fun W hW => ⟨?_, hc2, by unfold maxLen; omega, .inl rfl, Nat.le_refl _, by unfold maxLen; omega, fun x hx => absurd hx (by simp)⟩, ?_⟩
  · have ho9 := ownsRow_setCell_below (ownsRow_setCell_below hown (a := ⟨w.heap.size + 1, 0, none⟩) (by simp) (.slice A2 (bytesD b ws).length c2)) (a := ⟨w.heap.size + 1, 1, none⟩) (by simp) (.slice none 0 0)
    exact (own_rd ho9).keep hW
  · exact (k2.setCell (by simp) _).setCell (by simp) _

end Go.Proofs.YtielojlhdnimgaaDoor
