import Derived.Test.YtpllginlgkhkmaaDskF
set_option linter.unusedSimpArgs false
set_option linter.unusedVariables false
namespace Go.Proofs.Ytpllginlgkhkmaa
open Go.RowKit
attribute [local go_sem ↓] Go.wp_at_zero Go.wp_at_succ

theorem set_ne (w : World) (g o : Nat) (v : Value) (k : Nat) (h : k ≠ g) : (w.setCell ⟨g, o, none⟩ v).heap[k]? = w.heap[k]? := by
  exact Below.heap_setCell w _ v k h

/-- What Put answers. -/
def putD (b : List UInt8) (ws : List WriteR) (at_ : Int) (data : List UInt8) : List (Int × List UInt8) × Int :=
  if data.length = 32 then layD b ws at_ data else ((tkW b ws).map WriteR.pl, 14)

set_option maxRecDepth 100000 in
set_option maxHeartbeats 2000000 in
theorem put_anyF (A : Option Addr) (b : List UInt8) (c : Nat) (PA : Option Addr) (ws : List WriteR) (pc : Nat) (i : Int) (B : Option Addr) (data : List UInt8) (cd : Nat) (w : World) (F : World → Prop) (hF : ∀ W, Keep w W → F W) (h : ∀ W, F W → DOk W A b c PA ws pc)
    (hdr : Rd w B (data.map u8v)) (hdl : data.length ≤ 1000000) (hi : -9223372036854775808 ≤ i ∧ i ≤ 9223372036854775807) :
    Calls Try.prog 19 #[DV A b.length c PA ws.length pc, .int .i64 i, .slice B data.length cd] w fun e w' =>
      ∃ A' c' PA' pc' vs, e = .returned (.tuple #[DV A' (tkB b ws).length c' PA' vs.length pc', .int .i64 (putD b ws i data).2]) ∧ vs.map WriteR.pl = (putD b ws i data).1 ∧
        (∀ W, MidF F w w' W → DOk W A' (tkB b ws) c' PA' vs pc') ∧ Keep w w' := by
  by_cases h32 : data.length = 32
  · have HP := Lib.hid (show putD b ws i data = layD b ws i data from if_pos h32)
    have t1 : ((data.length : Int) != 32) = false := by simp; omega
    clear h32
    go_enter Try.func19, Try.ntmps19
    go_wp2_with fail
    refine (lay_anyF _ _ _ _ _ _ i _ data _ _ F (fun W hW => hF W (keep_trans (((Below.refl _ _).alloc (Nat.le_refl _) _).alloc (by simp) _) hW)) h (hdr.keep (((Below.refl _ _).alloc (Nat.le_refl _) _).alloc (by simp) _)) hdl hi).mono ?_
    rintro e w2 ⟨A2, c2, PA2, pc2, vs, rfl, hvs, hd, hk2⟩
    have r0 : w2.cell? ⟨w.heap.size + 1, 0, none⟩ = some (.slice none 0 0) := keep_cell hk2 (by go_simp)
    have r1 : w2.cell? ⟨w.heap.size + 1, 1, none⟩ = some (.slice none 0 0) := keep_cell hk2 (by go_simp)
    have g0 : w2.frozen? ⟨w.heap.size + 1, 0, none⟩ = false := keep_frozen hk2 (by simp) (by go_simp)
    have g1 : w2.frozen? ⟨w.heap.size + 1, 1, none⟩ = false := keep_frozen hk2 (by simp) (by go_simp)
    have k2 : Keep w w2 := keep_trans (((Below.refl _ _).alloc (Nat.le_refl _) _).alloc (by simp) _) hk2
    go_wp2_with fail
    refine bodyPost_ret (v := .tuple #[DV A2 (tkB b ws).length c2 PA2 vs.length pc2, .int .i64 (layD b ws i data).2]) (by simp [results, Try.results19, go_sem, r0, r1, g0, g1]) rfl ⟨A2, c2, PA2, pc2, vs, by rw [HP.out], by rw [HP.out]; exact hvs, fun W hW => hd W ⟨hW.1, fun k hk1 hk2 => ?_⟩, (k2.setCell (by simp) _).setCell (by simp) _⟩
    have hk1' : w.heap.size + 2 ≤ k := by simpa using hk1
    rw [hW.2 k (by omega) (by simpa using hk2), set_ne _ _ _ _ _ (by omega), set_ne _ _ _ _ _ (by omega)]
  · have HP := Lib.hid (show putD b ws i data = ((tkW b ws).map WriteR.pl, 14) from if_neg h32)
    have t1 : ((data.length : Int) != 32) = true := by simp; omega
    clear h32
    go_enter Try.func19, Try.ntmps19
    go_wp2_with fail
    refine (taken_anyF _ _ _ _ _ _ _ F (fun W hW => hF W (keep_trans (((Below.refl _ _).alloc (Nat.le_refl _) _).alloc (by simp) _) hW)) h).mono ?_
    rintro e w2 ⟨A2, c2, PA2, pc2, rfl, hd, hk2⟩
    have r0 : w2.cell? ⟨w.heap.size + 1, 0, none⟩ = some (.slice none 0 0) := keep_cell hk2 (by go_simp)
    have r1 : w2.cell? ⟨w.heap.size + 1, 1, none⟩ = some (.slice none 0 0) := keep_cell hk2 (by go_simp)
    have g0 : w2.frozen? ⟨w.heap.size + 1, 0, none⟩ = false := keep_frozen hk2 (by simp) (by go_simp)
    have g1 : w2.frozen? ⟨w.heap.size + 1, 1, none⟩ = false := keep_frozen hk2 (by simp) (by go_simp)
    have k2 : Keep w w2 := keep_trans (((Below.refl _ _).alloc (Nat.le_refl _) _).alloc (by simp) _) hk2
    go_wp2_with fail
    refine bodyPost_ret (v := .tuple #[DV A2 (tkB b ws).length c2 PA2 (tkW b ws).length pc2, .int .i64 14]) (by simp [results, Try.results19, go_sem, r0, r1, g0, g1]) rfl ⟨A2, c2, PA2, pc2, tkW b ws, by rw [HP.out], by rw [HP.out], fun W hW => hd W hW.1, (k2.setCell (by simp) _).setCell (by simp) _⟩

theorem put_any (A : Option Addr) (b : List UInt8) (c : Nat) (PA : Option Addr) (ws : List WriteR) (pc : Nat) (i : Int) (B : Option Addr) (data : List UInt8) (cd : Nat) (w w0 : World) (hk0 : Keep w0 w) (h : DOk w0 A b c PA ws pc)
    (hdr : Rd w0 B (data.map u8v)) (hdl : data.length ≤ 1000000) (hi : -9223372036854775808 ≤ i ∧ i ≤ 9223372036854775807) :
    Calls Try.prog 19 #[DV A b.length c PA ws.length pc, .int .i64 i, .slice B data.length cd] w fun e w' =>
      ∃ A' c' PA' pc' vs, e = .returned (.tuple #[DV A' (tkB b ws).length c' PA' vs.length pc', .int .i64 (putD b ws i data).2]) ∧ vs.map WriteR.pl = (putD b ws i data).1 ∧
        (∀ W, Mid w0 w w' W → DOk W A' (tkB b ws) c' PA' vs pc') ∧ Keep w w' :=
  put_anyF A b c PA ws pc i B data cd w (fun W => Keep w0 W) (fun W hW => keep_trans hk0 hW) (fun W hW => h.keep hW) (hdr.keep hk0) hdl hi

set_option maxRecDepth 100000 in
set_option maxHeartbeats 2000000 in
theorem sync_any (A : Option Addr) (b : List UInt8) (c : Nat) (PA : Option Addr) (ws : List WriteR) (pc : Nat) (w : World) (h : DOk w A b c PA ws pc) :
    Calls Try.prog 18 #[DV A b.length c PA ws.length pc] w fun e w' => ∃ A' c', e = .returned (DV A' (bytesD b ws).length c' none 0 0) ∧ (∀ W, Keep w' W → DOk W A' (bytesD b ws) c' none [] 0) ∧ Keep w w' := by
  go_enter Try.func18, Try.ntmps18
  go_wp2_with fail
  refine (bytes_any _ _ _ _ _ _ _ (h.keep (((Below.refl _ _).alloc (Nat.le_refl _) _).alloc (by simp) _))).mono ?_
  rintro e w2 ⟨v, rfl, hown, hk2⟩
  have r0 : w2.cell? ⟨w.heap.size + 1, 0, none⟩ = some (.slice none 0 0) := keep_cell hk2 (by go_simp)
  have r1 : w2.cell? ⟨w.heap.size + 1, 1, none⟩ = some (.slice none 0 0) := keep_cell hk2 (by go_simp)
  have g0 : w2.frozen? ⟨w.heap.size + 1, 0, none⟩ = false := keep_frozen hk2 (by simp) (by go_simp)
  have g1 : w2.frozen? ⟨w.heap.size + 1, 1, none⟩ = false := keep_frozen hk2 (by simp) (by go_simp)
  have k2 : Keep w w2 := keep_trans (((Below.refl _ _).alloc (Nat.le_refl _) _).alloc (by simp) _) hk2
  obtain ⟨A2, c2, rfl, hc2, hm2, hrd2⟩ := own_form hown
  go_wp2_with fail
  unfold maxLen at hm2
  refine bodyPost_ret (v := DV A2 (bytesD b ws).length c2 none 0 0) (by simp [results, Try.results18, go_sem, r0, r1, g0, g1]) rfl ⟨A2, c2, rfl, fun W hW => ⟨?_, hc2, by unfold maxLen; omega, .inl rfl, Nat.le_refl _, by unfold maxLen; omega, fun x hx => absurd hx (by simp)⟩, ?_⟩
  · have ho9 := ownsRow_setCell_below (ownsRow_setCell_below hown (a := ⟨w.heap.size + 1, 0, none⟩) (by simp) (.slice A2 (bytesD b ws).length c2)) (a := ⟨w.heap.size + 1, 1, none⟩) (by simp) (.slice none 0 0)
    exact (own_rd ho9).keep hW
  · exact (k2.setCell (by simp) _).setCell (by simp) _

def readD (b : List UInt8) (ws : List WriteR) (i : Int) : List UInt8 × Int :=
  if 0 ≤ i ∧ i < ((bytesD b ws).length / 32 : Nat) then (((bytesD b ws).drop (32 * i.toNat)).take 32, 0) else ([], 14)

set_option maxRecDepth 100000 in
set_option maxHeartbeats 2000000 in
theorem read_any (A : Option Addr) (b : List UInt8) (c : Nat) (PA : Option Addr) (ws : List WriteR) (pc : Nat) (i : Int) (w : World) (h : DOk w A b c PA ws pc) :
    Calls Try.prog 20 #[DV A b.length c PA ws.length pc, .int .i64 i] w fun e w' => ∃ A' c', e = .returned (.tuple #[.slice A' (readD b ws i).1.length c', .int .i64 (readD b ws i).2]) ∧ Rd w' A' ((readD b ws i).1.map u8v) ∧ Keep w w' := by
  go_enter Try.func20, Try.ntmps20
  go_wp2_with fail
  refine (bytes_any _ _ _ _ _ _ _ (h.keep ((Below.refl _ _).alloc (Nat.le_refl _) _))).mono ?_
  rintro e w2 ⟨v, rfl, hown, hk2⟩
  have k2 : Keep w w2 := keep_trans ((Below.refl _ _).alloc (Nat.le_refl _) _) hk2
  obtain ⟨A2, c2, rfl, hc2, hm2, hrd2⟩ := own_form hown
  unfold maxLen at hm2
  by_cases hi0 : i < 0
  · have HR : readD b ws i = ([], 14) := if_neg (by omega)
    go_wp2_with fail
    exact bodyPost_ret (v := .tuple #[.slice none 0 0, .int .i64 14]) (by simp [results, Try.results20, go_sem]) rfl ⟨none, 0, by rw [HR]; rfl, by rw [HR]; exact .inl rfl, k2⟩
  · have hwz : wrap64 (((bytesD b ws).length : Int) / 32) = ((bytesD b ws).length / 32 : Nat) := by
      unfold wrap64; omega
    by_cases hi1 : i < ((bytesD b ws).length / 32 : Nat)
    · have HR : readD b ws i = (((bytesD b ws).drop (32 * i.toNat)).take 32, 0) := if_pos ⟨by omega, hi1⟩
      have hl32 : (((bytesD b ws).drop (32 * i.toNat)).take 32).length = 32 := by rw [List.length_take, List.length_drop]; omega
      rcases hrd2 with h0 | ⟨g, off, rfl, hcell⟩
      · have := congrArg List.length h0; simp at this; rw [this] at hi1; simp at hi1; omega
      · go_wp2_with fail
        obtain ⟨n, hn⟩ : ∃ n : Nat, i = n := ⟨i.toNat, by omega⟩
        refine (sector_any g off (bytesD b ws).length c2 n w2 (by omega) hc2 (by omega) i hn).mono ?_
        rintro e w3 ⟨rfl, rfl⟩
        go_wp2_with fail
        refine bodyPost_ret (v := .tuple #[.slice (some ⟨g, off + 32 * n, none⟩) 32 32, .int .i64 0]) (by simp [results, Try.results20, go_sem]) rfl ⟨_, 32, by rw [HR, hl32], ?_, k2⟩
        rw [HR, hn, List.map_take, List.map_drop]
        exact Rd.sub (.inr ⟨g, off, rfl, hcell⟩) _ _ (by simp; omega)
    · have HR : readD b ws i = ([], 14) := if_neg (by omega)
      go_wp2_with fail
      exact bodyPost_ret (v := .tuple #[.slice none 0 0, .int .i64 14]) (by simp [results, Try.results20, go_sem]) rfl ⟨none, 0, by rw [HR]; rfl, by rw [HR]; exact .inl rfl, k2⟩
end Go.Proofs.Ytpllginlgkhkmaa
