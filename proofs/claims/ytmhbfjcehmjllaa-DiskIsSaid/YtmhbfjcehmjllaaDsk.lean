import Derived.Test.YtmhbfjcehmjllaaRows
import Derived.Test.YtmhbfjcehmjllaaBase
import Derived.Deep.RegionHeld3
import Derived.Deep.DrawnRows
import Derived.Deep.DeepCutAuto
import Derived.Deep.RegionLaw
import Derived.Test.YtmhbfjcehmjllaaRgn
import Derived.Test.YtmhbfjcehmjllaaByt
set_option linter.unusedSimpArgs false
set_option linter.unusedVariables false
namespace Go.Proofs.Ytmhbfjcehmjllaa
open Go.RowKit
attribute [local go_sem ↓] Go.wp_at_zero Go.wp_at_succ

/-- A write, and where its bytes lie. -/
structure WriteR where
  at_ : Int
  A : Option Addr
  cap : Nat
  d : List UInt8
def WriteR.cells (s : WriteR) : List Value := [.int .i64 s.at_, .slice s.A s.d.length s.cap]
def WriteR.pl (s : WriteR) : Int × List UInt8 := (s.at_, s.d)
def OkW (w : World) (s : WriteR) : Prop := Rd w s.A (s.d.map u8v) ∧ s.d.length ≤ s.cap ∧ s.cap ≤ maxLen
theorem OkW.keep {w w' : World} {s : WriteR} (h : OkW w s) (hk : Keep w w') : OkW w' s := ⟨h.1.keep hk, h.2⟩

theorem writeT : ElT Try.prog 28 54 (.agg #[.int .i64 0, .slice none 0 0]) 2 32 := ElT.mk' Try.underlying28 (by kernel_rfl) rfl (by omega)
theorem rwriteT : ElT Try.prog 23 53 (.agg #[.int .i64 0, .slice none 0 0]) 2 32 := ElT.mk' Try.underlying23 (by kernel_rfl) rfl (by omega)


theorem WriteR.at2 {w : World} {A : Option Addr} {vs : List WriteR} (hr : Rd w A (vs.flatMap WriteR.cells)) {k : Nat} (hlt : k < vs.length) :
    ∃ b off, A = some ⟨b, off, none⟩ ∧ b < w.heap.size ∧ ∀ w', Keep w w' → w'.cell? ⟨b, off + k * 2, none⟩ = some (.int .i64 vs[k].at_) ∧ w'.cell? ⟨b, off + k * 2 + 1, none⟩ = some (.slice vs[k].A vs[k].d.length vs[k].cap) := by
  obtain ⟨b, off, rfl, hb, _, hc⟩ := hr.at2 (Below.refl _ _) (k := k * 2) (by rw [flatMap_len _ 2 (fun _ => rfl)]; omega)
  refine ⟨b, off, rfl, hb, fun w' hw => ?_⟩
  have F := Rd.field (size := 2) (fun _ => rfl) (hc w' hw) k
  exact ⟨F 0 hlt (by omega), F 1 hlt (by omega)⟩

set_option maxHeartbeats 400000 in
theorem sectors_any (A : Option Addr) (n c : Nat) (x : Value) (w : World) (hl : n ≤ 9223372036854775807) :
    Calls Try.prog 28 #[.agg #[.slice A n c, x]] w fun e w' => e = .returned (.int .i64 (n / 32 : Nat)) ∧ Keep w w' := by
  go_enter Try.func28, Try.ntmps28
  go_wp2
  go_ret
  exact ⟨ret_int rfl, (Below.refl _ _).alloc (Nat.le_refl _) _⟩

set_option maxHeartbeats 400000 in
theorem sector_any (b off n c at_ : Nat) (w : World) (h1 : 32 * at_ + 32 ≤ n) (h2 : n ≤ c) (h3 : c ≤ 9223372036854775807) (i : Int) (hi : i = at_) :
    Calls Try.prog 25 #[.slice (some ⟨b, off, none⟩) n c, .int .i64 i] w fun e w' => e = .returned (.slice (some ⟨b, off + 32 * at_, none⟩) 32 32) ∧ w = w' := by
  subst hi
  go_enter Try.func25, Try.ntmps25
  go_wp2
  go_ret
  refine ⟨?_, rfl⟩
  show Ending.returned (Value.slice (some ⟨b, off + at_ * 32, none⟩) (at_ * 32 + 32 - at_ * 32) (at_ * 32 + 32 - at_ * 32)) = _
  rw [show at_ * 32 + 32 - at_ * 32 = 32 by omega, Nat.mul_comm at_ 32]

def zeros (n : Nat) : Array Value := madeCells #[.int .u8 0] (n * 1)

theorem zeros_list (n : Nat) : (zeros n).toList = (List.replicate n (0 : UInt8)).map u8v := by
  apply List.ext_getElem
  · simp [zeros, madeCells]
  · intro i h1 h2
    simp [zeros, madeCells, Nat.mod_one]

set_option maxHeartbeats 400000 in
theorem new_any (s : Int) (m : Nat) (w : World) (hm : (m : Int) = max 0 (min s 4096)) :
    Calls Try.prog 23 #[.int .i64 s] w fun e w' => ∃ A c, e = .returned (.agg #[.slice A (32 * m) c, .slice none 0 0]) ∧ w'.ownsRow w.heap.size 5 1 (.slice A (32 * m) c) (32 * m) ((List.replicate (32 * m) 0).map u8v) ∧ Keep w w' := by
  have key : ∀ (v : Value) (k : Nat), k ≤ 4096 → (v = .int .i64 (k * 32 : Nat)) → ∀ W, (Instr.makeSlice 22 v v).run Try.prog W = .ok (.slice (some ⟨W.heap.size, 0, none⟩) (32 * k) (32 * k)) (W.alloc (.cells (zeros (32 * k)) 5)) := fun v k hk hv W => by
    subst hv
    rw [byteT.make (k * 32) (k * 32) (by omega) (by omega) (by omega) W, Nat.mul_comm k 32]; rfl
  have fin : ∀ (k : Nat) (W : World) (H : Nat), W.heap.size = H → k ≤ 4096 → w.heap.size ≤ W.heap.size → ((W.alloc (.cells (zeros (32 * k)) 5)).ownsRow w.heap.size 5 1 (.slice (some ⟨H, 0, none⟩) (32 * k) (32 * k)) (32 * k) ((List.replicate (32 * k) 0).map u8v)) := fun k W H hH hk hW => by
    subst hH
    have h := World.ownsRow_lit W (base := w.heap.size) (e := 5) (size := 1) (zeros (32 * k)) (32 * k) hW (by unfold maxLen; omega) (by simp [zeros, madeCells])
    rwa [zeros_list] at h
  rcases (show s < 0 ∨ 4096 < s ∨ (0 ≤ s ∧ s ≤ 4096) by omega) with h | h | h
  · obtain rfl : m = 0 := by omega
    have hmk := key (.int .i64 0) 0 (by omega) rfl
    clear key hm
    go_enter Try.func23, Try.ntmps23
    go_wp2
    exact bodyPost_ret (v := .agg #[.slice (some ⟨w.heap.size + 1, 0, none⟩) 0 0, .slice none 0 0]) (by simp [results, Try.results23, go_sem]) rfl ⟨_, _, rfl, (fin 0 _ (w.heap.size + 1) (by simp) (by omega) (by simp)), ((Below.refl _ _).alloc (Nat.le_refl _) _).alloc (by simp) _⟩
  · obtain rfl : m = 4096 := by omega
    have hmk := key (.int .i64 131072) 4096 (by omega) rfl
    clear key hm
    go_enter Try.func23, Try.ntmps23
    go_wp2
    exact bodyPost_ret (v := .agg #[.slice (some ⟨w.heap.size + 1, 0, none⟩) 131072 131072, .slice none 0 0]) (by simp [results, Try.results23, go_sem]) rfl ⟨_, _, rfl, (fin 4096 _ (w.heap.size + 1) (by simp) (by omega) (by simp)), ((Below.refl _ _).alloc (Nat.le_refl _) _).alloc (by simp) _⟩
  · obtain rfl : s = m := by omega
    have hmk := key (.int .i64 ((m : Int) * 32)) m (by omega) (by rw [Int.natCast_mul]; rfl)
    obtain ⟨h1, h2⟩ := h
    clear key hm
    go_enter Try.func23, Try.ntmps23
    go_wp2
    exact bodyPost_ret (v := .agg #[.slice (some ⟨w.heap.size + 1, 0, none⟩) (32 * m) (32 * m), .slice none 0 0]) (by simp [results, Try.results23, go_sem]) rfl ⟨_, _, rfl, (fin m _ (w.heap.size + 1) (by simp) (by omega) (by simp)), ((Below.refl _ _).alloc (Nat.le_refl _) _).alloc (by simp) _⟩
end Go.Proofs.Ytmhbfjcehmjllaa

namespace Go.Proofs.Ytmhbfjcehmjllaa
open Go.RowKit
attribute [local go_sem ↓] Go.wp_at_zero Go.wp_at_succ

def WriteR.ok (nb : Nat) (x : WriteR) : Bool := decide (0 ≤ x.at_ ∧ x.at_ < (nb / 32 : Nat) ∧ x.d.length = 32)
def saneD (nb : Nat) (ws : List WriteR) : Bool := decide (nb % 32 = 0 ∧ nb / 32 ≤ 4096 ∧ ws.length ≤ 100000) && ws.all (·.ok nb)

abbrev DV (A : Option Addr) (n c : Nat) (PA : Option Addr) (m pc : Nat) : Value := .agg #[.slice A n c, .slice PA m pc]
structure DOk (w : World) (A : Option Addr) (b : List UInt8) (c : Nat) (PA : Option Addr) (ws : List WriteR) (pc : Nat) : Prop where
  rb : Rd w A (b.map u8v)
  bc : b.length ≤ c
  cm : c ≤ maxLen
  rp : Rd w PA (ws.flatMap WriteR.cells)
  pl : ws.length ≤ pc
  pm : pc ≤ maxLen
  ok : ∀ x ∈ ws, OkW w x
theorem DOk.keep {w w' : World} {A : Option Addr} {b : List UInt8} {c : Nat} {PA : Option Addr} {ws : List WriteR} {pc : Nat} (h : DOk w A b c PA ws pc) (hk : Keep w w') : DOk w' A b c PA ws pc :=
  ⟨h.rb.keep hk, h.bc, h.cm, h.rp.keep hk, h.pl, h.pm, fun x hx => (h.ok x hx).keep hk⟩

set_option maxRecDepth 100000 in
set_option maxHeartbeats 2000000 in
theorem sane_any (A : Option Addr) (b : List UInt8) (c : Nat) (PA : Option Addr) (ws : List WriteR) (pc : Nat) (w : World) (h : DOk w A b c PA ws pc) :
    Calls Try.prog 15 #[DV A b.length c PA ws.length pc] w fun e w' => e = .returned (.bool (saneD b.length ws)) ∧ Keep w w' := by
  obtain ⟨rb, bc, cm, rp, pl, pm, ok⟩ := h
  unfold maxLen at cm pm
  by_cases h1 : b.length % 32 = 0
  · by_cases h2 : b.length / 32 ≤ 4096
    · by_cases h3 : ws.length ≤ 100000
      · have t1 : ((b.length : Int) % 32 != 0) = false := by simp; omega
        have H1 := Lib.hid h1; have H2 := Lib.hid h2; clear h1
        have t2 : ((b.length / 32 : Nat) : Int) ≤ 4096 := by omega
        go_enter Try.func15, Try.ntmps15
        go_wp2_with (go_at_call 28; refine (sectors_any _ _ _ _ _ (by omega)).mono ?_; rintro e w1 ⟨rfl, hk1⟩; have b0 := keep_box hk1 0 _ rfl; have b1 := keep_box hk1 1 _ rfl; have hz1 := hk1.size; simp at hz1)
        have k1 : Keep w w1 := keep_trans ((Below.refl _ _).alloc (Nat.le_refl _) _) hk1
        have Hb0 := Lib.hid b0; have Hb1 := Lib.hid b1
        clear b0 b1 hk1
        go_loopw [24] (fun i wr => ∃ k : Nat, k ≤ ws.length ∧ i = .int .i64 k ∧ Keep w1 wr ∧ (ws.take k).all (·.ok b.length) = true) (fun i _ => ws.length - (intOf i).toNat)
        case atStart => exact ⟨0, Nat.zero_le _, rfl, Below.refl _ _, by simp⟩
        case round =>
          obtain ⟨k, hk, rfl, hkr, hall⟩ := hrel
          have Hall := Lib.hid hall; clear hall
          have hzr := hkr.size
          by_cases hlt : k < ws.length
          · obtain ⟨bp, off, rfl, hb, F⟩ := WriteR.at2 rp hlt
            have hx := ok _ (List.getElem_mem hlt)
            have hmem := List.getElem_mem hlt
            have hts : (ws.take (k + 1)).all (·.ok b.length) = ((ws.take k).all (·.ok b.length) && ws[k].ok b.length) := by
              rw [List.take_succ_eq_append_getElem hlt, List.all_append]; simp
            generalize ws[k] = x at F hx hts hmem
            have Hts := Lib.hid hts; have Hmem := Lib.hid hmem
            obtain ⟨c0, c1⟩ := F wr (keep_trans k1 hkr)
            have d0 := keep_cell hkr Hb0.out; have d1 := keep_cell hkr Hb1.out
            have hx2 := hx.2.1; have hx3 := hx.2.2
            unfold maxLen at hx3
            have hgr : w.heap.size < wr.heap.size := by omega
            clear F hts hx hmem
            have fin : x.ok b.length = false → saneD b.length ws = false := fun hf => by
              unfold saneD; rw [Bool.and_eq_false_iff]; right
              rw [List.all_eq_false]; exact ⟨x, Hmem.out, by simp [hf]⟩
            have Fin := Lib.hid fin; clear fin
            obtain ⟨wz, hwz⟩ : ∃ wz, wz = wr.alloc (.cells #[.int .i64 x.at_, .slice x.A x.d.length x.cap] 54) := ⟨_, rfl⟩
            have kz : Keep wr wz := by rw [hwz]; exact (Below.refl _ _).alloc (Nat.le_refl _) _
            have a0 := aft_cell (keep_cell kz d0); have a1 := aft_cell (keep_cell kz d1)
            have a2 := aft_cell (show wz.cell? ⟨wr.heap.size, 0, none⟩ = some (.int .i64 x.at_) by rw [hwz]; exact box_cell _ _ _ 0)
            have a3 := aft_cell (show wz.cell? ⟨wr.heap.size, 1, none⟩ = some (.slice x.A x.d.length x.cap) by rw [hwz]; exact box_cell _ _ _ 1)
            have Hwz := Lib.hid hwz; clear hwz
            by_cases e1 : x.at_ < 0
            · have E := Lib.hid (show x.ok b.length = false from decide_eq_false (by omega))
              go_wp2
              refine wp_region_aft (by kernel_rfl) (by kernel_rfl) wz (by rw [Hwz.out]; exact Below.refl _ _) ?_
              repeat (go_big_quiet_step ((go_at_call 28; exact quiet_aft (sectors_any _ _ _ _ _ (by omega)))))
              refine wpQuiet_nil ?_
              rintro _ ⟨y, rfl⟩
              have hk2 := aft_keep wz y
              generalize aft wz y = w2 at hk2 ⊢
              clear a0 a1 a2 a3
              go_wp2
              go_ret
              exact ⟨ret_bool (Fin.out E.out).symm, keep_trans k1 (keep_trans (keep_trans hkr kz) hk2)⟩
            · have g1 : decide (x.at_ < 0) = false := decide_eq_false e1
              by_cases e2 : ((b.length / 32 : Nat) : Int) ≤ x.at_
              · have E := Lib.hid (show x.ok b.length = false from decide_eq_false (by omega))
                have g2 : decide ((b.length : Int) / 32 ≤ x.at_) = true := decide_eq_true e2
                go_wp2
                refine wp_region_aft (by kernel_rfl) (by kernel_rfl) wz (by rw [Hwz.out]; exact Below.refl _ _) ?_
                repeat (go_big_quiet_step ((go_at_call 28; exact quiet_aft (sectors_any _ _ _ _ _ (by omega)))))
                refine wpQuiet_nil ?_
                rintro _ ⟨y, rfl⟩
                have hk2 := aft_keep wz y
                generalize aft wz y = w2 at hk2 ⊢
                clear a0 a1 a2 a3
                all_goals go_wp2
                all_goals go_ret
                all_goals exact ⟨ret_bool (Fin.out E.out).symm, keep_trans k1 (keep_trans (keep_trans hkr kz) hk2)⟩
              · have g2 : decide ((b.length : Int) / 32 ≤ x.at_) = false := decide_eq_false e2
                by_cases e3 : x.d.length = 32
                · have e3' : ((x.d.length : Int) != 32) = false := by simp; omega
                  have E := Lib.hid (show x.ok b.length = true from decide_eq_true (by omega))
                  clear e3
                  go_wp2
                  refine wp_region_aft (by kernel_rfl) (by kernel_rfl) wz (by rw [Hwz.out]; exact Below.refl _ _) ?_
                  repeat (go_big_quiet_step ((go_at_call 28; exact quiet_aft (sectors_any _ _ _ _ _ (by omega)))))
                  refine wpQuiet_nil ?_
                  rintro _ ⟨y, rfl⟩
                  have hk2 := aft_keep wz y
                  generalize aft wz y = w2 at hk2 ⊢
                  clear a0 a1 a2 a3
                  all_goals go_wp2
                  all_goals go_roundw
                  all_goals first
                    | exact ⟨k + 1, by omega, by go_num, (keep_trans (keep_trans hkr kz) hk2), by rw [Hts.out, Hall.out, E.out]; rfl⟩
                    | (simp [intOf]; omega)
                · have e3' : ((x.d.length : Int) != 32) = true := by simp; omega
                  have E := Lib.hid (show x.ok b.length = false from decide_eq_false (by omega))
                  clear e3
                  go_wp2
                  refine wp_region_aft (by kernel_rfl) (by kernel_rfl) wz (by rw [Hwz.out]; exact Below.refl _ _) ?_
                  repeat (go_big_quiet_step ((go_at_call 28; exact quiet_aft (sectors_any _ _ _ _ _ (by omega)))))
                  refine wpQuiet_nil ?_
                  rintro _ ⟨y, rfl⟩
                  have hk2 := aft_keep wz y
                  generalize aft wz y = w2 at hk2 ⊢
                  clear a0 a1 a2 a3
                  all_goals go_wp2
                  all_goals go_ret
                  all_goals exact ⟨ret_bool (Fin.out E.out).symm, keep_trans k1 (keep_trans (keep_trans hkr kz) hk2)⟩
          · obtain rfl : k = ws.length := by omega
            have hs : saneD b.length ws = true := by
              unfold saneD; rw [Bool.and_eq_true]
              refine ⟨decide_eq_true ⟨H1.out, H2.out, h3⟩, ?_⟩
              have := Hall.out; rwa [List.take_length] at this
            have Hs := Lib.hid hs; clear hs
            go_wp2
            go_ret
            exact ⟨ret_bool Hs.out.symm, keep_trans k1 hkr⟩
      · have hs := Lib.hid (show saneD b.length ws = false by unfold saneD; rw [Bool.and_eq_false_iff]; left; exact decide_eq_false (by omega))
        have t1 : ((b.length : Int) % 32 != 0) = false := by simp; omega
        have t2 : ((b.length / 32 : Nat) : Int) ≤ 4096 := by omega
        have t3 : (100000 : Int) < (ws.length : Int) := by omega
        clear h1 h2
        go_enter Try.func15, Try.ntmps15
        go_wp2_with (go_at_call 28; refine (sectors_any _ _ _ _ _ (by omega)).mono ?_; rintro e w1 ⟨rfl, hk1⟩; have b0 := keep_box hk1 0 _ rfl; have b1 := keep_box hk1 1 _ rfl; have hz1 := hk1.size; simp at hz1)
        go_ret
        exact ⟨ret_bool hs.out.symm, keep_trans ((Below.refl _ _).alloc (Nat.le_refl _) _) hk1⟩
    · have hs := Lib.hid (show saneD b.length ws = false by unfold saneD; rw [Bool.and_eq_false_iff]; left; exact decide_eq_false (by omega))
      have t1 : ((b.length : Int) % 32 != 0) = false := by simp; omega
      have t2 : (4096 : Int) < ((b.length / 32 : Nat) : Int) := by omega
      clear h1 h2
      go_enter Try.func15, Try.ntmps15
      go_wp2_with (go_at_call 28; refine (sectors_any _ _ _ _ _ (by omega)).mono ?_; rintro e w1 ⟨rfl, hk1⟩; have b0 := keep_box hk1 0 _ rfl; have b1 := keep_box hk1 1 _ rfl; have hz1 := hk1.size; simp at hz1)
      go_ret
      exact ⟨ret_bool hs.out.symm, keep_trans ((Below.refl _ _).alloc (Nat.le_refl _) _) hk1⟩
  · have hs := Lib.hid (show saneD b.length ws = false by unfold saneD; rw [Bool.and_eq_false_iff]; left; exact decide_eq_false (by omega))
    have t1 : ((b.length : Int) % 32 != 0) = true := by simp; omega
    clear h1
    go_enter Try.func15, Try.ntmps15
    go_wp2
    go_ret
    exact ⟨ret_bool hs.out.symm, (Below.refl _ _).alloc (Nat.le_refl _) _⟩
end Go.Proofs.Ytmhbfjcehmjllaa

namespace Go.Proofs.Ytmhbfjcehmjllaa
open Go.RowKit
attribute [local go_sem ↓] Go.wp_at_zero Go.wp_at_succ

/-- The disk that a call takes: the base, the writes. -/
def tkB (b : List UInt8) (ws : List WriteR) : List UInt8 := if saneD b.length ws then b else []
def tkW (b : List UInt8) (ws : List WriteR) : List WriteR := if saneD b.length ws then ws else []

set_option maxRecDepth 100000 in
set_option maxHeartbeats 2000000 in
theorem taken_anyF (A : Option Addr) (b : List UInt8) (c : Nat) (PA : Option Addr) (ws : List WriteR) (pc : Nat) (w : World) (F : World → Prop) (hF : ∀ W, Keep w W → F W) (h0 : ∀ W, F W → DOk W A b c PA ws pc) :
    Calls Try.prog 26 #[DV A b.length c PA ws.length pc] w fun e w' => ∃ A' c' PA' pc', e = .returned (DV A' (tkB b ws).length c' PA' (tkW b ws).length pc') ∧ (∀ W, F W → DOk W A' (tkB b ws) c' PA' (tkW b ws) pc') ∧ Keep w w' := by
  have h := h0 w (hF w (Below.refl _ _))
  by_cases hs : saneD b.length ws = true
  · have e1 : tkB b ws = b := if_pos hs
    have e2 : tkW b ws = ws := if_pos hs
    rw [e1, e2]
    clear e1 e2
    go_enter Try.func26, Try.ntmps26
    go_wp2_with (first
      | (go_at_call 15; refine (sane_any _ _ _ _ _ _ _ (h.keep (((Below.refl _ _).alloc (Nat.le_refl _) _).alloc (by simp) _))).mono ?_; rintro e w2 ⟨rfl, hk2⟩
         have b0 : w2.cell? ⟨w.heap.size, 0, none⟩ = some (.slice A b.length c) := keep_cell hk2 (by go_simp)
         have b1 : w2.cell? ⟨w.heap.size, 1, none⟩ = some (.slice PA ws.length pc) := keep_cell hk2 (by go_simp)
         have r0 : w2.cell? ⟨w.heap.size + 1, 0, none⟩ = some (.slice none 0 0) := keep_cell hk2 (by go_simp)
         have r1 : w2.cell? ⟨w.heap.size + 1, 1, none⟩ = some (.slice none 0 0) := keep_cell hk2 (by go_simp)
         have f0 : w2.frozen? ⟨w.heap.size + 1, 0, none⟩ = false := keep_frozen hk2 (by simp) (by go_simp)
         have f1 : w2.frozen? ⟨w.heap.size + 1, 1, none⟩ = false := keep_frozen hk2 (by simp) (by go_simp)
         have k2 : Keep w w2 := keep_trans (((Below.refl _ _).alloc (Nat.le_refl _) _).alloc (by simp) _) hk2))
    exact bodyPost_ret (v := DV A b.length c PA ws.length pc) (by simp [results, Try.results26, go_sem, r0, r1]) rfl ⟨A, c, PA, pc, rfl, fun W hW => h0 W hW, (k2.setCell (by simp) _).setCell (by simp) _⟩
  · have e1 : tkB b ws = [] := if_neg hs
    have e2 : tkW b ws = [] := if_neg hs
    have hs' : saneD b.length ws = false := by simpa using hs
    rw [e1, e2]
    clear e1 e2 hs
    go_enter Try.func26, Try.ntmps26
    go_wp2_with (first
      | (go_at_call 15; refine (sane_any _ _ _ _ _ _ _ (h.keep (((Below.refl _ _).alloc (Nat.le_refl _) _).alloc (by simp) _))).mono ?_; rintro e w2 ⟨rfl, hk2⟩
         have b0 : w2.cell? ⟨w.heap.size, 0, none⟩ = some (.slice A b.length c) := keep_cell hk2 (by go_simp)
         have b1 : w2.cell? ⟨w.heap.size, 1, none⟩ = some (.slice PA ws.length pc) := keep_cell hk2 (by go_simp)
         have r0 : w2.cell? ⟨w.heap.size + 1, 0, none⟩ = some (.slice none 0 0) := keep_cell hk2 (by go_simp)
         have r1 : w2.cell? ⟨w.heap.size + 1, 1, none⟩ = some (.slice none 0 0) := keep_cell hk2 (by go_simp)
         have f0 : w2.frozen? ⟨w.heap.size + 1, 0, none⟩ = false := keep_frozen hk2 (by simp) (by go_simp)
         have f1 : w2.frozen? ⟨w.heap.size + 1, 1, none⟩ = false := keep_frozen hk2 (by simp) (by go_simp)
         have k2 : Keep w w2 := keep_trans (((Below.refl _ _).alloc (Nat.le_refl _) _).alloc (by simp) _) hk2)
      | (go_at_call 23; refine (new_any 0 0 _ (by omega)).mono ?_; rintro e w3 ⟨A3, c3, rfl, hown3, hk3⟩
         have r0' := keep_cell hk3 r0; have r1' := keep_cell hk3 r1
         have f0' := keep_frozen hk3 (cell_lt r0) f0; have f1' := keep_frozen hk3 (cell_lt r1) f1
         have k3 := keep_trans k2 hk3))
    exact bodyPost_ret (v := DV A3 0 c3 none 0 0) (by simp [results, Try.results26, go_sem, r0', r1']) rfl ⟨A3, c3, none, 0, rfl, fun W _ => ⟨.inl rfl, Nat.zero_le _, by have h1 := own_form hown3; obtain ⟨_, _, h1, _, h2, _⟩ := h1; injection h1 with _ _ h1; rw [h1]; exact h2, .inl rfl, Nat.zero_le _, Nat.zero_le _, by simp⟩, (k3.setCell (by simp) _).setCell (by simp) _⟩
theorem taken_any (A : Option Addr) (b : List UInt8) (c : Nat) (PA : Option Addr) (ws : List WriteR) (pc : Nat) (w w0 : World) (hk0 : Keep w0 w) (h0 : DOk w0 A b c PA ws pc) :
    Calls Try.prog 26 #[DV A b.length c PA ws.length pc] w fun e w' => ∃ A' c' PA' pc', e = .returned (DV A' (tkB b ws).length c' PA' (tkW b ws).length pc') ∧ (∀ W, Keep w0 W → DOk W A' (tkB b ws) c' PA' (tkW b ws) pc') ∧ Keep w w' :=
  taken_anyF A b c PA ws pc w (fun W => Keep w0 W) (fun W hW => keep_trans hk0 hW) (fun W hW => h0.keep hW)
end Go.Proofs.Ytmhbfjcehmjllaa

namespace Go.Proofs.Ytmhbfjcehmjllaa
open Go.RowKit
attribute [local go_sem ↓] Go.wp_at_zero Go.wp_at_succ

def layN (b : List UInt8) (x : WriteR) (n : Nat) : List UInt8 := splice b (32 * x.at_.toNat) (x.d.take n)
def layW (b : List UInt8) (x : WriteR) : List UInt8 := splice b (32 * x.at_.toNat) x.d
theorem len_layW (b : List UInt8) (x : WriteR) (h : x.ok b.length = true) : (layW b x).length = b.length := by
  have := of_decide_eq_true h
  unfold layW; rw [length_splice]; omega
theorem len_layN (b : List UInt8) (x : WriteR) (n : Nat) (h : x.ok b.length = true) : (layN b x n).length = b.length := by
  have := of_decide_eq_true h
  unfold layN; rw [length_splice]; simp; omega
theorem splice_map {α β : Type} (f : α → β) (b : List α) (off : Nat) (d : List α) : splice (b.map f) off (d.map f) = (splice b off d).map f := by
  simp [splice, List.map_append, List.map_take, List.map_drop]

theorem drop_cons {α : Type} (l : List α) (k : Nat) (h : k < l.length) : l.drop k = l[k] :: l.drop (k + 1) := List.drop_eq_getElem_cons h

def bytesD (b : List UInt8) (ws : List WriteR) : List UInt8 := (tkW b ws).foldl layW (tkB b ws)

theorem tk_sane (b : List UInt8) (ws : List WriteR) : saneD (tkB b ws).length (tkW b ws) = true := by
  unfold tkB tkW; split
  · assumption
  · rfl
theorem ok_of_sane {nb : Nat} {ws : List WriteR} (h : saneD nb ws = true) : ∀ x ∈ ws, x.ok nb = true := fun x hx => by
  unfold saneD at h
  exact List.all_eq_true.1 (Bool.and_eq_true_iff.1 h).2 x hx
theorem sane_len {nb : Nat} {ws : List WriteR} (h : saneD nb ws = true) : nb % 32 = 0 ∧ nb / 32 ≤ 4096 ∧ ws.length ≤ 100000 := by
  unfold saneD at h
  exact of_decide_eq_true (Bool.and_eq_true_iff.1 h).1

set_option maxRecDepth 100000 in
set_option maxHeartbeats 2000000 in
theorem bytes_any (A : Option Addr) (b : List UInt8) (c : Nat) (PA : Option Addr) (ws : List WriteR) (pc : Nat) (w : World) (h : DOk w A b c PA ws pc) :
    Calls Try.prog 17 #[DV A b.length c PA ws.length pc] w fun e w' => ∃ v, e = .returned v ∧ w'.ownsRow w.heap.size 5 1 v (bytesD b ws).length ((bytesD b ws).map u8v) ∧ Keep w w' := by
  have hsane := tk_sane b ws
  go_enter Try.func17, Try.ntmps17
  go_wp2_with (first
    | (go_at_call 26; refine (taken_any _ _ _ _ _ _ _ w ((Below.refl _ _).alloc (Nat.le_refl _) _) h).mono ?_; rintro e w2 ⟨A2, c2, PA2, pc2, rfl, hd, hk2⟩
       have b0 : w2.cell? ⟨w.heap.size, 0, none⟩ = some (.slice A b.length c) := keep_cell hk2 (by go_simp)
       have b1 : w2.cell? ⟨w.heap.size, 1, none⟩ = some (.slice PA ws.length pc) := keep_cell hk2 (by go_simp)
       have f0 : w2.frozen? ⟨w.heap.size, 0, none⟩ = false := keep_frozen hk2 (by simp) (by go_simp)
       have f1 : w2.frozen? ⟨w.heap.size, 1, none⟩ = false := keep_frozen hk2 (by simp) (by go_simp)
       have k2 : Keep w w2 := keep_trans ((Below.refl _ _).alloc (Nat.le_refl _) _) hk2))
  have k3 := (k2.setCell (p := ⟨w.heap.size, 0, none⟩) (by simp) (.slice A2 (tkB b ws).length c2)).setCell (p := ⟨w.heap.size, 1, none⟩) (by simp) (.slice PA2 (tkW b ws).length pc2)
  have hd3 := hd _ k3
  have e1 : ((w2.setCell ⟨w.heap.size, 0, none⟩ (.slice A2 (tkB b ws).length c2)).setCell ⟨w.heap.size, 1, none⟩ (.slice PA2 (tkW b ws).length pc2)).cell? ⟨w.heap.size, 1, none⟩ = some (.slice PA2 (tkW b ws).length pc2) := by go_simp
  have hbd : bytesD b ws = (tkW b ws).foldl layW (tkB b ws) := rfl
  generalize tkB b ws = bb at hsane k3 hd3 e1 hbd ⊢
  generalize tkW b ws = wv at hsane k3 hd3 e1 hbd ⊢
  have Hbd := Lib.hid hbd; clear hbd
  generalize ((w2.setCell ⟨w.heap.size, 0, none⟩ (.slice A2 bb.length c2)).setCell ⟨w.heap.size, 1, none⟩ (.slice PA2 wv.length pc2)) = w3 at k3 hd3 e1 ⊢
  clear b0 b1 f0 f1 hk2 hd
  have hsl := sane_len hsane
  have hok := ok_of_sane hsane
  have Hok := Lib.hid hok; clear hok
  refine (clone_any _ bb _ _ (by omega) hd3.rb).mono ?_
  rintro e w4 ⟨v4, rfl, hown4, hk4⟩
  have e4 := keep_cell hk4 e1
  have Hd3 := Lib.hid hd3
  have hbc := hd3.bc; have hcm := hd3.cm; have hpl := hd3.pl; have hpm := hd3.pm
  unfold maxLen at hcm hpm
  obtain ⟨A4, c4, rfl, hc4, hm4, hrd4⟩ := own_form hown4
  unfold maxLen at hm4
  clear hrd4 hd3 e1 hsl
  have k4 := keep_trans k3 hk4
  have hzk := k3.size
  go_wp2_with fail
  go_loopw [14] (fun i wr => ∃ (k : Nat) (bk : List UInt8), k ≤ wv.length ∧ i = .int .i64 k ∧ bk.length = bb.length ∧ (wv.drop k).foldl layW bk = wv.foldl layW bb ∧ wr.ownsRow w3.heap.size 5 1 (.slice A4 bb.length c4) bb.length (bk.map u8v) ∧ Below w3.heap.size w3 wr)
    (fun i _ => wv.length - (intOf i).toNat)
  case atStart => exact ⟨0, bb, Nat.zero_le _, rfl, rfl, rfl, hown4, hk4⟩
  case round =>
    obtain ⟨k, bk, hk, rfl, hbl, hfold, hown, hkr⟩ := hrel
    have Hbl := Lib.hid hbl; have Hfold := Lib.hid hfold; have Hown := Lib.hid hown
    clear hbl hfold hown
    by_cases hlt : k < wv.length
    · obtain ⟨bp, off, rfl, hb, F⟩ := WriteR.at2 (Hd3.out.rp) hlt
      have hx := Hd3.out.ok _ (List.getElem_mem hlt)
      have hxo := of_decide_eq_true (Hok.out _ (List.getElem_mem hlt))
      have hxo' := Hok.out _ (List.getElem_mem hlt)
      have hdc := drop_cons wv k hlt
      generalize wv[k] = x at F hx hxo hdc hxo'
      have Hdc := Lib.hid hdc; have Hxo := Lib.hid hxo'
      obtain ⟨hx0, hx1, hx2⟩ := hxo
      obtain ⟨at_, hat⟩ : ∃ n : Nat, x.at_ = n := ⟨x.at_.toNat, by omega⟩
      have h32 : 32 * at_ + 32 ≤ bb.length := by omega
      have hxl : x.d.length ≤ 32 := by omega
      have Hx2 := Lib.hid hx2
      obtain ⟨c0, c1⟩ := F wr hkr
      have Hat := Lib.hid hat
      rw [hat] at c0
      have Hx := Lib.hid hx
      have hxc := hx.2.1; have hxm := hx.2.2
      unfold maxLen at hxm
      obtain ⟨g, cap, hv, hgb, hgl⟩ := Hown.out.form (by omega)
      injection hv with hv1 _ hv3
      subst hv1 hv3
      obtain ⟨cur, hcur, hcl, _⟩ := own_cur Hown.out
      have Hcur := Lib.hid hcur
      clear F hdc hxo' hx hx0 hx1 hat hcur hx2
      go_wp2
      go_region_held3 (fun w' => w'.cell? ⟨wr.heap.size, 0, none⟩ = some (.int .i64 at_) ∧ w'.cell? ⟨wr.heap.size, 1, none⟩ = some (.slice x.A x.d.length x.cap))
        (first
          | go_keep
          | exact ⟨grown_cell hg7 (by go_simp) (by simp; omega), grown_cell hg7 (by go_simp) (by simp; omega)⟩)
        (first
          | (go_at_call 25; refine (sector_any _ _ _ _ at_ _ (by omega) (by omega) (by omega) _ rfl).mono ?_; rintro e w5 ⟨rfl, rfl⟩)
          | (refine stp_cpy byteT g (32 * at_) 32 32 (by rfl) x.A x.d.length x.cap (x.d.map u8v) (by rfl) (by simp) (Rd.keep Hx.out.1 (by exact ((hkr.alloc (by omega) _).drew))) (one_bytes _) cur 5 (by exact (Blk.alloc Hcur.out _)) (by omega) ?_
             intro w7 hcur7 hg7))
      go_wp2
      go_roundw
      case rel =>
        have hat' : x.at_.toNat = at_ := by rw [Hat.out]; rfl
        have hso : x.ok bk.length = true := by rw [Hbl.out]; exact Hxo.out
        have hl := len_layW bk x hso
        rw [Hbl.out] at hl
        refine ⟨k + 1, layW bk x, by omega, by go_num, hl, by rw [← Hfold.out, Hdc.out]; rfl, ?_, ?_⟩
        · have hh := own_splice Hown.out (off := 32 * at_) (ys := (x.d.map u8v).take 32) (by simp; have := Hx2.out; omega) Hcur.out hcur7.out
          rw [List.take_of_length_le (by simp; omega), splice_map] at hh
          unfold layW; rw [hat']; exact hh
        · exact ((hkr.alloc (by omega) _).drew).grown hg7 (by simp; omega) (fun q hq => by injection hq with hq; omega)
      case measure => simp [intOf]; omega
    · obtain rfl : k = wv.length := by omega
      rw [List.drop_length] at Hfold
      go_wp2
      go_ret
      have hbk : bk = bytesD b ws := by rw [Hbd.out, ← Hfold.out]; rfl
      refine ⟨_, rfl, ?_, keep_trans k3 hkr⟩
      rw [← hbk, Hbl.out]
      have h1 := Hown.out
      exact ⟨h1.1, h1.2.imp id fun ⟨g, cap, cur, e1, e2, e3⟩ => ⟨g, cap, cur, e1, by omega, e3⟩⟩
end Go.Proofs.Ytmhbfjcehmjllaa

namespace Go.Proofs.Ytmhbfjcehmjllaa
open Go.RowKit
attribute [local go_sem ↓] Go.wp_at_zero Go.wp_at_succ

def planN (plan : List UInt8) (i : Nat) : Nat := min (plan.getD i 0).toNat 32
def crashAt (plan : List UInt8) : Nat → List WriteR → List UInt8 → List UInt8
  | _, [], b => b
  | i, x :: ws, b => crashAt plan (i + 1) ws (layN b x (planN plan i))
def crashD (b : List UInt8) (ws : List WriteR) (plan : List UInt8) : List UInt8 := crashAt plan 0 (tkW b ws) (tkB b ws)

set_option maxRecDepth 100000 in
set_option maxHeartbeats 2000000 in
theorem crash_any (A : Option Addr) (b : List UInt8) (c : Nat) (PA : Option Addr) (ws : List WriteR) (pc : Nat) (B : Option Addr) (plan : List UInt8) (cq : Nat) (w : World) (h : DOk w A b c PA ws pc) (hpr : Rd w B (plan.map u8v)) (hpl : plan.length ≤ 1000000) :
    Calls Try.prog 21 #[DV A b.length c PA ws.length pc, .slice B plan.length cq] w fun e w' => ∃ A' c', e = .returned (DV A' (crashD b ws plan).length c' none 0 0) ∧ w'.ownsRow w.heap.size 5 1 (.slice A' (crashD b ws plan).length c') (crashD b ws plan).length ((crashD b ws plan).map u8v) ∧ Keep w w' := by
  have hsane := tk_sane b ws
  go_enter Try.func21, Try.ntmps21
  go_wp2_with (first
    | (go_at_call 26; refine (taken_any _ _ _ _ _ _ _ w (((Below.refl _ _).alloc (Nat.le_refl _) _).alloc (by simp) _) h).mono ?_; rintro e w2 ⟨A2, c2, PA2, pc2, rfl, hd, hk2⟩
       have b0 : w2.cell? ⟨w.heap.size, 0, none⟩ = some (.slice A b.length c) := keep_cell hk2 (by go_simp)
       have b1 : w2.cell? ⟨w.heap.size, 1, none⟩ = some (.slice PA ws.length pc) := keep_cell hk2 (by go_simp)
       have f0 : w2.frozen? ⟨w.heap.size, 0, none⟩ = false := keep_frozen hk2 (by simp; omega) (by go_simp)
       have f1 : w2.frozen? ⟨w.heap.size, 1, none⟩ = false := keep_frozen hk2 (by simp; omega) (by go_simp)
       have r0 : w2.cell? ⟨w.heap.size + 1, 0, none⟩ = some (.slice none 0 0) := keep_cell hk2 (by go_simp)
       have r1 : w2.cell? ⟨w.heap.size + 1, 1, none⟩ = some (.slice none 0 0) := keep_cell hk2 (by go_simp)
       have g0 : w2.frozen? ⟨w.heap.size + 1, 0, none⟩ = false := keep_frozen hk2 (by simp) (by go_simp)
       have g1 : w2.frozen? ⟨w.heap.size + 1, 1, none⟩ = false := keep_frozen hk2 (by simp) (by go_simp)
       have k2 : Keep w w2 := keep_trans (((Below.refl _ _).alloc (Nat.le_refl _) _).alloc (by simp) _) hk2))
  have k3 := (k2.setCell (p := ⟨w.heap.size, 0, none⟩) (by simp) (.slice A2 (tkB b ws).length c2)).setCell (p := ⟨w.heap.size, 1, none⟩) (by simp) (.slice PA2 (tkW b ws).length pc2)
  have hd3 := hd _ k3
  have e1 : ((w2.setCell ⟨w.heap.size, 0, none⟩ (.slice A2 (tkB b ws).length c2)).setCell ⟨w.heap.size, 1, none⟩ (.slice PA2 (tkW b ws).length pc2)).cell? ⟨w.heap.size, 1, none⟩ = some (.slice PA2 (tkW b ws).length pc2) := by go_simp
  have hbd : crashD b ws plan = crashAt plan 0 (tkW b ws) (tkB b ws) := rfl
  generalize tkB b ws = bb at hsane k3 hd3 e1 hbd ⊢
  generalize tkW b ws = wv at hsane k3 hd3 e1 hbd ⊢
  have Hbd := Lib.hid hbd; clear hbd
  have q0 : ((w2.setCell ⟨w.heap.size, 0, none⟩ (.slice A2 bb.length c2)).setCell ⟨w.heap.size, 1, none⟩ (.slice PA2 wv.length pc2)).cell? ⟨w.heap.size + 1, 0, none⟩ = some (.slice none 0 0) := by go_simp
  have q1 : ((w2.setCell ⟨w.heap.size, 0, none⟩ (.slice A2 bb.length c2)).setCell ⟨w.heap.size, 1, none⟩ (.slice PA2 wv.length pc2)).cell? ⟨w.heap.size + 1, 1, none⟩ = some (.slice none 0 0) := by go_simp
  have y0 : ((w2.setCell ⟨w.heap.size, 0, none⟩ (.slice A2 bb.length c2)).setCell ⟨w.heap.size, 1, none⟩ (.slice PA2 wv.length pc2)).frozen? ⟨w.heap.size + 1, 0, none⟩ = false := by go_simp
  have y1 : ((w2.setCell ⟨w.heap.size, 0, none⟩ (.slice A2 bb.length c2)).setCell ⟨w.heap.size, 1, none⟩ (.slice PA2 wv.length pc2)).frozen? ⟨w.heap.size + 1, 1, none⟩ = false := by go_simp
  generalize ((w2.setCell ⟨w.heap.size, 0, none⟩ (.slice A2 bb.length c2)).setCell ⟨w.heap.size, 1, none⟩ (.slice PA2 wv.length pc2)) = w3 at k3 hd3 e1 q0 q1 y0 y1 ⊢
  clear b0 b1 f0 f1 hk2 hd r0 r1 g0 g1
  have hsl := sane_len hsane
  have hok := ok_of_sane hsane
  have Hok := Lib.hid hok; clear hok
  refine (clone_any _ bb _ _ (by omega) hd3.rb).mono ?_
  rintro e w4 ⟨v4, rfl, hown4, hk4⟩
  have e4 := keep_cell hk4 e1
  have Hd3 := Lib.hid hd3
  have hbc := hd3.bc; have hcm := hd3.cm; have hpl := hd3.pl; have hpm := hd3.pm
  unfold maxLen at hcm hpm
  obtain ⟨A4, c4, rfl, hc4, hm4, hrd4⟩ := own_form hown4
  unfold maxLen at hm4
  clear hrd4 hd3 e1 hsl
  have Q0 := Lib.hid q0; have Q1 := Lib.hid q1; have Y0 := Lib.hid y0; have Y1 := Lib.hid y1
  clear q0 q1 y0 y1
  have k4 := keep_trans k3 hk4
  have hzk := k3.size
  go_wp2_with fail
  go_loopw [17] (fun i wr => ∃ (k : Nat) (bk : List UInt8), k ≤ wv.length ∧ i = .int .i64 k ∧ bk.length = bb.length ∧ crashAt plan k (wv.drop k) bk = crashAt plan 0 wv bb ∧ wr.ownsRow w3.heap.size 5 1 (.slice A4 bb.length c4) bb.length (bk.map u8v) ∧ Below w3.heap.size w3 wr)
    (fun i _ => wv.length - (intOf i).toNat)
  case atStart => exact ⟨0, bb, Nat.zero_le _, rfl, rfl, rfl, hown4, hk4⟩
  case round =>
    obtain ⟨k, bk, hk, rfl, hbl, hfold, hown, hkr⟩ := hrel
    obtain ⟨wo, rfl⟩ : ∃ wo : World, wo = wr := ⟨_, rfl⟩
    have Hbl := Lib.hid hbl; have Hfold := Lib.hid hfold; have Hown := Lib.hid hown
    clear hbl hfold hown
    by_cases hlt : k < wv.length
    · obtain ⟨bp, off, rfl, hb, F⟩ := WriteR.at2 (Hd3.out.rp) hlt
      have hx := Hd3.out.ok _ (List.getElem_mem hlt)
      have hxo := of_decide_eq_true (Hok.out _ (List.getElem_mem hlt))
      have hxo' := Hok.out _ (List.getElem_mem hlt)
      have hdc := drop_cons wv k hlt
      generalize wv[k] = x at F hx hxo hdc hxo'
      have Hdc := Lib.hid hdc; have Hxo := Lib.hid hxo'
      obtain ⟨hx0, hx1, hx2⟩ := hxo
      obtain ⟨at_, hat⟩ : ∃ n : Nat, x.at_ = n := ⟨x.at_.toNat, by omega⟩
      have h32 : 32 * at_ + 32 ≤ bb.length := by omega
      have hxl : x.d.length ≤ 32 := by omega
      have Hx2 := Lib.hid hx2
      obtain ⟨c0, c1⟩ := F wo hkr
      have Hat := Lib.hid hat
      rw [hat] at c0
      have Hx := Lib.hid hx
      have hxc := hx.2.1; have hxm := hx.2.2
      unfold maxLen at hxm
      obtain ⟨g, cap, hv, hgb, hgl⟩ := Hown.out.form (by omega)
      injection hv with hv1 _ hv3
      subst hv1 hv3
      obtain ⟨cur, hcur, hcl, _⟩ := own_cur Hown.out
      have Hcur := Lib.hid hcur
      clear F hdc hxo' hx hx0 hx1 hat hcur hx2
      have hpn : planN plan k ≤ 32 := Nat.min_le_right _ _
      have Hpn := Lib.hid (show ∀ y, plan.getD k 0 = y → planN plan k = min y.toNat 32 from fun y hy => by unfold planN; rw [hy])
      go_upto_if 25 with fail
      go_cut [8] (fun v wx => v = .int .i64 (planN plan k : Nat) ∧ Blk wx wo.heap.size 54 [.int .i64 at_, .slice x.A x.d.length x.cap] ∧ Keep wo wx)
      case first =>
        by_cases hkp : k < plan.length
        · obtain ⟨bq, oq, rfl, hbq, hcq⟩ := (hpr.keep (keep_trans k3 hkr)).at (k := k) (by simpa using hkp)
          have hcell := hcq k (by simpa using hkp)
          simp only [List.getElem_map] at hcell
          have hg := Hpn.out (plan[k]) (by simp [hkp])
          generalize plan[k] = y at hcell hg
          have Hg := Lib.hid hg
          have hy := y.toNat_lt
          clear hcq hg
          go_wp2
          all_goals go_meet
          all_goals exact ⟨by rw [Hg.out]; congr 1; omega, Blk.new _ _ _, (Below.refl _ _).alloc (Nat.le_refl _) _⟩
        · have hg := Hpn.out 0 (by simp [List.getElem?_eq_none (Nat.le_of_not_lt hkp)])
          have Hg := Lib.hid hg; clear hg
          go_wp2
          all_goals go_meet
          all_goals exact ⟨by rw [Hg.out]; rfl, Blk.new _ _ _, (Below.refl _ _).alloc (Nat.le_refl _) _⟩
      case rest =>
        obtain ⟨rfl, hbk, hkc⟩ := hcut
        have x0 := hbk.cell 0; have x1 := hbk.cell 1
        simp only [List.getElem?_cons_zero, List.getElem?_cons_succ] at x0 x1
        have hbl := hbk.lt
        have Hpd := Lib.hid (show ∀ b', layN b' x (planN plan k) = splice b' (32 * at_) (x.d.take (planN plan k)) from fun b' => by unfold layN; rw [show x.at_.toNat = at_ by rw [Hat.out]; rfl])
        have Hst := Lib.hid (show crashAt plan k (x :: wv.drop (k + 1)) bk = crashAt plan (k + 1) (wv.drop (k + 1)) (layN bk x (planN plan k)) from rfl)
        generalize planN plan k = n at hpn Hpd Hst ⊢
        have n0 : (0 : Int) ≤ (n : Int) := by omega
        have n1 : (n : Int) ≤ (x.cap : Int) := by have := Hx2.out; omega
        have Hcur2 := Lib.hid ((hkc.block g hgl).trans Hcur.out)
        have hown2 := own_keep Hown.out hkc
        have Hown2 := Lib.hid hown2; clear hown2 hbk
        have hkrc := keep_trans hkr hkc
        have hzc := hkrc.size
        go_wp2
        go_region_held3 (fun w' => w'.cell? ⟨wo.heap.size, 0, none⟩ = some (.int .i64 at_) ∧ w'.cell? ⟨wo.heap.size, 1, none⟩ = some (.slice x.A x.d.length x.cap))
          (first
            | go_keep
            | exact ⟨grown_cell hg7 (by go_simp) (by simp; omega), grown_cell hg7 (by go_simp) (by simp; omega)⟩)
          (first
            | (go_at_call 25; refine (sector_any _ _ _ _ at_ _ (by omega) (by omega) (by omega) _ rfl).mono ?_; rintro e w5 ⟨rfl, rfl⟩)
            | (refine stp_cpy byteT g (32 * at_) 32 32 (by rfl) x.A n x.cap ((x.d.map u8v).take n) (by rfl) (by simp; have := Hx2.out; omega) (Rd.take (Rd.keep Hx.out.1 (by exact hkrc.drew)) _) (fun u hu => one_bytes x.d u (List.mem_of_mem_take hu)) cur 5 (by exact Hcur2.out) (by omega) ?_
               intro w7 hcur7 hg7))
        go_wp2
        go_roundw
        case rel =>
          have hso : x.ok bk.length = true := by rw [Hbl.out]; exact Hxo.out
          have hl := len_layN bk x n hso
          rw [Hbl.out] at hl
          refine ⟨k + 1, layN bk x n, by omega, by go_num, hl, by rw [← Hfold.out, Hdc.out, Hst.out], ?_, ?_⟩
          · have hh := own_splice Hown2.out (off := 32 * at_) (ys := ((x.d.map u8v).take n).take 32) (by simp; omega) Hcur2.out hcur7.out
            rw [List.take_of_length_le (l := (x.d.map u8v).take n) (by simp; omega), ← List.map_take, splice_map] at hh
            rw [Hpd.out]; exact hh
          · exact (hkrc.drew).grown hg7 (by simp; omega) (fun q hq => by injection hq with hq; omega)
        case measure => simp [intOf]; omega
    · obtain rfl : k = wv.length := by omega
      rw [List.drop_length] at Hfold
      have r0 := keep_cell hkr Q0.out; have r1 := keep_cell hkr Q1.out
      have g0 := keep_frozen hkr (cell_lt Q0.out) Y0.out; have g1 := keep_frozen hkr (cell_lt Q1.out) Y1.out
      have hlt3 := cell_lt Q0.out
      go_wp2
      have hbk : bk = crashD b ws plan := by rw [Hbd.out, ← Hfold.out]; rfl
      have hbl2 : (crashD b ws plan).length = bb.length := by rw [← hbk]; exact Hbl.out
      refine bodyPost_ret (v := DV A4 bb.length c4 none 0 0) (by simp [results, Try.results21, go_sem, r0, r1]) rfl ⟨A4, c4, by rw [hbl2], ?_, ((keep_trans k3 hkr).setCell (by simp) _).setCell (by simp) _⟩
      have h1 := ownsRow_setCell_below (ownsRow_setCell_below Hown.out (a := ⟨w.heap.size + 1, 0, none⟩) hlt3 (.slice A4 bb.length c4)) (a := ⟨w.heap.size + 1, 1, none⟩) hlt3 (.slice none 0 0)
      rw [← hbk, Hbl.out]
      exact ⟨h1.1, h1.2.imp id fun ⟨g, cap, cur, e1, e2, e3⟩ => ⟨g, cap, cur, e1, by omega, e3⟩⟩
end Go.Proofs.Ytmhbfjcehmjllaa

namespace Go.Proofs.Ytmhbfjcehmjllaa
open Go.RowKit
attribute [local go_sem ↓] Go.wp_at_zero Go.wp_at_succ

/-- Does a row of sectors fit? -/
def layOk (nb np : Nat) (at_ : Int) (n : Nat) : Bool := decide (0 ≤ at_ ∧ at_ ≤ (nb / 32 : Nat) - (n : Int) ∧ np + n ≤ 100000)
def layWs (at_ : Int) (data : List UInt8) (n : Nat) : List (Int × List UInt8) := (List.range n).map fun (k : Nat) => (at_ + k, (data.drop (32 * k)).take 32)
/-- What Lay answers: the writes, and the error. -/
def layD (b : List UInt8) (ws : List WriteR) (at_ : Int) (data : List UInt8) : List (Int × List UInt8) × Int :=
  if data.length % 32 ≠ 0 then ((tkW b ws).map WriteR.pl, 14)
  else if data.length / 32 = 0 then ((tkW b ws).map WriteR.pl, 0)
  else if layOk (tkB b ws).length (tkW b ws).length at_ (data.length / 32) then ((tkW b ws).map WriteR.pl ++ layWs at_ data (data.length / 32), 0)
  else ((tkW b ws).map WriteR.pl, 14)

theorem one_writes (vs : List WriteR) : ∀ u ∈ vs.flatMap WriteR.cells, u.oneCell' = true := by
  intro u hu
  obtain ⟨s, _, hs⟩ := List.mem_flatMap.1 hu
  simp only [WriteR.cells, List.mem_cons, List.not_mem_nil, or_false] at hs
  rcases hs with rfl | rfl <;> rfl

def zerosW (n : Nat) : Array Value := madeCells #[.int .i64 0, .slice none 0 0] (n * 2)
theorem zerosW_len (n : Nat) : (zerosW n).toList.length = n * 2 := by simp [zerosW, madeCells]
/-- The writes that Lay makes, of which the bytes lie in block g. -/
def newW (g : Nat) (at_ : Int) (data : List UInt8) (k : Nat) : List WriteR := (List.range k).map fun (j : Nat) => ⟨at_ + j, some ⟨g, 32 * j, none⟩, 32, (data.drop (32 * j)).take 32⟩
theorem newW_succ (g : Nat) (at_ : Int) (data : List UInt8) (k : Nat) : newW g at_ data (k + 1) = newW g at_ data k ++ [⟨at_ + k, some ⟨g, 32 * k, none⟩, 32, (data.drop (32 * k)).take 32⟩] := by
  simp [newW, List.range_succ]
theorem newW_pl (g : Nat) (at_ : Int) (data : List UInt8) (k : Nat) : (newW g at_ data k).map WriteR.pl = layWs at_ data k := by simp [newW, layWs, WriteR.pl]
theorem newW_len (g : Nat) (at_ : Int) (data : List UInt8) (k : Nat) : (newW g at_ data k).length = k := by simp [newW]

set_option maxRecDepth 100000 in
set_option maxHeartbeats 4000000 in
theorem lay_anyF (A : Option Addr) (b : List UInt8) (c : Nat) (PA : Option Addr) (ws : List WriteR) (pc : Nat) (i : Int) (B : Option Addr) (data : List UInt8) (cd : Nat) (w : World) (F : World → Prop) (hF : ∀ W, Keep w W → F W) (h : ∀ W, F W → DOk W A b c PA ws pc)
    (hdr : Rd w B (data.map u8v)) (hdl : data.length ≤ 1000000) (hi : -9223372036854775808 ≤ i ∧ i ≤ 9223372036854775807) :
    Calls Try.prog 11 #[DV A b.length c PA ws.length pc, .int .i64 i, .slice B data.length cd] w fun e w' =>
      ∃ A' c' PA' pc' vs, e = .returned (.tuple #[DV A' (tkB b ws).length c' PA' vs.length pc', .int .i64 (layD b ws i data).2]) ∧ vs.map WriteR.pl = (layD b ws i data).1 ∧
        (∀ W, MidF F w w' W → DOk W A' (tkB b ws) c' PA' vs pc') ∧ Keep w w' := by
  obtain ⟨hi1, hi2⟩ := hi
  have hsane := tk_sane b ws
  by_cases h1 : data.length % 32 = 0
  · by_cases h2 : data.length / 32 = 0
    · have HL := Lib.hid (show layD b ws i data = ((tkW b ws).map WriteR.pl, 0) by unfold layD; rw [if_neg (by omega), if_pos h2])
      have t1 : ((data.length : Int) % 32 != 0) = false := by simp; omega
      have t2 : ((data.length : Int) / 32 == 0) = true := by simp; omega
      clear h1 h2
      go_enter Try.func11, Try.ntmps11
      go_wp2_with fail
      refine (taken_anyF _ _ _ _ _ _ _ F (fun W hW => hF W (keep_trans (((Below.refl _ _).alloc (Nat.le_refl _) _).alloc (by simp) _) hW)) h).mono ?_
      rintro e w2 ⟨A2, c2, PA2, pc2, rfl, hd, hk2⟩
      have b0 : w2.cell? ⟨w.heap.size, 0, none⟩ = some (.slice A b.length c) := keep_cell hk2 (by go_simp)
      have b1 : w2.cell? ⟨w.heap.size, 1, none⟩ = some (.slice PA ws.length pc) := keep_cell hk2 (by go_simp)
      have f0 : w2.frozen? ⟨w.heap.size, 0, none⟩ = false := keep_frozen hk2 (by simp; omega) (by go_simp)
      have f1 : w2.frozen? ⟨w.heap.size, 1, none⟩ = false := keep_frozen hk2 (by simp; omega) (by go_simp)
      have r0 : w2.cell? ⟨w.heap.size + 1, 0, none⟩ = some (.slice none 0 0) := keep_cell hk2 (by go_simp)
      have r1 : w2.cell? ⟨w.heap.size + 1, 1, none⟩ = some (.slice none 0 0) := keep_cell hk2 (by go_simp)
      have g0 : w2.frozen? ⟨w.heap.size + 1, 0, none⟩ = false := keep_frozen hk2 (by simp) (by go_simp)
      have g1 : w2.frozen? ⟨w.heap.size + 1, 1, none⟩ = false := keep_frozen hk2 (by simp) (by go_simp)
      have k2 : Keep w w2 := keep_trans (((Below.refl _ _).alloc (Nat.le_refl _) _).alloc (by simp) _) hk2
      go_wp2_with fail
      refine bodyPost_ret (v := .tuple #[DV A2 (tkB b ws).length c2 PA2 (tkW b ws).length pc2, .int .i64 0]) (by simp [results, Try.results11, go_sem, b0, b1, r0, r1]) rfl ⟨A2, c2, PA2, pc2, tkW b ws, by rw [HL.out], by rw [HL.out], fun W hW => hd W hW.1, (((k2.setCell (by simp) _).setCell (by simp) _).setCell (by simp) _).setCell (by simp) _⟩
    · have t1 : ((data.length : Int) % 32 != 0) = false := by simp; omega
      have t2 : ((data.length : Int) / 32 == 0) = false := by simp; omega
      have HL := Lib.hid (show layD b ws i data = if layOk (tkB b ws).length (tkW b ws).length i (data.length / 32) then ((tkW b ws).map WriteR.pl ++ layWs i data (data.length / 32), 0) else ((tkW b ws).map WriteR.pl, 14) by
        unfold layD; rw [if_neg (by omega), if_neg h2])
      have hn0 : 0 < data.length / 32 := by omega
      have Hn32 := Lib.hid (show 32 * (data.length / 32) = data.length by omega)
      clear h1 h2
      by_cases hi0 : i < 0
      · have HL2 := Lib.hid (show layD b ws i data = ((tkW b ws).map WriteR.pl, 14) by rw [HL.out, if_neg]; unfold layOk; rw [decide_eq_true_eq]; omega)
        go_enter Try.func11, Try.ntmps11
        go_wp2_with fail
        refine (taken_anyF _ _ _ _ _ _ _ F (fun W hW => hF W (keep_trans (((Below.refl _ _).alloc (Nat.le_refl _) _).alloc (by simp) _) hW)) h).mono ?_
        rintro e w2 ⟨A2, c2, PA2, pc2, rfl, hd, hk2⟩
        have b0 : w2.cell? ⟨w.heap.size, 0, none⟩ = some (.slice A b.length c) := keep_cell hk2 (by go_simp)
        have b1 : w2.cell? ⟨w.heap.size, 1, none⟩ = some (.slice PA ws.length pc) := keep_cell hk2 (by go_simp)
        have f0 : w2.frozen? ⟨w.heap.size, 0, none⟩ = false := keep_frozen hk2 (by simp; omega) (by go_simp)
        have f1 : w2.frozen? ⟨w.heap.size, 1, none⟩ = false := keep_frozen hk2 (by simp; omega) (by go_simp)
        have r0 : w2.cell? ⟨w.heap.size + 1, 0, none⟩ = some (.slice none 0 0) := keep_cell hk2 (by go_simp)
        have r1 : w2.cell? ⟨w.heap.size + 1, 1, none⟩ = some (.slice none 0 0) := keep_cell hk2 (by go_simp)
        have g0 : w2.frozen? ⟨w.heap.size + 1, 0, none⟩ = false := keep_frozen hk2 (by simp) (by go_simp)
        have g1 : w2.frozen? ⟨w.heap.size + 1, 1, none⟩ = false := keep_frozen hk2 (by simp) (by go_simp)
        have k2 : Keep w w2 := keep_trans (((Below.refl _ _).alloc (Nat.le_refl _) _).alloc (by simp) _) hk2
        go_wp2_with fail
        refine bodyPost_ret (v := .tuple #[DV A2 (tkB b ws).length c2 PA2 (tkW b ws).length pc2, .int .i64 14]) (by simp [results, Try.results11, go_sem, b0, b1, r0, r1]) rfl ⟨A2, c2, PA2, pc2, tkW b ws, by rw [HL2.out], by rw [HL2.out], fun W hW => hd W hW.1, (((k2.setCell (by simp) _).setCell (by simp) _).setCell (by simp) _).setCell (by simp) _⟩
      · have hi0' : 0 ≤ i := by omega
        go_enter Try.func11, Try.ntmps11
        go_wp2_with fail
        refine (taken_anyF _ _ _ _ _ _ _ F (fun W hW => hF W (keep_trans (((Below.refl _ _).alloc (Nat.le_refl _) _).alloc (by simp) _) hW)) h).mono ?_
        rintro e w2 ⟨A2, c2, PA2, pc2, rfl, hd, hk2⟩
        have b0 : w2.cell? ⟨w.heap.size, 0, none⟩ = some (.slice A b.length c) := keep_cell hk2 (by go_simp)
        have b1 : w2.cell? ⟨w.heap.size, 1, none⟩ = some (.slice PA ws.length pc) := keep_cell hk2 (by go_simp)
        have f0 : w2.frozen? ⟨w.heap.size, 0, none⟩ = false := keep_frozen hk2 (by simp; omega) (by go_simp)
        have f1 : w2.frozen? ⟨w.heap.size, 1, none⟩ = false := keep_frozen hk2 (by simp; omega) (by go_simp)
        have r0 : w2.cell? ⟨w.heap.size + 1, 0, none⟩ = some (.slice none 0 0) := keep_cell hk2 (by go_simp)
        have r1 : w2.cell? ⟨w.heap.size + 1, 1, none⟩ = some (.slice none 0 0) := keep_cell hk2 (by go_simp)
        have g0 : w2.frozen? ⟨w.heap.size + 1, 0, none⟩ = false := keep_frozen hk2 (by simp) (by go_simp)
        have g1 : w2.frozen? ⟨w.heap.size + 1, 1, none⟩ = false := keep_frozen hk2 (by simp) (by go_simp)
        have k2 : Keep w w2 := keep_trans (((Below.refl _ _).alloc (Nat.le_refl _) _).alloc (by simp) _) hk2
        go_wp2_with fail
        have k3 := (k2.setCell (p := ⟨w.heap.size, 0, none⟩) (by simp) (.slice A2 (tkB b ws).length c2)).setCell (p := ⟨w.heap.size, 1, none⟩) (by simp) (.slice PA2 (tkW b ws).length pc2)
        have hd3 := hd _ (hF _ k3)
        generalize hbb : tkB b ws = bb at hsane k3 hd3 hd HL ⊢
        generalize hwv : tkW b ws = wv at hsane k3 hd3 hd HL ⊢
        have Hbb := Lib.hid hbb; have Hwv := Lib.hid hwv; have Hd := Lib.hid hd
        clear hbb hwv
        have e0 : ((w2.setCell ⟨w.heap.size, 0, none⟩ (.slice A2 bb.length c2)).setCell ⟨w.heap.size, 1, none⟩ (.slice PA2 wv.length pc2)).cell? ⟨w.heap.size, 0, none⟩ = some (.slice A2 bb.length c2) := by go_simp
        have e1 : ((w2.setCell ⟨w.heap.size, 0, none⟩ (.slice A2 bb.length c2)).setCell ⟨w.heap.size, 1, none⟩ (.slice PA2 wv.length pc2)).cell? ⟨w.heap.size, 1, none⟩ = some (.slice PA2 wv.length pc2) := by go_simp
        have q0 : ((w2.setCell ⟨w.heap.size, 0, none⟩ (.slice A2 bb.length c2)).setCell ⟨w.heap.size, 1, none⟩ (.slice PA2 wv.length pc2)).cell? ⟨w.heap.size + 1, 0, none⟩ = some (.slice none 0 0) := by go_simp
        have q1 : ((w2.setCell ⟨w.heap.size, 0, none⟩ (.slice A2 bb.length c2)).setCell ⟨w.heap.size, 1, none⟩ (.slice PA2 wv.length pc2)).cell? ⟨w.heap.size + 1, 1, none⟩ = some (.slice none 0 0) := by go_simp
        have y0 : ((w2.setCell ⟨w.heap.size, 0, none⟩ (.slice A2 bb.length c2)).setCell ⟨w.heap.size, 1, none⟩ (.slice PA2 wv.length pc2)).frozen? ⟨w.heap.size + 1, 0, none⟩ = false := by go_simp
        have y1 : ((w2.setCell ⟨w.heap.size, 0, none⟩ (.slice A2 bb.length c2)).setCell ⟨w.heap.size, 1, none⟩ (.slice PA2 wv.length pc2)).frozen? ⟨w.heap.size + 1, 1, none⟩ = false := by go_simp
        generalize ((w2.setCell ⟨w.heap.size, 0, none⟩ (.slice A2 bb.length c2)).setCell ⟨w.heap.size, 1, none⟩ (.slice PA2 wv.length pc2)) = w3 at k3 hd3 e0 e1 q0 q1 y0 y1 ⊢
        clear b0 b1 f0 f1 hk2 hd r0 r1 g0 g1
        have hbc := hd3.bc; have hcm := hd3.cm; have hwl := hd3.pl; have hpm := hd3.pm
        unfold maxLen at hcm hpm
        have hsl := sane_len hsane
        obtain ⟨hsl1, hsl2, hsl3⟩ := hsl
        refine (sectors_any _ _ _ _ _ (by omega)).mono ?_
        rintro e w4 ⟨rfl, hk4⟩
        have Hd3 := Lib.hid hd3; clear hd3
        replace e0 := keep_cell hk4 e0
        replace e1 := keep_cell hk4 e1
        replace y0 := keep_frozen hk4 (cell_lt q0) y0
        replace y1 := keep_frozen hk4 (cell_lt q1) y1
        replace q0 := keep_cell hk4 q0
        replace q1 := keep_cell hk4 q1
        have k4 := keep_trans k3 hk4
        have Hsl1 := Lib.hid hsl1; clear hsl1
        by_cases e2 : ((bb.length / 32 : Nat) : Int) - ((data.length / 32 : Nat) : Int) < i
        · have HL2 := Lib.hid (show layD b ws i data = (wv.map WriteR.pl, 14) by rw [HL.out, if_neg]; unfold layOk; rw [decide_eq_true_eq]; omega)
          go_wp2_with fail
          refine bodyPost_ret (v := .tuple #[DV A2 bb.length c2 PA2 wv.length pc2, .int .i64 14]) (by simp [results, Try.results11, go_sem, e0, e1, q0, q1]) rfl ?_
          rw [Hbb.out]
          exact ⟨A2, c2, PA2, pc2, wv, by rw [HL2.out], by rw [HL2.out], fun W hW => Hd.out W hW.1, (k4.setCell (by simp) _).setCell (by simp) _⟩
        · by_cases e3 : wv.length + data.length / 32 ≤ 100000
          · have HL2 := Lib.hid (show layD b ws i data = (wv.map WriteR.pl ++ layWs i data (data.length / 32), 0) by rw [HL.out, if_pos]; unfold layOk; rw [decide_eq_true_eq]; omega)
            go_wp2_with fail
            refine (clone_any _ data _ _ (by omega) (hdr.keep k4)).mono ?_
            rintro e w5 ⟨v5, rfl, hown5, hk5⟩
            have hq4 : w.heap.size + 1 < w4.heap.size := cell_lt q0
            obtain ⟨g5, c5, rfl, hg5b, hg5l⟩ := hown5.form (by omega)
            have hb5 : data.length ≤ c5 ∧ c5 ≤ 9223372036854775807 := by
              obtain ⟨_, _, h1, h2, h3, _⟩ := own_form hown5
              injection h1 with _ _ h1
              unfold maxLen at h3
              omega
            obtain ⟨hc5, hm5⟩ := hb5
            have Hrd5 := Lib.hid (own_rd hown5); clear hown5
            replace e0 := keep_cell hk5 e0
            replace e1 := keep_cell hk5 e1
            replace y0 := keep_frozen hk5 (cell_lt q0) y0
            replace y1 := keep_frozen hk5 (cell_lt q1) y1
            replace q0 := keep_cell hk5 q0
            replace q1 := keep_cell hk5 q1
            have k5 := keep_trans k4 hk5
            have hmk : ∀ W, (Instr.makeSlice 28 (.int .i64 (wv.length : Int)) (.int .i64 ((wv.length : Int) + (data.length : Int) / 32))).run Try.prog W = .ok (.slice (some ⟨W.heap.size, 0, none⟩) wv.length (wv.length + data.length / 32)) (W.alloc (.cells (zerosW (wv.length + data.length / 32)) 54)) := fun W => by
              have h1 := writeT.make wv.length (wv.length + data.length / 32) (by omega) (by omega) (by omega) W
              rw [show ((wv.length + data.length / 32 : Nat) : Int) = (wv.length : Int) + (data.length : Int) / 32 by omega] at h1
              exact h1
            have hz5 := k5.size
            have hl0 : w.heap.size < w5.heap.size := cell_lt e0
            have hl1 : w.heap.size + 1 < w5.heap.size := cell_lt q0
            have Hr6 := Lib.hid (((Hd.out _ (hF _ k5)).rp).alloc (.cells (zerosW (wv.length + data.length / 32)) 54))
            go_wp2_with (refine wpL_cpyN writeT w5.heap.size 0 wv.length (wv.length + data.length / 32) (by rfl) PA2 wv.length pc2 (wv.flatMap WriteR.cells) (by rfl) (flatMap_len _ 2 (fun _ => rfl) _) Hr6.out (one_writes _) (zerosW (wv.length + data.length / 32)).toList 54 (by rw [Array.toArray_toList]; exact heap_alloc_new _ _) (by rw [zerosW_len, Nat.min_self]; omega) ?_; intro w6 hcur6 hg6)
            have k6 : Keep w5 w6 := ((Below.refl _ _).alloc (Nat.le_refl _) _).grown hg6 (by simp) (fun k hk => by injection hk with hk; omega)
            have hcur := hcur6.out
            rw [Nat.min_self, List.take_of_length_le (by rw [flatMap_len _ 2 (fun _ => rfl)]; omega)] at hcur
            have Hown6 := Lib.hid (own_fill (base := w5.heap.size) (n := wv.length) (c := wv.length + data.length / 32) (size := 2) hcur (Nat.le_refl _) (flatMap_len _ 2 (fun _ => rfl) _) (zerosW_len _) (by omega) (by unfold maxLen; omega))
            have E0 := Lib.hid e0; have E1 := Lib.hid e1; have Q0 := Lib.hid q0; have Q1 := Lib.hid q1; have Y0 := Lib.hid y0; have Y1 := Lib.hid y1
            clear hcur hcur6 hg6 e0 e1 q0 q1 y0 y1 hmk
            go_loopw [9, 59] (fun v j wr => ∃ k : Nat, k ≤ data.length / 32 ∧ j = .int .i64 k ∧ wr.ownsRow w5.heap.size 54 2 v (wv.length + k) ((wv ++ newW g5 i data k).flatMap WriteR.cells) ∧ Below w5.heap.size w5 wr)
              (fun _ j _ => data.length / 32 - (intOf j).toNat)
            case atStart => exact ⟨0, Nat.zero_le _, rfl, by simpa [newW] using Hown6.out, k6⟩
            case round =>
              obtain ⟨k, hk, rfl, hown, hkr⟩ := hrel
              have Hown := Lib.hid hown; clear hown
              have hzr := hkr.size
              by_cases hlt : k < data.length / 32
              · have hlt' : (k : Int) < (data.length : Int) / 32 := by omega
                have h32 : 32 * k + 32 ≤ data.length := by have := Hn32.out; omega
                go_wp2_with (first
                  | (go_at_call 25; refine (sector_any g5 0 data.length c5 k _ h32 hc5 hm5 _ rfl).mono ?_; rintro e w7 ⟨rfl, rfl⟩)
                  | (at_builtin; refine wpList_app writeT (by rfl) (.tmp 62) (.tmp 70) (by rfl) w5.heap.size _ (wv.length + k) _ (by rfl) (Hown.out.alloc _) _ 1 1 [.int .i64 (i + k), .slice (some ⟨g5, 32 * k, none⟩) 32 32] (by rfl) (by rfl) (Rd.new _ _ _) (by simp [Value.oneCell']) (by omega) (by unfold maxLen; omega) (by simp; omega) ?_; intro v8 w8 hown8 hg8 hat8))
                go_roundw
                case rel =>
                  refine ⟨k + 1, by omega, by go_num, ?_, keep_grown (hkr.alloc hzr _) (by simp; omega) hg8 (Hown.out.alloc _)⟩
                  refine own_eq hown8 (by omega) ?_
                  have hl : ((data.drop (32 * k)).take 32).length = 32 := by simp; omega
                  rw [newW_succ, ← List.append_assoc, List.flatMap_append (xs := wv ++ newW g5 i data k)]
                  simp only [List.flatMap_cons, List.flatMap_nil, WriteR.cells, hl, List.append_nil]
                case measure => simp [intOf]; omega
              · obtain rfl : k = data.length / 32 := by omega
                have e0 := keep_cell hkr E0.out; have e1 := keep_cell hkr E1.out; have q0 := keep_cell hkr Q0.out; have q1 := keep_cell hkr Q1.out
                have y0 := keep_frozen hkr hl1 Y0.out; have y1 := keep_frozen hkr hl1 Y1.out
                obtain ⟨A9, c9, rfl, hc9, hm9, -⟩ := own_form Hown.out
                have hlen : (wv ++ newW g5 i data (data.length / 32)).length = wv.length + data.length / 32 := by simp [newW_len]
                have Hlen := Lib.hid hlen; clear hlen
                go_wp2_with fail
                refine bodyPost_ret (v := .tuple #[DV A2 bb.length c2 A9 (wv.length + data.length / 32) c9, .int .i64 0]) (by simp [results, Try.results11, go_sem, e0, e1, q0, q1]) rfl ?_
                rw [Hbb.out]
                have kf : Keep w ((wr.setCell ⟨w.heap.size + 1, 0, none⟩ (.slice A2 bb.length c2)).setCell ⟨w.heap.size + 1, 1, none⟩ (.slice A9 (wv.length + data.length / 32) c9)) := ((keep_trans k5 hkr).setCell (by simp) _).setCell (by simp) _
                refine ⟨A2, c2, A9, c9, wv ++ newW g5 i data (data.length / 32), by rw [HL2.out, Hlen.out], by rw [HL2.out, List.map_append, newW_pl], fun W hW => ?_, kf⟩
                have hd9 := Hd.out W hW.1
                have ho9 := ownsRow_setCell_below (ownsRow_setCell_below Hown.out (a := ⟨w.heap.size + 1, 0, none⟩) hl1 (.slice A2 bb.length c2)) (a := ⟨w.heap.size + 1, 1, none⟩) hl1 (.slice A9 (wv.length + data.length / 32) c9)
                refine ⟨hd9.rb, hd9.bc, hd9.cm, own_mid ho9 hz5 hW, by rw [Hlen.out]; exact hc9, hm9, fun x hx => ?_⟩
                rcases List.mem_append.1 hx with hx | hx
                · exact hd9.ok x hx
                · obtain ⟨j, hj, rfl⟩ := List.mem_map.1 hx
                  have hj := List.mem_range.1 hj
                  have hgne : w.heap.size + 1 ≠ g5 := by omega
                  have h1 := ((((Hrd5.out.keep hkr).far (p := ⟨w.heap.size + 1, 0, none⟩) hgne (.slice A2 bb.length c2)).far (p := ⟨w.heap.size + 1, 1, none⟩) hgne (.slice A9 (wv.length + data.length / 32) c9)).mid (by omega) hW).sub (32 * j) 32 (by simp; have := Hn32.out; omega)
                  rw [Nat.zero_add, ← List.map_drop, ← List.map_take] at h1
                  refine ⟨h1, ?_, by unfold maxLen; simp⟩
                  exact Nat.le_trans (List.length_take_le _ _) (Nat.le_refl _)
          · have HL2 := Lib.hid (show layD b ws i data = (wv.map WriteR.pl, 14) by rw [HL.out, if_neg]; unfold layOk; rw [decide_eq_true_eq]; omega)
            go_wp2_with fail
            refine bodyPost_ret (v := .tuple #[DV A2 bb.length c2 PA2 wv.length pc2, .int .i64 14]) (by simp [results, Try.results11, go_sem, e0, e1, q0, q1]) rfl ?_
            rw [Hbb.out]
            exact ⟨A2, c2, PA2, pc2, wv, by rw [HL2.out], by rw [HL2.out], fun W hW => Hd.out W hW.1, (k4.setCell (by simp) _).setCell (by simp) _⟩
  · have HL := Lib.hid (show layD b ws i data = ((tkW b ws).map WriteR.pl, 14) by unfold layD; rw [if_pos h1])
    have t1 : ((data.length : Int) % 32 != 0) = true := by simp; omega
    clear h1
    go_enter Try.func11, Try.ntmps11
    go_wp2_with fail
    refine (taken_anyF _ _ _ _ _ _ _ F (fun W hW => hF W (keep_trans (((Below.refl _ _).alloc (Nat.le_refl _) _).alloc (by simp) _) hW)) h).mono ?_
    rintro e w2 ⟨A2, c2, PA2, pc2, rfl, hd, hk2⟩
    have b0 : w2.cell? ⟨w.heap.size, 0, none⟩ = some (.slice A b.length c) := keep_cell hk2 (by go_simp)
    have b1 : w2.cell? ⟨w.heap.size, 1, none⟩ = some (.slice PA ws.length pc) := keep_cell hk2 (by go_simp)
    have f0 : w2.frozen? ⟨w.heap.size, 0, none⟩ = false := keep_frozen hk2 (by simp; omega) (by go_simp)
    have f1 : w2.frozen? ⟨w.heap.size, 1, none⟩ = false := keep_frozen hk2 (by simp; omega) (by go_simp)
    have r0 : w2.cell? ⟨w.heap.size + 1, 0, none⟩ = some (.slice none 0 0) := keep_cell hk2 (by go_simp)
    have r1 : w2.cell? ⟨w.heap.size + 1, 1, none⟩ = some (.slice none 0 0) := keep_cell hk2 (by go_simp)
    have g0 : w2.frozen? ⟨w.heap.size + 1, 0, none⟩ = false := keep_frozen hk2 (by simp) (by go_simp)
    have g1 : w2.frozen? ⟨w.heap.size + 1, 1, none⟩ = false := keep_frozen hk2 (by simp) (by go_simp)
    have k2 : Keep w w2 := keep_trans (((Below.refl _ _).alloc (Nat.le_refl _) _).alloc (by simp) _) hk2
    go_wp2_with fail
    refine bodyPost_ret (v := .tuple #[DV A2 (tkB b ws).length c2 PA2 (tkW b ws).length pc2, .int .i64 14]) (by simp [results, Try.results11, go_sem, b0, b1, r0, r1]) rfl ⟨A2, c2, PA2, pc2, tkW b ws, by rw [HL.out], by rw [HL.out], fun W hW => hd W hW.1, (((k2.setCell (by simp) _).setCell (by simp) _).setCell (by simp) _).setCell (by simp) _⟩
theorem lay_any (A : Option Addr) (b : List UInt8) (c : Nat) (PA : Option Addr) (ws : List WriteR) (pc : Nat) (i : Int) (B : Option Addr) (data : List UInt8) (cd : Nat) (w w0 : World) (hk0 : Keep w0 w) (h : DOk w0 A b c PA ws pc)
    (hdr : Rd w0 B (data.map u8v)) (hdl : data.length ≤ 1000000) (hi : -9223372036854775808 ≤ i ∧ i ≤ 9223372036854775807) :
    Calls Try.prog 11 #[DV A b.length c PA ws.length pc, .int .i64 i, .slice B data.length cd] w fun e w' =>
      ∃ A' c' PA' pc' vs, e = .returned (.tuple #[DV A' (tkB b ws).length c' PA' vs.length pc', .int .i64 (layD b ws i data).2]) ∧ vs.map WriteR.pl = (layD b ws i data).1 ∧
        (∀ W, Mid w0 w w' W → DOk W A' (tkB b ws) c' PA' vs pc') ∧ Keep w w' :=
  lay_anyF A b c PA ws pc i B data cd w (fun W => Keep w0 W) (fun W hW => keep_trans hk0 hW) (fun W hW => h.keep hW) (hdr.keep hk0) hdl hi
end Go.Proofs.Ytmhbfjcehmjllaa

namespace Go.Proofs.Ytmhbfjcehmjllaa
open Go.RowKit
attribute [local go_sem ↓] Go.wp_at_zero Go.wp_at_succ

theorem set_ne (w : World) (g o : Nat) (v : Value) (k : Nat) (h : k ≠ g) : (w.setCell ⟨g, o, none⟩ v).heap[k]? = w.heap[k]? := by
  exact Below.heap_setCell w _ v k h

/-- What Put answers. -/
def putD (b : List UInt8) (ws : List WriteR) (at_ : Int) (data : List UInt8) : List (Int × List UInt8) × Int :=
  if data.length = 32 then layD b ws at_ data else ((tkW b ws).map WriteR.pl, 14)

set_option maxRecDepth 100000 in
set_option maxHeartbeats 2000000 in
theorem put_anyF (A : Option Addr) (b : List UInt8) (c : Nat) (PA : Option Addr) (ws : List WriteR) (pc : Nat) (i : Int) (B : Option Addr) (data : List UInt8) (cd : Nat) (w : World) (F : World → Prop) (hF : ∀ W, Keep w W → F W) (h : ∀ W, F W → DOk W A b c PA ws pc)
    (hdr : Rd w B (data.map u8v)) (hdl : data.length ≤ 1000000) (hi : -9223372036854775808 ≤ i ∧ i ≤ 9223372036854775807) :
    Calls Try.prog 9 #[DV A b.length c PA ws.length pc, .int .i64 i, .slice B data.length cd] w fun e w' =>
      ∃ A' c' PA' pc' vs, e = .returned (.tuple #[DV A' (tkB b ws).length c' PA' vs.length pc', .int .i64 (putD b ws i data).2]) ∧ vs.map WriteR.pl = (putD b ws i data).1 ∧
        (∀ W, MidF F w w' W → DOk W A' (tkB b ws) c' PA' vs pc') ∧ Keep w w' := by
  by_cases h32 : data.length = 32
  · have HP := Lib.hid (show putD b ws i data = layD b ws i data from if_pos h32)
    have t1 : ((data.length : Int) != 32) = false := by simp; omega
    clear h32
    go_enter Try.func9, Try.ntmps9
    go_wp2_with fail
    refine (lay_anyF _ _ _ _ _ _ i _ data _ _ F (fun W hW => hF W (keep_trans (((Below.refl _ _).alloc (Nat.le_refl _) _).alloc (by simp) _) hW)) h (hdr.keep (((Below.refl _ _).alloc (Nat.le_refl _) _).alloc (by simp) _)) hdl hi).mono ?_
    rintro e w2 ⟨A2, c2, PA2, pc2, vs, rfl, hvs, hd, hk2⟩
    have r0 : w2.cell? ⟨w.heap.size + 1, 0, none⟩ = some (.slice none 0 0) := keep_cell hk2 (by go_simp)
    have r1 : w2.cell? ⟨w.heap.size + 1, 1, none⟩ = some (.slice none 0 0) := keep_cell hk2 (by go_simp)
    have g0 : w2.frozen? ⟨w.heap.size + 1, 0, none⟩ = false := keep_frozen hk2 (by simp) (by go_simp)
    have g1 : w2.frozen? ⟨w.heap.size + 1, 1, none⟩ = false := keep_frozen hk2 (by simp) (by go_simp)
    have k2 : Keep w w2 := keep_trans (((Below.refl _ _).alloc (Nat.le_refl _) _).alloc (by simp) _) hk2
    go_wp2_with fail
    refine bodyPost_ret (v := .tuple #[DV A2 (tkB b ws).length c2 PA2 vs.length pc2, .int .i64 (layD b ws i data).2]) (by simp [results, Try.results9, go_sem, r0, r1, g0, g1]) rfl ⟨A2, c2, PA2, pc2, vs, by rw [HP.out], by rw [HP.out]; exact hvs, fun W hW => hd W ⟨hW.1, fun k hk1 hk2 => ?_⟩, (k2.setCell (by simp) _).setCell (by simp) _⟩
    have hk1' : w.heap.size + 2 ≤ k := by simpa using hk1
    rw [hW.2 k (by omega) (by simpa using hk2), set_ne _ _ _ _ _ (by omega), set_ne _ _ _ _ _ (by omega)]
  · have HP := Lib.hid (show putD b ws i data = ((tkW b ws).map WriteR.pl, 14) from if_neg h32)
    have t1 : ((data.length : Int) != 32) = true := by simp; omega
    clear h32
    go_enter Try.func9, Try.ntmps9
    go_wp2_with fail
    refine (taken_anyF _ _ _ _ _ _ _ F (fun W hW => hF W (keep_trans (((Below.refl _ _).alloc (Nat.le_refl _) _).alloc (by simp) _) hW)) h).mono ?_
    rintro e w2 ⟨A2, c2, PA2, pc2, rfl, hd, hk2⟩
    have r0 : w2.cell? ⟨w.heap.size + 1, 0, none⟩ = some (.slice none 0 0) := keep_cell hk2 (by go_simp)
    have r1 : w2.cell? ⟨w.heap.size + 1, 1, none⟩ = some (.slice none 0 0) := keep_cell hk2 (by go_simp)
    have g0 : w2.frozen? ⟨w.heap.size + 1, 0, none⟩ = false := keep_frozen hk2 (by simp) (by go_simp)
    have g1 : w2.frozen? ⟨w.heap.size + 1, 1, none⟩ = false := keep_frozen hk2 (by simp) (by go_simp)
    have k2 : Keep w w2 := keep_trans (((Below.refl _ _).alloc (Nat.le_refl _) _).alloc (by simp) _) hk2
    go_wp2_with fail
    refine bodyPost_ret (v := .tuple #[DV A2 (tkB b ws).length c2 PA2 (tkW b ws).length pc2, .int .i64 14]) (by simp [results, Try.results9, go_sem, r0, r1, g0, g1]) rfl ⟨A2, c2, PA2, pc2, tkW b ws, by rw [HP.out], by rw [HP.out], fun W hW => hd W hW.1, (k2.setCell (by simp) _).setCell (by simp) _⟩

theorem put_any (A : Option Addr) (b : List UInt8) (c : Nat) (PA : Option Addr) (ws : List WriteR) (pc : Nat) (i : Int) (B : Option Addr) (data : List UInt8) (cd : Nat) (w w0 : World) (hk0 : Keep w0 w) (h : DOk w0 A b c PA ws pc)
    (hdr : Rd w0 B (data.map u8v)) (hdl : data.length ≤ 1000000) (hi : -9223372036854775808 ≤ i ∧ i ≤ 9223372036854775807) :
    Calls Try.prog 9 #[DV A b.length c PA ws.length pc, .int .i64 i, .slice B data.length cd] w fun e w' =>
      ∃ A' c' PA' pc' vs, e = .returned (.tuple #[DV A' (tkB b ws).length c' PA' vs.length pc', .int .i64 (putD b ws i data).2]) ∧ vs.map WriteR.pl = (putD b ws i data).1 ∧
        (∀ W, Mid w0 w w' W → DOk W A' (tkB b ws) c' PA' vs pc') ∧ Keep w w' :=
  put_anyF A b c PA ws pc i B data cd w (fun W => Keep w0 W) (fun W hW => keep_trans hk0 hW) (fun W hW => h.keep hW) (hdr.keep hk0) hdl hi

set_option maxRecDepth 100000 in
set_option maxHeartbeats 2000000 in
theorem sync_any (A : Option Addr) (b : List UInt8) (c : Nat) (PA : Option Addr) (ws : List WriteR) (pc : Nat) (w : World) (h : DOk w A b c PA ws pc) :
    Calls Try.prog 19 #[DV A b.length c PA ws.length pc] w fun e w' => ∃ A' c', e = .returned (DV A' (bytesD b ws).length c' none 0 0) ∧ (∀ W, Keep w' W → DOk W A' (bytesD b ws) c' none [] 0) ∧ Keep w w' := by
  go_enter Try.func19, Try.ntmps19
  go_wp2_with fail
  refine (bytes_any _ _ _ _ _ _ _ (h.keep (((Below.refl _ _).alloc (Nat.le_refl _) _).alloc (by simp) _))).mono ?_
  rintro e w2 ⟨v, rfl, hown, hk2⟩
  have r0 : w2.cell? ⟨w.heap.size + 1, 0, none⟩ = some (.slice none 0 0) := keep_cell hk2 (by go_simp)
  have r1 : w2.cell? ⟨w.heap.size + 1, 1, none⟩ = some (.slice none 0 0) := keep_cell hk2 (by go_simp)
  have g0 : w2.frozen? ⟨w.heap.size + 1, 0, none⟩ = false := keep_frozen hk2 (by simp) (by go_simp)
  have g1 : w2.frozen? ⟨w.heap.size + 1, 1, none⟩ = false := keep_frozen hk2 (by simp) (by go_simp)
  have k2 : Keep w w2 := keep_trans (((Below.refl _ _).alloc (Nat.le_refl _) _).alloc (by simp) _) hk2
  obtain ⟨A2, c2, rfl, hc2, hm2, hrd2⟩ := own_form hown
  go_wp2_with fail
  unfold maxLen at hm2
  refine bodyPost_ret (v := DV A2 (bytesD b ws).length c2 none 0 0) (by simp [results, Try.results19, go_sem, r0, r1, g0, g1]) rfl ⟨A2, c2, rfl, fun W hW => ⟨?_, hc2, by unfold maxLen; omega, .inl rfl, Nat.le_refl _, by unfold maxLen; omega, fun x hx => absurd hx (by simp)⟩, ?_⟩
  · have ho9 := ownsRow_setCell_below (ownsRow_setCell_below hown (a := ⟨w.heap.size + 1, 0, none⟩) (by simp) (.slice A2 (bytesD b ws).length c2)) (a := ⟨w.heap.size + 1, 1, none⟩) (by simp) (.slice none 0 0)
    exact (own_rd ho9).keep hW
  · exact (k2.setCell (by simp) _).setCell (by simp) _

end Go.Proofs.Ytmhbfjcehmjllaa
