/- What a disk tells: look, Find, Slot. -/
import Derived.Test.YtbomnldpmkedbaaDoorSnB
set_option linter.unusedSimpArgs false
set_option linter.unusedVariables false
namespace Go.Proofs.YtbomnldpmkedbaaDoor
open Go.RowKit
attribute [local go_sem ↓] Go.wp_at_zero Go.wp_at_succ

/-- A slot's bytes. -/
def slotB (bs : List UInt8) (k : Nat) : List UInt8 := (bs.drop (64 * k)).take 64
/-- One more slot looked at. -/
def lookS (st : Int × Int × Int) (t : Int × Int × Bool) (k : Int) : Int × Int × Int := if t.2.2 = true ∧ st.1 < t.1 then (t.1, t.2.1, k) else st
def lookK (bs : List UInt8) : Nat → Int × Int × Int
  | 0 => (0, 0, -1)
  | k + 1 => lookS (lookK bs k) (takeS (slotB bs k)) k
/-- What a disk's bytes tell: the epoch, the region, by which slot. -/
def lookB (bs : List UInt8) : Int × Int × Int := if bs.length < 128 then (0, 0, -1) else lookK bs 2

set_option maxRecDepth 100000 in
set_option maxHeartbeats 3000000 in
theorem look_any (A : Option Addr) (b : List UInt8) (c : Nat) (PA : Option Addr) (ws : List WriteR) (pc : Nat) (w : World) (h : DOk w A b c PA ws pc) (hS : ShaOk w) :
    Calls Tryd.prog 40 #[DV A b.length c PA ws.length pc] w fun e w' => e = .returned (.tuple #[.int .i64 (lookB (bytesD b ws)).1, .int .i64 (lookB (bytesD b ws)).2.1, .int .i64 (lookB (bytesD b ws)).2.2]) ∧ Keep w w' := by
  have hlb : (bytesD b ws).length ≤ 131072 := by
    have h1 := sane_len (tk_sane b ws)
    have h2 : (bytesD b ws).length = (tkB b ws).length := bytesD_lenH b ws
    omega
  have B1 : Hid (∀ w', Keep w w' → Calls Tryd.prog 23 #[DV A b.length c PA ws.length pc] w' fun e w'' => ∃ v, e = .returned v ∧ w''.ownsRow w'.heap.size 5 1 v (bytesD b ws).length ((bytesD b ws).map u8v) ∧ Keep w' w'') := fun w' hk => bytes_any A b c PA ws pc w' (h.keep hk)
  have HS := Lib.hid hS
  clear h hS
  generalize bytesD b ws = bs at *
  obtain ⟨L, hL⟩ : ∃ L, lookB bs = L := ⟨_, rfl⟩
  rw [hL]
  have HL := Lib.hid hL; clear hL
  generalize b.length = bl at *
  generalize ws.length = wl at *
  go_enter Tryd.func40, Tryd.ntmps40
  go_wp2_with fail
  refine (B1.out _ (keep_new _ _)).mono ?_
  clear B1
  rintro e w1 ⟨v1, rfl, own1, k1⟩
  obtain ⟨A1, c1, rfl, hc1, hm1, hr1⟩ := own_form own1
  have Hr1 := Lib.hid hr1
  have HK1 := Lib.hid (keep_trans (keep_new w _) k1)
  unfold maxLen at hm1
  clear own1 hr1 k1
  by_cases h128 : bs.length < 128
  · have HD : Hid (L = (0, 0, -1)) := by rw [← HL.out]; exact if_pos h128
    have h1 : (bs.length : Int) < 128 := by omega
    clear h128
    go_wp2
    rw [HD.out]
    exact bodyPost_ret (v := .tuple #[.int .i64 0, .int .i64 0, .int .i64 (-1)]) (by simp [results, Tryd.results40]) rfl ⟨rfl, HK1.out⟩
  · have h1 : (128 : Int) ≤ (bs.length : Int) := by omega
    have HD : Hid (L = lookK bs 2) := by rw [← HL.out]; exact if_neg h128
    obtain ⟨g, off, rfl, hg, _⟩ := Hr1.out.at (k := 0) (by simp; omega)
    have h128' : 128 ≤ bs.length := by omega
    clear h128
    go_wp2_with fail
    go_loopw [5, 6, 7, 21] (fun e r s i wr => ∃ k : Nat, k ≤ 2 ∧ i = .int .i64 k ∧ e = .int .i64 (lookK bs k).1 ∧ r = .int .i64 (lookK bs k).2.1 ∧ s = .int .i64 (lookK bs k).2.2 ∧ Hid (Keep w1 wr)) (fun _ _ _ i _ => 2 - (intOf i).toNat)
    case atStart => exact ⟨0, by omega, rfl, rfl, rfl, rfl, Lib.hid (Below.refl _ _)⟩
    case round =>
      obtain ⟨k, hk, rfl, rfl, rfl, rfl, hkr⟩ := hrel
      by_cases hlt : k < 2
      · have hR : Hid (Rd wr (some ⟨g, off + 64 * k, none⟩) ((slotB bs k).map u8v)) := by
          have h := (Hr1.out.keep hkr.out).sub (64 * k) 64 (by rw [List.length_map]; omega)
          rwa [← List.map_drop, ← List.map_take] at h
        have hln : (slotB bs k).length = 64 := by unfold slotB; rw [List.length_take, List.length_drop]; omega
        have T1 := takes_any (some ⟨g, off + 64 * k, none⟩) (slotB bs k) (c1 - 64 * k) wr hR.out (HS.out.keep (keep_trans HK1.out hkr.out)) (by omega)
        rw [hln, show 64 * k = k * 64 from Nat.mul_comm _ _] at T1
        have T2 : Calls Tryd.prog 11 #[.slice (some ⟨g, off + k * 64, none⟩) ((k + 1) * 64 - k * 64) (c1 - k * 64)] wr fun e w' => e = .returned (.tuple #[.int .i64 (takeS (slotB bs k)).1, .int .i64 (takeS (slotB bs k)).2.1, .bool (takeS (slotB bs k)).2.2]) ∧ Keep wr w' := by
          rw [show (k + 1) * 64 - k * 64 = 64 by omega]; exact T1
        clear T1
        have hst : Hid (∀ t, takeS (slotB bs k) = t → lookK bs (k + 1) = lookS (lookK bs k) t k) := fun t e => by subst e; rfl
        have hst1 := Lib.hid (hst.out _ rfl)
        generalize takeS (slotB bs k) = t at *
        obtain ⟨te, tr, tok⟩ := t
        generalize slotB bs k = sb at *
        generalize hLL : lookK bs (k + 1) = L1 at *
        have HLL := Lib.hid hLL; clear hLL
        generalize lookK bs k = L0 at *
        obtain ⟨le, lr, ls⟩ := L0
        clear hst hln
        go_wp2_with fail
        refine T2.mono ?_
        clear T2
        rintro e w2 ⟨rfl, k2⟩
        have K2 := Lib.hid (keep_trans hkr.out k2)
        clear k2
        have go : ∀ w3, Hid (lookS (le, lr, ls) (te, tr, tok) (k : Nat) = w3) → L1 = w3 := fun w3 h => hst1.out.trans h.out
        have Hgo := Lib.hid go; clear go
        cases tok with
        | false =>
          have hL1 : Hid (L1 = (le, lr, ls)) := Hgo.out _ (if_neg (fun h => by cases h.1))
          clear Hgo hst1
          go_wp2
          go_roundw
          case rel => exact ⟨k + 1, by omega, by go_num, by rw [HLL.out, hL1.out], by rw [HLL.out, hL1.out], by rw [HLL.out, hL1.out], K2⟩
          case measure => simp [intOf]; omega
        | true =>
          by_cases hg2 : le < te
          · have hL1 : Hid (L1 = (te, tr, (k : Int))) := Hgo.out _ (if_pos ⟨rfl, hg2⟩)
            have d1 : decide (le < te) = true := decide_eq_true hg2
            clear Hgo hst1 hg2
            go_wp2
            go_roundw
            case rel => exact ⟨k + 1, by omega, by go_num, by rw [HLL.out, hL1.out], by rw [HLL.out, hL1.out], by rw [HLL.out, hL1.out], K2⟩
            case measure => simp [intOf]; omega
          · have hL1 : Hid (L1 = (le, lr, ls)) := Hgo.out _ (if_neg (fun h => hg2 h.2))
            have d1 : decide (le < te) = false := decide_eq_false hg2
            clear Hgo hst1 hg2
            go_wp2
            go_roundw
            case rel => exact ⟨k + 1, by omega, by go_num, by rw [HLL.out, hL1.out], by rw [HLL.out, hL1.out], by rw [HLL.out, hL1.out], K2⟩
            case measure => simp [intOf]; omega
      · have hk2 : k = 2 := by omega
        subst hk2
        have HLL := HD.out.symm
        generalize lookK bs 2 = L2 at HLL ⊢
        subst HLL
        obtain ⟨le, lr, ls⟩ := L2
        clear HD HL
        go_wp2
        exact bodyPost_ret (v := .tuple #[.int .i64 le, .int .i64 lr, .int .i64 ls]) (by simp [results, Tryd.results40]) rfl ⟨rfl, keep_trans HK1.out hkr.out⟩

set_option maxHeartbeats 1000000 in
theorem find_any (A : Option Addr) (b : List UInt8) (c : Nat) (PA : Option Addr) (ws : List WriteR) (pc : Nat) (w : World) (h : DOk w A b c PA ws pc) (hS : ShaOk w) :
    Calls Tryd.prog 21 #[DV A b.length c PA ws.length pc] w fun e w' => e = .returned (.tuple #[.int .i64 (lookB (bytesD b ws)).1, .int .i64 (lookB (bytesD b ws)).2.1]) ∧ Keep w w' := by
  have L1 : Hid (∀ w', Keep w w' → Calls Tryd.prog 40 #[DV A b.length c PA ws.length pc] w' fun e w'' => e = .returned (.tuple #[.int .i64 (lookB (bytesD b ws)).1, .int .i64 (lookB (bytesD b ws)).2.1, .int .i64 (lookB (bytesD b ws)).2.2]) ∧ Keep w' w'') := fun w' hk => look_any A b c PA ws pc w' (h.keep hk) (hS.keep hk)
  generalize lookB (bytesD b ws) = L at *
  obtain ⟨le, lr, ls⟩ := L
  clear h hS
  go_enter Tryd.func21, Tryd.ntmps21
  go_wp2_with fail
  refine (L1.out _ (keep_new _ _)).mono ?_
  rintro e w1 ⟨rfl, k1⟩
  have K1 := Lib.hid (keep_trans (keep_new w _) k1)
  go_wp2
  exact bodyPost_ret (v := .tuple #[.int .i64 le, .int .i64 lr]) (by simp [results, Tryd.results21]) rfl ⟨rfl, K1.out⟩
set_option maxHeartbeats 1000000 in
theorem slot_any (A : Option Addr) (b : List UInt8) (c : Nat) (PA : Option Addr) (ws : List WriteR) (pc : Nat) (w : World) (h : DOk w A b c PA ws pc) (hS : ShaOk w) :
    Calls Tryd.prog 17 #[DV A b.length c PA ws.length pc] w fun e w' => e = .returned (.int .i64 (lookB (bytesD b ws)).2.2) ∧ Keep w w' := by
  have L1 : Hid (∀ w', Keep w w' → Calls Tryd.prog 40 #[DV A b.length c PA ws.length pc] w' fun e w'' => e = .returned (.tuple #[.int .i64 (lookB (bytesD b ws)).1, .int .i64 (lookB (bytesD b ws)).2.1, .int .i64 (lookB (bytesD b ws)).2.2]) ∧ Keep w' w'') := fun w' hk => look_any A b c PA ws pc w' (h.keep hk) (hS.keep hk)
  generalize lookB (bytesD b ws) = L at *
  obtain ⟨le, lr, ls⟩ := L
  clear h hS
  go_enter Tryd.func17, Tryd.ntmps17
  go_wp2_with fail
  refine (L1.out _ (keep_new _ _)).mono ?_
  rintro e w1 ⟨rfl, k1⟩
  have K1 := Lib.hid (keep_trans (keep_new w _) k1)
  go_wp2
  go_ret
  exact ⟨rfl, K1.out⟩
/-- A region that is told is 0 or 1. -/
theorem supB4 (e r : Int) (b : List UInt8) (h : supB e r = b) : (b.getD 4 0).toNat = (r % 2).toNat := by
  subst h
  show (w8 (r % 2)).toNat = _
  have := w8_of (n := r % 2) (by omega) (by omega)
  omega
theorem takeS_rng (b : List UInt8) : (takeS b).2.1 = 0 ∨ (takeS b).2.1 = 1 := by
  unfold takeS
  split
  · rename_i h
    have := supB4 _ _ _ h.2.2.2
    show ((b.getD 4 0).toNat : Int) = 0 ∨ ((b.getD 4 0).toNat : Int) = 1
    omega
  · exact .inl rfl
theorem takeS_ep (b : List UInt8) : 0 ≤ (takeS b).1 ∧ (takeS b).1 ≤ 2147483647 := by
  unfold takeS
  split
  · rename_i h
    show 0 ≤ (ep4 b : Int) ∧ (ep4 b : Int) ≤ 2147483647
    have h1 := h.2.1; have h2 := h.2.2.1
    omega
  · exact ⟨by decide, by decide⟩
structure Told (L : Int × Int × Int) : Prop where
  r : L.2.1 = 0 ∨ L.2.1 = 1
  e : 0 ≤ L.1 ∧ L.1 ≤ 2147483647
  s : L.2.2 = -1 ∨ L.2.2 = 0 ∨ L.2.2 = 1
theorem lookS_told {st : Int × Int × Int} {t : Int × Int × Bool} {k : Int} (h : Told st) (ht : t.2.1 = 0 ∨ t.2.1 = 1) (he : 0 ≤ t.1 ∧ t.1 ≤ 2147483647) (hk : k = 0 ∨ k = 1) : Told (lookS st t k) := by
  unfold lookS
  split
  · exact ⟨ht, he, .inr hk⟩
  · exact h
theorem look_told (bs : List UInt8) : Told (lookB bs) := by
  have h0 : Told (0, 0, -1) := ⟨.inl rfl, ⟨by decide, by decide⟩, .inl rfl⟩
  unfold lookB
  split
  · exact h0
  · exact lookS_told (lookS_told h0 (takeS_rng _) (takeS_ep _) (.inl rfl)) (takeS_rng _) (takeS_ep _) (.inr rfl)
end Go.Proofs.YtbomnldpmkedbaaDoor
