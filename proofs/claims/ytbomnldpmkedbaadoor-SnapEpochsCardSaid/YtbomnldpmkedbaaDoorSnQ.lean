/- What a disk tells behind the operations, or behind a crash in between, plainly. -/
import Derived.Test.YtbomnldpmkedbaaDoorSnP
set_option linter.unusedSimpArgs false
set_option linter.unusedVariables false
namespace Go.Proofs.YtbomnldpmkedbaaDoor
open Go.RowKit

theorem ep4_sup (e r : Int) (h : 0 ≤ e ∧ e ≤ 4294967295) : (ep4 (supB e r) : Int) = e := by
  have hx : ((epN e).toNat : Int) = e := by
    have := w32_of (n := e % 4294967296) (by omega) (by omega)
    unfold epN; omega
  have h0 : (supB e r).getD 0 0 = w8 (leE (epN e) 0) := rfl
  have h1 : (supB e r).getD 1 0 = w8 (leE (epN e) 1) := rfl
  have h2 : (supB e r).getD 2 0 = w8 (leE (epN e) 2) := rfl
  have h3 : (supB e r).getD 3 0 = w8 (leE (epN e) 3) := rfl
  unfold ep4
  rw [h0, h1, h2, h3]
  have g0 := w8_nat (n := leE (epN e) 0) (by unfold leE; omega) (by unfold leE; omega)
  have g1 := w8_nat (n := leE (epN e) 1) (by unfold leE; omega) (by unfold leE; omega)
  have g2 := w8_nat (n := leE (epN e) 2) (by unfold leE; omega) (by unfold leE; omega)
  have g3 := w8_nat (n := leE (epN e) 3) (by unfold leE; omega) (by unfold leE; omega)
  rw [Int.natCast_add, Int.natCast_add, Int.natCast_add, Int.natCast_mul, Int.natCast_mul, Int.natCast_mul, g0, g1, g2, g3]
  unfold leE
  rw [hx]
  simp only [Nat.mul_zero, Nat.mul_one, Nat.reduceMul, Int.reducePow]
  omega
theorem takeS_sup {e r : Int} (he : 1 ≤ e ∧ e ≤ 2147483647) (hr : r = 0 ∨ r = 1) : takeS (supB e r) = (e, r, true) := by
  have h1 := ep4_sup e r (by omega)
  have h2 := supB4 e r _ rfl
  have h3 : (((supB e r).getD 4 0).toNat : Int) = r := by omega
  unfold takeS
  rw [if_pos ⟨supB_len e r, by omega, by omega, by rw [h1, h3]⟩, h1, h3]
theorem takeS_ok {x : List UInt8} (h : (takeS x).2.2 = true) : x.length = 64 ∧ supB (takeS x).1 (takeS x).2.1 = x ∧ 1 ≤ (takeS x).1 := by
  unfold takeS at h ⊢
  split
  · rename_i h1
    exact ⟨h1.1, h1.2.2.2, by show (1 : Int) ≤ (ep4 x : Int); have := h1.2.1; omega⟩
  · rename_i h1
    rw [if_neg h1] at h; cases h

theorem slot_get (bs : List UInt8) (k i : Nat) (hi : i < 64) : (slotB bs k)[i]? = (sec bs (2 * k + i / 32))[i % 32]? := by
  unfold slotB
  rw [List.getElem?_take, if_pos hi, List.getElem?_drop, sec_get _ _ _ (Nat.mod_lt _ (by omega))]
  congr 1; omega
theorem slot_none (bs : List UInt8) (k i : Nat) (hi : ¬ i < 64) : (slotB bs k)[i]? = none := by
  unfold slotB
  rw [List.getElem?_take, if_neg hi]
theorem slot_same {bs cs : List UInt8} {k : Nat} (h : ∀ i, i < 2 → sec bs (2 * k + i) = sec cs (2 * k + i)) : slotB bs k = slotB cs k := by
  apply List.ext_getElem?
  intro i
  by_cases hi : i < 64
  · rw [slot_get _ _ _ hi, slot_get _ _ _ hi, h _ (by omega)]
  · rw [slot_none _ _ _ hi, slot_none _ _ _ hi]
theorem slot_lay {bs r : List UInt8} {k : Nat} (hr : r.length = 64) (h : ∀ i, i < 2 → sec bs (2 * k + i) = sec r i) : slotB bs k = r := by
  have e : r = slotB r 0 := by unfold slotB; rw [Nat.mul_zero, List.drop_zero, List.take_of_length_le (by omega)]
  rw [e]
  apply List.ext_getElem?
  intro i
  by_cases hi : i < 64
  · rw [slot_get _ _ _ hi, slot_get _ _ _ hi, h _ (by omega), Nat.mul_zero, Nat.zero_add]
  · rw [slot_none _ _ _ hi, slot_none _ _ _ hi]
abbrev zL : Int × Int × Int := (0, 0, -1)
theorem look_two {bs : List UInt8} (h : 128 ≤ bs.length) : lookB bs = lookS (lookS zL (takeS (slotB bs 0)) 0) (takeS (slotB bs 1)) 1 := if_neg (by omega)
theorem look_same {bs cs : List UInt8} (hl : bs.length = cs.length) (h : ∀ m, m < 4 → sec bs m = sec cs m) : lookB bs = lookB cs := by
  by_cases h1 : bs.length < 128
  · unfold lookB; rw [if_pos h1, if_pos (by omega)]
  · rw [look_two (by omega), look_two (by omega), slot_same (cs := cs) (k := 0) (fun i hi => h _ (by omega)), slot_same (cs := cs) (k := 1) (fun i hi => h _ (by omega))]
theorem lookS_yes {st : Int × Int × Int} {t : Int × Int × Bool} (k : Int) (h : t.2.2 = true ∧ st.1 < t.1) : lookS st t k = (t.1, t.2.1, k) := if_pos h
theorem lookS_no {st : Int × Int × Int} {t : Int × Int × Bool} (k : Int) (h : ¬ (t.2.2 = true ∧ st.1 < t.1)) : lookS st t k = st := if_neg h
theorem look_cases {T0 T1 : Int × Int × Bool} {L : Int × Int × Int} (hL : L = lookS (lookS zL T0 0) T1 1) :
    (L.2.2 = 0 ∧ L = (T0.1, T0.2.1, 0) ∧ lookS zL T0 0 = L) ∨ (L.2.2 ≠ 0 ∧ T1.2.2 = true ∧ 0 < T1.1 ∧ L = (T1.1, T1.2.1, 1)) ∨ (L.2.2 ≠ 0 ∧ ¬ (T1.2.2 = true ∧ 0 < T1.1) ∧ L = zL) := by
  by_cases h0 : T0.2.2 = true ∧ (0 : Int) < T0.1
  · have e0 := lookS_yes (st := zL) (t := T0) 0 h0
    rw [e0] at hL
    by_cases h1 : T1.2.2 = true ∧ T0.1 < T1.1
    · rw [lookS_yes 1 h1] at hL
      subst hL
      exact .inr (.inl ⟨by show (1 : Int) ≠ 0; decide, h1.1, by omega, rfl⟩)
    · rw [lookS_no 1 h1] at hL
      subst hL
      exact .inl ⟨rfl, rfl, e0⟩
  · have e0 := lookS_no (st := zL) (t := T0) 0 h0
    rw [e0] at hL
    by_cases h1 : T1.2.2 = true ∧ (0 : Int) < T1.1
    · rw [lookS_yes 1 h1] at hL
      subst hL
      exact .inr (.inl ⟨by show (1 : Int) ≠ 0; decide, h1.1, h1.2, rfl⟩)
    · rw [lookS_no 1 h1] at hL
      subst hL
      exact .inr (.inr ⟨by show (-1 : Int) ≠ 0; decide, h1, rfl⟩)
/-- The slot that is written is told. -/
theorem look_new {T0 T1 N : Int × Int × Bool} {L : Int × Int × Int} (hL : L = lookS (lookS zL T0 0) T1 1) {r : Int} (hN : N = (L.1 + 1, r, true)) :
    (L.2.2 = 0 → lookS (lookS zL T0 0) N 1 = (L.1 + 1, r, 1)) ∧ (L.2.2 ≠ 0 → lookS (lookS zL N 0) T1 1 = (L.1 + 1, r, 0)) := by
  rcases look_cases hL with ⟨h1, h2, h3⟩ | ⟨h1, h2, h3, h4⟩ | ⟨h1, h2, h3⟩
  · refine ⟨fun _ => ?_, fun h => absurd h1 h⟩
    rw [h3, hN]
    exact lookS_yes 1 ⟨rfl, by show L.1 < L.1 + 1; omega⟩
  · refine ⟨fun h => absurd h h1, fun _ => ?_⟩
    have e1 : L.1 = T1.1 := by rw [h4]
    rw [hN, lookS_yes (st := zL) 0 ⟨rfl, by show (0 : Int) < L.1 + 1; omega⟩]
    exact lookS_no 1 (fun h => by have h5 : L.1 + 1 < T1.1 := h.2; omega)
  · refine ⟨fun h => absurd h h1, fun _ => ?_⟩
    have e1 : L.1 = 0 := by rw [h3]
    rw [hN, lookS_yes (st := zL) 0 ⟨rfl, by show (0 : Int) < L.1 + 1; omega⟩]
    exact lookS_no 1 (fun h => h2 ⟨h.1, by have h5 : L.1 + 1 < T1.1 := h.2; omega⟩)
/-- A slot that is torn tells nothing. -/
theorem look_torn {T0 T1 N : Int × Int × Bool} {L : Int × Int × Int} (hL : L = lookS (lookS zL T0 0) T1 1) (hN : N.2.2 = false) :
    (L.2.2 = 0 → lookS (lookS zL T0 0) N 1 = L) ∧ (L.2.2 ≠ 0 → lookS (lookS zL N 0) T1 1 = L) := by
  have hn : ∀ st k, lookS st N k = st := fun st k => lookS_no k (fun h => by rw [hN] at h; cases h.1)
  rw [hn, hn]
  rcases look_cases hL with ⟨h1, h2, h3⟩ | ⟨h1, h2, h3, h4⟩ | ⟨h1, h2, h3⟩
  · exact ⟨fun _ => h3, fun h => absurd h1 h⟩
  · exact ⟨fun h => absurd h h1, fun _ => by rw [lookS_yes (st := zL) 1 ⟨h2, h3⟩, h4]⟩
  · exact ⟨fun h => absurd h h1, fun _ => by rw [lookS_no (st := zL) 1 h2, h3]⟩

theorem nx_same {bn : Nat} {room : Int} {k : Nat} {last bs cs : List UInt8} (hl : bs.length = cs.length) (h : k < roomN room → (bn + 4 * k) * 32 + 128 ≤ bs.length → seg bs (bn + 4 * k) = seg cs (bn + 4 * k)) : nxD bn room k last bs = nxD bn room k last cs := by
  unfold nxD
  by_cases h1 : k < roomN room ∧ (bn + 4 * k) * 32 + 128 ≤ bs.length
  · rw [if_pos h1, if_pos (by rw [← hl]; exact h1)]
    have := h h1.1 h1.2
    unfold seg at this
    rw [this]
  · rw [if_neg h1, if_neg (by rw [← hl]; exact h1)]
theorem found_same {a rm : Nat} {bs cs : List UInt8} {hs : List Hd} (hr : rm ≤ 1024) (hf : Found (a : Int) (rm : Int) bs hs) (hl : bs.length = cs.length) (h : 32 * (a + 4 * rm) ≤ bs.length) (hh : ∀ m, a ≤ m → m < a + 4 * rm → sec bs m = sec cs m) : Found (a : Int) (rm : Int) cs hs := by
  have hn := hf.fit
  rw [roomN_nat hr] at hn
  have hrecs := hf.recs
  have hstop := hf.stop (by omega) (by omega)
  rw [Int.toNat_natCast] at hrecs hstop
  refine found_of (by omega) (by omega) ?_ hf.fit ?_
  · rw [Int.toNat_natCast]
    exact recsAt_same hl hs 0 z32 hrecs (fun j _ h2 => seg_same (fun i hi => hh _ (by omega) (by omega)))
  · rw [Int.toNat_natCast, ← nx_same hl (fun h1 _ => seg_same (fun i hi => hh _ (by omega) (by rw [roomN_nat hr] at h1; omega)))]
    exact hstop

theorem sec_putP {b : List UInt8} {p : WP} (n : Nat) (hp : okP b.length p = true) {m : Nat} (hm : 32 * m + 32 ≤ b.length) (hn : (m : Int) ≠ p.1) : sec (putP b p n) m = sec b m := by
  have h := of_decide_eq_true hp
  refine sec_same fun i hi => ?_
  unfold putP
  have hl : (p.2.take n).length ≤ 32 := by rw [List.length_take]; omega
  rw [splice_get (by omega) (by omega), if_neg (by omega)]
theorem crash_sec (plan : List UInt8) {nb m : Nat} (hm : 32 * m + 32 ≤ nb) : ∀ (ps : List WP) (i : Nat) (b : List UInt8), b.length = nb → ps.all (okP nb) = true → (∀ p ∈ ps, (m : Int) ≠ p.1) → sec (crashP plan i ps b) m = sec b m
  | [], _, _, _, _, _ => rfl
  | p :: ps, i, b, hb, ha, hn => by
    rw [List.all_cons, Bool.and_eq_true] at ha
    show sec (crashP plan (i + 1) ps (putP b p (planN plan i))) m = _
    rw [crash_sec plan hm ps (i + 1) _ (by rw [putP_len _ (by rw [hb]; exact ha.1), hb]) ha.2 (fun q hq => hn q (List.mem_cons_of_mem _ hq)),
      sec_putP _ (by rw [hb]; exact ha.1) (by omega) (hn p (List.mem_cons_self ..))]
end Go.Proofs.YtbomnldpmkedbaaDoor
