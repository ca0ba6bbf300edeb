/- A record that was taken checks by its own bytes; what a crash leaves of the records: plain laws. -/
import Derived.Test.YtielojlhdnimgaaDoorJrnV
import Derived.Lib.AppendZerosOnto
set_option linter.unusedSimpArgs false
set_option linter.unusedVariables false
namespace Go.Proofs.YtielojlhdnimgaaDoor
open Go.RowKit

theorem rec_at (bn : Nat) (bs : List UInt8) : ∀ (hs : List Hd) (k : Nat) (last : List UInt8), recsAt bn bs k last hs → ∀ n (hn : n < hs.length), (bn + 4 * (k + n)) * 32 + 128 ≤ bs.length ∧ hs[n].ok ∧
    ∃ L, seg bs (bn + 4 * (k + n)) = recB L (k + n : Nat) hs[n] ∧ (n = 0 → L = last) ∧ (∀ m, n = m + 1 → L = (seg bs (bn + 4 * (k + m))).drop 96)
  | [], _, _, _, n, hn => by simp at hn
  | x :: hs, k, last, h, 0, hn => ⟨h.1.1, h.1.2.2, last, h.1.2.1, fun _ => rfl, fun m hm => by omega⟩
  | x :: hs, k, last, h, n + 1, hn => by
    have hn' : n < hs.length := by simpa using hn
    obtain ⟨h1, h2, L, h3, h4, h5⟩ := rec_at bn bs hs (k + 1) _ h.2 n hn'
    rw [show k + 1 + n = k + (n + 1) by omega] at h1 h3
    refine ⟨h1, h2, L, h3, fun h => by omega, fun m hm => ?_⟩
    obtain rfl : n = m := by omega
    cases n with
    | zero =>
      rw [h4 rfl, Nat.add_zero, h.1.2.1]
      unfold recB
      rw [List.drop_left' (recHead_len _ h.1.2.2)]
    | succ j =>
      rw [h5 j rfl, show k + 1 + j = k + (j + 1) by omega]
/-- The sum that a record's bytes bear is the sum of what lies ahead. -/
theorem rec_sum {bn : Nat} {bs : List UInt8} {hs : List Hd} (h : recsAt bn bs 0 z32 hs) {n : Nat} (hn : n < hs.length) {at_ : Nat} (ha : at_ = 32 * bn + 128 * n) : at_ + 128 ≤ bs.length ∧
    (n = 0 → dblL (z32 ++ (bs.drop at_).take 96) = (bs.drop (at_ + 96)).take 32) ∧ (n ≠ 0 → dblL ((bs.drop (at_ - 32)).take 32 ++ (bs.drop at_).take 96) = (bs.drop (at_ + 96)).take 32) := by
  obtain ⟨h1, h2, L, h3, h4, h5⟩ := rec_at bn bs hs 0 z32 h n hn
  rw [Nat.zero_add] at h1 h3
  have e0 : (bn + 4 * n) * 32 = at_ := by omega
  rw [e0] at h1
  have e1 : seg bs (bn + 4 * n) = (bs.drop at_).take 128 := by unfold seg; rw [e0]
  have hT : (bs.drop at_).take 96 = recHead n hs[n] := by
    have h6 := congrArg (List.take 96) (e1.symm.trans h3)
    rw [List.take_take, show min 96 128 = 96 from rfl] at h6
    rw [h6]; unfold recB
    exact List.take_left' (recHead_len _ h2)
  have hS : (bs.drop (at_ + 96)).take 32 = recSum L n hs[n] := by
    have h6 := congrArg (List.drop 96) (e1.symm.trans h3)
    rw [List.drop_take, List.drop_drop] at h6
    rw [show 128 - 96 = 32 from rfl] at h6
    rw [h6]; unfold recB
    exact List.drop_left' (recHead_len _ h2)
  refine ⟨h1, fun h0 => ?_, fun h0 => ?_⟩
  · rw [hT, hS, h4 h0]; rfl
  · obtain ⟨m, rfl⟩ : ∃ m, n = m + 1 := ⟨n - 1, by omega⟩
    have e2 : (seg bs (bn + 4 * (0 + m))).drop 96 = (bs.drop (at_ - 32)).take 32 := by
      unfold seg
      rw [List.drop_take, List.drop_drop, show (bn + 4 * (0 + m)) * 32 + 96 = at_ - 32 by omega]
    rw [hT, hS, h5 m rfl, e2]; rfl

theorem odd_law {cb : List UInt8} {n at_ : Nat} (r1 : at_ + 128 ≤ cb.length) (hn0 : n ≠ 0 → 32 ≤ at_) (r2 : n = 0 → dblL (z32 ++ (cb.drop at_).take 96) = (cb.drop (at_ + 96)).take 32) (r3 : n ≠ 0 → dblL ((cb.drop (at_ - 32)).take 32 ++ (cb.drop at_).take 96) = (cb.drop (at_ + 96)).take 32) :
    ∃ L D : List UInt8, (n = 0 → L = z32) ∧ (n ≠ 0 → L = (cb.drop (at_ - 32)).take 32) ∧ L.length = 32 ∧ D = (cb.drop (at_ + 96)).take 32 ∧ D.length = 32 ∧ dblL (L ++ (cb.drop at_).take 96) = D := by
  have hD : ((cb.drop (at_ + 96)).take 32).length = 32 := by rw [List.length_take, List.length_drop]; omega
  by_cases h0 : n = 0
  · exact ⟨z32, _, fun _ => rfl, fun h => absurd h0 h, List.length_replicate .., rfl, hD, r2 h0⟩
  · have hL : ((cb.drop (at_ - 32)).take 32).length = 32 := by have := hn0 h0; rw [List.length_take, List.length_drop]; omega
    exact ⟨_, _, fun h => absurd h h0, fun _ => rfl, hL, rfl, hD, r3 h0⟩
theorem z32_map : z32.map u8v = List.replicate 32 (Value.int .u8 0) := rfl
theorem run_zeros32 (w : World) : ∃ v w', (Builtin.append_ #[22, 3] 22 #[.slice none 0 0, .int .i64 32]).run Tryd.prog w = .ok v w' ∧ w'.ownsRow w.heap.size 5 1 v 32 (z32.map u8v) ∧ Keep w w' := by
  obtain ⟨i, hi, hiz, his, hib⟩ := byteT.info
  have hold : (Builtin.firstCells i.size 0 (.slice none 0 0)).run Tryd.prog w.drew = .ok ([] : List Value).toArray w.drew := by
    simp [Builtin.firstCells]
  have h := Lib.run_append_grow_zeros w 22 3 22 5 i (.int .u8 0) .i64 .i64 Tryd.underlying22 Tryd.underlying3 hi hiz none 0 0 [] hold 32 (by omega) (by omega) (by omega) (by omega) (by rw [hib]; omega) (by rw [hib]; exact growslice_fits (by omega) (by omega))
  have hG := grownCap_ge w (0 + 32) 0 5
  have hM := grownCap_le_maxLen w (0 + 32) 0 5 (by unfold maxLen; omega)
  generalize grownCap w (0 + 32) 0 5 = G at h hG hM
  refine ⟨_, _, h, ⟨rfl, .inr ⟨w.heap.size, G, _, rfl, Nat.le_refl _, heap_alloc_new w.drew _, by omega, hM, ?_, ?_⟩⟩, ((Below.refl _ _).drew).alloc (Nat.le_refl _) _⟩
  · simp [Builtin.zeroCells, Value.cells]; omega
  · rw [z32_map]
    simp [Builtin.zeroCells, Value.cells]
    rfl

/-! A crash. -/
theorem crash_sec (plan : List UInt8) (m : Nat) : ∀ (ps : List WP) (i : Nat) (b : List UInt8), ps.all (okP b.length) = true → 32 * m + 32 ≤ b.length → (∀ p ∈ ps, p.1.toNat ≠ m) → sec (crashP plan i ps b) m = sec b m
  | [], _, _, _, _, _ => rfl
  | p :: ps, i, b, ha, hm, hn => by
    rw [List.all_cons, Bool.and_eq_true] at ha
    have hp := of_decide_eq_true ha.1
    have hl := putP_len (b := b) (planN plan i) ha.1
    show sec (crashP plan (i + 1) ps (putP b p (planN plan i))) m = _
    rw [crash_sec plan m ps (i + 1) _ (by rw [hl]; exact ha.2) (by rw [hl]; exact hm) (fun q hq => hn q (by simp [hq]))]
    refine sec_same fun j hj => ?_
    have hpm := hn p (by simp)
    unfold putP
    rw [splice_get (by omega) (by rw [List.length_take]; omega), if_neg (by rw [List.length_take]; omega)]
/-- What was synced, and that nothing pending lies on it. -/
structure CrS (b : List UInt8) (ps : List WP) (base : Int) (all : List Hd) (sure : Nat) : Prop where
  san : saneP b.length ps = true
  le : sure ≤ all.length
  recs : recsAt base.toNat b 0 z32 (all.take sure)
  pend : ∀ p ∈ ps, base.toNat + 4 * sure ≤ p.1.toNat
theorem CrS.start {B : List UInt8} {base room : Int} {all : List Hd} (h : LogInv B [] base room all) (hs : saneP B.length [] = true) : CrS B [] base all all.length :=
  ⟨hs, Nat.le_refl _, by rw [List.take_length]; have h1 := h.fnd.recs; rwa [bytesQ_nil hs] at h1, fun p hp => by simp at hp⟩
theorem CrS.more {b : List UInt8} {ps qs : List WP} {base : Int} {all : List Hd} {sure : Nat} {x : Hd} (h : CrS b ps base all sure) (ha : AppR b base all x ps qs) : CrS b qs base (all ++ [x]) sure := by
  refine ⟨ha.san, by rw [List.length_append]; have := h.le; omega, by rw [List.take_append_of_le_length h.le]; exact h.recs, fun p hp => ?_⟩
  rw [ha.eq] at hp
  rcases List.mem_append.1 hp with hp | hp
  · exact h.pend p hp
  · obtain ⟨k, hk, rfl⟩ := List.mem_map.1 hp
    have := h.le
    simp only
    omega
theorem CrS.crash {b : List UInt8} {ps : List WP} {base room : Int} {all : List Hd} {sure : Nat} (h : CrS b ps base all sure) (hi : LogInv b ps base room all) (plan : List UInt8) {hs : List Hd} (hF : Found base room (crashP plan 0 ps b) hs) :
    sure ≤ hs.length ∧ hs.take sure = all.take sure := by
  have hla : ((crashP plan 0 ps b)).length = b.length := crashP_len plan b.length ps 0 b rfl (sane_all h.san)
  by_cases hs0 : sure = 0
  · subst hs0; simp
  · have hne : all ≠ [] := fun e => by have := h.le; rw [e] at this; simp at this; omega
    have hbn : ¬ (base < 0 ∨ ((b.length / 32 : Nat) : Int) < base) := fun e => hne (hi.fnd.none (by rw [bytesQ_len b ps h.san]; exact e))
    obtain ⟨bn, rfl⟩ : ∃ bn : Nat, base = bn := ⟨base.toNat, by omega⟩
    have hlt : (all.take sure).length = sure := by rw [List.length_take]; have := h.le; omega
    have hfit := recsAt_fit _ _ _ _ _ h.recs
    rw [Int.toNat_natCast, hlt, Nat.zero_add] at hfit
    have hrec : recsAt ((bn : Int)).toNat (crashP plan 0 ps b) 0 z32 (all.take sure) := recsAt_same hla.symm _ 0 z32 h.recs fun j _ hj => seg_same fun i hi4 => by
      rw [Int.toNat_natCast]
      refine (crash_sec plan _ ps 0 b (sane_all h.san) (by omega) (fun p hp e => ?_)).symm
      have h1 := h.pend p hp
      rw [Int.toNat_natCast] at h1
      omega
    obtain ⟨gs, hg⟩ := open_pre (room := room) (by omega) (by rw [hla]; omega) hrec (by rw [hlt]; have := h.le; have := hi.fnd.fit; omega)
    rw [hF.eq] at hg
    have hg' : hs = all.take sure ++ gs := hg
    rw [hg']
    exact ⟨by rw [List.length_append, hlt]; omega, by rw [List.take_left' hlt]⟩
end Go.Proofs.YtielojlhdnimgaaDoor
