/- Writes in a row are one by one: the plain law. -/
import Derived.Test.YtielojlhdnimgaaDoorDskT
set_option linter.unusedSimpArgs false
set_option linter.unusedVariables false
namespace Go.Proofs.YtielojlhdnimgaaDoor
open Go.RowKit

def rowP (b : List UInt8) (ps0 : List WP) (k : Int) (data : List UInt8) : Nat → Bool × List WP
  | 0 => (true, ps0)
  | r + 1 => ((rowP b ps0 k data r).1 && decide ((layP b (rowP b ps0 k data r).2 (k + r) (sec data r)).2 = 0), (layP b (rowP b ps0 k data r).2 (k + r) (sec data r)).1)
theorem sec_len {data : List UInt8} {r : Nat} (h : 32 * r + 32 ≤ data.length) : (sec data r).length = 32 := by unfold sec; rw [List.length_take, List.length_drop]; omega
theorem sec_self {s : List UInt8} (h : s.length = 32) : sec s 0 = s := by unfold sec; rw [Nat.mul_zero, List.drop_zero, List.take_of_length_le (by omega)]
theorem layP_one (b : List UInt8) (ps : List WP) (a : Int) {s : List UInt8} (h : s.length = 32) : layP b ps a s = if layOk b.length ps.length a 1 then (ps ++ [(a, s)], 0) else (ps, 14) := by
  unfold layP
  rw [h, if_neg (by omega), if_neg (by omega)]
  have e : layWs a s 1 = [(a, s)] := by
    unfold layWs
    show [(a + ((0 : Nat) : Int), sec s 0)] = _
    rw [sec_self h]; simp
  show (if layOk b.length ps.length a 1 = true then (ps ++ layWs a s 1, 0) else (ps, 14)) = _
  rw [e]
theorem row_sane {b : List UInt8} {ps0 : List WP} (k : Int) (data : List UInt8) (h : saneP b.length ps0 = true) : ∀ r, saneP b.length (rowP b ps0 k data r).2 = true
  | 0 => h
  | r + 1 => layP_sane (row_sane k data h r) _ _
theorem row_ok {b : List UInt8} {ps0 : List WP} {k : Int} {data : List UInt8} : ∀ r, 32 * r ≤ data.length →
    (rowP b ps0 k data r).1 = true → (r = 0 ∨ (0 ≤ k ∧ k + r ≤ (b.length / 32 : Nat) ∧ ps0.length + r ≤ 100000)) ∧ (rowP b ps0 k data r).2 = ps0 ++ layWs k data r
  | 0, _, _ => ⟨.inl rfl, by simp [rowP, layWs]⟩
  | r + 1, hr, h => by
    unfold rowP at h
    rw [Bool.and_eq_true] at h
    obtain ⟨h1, h2⟩ := row_ok r (by omega) h.1
    have hs := sec_len (data := data) (r := r) (by omega)
    have h3 := of_decide_eq_true h.2
    rw [layP_one _ _ _ hs] at h3
    unfold rowP
    rw [layP_one _ _ _ hs]
    split at h3
    · rename_i hl
      rw [if_pos hl]
      have hl := of_decide_eq_true hl
      rw [h2] at hl
      have hll : (layWs k data r).length = r := by simp [layWs]
      rw [List.length_append, hll] at hl
      refine ⟨.inr ⟨?_, by omega, by omega⟩, ?_⟩
      · rcases h1 with h1 | h1
        · subst h1; simpa using hl.1
        · exact h1.1
      · show (rowP b ps0 k data r).2 ++ [(k + (r : Int), sec data r)] = _
        rw [h2, List.append_assoc, layWs_succ]
    · simp at h3
theorem row_yes {b : List UInt8} {ps0 : List WP} {k : Int} {data : List UInt8} : ∀ r, 32 * r ≤ data.length → 0 ≤ k → k + r ≤ (b.length / 32 : Nat) → ps0.length + r ≤ 100000 → (rowP b ps0 k data r).1 = true
  | 0, _, _, _, _ => rfl
  | r + 1, hr, h0, h1, h2 => by
    have ih := row_yes (b := b) (ps0 := ps0) (k := k) (data := data) r (by omega) h0 (by omega) (by omega)
    have hs := sec_len (data := data) (r := r) (by omega)
    have h3 := (row_ok r (by omega) ih).2
    unfold rowP
    rw [ih, Bool.true_and, layP_one _ _ _ hs, h3, if_pos]
    · rfl
    · refine decide_eq_true ⟨by omega, by omega, ?_⟩
      simp [layWs]; omega

theorem row_law {b : List UInt8} {ps0 : List WP} (hs : saneP b.length ps0 = true) (at_ : Int) {data : List UInt8} (h32 : data.length % 32 = 0) :
    (rowP b ps0 (max (-1) (min at_ 100000)) data (data.length / 32)).1 = decide ((layP b ps0 at_ data).2 = 0) ∧
    ((layP b ps0 at_ data).2 = 0 → (rowP b ps0 (max (-1) (min at_ 100000)) data (data.length / 32)).2 = (layP b ps0 at_ data).1) ∧
    ((layP b ps0 at_ data).2 ≠ 0 → (layP b ps0 at_ data).1 = ps0) := by
  have h4 : b.length / 32 ≤ 4096 := by
    unfold saneP at hs
    exact (of_decide_eq_true (Bool.and_eq_true_iff.1 hs).1).2.1
  generalize hk : max (-1) (min at_ 100000) = k
  unfold layP
  rw [if_neg (by omega)]
  by_cases h0 : data.length / 32 = 0
  · rw [if_pos h0, h0]
    exact ⟨rfl, fun _ => rfl, fun h => absurd rfl h⟩
  · rw [if_neg h0]
    by_cases hl : layOk b.length ps0.length at_ (data.length / 32) = true
    · rw [if_pos hl]
      have hl := of_decide_eq_true hl
      have hka : k = at_ := by omega
      have hy := row_yes (b := b) (ps0 := ps0) (k := k) (data := data) (data.length / 32) (by omega) (by omega) (by omega) (by omega)
      refine ⟨by rw [hy]; rfl, fun _ => ?_, fun h => absurd rfl h⟩
      rw [(row_ok _ (by omega) hy).2, hka]
    · rw [if_neg hl]
      refine ⟨?_, fun h => by simp at h, fun _ => rfl⟩
      cases hr : (rowP b ps0 k data (data.length / 32)).1 with
      | false => rfl
      | true =>
        exfalso
        apply hl
        have := (row_ok _ (by omega) hr).1
        refine decide_eq_true ⟨by omega, by omega, by omega⟩

/-- W agrees with w but for block H. -/
def Ex (H : Nat) (w W : World) : Prop := w.heap.size ≤ W.heap.size ∧ ∀ k, k < w.heap.size → k ≠ H → W.heap[k]? = w.heap[k]?
theorem Ex.of_keep {H : Nat} {w W : World} (h : Keep w W) : Ex H w W := ⟨h.size, fun k hk _ => h.block k hk⟩
theorem Ex.trans {H : Nat} {a b c : World} (h : Ex H a b) (g : Ex H b c) : Ex H a c := ⟨Nat.le_trans h.1 g.1, fun k hk hn => (g.2 k (Nat.lt_of_lt_of_le hk h.1) hn).trans (h.2 k hk hn)⟩
theorem Ex.set_ {H : Nat} {w W : World} (h : Ex H w W) (o : Nat) (v : Value) : Ex H w (W.setCell ⟨H, o, none⟩ v) := ⟨by simpa using h.1, fun k hk hn => (set_ne W H o v k hn).trans (h.2 k hk hn)⟩
theorem Ex.cell {H : Nat} {w W : World} (h : Ex H w W) {b o : Nat} {v : Value} (hc : w.cell? ⟨b, o, none⟩ = some v) (hn : b ≠ H) : W.cell? ⟨b, o, none⟩ = some v :=
  (World.cell?_of_block (h.2 b (cell_lt hc) hn)).trans hc
theorem Ex.keep {H : Nat} {w W : World} {B : World} (h : Ex H w W) (hb : B.heap.size ≤ H) (hk : Keep B w) (ho : W.os = w.os ∧ W.tape = w.tape ∧ W.output = w.output) : Keep B W :=
  ⟨ho.1.trans hk.os, ho.2.1.trans hk.tape, ho.2.2.trans hk.output, Nat.le_trans hk.size h.1, fun k hl => (h.2 k (Nat.lt_of_lt_of_le hl hk.size) (by omega)).trans (hk.block k hl)⟩
/-- .. but for two blocks. -/
def Ex2 (H G : Nat) (w W : World) : Prop := w.heap.size ≤ W.heap.size ∧ ∀ k, k < w.heap.size → k ≠ H → k ≠ G → W.heap[k]? = w.heap[k]?
theorem Ex2.of_keep {H G : Nat} {w W : World} (h : Keep w W) : Ex2 H G w W := ⟨h.size, fun k hk _ _ => h.block k hk⟩
theorem Ex2.trans {H G : Nat} {a b c : World} (h : Ex2 H G a b) (g : Ex2 H G b c) : Ex2 H G a c := ⟨Nat.le_trans h.1 g.1, fun k hk hn hm => (g.2 k (Nat.lt_of_lt_of_le hk h.1) hn hm).trans (h.2 k hk hn hm)⟩
theorem Ex2.of_ex {H G : Nat} {w W : World} (h : Ex H w W) : Ex2 H G w W := ⟨h.1, fun k hk hn _ => h.2 k hk hn⟩
theorem Ex2.set_ {H G : Nat} {w W : World} (h : Ex2 H G w W) (o : Nat) (v : Value) : Ex2 H G w (W.setCell ⟨G, o, none⟩ v) := ⟨by simpa using h.1, fun k hk hn hm => (set_ne W G o v k hm).trans (h.2 k hk hn hm)⟩
theorem Rd.blocks {w W : World} {A : Option Addr} {xs : List Value} (h : Rd w A xs) (hb : ∀ k, k < w.heap.size → W.heap[k]? = w.heap[k]?) : Rd W A xs :=
  h.mono fun b o v hv => (World.cell?_of_block (hb b (cell_lt hv))).trans hv
theorem DOk.blocks {w W : World} {A : Option Addr} {b : List UInt8} {c : Nat} {PA : Option Addr} {ws : List WriteR} {pc : Nat} (h : DOk w A b c PA ws pc) (hb : ∀ k, k < w.heap.size → W.heap[k]? = w.heap[k]?) : DOk W A b c PA ws pc :=
  ⟨h.rb.blocks hb, h.bc, h.cm, h.rp.blocks hb, h.pl, h.pm, fun x hx => ⟨(h.ok x hx).1.blocks hb, (h.ok x hx).2⟩⟩
end Go.Proofs.YtielojlhdnimgaaDoor
