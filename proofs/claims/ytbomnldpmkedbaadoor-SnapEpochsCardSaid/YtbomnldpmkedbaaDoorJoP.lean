/- What is put into bytes is got again; records in a row: plain laws. -/
import Derived.Test.YtbomnldpmkedbaaDoorJrnQ
set_option linter.unusedSimpArgs false
set_option linter.unusedVariables false
namespace Go.Proofs.YtbomnldpmkedbaaDoor
open Go.RowKit

theorem w8_nat {n : Int} (h0 : 0 ≤ n) (h1 : n ≤ 255) : ((w8 n).toNat : Int) = n := (w8_of h0 h1).symm
theorem num32_le4 (x : UInt32) (l : List UInt8) : num32 (le4 x ++ l) = x := by
  have hx := w32_hi x
  have e : numE (le4 x ++ l) 4 = x.toNat := by
    simp only [numE, le4, List.cons_append, List.nil_append, List.getD_cons_succ, List.getD_cons_zero]
    have g : ∀ k, ((w8 (leE x k)).toNat : Int) = leE x k := fun k => w8_nat (by unfold leE; omega) (by unfold leE; omega)
    simp only [g]
    unfold leE
    omega
  unfold num32 w32
  rw [e]
  simp
theorem hget_put {h : Hd} (hk : h.ok) : hgetL (hputL h) = h := by
  unfold hgetL hputL
  have l4 : ∀ x, (le4 x).length = 4 := fun _ => rfl
  have d4 : (le4 h.ver ++ (h.prev ++ (h.root ++ (le4 h.time ++ (le4 h.bits ++ le4 h.nonce))))).drop 4 = h.prev ++ (h.root ++ (le4 h.time ++ (le4 h.bits ++ le4 h.nonce))) := List.drop_left' (l4 _)
  have dn : ∀ k, (le4 h.ver ++ (h.prev ++ (h.root ++ (le4 h.time ++ (le4 h.bits ++ le4 h.nonce))))).drop (4 + k) = (h.prev ++ (h.root ++ (le4 h.time ++ (le4 h.bits ++ le4 h.nonce)))).drop k := fun k => by rw [← List.drop_drop, d4]
  have dn2 : ∀ k, (le4 h.ver ++ (h.prev ++ (h.root ++ (le4 h.time ++ (le4 h.bits ++ le4 h.nonce))))).drop (36 + k) = (h.root ++ (le4 h.time ++ (le4 h.bits ++ le4 h.nonce))).drop k := fun k => by
    rw [show 36 + k = 4 + (32 + k) by omega, dn, ← List.drop_drop, List.drop_left' hk.1]
  have dn3 : ∀ k, (le4 h.ver ++ (h.prev ++ (h.root ++ (le4 h.time ++ (le4 h.bits ++ le4 h.nonce))))).drop (68 + k) = (le4 h.time ++ (le4 h.bits ++ le4 h.nonce)).drop k := fun k => by
    rw [show 68 + k = 36 + (32 + k) by omega, dn2, ← List.drop_drop, List.drop_left' hk.2]
  have e36 := dn2 0; have e68 := dn3 0; have e72 := dn3 4; have e76 := dn3 8
  rw [List.drop_zero] at e36 e68
  rw [List.drop_left' (l4 _)] at e72
  have e8 : (le4 h.time ++ (le4 h.bits ++ le4 h.nonce)).drop (4 + 4) = le4 h.nonce := by rw [← List.drop_drop, List.drop_left' (l4 _), List.drop_left' (l4 _)]
  have e76' := e76.trans e8
  rw [d4, e36, e68, e72, e76', num32_le4, num32_le4, num32_le4, List.take_left' hk.1, List.take_left' hk.2]
  have := num32_le4 h.nonce []
  rw [List.append_nil] at this
  rw [this]
theorem recB_mid (last : List UInt8) (seq : Int) {h : Hd} (hk : h.ok) : ((recB last seq h).drop 4).take 80 = hputL h := by
  unfold recB recHead
  rw [List.append_assoc, List.drop_left' (show (le4 (seqN seq)).length = 4 from rfl), List.append_assoc, List.take_left' (hputL_len hk)]
theorem takeD_rec (last : List UInt8) (seq : Int) {h : Hd} (hk : h.ok) : takeD last seq (recB last seq h) = (true, h, recSum last seq h) := by
  unfold takeD
  rw [recB_mid last seq hk, hget_put hk, if_pos ⟨recB_len last seq hk, rfl⟩, ← recSum_of hk rfl]
theorem takeD_true {last : List UInt8} {seq : Int} {b : List UInt8} (h : (takeD last seq b).1 = true) :
    b.length = 128 ∧ recB last seq (takeD last seq b).2.1 = b ∧ (takeD last seq b).2.2 = recSum last seq (takeD last seq b).2.1 ∧ (takeD last seq b).2.1.ok ∧ (takeD last seq b).2.1 = hgetL ((b.drop 4).take 80) := by
  unfold takeD at h ⊢
  split at h
  · rename_i hb
    rw [if_pos hb]
    have hk : (hgetL ((b.drop 4).take 80)).ok := hgetL_ok (by rw [List.length_take, List.length_drop]; omega)
    exact ⟨hb.1, hb.2, (recSum_of hk hb.2).symm, hk, rfl⟩
  · cases h
theorem recB_first (last : List UInt8) (seq : Int) (h : Hd) : (recB last seq h).take 4 = le4 (seqN seq) := by
  unfold recB recHead
  rw [List.append_assoc]
  exact List.take_left' rfl
theorem le4_inj {x y : UInt32} (h : le4 x = le4 y) : x = y := by
  have h1 := num32_le4 x []; have h2 := num32_le4 y []
  rw [← h1, ← h2, h]
theorem takeD_seq {last last' : List UInt8} {seq seq' : Int} {h : Hd} (hs : seqN seq ≠ seqN seq') : (takeD last seq (recB last' seq' h)).1 = false := by
  cases hc : (takeD last seq (recB last' seq' h)).1 with
  | false => rfl
  | true =>
    have h1 := congrArg (List.take 4) (takeD_true hc).2.1
    rw [recB_first, recB_first] at h1
    exact absurd (le4_inj h1) hs
theorem seqN_nat {k : Nat} (hk : k < 4294967295) : (seqN k).toNat = k + 1 := by
  unfold seqN
  have := w32_of (n := (((k : Int) % 4294967296 + 1) % 4294967296)) (by omega) (by omega)
  omega
theorem takeD_zero {last : List UInt8} {k : Nat} (hk : k < 4294967295) {b : List UInt8} (hb : b.take 4 = [0, 0, 0, 0]) : (takeD last k b).1 = false := by
  cases hc : (takeD last k b).1 with
  | false => rfl
  | true =>
    have h1 := congrArg (List.take 4) (takeD_true hc).2.1
    rw [recB_first, hb] at h1
    have h2 : le4 (seqN k) = le4 0 := h1
    have h3 := congrArg UInt32.toNat (le4_inj h2)
    rw [seqN_nat hk] at h3
    simp at h3

/-! Records in a row. -/
/-- The bytes of a record. -/
def seg (bs : List UInt8) (s : Nat) : List UInt8 := (bs.drop (s * 32)).take 128
def recsAt (bn : Nat) (bs : List UInt8) : Nat → List UInt8 → List Hd → Prop
  | _, _, [] => True
  | k, last, h :: hs => ((bn + 4 * k) * 32 + 128 ≤ bs.length ∧ seg bs (bn + 4 * k) = recB last k h ∧ h.ok) ∧ recsAt bn bs (k + 1) (recSum last k h) hs
def lastL : Nat → List UInt8 → List Hd → List UInt8
  | _, last, [] => last
  | k, last, h :: hs => lastL (k + 1) (recSum last k h) hs
theorem lastL_snoc : ∀ (hs : List Hd) (k : Nat) (last : List UInt8) (h : Hd), lastL k last (hs ++ [h]) = recSum (lastL k last hs) (k + hs.length : Nat) h
  | [], k, last, h => rfl
  | x :: hs, k, last, h => by
    show lastL (k + 1) _ (hs ++ [h]) = _
    rw [lastL_snoc hs (k + 1)]
    rw [List.length_cons, show k + 1 + hs.length = k + (hs.length + 1) by omega]
    rfl
theorem recsAt_snoc (bn : Nat) (bs : List UInt8) : ∀ (hs : List Hd) (k : Nat) (last : List UInt8) (h : Hd), recsAt bn bs k last hs → (bn + 4 * (k + hs.length)) * 32 + 128 ≤ bs.length →
    seg bs (bn + 4 * (k + hs.length)) = recB (lastL k last hs) (k + hs.length : Nat) h → h.ok → recsAt bn bs k last (hs ++ [h])
  | [], k, last, h, _, h1, h2, h3 => ⟨⟨h1, h2, h3⟩, trivial⟩
  | x :: hs, k, last, h, hr, h1, h2, h3 => by
    rw [List.length_cons] at h1 h2
    refine ⟨hr.1, recsAt_snoc bn bs hs (k + 1) _ h hr.2 ?_ ?_ h3⟩
    · rw [show k + 1 + hs.length = k + (hs.length + 1) by omega]; exact h1
    · rw [show k + 1 + hs.length = k + (hs.length + 1) by omega]; exact h2
theorem recsAt_app (bn : Nat) (bs : List UInt8) : ∀ (hs gs : List Hd) (k : Nat) (last : List UInt8), recsAt bn bs k last (hs ++ gs) → recsAt bn bs k last hs
  | [], _, _, _, _ => trivial
  | x :: hs, gs, k, last, h => ⟨h.1, recsAt_app bn bs hs gs (k + 1) _ h.2⟩
theorem recsAt_ok (bn : Nat) (bs : List UInt8) : ∀ (hs : List Hd) (k : Nat) (last : List UInt8), recsAt bn bs k last hs → ∀ x ∈ hs, x.ok
  | [], _, _, _, x, hx => by simp at hx
  | y :: hs, k, last, h, x, hx => by
    rcases List.mem_cons.1 hx with rfl | hx
    · exact h.1.2.2
    · exact recsAt_ok bn bs hs (k + 1) _ h.2 x hx
theorem recsAt_fit (bn : Nat) (bs : List UInt8) : ∀ (hs : List Hd) (k : Nat) (last : List UInt8), recsAt bn bs k last hs → hs.length = 0 ∨ (bn + 4 * (k + hs.length)) * 32 ≤ bs.length
  | [], _, _, _ => .inl rfl
  | y :: hs, k, last, h => by
    right
    have h1 := h.1.1
    rw [List.length_cons]
    rcases recsAt_fit bn bs hs (k + 1) _ h.2 with h2 | h2
    · rw [h2]; omega
    · rw [show k + (hs.length + 1) = k + 1 + hs.length by omega]; exact h2
/-- On bytes that are the same there. -/
theorem recsAt_same {bn : Nat} {bs cs : List UInt8} (hl : bs.length = cs.length) : ∀ (hs : List Hd) (k : Nat) (last : List UInt8), recsAt bn bs k last hs → (∀ j, k ≤ j → j < k + hs.length → seg bs (bn + 4 * j) = seg cs (bn + 4 * j)) → recsAt bn cs k last hs
  | [], _, _, _, _ => trivial
  | y :: hs, k, last, h, hs' => by
    refine ⟨⟨by rw [← hl]; exact h.1.1, ?_, h.1.2.2⟩, recsAt_same hl hs (k + 1) _ h.2 fun j h1 h2 => hs' j (by omega) (by rw [List.length_cons]; omega)⟩
    rw [← hs' k (Nat.le_refl _) (by rw [List.length_cons]; omega)]; exact h.1.2.1

theorem nx_of {bn : Nat} {room : Int} {k : Nat} {last bs : List UInt8} {h : Hd} (hk : k < roomN room) (h1 : (bn + 4 * k) * 32 + 128 ≤ bs.length) (h2 : seg bs (bn + 4 * k) = recB last k h) (h3 : h.ok) : nxD bn room k last bs = (true, h, recSum last k h) := by
  unfold nxD
  rw [if_pos ⟨hk, h1⟩]
  show takeD last k (seg bs (bn + 4 * k)) = _
  rw [h2]; exact takeD_rec last k h3
theorem nx_true {bn : Nat} {room : Int} {k : Nat} {last bs : List UInt8} (h : (nxD bn room k last bs).1 = true) : k < roomN room ∧ (bn + 4 * k) * 32 + 128 ≤ bs.length ∧ seg bs (bn + 4 * k) = recB last k (nxD bn room k last bs).2.1 ∧ (nxD bn room k last bs).2.1.ok ∧ (nxD bn room k last bs).2.2 = recSum last k (nxD bn room k last bs).2.1 := by
  unfold nxD at h ⊢
  split at h
  · rename_i h1
    rw [if_pos h1]
    obtain ⟨a, b, c, d, _⟩ := takeD_true h
    exact ⟨h1.1, h1.2, b.symm, d, c⟩
  · cases h
theorem opL_recs (bn : Nat) (room : Int) (bs : List UInt8) (f : Nat) : ∀ (hs : List Hd) (k : Nat) (last : List UInt8) (acc : List Hd), recsAt bn bs k last hs → k + hs.length ≤ roomN room →
    opL bn room bs (f + hs.length) k last acc = opL bn room bs f (k + hs.length) (lastL k last hs) (acc ++ hs)
  | [], k, last, acc, _, _ => by simp [lastL]
  | x :: hs, k, last, acc, h, hk => by
    rw [List.length_cons] at hk ⊢
    have e := nx_of (by omega : k < roomN room) h.1.1 h.1.2.1 h.1.2.2
    rw [show f + (hs.length + 1) = (f + hs.length) + 1 by omega, opL, e, if_pos rfl]
    rw [opL_recs bn room bs f hs (k + 1) _ _ h.2 (by omega), List.append_assoc, show k + 1 + hs.length = k + (hs.length + 1) by omega]
    rfl
theorem opL_stop {bn : Nat} {room : Int} {bs : List UInt8} {k : Nat} {last : List UInt8} {acc : List Hd} (h : (nxD bn room k last bs).1 = false) : ∀ f, opL bn room bs f k last acc = (k, last, acc)
  | 0 => rfl
  | f + 1 => by rw [opL, h]; rfl
theorem opL_out (bn : Nat) (room : Int) (bs : List UInt8) : ∀ (f k : Nat) (last : List UInt8) (acc : List Hd), ∃ hs, opL bn room bs f k last acc = (k + hs.length, lastL k last hs, acc ++ hs) ∧ recsAt bn bs k last hs ∧ (hs.length = 0 ∨ k + hs.length ≤ roomN room) ∧
    (hs.length = f ∨ (nxD bn room (k + hs.length) (lastL k last hs) bs).1 = false)
  | 0, k, last, acc => ⟨[], by simp [opL, lastL], trivial, .inl rfl, .inl rfl⟩
  | f + 1, k, last, acc => by
    cases hc : (nxD bn room k last bs).1 with
    | false => exact ⟨[], by rw [opL_stop hc]; simp [lastL], trivial, .inl rfl, .inr hc⟩
    | true =>
      obtain ⟨q1, q2, q3, q4, q5⟩ := nx_true hc
      obtain ⟨hs, h1, h2, h3, h4⟩ := opL_out bn room bs f (k + 1) (nxD bn room k last bs).2.2 (acc ++ [(nxD bn room k last bs).2.1])
      refine ⟨(nxD bn room k last bs).2.1 :: hs, ?_, ⟨⟨q2, q3, q4⟩, by rw [← q5]; exact h2⟩, ?_, ?_⟩
      · rw [opL, hc, if_pos rfl, h1, List.length_cons, show k + 1 + hs.length = k + (hs.length + 1) by omega, List.append_assoc]
        show (_, lastL (k + 1) (nxD bn room k last bs).2.2 hs, _) = (_, lastL (k + 1) (recSum last k (nxD bn room k last bs).2.1) hs, _)
        rw [q5]; rfl
      · right
        rw [List.length_cons]
        rcases h3 with h3 | h3 <;> omega
      · rw [List.length_cons, show k + (hs.length + 1) = k + 1 + hs.length by omega]
        rcases h4 with h4 | h4
        · left; omega
        · right
          show (nxD bn room _ (lastL (k + 1) (recSum last k _) hs) bs).1 = false
          rw [← q5]; exact h4

/-- What is open: all that holds of the records that opening finds. -/
structure Found (base room : Int) (bs : List UInt8) (hs : List Hd) : Prop where
  eq : openL base room bs = (hs.length, lastL 0 z32 hs, hs)
  recs : recsAt base.toNat bs 0 z32 hs
  fit : hs.length ≤ roomN room
  none : (base < 0 ∨ ((bs.length / 32 : Nat) : Int) < base) → hs = []
  stop : 0 ≤ base → base ≤ ((bs.length / 32 : Nat) : Int) → (nxD base.toNat room hs.length (lastL 0 z32 hs) bs).1 = false
theorem open_found (base room : Int) (bs : List UInt8) : Found base room bs (openL base room bs).2.2 := by
  by_cases hb : base < 0 ∨ ((bs.length / 32 : Nat) : Int) < base
  · have e : openL base room bs = (0, z32, []) := if_pos hb
    rw [e]
    exact ⟨e, trivial, Nat.zero_le _, fun _ => rfl, fun h1 h2 => by omega⟩
  · have e : openL base room bs = opL base.toNat room bs 1025 0 z32 [] := if_neg hb
    obtain ⟨hs, h1, h2, h3, h4⟩ := opL_out base.toNat room bs 1025 0 z32 []
    rw [Nat.zero_add, List.nil_append] at h1
    rw [Nat.zero_add] at h3 h4
    rw [e, h1]
    have hr : roomN room ≤ 1024 := by unfold roomN; omega
    refine ⟨e.trans h1, h2, by show hs.length ≤ _; omega, fun h => absurd h hb, fun _ _ => ?_⟩
    rcases h4 with h4 | h4
    · omega
    · exact h4
theorem found_of {base room : Int} {bs : List UInt8} {hs : List Hd} (h0 : 0 ≤ base) (h1 : base ≤ ((bs.length / 32 : Nat) : Int)) (hr : recsAt base.toNat bs 0 z32 hs) (hn : hs.length ≤ roomN room) (hx : (nxD base.toNat room hs.length (lastL 0 z32 hs) bs).1 = false) : Found base room bs hs := by
  have e : openL base room bs = opL base.toNat room bs 1025 0 z32 [] := if_neg (by omega)
  have hr' : roomN room ≤ 1024 := by unfold roomN; omega
  have h2 := opL_recs base.toNat room bs (1025 - hs.length) hs 0 z32 [] hr (by omega)
  rw [show 1025 - hs.length + hs.length = 1025 by omega, Nat.zero_add, opL_stop hx, List.nil_append] at h2
  exact ⟨e.trans h2, hr, hn, fun h => by omega, fun _ _ => hx⟩
theorem found_none {base room : Int} {bs : List UInt8} (h : base < 0 ∨ ((bs.length / 32 : Nat) : Int) < base) : Found base room bs [] := by
  have e : openL base room bs = (0, z32, []) := if_pos h
  exact ⟨e, trivial, Nat.zero_le _, fun _ => rfl, fun h1 h2 => by omega⟩
/-- Records that lie there are found first. -/
theorem open_pre {base room : Int} {bs : List UInt8} {hs : List Hd} (h0 : 0 ≤ base) (h1 : base ≤ ((bs.length / 32 : Nat) : Int)) (hr : recsAt base.toNat bs 0 z32 hs) (hn : hs.length ≤ roomN room) : ∃ gs, (openL base room bs).2.2 = hs ++ gs := by
  have e : openL base room bs = opL base.toNat room bs 1025 0 z32 [] := if_neg (by omega)
  have hr' : roomN room ≤ 1024 := by unfold roomN; omega
  have h2 := opL_recs base.toNat room bs (1025 - hs.length) hs 0 z32 [] hr (by omega)
  rw [show 1025 - hs.length + hs.length = 1025 by omega, Nat.zero_add, List.nil_append] at h2
  obtain ⟨gs, h3, _⟩ := opL_out base.toNat room bs (1025 - hs.length) hs.length (lastL 0 z32 hs) hs
  exact ⟨gs, by rw [e, h2, h3]⟩
end Go.Proofs.YtbomnldpmkedbaaDoor

namespace Go.Proofs.YtbomnldpmkedbaaDoor
open Go.RowKit

theorem seg_get (bs : List UInt8) (s i : Nat) (hi : i < 128) : (seg bs s)[i]? = (sec bs (s + i / 32))[i % 32]? := by
  unfold seg
  rw [List.getElem?_take, if_pos hi, List.getElem?_drop, sec_get _ _ _ (Nat.mod_lt _ (by omega))]
  congr 1; omega
theorem seg_none (bs : List UInt8) (s i : Nat) (hi : ¬ i < 128) : (seg bs s)[i]? = none := by
  unfold seg
  rw [List.getElem?_take, if_neg hi]
theorem seg_same {bs cs : List UInt8} {s : Nat} (h : ∀ i, i < 4 → sec bs (s + i) = sec cs (s + i)) : seg bs s = seg cs s := by
  apply List.ext_getElem?
  intro i
  by_cases hi : i < 128
  · rw [seg_get _ _ _ hi, seg_get _ _ _ hi, h _ (by omega)]
  · rw [seg_none _ _ _ hi, seg_none _ _ _ hi]
theorem seg_lay {bs r : List UInt8} {s : Nat} (hr : r.length = 128) (h : ∀ i, i < 4 → sec bs (s + i) = sec r i) : seg bs s = r := by
  have e : r = seg r 0 := by unfold seg; rw [Nat.zero_mul, List.drop_zero, List.take_of_length_le (by omega)]
  rw [e]
  apply List.ext_getElem?
  intro i
  by_cases hi : i < 128
  · rw [seg_get _ _ _ hi, seg_get _ _ _ hi, h _ (by omega), Nat.zero_add]
  · rw [seg_none _ _ _ hi, seg_none _ _ _ hi]
theorem seg_zero {bs : List UInt8} {s : Nat} (h : sec bs s = z32) : (seg bs s).take 4 = [0, 0, 0, 0] := by
  have e : (seg bs s).take 4 = (sec bs s).take 4 := by
    apply List.ext_getElem?
    intro i
    rw [List.getElem?_take, List.getElem?_take]
    by_cases hi : i < 4
    · rw [if_pos hi, if_pos hi, seg_get _ _ _ (by omega), show i / 32 = 0 by omega, show i % 32 = i by omega, Nat.add_zero]
    · rw [if_neg hi, if_neg hi]
  rw [e, h]; rfl
theorem nx_zero {bn : Nat} {room : Int} {k : Nat} {last bs : List UInt8} (h : k < roomN room → (bn + 4 * k) * 32 + 128 ≤ bs.length → sec bs (bn + 4 * k) = z32) : (nxD bn room k last bs).1 = false := by
  unfold nxD
  split
  · rename_i h1
    have hr : roomN room ≤ 1024 := by unfold roomN; omega
    exact takeD_zero (by omega) (seg_zero (h h1.1 h1.2))
  · rfl

theorem saneP_iff (nb : Nat) (ps : List WP) : saneP nb ps = true ↔ (nb % 32 = 0 ∧ nb / 32 ≤ 4096 ∧ ps.length ≤ 100000) ∧ ps.all (okP nb) = true := by
  unfold saneP; rw [Bool.and_eq_true, decide_eq_true_eq]
theorem bytesQ_len (b : List UInt8) (ps : List WP) (h : saneP b.length ps = true) : (bytesQ b ps).length = b.length := by
  unfold bytesQ; rw [if_pos h]; exact bytesP_len _ _ _ rfl (sane_all h)
theorem bytesQ_sane (b : List UInt8) (ps : List WP) : saneP (bytesQ b ps).length [] = true := by
  by_cases h : saneP b.length ps = true
  · rw [bytesQ_len b ps h]; exact sane_nil h
  · unfold bytesQ; rw [if_neg h]; rfl
theorem bytesQ_nil {b : List UInt8} (h : saneP b.length [] = true) : bytesQ b [] = b := by unfold bytesQ; rw [if_pos h]; rfl
theorem bytesQ_idem (b : List UInt8) (ps : List WP) : bytesQ (bytesQ b ps) [] = bytesQ b ps := bytesQ_nil (bytesQ_sane b ps)

/-- A log's records, and nothing behind them. -/
structure LogInv (b : List UInt8) (ps : List WP) (base room : Int) (hs : List Hd) : Prop where
  fnd : Found base room (bytesQ b ps) hs
  zero : 0 ≤ base → ∀ m, base.toNat + 4 * hs.length ≤ m → m < base.toNat + 4 * roomN room → 32 * m + 32 ≤ (bytesQ b ps).length → sec (bytesQ b ps) m = z32
theorem LogInv.sync {b : List UInt8} {ps : List WP} {base room : Int} {hs : List Hd} (h : LogInv b ps base room hs) : LogInv (bytesQ b ps) [] base room hs := by
  have e := bytesQ_idem b ps
  exact ⟨by rw [e]; exact h.fnd, by rw [e]; exact h.zero⟩

theorem lay_sane {nb : Nat} {ps : List WP} {a : Nat} {data : List UInt8} {n : Nat} (hs : saneP nb ps = true) (h1 : 32 * (a + n) ≤ nb) (h2 : 32 * n ≤ data.length) (h3 : ps.length + n ≤ 100000) : saneP nb (ps ++ layWs a data n) = true := by
  rw [saneP_iff] at hs ⊢
  refine ⟨⟨hs.1.1, hs.1.2.1, ?_⟩, ?_⟩
  · rw [List.length_append]; simp [layWs]; omega
  · rw [List.all_append, hs.2, Bool.true_and]; exact layWs_ok h1 h2
/-- The sectors behind a lay. -/
theorem bytesQ_lay {b : List UInt8} {ps : List WP} {a : Nat} {data : List UInt8} {n : Nat} (hs : saneP b.length ps = true) (h1 : 32 * (a + n) ≤ b.length) (h2 : 32 * n ≤ data.length) (h3 : ps.length + n ≤ 100000) (m : Nat) (hm : 32 * m + 32 ≤ b.length) :
    sec (bytesQ b (ps ++ layWs a data n)) m = if a ≤ m ∧ m < a + n then sec data (m - a) else sec (bytesQ b ps) m := by
  have hl := bytesP_len _ ps b rfl (sane_all hs)
  have e1 : bytesQ b (ps ++ layWs a data n) = bytesP (bytesP b ps) (layWs a data n) := by
    unfold bytesQ; rw [if_pos (lay_sane hs h1 h2 h3), bytes_app]
  have e2 : bytesQ b ps = bytesP b ps := if_pos hs
  rw [e1, e2]
  exact bytes_lay _ a data m (by omega) n (by omega) h2

set_option maxHeartbeats 1000000 in
theorem append_inv {b : List UInt8} {ps : List WP} {base room : Int} {hs : List Hd} {h : Hd} (hi : LogInv b ps base room hs) (hk : h.ok) (hb : -9223372036854775808 ≤ base ∧ base ≤ 9223372036854775807)
    {AP : Int × Nat × List UInt8 × List WP} (hA : AP = appendD b base room hs.length (lastL 0 z32 hs) h ps) :
    (AP.1 = 0 → 0 ≤ base ∧ AP.2.1 = hs.length + 1 ∧ AP.2.2.1 = lastL 0 z32 (hs ++ [h]) ∧ LogInv b AP.2.2.2 base room (hs ++ [h]) ∧ saneP b.length AP.2.2.2 = true ∧
      AP.2.2.2 = ps ++ layWs (base.toNat + 4 * hs.length : Nat) (recB (lastL 0 z32 hs) hs.length h) 4 ∧ 32 * (base.toNat + 4 * hs.length + 4) ≤ b.length ∧ saneP b.length ps = true) ∧
    (AP.1 ≠ 0 → (AP.1 = 12 ∨ AP.1 = 14) ∧ AP = (AP.1, hs.length, lastL 0 z32 hs, ps)) := by
  unfold appendD at hA
  obtain ⟨r, hrr⟩ : ∃ r, recB (lastL 0 z32 hs) hs.length h = r := ⟨_, rfl⟩
  obtain ⟨s, hss⟩ : ∃ s, recSum (lastL 0 z32 hs) hs.length h = s := ⟨_, rfl⟩
  obtain ⟨ls, hls⟩ : ∃ ls, lastL 0 z32 (hs ++ [h]) = ls := ⟨_, rfl⟩
  have hr := recB_len (lastL 0 z32 hs) hs.length hk
  rw [hrr] at hA hr ⊢
  rw [hss] at hA
  rw [hls]
  by_cases h1 : roomN room ≤ hs.length
  · rw [if_pos h1] at hA
    subst hA
    exact ⟨fun h => by simp at h, fun _ => ⟨.inl rfl, rfl⟩⟩
  · rw [if_neg h1] at hA
    by_cases h2 : appOk b base hs.length ps = true
    · rw [if_pos h2] at hA
      unfold appOk at h2
      rw [Bool.and_eq_true] at h2
      obtain ⟨hs1, hs2⟩ := h2
      have hs2 := of_decide_eq_true hs2
      have hlen := bytesQ_len b ps hs1
      have hsz := (saneP_iff _ _).1 hs1
      have hb0 : ¬ (base < 0 ∨ ((b.length / 32 : Nat) : Int) < base) := fun hn => by
        have := hi.fnd.none (by rw [hlen]; exact hn)
        subst this
        simp only [List.length_nil] at hs2
        unfold wrap64 at hs2
        omega
      have hrm : roomN room ≤ 1024 := by unfold roomN; omega
      obtain ⟨bn, rfl⟩ : ∃ bn : Nat, base = bn := ⟨base.toNat, by omega⟩
      have ha : wrap64 ((bn : Int) + (4 * hs.length : Nat)) = ((bn + 4 * hs.length : Nat) : Int) := by unfold wrap64; omega
      rw [ha] at hA hs2
      have hfit : 32 * (bn + 4 * hs.length + 4) ≤ b.length := by omega
      subst hA
      refine ⟨fun _ => ?_, fun h => absurd rfl h⟩
      have hsn := lay_sane (data := r) (n := 4) hs1 hfit (by omega) hs2.2.2
      have hl2 := bytesQ_len b _ hsn
      have hsec := fun m hm => bytesQ_lay (data := r) (n := 4) hs1 hfit (by omega) hs2.2.2 m hm
      have hlast : s = ls := by rw [← hss, ← hls, lastL_snoc, Nat.zero_add]
      have hrec : recsAt bn (bytesQ b (ps ++ layWs (bn + 4 * hs.length : Nat) r 4)) 0 z32 (hs ++ [h]) := by
        refine recsAt_snoc _ _ hs 0 z32 h (recsAt_same (by rw [hl2, hlen]) hs 0 z32 hi.fnd.recs fun j _ hj => seg_same fun i hi4 => ?_) ?_ ?_ hk
        · rw [hsec _ (by omega), if_neg (by omega)]
        · rw [hl2]; omega
        · rw [Nat.zero_add, hrr]
          refine seg_lay hr fun i hi4 => ?_
          rw [hsec _ (by omega), if_pos (by omega), Nat.add_sub_cancel_left]
      refine ⟨by omega, rfl, hlast, ⟨found_of (by omega) (by rw [hl2]; omega) ?_ (by rw [List.length_append, List.length_singleton]; omega) (nx_zero fun q1 q2 => ?_), fun _ m m1 m2 m3 => ?_⟩, hsn, rfl, ?_, hs1⟩
      · exact hrec
      · rw [List.length_append, List.length_singleton] at q1 q2 ⊢
        rw [hl2, Int.toNat_natCast] at q2
        rw [Int.toNat_natCast, hsec _ (by omega), if_neg (by omega)]
        exact hi.zero (by omega) _ (by rw [Int.toNat_natCast]; omega) (by rw [Int.toNat_natCast]; omega) (by rw [hlen]; omega)
      · rw [List.length_append, List.length_singleton, Int.toNat_natCast] at m1
        rw [hl2] at m3
        show sec (bytesQ b (ps ++ layWs (bn + 4 * hs.length : Nat) r 4)) m = z32
        rw [hsec _ (by omega), if_neg (by omega)]
        exact hi.zero (by omega) _ (by rw [Int.toNat_natCast]; omega) m2 (by rw [hlen]; omega)
      · exact hfit
    · rw [if_neg h2] at hA
      subst hA
      exact ⟨fun h => by simp at h, fun _ => ⟨.inr rfl, rfl⟩⟩

/-! Clearing. -/
theorem lay_one (i : Int) : layWs i z32 1 = [(i, z32)] := by unfold layWs; simp; decide
theorem clr_insane {b : List UInt8} {ps : List WP} (h : ¬ saneP b.length ps = true) (base : Int) (n : Nat) : ∀ k, clrP b base n k ps = ps
  | 0 => rfl
  | k + 1 => by
    show clrStep b (clrP b base n k ps) _ = ps
    rw [clr_insane h base n k]
    exact if_neg fun hh => h hh.1
theorem clr_far {b : List UInt8} {ps : List WP} {base : Int} (hb : base ≤ 9223372036854775807) (hz : b.length / 32 ≤ 4096) (h : ((b.length / 32 : Nat) : Int) < base) (n : Nat) : ∀ k, n + k ≤ 10000 → clrP b base n k ps = ps
  | 0, _ => rfl
  | k + 1, hk => by
    show clrStep b (clrP b base n k ps) _ = ps
    rw [clr_far hb hz h n k (by omega)]
    refine if_neg fun hh => ?_
    have := of_decide_eq_true hh.2
    unfold wrap64 at this
    omega
theorem clr_sec {b : List UInt8} {ps : List WP} (hs : saneP b.length ps = true) (bn n : Nat) (hbn : bn ≤ 5000) : ∀ k, n + k ≤ 10000 → ps.length + k ≤ 100000 → saneP b.length (clrP b bn n k ps) = true ∧ (clrP b bn n k ps).length ≤ ps.length + k ∧
    ∀ m, 32 * m + 32 ≤ b.length → sec (bytesQ b (clrP b bn n k ps)) m = if bn + n ≤ m ∧ m < bn + n + k then z32 else sec (bytesQ b ps) m
  | 0, _, _ => ⟨hs, Nat.le_refl _, fun m _ => by rw [if_neg (by omega)]; rfl⟩
  | k + 1, hk, hp => by
    obtain ⟨i1, i2, i3⟩ := clr_sec hs bn n hbn k (by omega) (by omega)
    have e : clrP b bn n (k + 1) ps = clrStep b (clrP b bn n k ps) ((bn + (n + k) : Nat) : Int) := by
      show clrStep b _ (wrap64 _) = _
      congr 1; unfold wrap64; omega
    rw [e]
    by_cases hf : 32 * (bn + (n + k) + 1) ≤ b.length
    · have e2 : clrStep b (clrP b bn n k ps) ((bn + (n + k) : Nat) : Int) = clrP b bn n k ps ++ layWs ((bn + (n + k) : Nat) : Int) z32 1 := by
        rw [lay_one]
        exact if_pos ⟨i1, decide_eq_true ⟨by omega, by omega, by omega⟩⟩
      rw [e2]
      refine ⟨lay_sane i1 hf (by decide) (by omega), by rw [List.length_append, lay_one]; simp; omega, fun m hm => ?_⟩
      rw [bytesQ_lay i1 hf (by decide) (by omega) m hm, i3 m hm]
      by_cases h1 : bn + (n + k) ≤ m ∧ m < bn + (n + k) + 1
      · rw [if_pos h1, if_pos (by omega), show m - (bn + (n + k)) = 0 by omega]
        exact sec_self rfl
      · rw [if_neg h1]
        by_cases h2 : bn + n ≤ m ∧ m < bn + n + k
        · rw [if_pos h2, if_pos (by omega)]
        · rw [if_neg h2, if_neg (by omega)]
    · have e2 : clrStep b (clrP b bn n k ps) ((bn + (n + k) : Nat) : Int) = clrP b bn n k ps := by
        refine if_neg fun hh => ?_
        have h1 := of_decide_eq_true hh.2
        have h2 := ((saneP_iff _ _).1 hs).1.1
        omega
      rw [e2]
      refine ⟨i1, by omega, fun m hm => ?_⟩
      rw [i3 m hm]
      by_cases h2 : bn + n ≤ m ∧ m < bn + n + k
      · rw [if_pos h2, if_pos (by omega)]
      · rw [if_neg h2, if_neg (by omega)]

/-- What opening a log again leaves. -/
structure Reop (b : List UInt8) (ps : List WP) (base room : Int) (B : List UInt8) (hs : List Hd) : Prop where
  len : B.length = (bytesQ b ps).length
  inv : LogInv B [] base room hs
  sane : saneP B.length [] = true
  fnd : Found base room (bytesQ b ps) hs
  sec : 0 ≤ base → base ≤ (((bytesQ b ps).length / 32 : Nat) : Int) → ∀ m, 32 * m + 32 ≤ (bytesQ b ps).length → sec B m = if base.toNat + 4 * hs.length ≤ m ∧ m < base.toNat + 4 * roomN room then z32 else sec (bytesQ b ps) m
  same : (base < 0 ∨ (((bytesQ b ps).length / 32 : Nat) : Int) < base) → B = bytesQ b ps
theorem reop_inv {b : List UInt8} {ps : List WP} {base room : Int} (hb : -9223372036854775808 ≤ base ∧ base ≤ 9223372036854775807) (hp : ps.length ≤ 300) {B : List UInt8} {hs : List Hd} (hB : B = reopB b ps base room) (hh : hs = (openL base room (bytesQ b ps)).2.2) :
    Reop b ps base room B hs := by
  have F := open_found base room (bytesQ b ps)
  rw [← hh] at F
  have hN : (openL base room (bytesQ b ps)).1 = hs.length := by rw [F.eq]
  unfold reopB at hB
  rw [hN] at hB
  have hrm : roomN room ≤ 1024 := by unfold roomN; omega
  have hsn : saneP B.length [] = true := by rw [hB]; exact bytesQ_sane _ _
  by_cases hn : base < 0 ∨ (((bytesQ b ps).length / 32 : Nat) : Int) < base
  · have e : clearP b base room hs.length ps = ps := by
      unfold clearP
      by_cases h0 : base < 0
      · rw [if_pos h0]
      · rw [if_neg h0]
        by_cases hs : saneP b.length ps = true
        · rw [bytesQ_len b ps hs] at hn
          refine clr_far hb.2 ((saneP_iff _ _).1 hs).1.2.1 (by omega) _ _ ?_
          have := F.fit
          omega
        · exact clr_insane hs _ _ _
    rw [e] at hB
    have eq := bytesQ_nil hsn
    refine ⟨by rw [hB], ⟨by rw [eq, hB]; exact F, fun h0 m m1 m2 m3 => ?_⟩, hsn, F, fun h1 h2 => by omega, fun _ => hB⟩
    rw [eq, hB] at m3
    omega
  · have h0 : ¬ base < 0 := fun h => hn (.inl h)
    obtain ⟨bn, rfl⟩ : ∃ bn : Nat, base = bn := ⟨base.toNat, by omega⟩
    have hC : clearP b bn room hs.length ps = clrP b bn (4 * hs.length) (4 * roomN room - 4 * hs.length) ps := if_neg h0
    rw [hC] at hB
    have hsec : B.length = (bytesQ b ps).length ∧ ∀ m, 32 * m + 32 ≤ (bytesQ b ps).length → sec B m = if bn + 4 * hs.length ≤ m ∧ m < bn + 4 * roomN room then z32 else sec (bytesQ b ps) m := by
      by_cases hs1 : saneP b.length ps = true
      · have hz := ((saneP_iff _ _).1 hs1).1.2.1
        rw [bytesQ_len b ps hs1] at hn ⊢
        obtain ⟨i1, i2, i3⟩ := clr_sec hs1 bn (4 * hs.length) (by omega) (4 * roomN room - 4 * hs.length) (by have := F.fit; omega) (by have := F.fit; omega)
        refine ⟨by rw [hB]; exact bytesQ_len _ _ i1, fun m hm => ?_⟩
        rw [hB, i3 m hm]
        have := F.fit
        rw [show bn + 4 * hs.length + (4 * roomN room - 4 * hs.length) = bn + 4 * roomN room by omega]
      · have e : bytesQ b ps = [] := if_neg hs1
        rw [clr_insane hs1] at hB
        rw [hB, e]
        exact ⟨rfl, fun m hm => by simp at hm⟩
    have eq := bytesQ_nil hsn
    have hlen : B.length = (bytesQ b ps).length := hsec.1
    have hrec : recsAt bn B 0 z32 hs := recsAt_same hlen.symm hs 0 z32 F.recs fun j _ hj => seg_same fun i hi => by
      have hf := recsAt_fit _ _ hs 0 z32 F.recs
      rw [Int.toNat_natCast, Nat.zero_add] at hf
      rw [hsec.2 _ (by omega), if_neg (by omega)]
    have hfz : ∀ m, bn + 4 * hs.length ≤ m → m < bn + 4 * roomN room → 32 * m + 32 ≤ B.length → sec B m = z32 := fun m m1 m2 m3 => by
      rw [hsec.2 m (by omega), if_pos ⟨m1, m2⟩]
    refine ⟨hlen, ⟨?_, fun _ m m1 m2 m3 => ?_⟩, hsn, F, fun _ _ m hm => ?_, fun h => absurd h hn⟩
    · rw [eq]
      refine found_of (by omega) (by rw [hlen]; omega) hrec F.fit (nx_zero fun q1 q2 => hfz _ ?_ ?_ ?_)
      · rw [Int.toNat_natCast]; omega
      · rw [Int.toNat_natCast]; omega
      · omega
    · rw [eq] at m3 ⊢
      exact hfz m m1 m2 m3
    · exact hsec.2 m hm
end Go.Proofs.YtbomnldpmkedbaaDoor
