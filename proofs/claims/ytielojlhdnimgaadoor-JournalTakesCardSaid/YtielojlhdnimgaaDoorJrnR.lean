/- What is put into bytes is got again; records in a row: plain laws. -/
import Derived.Test.YtielojlhdnimgaaDoorJrnQ
set_option linter.unusedSimpArgs false
set_option linter.unusedVariables false
namespace Go.Proofs.YtielojlhdnimgaaDoor
open Go.RowKit

theorem w8_nat {n : Int} (h0 : 0 ≤ n) (h1 : n ≤ 255) : ((w8 n).toNat : Int) = n := (w8_of h0 h1).symm
theorem num32_le4 (x : UInt32) (l : List UInt8) : num32 (le4 x ++ l) = x := by
  have hx := w32_hi x
  have e : numE (le4 x ++ l) 4 = x.toNat := by
    simp only [numE, le4, List.cons_append, List.nil_append, List.getD_cons_succ, List.getD_cons_zero]
    have g : ∀ k, ((w8 (leE x k)).toNat : Int) = leE x k := fun k => w8_nat (by unfold leE; omega) (by unfold leE; omega)
    simp only [g]
    unfold leE
    omega
  unfold num32 w32
  rw [e]
  simp
theorem hget_put {h : Hd} (hk : h.ok) : hgetL (hputL h) = h := by
  unfold hgetL hputL
  have l4 : ∀ x, (le4 x).length = 4 := fun _ => rfl
  have d4 : (le4 h.ver ++ (h.prev ++ (h.root ++ (le4 h.time ++ (le4 h.bits ++ le4 h.nonce))))).drop 4 = h.prev ++ (h.root ++ (le4 h.time ++ (le4 h.bits ++ le4 h.nonce))) := List.drop_left' (l4 _)
  have dn : ∀ k, (le4 h.ver ++ (h.prev ++ (h.root ++ (le4 h.time ++ (le4 h.bits ++ le4 h.nonce))))).drop (4 + k) = (h.prev ++ (h.root ++ (le4 h.time ++ (le4 h.bits ++ le4 h.nonce)))).drop k := fun k => by rw [← List.drop_drop, d4]
  have dn2 : ∀ k, (le4 h.ver ++ (h.prev ++ (h.root ++ (le4 h.time ++ (le4 h.bits ++ le4 h.nonce))))).drop (36 + k) = (h.root ++ (le4 h.time ++ (le4 h.bits ++ le4 h.nonce))).drop k := fun k => by
    rw [show 36 + k = 4 + (32 + k) by omega, dn, ← List.drop_drop, List.drop_left' hk.1]
  have dn3 : ∀ k, (le4 h.ver ++ (h.prev ++ (h.root ++ (le4 h.time ++ (le4 h.bits ++ le4 h.nonce))))).drop (68 + k) = (le4 h.time ++ (le4 h.bits ++ le4 h.nonce)).drop k := fun k => by
    rw [show 68 + k = 36 + (32 + k) by omega, dn2, ← List.drop_drop, List.drop_left' hk.2]
  have e36 := dn2 0; have e68 := dn3 0; have e72 := dn3 4; have e76 := dn3 8
  rw [List.drop_zero] at e36 e68
  rw [List.drop_left' (l4 _)] at e72
  have e8 : (le4 h.time ++ (le4 h.bits ++ le4 h.nonce)).drop (4 + 4) = le4 h.nonce := by rw [← List.drop_drop, List.drop_left' (l4 _), List.drop_left' (l4 _)]
  have e76' := e76.trans e8
  rw [d4, e36, e68, e72, e76', num32_le4, num32_le4, num32_le4, List.take_left' hk.1, List.take_left' hk.2]
  have := num32_le4 h.nonce []
  rw [List.append_nil] at this
  rw [this]
theorem recB_mid (last : List UInt8) (seq : Int) {h : Hd} (hk : h.ok) : ((recB last seq h).drop 4).take 80 = hputL h := by
  unfold recB recHead
  rw [List.append_assoc, List.drop_left' (show (le4 (seqN seq)).length = 4 from rfl), List.append_assoc, List.take_left' (hputL_len hk)]
theorem takeD_rec (last : List UInt8) (seq : Int) {h : Hd} (hk : h.ok) : takeD last seq (recB last seq h) = (true, h, recSum last seq h) := by
  unfold takeD
  rw [recB_mid last seq hk, hget_put hk, if_pos ⟨recB_len last seq hk, rfl⟩, ← recSum_of hk rfl]
theorem takeD_true {last : List UInt8} {seq : Int} {b : List UInt8} (h : (takeD last seq b).1 = true) :
    b.length = 128 ∧ recB last seq (takeD last seq b).2.1 = b ∧ (takeD last seq b).2.2 = recSum last seq (takeD last seq b).2.1 ∧ (takeD last seq b).2.1.ok ∧ (takeD last seq b).2.1 = hgetL ((b.drop 4).take 80) := by
  unfold takeD at h ⊢
  split at h
  · rename_i hb
    rw [if_pos hb]
    have hk : (hgetL ((b.drop 4).take 80)).ok := hgetL_ok (by rw [List.length_take, List.length_drop]; omega)
    exact ⟨hb.1, hb.2, (recSum_of hk hb.2).symm, hk, rfl⟩
  · cases h
theorem recB_first (last : List UInt8) (seq : Int) (h : Hd) : (recB last seq h).take 4 = le4 (seqN seq) := by
  unfold recB recHead
  rw [List.append_assoc]
  exact List.take_left' rfl
theorem le4_inj {x y : UInt32} (h : le4 x = le4 y) : x = y := by
  have h1 := num32_le4 x []; have h2 := num32_le4 y []
  rw [← h1, ← h2, h]
theorem takeD_seq {last last' : List UInt8} {seq seq' : Int} {h : Hd} (hs : seqN seq ≠ seqN seq') : (takeD last seq (recB last' seq' h)).1 = false := by
  cases hc : (takeD last seq (recB last' seq' h)).1 with
  | false => rfl
  | true =>
    have h1 := congrArg (List.take 4) (takeD_true hc).2.1
    rw [recB_first, recB_first] at h1
    exact absurd (le4_inj h1) hs
theorem seqN_nat {k : Nat} (hk : k < 4294967295) : (seqN k).toNat = k + 1 := by
  unfold seqN
  have := w32_of (n := (((k : Int) % 4294967296 + 1) % 4294967296)) (by omega) (by omega)
  omega
theorem takeD_zero {last : List UInt8} {k : Nat} (hk : k < 4294967295) {b : List UInt8} (hb : b.take 4 = [0, 0, 0, 0]) : (takeD last k b).1 = false := by
  cases hc : (takeD last k b).1 with
  | false => rfl
  | true =>
    have h1 := congrArg (List.take 4) (takeD_true hc).2.1
    rw [recB_first, hb] at h1
    have h2 : le4 (seqN k) = le4 0 := h1
    have h3 := congrArg UInt32.toNat (le4_inj h2)
    rw [seqN_nat hk] at h3
    simp at h3

/-! Records in a row. -/
/-- The bytes of a record. -/
def seg (bs : List UInt8) (s : Nat) : List UInt8 := (bs.drop (s * 32)).take 128
def recsAt (bn : Nat) (bs : List UInt8) : Nat → List UInt8 → List Hd → Prop
  | _, _, [] => True
  | k, last, h :: hs => ((bn + 4 * k) * 32 + 128 ≤ bs.length ∧ seg bs (bn + 4 * k) = recB last k h ∧ h.ok) ∧ recsAt bn bs (k + 1) (recSum last k h) hs
def lastL : Nat → List UInt8 → List Hd → List UInt8
  | _, last, [] => last
  | k, last, h :: hs => lastL (k + 1) (recSum last k h) hs
theorem lastL_snoc : ∀ (hs : List Hd) (k : Nat) (last : List UInt8) (h : Hd), lastL k last (hs ++ [h]) = recSum (lastL k last hs) (k + hs.length : Nat) h
  | [], k, last, h => rfl
  | x :: hs, k, last, h => by
    show lastL (k + 1) _ (hs ++ [h]) = _
    rw [lastL_snoc hs (k + 1)]
    rw [List.length_cons, show k + 1 + hs.length = k + (hs.length + 1) by omega]
    rfl
theorem recsAt_snoc (bn : Nat) (bs : List UInt8) : ∀ (hs : List Hd) (k : Nat) (last : List UInt8) (h : Hd), recsAt bn bs k last hs → (bn + 4 * (k + hs.length)) * 32 + 128 ≤ bs.length →
    seg bs (bn + 4 * (k + hs.length)) = recB (lastL k last hs) (k + hs.length : Nat) h → h.ok → recsAt bn bs k last (hs ++ [h])
  | [], k, last, h, _, h1, h2, h3 => ⟨⟨h1, h2, h3⟩, trivial⟩
  | x :: hs, k, last, h, hr, h1, h2, h3 => by
    rw [List.length_cons] at h1 h2
    refine ⟨hr.1, recsAt_snoc bn bs hs (k + 1) _ h hr.2 ?_ ?_ h3⟩
    · rw [show k + 1 + hs.length = k + (hs.length + 1) by omega]; exact h1
    · rw [show k + 1 + hs.length = k + (hs.length + 1) by omega]; exact h2
theorem recsAt_app (bn : Nat) (bs : List UInt8) : ∀ (hs gs : List Hd) (k : Nat) (last : List UInt8), recsAt bn bs k last (hs ++ gs) → recsAt bn bs k last hs
  | [], _, _, _, _ => trivial
  | x :: hs, gs, k, last, h => ⟨h.1, recsAt_app bn bs hs gs (k + 1) _ h.2⟩
theorem recsAt_ok (bn : Nat) (bs : List UInt8) : ∀ (hs : List Hd) (k : Nat) (last : List UInt8), recsAt bn bs k last hs → ∀ x ∈ hs, x.ok
  | [], _, _, _, x, hx => by simp at hx
  | y :: hs, k, last, h, x, hx => by
    rcases List.mem_cons.1 hx with rfl | hx
    · exact h.1.2.2
    · exact recsAt_ok bn bs hs (k + 1) _ h.2 x hx
theorem recsAt_fit (bn : Nat) (bs : List UInt8) : ∀ (hs : List Hd) (k : Nat) (last : List UInt8), recsAt bn bs k last hs → hs.length = 0 ∨ (bn + 4 * (k + hs.length)) * 32 ≤ bs.length
  | [], _, _, _ => .inl rfl
  | y :: hs, k, last, h => by
    right
    have h1 := h.1.1
    rw [List.length_cons]
    rcases recsAt_fit bn bs hs (k + 1) _ h.2 with h2 | h2
    · rw [h2]; omega
    · rw [show k + (hs.length + 1) = k + 1 + hs.length by omega]; exact h2
/-- On bytes that are the same there. -/
theorem recsAt_same {bn : Nat} {bs cs : List UInt8} (hl : bs.length = cs.length) : ∀ (hs : List Hd) (k : Nat) (last : List UInt8), recsAt bn bs k last hs → (∀ j, k ≤ j → j < k + hs.length → seg bs (bn + 4 * j) = seg cs (bn + 4 * j)) → recsAt bn cs k last hs
  | [], _, _, _, _ => trivial
  | y :: hs, k, last, h, hs' => by
    refine ⟨⟨by rw [← hl]; exact h.1.1, ?_, h.1.2.2⟩, recsAt_same hl hs (k + 1) _ h.2 fun j h1 h2 => hs' j (by omega) (by rw [List.length_cons]; omega)⟩
    rw [← hs' k (Nat.le_refl _) (by rw [List.length_cons]; omega)]; exact h.1.2.1

theorem nx_of {bn : Nat} {room : Int} {k : Nat} {last bs : List UInt8} {h : Hd} (hk : k < roomN room) (h1 : (bn + 4 * k) * 32 + 128 ≤ bs.length) (h2 : seg bs (bn + 4 * k) = recB last k h) (h3 : h.ok) : nxD bn room k last bs = (true, h, recSum last k h) := by
  unfold nxD
  rw [if_pos ⟨hk, h1⟩]
  show takeD last k (seg bs (bn + 4 * k)) = _
  rw [h2]; exact takeD_rec last k h3
theorem nx_true {bn : Nat} {room : Int} {k : Nat} {last bs : List UInt8} (h : (nxD bn room k last bs).1 = true) : k < roomN room ∧ (bn + 4 * k) * 32 + 128 ≤ bs.length ∧ seg bs (bn + 4 * k) = recB last k (nxD bn room k last bs).2.1 ∧ (nxD bn room k last bs).2.1.ok ∧ (nxD bn room k last bs).2.2 = recSum last k (nxD bn room k last bs).2.1 := by
  unfold nxD at h ⊢
  split at h
  · rename_i h1
    rw [if_pos h1]
    obtain ⟨a, b, c, d, _⟩ := takeD_true h
    exact ⟨h1.1, h1.2, b.symm, d, c⟩
  · cases h
theorem opL_recs (bn : Nat) (room : Int) (bs : List UInt8) (f : Nat) : ∀ (hs : List Hd) (k : Nat) (last : List UInt8) (acc : List Hd), recsAt bn bs k last hs → k + hs.length ≤ roomN room →
    opL bn room bs (f + hs.length) k last acc = opL bn room bs f (k + hs.length) (lastL k last hs) (acc ++ hs)
  | [], k, last, acc, _, _ => by simp [lastL]
  | x :: hs, k, last, acc, h, hk => by
    rw [List.length_cons] at hk ⊢
    have e := nx_of (by omega : k < roomN room) h.1.1 h.1.2.1 h.1.2.2
    rw [show f + (hs.length + 1) = (f + hs.length) + 1 by omega, opL, e, if_pos rfl]
    rw [opL_recs bn room bs f hs (k + 1) _ _ h.2 (by omega), List.append_assoc, show k + 1 + hs.length = k + (hs.length + 1) by omega]
    rfl
theorem opL_stop {bn : Nat} {room : Int} {bs : List UInt8} {k : Nat} {last : List UInt8} {acc : List Hd} (h : (nxD bn room k last bs).1 = false) : ∀ f, opL bn room bs f k last acc = (k, last, acc)
  | 0 => rfl
  | f + 1 => by rw [opL, h]; rfl
theorem opL_out (bn : Nat) (room : Int) (bs : List UInt8) : ∀ (f k : Nat) (last : List UInt8) (acc : List Hd), ∃ hs, opL bn room bs f k last acc = (k + hs.length, lastL k last hs, acc ++ hs) ∧ recsAt bn bs k last hs ∧ (hs.length = 0 ∨ k + hs.length ≤ roomN room) ∧
    (hs.length = f ∨ (nxD bn room (k + hs.length) (lastL k last hs) bs).1 = false)
  | 0, k, last, acc => ⟨[], by simp [opL, lastL], trivial, .inl rfl, .inl rfl⟩
  | f + 1, k, last, acc => by
    cases hc : (nxD bn room k last bs).1 with
    | false => exact ⟨[], by rw [opL_stop hc]; simp [lastL], trivial, .inl rfl, .inr hc⟩
    | true =>
      obtain ⟨q1, q2, q3, q4, q5⟩ := nx_true hc
      obtain ⟨hs, h1, h2, h3, h4⟩ := opL_out bn room bs f (k + 1) (nxD bn room k last bs).2.2 (acc ++ [(nxD bn room k last bs).2.1])
      refine ⟨(nxD bn room k last bs).2.1 :: hs, ?_, ⟨⟨q2, q3, q4⟩, by rw [← q5]; exact h2⟩, ?_, ?_⟩
      · rw [opL, hc, if_pos rfl, h1, List.length_cons, show k + 1 + hs.length = k + (hs.length + 1) by omega, List.append_assoc]
        show (_, lastL (k + 1) (nxD bn room k last bs).2.2 hs, _) = (_, lastL (k + 1) (recSum last k (nxD bn room k last bs).2.1) hs, _)
        rw [q5]; rfl
      · right
        rw [List.length_cons]
        rcases h3 with h3 | h3 <;> omega
      · rw [List.length_cons, show k + (hs.length + 1) = k + 1 + hs.length by omega]
        rcases h4 with h4 | h4
        · left; omega
        · right
          show (nxD bn room _ (lastL (k + 1) (recSum last k _) hs) bs).1 = false
          rw [← q5]; exact h4

/-- What is open: all that holds of the records that opening finds. -/
structure Found (base room : Int) (bs : List UInt8) (hs : List Hd) : Prop where
  eq : openL base room bs = (hs.length, lastL 0 z32 hs, hs)
  recs : recsAt base.toNat bs 0 z32 hs
  fit : hs.length ≤ roomN room
  none : (base < 0 ∨ ((bs.length / 32 : Nat) : Int) < base) → hs = []
  stop : 0 ≤ base → base ≤ ((bs.length / 32 : Nat) : Int) → (nxD base.toNat room hs.length (lastL 0 z32 hs) bs).1 = false
theorem open_found (base room : Int) (bs : List UInt8) : Found base room bs (openL base room bs).2.2 := by
  by_cases hb : base < 0 ∨ ((bs.length / 32 : Nat) : Int) < base
  · have e : openL base room bs = (0, z32, []) := if_pos hb
    rw [e]
    exact ⟨e, trivial, Nat.zero_le _, fun _ => rfl, fun h1 h2 => by omega⟩
  · have e : openL base room bs = opL base.toNat room bs 1025 0 z32 [] := if_neg hb
    obtain ⟨hs, h1, h2, h3, h4⟩ := opL_out base.toNat room bs 1025 0 z32 []
    rw [Nat.zero_add, List.nil_append] at h1
    rw [Nat.zero_add] at h3 h4
    rw [e, h1]
    have hr : roomN room ≤ 1024 := by unfold roomN; omega
    refine ⟨e.trans h1, h2, by show hs.length ≤ _; omega, fun h => absurd h hb, fun _ _ => ?_⟩
    rcases h4 with h4 | h4
    · omega
    · exact h4
theorem found_of {base room : Int} {bs : List UInt8} {hs : List Hd} (h0 : 0 ≤ base) (h1 : base ≤ ((bs.length / 32 : Nat) : Int)) (hr : recsAt base.toNat bs 0 z32 hs) (hn : hs.length ≤ roomN room) (hx : (nxD base.toNat room hs.length (lastL 0 z32 hs) bs).1 = false) : Found base room bs hs := by
  have e : openL base room bs = opL base.toNat room bs 1025 0 z32 [] := if_neg (by omega)
  have hr' : roomN room ≤ 1024 := by unfold roomN; omega
  have h2 := opL_recs base.toNat room bs (1025 - hs.length) hs 0 z32 [] hr (by omega)
  rw [show 1025 - hs.length + hs.length = 1025 by omega, Nat.zero_add, opL_stop hx, List.nil_append] at h2
  exact ⟨e.trans h2, hr, hn, fun h => by omega, fun _ _ => hx⟩
theorem found_none {base room : Int} {bs : List UInt8} (h : base < 0 ∨ ((bs.length / 32 : Nat) : Int) < base) : Found base room bs [] := by
  have e : openL base room bs = (0, z32, []) := if_pos h
  exact ⟨e, trivial, Nat.zero_le _, fun _ => rfl, fun h1 h2 => by omega⟩
/-- Records that lie there are found first. -/
theorem open_pre {base room : Int} {bs : List UInt8} {hs : List Hd} (h0 : 0 ≤ base) (h1 : base ≤ ((bs.length / 32 : Nat) : Int)) (hr : recsAt base.toNat bs 0 z32 hs) (hn : hs.length ≤ roomN room) : ∃ gs, (openL base room bs).2.2 = hs ++ gs := by
  have e : openL base room bs = opL base.toNat room bs 1025 0 z32 [] := if_neg (by omega)
  have hr' : roomN room ≤ 1024 := by unfold roomN; omega
  have h2 := opL_recs base.toNat room bs (1025 - hs.length) hs 0 z32 [] hr (by omega)
  rw [show 1025 - hs.length + hs.length = 1025 by omega, Nat.zero_add, List.nil_append] at h2
  obtain ⟨gs, h3, _⟩ := opL_out base.toNat room bs (1025 - hs.length) hs.length (lastL 0 z32 hs) hs
  exact ⟨gs, by rw [e, h2, h3]⟩
end Go.Proofs.YtielojlhdnimgaaDoor
