/- What lies behind is gone: the plain law. -/
import Derived.Test.YtielojlhdnimgaaDoorJrnV
set_option linter.unusedSimpArgs false
set_option linter.unusedVariables false
namespace Go.Proofs.YtielojlhdnimgaaDoor
open Go.RowKit

theorem get_sec (b : List UInt8) (i : Nat) : b[i]? = (sec b (i / 32))[i % 32]? := by
  rw [sec_get _ _ _ (Nat.mod_lt _ (by omega))]
  congr 1; omega
theorem eq_of_sec {a b : List UInt8} (hl : a.length = b.length) (h32 : a.length % 32 = 0) (h : ∀ m, 32 * m + 32 ≤ a.length → sec a m = sec b m) : a = b := by
  apply List.ext_getElem?
  intro i
  by_cases hi : i < a.length
  · rw [get_sec a i, get_sec b i, h (i / 32) (by omega)]
  · rw [List.getElem?_eq_none (by omega), List.getElem?_eq_none (by omega)]
/-- What opening again leaves, byte for byte. -/
structure TrL (a B : List UInt8) (base room : Int) (hs : List Hd) : Prop where
  len : a.length = B.length
  zero : ∀ i, i < a.length → (32 * (base + 4 * (hs.length : Int)) ≤ (i : Int) ∧ (i : Int) < 32 * (base + 4 * (roomN room : Int)) ∧ base ≤ ((a.length / 32 : Nat) : Int)) → B[i]? = some 0
  same : ∀ i, i < a.length → ¬ (32 * (base + 4 * (hs.length : Int)) ≤ (i : Int) ∧ (i : Int) < 32 * (base + 4 * (roomN room : Int)) ∧ base ≤ ((a.length / 32 : Nat) : Int)) → B[i]? = a[i]?
theorem trunc_law {b : List UInt8} {ps : List WP} {base room : Int} {B : List UInt8} {hs : List Hd} (R : Reop b ps base room B hs) (h0 : 0 ≤ base) : TrL (bytesQ b ps) B base room hs := by
  have h32 : (bytesQ b ps).length % 32 = 0 := ((saneP_iff _ _).1 (bytesQ_sane b ps)).1.1
  obtain ⟨bn, rfl⟩ : ∃ bn : Nat, base = bn := ⟨base.toNat, by omega⟩
  refine ⟨R.len.symm, fun i hi h => ?_, fun i hi h => ?_⟩
  · have hs1 := R.sec h0 h.2.2 (i / 32) (by omega)
    rw [Int.toNat_natCast, if_pos ⟨by omega, by omega⟩] at hs1
    rw [get_sec, hs1]
    unfold z32
    rw [List.getElem?_replicate, if_pos (Nat.mod_lt _ (by omega))]
  · by_cases hb : (bn : Int) ≤ (((bytesQ b ps).length / 32 : Nat) : Int)
    · have hs1 := R.sec h0 hb (i / 32) (by omega)
      rw [Int.toNat_natCast, if_neg (fun q => h ⟨by omega, by omega, hb⟩)] at hs1
      rw [get_sec, hs1, ← get_sec]
    · rw [R.same (.inr (by omega))]
/-- Opened once more it is the same. -/
theorem reop_again {b : List UInt8} {ps : List WP} {base room : Int} {B B2 : List UInt8} {hs hs2 : List Hd} (R : Reop b ps base room B hs) (R2 : Reop B [] base room B2 hs2) (h0 : 0 ≤ base) : hs2 = hs ∧ B2 = B := by
  have eB : bytesQ B [] = B := bytesQ_nil R.sane
  have e1 : hs2 = hs := R2.fnd.uniq R.inv.fnd
  refine ⟨e1, ?_⟩
  subst e1
  have hl2 := R2.len
  have hsec2 := R2.sec; have hsame2 := R2.same
  rw [eB] at hl2 hsec2 hsame2
  by_cases hb : base ≤ ((B.length / 32 : Nat) : Int)
  · refine eq_of_sec hl2 (by rw [hl2]; exact ((saneP_iff _ _).1 R.sane).1.1) fun m hm => ?_
    rw [hsec2 h0 hb m (by omega)]
    split
    · rename_i h1
      have hl := R.len
      rw [R.sec h0 (by rw [← hl]; exact hb) m (by omega), if_pos h1]
    · rfl
  · exact hsame2 (.inr (by omega))
end Go.Proofs.YtielojlhdnimgaaDoor
