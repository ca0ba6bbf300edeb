/- The document's example (plain). -/
import Derived.Test.YteoilddiilegmaaDoorRu
set_option linter.unusedSimpArgs false
set_option linter.unusedVariables false
namespace Go.Proofs.YteoilddiilegmaaDoor
open Go.RowKit

def exR : Par := ⟨545259519, 9, 90, 10, 0, 0, []⟩
def exA : Hd := ⟨0, List.replicate 32 0, List.replicate 32 0, 5, 545259519, 0⟩
def mkH (L : List UInt8) : Hd := ⟨0, L, List.replicate 32 0, 6, 545259519, 0⟩
theorem mkH_ok (L : List UInt8) (h : L.length = 32) : (mkH L).ok := ⟨h, rfl⟩
theorem mkH_time (L : List UInt8) : (mkH L).time = 6 := rfl
abbrev exH : Hd := mkH (idL exA)
theorem exH_ok : exH.ok := mkH_ok _ (idL_len _)
theorem exA_ok : exA.ok := ⟨rfl, rfl⟩
theorem ex_meet : meetN (leN (idL exH)) 545259519 545259519 = 0 := by decide +kernel
theorem ex_sane : saneR exR = true := by decide +kernel
theorem ex_check (now : Int) (h : chkI 6 [5] now 10 = 0) : checkR exR [exA] exH now = 0 := by
  have e1 : (exH.prev == idL (lastH [exA])) = true := beq_self_eq_true _
  have e2 : (exH.bits.toNat == (chainR exR [exA]).toNat) = true := by decide +kernel
  have e3 : passR exR 1 (idL exH) = 0 := rfl
  unfold checkR
  rw [ex_sane, e1, e2, show exH.bits = 545259519 from rfl, show exR.limit = 545259519 from rfl, ex_meet]
  rw [if_neg (by simp), if_neg (by simp), if_neg (by simp), if_neg (by simp)]
  rw [show exH.time = 6 from rfl, show [exA].map Hd.time = [5] from rfl, show exR.fut = 10 from rfl, h, if_neg (by simp)]
  exact e3
theorem ex_c1 : checkR exR [exA] exH 6 = 0 := ex_check 6 (by decide +kernel)
theorem ex_c2 : checkR exR [exA] exH (-5) = 0 := ex_check (-5) (by decide +kernel)
theorem ex_c3 : checkR exR [] exH 6 = 15 := by unfold checkR; rw [if_pos (show saneR exR = false ∨ ([] : List Hd).length = 0 from Or.inr rfl)]
theorem ex_b : beginsR exR exA = 0 := by unfold beginsR; rw [ex_sane, if_neg (by simp)]; rfl
theorem mine_bits (L : List UInt8) (P : List UInt8 → UInt32 → Prop) (h : P L 545259519) : P L (mkH L).bits := h
theorem ex_meet2 : meetN (leN (idL (exH.bump 0))) exH.bits 545259519 = 0 := by
  rw [bump_zero]
  have e : exH.bits = 545259519 := rfl
  rw [e]
  exact ex_meet
end Go.Proofs.YteoilddiilegmaaDoor
