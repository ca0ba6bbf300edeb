/- What lies there behind a stop and a crash, opened. -/
import Derived.Test.YtbomnldpmkedbaaDoorSnT
set_option linter.unusedSimpArgs false
set_option linter.unusedVariables false
namespace Go.Proofs.YtbomnldpmkedbaaDoor
open Go.RowKit

theorem GoodS.stop {b : List UInt8} {ep base : Int} {room : Nat} {hs gl : List Hd} (g : GoodS b [] ep base room hs) (hce : compE b [] base room ep gl = 0) (hok : ∀ x ∈ gl, x.ok) (plan : List UInt8) (n : Nat) {ep' base' : Int} {room' : Nat} {B' C : List UInt8} {hs' : List Hd}
    (hC : C = crashP plan 0 (doP ((opsS b [] gl ep).take n) b []).2.1 (doP ((opsS b [] gl ep).take n) b []).1) (h : SOp C [] ep' base' room' B' hs') :
    C.length = b.length ∧ ((ep' = ep ∧ hs' = hs) ∨ (ep' = ep + 1 ∧ hs' = gl) ∨ ((takeS (slotB C (slt b))).2.2 = true ∧ slotB C (slt b) ≠ supB (ep + 1) (1 - (lookB b).2.1))) := by
  obtain ⟨q1, q2, q3⟩ := g.compE_yes hce
  have hh := g.chyp q3 q1 hok q2
  have hq := bytesQ_nil g.san
  have hgb := g.bnd
  have hb0 : ((base.toNat : Nat) : Int) = base := by omega
  obtain ⟨b', ps', e1, e2, e3, e4⟩ := hh.stop (a0 := base.toNat) (by rw [hb0, g.baseE, hq]) (old := hs) (by rw [hb0]; have h1 := g.inv.fnd; rw [hq] at h1; exact h1) plan n
  rw [e1] at hC
  rw [← hC] at e4
  have hl : C.length = b.length := by rw [hC]; exact crashP_len plan b.length ps' 0 b' e3 (by rw [← e3]; exact sane_all e2)
  have hqc : bytesQ C [] = C := bytesQ_nil (by rw [hl]; exact g.san)
  have hE := h.epE; have hB := h.baseE; have hR := h.roomE; have hF := h.R.fnd
  rw [hqc] at hE hB hF
  rw [hl, ← g.roomE] at hR
  subst hR
  refine ⟨hl, ?_⟩
  rcases e4 with ⟨k1, k2⟩ | ⟨k1, k2⟩ | k
  · rw [k1] at hE hB
    have hbe : base' = base := by rw [hB, g.baseE, hq]
    rw [hb0] at k2
    rw [hbe] at hF
    exact .inl ⟨by rw [hE, g.epE, hq], hF.uniq k2⟩
  · rw [k1] at hE hB
    rw [hh.aE] at k2
    rw [hB] at hF
    exact .inr (.inl ⟨hE, hF.uniq k2⟩)
  · exact .inr (.inr k)
end Go.Proofs.YtbomnldpmkedbaaDoor
