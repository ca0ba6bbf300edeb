/- Stores as they should be: opened, with one more, synced, written anew. -/
import Derived.Test.YtbomnldpmkedbaaDoorSnR
set_option linter.unusedSimpArgs false
set_option linter.unusedVariables false
namespace Go.Proofs.YtbomnldpmkedbaaDoor
open Go.RowKit

/-- A store that fits its disk. -/
structure GoodS (b : List UInt8) (ps : List WP) (ep base : Int) (room : Nat) (hs : List Hd) : Prop where
  san : saneP b.length ps = true
  epE : ep = (lookB (bytesQ b ps)).1
  baseE : base = begS (lookB (bytesQ b ps)).2.1 room
  roomE : room = roomS ((b.length / 32 : Nat) : Int)
  inv : LogInv b ps base room hs
section
variable {b : List UInt8} {ps : List WP} {ep base : Int} {room : Nat} {hs : List Hd}
theorem GoodS.bnd (g : GoodS b ps ep base room hs) : room ≤ 1024 ∧ 4 ≤ base ∧ base ≤ 4100 ∧ 0 ≤ ep ∧ ep ≤ 2147483647 ∧ hs.length ≤ room := by
  have h1 : room ≤ 1024 := by rw [g.roomE]; exact roomS_le _
  have h2 := begS_rng (look_told (bytesQ b ps)).r h1
  have h3 := (look_told (bytesQ b ps)).e
  have h4 := g.epE
  have h5 := g.baseE
  have h6 := g.inv.fnd.fit
  rw [roomN_nat h1] at h6
  exact ⟨h1, by omega, by omega, by omega, by omega, h6⟩
/-- What is opened, of a disk that may be. -/
theorem SOp.good {B : List UInt8} (h : SOp b ps ep base room B hs) (hs0 : saneP b.length ps = true) : GoodS B [] ep base room hs ∧ lookB B = lookB (bytesQ b ps) ∧ B.length = b.length := by
  have hq := bytesQ_len b ps hs0
  have hl : B.length = b.length := by rw [h.R.len, hq]
  have h1 : room ≤ 1024 := by rw [h.roomE]; exact roomS_le _
  have hb := begS_rng (look_told (bytesQ b ps)).r h1
  rw [← h.baseE] at hb
  have hlook : lookB B = lookB (bytesQ b ps) := by
    refine look_same (by rw [hq]; exact hl) (fun m hm => ?_)
    by_cases hf : 32 * m + 32 ≤ (bytesQ b ps).length
    · by_cases h3 : base ≤ (((bytesQ b ps).length / 32 : Nat) : Int)
      · rw [h.R.sec (by omega) h3 m hf, if_neg (by omega)]
      · rw [h.R.same (.inr (by omega))]
    · have e : ∀ c : List UInt8, c.length = (bytesQ b ps).length → c.length % 32 = 0 → sec c m = [] := fun c hc h0 => by
        unfold sec
        rw [List.drop_eq_nil_of_le (by omega), List.take_nil]
      have h0 := ((saneP_iff _ _).1 hs0).1.1
      rw [e B (by rw [hq]; exact hl) (by omega), e _ rfl (by omega)]
  have hqn := bytesQ_nil h.R.sane
  exact ⟨⟨h.R.sane, by rw [hqn, hlook]; exact h.epE, by rw [hqn, hlook]; exact h.baseE, by rw [hl]; exact h.roomE, h.R.inv⟩, hlook, hl⟩
/-- What is opened, of one that may not. -/
theorem SOp.bad {B : List UInt8} (h : SOp b ps ep base room B hs) (hs0 : ¬ saneP b.length ps = true) : B = [] ∧ hs = [] ∧ ep = 0 ∧ base = 4 := by
  have hq : bytesQ b ps = [] := if_neg hs0
  have hB : B = [] := List.eq_nil_of_length_eq_zero (by rw [h.R.len, hq]; rfl)
  have he : lookB (bytesQ b ps) = (0, 0, -1) := by rw [hq]; rfl
  have hb : base = 4 := by rw [h.baseE, he]; unfold begS; simp
  refine ⟨hB, h.R.fnd.none (.inr ?_), by rw [h.epE, he], hb⟩
  rw [hq, hb]; decide
/-- One more. -/
theorem GoodS.app {h : Hd} {qs : List WP} (g : GoodS b ps ep base room hs) (hi : LogInv b qs base room (hs ++ [h])) (ha : AppR b base hs h ps qs) (hk : h.ok) : GoodS b qs ep base room (hs ++ [h]) ∧ lookB (bytesQ b qs) = lookB (bytesQ b ps) := by
  obtain ⟨h1, h2, _⟩ := g.bnd
  have hl : lookB (bytesQ b qs) = lookB (bytesQ b ps) := by
    refine look_same (by rw [bytesQ_len b qs ha.san, bytesQ_len b ps ha.san0]) (fun m hm => ?_)
    have hq : ps.length + 4 ≤ 100000 := by
      have e1 := ((saneP_iff _ _).1 ha.san).1.2.2
      rw [ha.eq, List.length_append] at e1
      simpa [layWs] using e1
    have hfit := ha.fit
    rw [ha.eq, bytesQ_lay ha.san0 (by omega) (by rw [recB_len _ _ hk]; omega) hq m (by omega), if_neg (by omega)]
  exact ⟨⟨ha.san, by rw [hl]; exact g.epE, by rw [hl]; exact g.baseE, g.roomE, hi⟩, hl⟩
/-- Synced. -/
theorem GoodS.sync (g : GoodS b ps ep base room hs) : GoodS (bytesQ b ps) [] ep base room hs := by
  have hl := bytesQ_len b ps g.san
  have e := bytesQ_idem b ps
  exact ⟨bytesQ_sane b ps, by rw [e]; exact g.epE, by rw [e]; exact g.baseE, by rw [hl]; exact g.roomE, g.inv.sync⟩
/-- Where the other region begins, and the slot that is written. -/
def oth (b : List UInt8) (room : Nat) : Nat := (begS (1 - (lookB b).2.1) room).toNat
def slt (b : List UInt8) : Nat := if (lookB b).2.2 = 0 then 1 else 0
theorem GoodS.chyp (g : GoodS b [] ep base room hs) {gl : List Hd} (h4 : 4 ≤ b.length / 32) (hgl : gl.length ≤ room) (hok : ∀ x ∈ gl, x.ok) (hem : ep ≤ 2147483646) : CHyp b gl ep room (oth b room) (slt b) (1 - (lookB b).2.1) := by
  have e := bytesQ_nil g.san
  have h1 : room ≤ 1024 := by rw [g.roomE]; exact roomS_le _
  have hr : 1 - (lookB b).2.1 = 0 ∨ 1 - (lookB b).2.1 = 1 := by rcases (look_told b).r with e | e <;> omega
  have h2 := begS_rng hr h1
  refine ⟨g.san, h4, g.roomE, rfl, by unfold oth; omega, by unfold slt; split <;> rfl, hgl, hok, by rw [g.epE, e], hem⟩
theorem may_ok {nS : Nat} {L : Int × Int × Int} {base room ep : Int} {nk : Nat} (h1 : nk ≤ roomS nS) (h2 : L.1 = ep) (h3 : begS L.2.1 (roomS nS) = base) (h4 : room = roomS nS) (h5 : ep ≤ 2147483646) (h6 : 4 ≤ nS) : mayS nS L base room ep nk = 0 := by
  unfold mayS
  rw [if_neg (by omega), if_neg (fun e => e.elim (fun e => e h2) (fun e => e h3)), if_neg (fun e => e.elim (fun e => e h4) (fun e => by omega)), if_neg (by omega)]
theorem GoodS.may (g : GoodS b [] ep base room hs) {gl : List Hd} : mayS (b.length / 32) (lookB (bytesQ b [])) base room ep gl.length = 0 ↔ (gl.length ≤ room ∧ ep ≤ 2147483646 ∧ 4 ≤ b.length / 32) := by
  constructor
  · intro h
    obtain ⟨q1, _, _, _, q5, q6⟩ := mayS_zero h
    exact ⟨by rw [g.roomE]; exact q1, q5, q6⟩
  · intro ⟨q1, q5, q6⟩
    exact may_ok (by rw [← g.roomE]; exact q1) g.epE.symm (by rw [← g.roomE]; exact g.baseE.symm) (by rw [← g.roomE]) q5 q6
theorem GoodS.compE_ok (g : GoodS b [] ep base room hs) {gl : List Hd} (h4 : 4 ≤ b.length / 32) (hgl : gl.length ≤ room) (hok : ∀ x ∈ gl, x.ok) (hem : ep ≤ 2147483646) : compE b [] base room ep gl = 0 := by
  unfold compE
  obtain ⟨c, hc, _⟩ := (g.chyp h4 hgl hok hem).comp
  rw [if_pos (g.may.2 ⟨hgl, hem, h4⟩), hc]
theorem GoodS.compE_no (g : GoodS b [] ep base room hs) {gl : List Hd} (hok : ∀ x ∈ gl, x.ok) (h : compE b [] base room ep gl ≠ 0) : ¬ (gl.length ≤ room ∧ ep ≤ 2147483646 ∧ 4 ≤ b.length / 32) := fun ⟨q1, q2, q3⟩ => h (g.compE_ok q3 q1 hok q2)
theorem GoodS.compE_yes (g : GoodS b [] ep base room hs) {gl : List Hd} (h : compE b [] base room ep gl = 0) : gl.length ≤ room ∧ ep ≤ 2147483646 ∧ 4 ≤ b.length / 32 := by
  unfold compE at h
  split at h
  · rename_i h1; exact g.may.1 h1
  · rename_i h1; exact absurd h h1
/-- Written anew. -/
theorem GoodS.comp (g : GoodS b [] ep base room hs) {gl : List Hd} (h4 : 4 ≤ b.length / 32) (hgl : gl.length ≤ room) (hok : ∀ x ∈ gl, x.ok) (hem : ep ≤ 2147483646) {X : Nat → Prop} {w' : World} {A' : Option Addr} {b' : List UInt8} {c' : Nat} {PA' : Option Addr} {vs : List WriteR} {pc' : Nat} {hs' : List Hd} {ss' : Array Value}
    (hC : CompR X w' b [] gl ep A' b' c' PA' vs pc' hs' ss') : vs = [] ∧ hs' = gl ∧ NewB b gl ep room (oth b room) (slt b) (1 - (lookB b).2.1) b' ∧ GoodS b' [] (ep + 1) (oth b room : Nat) room gl ∧
      StA (stCells (.slice A' b'.length c') (.slice PA' 0 pc') (oth b room : Nat) room (gl.length : Nat) (lastL 0 z32 gl) (ep + 1)) ss' := by
  have hh := g.chyp h4 hgl hok hem
  obtain ⟨c, hc, hN⟩ := hh.comp
  have hrun := hC.run
  rw [hc] at hrun
  injection hrun with e1 e2
  injection e2 with e2 _
  subst e1
  have hv : vs = [] := List.map_eq_nil_iff.1 e2
  subst hv
  have hE : begS (1 - (lookB (bytesQ b [])).2.1) (roomS ((b.length / 32 : Nat) : Int)) = (oth b room : Nat) := by
    rw [bytesQ_nil g.san, ← g.roomE]; exact hh.aE.symm
  have hfn := hC.fnd
  have hst := hC.sta
  rw [hE, ← g.roomE] at hfn hst
  rw [List.map_nil, bytesQ_nil hN.san] at hfn
  have he : hs' = gl := hfn.uniq hN.fnd
  subst he
  have eq := bytesQ_nil hN.san
  exact ⟨rfl, rfl, hN, ⟨hN.san, by rw [eq, hN.look], by rw [eq, hN.look]; exact hh.aE, by rw [hN.len]; exact g.roomE, hN.inv⟩, hst⟩
end
end Go.Proofs.YtbomnldpmkedbaaDoor
