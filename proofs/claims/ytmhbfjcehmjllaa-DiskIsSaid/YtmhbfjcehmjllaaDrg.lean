/- florinref18.Lay, plainly; rows that lie apart from a variable. -/
import Derived.Test.YtmhbfjcehmjllaaDrf
set_option linter.unusedSimpArgs false
set_option linter.unusedVariables false
namespace Go.Proofs.Ytmhbfjcehmjllaa
open Go.RowKit
theorem rd_farD {w w' : World} {g : Nat} {t : TypeId} {l xs : List Value} {P : Option Addr} (h : Rd w P xs) (hb : Blk w g t l) (hx : ∀ v ∈ l, xs[0]? ≠ some v) (hg : w.grownBy w' (some g)) : Rd w' P xs := by
  by_cases h0 : xs = []
  · exact .inl h0
  rcases h with h1 | ⟨b, off, rfl, hc⟩
  · exact .inl h1
  have hp := List.length_pos_iff.2 h0
  refine .inr ⟨b, off, rfl, fun j hj => grown_cell hg (hc j hj) (fun e => ?_)⟩
  injection e with e
  subst e
  have q := hc 0 hp
  rw [Nat.add_zero, hb.cell] at q
  exact hx _ (List.mem_of_getElem? q) (List.getElem?_eq_getElem hp)
theorem bytes_far {w w' : World} {g : Nat} {t : TypeId} {P : Option Addr} {l : List UInt8} {a b : Option Addr} {n m p q : Nat} (h : Rd w P (l.map u8v)) (hb : Blk w g t [.slice a n m, .slice b p q]) (hg : w.grownBy w' (some g)) : Rd w' P (l.map u8v) :=
  rd_farD h hb (fun v hv e => by
    cases l with
    | nil => cases e
    | cons x l =>
      simp at hv e
      rcases hv with rfl | rfl <;> cases e) hg
theorem DOk.far {w w' : World} {A : Option Addr} {b : List UInt8} {c : Nat} {PA : Option Addr} {ws : List WriteR} {pc g : Nat} {t : TypeId} {a d : Option Addr} {n m p q : Nat} (h : DOk w A b c PA ws pc) (hb : Blk w g t [.slice a n m, .slice d p q]) (hg : w.grownBy w' (some g)) : DOk w' A b c PA ws pc :=
  ⟨bytes_far h.rb hb hg, h.bc, h.cm, rd_farD h.rp hb (fun v hv e => by
    cases ws with
    | nil => cases e
    | cons x l =>
      simp [WriteR.cells] at hv e
      rcases hv with rfl | rfl <;> cases e) hg, h.pl, h.pm, fun x hx => ⟨bytes_far (h.ok x hx).1 hb hg, (h.ok x hx).2⟩⟩
theorem grown_set2 (w : World) (g : Nat) (a b : Value) : w.grownBy ((w.setCell ⟨g, 0, none⟩ a).setCell ⟨g, 1, none⟩ b) (some g) :=
  ⟨rfl, by simp, rfl, by simp, fun k _ hne => by
    have h : k ≠ g := fun e => hne (by rw [e])
    rw [set_ne _ _ _ _ _ h, set_ne _ _ _ _ _ h]⟩
theorem chunk_len (data : List UInt8) {k : Nat} (h : 32 * k + 32 ≤ data.length) : ((data.drop (32 * k)).take 32).length = 32 := by
  rw [List.length_take, List.length_drop]; omega
theorem layWs_succD (at_ : Int) (data : List UInt8) (k : Nat) : layWs at_ data (k + 1) = layWs at_ data k ++ [(at_ + k, (data.drop (32 * k)).take 32)] := by
  unfold layWs; rw [List.range_succ, List.map_append]; rfl
theorem layWs_len (at_ : Int) (data : List UInt8) (k : Nat) : (layWs at_ data k).length = k := by unfold layWs; simp
theorem tk_of {b : List UInt8} {ws : List WriteR} (h : saneD b.length ws = true) : tkB b ws = b ∧ tkW b ws = ws := ⟨if_pos h, if_pos h⟩
theorem sane_plD {nb : Nat} {ws vs : List WriteR} (h : ws.map WriteR.pl = vs.map WriteR.pl) : saneD nb ws = saneD nb vs := by
  have hl : ws.length = vs.length := by simpa using congrArg List.length h
  have ha : ws.all (·.ok nb) = vs.all (·.ok nb) := by
    have e : ∀ l : List WriteR, l.all (·.ok nb) = (l.map WriteR.pl).all (fun y => decide (0 ≤ y.1 ∧ y.1 < (nb / 32 : Nat) ∧ y.2.length = 32)) := fun l => by
      rw [List.all_map]; rfl
    rw [e, e, h]
  unfold saneD
  rw [hl, ha]
/-- How far Lay has come. -/
structure LayI (bb : List UInt8) (wv : List WriteR) (at_ : Int) (data : List UInt8) (k : Nat) (vs : List WriteR) : Prop where
  pl : vs.map WriteR.pl = wv.map WriteR.pl ++ layWs at_ data k
  sn : saneD bb.length vs = true
  ok : 0 < k → 0 ≤ at_ ∧ at_ + k ≤ (bb.length / 32 : Nat) ∧ wv.length + k ≤ 100000
theorem LayI.len {bb : List UInt8} {wv : List WriteR} {at_ : Int} {data : List UInt8} {k : Nat} {vs : List WriteR} (h : LayI bb wv at_ data k vs) : vs.length = wv.length + k := by
  have q := congrArg List.length h.pl
  simpa [layWs_len] using q
theorem LayI.start {bb : List UInt8} {wv : List WriteR} (at_ : Int) (data : List UInt8) (h : saneD bb.length wv = true) : LayI bb wv at_ data 0 wv := ⟨by simp [layWs], h, fun h => absurd h (by omega)⟩
theorem LayI.good {bb : List UInt8} {wv : List WriteR} {at_ : Int} {data : List UInt8} {k : Nat} {vs : List WriteR} (h : LayI bb wv at_ data k vs) (hk : 32 * k + 32 ≤ data.length) (h0 : 0 ≤ at_) (h1 : at_ + k < (bb.length / 32 : Nat)) (h2 : wv.length + k < 100000) :
    putD bb vs (max (-1) (min at_ 100000) + k) ((data.drop (32 * k)).take 32) = (vs.map WriteR.pl ++ [(at_ + k, (data.drop (32 * k)).take 32)], 0) ∧ ∀ us : List WriteR, us.map WriteR.pl = vs.map WriteR.pl ++ [(at_ + k, (data.drop (32 * k)).take 32)] → LayI bb wv at_ data (k + 1) us := by
  have hs := sane_len h.sn
  have hl := h.len
  have hc : max (-1) (min at_ 100000) = at_ := by omega
  refine ⟨?_, fun us hu => ⟨by rw [hu, h.pl, layWs_succD, List.append_assoc], ?_, fun _ => ⟨h0, by omega, by omega⟩⟩⟩
  · rw [hc, put_split, (tk_of h.sn).1, (tk_of h.sn).2, chunk_len data hk, if_neg (by simp; omega)]
  · have hul : us.length = vs.length + 1 := by simpa using congrArg List.length hu
    have e : saneD bb.length us = saneD bb.length (vs ++ [(⟨at_ + k, none, 0, (data.drop (32 * k)).take 32⟩ : WriteR)]) := sane_plD (by rw [hu]; simp [WriteR.pl])
    rw [e]
    unfold saneD
    have h3 := h.sn
    unfold saneD at h3
    rw [Bool.and_eq_true] at h3
    rw [Bool.and_eq_true, List.all_append, h3.2]
    refine ⟨decide_eq_true ⟨hs.1, hs.2.1, by rw [List.length_append]; simp; omega⟩, ?_⟩
    have h4 : (⟨at_ + k, none, 0, (data.drop (32 * k)).take 32⟩ : WriteR).ok bb.length = true := decide_eq_true ⟨by show 0 ≤ at_ + (k : Int); omega, h1, chunk_len data hk⟩
    simp [h4]
theorem LayI.bad {bb : List UInt8} {wv : List WriteR} {at_ : Int} {data : List UInt8} {k : Nat} {vs : List WriteR} (h : LayI bb wv at_ data k vs) (hk : 32 * k + 32 ≤ data.length) (hb : ¬ (0 ≤ at_ ∧ at_ + k < (bb.length / 32 : Nat) ∧ wv.length + k < 100000)) :
    at_ < 0 ∨ (putD bb vs (max (-1) (min at_ 100000) + k) ((data.drop (32 * k)).take 32)).2 = 14 := by
  have hs := sane_len h.sn
  have hl := h.len
  by_cases h0 : at_ < 0
  · exact .inl h0
  · refine .inr ?_
    rw [put_split, (tk_of h.sn).1, (tk_of h.sn).2, chunk_len data hk, if_pos]
    simp
    omega
theorem lay_bad {b : List UInt8} {ws : List WriteR} {at_ : Int} {data : List UInt8} {k : Nat} (hd : data.length % 32 = 0) (hk : 32 * k + 32 ≤ data.length) (hb : ¬ (0 ≤ at_ ∧ at_ + k < ((tkB b ws).length / 32 : Nat) ∧ (tkW b ws).length + k < 100000)) : layD b ws at_ data = ((tkW b ws).map WriteR.pl, 14) := by
  unfold layD layOk
  rw [if_neg (by omega), if_neg (by omega), if_neg]
  rw [decide_eq_true_eq]
  omega
theorem lay_end {b : List UInt8} {ws : List WriteR} {at_ : Int} {data : List UInt8} {vs : List WriteR} (hd : data.length % 32 = 0) (h : LayI (tkB b ws) (tkW b ws) at_ data (data.length / 32) vs) : layD b ws at_ data = (vs.map WriteR.pl, 0) := by
  unfold layD layOk
  rw [if_neg (by omega)]
  by_cases h0 : data.length / 32 = 0
  · rw [if_pos h0]
    have q := h.pl
    rw [h0] at q
    rw [q]; simp [layWs]
  · rw [if_neg h0]
    have q := h.ok (by omega)
    rw [if_pos (by rw [decide_eq_true_eq]; omega), h.pl]
end Go.Proofs.Ytmhbfjcehmjllaa
