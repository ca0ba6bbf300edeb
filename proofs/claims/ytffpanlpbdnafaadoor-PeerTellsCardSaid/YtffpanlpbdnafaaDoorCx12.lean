/- Texts merged by pack.py: Pj, Pk, Pl, Rcm, Pg, Ph, Pi, Rtl, Qh. -/
import Derived.Test.YtffpanlpbdnafaaDoorCx9
import Derived.Test.YtffpanlpbdnafaaDoorCx10
import Derived.Test.YtffpanlpbdnafaaDoorCx11
/- What is put is got again, and not from less: plain laws of reading a transaction. -/
set_option linter.unusedSimpArgs false
set_option linter.unusedVariables false
namespace Go.Proofs.YtffpanlpbdnafaaDoor
open Go.RowKit
def RD {α : Type} (f : List UInt8 → SP → α × SP) (b : List UInt8) (k : Nat) (v : α) (e : Nat) : Prop :=
  k ≤ e ∧ ∀ j, k ≤ j → j ≤ b.length → (e ≤ j → f (b.take j) (k, 0) = (v, (e, 0))) ∧ (j < e → (f (b.take j) (k, 0)).2.2 = 1)
theorem take_drop_in {b x r : List UInt8} {k j : Nat} (h : b.drop k = x ++ r) (hk : k ≤ j) (hj : j ≤ b.length) : (k + x.length ≤ j → (b.take j).drop k = x ++ r.take (j - k - x.length)) ∧ (j < k + x.length → (b.take j).drop k = x.take (j - k)) ∧ (b.take j).length = j := by
  have e : (b.take j).drop k = (x ++ r).take (j - k) := by rw [List.drop_take, h]
  refine ⟨fun q => ?_, fun q => ?_, by rw [List.length_take]; omega⟩
  · rw [e, List.take_append, List.take_of_length_le (by omega)]
  · rw [e, List.take_append_of_le_length (by omega)]
theorem drop_more {b x r : List UInt8} {k : Nat} (h : b.drop k = x ++ r) : b.drop (k + x.length) = r := by
  rw [← List.drop_drop, h, List.drop_left' rfl]
theorem tk_rd {b x r : List UInt8} {k m : Nat} (h : b.drop k = x ++ r) (hx : x.length = m) : RD (fun c p => (tkB c m p, tkP c m p)) b k x (k + m) := by
  subst hx
  refine ⟨by omega, fun j hk hj => ?_⟩
  obtain ⟨h1, h2, h3⟩ := take_drop_in h hk hj
  refine ⟨fun q => ?_, fun q => ?_⟩
  · have e1 : tkP (b.take j) x.length (k, 0) = (k + x.length, 0) := by
      unfold tkP; rw [if_pos rfl, if_pos (by rw [h3]; exact q)]
    have e2 : tkB (b.take j) x.length (k, 0) = x := by
      unfold tkB; rw [if_pos ⟨rfl, by rw [h3]; exact q⟩]
      simp only
      rw [h1 q, List.take_left' rfl]
    simp only [e1, e2]
  · show (tkP (b.take j) x.length (k, 0)).2 = 1
    unfold tkP; rw [if_pos rfl, if_neg (by rw [h3]; show ¬ k + x.length ≤ j; omega)]
theorem nm_rd {b r : List UInt8} {n k m : Nat} (h : b.drop k = loN n m ++ r) (hn : n < 2 ^ (8 * m)) : RD (fun c p => (nmV c m p, tkP c m p)) b k n (k + m) := by
  have q := tk_rd h (lo_len n m)
  refine ⟨q.1, fun j hk hj => ⟨fun hq => ?_, fun hq => ?_⟩⟩
  · have e := (q.2 j hk hj).1 hq
    have e1 : tkB (b.take j) m (k, 0) = loN n m := congrArg Prod.fst e
    have e2 : tkP (b.take j) m (k, 0) = (k + m, 0) := congrArg Prod.snd e
    have e3 : nmV (b.take j) m (k, 0) = n := by
      unfold nmV
      rw [e1, lo_len]
      have := numN_lo n [] m m (Nat.le_refl _)
      rw [List.append_nil] at this
      rw [this, Nat.mod_eq_of_lt hn]
    simp only [e2, e3]
  · exact (q.2 j hk hj).2 hq
theorem nm32_rd {b r : List UInt8} {x : UInt32} {k : Nat} (h : b.drop k = loN x.toNat 4 ++ r) : RD (fun c p => (UInt32.ofNat (nmV c 4 p), tkP c 4 p)) b k x (k + 4) := by
  have q := nm_rd h (by have := x.toNat_lt; omega)
  refine ⟨q.1, fun j hk hj => ⟨fun hq => ?_, fun hq => ?_⟩⟩
  · have e := (q.2 j hk hj).1 hq
    have e1 : nmV (b.take j) 4 (k, 0) = x.toNat := congrArg Prod.fst e
    have e2 : tkP (b.take j) 4 (k, 0) = (k + 4, 0) := congrArg Prod.snd e
    simp only [e1, e2]
    congr 1
    exact UInt32.toNat_inj.1 (by rw [UInt32.toNat_ofNat', Nat.mod_eq_of_lt (by have := x.toNat_lt; omega)])
  · exact (q.2 j hk hj).2 hq
theorem bnd_put {n most : Nat} (h1 : n ≤ most) (h2 : n ≤ 2147483647) (r : List UInt8) : bndN (cptL n ++ r) most = (n, sizN n, 0) := by
  unfold bndN
  rw [cget_put n (by omega) r, if_pos rfl, if_neg (by simp only; omega)]
theorem bnd_short {n most j : Nat} (h : j < sizN n) : bndN ((cptL n).take j) most = (0, 0, 1) := by
  unfold bndN
  rw [cget_short n j (by rw [cpt_len]; exact h), if_neg (by simp)]
theorem byt_put {s : List UInt8} {most : Nat} (h1 : s.length ≤ most) (h2 : s.length ≤ 2147483647) (r : List UInt8) : bytN (scL s ++ r) most = (s, (scL s).length, 0) := by
  have e : scL s ++ r = cptL s.length ++ (s ++ r) := by unfold scL; rw [List.append_assoc]
  have hl : (scL s).length = sizN s.length + s.length := by unfold scL; rw [List.length_append, cpt_len]
  unfold bytN
  rw [e, bnd_put h1 h2, if_pos rfl]
  simp only
  rw [if_neg (by rw [List.length_append, List.length_append, cpt_len]; omega), List.drop_left' (cpt_len _), List.take_left' rfl, hl]
theorem byt_short {s : List UInt8} {most j : Nat} (h1 : s.length ≤ most) (h2 : s.length ≤ 2147483647) (h : j < (scL s).length) : (bytN ((scL s).take j) most).2.2 = 1 := by
  have hl : (scL s).length = sizN s.length + s.length := by unfold scL; rw [List.length_append, cpt_len]
  unfold bytN
  by_cases q : j < sizN s.length
  · have e : (scL s).take j = (cptL s.length).take j := by unfold scL; rw [List.take_append_of_le_length (by rw [cpt_len]; omega)]
    rw [e, bnd_short q, if_neg (by simp)]
  · have e : (scL s).take j = cptL s.length ++ s.take (j - sizN s.length) := by
      unfold scL; rw [List.take_append, List.take_of_length_le (by rw [cpt_len]; omega), cpt_len]
    rw [e, bnd_put h1 h2, if_pos rfl]
    simp only
    rw [if_pos (by rw [List.length_append, cpt_len, List.length_take]; omega)]
theorem ct_rd {b r : List UInt8} {n k most : Nat} (h : b.drop k = cptL n ++ r) (h1 : n ≤ most) (h2 : n ≤ 2147483647) : RD (fun c p => (ctV c most p, ctP c most p)) b k n (k + sizN n) := by
  refine ⟨by omega, fun j hk hj => ?_⟩
  obtain ⟨a1, a2, a3⟩ := take_drop_in h hk hj
  rw [cpt_len] at a1 a2
  refine ⟨fun q => ?_, fun q => ?_⟩
  · have e := a1 q
    unfold ctV ctP
    simp only [if_true]
    rw [e, bnd_put h1 h2]
  · have e := a2 q
    show (ctP (b.take j) most (k, 0)).2 = 1
    unfold ctP
    rw [if_pos rfl]
    simp only
    rw [e, bnd_short (by omega)]
theorem sc_rd {b r s : List UInt8} {k : Nat} (h : b.drop k = scL s ++ r) (h1 : s.length ≤ 10000) : RD (fun c p => (scV c p, scP c p)) b k s (k + (scL s).length) := by
  refine ⟨by omega, fun j hk hj => ?_⟩
  obtain ⟨a1, a2, a3⟩ := take_drop_in h hk hj
  refine ⟨fun q => ?_, fun q => ?_⟩
  · have e := a1 q
    unfold scV scP
    simp only [if_true]
    rw [e, byt_put h1 (by omega)]
  · have e := a2 q
    show (scP (b.take j) (k, 0)).2 = 1
    unfold scP
    rw [if_pos rfl]
    simp only
    rw [e, byt_short h1 (by omega) (by omega)]
theorem RD.then {α β γ : Type} {f : List UInt8 → SP → α × SP} {g : α → List UInt8 → SP → β × SP} {h : List UInt8 → SP → γ × SP} {b : List UInt8} {k e1 e2 : Nat} {u : α} {v : β} {z : γ} (F : RD f b k u e1) (G : RD (g u) b e1 v e2)
    (hs : ∀ c p a, p.2 = 1 → (g a c p).2 = p) (hh : ∀ c p, (h c p).2 = (g (f c p).1 c (f c p).2).2) (hv : ∀ c p, (f c p) = (u, (e1, 0)) → (g u c (e1, 0)) = (v, (e2, 0)) → (h c p).1 = z) : RD h b k z e2 := by
  refine ⟨Nat.le_trans F.1 G.1, fun j hk hj => ?_⟩
  obtain ⟨f1, f2⟩ := F.2 j hk hj
  by_cases q : e1 ≤ j
  · obtain ⟨g1, g2⟩ := G.2 j q hj
    have ef := f1 q
    have e0 := hh (b.take j) (k, 0)
    rw [ef] at e0
    simp only at e0
    refine ⟨fun q2 => ?_, fun q2 => by rw [e0]; exact g2 q2⟩
    have eg := g1 q2
    rw [eg] at e0
    exact Prod.ext (hv _ _ ef eg) e0
  · refine ⟨fun q2 => absurd (Nat.le_trans G.1 q2) q, fun _ => ?_⟩
    have ef := f2 (by omega)
    rw [hh, hs _ _ _ ef]; exact ef
theorem tkP_err {b : List UInt8} {m : Nat} {p : SP} (h : p.2 = 1) : tkP b m p = p := by unfold tkP; rw [if_neg (by omega)]
theorem ctP_err {b : List UInt8} {m : Nat} {p : SP} (h : p.2 = 1) : ctP b m p = p := by unfold ctP; rw [if_neg (by omega)]
theorem scP_err {b : List UInt8} {p : SP} (h : p.2 = 1) : scP b p = p := by unfold scP; rw [if_neg (by omega)]
theorem in_rd {b r : List UInt8} {x : InR} {k : Nat} (h : b.drop k = inL x ++ r) (hp : x.prev.length = 32) (hs : x.sc.length ≤ 10000) : RD inS b k x.pl (k + (inL x).length) := by
  have e0 : inL x = x.prev ++ (loN x.ix.toNat 4 ++ (scL x.sc ++ loN x.seq.toNat 4)) := rfl
  rw [e0, List.append_assoc, List.append_assoc, List.append_assoc] at h
  have h2 := drop_more h
  have h3 := drop_more h2
  have h4 := drop_more h3
  have r1 := tk_rd h hp
  rw [hp] at h2 h3 h4
  have r2 := nm32_rd h2
  rw [lo_len] at h3 h4
  have r3 := sc_rd h3 hs
  have r4 := nm32_rd h4
  have c3 := RD.then (h := fun c p => ((scV c p, UInt32.ofNat (nmV c 4 (scP c p))), tkP c 4 (scP c p))) (z := (x.sc, x.seq)) (g := fun _ c p => (UInt32.ofNat (nmV c 4 p), tkP c 4 p)) r3 r4 (fun c p a h => tkP_err h) (fun c p => rfl) (fun c p a1 a2 => by
    have b1 : scV c p = x.sc := congrArg Prod.fst a1
    have b2 : scP c p = _ := congrArg Prod.snd a1
    have b3 := congrArg Prod.fst a2
    simp only at b3 ⊢
    rw [b1, b2, b3])
  have c2 := RD.then (h := fun c p => ((UInt32.ofNat (nmV c 4 p), scV c (tkP c 4 p), UInt32.ofNat (nmV c 4 (scP c (tkP c 4 p)))), tkP c 4 (scP c (tkP c 4 p)))) (z := (x.ix, x.sc, x.seq)) (g := fun _ c p => ((scV c p, UInt32.ofNat (nmV c 4 (scP c p))), tkP c 4 (scP c p))) r2 c3 (fun c p a h => by simp only; rw [scP_err h, tkP_err h]) (fun c p => rfl) (fun c p a1 a2 => by
    have b1 : UInt32.ofNat (nmV c 4 p) = x.ix := congrArg Prod.fst a1
    have b2 : tkP c 4 p = _ := congrArg Prod.snd a1
    have b3 := congrArg Prod.fst a2
    simp only at b3 ⊢
    rw [b1, b2, b3])
  have c1 := RD.then (h := inS) (z := x.pl) (g := fun _ c p => ((UInt32.ofNat (nmV c 4 p), scV c (tkP c 4 p), UInt32.ofNat (nmV c 4 (scP c (tkP c 4 p)))), tkP c 4 (scP c (tkP c 4 p)))) r1 c2 (fun c p a h => by simp only; rw [tkP_err h, scP_err h, tkP_err h]) (fun c p => rfl) (fun c p a1 a2 => by
    have b1 : tkB c 32 p = x.prev := congrArg Prod.fst a1
    have b2 : tkP c 32 p = _ := congrArg Prod.snd a1
    have b3 := congrArg Prod.fst a2
    simp only at b3
    injection b3 with b3 b4
    injection b4 with b4 b5
    unfold inS InR.pl padH
    simp only
    rw [b1, b2, b3, b4, b5, hp]
    congr 1
    rw [show z32.drop 32 = [] from rfl, List.append_nil])
  have el : (inL x).length = 32 + 4 + (scL x.sc).length + 4 := by rw [e0]; simp only [List.length_append, lo_len, hp]; omega
  rw [el, show k + (32 + 4 + (scL x.sc).length + 4) = k + 32 + 4 + (scL x.sc).length + 4 by omega]
  exact c1
theorem out_rd {b r : List UInt8} {x : OutR} {k : Nat} (h : b.drop k = outL x ++ r) (hv : x.val < 2 ^ 64) (hs : x.sc.length ≤ 10000) : RD outS b k x.pl (k + (outL x).length) := by
  have e0 : outL x = loN x.val 8 ++ scL x.sc := rfl
  rw [e0, List.append_assoc] at h
  have h2 := drop_more h
  have r1 := nm_rd h (by omega)
  rw [lo_len] at h2
  have r2 := sc_rd h2 hs
  have c1 := RD.then (h := outS) (z := x.pl) (g := fun _ c p => (scV c p, scP c p)) r1 r2 (fun c p a h => scP_err h) (fun c p => rfl) (fun c p a1 a2 => by
    have b1 : nmV c 8 p = x.val := congrArg Prod.fst a1
    have b2 : tkP c 8 p = _ := congrArg Prod.snd a1
    have b3 := congrArg Prod.fst a2
    simp only at b3
    unfold outS OutR.pl
    simp only
    rw [b1, b2, b3])
  have el : (outL x).length = 8 + (scL x.sc).length := by rw [e0]; simp only [List.length_append, lo_len]
  rw [el, ← Nat.add_assoc]
  exact c1
theorem ins_rd {b : List UInt8} : ∀ (l : List InR) {r : List UInt8} {k : Nat}, b.drop k = l.flatMap inL ++ r → (∀ x ∈ l, x.prev.length = 32 ∧ x.sc.length ≤ 10000) → RD (fun c p => insS c l.length p) b k (l.map InR.pl) (k + (l.flatMap inL).length)
  | [], r, k, h, _ => by
    refine ⟨by simp, fun j hk hj => ⟨fun _ => rfl, fun q => by simp at q; omega⟩⟩
  | x :: l, r, k, h, hl => by
    rw [List.flatMap_cons, List.append_assoc] at h
    have r1 := in_rd h (hl x (by simp)).1 (hl x (by simp)).2
    have r2 := ins_rd l (drop_more h) fun y hy => hl y (by simp [hy])
    refine ⟨by omega, fun j hk hj => ?_⟩
    have e0 : insS (b.take j) (x :: l).length (k, 0) = ((inS (b.take j) (k, 0)).1 :: (insS (b.take j) l.length (inS (b.take j) (k, 0)).2).1, (insS (b.take j) l.length (inS (b.take j) (k, 0)).2).2) := by
      rw [List.length_cons, insS, if_pos rfl]
    have el : k + ((x :: l).flatMap inL).length = k + (inL x).length + (l.flatMap inL).length := by rw [List.flatMap_cons, List.length_append]; omega
    rw [el]
    obtain ⟨f1, f2⟩ := r1.2 j hk hj
    by_cases q : k + (inL x).length ≤ j
    · obtain ⟨g1, g2⟩ := r2.2 j q hj
      have ef := f1 q
      rw [ef] at e0
      simp only at e0
      refine ⟨fun q2 => ?_, fun q2 => ?_⟩
      · have eg := g1 q2
        simp only at eg ⊢
        rw [e0, eg]; rfl
      · have eg := g2 q2
        simp only at eg ⊢
        rw [e0]; exact eg
    · refine ⟨fun q2 => by omega, fun _ => ?_⟩
      have ef := f2 (by omega)
      simp only
      rw [e0]
      simp only
      rw [insS_err _ _ (by rw [ef]; omega)]; exact ef
theorem outs_rd {b : List UInt8} : ∀ (l : List OutR) {r : List UInt8} {k : Nat}, b.drop k = l.flatMap outL ++ r → (∀ x ∈ l, x.val < 2 ^ 64 ∧ x.sc.length ≤ 10000) → RD (fun c p => outsS c l.length p) b k (l.map OutR.pl) (k + (l.flatMap outL).length)
  | [], r, k, h, _ => by
    refine ⟨by simp, fun j hk hj => ⟨fun _ => rfl, fun q => by simp at q; omega⟩⟩
  | x :: l, r, k, h, hl => by
    rw [List.flatMap_cons, List.append_assoc] at h
    have r1 := out_rd h (hl x (by simp)).1 (hl x (by simp)).2
    have r2 := outs_rd l (drop_more h) fun y hy => hl y (by simp [hy])
    refine ⟨by omega, fun j hk hj => ?_⟩
    have e0 : outsS (b.take j) (x :: l).length (k, 0) = ((outS (b.take j) (k, 0)).1 :: (outsS (b.take j) l.length (outS (b.take j) (k, 0)).2).1, (outsS (b.take j) l.length (outS (b.take j) (k, 0)).2).2) := by
      rw [List.length_cons, outsS, if_pos rfl]
    have el : k + ((x :: l).flatMap outL).length = k + (outL x).length + (l.flatMap outL).length := by rw [List.flatMap_cons, List.length_append]; omega
    rw [el]
    obtain ⟨f1, f2⟩ := r1.2 j hk hj
    by_cases q : k + (outL x).length ≤ j
    · obtain ⟨g1, g2⟩ := r2.2 j q hj
      have ef := f1 q
      rw [ef] at e0
      simp only at e0
      refine ⟨fun q2 => ?_, fun q2 => ?_⟩
      · have eg := g1 q2
        simp only at eg ⊢
        rw [e0, eg]; rfl
      · have eg := g2 q2
        simp only at eg ⊢
        rw [e0]; exact eg
    · refine ⟨fun q2 => by omega, fun _ => ?_⟩
      have ef := f2 (by omega)
      simp only
      rw [e0]
      simp only
      rw [outsS_err _ _ (by rw [ef]; omega)]; exact ef
theorem cntE_ok {n : Nat} (h : n ≠ 0) (p : SP) : cntE n p = p := by unfold cntE; rw [if_neg (fun q => h q.2)]
theorem cntE_err {n : Nat} {p : SP} (h : p.2 = 1) : cntE n p = p := by unfold cntE; rw [if_neg (fun q => by omega)]
theorem insS_err1 {b : List UInt8} {n : Nat} {p : SP} (h : p.2 = 1) : insS b n p = ([], p) := insS_err b n (by omega)
theorem outsS_err1 {b : List UInt8} {n : Nat} {p : SP} (h : p.2 = 1) : outsS b n p = ([], p) := outsS_err b n (by omega)
theorem tget_rd {t : TxR} (hs : saneT t = true) (hi : ∀ x ∈ t.ins, x.prev.length = 32) (ho : ∀ x ∈ t.outs, x.val < 2 ^ 64) (r : List UInt8) : RD (fun c _ => tgetS c) (txL t ++ r) 0 t.pl (txL t).length := by
  unfold saneT at hs
  rw [decide_eq_true_eq] at hs
  obtain ⟨s1, s2, s3, s4, s5⟩ := hs
  generalize hb : txL t ++ r = b
  have e0 : txL t = loN t.ver.toNat 4 ++ (cptL t.ins.length ++ (t.ins.flatMap inL ++ (cptL t.outs.length ++ (t.outs.flatMap outL ++ loN t.lock.toNat 4)))) := rfl
  have h0 : b.drop 0 = loN t.ver.toNat 4 ++ (cptL t.ins.length ++ (t.ins.flatMap inL ++ (cptL t.outs.length ++ (t.outs.flatMap outL ++ (loN t.lock.toNat 4 ++ r))))) := by
    rw [List.drop_zero, ← hb, e0]; simp only [List.append_assoc]
  have h1 := drop_more h0
  have h2 := drop_more h1
  have h3 := drop_more h2
  have h4 := drop_more h3
  have h5 := drop_more h4
  rw [lo_len] at h1 h2 h3 h4 h5
  rw [cpt_len] at h2 h3 h4 h5
  rw [cpt_len] at h4 h5
  have r0 := nm32_rd h0
  have r1 := ct_rd h1 (most := 1000) s2 (by omega)
  have r2 := ins_rd t.ins h2 fun x hx => ⟨hi x hx, s4 x hx⟩
  have r3 := ct_rd h3 (most := 1000) s3 (by omega)
  have r4 := outs_rd t.outs h4 fun x hx => ⟨ho x hx, s5 x hx⟩
  have r5 := nm32_rd h5
  have c5 := RD.then (h := fun c p => (((outsS c t.outs.length p).1, UInt32.ofNat (nmV c 4 (outsS c t.outs.length p).2)), tkP c 4 (outsS c t.outs.length p).2)) (z := (t.outs.map OutR.pl, t.lock)) (g := fun _ c p => (UInt32.ofNat (nmV c 4 p), tkP c 4 p)) r4 r5 (fun c p a h => tkP_err h) (fun c p => rfl) (fun c p a1 a2 => by
    have b1 : (outsS c t.outs.length p).1 = _ := congrArg Prod.fst a1
    have b2 : (outsS c t.outs.length p).2 = _ := congrArg Prod.snd a1
    have b3 := congrArg Prod.fst a2
    simp only at b3 ⊢
    rw [b1, b2, b3])
  have c4 := RD.then (h := fun c p => (((outsS c (ctV c 1000 p) (ctP c 1000 p)).1, UInt32.ofNat (nmV c 4 (outsS c (ctV c 1000 p) (ctP c 1000 p)).2)), tkP c 4 (outsS c (ctV c 1000 p) (ctP c 1000 p)).2)) (z := (t.outs.map OutR.pl, t.lock)) (g := fun n c p => (((outsS c n p).1, UInt32.ofNat (nmV c 4 (outsS c n p).2)), tkP c 4 (outsS c n p).2)) r3 c5 (fun c p a h => by simp only; rw [outsS_err1 h, tkP_err h]) (fun c p => rfl) (fun c p a1 a2 => by
    have b1 : ctV c 1000 p = _ := congrArg Prod.fst a1
    have b2 : ctP c 1000 p = _ := congrArg Prod.snd a1
    have b3 := congrArg Prod.fst a2
    simp only at b3 ⊢
    rw [b1, b2]; exact b3)
  have c3 := RD.then (h := fun c p => (((insS c t.ins.length p).1, (outsS c (ctV c 1000 (insS c t.ins.length p).2) (ctP c 1000 (insS c t.ins.length p).2)).1, UInt32.ofNat (nmV c 4 (outsS c (ctV c 1000 (insS c t.ins.length p).2) (ctP c 1000 (insS c t.ins.length p).2)).2)), tkP c 4 (outsS c (ctV c 1000 (insS c t.ins.length p).2) (ctP c 1000 (insS c t.ins.length p).2)).2)) (z := (t.ins.map InR.pl, t.outs.map OutR.pl, t.lock))
    (g := fun _ c p => (((outsS c (ctV c 1000 p) (ctP c 1000 p)).1, UInt32.ofNat (nmV c 4 (outsS c (ctV c 1000 p) (ctP c 1000 p)).2)), tkP c 4 (outsS c (ctV c 1000 p) (ctP c 1000 p)).2)) r2 c4 (fun c p a h => by simp only; rw [ctP_err h, outsS_err1 h, tkP_err h]) (fun c p => rfl) (fun c p a1 a2 => by
    have b1 : (insS c t.ins.length p).1 = _ := congrArg Prod.fst a1
    have b2 : (insS c t.ins.length p).2 = _ := congrArg Prod.snd a1
    have b3 := congrArg Prod.fst a2
    simp only at b3 ⊢
    rw [b1, b2, b3])
  have hn0 : t.ins.length ≠ 0 := by omega
  have c2 := RD.then (h := fun c p => (((insS c (ctV c 1000 p) (cntE (ctV c 1000 p) (ctP c 1000 p))).1, (outsS c (ctV c 1000 (insS c (ctV c 1000 p) (cntE (ctV c 1000 p) (ctP c 1000 p))).2) (ctP c 1000 (insS c (ctV c 1000 p) (cntE (ctV c 1000 p) (ctP c 1000 p))).2)).1, UInt32.ofNat (nmV c 4 (outsS c (ctV c 1000 (insS c (ctV c 1000 p) (cntE (ctV c 1000 p) (ctP c 1000 p))).2) (ctP c 1000 (insS c (ctV c 1000 p) (cntE (ctV c 1000 p) (ctP c 1000 p))).2)).2)), tkP c 4 (outsS c (ctV c 1000 (insS c (ctV c 1000 p) (cntE (ctV c 1000 p) (ctP c 1000 p))).2) (ctP c 1000 (insS c (ctV c 1000 p) (cntE (ctV c 1000 p) (ctP c 1000 p))).2)).2))
    (z := (t.ins.map InR.pl, t.outs.map OutR.pl, t.lock))
    (g := fun n c p => (((insS c n (cntE n p)).1, (outsS c (ctV c 1000 (insS c n (cntE n p)).2) (ctP c 1000 (insS c n (cntE n p)).2)).1, UInt32.ofNat (nmV c 4 (outsS c (ctV c 1000 (insS c n (cntE n p)).2) (ctP c 1000 (insS c n (cntE n p)).2)).2)), tkP c 4 (outsS c (ctV c 1000 (insS c n (cntE n p)).2) (ctP c 1000 (insS c n (cntE n p)).2)).2)) r1 (by simp only [cntE_ok hn0]; exact c3) (fun c p a h => by simp only; rw [cntE_err h, insS_err1 h, ctP_err h, outsS_err1 h, tkP_err h]) (fun c p => rfl) (fun c p a1 a2 => by
    have b1 : ctV c 1000 p = _ := congrArg Prod.fst a1
    have b2 : ctP c 1000 p = _ := congrArg Prod.snd a1
    have b3 := congrArg Prod.fst a2
    simp only at b3 ⊢
    rw [b1, b2]; exact b3)
  have c1 := RD.then (h := fun c p => ((⟨UInt32.ofNat (nmV c 4 p), none, (insS c (ctV c 1000 (tkP c 4 p)) (cntE (ctV c 1000 (tkP c 4 p)) (ctP c 1000 (tkP c 4 p)))).1, 0, none, (outsS c (ctV c 1000 (insS c (ctV c 1000 (tkP c 4 p)) (cntE (ctV c 1000 (tkP c 4 p)) (ctP c 1000 (tkP c 4 p)))).2) (ctP c 1000 (insS c (ctV c 1000 (tkP c 4 p)) (cntE (ctV c 1000 (tkP c 4 p)) (ctP c 1000 (tkP c 4 p)))).2)).1, 0, UInt32.ofNat (nmV c 4 (outsS c (ctV c 1000 (insS c (ctV c 1000 (tkP c 4 p)) (cntE (ctV c 1000 (tkP c 4 p)) (ctP c 1000 (tkP c 4 p)))).2) (ctP c 1000 (insS c (ctV c 1000 (tkP c 4 p)) (cntE (ctV c 1000 (tkP c 4 p)) (ctP c 1000 (tkP c 4 p)))).2)).2)⟩ : TxR), tkP c 4 (outsS c (ctV c 1000 (insS c (ctV c 1000 (tkP c 4 p)) (cntE (ctV c 1000 (tkP c 4 p)) (ctP c 1000 (tkP c 4 p)))).2) (ctP c 1000 (insS c (ctV c 1000 (tkP c 4 p)) (cntE (ctV c 1000 (tkP c 4 p)) (ctP c 1000 (tkP c 4 p)))).2)).2)) (z := t.pl) (g := fun _ c p => (((insS c (ctV c 1000 p) (cntE (ctV c 1000 p) (ctP c 1000 p))).1, (outsS c (ctV c 1000 (insS c (ctV c 1000 p) (cntE (ctV c 1000 p) (ctP c 1000 p))).2) (ctP c 1000 (insS c (ctV c 1000 p) (cntE (ctV c 1000 p) (ctP c 1000 p))).2)).1, UInt32.ofNat (nmV c 4 (outsS c (ctV c 1000 (insS c (ctV c 1000 p) (cntE (ctV c 1000 p) (ctP c 1000 p))).2) (ctP c 1000 (insS c (ctV c 1000 p) (cntE (ctV c 1000 p) (ctP c 1000 p))).2)).2)), tkP c 4 (outsS c (ctV c 1000 (insS c (ctV c 1000 p) (cntE (ctV c 1000 p) (ctP c 1000 p))).2) (ctP c 1000 (insS c (ctV c 1000 p) (cntE (ctV c 1000 p) (ctP c 1000 p))).2)).2)) r0 c2 (fun c p a h => by simp only; rw [ctP_err h, cntE_err h, insS_err1 h, ctP_err h, outsS_err1 h, tkP_err h]) (fun c p => rfl) (fun c p a1 a2 => by
    have b1 : UInt32.ofNat (nmV c 4 p) = _ := congrArg Prod.fst a1
    have b2 : tkP c 4 p = _ := congrArg Prod.snd a1
    have b3 := congrArg Prod.fst a2
    simp only at b3 ⊢
    injection b3 with b3 b4
    injection b4 with b4 b5
    rw [b1, b2, b3, b4, b5]; rfl)
  have el : (txL t).length = 0 + 4 + sizN t.ins.length + (t.ins.flatMap inL).length + sizN t.outs.length + (t.outs.flatMap outL).length + 4 := by
    rw [e0]; simp only [List.length_append, lo_len, cpt_len]; omega
  rw [el]
  exact ⟨c1.1, fun j hk hj => c1.2 j hk hj⟩
end Go.Proofs.YtffpanlpbdnafaaDoor

/- What is put is got again, and not from less: parts and messages. -/
set_option linter.unusedSimpArgs false
set_option linter.unusedVariables false
namespace Go.Proofs.YtffpanlpbdnafaaDoor
open Go.RowKit
theorem hshs_cons (b : List UInt8) (a n : Nat) : hshs b a (n + 1) = (b.drop a).take 32 :: hshs b (a + 32) n := by
  unfold hshs
  rw [List.range_succ_eq_map, List.map_cons, List.map_map]
  congr 1
  simp
  intro i _
  rw [show a + (i + 1) * 32 = a + 32 + i * 32 by omega]
theorem hshs_put {b : List UInt8} : ∀ (l : List (List UInt8)) {a : Nat} {r : List UInt8}, b.drop a = l.flatten ++ r → (∀ s ∈ l, s.length = 32) → hshs b a l.length = l
  | [], a, r, _, _ => rfl
  | s :: l, a, r, h, hl => by
    rw [List.flatten_cons, List.append_assoc] at h
    have hs := hl s (by simp)
    have h2 := drop_more h
    rw [hs] at h2
    rw [List.length_cons, hshs_cons, hshs_put l h2 fun x hx => hl x (by simp [hx]), h, List.take_left' hs]
theorem itms_cons (b : List UInt8) (a n : Nat) : itms b a (n + 1) = itmOf b a :: itms b (a + 36) n := by
  unfold itms
  rw [List.range_succ_eq_map, List.map_cons, List.map_map]
  congr 1
  simp
  intro i _
  rw [show a + (i + 1) * 36 = a + 36 + i * 36 by omega]
theorem itm_put {b r : List UInt8} {x : Itm} {a : Nat} (h : b.drop a = itL x ++ r) (hx : x.ok) : itmOf b a = x := by
  unfold itL at h
  rw [List.append_assoc] at h
  have h2 := drop_more h
  rw [lo_len] at h2
  unfold itmOf
  rw [h, h2, numN_lo _ _ 4 4 (Nat.le_refl _), List.take_left' hx, Nat.mod_eq_of_lt (by have := x.ty.toNat_lt; omega)]
  congr 1
  exact UInt32.toNat_inj.1 (by rw [UInt32.toNat_ofNat', Nat.mod_eq_of_lt (by have := x.ty.toNat_lt; omega)])
theorem itms_put {b : List UInt8} : ∀ (l : List Itm) {a : Nat} {r : List UInt8}, b.drop a = l.flatMap itL ++ r → (∀ s ∈ l, s.ok) → itms b a l.length = l
  | [], a, r, _, _ => rfl
  | x :: l, a, r, h, hl => by
    rw [List.flatMap_cons, List.append_assoc] at h
    have hx := hl x (by simp)
    have h2 := drop_more h
    rw [show (itL x).length = 36 by unfold itL; rw [List.length_append, lo_len]; rw [show x.h.length = 32 from hx]] at h2
    rw [List.length_cons, itms_cons, itms_put l h2 fun y hy => hl y (by simp [hy]), itm_put h hx]
theorem hpa_cons (h : Hd) (l : List Hd) : hpa (h :: l) = hputL h ++ (0 :: hpa l) := by unfold hpa; rw [List.flatMap_cons, List.append_assoc]; rfl
theorem hpa_nil : hpa [] = [] := rfl
theorem hgal_put {b : List UInt8} : ∀ (l : List Hd) {a : Nat} {r : List UInt8}, a ≤ b.length → b.drop a = hpa l ++ r → (∀ s ∈ l, s.ok) → hgal b l.length a = if r = [] then (l, 0) else ([], 2)
  | [], a, r, ha, h, _ => by
    rw [hpa_nil, List.nil_append] at h
    have hl : b.length - a = r.length := by rw [← h, List.length_drop]
    rw [List.length_nil]
    unfold hgal
    by_cases q : r = []
    · rw [if_pos q, if_pos (by rw [q] at hl; simp at hl; omega)]
    · rw [if_neg q, if_neg (by have := List.length_pos_iff.2 q; omega)]
  | x :: l, a, r, ha, h, hl => by
    rw [hpa_cons, List.append_assoc, List.cons_append] at h
    have hx := hl x (by simp)
    have h2 := drop_more h
    rw [hputL_len hx] at h2
    have hl2 : b.length - a = 80 + (1 + (hpa l ++ r).length) := by
      have := congrArg List.length h
      rw [List.length_drop, List.length_append, hputL_len hx, List.length_cons] at this; omega
    have h3 : b.drop (a + 81) = hpa l ++ r := by
      rw [show a + 81 = (a + 80) + 1 by omega, ← List.drop_drop, h2]; rfl
    have ih := hgal_put l (a := a + 81) (by omega) h3 fun y hy => hl y (by simp [hy])
    have g0 : b.getD (a + 80) 0 = 0 := by
      have : (b.drop (a + 80))[0]? = some 0 := by rw [h2]; rfl
      rw [List.getElem?_drop, Nat.add_zero] at this
      rw [List.getD_eq_getElem?_getD, this]; rfl
    rw [List.length_cons, hgal, if_neg (by omega), if_pos g0, ih, h, List.take_left' (hputL_len hx), hget_put hx]
    by_cases q : r = []
    · rw [if_pos q, if_pos rfl, if_pos q]
    · rw [if_neg q, if_neg (by decide), if_neg q]
theorem hgall_put {l : List Hd} (hl : l.length ≤ 2000) (ho : ∀ s ∈ l, s.ok) (r : List UInt8) : hgall (hpall l ++ r) = if r = [] then (l, 0) else ([], 2) := by
  have e : hpall l ++ r = cptL l.length ++ (hpa l ++ r) := by unfold hpall; rw [List.append_assoc]
  unfold hgall
  rw [e, bnd_put hl (by omega), if_pos rfl]
  exact hgal_put l (by simp only [List.length_append, cpt_len]; omega) (List.drop_left' (cpt_len _)) ho
def PV.good : PV → Prop
  | .u32 _ => True
  | .u64 n => n < 2 ^ 64
  | .hsh _ l _ most => l.length ≤ most ∧ most ≤ 4096 ∧ ∀ s ∈ l, s.length = 32
  | .h32 s => s.length = 32
  | .heads _ l _ => l.length ≤ 2000 ∧ ∀ h ∈ l, h.ok
  | .items _ l _ => l.length ≤ 50000 ∧ ∀ x ∈ l, x.ok
  | .head h => h.ok
  | .bytes _ l _ => l.length ≤ 1024
  | .tx t => saneT t = true ∧ (∀ x ∈ t.ins, x.prev.length = 32) ∧ ∀ x ∈ t.outs, x.val < 2 ^ 64
theorem tgetN_of {b : List UInt8} {t : TxR} {n : Nat} (h : tgetS b = (t, (n, 0))) : tgetN b = (t, n, 0) := by
  unfold tgetN; rw [h]; rfl
theorem tak_put (p : PV) (hg : p.good) (r : List UInt8) (hr : p.tag = 4 → r = []) : p.tak (layL p ++ r) = (p.pl, (layL p).length, 0) := by
  cases p with
  | u32 x =>
    show (PV.u32 (UInt32.ofNat (if (loN x.toNat 4 ++ r).length < 4 then 0 else numN (loN x.toNat 4 ++ r) 4)), 4, if (loN x.toNat 4 ++ r).length < 4 then (1 : Int) else 0) = (PV.u32 x, (loN x.toNat 4).length, 0)
    have hl : ¬ (loN x.toNat 4 ++ r).length < 4 := by rw [List.length_append, lo_len]; omega
    rw [if_neg hl, if_neg hl, numN_lo _ _ 4 4 (Nat.le_refl _), Nat.mod_eq_of_lt (by have := x.toNat_lt; omega), lo_len]
    congr 2
    exact UInt32.toNat_inj.1 (by rw [UInt32.toNat_ofNat', Nat.mod_eq_of_lt (by have := x.toNat_lt; omega)])
  | u64 n =>
    show (PV.u64 (if (loN n 8 ++ r).length < 8 then 0 else numN (loN n 8 ++ r) 8), 8, if (loN n 8 ++ r).length < 8 then (1 : Int) else 0) = (PV.u64 n, (loN n 8).length, 0)
    have hl : ¬ (loN n 8 ++ r).length < 8 := by rw [List.length_append, lo_len]; omega
    rw [if_neg hl, if_neg hl, numN_lo _ _ 8 8 (Nat.le_refl _), Nat.mod_eq_of_lt hg, lo_len]
  | hsh A l c most =>
    obtain ⟨h1, h2, h3⟩ := hg
    have e : layL (.hsh A l c most) ++ r = cptL l.length ++ (l.flatten ++ r) := by show (cptL l.length ++ l.flatten) ++ r = _; rw [List.append_assoc]
    have el : (layL (.hsh A l c most)).length = sizN l.length + l.length * 32 := by
      show (cptL l.length ++ l.flatten).length = _
      rw [List.length_append, cpt_len, flat32_len h3]; omega
    have et : thsN (cptL l.length ++ (l.flatten ++ r)) most = (l, sizN l.length + l.length * 32, 0) := by
      unfold thsN
      rw [bnd_put h1 (by omega), if_pos rfl]
      simp only
      rw [if_neg (by simp only [List.length_append, cpt_len, flat32_len h3]; omega), hshs_put l (List.drop_left' (cpt_len _)) h3]
    rw [el, e]
    show (PV.hsh none (thsN _ most).1 0 most, (thsN _ most).2.1, (thsN _ most).2.2) = (PV.hsh none l 0 most, _, _)
    rw [et]
  | h32 s =>
    have hs : s.length = 32 := hg
    have hl : ¬ (s ++ r).length < 32 := by rw [List.length_append]; omega
    show (PV.h32 ((s ++ r).take 32), (if (s ++ r).length < 32 then 0 else 32), if (s ++ r).length < 32 then (1 : Int) else 0) = (PV.h32 s, s.length, 0)
    rw [if_neg hl, if_neg hl, List.take_left' hs, hs]
  | heads A l c =>
    obtain rfl := hr rfl
    rw [List.append_nil]
    have et := hgall_put hg.1 hg.2 []
    rw [List.append_nil, if_pos rfl] at et
    show (PV.heads none (hgall (hpall l)).1 0, (hpall l).length, (hgall (hpall l)).2) = (PV.heads none l 0, (hpall l).length, 0)
    rw [et]
  | items A l c =>
    obtain ⟨h1, h3⟩ := hg
    have e : layL (.items A l c) ++ r = cptL l.length ++ (l.flatMap itL ++ r) := by show (cptL l.length ++ l.flatMap itL) ++ r = _; rw [List.append_assoc]
    have el : (layL (.items A l c)).length = sizN l.length + l.length * 36 := by
      show (cptL l.length ++ l.flatMap itL).length = _
      rw [List.length_append, cpt_len, itL_len h3]; omega
    have et : titN (cptL l.length ++ (l.flatMap itL ++ r)) = (l, sizN l.length + l.length * 36, 0) := by
      unfold titN
      rw [bnd_put h1 (by omega), if_pos rfl]
      simp only
      rw [if_neg (by simp only [List.length_append, cpt_len, itL_len h3]; omega), itms_put l (List.drop_left' (cpt_len _)) h3]
    rw [el, e]
    show (PV.items none (titN _).1 0, (titN _).2.1, (titN _).2.2) = (PV.items none l 0, _, _)
    rw [et]
  | head h =>
    have hp := hputL_len hg
    have hl : ¬ (hputL h ++ r).length < 80 := by rw [List.length_append]; omega
    show (PV.head (hgetL ((hputL h ++ r).take 80)), 80, if (hputL h ++ r).length < 80 then (1 : Int) else 0) = (PV.head h, (hputL h).length, 0)
    rw [if_neg hl, List.take_left' hp, hget_put hg, hp]
  | bytes A l c =>
    have hl : l.length ≤ 1024 := hg
    have et := byt_put (most := 1024) hl (by omega) r
    show (PV.bytes none (bytN (scL l ++ r) 1024).1 0, (bytN (scL l ++ r) 1024).2.1, (bytN (scL l ++ r) 1024).2.2) = (PV.bytes none l 0, (scL l).length, 0)
    rw [et]
  | tx t =>
    obtain ⟨h1, h2, h3⟩ := hg
    have e : layL (.tx t) = txL t := if_pos h1
    have q := (tget_rd h1 h2 h3 r).2 (txL t ++ r).length (Nat.zero_le _) (Nat.le_refl _)
    have q1 := q.1 (by rw [List.length_append]; omega)
    rw [List.take_length] at q1
    rw [e]
    show (PV.tx (tgetN (txL t ++ r)).1, (tgetN (txL t ++ r)).2.1, (tgetN (txL t ++ r)).2.2) = (PV.tx t.pl, (txL t).length, 0)
    rw [tgetN_of q1]
theorem tak_sim (q p : PV) (b : List UInt8) (h1 : q.tag = p.tag) (h2 : q.mst = p.mst) : q.tak b = p.tak b := by
  cases q <;> cases p <;> first | (exfalso; simp [PV.tag] at h1; done) | rfl | (obtain rfl := h2; rfl)
theorem gets_put : ∀ (ps qs : List PV) (r : List UInt8), qs.map PV.tag = ps.map PV.tag → qs.map PV.mst = ps.map PV.mst → (∀ p ∈ ps, p.good) → (∀ p ∈ ps, p.tag ≠ 4) → getsN qs (ps.flatMap layL ++ r) = (ps.map PV.pl, r, 0)
  | [], [], r, _, _, _, _ => rfl
  | [], _ :: _, _, h, _, _, _ => by cases h
  | _ :: _, [], _, h, _, _, _ => by cases h
  | p :: ps, q :: qs, r, h1, h2, hg, hn => by
    rw [List.map_cons, List.map_cons] at h1 h2
    injection h1 with h1 h1'
    injection h2 with h2 h2'
    have e : (p :: ps).flatMap layL ++ r = layL p ++ (ps.flatMap layL ++ r) := by rw [List.flatMap_cons, List.append_assoc]
    have t := tak_put p (hg p (by simp)) (ps.flatMap layL ++ r) (fun e => absurd e (hn p (by simp)))
    have s := tak_sim q p (layL p ++ (ps.flatMap layL ++ r)) h1 h2
    rw [t] at s
    rw [e, gets_ok q qs _ (by rw [s]), s]
    simp only
    rw [List.drop_left' rfl, gets_put ps qs r h1' h2' (fun x hx => hg x (by simp [hx])) (fun x hx => hn x (by simp [hx]))]
    rfl
end Go.Proofs.YtffpanlpbdnafaaDoor

/- What is put is got again, and not from less: messages. -/
set_option linter.unusedSimpArgs false
set_option linter.unusedVariables false
namespace Go.Proofs.YtffpanlpbdnafaaDoor
open Go.RowKit
theorem parts_sim (m : MsgR) : (partsM (msgZ m.kind)).map PV.tag = (partsM m).map PV.tag ∧ (partsM (msgZ m.kind)).map PV.mst = (partsM m).map PV.mst := by
  unfold partsM
  rw [show (msgZ m.kind).kind = m.kind from rfl]
  by_cases h : m.kind = 0
  · rw [if_pos h, if_pos h]; exact ⟨rfl, rfl⟩
  rw [if_neg h, if_neg h]; clear h
  by_cases h : m.kind = 2 ∨ m.kind = 3
  · rw [if_pos h, if_pos h]; exact ⟨rfl, rfl⟩
  rw [if_neg h, if_neg h]; clear h
  by_cases h : m.kind = 4
  · rw [if_pos h, if_pos h]; exact ⟨rfl, rfl⟩
  rw [if_neg h, if_neg h]; clear h
  by_cases h : m.kind = 5
  · rw [if_pos h, if_pos h]; exact ⟨rfl, rfl⟩
  rw [if_neg h, if_neg h]; clear h
  by_cases h : m.kind = 6 ∨ m.kind = 7 ∨ m.kind = 8
  · rw [if_pos h, if_pos h]; exact ⟨rfl, rfl⟩
  rw [if_neg h, if_neg h]; clear h
  by_cases h : m.kind = 9
  · rw [if_pos h, if_pos h]; exact ⟨rfl, rfl⟩
  rw [if_neg h, if_neg h]; clear h
  by_cases h : m.kind = 10
  · rw [if_pos h, if_pos h]; exact ⟨rfl, rfl⟩
  rw [if_neg h, if_neg h]; clear h
  exact ⟨rfl, rfl⟩
theorem parts_heads (m : MsgR) : (∀ p ∈ partsM m, p.tag = 4 → (partsM m).length = 1) ∧ (m.kind ≠ 5 → ∀ p ∈ partsM m, p.tag ≠ 4) := by
  unfold partsM
  by_cases h : m.kind = 0
  · rw [if_pos h]; refine ⟨fun p hp e => ?_, fun _ p hp e => ?_⟩ <;> (simp only [List.mem_cons, List.not_mem_nil, or_false] at hp; rcases hp with rfl | rfl | rfl <;> simp [PV.tag] at e)
  rw [if_neg h]; clear h
  by_cases h : m.kind = 2 ∨ m.kind = 3
  · rw [if_pos h]; refine ⟨fun p hp e => ?_, fun _ p hp e => ?_⟩ <;> (simp only [List.mem_cons, List.not_mem_nil, or_false] at hp; rcases hp with rfl <;> simp [PV.tag] at e)
  rw [if_neg h]; clear h
  by_cases h : m.kind = 4
  · rw [if_pos h]; refine ⟨fun p hp e => ?_, fun _ p hp e => ?_⟩ <;> (simp only [List.mem_cons, List.not_mem_nil, or_false] at hp; rcases hp with rfl | rfl | rfl <;> simp [PV.tag] at e)
  rw [if_neg h]; clear h
  by_cases h : m.kind = 5
  · rw [if_pos h]; exact ⟨fun p hp _ => rfl, fun q => absurd h q⟩
  rw [if_neg h]; clear h
  by_cases h : m.kind = 6 ∨ m.kind = 7 ∨ m.kind = 8
  · rw [if_pos h]; refine ⟨fun p hp e => ?_, fun _ p hp e => ?_⟩ <;> (simp only [List.mem_cons, List.not_mem_nil, or_false] at hp; rcases hp with rfl <;> simp [PV.tag] at e)
  rw [if_neg h]; clear h
  by_cases h : m.kind = 9
  · rw [if_pos h]; refine ⟨fun p hp e => ?_, fun _ p hp e => ?_⟩ <;> (simp only [List.mem_cons, List.not_mem_nil, or_false] at hp; rcases hp with rfl | rfl | rfl | rfl <;> simp [PV.tag] at e)
  rw [if_neg h]; clear h
  by_cases h : m.kind = 10
  · rw [if_pos h]; refine ⟨fun p hp e => ?_, fun _ p hp e => ?_⟩ <;> (simp only [List.mem_cons, List.not_mem_nil, or_false] at hp; rcases hp with rfl <;> simp [PV.tag] at e)
  rw [if_neg h]; clear h
  exact ⟨(fun p hp _ => by cases hp), fun _ p hp _ => by cases hp⟩
theorem parts_good {m : MsgR} {w : World} (h : m.at_ w) (hf : fitsB m = true) : ∀ p ∈ partsM m, p.good := by
  unfold fitsB at hf
  rw [decide_eq_true_eq] at hf
  obtain ⟨k0, k1, hl, hh, hi, hs, hb, ht, -⟩ := hf
  intro p hp
  unfold partsM at hp
  have o := h.o
  have f1 : (PV.hsh m.lA m.ls m.lc 101).good := ⟨hl, by omega, o.l⟩
  have f2 : (PV.heads m.hA m.hs m.hc).good := ⟨hh, o.h⟩
  have f3 : (PV.items m.iA m.is m.ic).good := ⟨hi, o.i⟩
  have f4 : (PV.hsh m.sA m.shs m.sc 4096).good := ⟨hs, by omega, o.z⟩
  have f5 : (PV.bytes m.fA m.fs m.fc).good := hb
  have f6 : (PV.u64 m.nonce).good := o.n
  have f7 : (PV.h32 m.stop).good := o.s
  have f8 : (PV.head m.bh).good := o.b
  split at hp
  · simp only [List.mem_cons, List.not_mem_nil, or_false] at hp
    rcases hp with rfl | rfl | rfl <;> first | trivial | assumption
  split at hp
  · simp only [List.mem_cons, List.not_mem_nil, or_false] at hp
    subst hp; exact f6
  split at hp
  · simp only [List.mem_cons, List.not_mem_nil, or_false] at hp
    rcases hp with rfl | rfl | rfl <;> first | trivial | assumption
  split at hp
  · simp only [List.mem_cons, List.not_mem_nil, or_false] at hp
    subst hp; exact f2
  split at hp
  · simp only [List.mem_cons, List.not_mem_nil, or_false] at hp
    subst hp; exact f3
  split at hp
  · simp only [List.mem_cons, List.not_mem_nil, or_false] at hp
    rcases hp with rfl | rfl | rfl | rfl <;> first | trivial | assumption
  split at hp
  · rename_i hk
    simp only [List.mem_cons, List.not_mem_nil, or_false] at hp
    subst hp
    exact ⟨ht hk, fun x hx => (h.t.is x hx).p, fun x hx => (h.t.os x hx).v⟩
  · cases hp
theorem u32_zero {x : UInt32} (h : x.toNat = 0) : x = 0 := UInt32.toNat_inj.1 (by rw [h]; rfl)
theorem nothing_spec {m : MsgR} (h : nothingB m = true) : (m.proto = 0 ∧ m.nonce = 0 ∧ m.height = 0 ∧ m.stop = z32) ∧ (m.hs = [] ∧ m.ls = [] ∧ m.is = []) ∧ (m.bh = zHdr ∧ m.total = 0 ∧ m.shs = [] ∧ m.fs = []) ∧ (m.t.ver = 0 ∧ m.t.ins = [] ∧ m.t.outs = [] ∧ m.t.lock = 0) := by
  unfold nothingB at h
  simp only [Bool.and_eq_true, beq_iff_eq, hdEq_iff] at h
  obtain ⟨⟨⟨⟨⟨⟨a1, a2⟩, a3⟩, a4⟩, ⟨⟨b1, b2⟩, b3⟩⟩, ⟨⟨⟨c1, c2⟩, c3⟩, c4⟩⟩, ⟨⟨⟨d1, d2⟩, d3⟩, d4⟩⟩ := h
  refine ⟨⟨u32_zero (by omega), by omega, u32_zero (by omega), a4⟩, ⟨List.eq_nil_of_length_eq_zero (by omega), List.eq_nil_of_length_eq_zero (by omega), List.eq_nil_of_length_eq_zero (by omega)⟩, ⟨c1, u32_zero (by omega), List.eq_nil_of_length_eq_zero (by omega), List.eq_nil_of_length_eq_zero (by omega)⟩, ⟨u32_zero (by omega), List.eq_nil_of_length_eq_zero (by omega), List.eq_nil_of_length_eq_zero (by omega), u32_zero (by omega)⟩⟩
theorem msgOf_parts {m : MsgR} (hf : fitsB m = true) : msgOf m.kind ((partsM m).map PV.pl) = m.pl := by
  unfold fitsB at hf
  rw [decide_eq_true_eq] at hf
  obtain ⟨k0, k1, -, -, -, -, -, -, hn⟩ := hf
  have hs := nothing_spec hn
  clear hn
  obtain ⟨k, p, n, h, hA, hh, hc, lA, ls, lc, stop, iA, is, ic, bh, total, sA, shs, sc, fA, fs, fc, ⟨tv, tA, ti, tc, oA, tO, oc, tl⟩⟩ := m
  simp only at k0 k1
  obtain rfl | rfl | rfl | rfl | rfl | rfl | rfl | rfl | rfl | rfl | rfl : k = 0 ∨ k = 1 ∨ k = 2 ∨ k = 3 ∨ k = 4 ∨ k = 5 ∨ k = 6 ∨ k = 7 ∨ k = 8 ∨ k = 9 ∨ k = 10 := by omega
  all_goals
    simp only [othersM, if_true, if_false, reduceCtorEq, Int.reduceEq, Int.zero_ne_one, or_false, or_true, false_or, true_or, txZ] at hs
    obtain ⟨⟨a1, a2, a3, a4⟩, ⟨b1, b2, b3⟩, ⟨c1, c2, c3, c4⟩, ⟨d1, d2, d3, d4⟩⟩ := hs
    (try subst a1); (try subst a2); (try subst a3); (try subst a4); (try subst b1); (try subst b2); (try subst b3); (try subst c1); (try subst c2); (try subst c3); (try subst c4); (try subst d1); (try subst d2); (try subst d3); (try subst d4)
    rfl
theorem fits_kind {m : MsgR} (hf : fitsB m = true) : 0 ≤ m.kind ∧ m.kind < 11 := by
  unfold fitsB at hf
  rw [decide_eq_true_eq] at hf
  exact ⟨hf.1, hf.2.1⟩
theorem wget_kind {m : MsgR} (hf : fitsB m = true) (b : List UInt8) : wgetN (nameL m.kind) b =
    if (getsN (partsM (msgZ m.kind)) b).2.2 = 0 then
      if (getsN (partsM (msgZ m.kind)) b).2.1 = [] then (msgOf m.kind (getsN (partsM (msgZ m.kind)) b).1, 0) else (msgZ 0, 2)
    else (msgZ 0, (getsN (partsM (msgZ m.kind)) b).2.2) := by
  have hk := fits_kind hf
  unfold wgetN
  rw [kindN_name, if_pos hk]
  simp only
  rw [show ((m.kind.toNat : Nat) : Int) = m.kind by omega, if_true]
theorem parts5 {m : MsgR} (h : m.kind = 5) : partsM m = [.heads m.hA m.hs m.hc] := by
  unfold partsM; rw [h]; rfl
theorem gets5 {m : MsgR} {w : World} (h : m.at_ w) (hf : fitsB m = true) (h5 : m.kind = 5) (r : List UInt8) : getsN (partsM (msgZ m.kind)) ((partsM m).flatMap layL ++ r) = if r = [] then ((partsM m).map PV.pl, [], 0) else ([], (partsM m).flatMap layL ++ r, 2) := by
  have hg := parts_good h hf (.heads m.hA m.hs m.hc) (by rw [parts5 h5]; simp)
  rw [parts5 h5, parts5 (m := msgZ m.kind) h5]
  have e : ([PV.heads m.hA m.hs m.hc] : List PV).flatMap layL = hpall m.hs := by simp [layL]
  rw [e]
  have t : (PV.heads (msgZ m.kind).hA (msgZ m.kind).hs (msgZ m.kind).hc).tak (hpall m.hs ++ r) = (PV.heads none (hgall (hpall m.hs ++ r)).1 0, (hpall m.hs ++ r).length, (hgall (hpall m.hs ++ r)).2) := rfl
  have q := hgall_put hg.1 hg.2 r
  by_cases hr : r = []
  · subst hr
    rw [if_pos rfl] at q ⊢
    rw [q] at t
    rw [gets_ok _ _ _ (by rw [t]), t]
    simp only
    rw [List.drop_length, gets_nil]
    rfl
  · rw [if_neg hr] at q ⊢
    rw [q] at t
    rw [gets_bad _ _ _ (by rw [t]; exact (show ¬ ((2 : Int) = 0) by decide)), t]
theorem wget_put {m : MsgR} {w : World} (h : m.at_ w) (hf : fitsB m = true) : wgetN (nameL m.kind) (putL m) = (m.pl, 0) := by
  rw [wget_kind hf, put_mk hf rfl]
  have e : getsN (partsM (msgZ m.kind)) ((partsM m).flatMap layL) = ((partsM m).map PV.pl, [], 0) := by
    by_cases h5 : m.kind = 5
    · have q := gets5 h hf h5 []
      rwa [List.append_nil, if_pos rfl] at q
    · have q := gets_put (partsM m) (partsM (msgZ m.kind)) [] (parts_sim m).1 (parts_sim m).2 (parts_good h hf) ((parts_heads m).2 h5)
      rwa [List.append_nil] at q
  rw [e, if_pos rfl, if_pos rfl, msgOf_parts hf]
end Go.Proofs.YtffpanlpbdnafaaDoor

/- The reference's Command, of a name that may be; how long what a few message puts is. -/
set_option linter.unusedSimpArgs false
set_option linter.unusedVariables false
namespace Go.Proofs.YtffpanlpbdnafaaDoor
open Go.RowKit
attribute [local go_sem ↓] Go.wp_at_zero Go.wp_at_succ
theorem few_inL {x : InR} (hp : x.prev.length = 32) (hs : x.sc.length ≤ 300) : (inL x).length ≤ 10100 := inL_le hp (by omega)
theorem layL_few {m : MsgR} {w : World} (h : m.at_ w) (hf : fitsB m = true) (hw : fewM m = true) : ∀ p ∈ partsM m, (layL p).length ≤ 900000 := by
  unfold fewM fewT at hw
  rw [Bool.and_eq_true, decide_eq_true_eq, decide_eq_true_eq] at hw
  obtain ⟨⟨h1, h2, h3, h4, h5⟩, h6, h7, h8, h9⟩ := hw
  intro p hp
  have hpf := parts_fit h hf p hp
  unfold partsM at hp
  have o := h.o
  have f0 : ∀ x : UInt32, (layL (.u32 x)).length ≤ 900000 := fun x => by show (loN x.toNat 4).length ≤ _; rw [lo_len]; omega
  have f1 : (layL (PV.hsh m.lA m.ls m.lc 101)).length ≤ 900000 := by show (cptL m.ls.length ++ m.ls.flatten).length ≤ _; rw [List.length_append, flat32_len o.l, cpt_len]; have := siz_le m.ls.length; omega
  have f2 : (layL (PV.heads m.hA m.hs m.hc)).length ≤ 900000 := by show (hpall m.hs).length ≤ _; unfold hpall; rw [List.length_append, cpt_len, hpa_len m.hs o.h]; have := siz_le m.hs.length; omega
  have f3 : (layL (PV.items m.iA m.is m.ic)).length ≤ 900000 := by show (cptL m.is.length ++ m.is.flatMap itL).length ≤ _; rw [List.length_append, itL_len o.i, cpt_len]; have := siz_le m.is.length; omega
  have f4 : (layL (PV.hsh m.sA m.shs m.sc 4096)).length ≤ 900000 := by show (cptL m.shs.length ++ m.shs.flatten).length ≤ _; rw [List.length_append, flat32_len o.z, cpt_len]; have := siz_le m.shs.length; omega
  have f5 : (layL (PV.bytes m.fA m.fs m.fc)).length ≤ 900000 := by show (cptL m.fs.length ++ m.fs).length ≤ _; rw [List.length_append, cpt_len]; have := siz_le m.fs.length; omega
  have f6 : ∀ n, (layL (PV.u64 n)).length ≤ 900000 := fun n => by show (loN n 8).length ≤ _; rw [lo_len]; omega
  have f7 : (layL (PV.h32 m.stop)).length ≤ 900000 := by show m.stop.length ≤ _; rw [o.s]; omega
  have f8 : (layL (PV.head m.bh)).length ≤ 900000 := by show (hputL m.bh).length ≤ _; rw [hputL_len o.b]; omega
  have f9 : (txL m.t).length ≤ 900000 := by
    have g1 := fm_le inL 10100 m.t.ins fun x hx => few_inL (h.t.is x hx).p (h6 x hx)
    have g2 := fm_le outL 10100 m.t.outs fun x hx => outL_le (by have := h7 x hx; omega)
    have g3 := siz_le m.t.ins.length; have g4 := siz_le m.t.outs.length
    have g5 : m.t.ins.length * 10100 ≤ 20 * 10100 := Nat.mul_le_mul_right _ h8
    have g6 : m.t.outs.length * 10100 ≤ 20 * 10100 := Nat.mul_le_mul_right _ h9
    unfold txL
    simp only [List.length_append, lo_len, cpt_len]
    omega
  split at hp
  · simp only [List.mem_cons, List.not_mem_nil, or_false] at hp
    rcases hp with rfl | rfl | rfl <;> first | exact f0 _ | exact f6 _
  split at hp
  · simp only [List.mem_cons, List.not_mem_nil, or_false] at hp
    subst hp; exact f6 _
  split at hp
  · simp only [List.mem_cons, List.not_mem_nil, or_false] at hp
    rcases hp with rfl | rfl | rfl <;> first | exact f0 _ | assumption
  split at hp
  · simp only [List.mem_cons, List.not_mem_nil, or_false] at hp
    subst hp; exact f2
  split at hp
  · simp only [List.mem_cons, List.not_mem_nil, or_false] at hp
    subst hp; exact f3
  split at hp
  · simp only [List.mem_cons, List.not_mem_nil, or_false] at hp
    rcases hp with rfl | rfl | rfl | rfl <;> first | exact f0 _ | assumption
  split at hp
  · simp only [List.mem_cons, List.not_mem_nil, or_false] at hp
    subst hp
    show (if saneT m.t = true then txL m.t else []).length ≤ _
    by_cases hs : saneT m.t = true
    · rw [if_pos hs]; exact f9
    · rw [if_neg hs]; exact Nat.zero_le _
  · cases hp
theorem put_few {m : MsgR} {w : World} (h : m.at_ w) (hw : fewM m = true) : (putL m).length ≤ 4000000 := by
  by_cases hf : fitsB m = true
  · rw [put_mk hf rfl]
    have h1 := fm_le layL 900000 (partsM m) (layL_few h hf hw)
    have h2 := parts_len m
    have h3 : (partsM m).length * 900000 ≤ 4 * 900000 := Nat.mul_le_mul_right _ h2
    omega
  · unfold putL; rw [if_neg hf]; exact Nat.zero_le _
set_option maxRecDepth 100000 in
set_option maxHeartbeats 4000000 in
theorem rcmd_yes (l : List UInt8) (hl : cmdB l = true) (w : World) :
    Calls Tryd.prog 22 #[.string (str l)] w fun e w' => e = .returned (.bool true) ∧ Keep w w' := by
  have HK : Hid (Keep w w) := Lib.hid (Below.refl _ _)
  simp only [cmdB, Bool.and_eq_true, decide_eq_true_eq, List.all_eq_true] at hl
  obtain ⟨⟨h1, h2⟩, h3⟩ := hl
  obtain ⟨N, hN⟩ : ∃ N, N = (str l).size := ⟨_, rfl⟩
  have hNl : N = l.length := by rw [hN, str_size]
  have d0 : 1 ≤ N := by omega
  have d1 : N ≤ 12 := by omega
  have HN := Lib.hid hN
  have ROW : Hid (∀ k, k < N → ∃ x : UInt8, (¬ x.toNat < 33 ∧ ¬ 126 < x.toNat) ∧ ∀ y, (Instr.index 9 (.string (str l)) (.int .i64 (k : Int))).run Tryd.prog y = .ok (u8v x) y) := Lib.hid fun k hk => by
    have hk2 : k < l.length := by omega
    have q := h3 l[k] (List.getElem_mem hk2)
    exact ⟨l[k], ⟨by omega, by omega⟩, str_idx l k _ (List.getElem?_eq_getElem hk2)⟩
  clear h1 h2 h3 hNl hN
  go_enter Tryd.func22, Tryd.ntmps22
  go_wp2_with fail
  go_loopw [3] (fun i wr => ∃ k : Nat, k ≤ N ∧ i = .int .i64 k ∧ Hid (Keep w wr)) (fun i _ => N - (intOf i).toNat)
  case atStart => exact ⟨0, Nat.zero_le _, rfl, HK⟩
  case round =>
    obtain ⟨k, hk, rfl, HKr⟩ := hrel
    clear HK
    by_cases hlt : k < N
    · obtain ⟨x, ⟨g3, g4⟩, hi⟩ := ROW.out k hlt
      have g1 : ¬ (x.toNat : Int) < 33 := by omega
      have g2 : ¬ (126 : Int) < x.toNat := by omega
      have l1 : (k : Int) < (str l).size := by rw [← HN.out]; omega
      have l2 : k < (str l).size := by rw [← HN.out]; exact hlt
      clear ROW
      go_wp2
      go_roundw
      case rel => exact ⟨k + 1, by omega, by go_num, HKr⟩
      case measure => simp [intOf]; omega
    · have l1 : ¬ (k : Int) < (str l).size := by rw [← HN.out]; omega
      have l2 : ¬ k < (str l).size := by rw [← HN.out]; exact hlt
      have e1 : (1 : Int) ≤ (str l).size := by rw [← HN.out]; omega
      have e2 : ((str l).size : Int) ≤ 12 := by rw [← HN.out]; omega
      have e3 : 1 ≤ (str l).size := by rw [← HN.out]; omega
      have e4 : (str l).size ≤ 12 := by rw [← HN.out]; omega
      clear ROW
      go_wp2
      exact bodyPost_ret (v := .bool true) (by simp [results, Tryd.results22]) rfl ⟨rfl, HKr.out⟩
end Go.Proofs.YtffpanlpbdnafaaDoor

/- Same: of what is the same. (printed by gen_pg.py) -/
set_option linter.unusedSimpArgs false
set_option linter.unusedVariables false
namespace Go.Proofs.YtffpanlpbdnafaaDoor
open Go.RowKit
attribute [local go_sem ↓] Go.wp_at_zero Go.wp_at_succ
theorem hash_neqS {l : List UInt8} {cs ds : Array Value} (h : HashA l cs) (g : HashA l ds) (hl : l.length = 32) (w : World) :
    (Go.binOp .neq 39 (.agg cs) (.agg ds)).run Tryd.prog w = .ok (.bool false) w := by
  rw [run_neq_struct, show (10000 : Nat) = 9998 + 2 from rfl, hash_eqIn 9998 h g hl hl, beq_self_eq_true]
  rfl
theorem hash_inS {l : List UInt8} {cs ds : Array Value} (h : HashA l cs) (g : HashA l ds) (hl : l.length = 32) (w : World) :
    (Op.equalIn 10000 39 (.agg cs) (.agg ds)).run Tryd.prog w = .ok true w := by
  rw [show (10000 : Nat) = 9998 + 2 from rfl, hash_eqIn 9998 h g hl hl, beq_self_eq_true]
theorem hdEq_self (x : Hd) : hdEq x x = true := (hdEq_iff x x).2 rfl
theorem hd_neqS {x : Hd} {cs ds : Array Value} (h : HdA x cs) (g : HdA x ds) (hl : x.ok) (w : World) :
    (Go.binOp .neq 42 (.agg cs) (.agg ds)).run Tryd.prog w = .ok (.bool false) w := by
  rw [hd_neq h g hl hl, hdEq_self]; rfl
theorem hd_inS {x : Hd} {cs ds : Array Value} (h : HdA x cs) (g : HdA x ds) (hl : x.ok) (w : World) :
    (Op.equalIn 10000 42 (.agg cs) (.agg ds)).run Tryd.prog w = .ok true w := by
  rw [show (10000 : Nat) = 9997 + 3 from rfl, hd_eqIn 9997 h g hl hl, hdEq_self]
theorem hd_eqlS {x : Hd} {cs ds : Array Value} (h : HdA x cs) (g : HdA x ds) (hl : x.ok) (w : World) :
    (Go.binOp .eql 42 (.agg cs) (.agg ds)).run Tryd.prog w = .ok (.bool true) w := by
  rw [hd_eql h g hl hl, hdEq_self]
theorem ritem_fields : ((Tryd.prog.fieldsOf 97).toList.map fun f => (f.name != "_", f.type, f.offset)) = [(true, 22, 0), (true, 39, 1)] := by kernel_rfl
theorem ritem_struct : Tryd.prog.underlying 97 = some (.struct (Tryd.prog.fieldsOf 97)) := by kernel_rfl
theorem ritem_stood : Tryd.prog.stoodInHeld 97 = false := by kernel_rfl
theorem ritem_guard : Tryd.prog.eqGuardType Tryd.prog.depth 97 = false := by kernel_rfl
theorem ritem_info : (Tryd.prog.info? 97).map (·.size) = some 33 := by kernel_rfl
structure ItB (x : Itm) (cs : Array Value) : Prop where
  l : cs.toList = x.cells
  z : cs.size = 33
  i : (Tryd.prog.info? 97).map (·.size) = some cs.size
  n : ¬ cs = #[]
  o : ∀ v ∈ cs.toList, v.oneCell' = true
theorem ItB.of {x : Itm} (h : x.ok) : ItB x x.cells.toArray := by
  have hz : x.cells.toArray.size = 33 := by simpa using Itm.len h
  exact ⟨rfl, hz, by rw [hz]; exact ritem_info, fun e => by rw [e] at hz; simp at hz, by simpa using x.one⟩
theorem ritem_inS {x : Itm} {cs ds : Array Value} (hc : ItB x cs) (hd : ItB x ds) (hk : x.ok) (w : World) :
    (Op.equalIn 10000 97 (.agg cs) (.agg ds)).run Tryd.prog w = .ok true w := by
  have gc : ∀ k, cs[k]? = x.cells[k]? := fun k => by rw [← hc.l, Array.getElem?_toList]
  have gd : ∀ k, ds[k]? = x.cells[k]? := fun k => by rw [← hd.l, Array.getElem?_toList]
  have p1 : HashA x.h (cs.extract 1 33) := part_of hc.l 1 hk (by unfold Itm.cells; rw [List.drop_succ_cons, List.drop_zero, List.take_of_length_le (by rw [List.length_map]; rw [show x.h.length = 32 from hk]; omega)])
  have p2 : HashA x.h (ds.extract 1 33) := part_of hd.l 1 hk (by unfold Itm.cells; rw [List.drop_succ_cons, List.drop_zero, List.take_of_length_le (by rw [List.length_map]; rw [show x.h.length = 32 from hk]; omega)])
  rw [show (10000 : Nat) = 9999 + 1 from rfl, run_equalIn_agg w 9999 _ _ _ ritem_struct ritem_stood, eqF_of Tryd.prog, ritem_fields]
  have q := eqF_step (P := Tryd.prog) (d := 9999) (fs := [(true, 39, 1)]) (part_u32 ((gc 0).trans rfl) w) (part_u32 ((gd 0).trans rfl) w) (eq_u32 9998 x.ty x.ty w) (eqF_step (fs := []) (s := true) (part_hash _ _ w) (part_hash _ _ w) (hash_eqIn 9997 p1 p2 hk hk w) rfl)
  rw [beq_self_eq_true, beq_self_eq_true] at q
  exact q
theorem ritem_neqS {x : Itm} {cs ds : Array Value} (hc : ItB x cs) (hd : ItB x ds) (hk : x.ok) (w : World) :
    (Go.binOp .neq 97 (.agg cs) (.agg ds)).run Tryd.prog w = .ok (.bool false) w := by
  rw [run_neq_struct, ritem_inS hc hd hk]
  rfl
set_option maxRecDepth 100000 in
set_option maxHeartbeats 2000000 in
theorem same03 (A : Option Addr) (l : List (List UInt8)) (c : Nat) (B : Option Addr) (d : Nat) (w : World) (ha : Rd w A (hsL l)) (hb : Rd w B (hsL l)) (ho : ∀ x ∈ l, x.length = 32) (hl : l.length ≤ 1000000) :
    Calls Tryd.prog 47 #[.slice A l.length c, .slice B l.length d] w fun e w' => e = .returned (.bool true) ∧ Keep w w' := by
  have hn1 : ((l.length : Int) != (l.length : Int)) = false := by simp
  go_enter Tryd.func47, Tryd.ntmps47
  go_wp2_with fail
  go_loopw [5] (fun i wr => ∃ k : Nat, k ≤ l.length ∧ i = .int .i64 k ∧ Keep w wr) (fun i _ => l.length - (intOf i).toNat)
  case atStart => exact ⟨0, Nat.zero_le _, rfl, Below.refl _ _⟩
  case round =>
    obtain ⟨k, hk, rfl, hkr⟩ := hrel
    by_cases hlt : k < l.length
    · obtain ⟨b, off, rfl, hbb, G1⟩ := hash_at ha ho hlt
      obtain ⟨b', off', rfl, hbb', G2⟩ := hash_at hb ho hlt
      have hx := ho _ (List.getElem_mem hlt)
      generalize l[k] = x at G1 G2 hx
      obtain ⟨xv, hxv⟩ : ∃ xv, HashA x xv := ⟨_, HashA.of hx⟩
      have xz := hxv.z; have xn := hxv.n; have xi := hxv.i
      have Hx0 : Hid (wr.rangeAt b (off + k * 32) xv.toList) := by rw [hxv.l]; exact Lib.hid fun j v hv => keep_cell hkr (G1 j v hv)
      have Hy0 : Hid (wr.rangeAt b' (off' + k * 32) xv.toList) := by rw [hxv.l]; exact Lib.hid fun j v hv => keep_cell hkr (G2 j v hv)
      have he : ∀ w, (Go.binOp .neq 39 (.agg xv) (.agg xv)).run Tryd.prog w = .ok (.bool false) w := fun w => hash_neqS hxv hxv hx w
      have hi : ∀ w, (Op.equalIn 10000 39 (.agg xv) (.agg xv)).run Tryd.prog w = .ok true w := fun w => hash_inS hxv hxv hx w
      have hgd := hash_guard
      clear G1 G2 hxv hx
      go_upto_region 6 with fail
      refine wp_region_tree (.take [0,1,2,3,4,5,6,7,8] .done) [] (by kernel_rfl) (by kernel_rfl) (fun w3 k3 => ?_)
      have HK3 := Lib.hid (keep_trans hkr k3)
      have Hx : Hid (w3.rangeAt b (off + k * 32) xv.toList) := Lib.hid fun j v hv => keep_cell k3 (Hx0.out j v hv)
      have Hy : Hid (w3.rangeAt b' (off' + k * 32) xv.toList) := Lib.hid fun j v hv => keep_cell k3 (Hy0.out j v hv)
      clear k3 Hx0 Hy0 hkr
      refine mt_take w3 (Below.refl _ _) ?_
      simp only [pick_cons, pick_nil, nth_zero, nth_succ]
      repeat (first
        | ((with_reducible refine wpQuiet_load_partg b (off + k * 32) xv (Eq.trans ?_ rfl) Hx.out _ hash_under rfl xi (Eq.trans ?_ rfl) ?_); rfl; rfl; simp only [Act.put, Array.set!_eq_setIfInBounds, List.setIfInBounds_toArray, List.set_cons_succ, List.set_cons_zero])
        | ((with_reducible refine wpQuiet_load_partg b' (off' + k * 32) xv (Eq.trans ?_ rfl) Hy.out _ hash_under rfl xi (Eq.trans ?_ rfl) ?_); rfl; rfl; simp only [Act.put, Array.set!_eq_setIfInBounds, List.setIfInBounds_toArray, List.set_cons_succ, List.set_cons_zero])
        | go_big_quiet_step (fail))
      refine wpQuiet_nil (mt_end ?_)
      clear he hi
      go_wp2
      go_roundw
      case rel => exact ⟨k + 1, by omega, by go_num, HK3.out⟩
      case measure => simp [intOf]; omega
    · obtain rfl : k = l.length := by omega
      have d4 : ¬ (l.length : Int) < l.length := by omega
      go_wp2
      exact bodyPost_ret (v := .bool true) (by simp [results, Tryd.results47]) rfl ⟨rfl, hkr⟩
set_option maxRecDepth 100000 in
set_option maxHeartbeats 2000000 in
theorem same07 (A : Option Addr) (l : List (Hd)) (c : Nat) (B : Option Addr) (d : Nat) (w : World) (ha : Rd w A (l.flatMap Hd.cells)) (hb : Rd w B (l.flatMap Hd.cells)) (ho : ∀ x ∈ l, x.ok) (hl : l.length ≤ 1000000) :
    Calls Tryd.prog 46 #[.slice A l.length c, .slice B l.length d] w fun e w' => e = .returned (.bool true) ∧ Keep w w' := by
  have hn1 : ((l.length : Int) != (l.length : Int)) = false := by simp
  go_enter Tryd.func46, Tryd.ntmps46
  go_wp2_with fail
  go_loopw [5] (fun i wr => ∃ k : Nat, k ≤ l.length ∧ i = .int .i64 k ∧ Keep w wr) (fun i _ => l.length - (intOf i).toNat)
  case atStart => exact ⟨0, Nat.zero_le _, rfl, Below.refl _ _⟩
  case round =>
    obtain ⟨k, hk, rfl, hkr⟩ := hrel
    by_cases hlt : k < l.length
    · obtain ⟨b, off, rfl, hbb, G1⟩ := heads_at ha ho hlt
      obtain ⟨b', off', rfl, hbb', G2⟩ := heads_at hb ho hlt
      have hx := ho _ (List.getElem_mem hlt)
      generalize l[k] = x at G1 G2 hx
      obtain ⟨xv, hxv⟩ : ∃ xv, HdA x xv := ⟨_, HdA.of hx⟩
      have xz := hxv.z; have xn := hxv.n; have xi := hxv.i
      have Hx0 : Hid (wr.rangeAt b (off + k * 68) xv.toList) := by rw [hxv.l]; exact Lib.hid fun j v hv => keep_cell hkr (G1 j v hv)
      have Hy0 : Hid (wr.rangeAt b' (off' + k * 68) xv.toList) := by rw [hxv.l]; exact Lib.hid fun j v hv => keep_cell hkr (G2 j v hv)
      have he : ∀ w, (Go.binOp .neq 42 (.agg xv) (.agg xv)).run Tryd.prog w = .ok (.bool false) w := fun w => hd_neqS hxv hxv hx w
      have hi : ∀ w, (Op.equalIn 10000 42 (.agg xv) (.agg xv)).run Tryd.prog w = .ok true w := fun w => hd_inS hxv hxv hx w
      have hgd := hd_guard
      clear G1 G2 hxv hx
      go_upto_region 6 with fail
      refine wp_region_tree (.take [0,1,2,3,4,5,6,7,8] .done) [] (by kernel_rfl) (by kernel_rfl) (fun w3 k3 => ?_)
      have HK3 := Lib.hid (keep_trans hkr k3)
      have Hx : Hid (w3.rangeAt b (off + k * 68) xv.toList) := Lib.hid fun j v hv => keep_cell k3 (Hx0.out j v hv)
      have Hy : Hid (w3.rangeAt b' (off' + k * 68) xv.toList) := Lib.hid fun j v hv => keep_cell k3 (Hy0.out j v hv)
      clear k3 Hx0 Hy0 hkr
      refine mt_take w3 (Below.refl _ _) ?_
      simp only [pick_cons, pick_nil, nth_zero, nth_succ]
      repeat (first
        | ((with_reducible refine wpQuiet_load_partg b (off + k * 68) xv (Eq.trans ?_ rfl) Hx.out _ Tryd.underlying42 rfl xi (Eq.trans ?_ rfl) ?_); rfl; rfl; simp only [Act.put, Array.set!_eq_setIfInBounds, List.setIfInBounds_toArray, List.set_cons_succ, List.set_cons_zero])
        | ((with_reducible refine wpQuiet_load_partg b' (off' + k * 68) xv (Eq.trans ?_ rfl) Hy.out _ Tryd.underlying42 rfl xi (Eq.trans ?_ rfl) ?_); rfl; rfl; simp only [Act.put, Array.set!_eq_setIfInBounds, List.setIfInBounds_toArray, List.set_cons_succ, List.set_cons_zero])
        | go_big_quiet_step (fail))
      refine wpQuiet_nil (mt_end ?_)
      clear he hi
      go_wp2
      go_roundw
      case rel => exact ⟨k + 1, by omega, by go_num, HK3.out⟩
      case measure => simp [intOf]; omega
    · obtain rfl : k = l.length := by omega
      have d4 : ¬ (l.length : Int) < l.length := by omega
      go_wp2
      exact bodyPost_ret (v := .bool true) (by simp [results, Tryd.results46]) rfl ⟨rfl, hkr⟩
end Go.Proofs.YtffpanlpbdnafaaDoor

/- Same: of transactions and messages that are the same. (printed by gen_ph.py) -/
set_option linter.unusedSimpArgs false
set_option linter.unusedVariables false
namespace Go.Proofs.YtffpanlpbdnafaaDoor
open Go.RowKit
attribute [local go_sem ↓] Go.wp_at_zero Go.wp_at_succ
theorem map_get {α β : Type} {f : α → β} {l r : List α} (h : l.map f = r.map f) {k : Nat} {x y : α} (hx : l[k]? = some x) (hy : r[k]? = some y) : f x = f y := by
  have q := congrArg (fun z : List β => z[k]?) h
  simp only [List.getElem?_map, hx, hy, Option.map_some] at q
  exact Option.some.inj q
set_option maxRecDepth 100000 in
set_option maxHeartbeats 8000000 in
theorem same08 (t s : TxR) (w : World) (ht : t.at w) (hs : s.at w) (hp : t.pl = s.pl) (hi : t.ins.length ≤ 1000000) (ho : t.outs.length ≤ 1000000) :
    Calls Tryd.prog 48 #[.agg #[u32v t.ver, .slice t.iA t.ins.length t.ic, .slice t.oA t.outs.length t.oc, u32v t.lock], .agg #[u32v s.ver, .slice s.iA s.ins.length s.ic, .slice s.oA s.outs.length s.oc, u32v s.lock]] w fun e w' => e = .returned (.bool true) ∧ Keep w w' := by
  have e1 : t.ver = s.ver := (congrArg TxR.ver hp : t.pl.ver = s.pl.ver)
  have e2 : t.lock = s.lock := (congrArg TxR.lock hp : t.pl.lock = s.pl.lock)
  have e3 : t.ins.map InR.pl = s.ins.map InR.pl := congrArg TxR.ins hp
  have e4 : t.outs.map OutR.pl = s.outs.map OutR.pl := congrArg TxR.outs hp
  have l3 : s.ins.length = t.ins.length := by have := congrArg List.length e3; simpa using this.symm
  have l4 : s.outs.length = t.outs.length := by have := congrArg List.length e4; simpa using this.symm
  have HI : Hid (∀ k, k < t.ins.length → ∃ (b off b' off' : Nat) (x y : InR) (xs ys : Array Value), t.iA = some ⟨b, off, none⟩ ∧ s.iA = some ⟨b', off', none⟩ ∧ InB x xs ∧ InB y ys ∧ w.rangeAt b (off + k * 35) xs.toList ∧ w.rangeAt b' (off' + k * 35) ys.toList ∧ x.at w ∧ y.at w ∧ x.prev = y.prev ∧ x.ix = y.ix ∧ x.sc = y.sc ∧ x.seq = y.seq) := Lib.hid fun k hk => by
    have hk2 : k < s.ins.length := by omega
    obtain ⟨b, off, h1, -, h2⟩ := in_at ht.i (fun x hx => (ht.is x hx).p) hk
    obtain ⟨b', off', h1', -, h2'⟩ := in_at hs.i (fun x hx => (hs.is x hx).p) hk2
    have a1 := ht.is _ (List.getElem_mem hk); have a2 := hs.is _ (List.getElem_mem hk2)
    have q := map_get e3 (List.getElem?_eq_getElem hk) (List.getElem?_eq_getElem hk2)
    exact ⟨b, off, b', off', _, _, _, _, h1, h1', InB.of a1.p, InB.of a2.p, by rw [(InB.of a1.p).l]; exact h2, by rw [(InB.of a2.p).l]; exact h2', a1, a2, (congrArg InR.prev q : (t.ins[k]).pl.prev = (s.ins[k]).pl.prev), (congrArg InR.ix q : (t.ins[k]).pl.ix = (s.ins[k]).pl.ix), (congrArg InR.sc q : (t.ins[k]).pl.sc = (s.ins[k]).pl.sc), (congrArg InR.seq q : (t.ins[k]).pl.seq = (s.ins[k]).pl.seq)⟩
  have HO : Hid (∀ k, k < t.outs.length → ∃ (b off b' off' : Nat) (x y : OutR), t.oA = some ⟨b, off, none⟩ ∧ s.oA = some ⟨b', off', none⟩ ∧ w.cell? ⟨b, off + k * 2, none⟩ = some (u64v x.val) ∧ w.cell? ⟨b, off + k * 2 + 1, none⟩ = some (.slice x.A x.sc.length x.cap) ∧ w.cell? ⟨b', off' + k * 2, none⟩ = some (u64v x.val) ∧ w.cell? ⟨b', off' + k * 2 + 1, none⟩ = some (.slice y.A x.sc.length y.cap) ∧ Rd w x.A (x.sc.map u8v) ∧ Rd w y.A (x.sc.map u8v)) := Lib.hid fun k hk => by
    have hk2 : k < s.outs.length := by omega
    obtain ⟨b, off, h1, -, h2, h3⟩ := out_at ht.o hk
    obtain ⟨b', off', h1', -, h2', h3'⟩ := out_at hs.o hk2
    have a1 := ht.os _ (List.getElem_mem hk); have a2 := hs.os _ (List.getElem_mem hk2)
    have q := map_get e4 (List.getElem?_eq_getElem hk) (List.getElem?_eq_getElem hk2)
    have q1 : t.outs[k].val = s.outs[k].val := (congrArg OutR.val q : (t.outs[k]).pl.val = (s.outs[k]).pl.val)
    have q2 : t.outs[k].sc = s.outs[k].sc := (congrArg OutR.sc q : (t.outs[k]).pl.sc = (s.outs[k]).pl.sc)
    refine ⟨b, off, b', off', _, s.outs[k], h1, h1', h2, h3, by rw [q1]; exact h2', by rw [q2]; exact h3', a1.r, by rw [q2]; exact a2.r⟩
  rw [l3, l4, ← e1, ← e2]
  clear e3 e4 e1 e2 l3 l4 hp ht hs
  obtain ⟨ver, iA, ins, ic, oA, outs, oc, lock⟩ := t
  obtain ⟨ver', jA, ins', jc, pA, outs', pc, lock'⟩ := s
  simp only at *
  obtain ⟨n, hn⟩ : ∃ n, ins.length = n := ⟨_, rfl⟩
  obtain ⟨m, hm⟩ : ∃ m, outs.length = m := ⟨_, rfl⟩
  rw [hn] at HI hi ⊢
  rw [hm] at HO ho ⊢
  clear hn hm
  obtain ⟨zs, hz1, hz2, hz3⟩ := zrin_letter
  go_enter Tryd.func48, Tryd.ntmps48
  go_upto_region 1 with fail
  obtain ⟨w1, hw1⟩ : ∃ w1, w1 = (w.alloc (.cells #[u32v ver, .slice iA n ic, .slice oA m oc, u32v lock] 61)).alloc (.cells #[u32v ver, .slice jA n jc, .slice pA m pc, u32v lock] 61) := ⟨_, rfl⟩
  have HX1 : Hid (Blk w1 w.heap.size 61 [u32v ver, .slice iA n ic, .slice oA m oc, u32v lock]) := by rw [hw1]; exact Lib.hid ((Blk.new w 61 [u32v ver, .slice iA n ic, .slice oA m oc, u32v lock]).alloc _)
  have HY1 : Hid (Blk w1 (w.heap.size + 1) 61 [u32v ver, .slice jA n jc, .slice pA m pc, u32v lock]) := by
    rw [hw1]
    have q := Blk.new (w.alloc (.cells #[u32v ver, .slice iA n ic, .slice oA m oc, u32v lock] 61)) 61 [u32v ver, .slice jA n jc, .slice pA m pc, u32v lock]
    rw [World.size_alloc] at q
    exact Lib.hid q
  have HK1 : Hid (Keep w w1) := by rw [hw1]; exact Lib.hid (keep_trans (keep_new _ _) (keep_new _ _))
  rw [← hw1]
  clear hw1
  have x0 := HX1.out.cell 0; have x1 := HX1.out.cell 1; have x2 := HX1.out.cell 2; have x3 := HX1.out.cell 3
  have y0 := HY1.out.cell 0; have y1 := HY1.out.cell 1; have y2 := HY1.out.cell 2; have y3 := HY1.out.cell 3
  simp only [List.getElem?_cons_succ, List.getElem?_cons_zero] at x0 x1 x2 x3 y0 y1 y2 y3
  have X1 := Lib.hid x1; have Y1 := Lib.hid y1; have X2 := Lib.hid x2; have Y2 := Lib.hid y2
  try simp only [List.append_eq, List.cons_append, List.nil_append]
  go_upto_region 3 with fail
  clear x0 x1 x2 x3 y0 y1 y2 y3 HX1 HY1
  go_upto_block 0 with fail
  go_cut [] (fun wx => Hid (Keep w1 wx))
  case first =>
    go_wp2_with fail
    go_loopw [5] (fun i wr => ∃ k : Nat, k ≤ n ∧ i = .int .i64 k ∧ Hid (Keep w1 wr)) (fun i _ => n - (intOf i).toNat)
    case atStart => exact ⟨0, Nat.zero_le _, rfl, Lib.hid (Below.refl _ _)⟩
    case round =>
      obtain ⟨k, hk, rfl, HKr⟩ := hrel
      have x1 := keep_cell HKr.out X1.out; have y1 := keep_cell HKr.out Y1.out
      by_cases hlt : k < n
      · obtain ⟨b, off, b', off', x, y, xs, ys, rfl, rfl, hxs, hys, hr1, hr2, a1, a2, q1, q2, q3, q4⟩ := HI.out k hlt
        have hxz := hxs.z; have hxn := hxs.n; have hxi := hxs.i
        have hyz := hys.z; have hyn := hys.n; have hyi := hys.i
        have kw := keep_trans HK1.out HKr.out
        have RX := Lib.hid (range_keep kw hr1); have RY := Lib.hid (range_keep kw hr2)
        have hst : ∀ yy : World, (storeCells ⟨yy.heap.size, 0, none⟩ xs.toList 0).run Tryd.prog (yy.alloc (.cells zs 119)) = .ok () (yy.alloc (.cells xs 119)) := fun yy => run_storeCells_new (P := Tryd.prog) yy 119 zs xs hxi (hz1.trans hxz.symm) (by have := all_oneCell_toArray hxs.o; rwa [Array.toArray_toList] at this)
        have hst2 : ∀ yy : World, (storeCells ⟨yy.heap.size, 0, none⟩ ys.toList 0).run Tryd.prog (yy.alloc (.cells zs 119)) = .ok () (yy.alloc (.cells ys 119)) := fun yy => run_storeCells_new (P := Tryd.prog) yy 119 zs ys hyi (hz1.trans hyz.symm) (by have := all_oneCell_toArray hys.o; rwa [Array.toArray_toList] at this)
        have d4 : (k : Int) < n := by omega
        have HXS := Lib.hid hxs; have HYS := Lib.hid hys
        have A1 := Lib.hid (a1.keep kw); have A2 := Lib.hid (a2.keep kw)
        have Q1 := Lib.hid q1; have Q2 := Lib.hid q2; have Q3 := Lib.hid q3; have Q4 := Lib.hid q4
        clear hxs hys hr1 hr2 a1 a2 q1 q2 q3 q4 kw HI
        go_upto_region 7 with ((with_reducible refine load_partg b (off + k * 35) xs (Eq.trans ?_ rfl) RX.out _ Tryd.underlying119 rfl hxi rfl ?_); rfl)
        obtain ⟨w2, hw2⟩ : ∃ w2, w2 = wr.alloc (.cells xs 119) := ⟨_, rfl⟩
        have k2 : Keep wr w2 := by rw [hw2]; exact keep_new _ _
        have HG2 : Hid (Blk w2 wr.heap.size 119 xs.toList) := by rw [hw2]; exact Lib.hid (Blk.new wr _ xs.toList)
        rw [← hw2]
        have x1 := keep_cell k2 x1; have y1 := keep_cell k2 y1
        have RY2 := Lib.hid (range_keep k2 RY.out)
        have K2 := Lib.hid k2
        clear hw2 hst k2 RX RY
        go_upto_region 8 with ((with_reducible refine load_partg b' (off' + k * 35) ys (Eq.trans ?_ rfl) RY2.out _ Tryd.underlying119 rfl hyi rfl ?_); rfl)
        obtain ⟨w3, hw3⟩ : ∃ w3, w3 = w2.alloc (.cells ys 119) := ⟨_, rfl⟩
        have k3 : Keep w2 w3 := by rw [hw3]; exact keep_new _ _
        have HG3 : Hid (Blk w3 w2.heap.size 119 ys.toList) := by rw [hw3]; exact Lib.hid (Blk.new w2 _ ys.toList)
        have HF3 := Lib.hid (HG2.out.keep k3)
        have K3 := Lib.hid (keep_trans K2.out k3)
        rw [← hw3]
        clear hw3 hst2 RY2 HG2 K2 k3 x1 y1
        generalize wr.heap.size = gx at *
        generalize w2.heap.size = gy at *
        obtain ⟨ss, hss⟩ : ∃ ss, HashA x.prev ss := ⟨_, HashA.of A1.out.p⟩
        have hsn := hss.n; have hsz := hss.z; have hsi := hss.i
        have ne1 : ∀ w, (Go.binOp .neq 39 (.agg ss) (.agg ss)).run Tryd.prog w = .ok (.bool false) w := fun w => hash_neqS hss hss A1.out.p w
        have ne2 : ∀ w, (Op.equalIn 10000 39 (.agg ss) (.agg ss)).run Tryd.prog w = .ok true w := fun w => hash_inS hss hss A1.out.p w
        have hgd := hash_guard
        have hsl : xs.toList = ss.toList ++ [u32v x.ix, .slice x.A x.sc.length x.cap, u32v x.seq] := by rw [HXS.out.l, hss.l]; rfl
        have hsl2 : ys.toList = ss.toList ++ [u32v x.ix, .slice y.A x.sc.length y.cap, u32v x.seq] := by rw [HYS.out.l, hss.l, Q1.out, Q2.out, Q3.out, Q4.out]; rfl
        have hsll : ss.toList.length = 32 := by rw [Array.length_toList]; exact hsz
        have RS1 : Hid (w3.rangeAt gx 0 ss.toList) := Lib.hid (range_of HF3.out 0 ss.toList (by rw [hsl, List.drop_zero, List.take_left' rfl]))
        have RS2 : Hid (w3.rangeAt gy 0 ss.toList) := Lib.hid (range_of HG3.out 0 ss.toList (by rw [hsl2, List.drop_zero, List.take_left' rfl]))
        have x32 : w3.cell? ⟨gx, 32, none⟩ = some (u32v x.ix) := by rw [HF3.out.cell, hsl, List.getElem?_append_right (by omega), hsll]; rfl
        have x33 : w3.cell? ⟨gx, 33, none⟩ = some (.slice x.A x.sc.length x.cap) := by rw [HF3.out.cell, hsl, List.getElem?_append_right (by omega), hsll]; rfl
        have x34 : w3.cell? ⟨gx, 34, none⟩ = some (u32v x.seq) := by rw [HF3.out.cell, hsl, List.getElem?_append_right (by omega), hsll]; rfl
        have y32 : w3.cell? ⟨gy, 32, none⟩ = some (u32v x.ix) := by rw [HG3.out.cell, hsl2, List.getElem?_append_right (by omega), hsll]; rfl
        have y33 : w3.cell? ⟨gy, 33, none⟩ = some (.slice y.A x.sc.length y.cap) := by rw [HG3.out.cell, hsl2, List.getElem?_append_right (by omega), hsll]; rfl
        have y34 : w3.cell? ⟨gy, 34, none⟩ = some (u32v x.seq) := by rw [HG3.out.cell, hsl2, List.getElem?_append_right (by omega), hsll]; rfl
        have cv1 : (convert 26 9 (.slice x.A x.sc.length x.cap)).run Tryd.prog w3 = .ok (.string (str x.sc)) w3 := run_bytes_str Tryd.underlying26 Tryd.underlying5 Tryd.underlying9 x.cap (A1.out.r.keep K3.out)
        have cv2 : (convert 26 9 (.slice y.A x.sc.length y.cap)).run Tryd.prog w3 = .ok (.string (str x.sc)) w3 := run_bytes_str Tryd.underlying26 Tryd.underlying5 Tryd.underlying9 y.cap (by have q := A2.out.r.keep K3.out; rwa [← Q3.out] at q)
        have s1 : (str x.sc == str x.sc) = true := by rw [str_beq]; exact decide_eq_true rfl
        have s2 : (x.sc == x.sc) = true := beq_self_eq_true _
        have s3 : (str x.sc != str x.sc) = false := by rw [str_bne, decide_eq_true rfl]; rfl
        have s4 : (x.sc != x.sc) = false := by rw [bne, s2]; rfl
        have HKn := Lib.hid (keep_trans HKr.out K3.out)
        clear hss hsl hsl2 hsll HXS HYS HG3 HF3 A1 A2 Q1 Q2 Q3 Q4 K3 HKr
        try simp only [List.append_eq, List.cons_append, List.nil_append]
        go_wp2_with (first | ((with_reducible refine load_partg gx 0 ss (Eq.trans ?_ rfl) RS1.out _ hash_under rfl hsi rfl ?_); rfl) | ((with_reducible refine load_partg gy 0 ss (Eq.trans ?_ rfl) RS2.out _ hash_under rfl hsi rfl ?_); rfl))
        clear cv1 cv2 x32 x33 x34 y32 y33 y34 ne1 ne2 s1 s2 s3 s4 RS1 RS2
        go_roundw
        case rel => exact ⟨k + 1, by omega, by go_num, HKn⟩
        case measure => simp [intOf]; omega
      · obtain rfl : k = n := by omega
        have d4 : ¬ (k : Int) < k := by omega
        clear HI
        go_wp2
        go_meet
        exact HKr
  case rest =>
    have HKC := Lib.hid hcut.out
    clear hcut HI X1 Y1
    go_wp2_with fail
    go_loopw [8] (fun i wr => ∃ k : Nat, k ≤ m ∧ i = .int .i64 k ∧ Hid (Keep w1 wr)) (fun i _ => m - (intOf i).toNat)
    case atStart => exact ⟨0, Nat.zero_le _, rfl, HKC⟩
    case round =>
      obtain ⟨k, hk, rfl, HKr⟩ := hrel
      have x2 := keep_cell HKr.out X2.out; have y2 := keep_cell HKr.out Y2.out
      by_cases hlt : k < m
      · obtain ⟨b, off, b', off', x, y, rfl, rfl, c0, c1, e0, e1, r1, r2⟩ := HO.out k hlt
        have d4 : (k : Int) < m := by omega
        have kw := keep_trans HK1.out HKr.out
        have c0 := keep_cell kw c0; have c1 := keep_cell kw c1; have e0 := keep_cell kw e0; have e1 := keep_cell kw e1
        have R1 := Lib.hid (r1.keep kw); have R2 := Lib.hid (r2.keep kw)
        clear r1 r2 kw HO
        go_upto_region 13 with fail
        refine wp_region_tree (.take [0,1,2,3,4,5,6,7,8,9,10,11,12,13,14,15,16,17,18,19,20,21,22,23,24,25,26,27,28,29] .done) [] (by kernel_rfl) (by kernel_rfl) (fun w3 k3 => ?_)
        have HK3 := Lib.hid (keep_trans HKr.out k3)
        have b0 := aft_cell (keep_cell k3 c0); have b1 := aft_cell (keep_cell k3 c1); have b2 := aft_cell (keep_cell k3 e0); have b3 := aft_cell (keep_cell k3 e1)
        have b4 := aft_cell (keep_cell k3 x2); have b5 := aft_cell (keep_cell k3 y2)
        have cv1 : ∀ z, (convert 26 9 (.slice x.A x.sc.length x.cap)).run Tryd.prog (aft w3 z) = .ok (.string (str x.sc)) (aft w3 z) := fun z => run_bytes_str Tryd.underlying26 Tryd.underlying5 Tryd.underlying9 x.cap ((R1.out.keep k3).keep (aft_keep w3 z))
        have cv2 : ∀ z, (convert 26 9 (.slice y.A x.sc.length y.cap)).run Tryd.prog (aft w3 z) = .ok (.string (str x.sc)) (aft w3 z) := fun z => run_bytes_str Tryd.underlying26 Tryd.underlying5 Tryd.underlying9 y.cap ((R2.out.keep k3).keep (aft_keep w3 z))
        have s1 : (str x.sc == str x.sc) = true := by rw [str_beq]; exact decide_eq_true rfl
        have s2 : (x.sc == x.sc) = true := beq_self_eq_true _
        have s3 : (str x.sc != str x.sc) = false := by rw [str_bne, decide_eq_true rfl]; rfl
        have s4 : (x.sc != x.sc) = false := by rw [bne, s2]; rfl
        clear k3 c0 c1 e0 e1 x2 y2 R1 R2
        refine mt_take w3 (Below.refl _ _) ?_
        simp only [pick_cons, pick_nil, nth_zero, nth_succ]
        repeat (go_big_quiet_step (fail))
        refine wpQuiet_nil (mt_end ?_)
        clear b0 b1 b2 b3 b4 b5 cv1 cv2 s1 s2 s3 s4 HKr
        go_wp2
        go_roundw
        case rel => exact ⟨k + 1, by omega, by go_num, HK3⟩
        case measure => simp [intOf]; omega
      · obtain rfl : k = m := by omega
        have d4 : ¬ (k : Int) < k := by omega
        clear HO
        go_wp2
        exact bodyPost_ret (v := .bool true) (by simp [results, Tryd.results48]) rfl ⟨rfl, keep_trans HK1.out HKr.out⟩
end Go.Proofs.YtffpanlpbdnafaaDoor

/- Same: of messages that are the same. (printed by gen_pi.py) -/
set_option linter.unusedSimpArgs false
set_option linter.unusedVariables false
namespace Go.Proofs.YtffpanlpbdnafaaDoor
open Go.RowKit
attribute [local go_sem ↓] Go.wp_at_zero Go.wp_at_succ
theorem pl_split {a b : MsgR} (h : a.pl = b.pl) : ∃ hA hc lA lc iA ic sA sc fA fc t, b = ⟨a.kind, a.proto, a.nonce, a.height, hA, a.hs, hc, lA, a.ls, lc, a.stop, iA, a.is, ic, a.bh, a.total, sA, a.shs, sc, fA, a.fs, fc, t⟩ ∧ t.pl = a.t.pl := by
  obtain ⟨k, p, n, h0, hA, hs, hc, lA, ls, lc, stop, iA, is, ic, bh, total, sA, shs, sc, fA, fs, fc, t⟩ := a
  obtain ⟨k', p', n', h', hA', hs', hc', lA', ls', lc', stop', iA', is', ic', bh', total', sA', shs', sc', fA', fs', fc', t'⟩ := b
  unfold MsgR.pl at h
  injection h with e1 e2 e3 e4 _ e5 _ _ e6 _ e7 _ e8 _ e9 e10 _ e11 _ _ e12 _ e13
  subst e1 e2 e3 e4 e5 e6 e7 e8 e9 e10 e11 e12
  exact ⟨hA', hc', lA', lc', iA', ic', sA', sc', fA', fc', t', rfl, e13.symm⟩
set_option maxRecDepth 100000 in
set_option maxHeartbeats 16000000 in
theorem same09 (a b : MsgR) (as_ bs : Array Value) (hA : MsB a as_) (hB : MsB b bs) (w : World) (ha : a.at_ w) (hb : b.at_ w) (hp : a.pl = b.pl) (hi : a.t.ins.length ≤ 1000000) (ho : a.t.outs.length ≤ 1000000)
    (h1 : a.hs.length ≤ 1000000) (h2 : a.ls.length ≤ 1000000) (h3 : a.is.length ≤ 1000000) (h4 : a.shs.length ≤ 1000000) :
    Calls Tryd.prog 19 #[.agg as_, .agg bs] w fun e w' => e = .returned (.bool true) ∧ Keep w w' := by
  obtain ⟨gA, gc, mA, mc, jA, jc, qA, qc, gfA, gfc, t', rfl, htp⟩ := pl_split hp
  have S7 : Hid (∀ y, Keep w y → Calls Tryd.prog 46 #[.slice a.hA a.hs.length a.hc, .slice gA a.hs.length gc] y fun e w' => e = .returned (.bool true) ∧ Keep y w') := Lib.hid fun y hy => same07 a.hA a.hs a.hc gA gc y (ha.h.keep hy) (hb.h.keep hy) ha.o.h h1
  have S3 : Hid (∀ y, Keep w y → Calls Tryd.prog 47 #[.slice a.lA a.ls.length a.lc, .slice mA a.ls.length mc] y fun e w' => e = .returned (.bool true) ∧ Keep y w') := Lib.hid fun y hy => same03 a.lA a.ls a.lc mA mc y (ha.l.keep hy) (hb.l.keep hy) ha.o.l h2
  have S4 : Hid (∀ y, Keep w y → Calls Tryd.prog 47 #[.slice a.sA a.shs.length a.sc, .slice qA a.shs.length qc] y fun e w' => e = .returned (.bool true) ∧ Keep y w') := Lib.hid fun y hy => same03 a.sA a.shs a.sc qA qc y (ha.s.keep hy) (hb.s.keep hy) ha.o.z h4
  have lt1 : t'.ins.length = a.t.ins.length := by have q := congrArg List.length (congrArg TxR.ins htp : t'.pl.ins = a.t.pl.ins); unfold TxR.pl at q; simpa using q
  have lt2 : t'.outs.length = a.t.outs.length := by have q := congrArg List.length (congrArg TxR.outs htp : t'.pl.outs = a.t.pl.outs); unfold TxR.pl at q; simpa using q
  have S8 : Hid (∀ y, Keep w y → Calls Tryd.prog 48 #[.agg #[u32v a.t.ver, .slice a.t.iA a.t.ins.length a.t.ic, .slice a.t.oA a.t.outs.length a.t.oc, u32v a.t.lock], .agg #[u32v t'.ver, .slice t'.iA t'.ins.length t'.ic, .slice t'.oA t'.outs.length t'.oc, u32v t'.lock]] y fun e w' => e = .returned (.bool true) ∧ Keep y w') := Lib.hid fun y hy => same08 a.t t' y (ha.t.keep hy) (hb.t.keep hy) htp.symm hi ho
  have HI : Hid (∀ k, k < a.is.length → ∃ (b1 off b2 off2 : Nat) (x : Itm) (xs : Array Value), a.iA = some ⟨b1, off, none⟩ ∧ jA = some ⟨b2, off2, none⟩ ∧ ItB x xs ∧ x.ok ∧ w.rangeAt b1 (off + k * 33) xs.toList ∧ w.rangeAt b2 (off2 + k * 33) xs.toList) := Lib.hid fun k hk => by
    obtain ⟨b1, off, e1, -, e2⟩ := item_at ha.i ha.o.i hk
    obtain ⟨b2, off2, e3, -, e4⟩ := item_at hb.i ha.o.i hk
    have hok := ha.o.i _ (List.getElem_mem hk)
    exact ⟨b1, off, b2, off2, _, _, e1, e3, ItB.of hok, hok, by rw [(ItB.of hok).l]; exact e2, by rw [(ItB.of hok).l]; exact e4⟩
  have HOA := Lib.hid ha.o; have HOB := Lib.hid hb.o
  have RF1 := Lib.hid ha.f; have RF2 := Lib.hid hb.f
  have han := hA.n; have haz := hA.z; have hai := hA.i
  have hbn := hB.n; have hbz := hB.z; have hbi := hB.i
  have HA := Lib.hid hA; have HB := Lib.hid hB
  obtain ⟨ss, hss⟩ : ∃ ss, HashA a.stop ss := ⟨_, HashA.of ha.o.s⟩
  obtain ⟨hv, hhv⟩ : ∃ hv, HdA a.bh hv := ⟨_, HdA.of ha.o.b⟩
  have hsn := hss.n; have hsz := hss.z; have hsi := hss.i
  have hvn := hhv.n; have hvz := hhv.z; have hvi := hhv.i
  have ne1 : ∀ w, (Go.binOp .neq 39 (.agg ss) (.agg ss)).run Tryd.prog w = .ok (.bool false) w := fun w => hash_neqS hss hss ha.o.s w
  have ne2 : ∀ w, (Op.equalIn 10000 39 (.agg ss) (.agg ss)).run Tryd.prog w = .ok true w := fun w => hash_inS hss hss ha.o.s w
  have ne3 : ∀ w, (Go.binOp .eql 42 (.agg hv) (.agg hv)).run Tryd.prog w = .ok (.bool true) w := fun w => hd_eqlS hhv hhv ha.o.b w
  have ne4 : ∀ w, (Op.equalIn 10000 42 (.agg hv) (.agg hv)).run Tryd.prog w = .ok true w := fun w => hd_inS hhv hhv ha.o.b w
  have hgd := hash_guard; have hgd2 := hd_guard; have hgd3 := ritem_guard
  have HSS := Lib.hid hss; have HHV := Lib.hid hhv
  clear hA hB ha hb hp htp lt1 lt2 hss hhv hi ho h1 h2 h4
  go_enter Tryd.func19, Tryd.ntmps19
  go_upto_region 1 with fail
  obtain ⟨w1, hw1⟩ : ∃ w1, w1 = (w.alloc (.cells as_ 63)).alloc (.cells bs 63) := ⟨_, rfl⟩
  have HX1 : Hid (Blk w1 w.heap.size 63 a.cells) := by rw [hw1, ← HA.out.l]; exact Lib.hid ((Blk.new w _ as_.toList).alloc _)
  have HY1 : Hid (Blk w1 (w.heap.size + 1) 63 (MsgR.cells ⟨a.kind, a.proto, a.nonce, a.height, gA, a.hs, gc, mA, a.ls, mc, a.stop, jA, a.is, jc, a.bh, a.total, qA, a.shs, qc, gfA, a.fs, gfc, t'⟩)) := by
    rw [hw1, ← HB.out.l]
    have q := Blk.new (w.alloc (.cells as_ 63)) 63 bs.toList
    rw [World.size_alloc] at q
    exact Lib.hid q
  have HK1 : Hid (Keep w w1) := by rw [hw1]; exact Lib.hid (keep_trans (keep_new _ _) (keep_new _ _))
  rw [← hw1]
  clear hw1
  obtain ⟨bm, hbm⟩ : ∃ bm : MsgR, bm = ⟨a.kind, a.proto, a.nonce, a.height, gA, a.hs, gc, mA, a.ls, mc, a.stop, jA, a.is, jc, a.bh, a.total, qA, a.shs, qc, gfA, a.fs, gfc, t'⟩ := ⟨_, rfl⟩
  have HBM := Lib.hid hbm
  rw [← hbm] at HY1 HOB
  clear hbm
  have XC : Hid (∀ y, Blk y w.heap.size 63 a.cells → (y.cell? ⟨w.heap.size, 38, none⟩ = some (.slice a.iA a.is.length a.ic) ∧ y.cell? ⟨w.heap.size, 107, none⟩ = some (u32v a.total) ∧ y.cell? ⟨w.heap.size, 108, none⟩ = some (.slice a.sA a.shs.length a.sc) ∧ y.cell? ⟨w.heap.size, 109, none⟩ = some (.slice a.fA a.fs.length a.fc) ∧
      y.cell? ⟨w.heap.size, 110, none⟩ = some (u32v a.t.ver) ∧ y.cell? ⟨w.heap.size, 111, none⟩ = some (.slice a.t.iA a.t.ins.length a.t.ic) ∧ y.cell? ⟨w.heap.size, 112, none⟩ = some (.slice a.t.oA a.t.outs.length a.t.oc) ∧ y.cell? ⟨w.heap.size, 113, none⟩ = some (u32v a.t.lock) ∧
      y.rangeAt w.heap.size 6 ss.toList ∧ y.rangeAt w.heap.size 39 hv.toList)) := Lib.hid fun y h => ⟨(h.cell 38).trans ((MsgR.tail_get HOA.out 0).trans rfl), (h.cell 107).trans ((MsgR.blk_tail HOA.out 0 (by omega)).trans rfl), (h.cell 108).trans ((MsgR.blk_tail HOA.out 1 (by omega)).trans rfl), (h.cell 109).trans ((MsgR.blk_tail HOA.out 2 (by omega)).trans rfl),
      (h.cell 110).trans ((MsgR.tx_get HOA.out 0).trans rfl), (h.cell 111).trans ((MsgR.tx_get HOA.out 1).trans rfl), (h.cell 112).trans ((MsgR.tx_get HOA.out 2).trans rfl), (h.cell 113).trans ((MsgR.tx_get HOA.out 3).trans rfl),
      range_of h 6 ss.toList (by rw [HSS.out.l, MsgR.cells6, List.drop_left' (show a.hd6.length = 6 from rfl), List.take_left' rfl]),
      range_of h 39 hv.toList (by rw [HHV.out.l, MsgR.cells39, List.drop_left' (MsgR.hd39_len HOA.out.s)]; unfold MsgR.blk; rw [List.append_assoc, List.take_left' rfl])⟩
  have YC : Hid (∀ y, Blk y (w.heap.size + 1) 63 bm.cells → (y.cell? ⟨w.heap.size + 1, 38, none⟩ = some (.slice jA a.is.length jc) ∧ y.cell? ⟨w.heap.size + 1, 107, none⟩ = some (u32v a.total) ∧ y.cell? ⟨w.heap.size + 1, 108, none⟩ = some (.slice qA a.shs.length qc) ∧ y.cell? ⟨w.heap.size + 1, 109, none⟩ = some (.slice gfA a.fs.length gfc) ∧
      y.cell? ⟨w.heap.size + 1, 110, none⟩ = some (u32v t'.ver) ∧ y.cell? ⟨w.heap.size + 1, 111, none⟩ = some (.slice t'.iA t'.ins.length t'.ic) ∧ y.cell? ⟨w.heap.size + 1, 112, none⟩ = some (.slice t'.oA t'.outs.length t'.oc) ∧ y.cell? ⟨w.heap.size + 1, 113, none⟩ = some (u32v t'.lock) ∧
      y.rangeAt (w.heap.size + 1) 6 ss.toList ∧ y.rangeAt (w.heap.size + 1) 39 hv.toList)) := Lib.hid fun y h => ⟨(h.cell 38).trans ((MsgR.tail_get HOB.out 0).trans (by rw [HBM.out]; rfl)), (h.cell 107).trans ((MsgR.blk_tail HOB.out 0 (by omega)).trans (by rw [HBM.out]; rfl)), (h.cell 108).trans ((MsgR.blk_tail HOB.out 1 (by omega)).trans (by rw [HBM.out]; rfl)), (h.cell 109).trans ((MsgR.blk_tail HOB.out 2 (by omega)).trans (by rw [HBM.out]; rfl)),
      (h.cell 110).trans ((MsgR.tx_get HOB.out 0).trans (by rw [HBM.out]; rfl)), (h.cell 111).trans ((MsgR.tx_get HOB.out 1).trans (by rw [HBM.out]; rfl)), (h.cell 112).trans ((MsgR.tx_get HOB.out 2).trans (by rw [HBM.out]; rfl)), (h.cell 113).trans ((MsgR.tx_get HOB.out 3).trans (by rw [HBM.out]; rfl)),
      range_of h 6 ss.toList (by rw [HSS.out.l, MsgR.cells6, List.drop_left' (show bm.hd6.length = 6 from rfl), HBM.out]; exact List.take_left' rfl),
      range_of h 39 hv.toList (by rw [HHV.out.l, MsgR.cells39, List.drop_left' (MsgR.hd39_len HOB.out.s)]; unfold MsgR.blk; rw [List.append_assoc, HBM.out]; exact List.take_left' rfl)⟩
  have c0 : w1.cell? ⟨w.heap.size, 0, none⟩ = some (.int .i64 a.kind) := (HX1.out.cell 0).trans rfl
  have c1 : w1.cell? ⟨w.heap.size, 1, none⟩ = some (u32v a.proto) := (HX1.out.cell 1).trans rfl
  have c2 : w1.cell? ⟨w.heap.size, 2, none⟩ = some (u64v a.nonce) := (HX1.out.cell 2).trans rfl
  have c3 : w1.cell? ⟨w.heap.size, 3, none⟩ = some (u32v a.height) := (HX1.out.cell 3).trans rfl
  have c4 : w1.cell? ⟨w.heap.size, 4, none⟩ = some (.slice a.hA a.hs.length a.hc) := (HX1.out.cell 4).trans rfl
  have c5 : w1.cell? ⟨w.heap.size, 5, none⟩ = some (.slice a.lA a.ls.length a.lc) := (HX1.out.cell 5).trans rfl
  have y0 : w1.cell? ⟨w.heap.size + 1, 0, none⟩ = some (.int .i64 a.kind) := (HY1.out.cell 0).trans (by rw [HBM.out]; rfl)
  have y1 : w1.cell? ⟨w.heap.size + 1, 1, none⟩ = some (u32v a.proto) := (HY1.out.cell 1).trans (by rw [HBM.out]; rfl)
  have y2 : w1.cell? ⟨w.heap.size + 1, 2, none⟩ = some (u64v a.nonce) := (HY1.out.cell 2).trans (by rw [HBM.out]; rfl)
  have y3 : w1.cell? ⟨w.heap.size + 1, 3, none⟩ = some (u32v a.height) := (HY1.out.cell 3).trans (by rw [HBM.out]; rfl)
  have y4 : w1.cell? ⟨w.heap.size + 1, 4, none⟩ = some (.slice gA a.hs.length gc) := (HY1.out.cell 4).trans (by rw [HBM.out]; rfl)
  have y5 : w1.cell? ⟨w.heap.size + 1, 5, none⟩ = some (.slice mA a.ls.length mc) := (HY1.out.cell 5).trans (by rw [HBM.out]; rfl)
  clear HOA HOB HSS HHV HBM
  try simp only [List.append_eq, List.cons_append, List.nil_append]
  go_upto_region 3 with (first | ((with_reducible refine load_partg w.heap.size 6 ss (Eq.trans ?_ rfl) RS1.out _ hash_under rfl hsi (Eq.trans ?_ rfl) ?_); rfl; rfl) | ((with_reducible refine load_partg (w.heap.size + 1) 6 ss (Eq.trans ?_ rfl) RS2.out _ hash_under rfl hsi (Eq.trans ?_ rfl) ?_); rfl; rfl) | (go_at_call 46; refine (S7.out _ HK1.out).mono ?_; rintro e w2 ⟨rfl, k2⟩; have HK2 := Lib.hid (keep_trans HK1.out k2); have HX2 := Lib.hid (HX1.out.keep k2); have HY2 := Lib.hid (HY1.out.keep k2); have c5 := keep_cell k2 c5; have y5 := keep_cell k2 y5; clear k2 S7 c4 y4 c0 c1 c2 c3 y0 y1 y2 y3 HX1 HY1) | (go_at_call 47; refine (S3.out _ HK2.out).mono ?_; rintro e w3 ⟨rfl, k3⟩; have HK3 := Lib.hid (keep_trans HK2.out k3); have HX3 := Lib.hid (HX2.out.keep k3); have HY3 := Lib.hid (HY2.out.keep k3); obtain ⟨c38, -, -, -, -, -, -, -, rs1, -⟩ := XC.out _ HX3.out; obtain ⟨y38, -, -, -, -, -, -, -, rs2, -⟩ := YC.out _ HY3.out; have RS1 := Lib.hid rs1; have RS2 := Lib.hid rs2; clear k3 S3 c5 y5 HX2 HY2 rs1 rs2))
  have X38 := Lib.hid c38; have Y38 := Lib.hid y38
  clear c38 y38 RS1 RS2 ne1 ne2
  go_upto_block 0 with fail
  go_cut [] (fun wx => Hid (Keep w3 wx))
  case first =>
    go_wp2_with fail
    go_loopw [5] (fun i wr => ∃ k : Nat, k ≤ a.is.length ∧ i = .int .i64 k ∧ Hid (Keep w3 wr)) (fun i _ => a.is.length - (intOf i).toNat)
    case atStart => exact ⟨0, Nat.zero_le _, rfl, Lib.hid (Below.refl _ _)⟩
    case round =>
      obtain ⟨k, hk, rfl, HKr⟩ := hrel
      have c38 := keep_cell HKr.out X38.out; have y38 := keep_cell HKr.out Y38.out
      by_cases hlt : k < a.is.length
      · obtain ⟨b1, off, b2, off2, x, xs, e1, rfl, hxs, hok, hr1, hr2⟩ := HI.out k hlt
        rw [e1] at c38
        have xz := hxs.z; have xn := hxs.n; have xi := hxs.i
        have d4 : (k : Int) < (a.is.length : Int) := by omega
        have kw := keep_trans HK3.out HKr.out
        have Hx0 := Lib.hid (range_keep kw hr1); have Hy0 := Lib.hid (range_keep kw hr2)
        have he : ∀ w, (Go.binOp .neq 97 (.agg xs) (.agg xs)).run Tryd.prog w = .ok (.bool false) w := fun w => ritem_neqS hxs hxs hok w
        have hi : ∀ w, (Op.equalIn 10000 97 (.agg xs) (.agg xs)).run Tryd.prog w = .ok true w := fun w => ritem_inS hxs hxs hok w
        clear hr1 hr2 hxs hok HI e1 kw
        go_upto_region 6 with fail
        refine wp_region_tree (.take [0,1,2,3,4,5,6,7,8,9,10] .done) [] (by kernel_rfl) (by kernel_rfl) (fun w8 k8 => ?_)
        have HK8 := Lib.hid (keep_trans HKr.out k8)
        have Hx := Lib.hid (range_keep k8 Hx0.out); have Hy := Lib.hid (range_keep k8 Hy0.out)
        have b0 := aft_cell (keep_cell k8 c38); have b3 := aft_cell (keep_cell k8 y38)
        clear k8 Hx0 Hy0 HKr c38 y38
        refine mt_take w8 (Below.refl _ _) ?_
        simp only [pick_cons, pick_nil, nth_zero, nth_succ]
        repeat (first | ((with_reducible refine wpQuiet_load_partg b1 (off + k * 33) xs (Eq.trans ?_ rfl) Hx.out _ Tryd.underlying97 rfl xi (Eq.trans ?_ rfl) ?_); rfl; rfl; simp only [Act.put, Array.set!_eq_setIfInBounds, List.setIfInBounds_toArray, List.set_cons_succ, List.set_cons_zero]) | ((with_reducible refine wpQuiet_load_partg b2 (off2 + k * 33) xs (Eq.trans ?_ rfl) Hy.out _ Tryd.underlying97 rfl xi (Eq.trans ?_ rfl) ?_); rfl; rfl; simp only [Act.put, Array.set!_eq_setIfInBounds, List.setIfInBounds_toArray, List.set_cons_succ, List.set_cons_zero]) | go_big_quiet_step (fail))
        refine wpQuiet_nil (mt_end ?_)
        clear he hi b0 b3
        go_wp2
        go_roundw
        case rel => exact ⟨k + 1, by omega, by go_num, HK8⟩
        case measure => simp [intOf]; omega
      · obtain rfl : k = a.is.length := by omega
        have d4 : ¬ (a.is.length : Int) < (a.is.length : Int) := by omega
        clear HI
        go_wp2
        go_meet
        exact HKr
  case rest =>
    have HKC := Lib.hid (keep_trans HK3.out hcut.out)
    have HX4 := Lib.hid (HX3.out.keep hcut.out); have HY4 := Lib.hid (HY3.out.keep hcut.out)
    clear hcut HI X38 Y38 HX3 HY3 HK3
    obtain ⟨-, c107, c108, -, -, -, -, -, -, rh1⟩ := XC.out _ HX4.out
    obtain ⟨-, y107, y108, -, -, -, -, -, -, rh2⟩ := YC.out _ HY4.out
    have RH1 := Lib.hid rh1; have RH2 := Lib.hid rh2
    have s1 : (str a.fs == str a.fs) = true := by rw [str_beq]; exact decide_eq_true rfl
    have s2 : (a.fs == a.fs) = true := beq_self_eq_true _
    clear rh1 rh2
    try simp only [List.append_eq, List.cons_append, List.nil_append]
    go_wp2_with (first | ((with_reducible refine load_partg w.heap.size 39 hv (Eq.trans ?_ rfl) RH1.out _ Tryd.underlying42 rfl hvi (Eq.trans ?_ rfl) ?_); rfl; rfl) | ((with_reducible refine load_partg (w.heap.size + 1) 39 hv (Eq.trans ?_ rfl) RH2.out _ Tryd.underlying42 rfl hvi (Eq.trans ?_ rfl) ?_); rfl; rfl) | (go_at_call 47; refine (S4.out _ HKC.out).mono ?_; rintro e w5 ⟨rfl, k5⟩; have HK5 := Lib.hid (keep_trans HKC.out k5); have HX5 := Lib.hid (HX4.out.keep k5); have HY5 := Lib.hid (HY4.out.keep k5); obtain ⟨-, -, -, c109, t0, t1, t2, t3, -, -⟩ := XC.out _ HX5.out; obtain ⟨-, -, -, y109, u0, u1, u2, u3, -, -⟩ := YC.out _ HY5.out; have cv1 : (convert 26 9 (.slice a.fA a.fs.length a.fc)).run Tryd.prog w5 = .ok (.string (str a.fs)) w5 := run_bytes_str Tryd.underlying26 Tryd.underlying5 Tryd.underlying9 a.fc (RF1.out.keep HK5.out); have cv2 : (convert 26 9 (.slice gfA a.fs.length gfc)).run Tryd.prog w5 = .ok (.string (str a.fs)) w5 := run_bytes_str Tryd.underlying26 Tryd.underlying5 Tryd.underlying9 gfc (RF2.out.keep HK5.out); clear k5 S4 c107 c108 y107 y108 RH1 RH2 HX4 HY4) | (go_at_call 48; refine (S8.out _ HK5.out).mono ?_; rintro e w6 ⟨rfl, k6⟩; have HK6 := Lib.hid (keep_trans HK5.out k6); clear k6))
    exact bodyPost_ret (v := .bool true) (by simp [results, Tryd.results19]) rfl ⟨rfl, HK6.out⟩
end Go.Proofs.YtffpanlpbdnafaaDoor

/- What is sent is heard, plainly. -/
set_option linter.unusedSimpArgs false
set_option linter.unusedVariables false
namespace Go.Proofs.YtffpanlpbdnafaaDoor
open Go.RowKit
theorem pl_atP {m m' : MsgR} (h : m'.pl = m.pl) : m'.kind = m.kind ∧ fitsB m' = fitsB m ∧ putL m' = putL m := ⟨(congrArg MsgR.kind h : m'.pl.kind = m.pl.kind), by rw [← fits_pl, h, fits_pl], by rw [← put_pl, h, put_pl]⟩
theorem fewM_pl {m m' : MsgR} (h : m'.pl = m.pl) : m'.t.ins.length = m.t.ins.length ∧ m'.t.outs.length = m.t.outs.length ∧ m'.is.length = m.is.length ∧ m'.hs.length = m.hs.length ∧ m'.ls.length = m.ls.length ∧ m'.shs.length = m.shs.length := by
  refine ⟨?_, ?_, congrArg List.length (congrArg MsgR.is h : m'.pl.is = m.pl.is), congrArg List.length (congrArg MsgR.hs h : m'.pl.hs = m.pl.hs), congrArg List.length (congrArg MsgR.ls h : m'.pl.ls = m.pl.ls), congrArg List.length (congrArg MsgR.shs h : m'.pl.shs = m.pl.shs)⟩
  · have q := congrArg List.length (congrArg (fun z : MsgR => z.t.ins) h : m'.pl.t.ins = m.pl.t.ins)
    simpa [MsgR.pl, TxR.pl] using q
  · have q := congrArg List.length (congrArg (fun z : MsgR => z.t.outs) h : m'.pl.t.outs = m.pl.t.outs)
    simpa [MsgR.pl, TxR.pl] using q
theorem bnd_4 : bndF 4000000 = 4000000 := by decide
theorem new_sane (g : UInt32) : takenP (newP g 4000000) = newP g 4000000 := by
  unfold takenP
  rw [if_pos]
  show saneP { peZ with magic := g, cap := bndF 4000000 } = true
  rw [bnd_4]
  simp [saneP, peZ, fsaneB, bnd_4]
theorem kind_known {m : MsgR} {w : World} (h : m.at_ w) (hf : fitsB m = true) : (kindN (nameL m.kind)).2 = true := by
  have q := wget_put h hf
  unfold wgetN at q
  cases hk : (kindN (nameL m.kind)).2 with
  | true => rfl
  | false =>
    rw [if_neg (by rw [hk]; decide)] at q
    have e := congrArg Prod.snd q
    exact absurd (show (2 : Int) = 0 from e) (by decide)
theorem cons_put (cmd pl : List UInt8) : cnsE (okE [((cmd, pl), 0), (([], []), 1)]) = 24 + pl.length := rfl
theorem feed_heard {m : MsgR} {w : World} (h : m.at_ w) (hf : fitsB m = true) (hw : fewM m = true) (q : PeR) (hq : q.cap = 4000000) : feedP q (putF q.magic (nameL m.kind) (putL m)) = ({ q with rA := none, rs := [], rc := 0, bad := 0 }, [m.pl], 0) := by
  have hc := fits_cmd hf
  have hp := put_few h hw
  have he := evs_put q.magic q.cap (nameL m.kind) (putL m) hc hp (by rw [hq, bnd_4]; omega)
  have hcl : (nameL m.kind).length ≤ 12 := by
    simp only [cmdB, Bool.and_eq_true, decide_eq_true_eq] at hc
    exact hc.1.2
  have hO : outE (putF q.magic (nameL m.kind) (putL m)) [((nameL m.kind, putL m), 0), (([], []), 1)] = ([], 0) := by
    unfold outE
    rw [cons_put]
    show ((putF q.magic (nameL m.kind) (putL m)).drop (24 + (putL m).length), (0 : Int)) = _
    rw [List.drop_of_length_le (by rw [putF_len hcl]; exact Nat.le_refl _)]
  have hF : feedL ((okE [((nameL m.kind, putL m), 0), (([], []), 1)]).map Prod.fst) = ([m.pl], 0) := by
    show feedL [(nameL m.kind, putL m)] = _
    rw [feedL, if_pos (kind_known h hf), wget_put h hf]
    rfl
  unfold feedP
  rw [he, hO, hF]
  rfl
theorem feed_other {m : MsgR} {w : World} (h : m.at_ w) (hf : fitsB m = true) (g : UInt32) (q : PeR) (hq : q.magic ≠ g) : (feedP q (putF g (nameL m.kind) (putL m))).1.stage = 3 ∧ (feedP q (putF g (nameL m.kind) (putL m))).2.1 = [] ∧ (feedP q (putF g (nameL m.kind) (putL m))).2.2 = 5 := by
  have he := evs_other g q.magic q.cap (nameL m.kind) (putL m) (fits_cmd hf) hq
  unfold feedP
  rw [he]
  exact ⟨rfl, rfl, rfl⟩
theorem one_msg {l : List MsgR} {a : MsgR} (h : l.map MsgR.pl = [a.pl]) : ∃ x, l = [x] ∧ x.pl = a.pl := by
  cases l with
  | nil => cases h
  | cons x l =>
    cases l with
    | nil => exact ⟨x, rfl, by simpa using h⟩
    | cons y l => simp at h
end Go.Proofs.YtffpanlpbdnafaaDoor

/- Peers that miss, plainly; the chapter's awake (printed by gen_qh.py) -/
set_option linter.unusedSimpArgs false
set_option linter.unusedVariables false
namespace Go.Proofs.YtffpanlpbdnafaaDoor
open Go.RowKit
attribute [local go_sem ↓] Go.wp_at_zero Go.wp_at_succ
def stP (g : UInt32) (k U : Int) : PeR := { peZ with stage := if k = 3 then 3 else 2, until_ := U, misses := k, magic := g, cap := 99 }
def p1P (g : UInt32) (n : Nat) : PeR := { peZ with stage := 1, nonce := n, magic := g, cap := 99 }
theorem hdl_v (g : UInt32) (n : Nat) : hdlP (newP g 99) { msgZ 0 with nonce := n } = (p1P g n, [{ msgZ 0 with proto := 70015, nonce := n }, msgZ 1], 0) := rfl
theorem hdl_k (g : UInt32) (n : Nat) : hdlP (p1P g n) (msgZ 1) = ({ stP g 0 0 with nonce := n }, [], 0) := rfl
theorem hdl_p (g : UInt32) : hdlP (newP g 99) (msgZ 2) = ((newP g 99).ban, [], 15) := rfl
theorem pst_new {p q : PeR} {zs ds : Array Value} (hz : PeA p zs) (hd : PeA q ds) (y : World) : (storeCells ⟨y.heap.size, 0, none⟩ ds.toList 0).run Tryd.prog (y.alloc (.cells zs 31)) = .ok () (y.alloc (.cells ds 31)) :=
  run_storeCells_new (P := Tryd.prog) y 31 zs ds hd.i (hz.z.trans hd.z.symm) (by have := all_oneCell_toArray hd.o; simpa using this)
theorem ver_built (n : Nat) (h : n < 2 ^ 64) : ∃ ks, MsA { msgZ 0 with nonce := n } ks ∧ Tryd.prog.built 50 [(0, .int .i64 0), (2, u64v n)] = some ks := by
  have ho := msgZ_ok 0 (by omega)
  exact ⟨_, MsA.of (m := { msgZ 0 with nonce := n }) ⟨ho.k, h, ho.s, ho.b, ho.h, ho.l, ho.i, ho.z⟩, by kernel_rfl⟩
theorem kind_built (k : Int) (h : -9223372036854775808 ≤ k ∧ k ≤ 9223372036854775807) : ∃ ks, MsA (msgZ k) ks ∧ Tryd.prog.built 50 [(0, .int .i64 k)] = some ks := ⟨_, MsA.of (msgZ_ok k h), by kernel_rfl⟩
theorem handle_as {p q : PeR} {l : List MsgR} {c : Int} (cs : Array Value) (hA : PeA p cs) (hr : p.rs = []) (m : MsgR) (ms : Array Value) (hM : MsA m ms) (h : hdlP p m = (q, l, c)) (w : World) (hm : m.at_ w) :
    Calls Tryd.prog 8 #[.agg cs, .agg ms] w fun e w' => ∃ ds A n, e = .returned (.tuple #[.agg ds, .slice A l.length n, iv c]) ∧ PeA q ds ∧ l.length ≤ n ∧ n ≤ 2 ∧ Rd w' A (l.flatMap MsgR.cells) ∧ Keep w w' := by
  have q := handle_any p cs hA hr m ms hM w hm
  rw [h] at q
  exact q
set_option maxRecDepth 100000 in
set_option maxHeartbeats 4000000 in
theorem awake22 (w : World) : Calls Tryd.prog 7 #[] w fun e w' => e = .returned (.bool true) ∧ Keep w w' := by
  obtain ⟨zs, hz0, hzA⟩ := zpeer_letter
  obtain ⟨k2, h2A, h2b⟩ := kind_built 2 (by omega)
  obtain ⟨k0, h0A, h0b⟩ := ver_built 3 (by omega)
  obtain ⟨k1, h1A, h1b⟩ := kind_built 1 (by omega)
  have B2 := Lib.hid h2b; have B0 := Lib.hid h0b; have B1 := Lib.hid h1b
  have NP : Hid (∀ y, Calls Tryd.prog 9 #[u32v 7, iv 99] y fun e w' => ∃ ps, e = .returned (.agg ps) ∧ PeA (newP 7 99) ps ∧ Keep y w') := Lib.hid fun y => pnew_any 7 99 y
  have H1 : Hid (∀ ps y, PeA (newP 7 99) ps → Calls Tryd.prog 8 #[.agg ps, .agg k2] y fun e w' => ∃ ds A n, e = .returned (.tuple #[.agg ds, .slice A 0 n, iv 15]) ∧ PeA (newP 7 99).ban ds ∧ Keep y w') := Lib.hid fun ps y hp =>
    (handle_as ps hp rfl _ k2 h2A (hdl_p 7) y (msgZ_at 2 (by omega) y)).mono fun e w' ⟨ds, A, n, h1, h2, _, _, _, h3⟩ => ⟨ds, A, n, h1, h2, h3⟩
  have H2 : Hid (∀ ps y, PeA (newP 7 99) ps → Calls Tryd.prog 8 #[.agg ps, .agg k0] y fun e w' => ∃ ds b o n, e = .returned (.tuple #[.agg ds, .slice (some ⟨b, o, none⟩) 2 n, iv 0]) ∧ PeA (p1P 7 3) ds ∧ w'.cell? ⟨b, o + 2, none⟩ = some (u64v 3) ∧ 2 ≤ n ∧ Keep y w') := Lib.hid fun ps y hp =>
    (handle_as ps hp rfl _ k0 h0A (hdl_v 7 3) y (by
      have z := msgZ_at 0 (by omega) y
      exact ⟨⟨z.o.k, (by show 3 < 2 ^ 64; omega), z.o.s, z.o.b, z.o.h, z.o.l, z.o.i, z.o.z⟩, z.h, z.hc, z.l, z.lc, z.i, z.ic, z.s, z.sc, z.f, z.fc, z.t⟩)).mono fun e w' ⟨ds, A, n, h1, h2, hn, _, hr, h3⟩ => by
      obtain ⟨b, o, rfl, _, hc⟩ := hr.at (k := 2) (by decide)
      exact ⟨ds, b, o, n, h1, h2, hc 2 (by decide), hn, h3⟩
  have H3 : Hid (∀ ps y, PeA (p1P 7 3) ps → Calls Tryd.prog 8 #[.agg ps, .agg k1] y fun e w' => ∃ ds A n, e = .returned (.tuple #[.agg ds, .slice A 0 n, iv 0]) ∧ PeA { stP 7 0 0 with nonce := 3 } ds ∧ Keep y w') := Lib.hid fun ps y hp =>
    (handle_as ps hp rfl _ k1 h1A (hdl_k 7 3) y (msgZ_at 1 (by omega) y)).mono fun e w' ⟨ds, A, n, h1, h2, _, _, _, h3⟩ => ⟨ds, A, n, h1, h2, h3⟩
  have hzn := hzA.n; have hzz := hzA.z
  have HZ := Lib.hid hzA
  have hz0' := hz0
  clear h2A h0A h1A h2b h0b h1b hzA
  go_enter Tryd.func7, Tryd.ntmps7
  go_upto_region 2 with (first | (go_at_call 9; refine (NP.out _).mono ?_; rintro e wa ⟨ps, rfl, hpA, k⟩; have HPA := Lib.hid hpA; have KA := Lib.hid k; clear k hpA) | ((with_reducible refine list_bldg [(0, .int .i64 2)] k2 (Eq.trans ?_ rfl) B2.out (Eq.trans ?_ rfl) ?_); rfl; rfl) | (go_at_call 8; refine (H1.out _ _ HPA.out).mono ?_; rintro e wb ⟨ds, A, n, rfl, hdA, k⟩; have hst := pst_new HZ.out hdA wb; have hdn := hdA.n; have hdz := hdA.z; have HDA := Lib.hid hdA; have KB := Lib.hid (keep_trans KA.out k); clear k hdA))
  obtain ⟨w1, hw1⟩ : ∃ w1, w1 = wb.alloc (.cells ds 31) := ⟨_, rfl⟩
  have HP1 : Hid (Blk w1 wb.heap.size 31 (newP 7 99).ban.cells) := by rw [hw1, ← HDA.out.l]; exact Lib.hid (Blk.new wb _ ds.toList)
  have HK1 : Hid (Keep w w1) := by rw [hw1]; exact Lib.hid (keep_trans KB.out (keep_new _ _))
  rw [← hw1]
  clear hst hw1 KA KB HDA HPA H1 hdn hdz B2
  generalize wb.heap.size = b1 at *
  go_upto_region 3 with (first | (go_at_call 9; refine (NP.out _).mono ?_; rintro e wa ⟨ps, rfl, hpA, k⟩; have HPA := Lib.hid hpA; have HP1a := Lib.hid (HP1.out.keep k); have KA := Lib.hid (keep_trans HK1.out k); clear k hpA HP1 HK1) | ((with_reducible refine list_bldg [(0, .int .i64 0), (2, u64v 3)] k0 (Eq.trans ?_ rfl) B0.out (Eq.trans ?_ rfl) ?_); rfl; rfl) | (go_at_call 8; refine (H2.out _ _ HPA.out).mono ?_; rintro e wb ⟨ds, lb, lo, n2, rfl, hdA, hc, hn2, k⟩; have hst := pst_new HZ.out hdA wb; have hdn := hdA.n; have hdz := hdA.z; have HDA := Lib.hid hdA; have KB := Lib.hid (keep_trans KA.out k); have HP1b := Lib.hid (HP1a.out.keep k); clear k hdA HP1a))
  obtain ⟨w2, hw2⟩ : ∃ w2, w2 = wb.alloc (.cells ds 31) := ⟨_, rfl⟩
  have HQ2 : Hid (Blk w2 wb.heap.size 31 ds.toList) := by rw [hw2]; exact Lib.hid (Blk.new wb _ ds.toList)
  have HP2 : Hid (Blk w2 b1 31 (newP 7 99).ban.cells) := by rw [hw2]; exact Lib.hid (HP1b.out.alloc _)
  have HC2 : Hid (w2.cell? ⟨lb, lo + 2, none⟩ = some (u64v 3)) := by rw [hw2]; exact Lib.hid (keep_cell (keep_new _ _) hc)
  have HK2 : Hid (Keep w w2) := by rw [hw2]; exact Lib.hid (keep_trans KB.out (keep_new _ _))
  have HN2 := Lib.hid hn2
  rw [← hw2]
  have hdi := HDA.out.i
  clear hst hw2 KA KB HPA H2 NP B0 hc HP1b hn2
  generalize wb.heap.size = b2 at *
  go_upto_region 4 with (first | ((with_reducible refine load_arr b2 ds (Eq.trans ?_ rfl) HQ2.out _ Tryd.underlying31 rfl hdi ?_); rfl) | ((with_reducible refine list_bldg [(0, .int .i64 1)] k1 (Eq.trans ?_ rfl) B1.out (Eq.trans ?_ rfl) ?_); rfl; rfl) | (go_at_call 8; refine (H3.out _ _ HDA.out).mono ?_; rintro e wb ⟨rs, A3, n3, rfl, hrA, k⟩; have hst := pst_new HZ.out hrA wb; have hrn := hrA.n; have hrz := hrA.z; have HRA := Lib.hid hrA; have KB := Lib.hid (keep_trans HK2.out k); have HP3 := Lib.hid (HP2.out.keep k); have HC3 := Lib.hid (keep_cell k HC2.out); clear k hrA HP2 HC2))
  obtain ⟨w3, hw3⟩ : ∃ w3, w3 = wb.alloc (.cells rs 31) := ⟨_, rfl⟩
  have r3 : w3.cell? ⟨wb.heap.size, 0, none⟩ = some (.int .i64 2) := by
    rw [hw3]
    have q := (Blk.new wb 31 rs.toList).cell 0
    rw [Array.toArray_toList] at q
    exact q.trans (by rw [HRA.out.l]; rfl)
  have r1 : w3.cell? ⟨b1, 0, none⟩ = some (.int .i64 3) := by rw [hw3]; exact ((HP3.out.alloc _).cell 0).trans rfl
  have r2 : w3.cell? ⟨lb, lo + 2, none⟩ = some (u64v 3) := by rw [hw3]; exact keep_cell (keep_new _ _) HC3.out
  have HK3 : Hid (Keep w w3) := by rw [hw3]; exact Lib.hid (keep_trans KB.out (keep_new _ _))
  rw [← hw3]
  have d2 : 2 ≤ n2 := HN2.out
  clear hst hw3 KB HDA HRA HP3 HC3 H3 B1 HQ2 HK2 hrn hrz hdn hdz hdi HN2
  try simp only [List.append_eq, List.cons_append, List.nil_append]
  go_wp2
  exact bodyPost_ret (v := .bool true) (by simp [results, Tryd.results7]) rfl ⟨rfl, HK3.out⟩
end Go.Proofs.YtffpanlpbdnafaaDoor
