/- Texts merged by pack.py: Pa, Hgp, Pb, It. -/
import Derived.Test.YtimggloacjbnjaaCx3
import Derived.Test.YtimggloacjbnjaaCx4
import Derived.Test.YtimggloacjbnjaaCx7
/- What is got was put so: plain laws of reading a transaction. -/
set_option linter.unusedSimpArgs false
set_option linter.unusedVariables false
namespace Go.Proofs.Ytimggloacjbnjaa
open Go.RowKit

/-- Bytes from a place to a place. -/
def sl (b : List UInt8) (i j : Nat) : List UInt8 := (b.drop i).take (j - i)
theorem sl_app {b : List UInt8} {i j k : Nat} (h1 : i ≤ j) (h2 : j ≤ k) : sl b i j ++ sl b j k = sl b i k := by
  unfold sl
  have e : b.drop j = (b.drop i).drop (j - i) := by rw [List.drop_drop]; congr 1; omega
  rw [e, show k - i = (j - i) + (k - j) by omega, List.take_add]
theorem sl_len {b : List UInt8} {i j : Nat} (h : j ≤ b.length) : (sl b i j).length = j - i := by
  unfold sl; rw [List.length_take, List.length_drop]; omega
theorem sl_zero (b : List UInt8) (j : Nat) : sl b 0 j = b.take j := by unfold sl; rw [List.drop_zero, Nat.sub_zero]
theorem sl_self (b : List UInt8) (i : Nat) : sl b i i = [] := by unfold sl; rw [Nat.sub_self, List.take_zero]
theorem sl_add (b : List UInt8) (i m : Nat) : sl b i (i + m) = (b.drop i).take m := by unfold sl; rw [show i + m - i = m by omega]
theorem sl_end (b : List UInt8) (i : Nat) : sl b i b.length = b.drop i := by
  unfold sl; rw [List.take_of_length_le (by rw [List.length_drop]; exact Nat.le_refl _)]

theorem tk_ok {b : List UInt8} {m : Nat} {p : SP} (h : (tkP b m p).2 = 0) : p.2 = 0 ∧ p.1 + m ≤ b.length ∧ (tkP b m p).1 = p.1 + m := by
  unfold tkP at h ⊢
  by_cases h0 : p.2 = 0
  · rw [if_pos h0] at h ⊢
    by_cases h1 : p.1 + m ≤ b.length
    · rw [if_pos h1]; exact ⟨h0, h1, rfl⟩
    · rw [if_neg h1] at h; cases h
  · rw [if_neg h0] at h; exact absurd h h0
theorem tkB_ok {b : List UInt8} {m : Nat} {p : SP} (h : (tkP b m p).2 = 0) : tkB b m p = sl b p.1 (p.1 + m) ∧ (tkB b m p).length = m := by
  obtain ⟨h0, h1, -⟩ := tk_ok h
  have e : tkB b m p = sl b p.1 (p.1 + m) := by rw [sl_add]; unfold tkB; rw [if_pos ⟨h0, h1⟩]
  exact ⟨e, by rw [e, sl_len h1]; omega⟩
theorem num_ok {b : List UInt8} {m : Nat} {p : SP} (h : (tkP b m p).2 = 0) : loN (nmV b m p) m = sl b p.1 (tkP b m p).1 ∧ nmV b m p < 2 ^ (8 * m) := by
  obtain ⟨e, hl⟩ := tkB_ok h
  have q := lo_numN (b := tkB b m p) (k := m) (by omega)
  unfold nmV
  rw [hl]
  refine ⟨?_, numN_lt _ _⟩
  rw [q, (tk_ok h).2.2, ← e, List.take_of_length_le (by omega)]
theorem num32_ok {b : List UInt8} {p : SP} (h : (tkP b 4 p).2 = 0) : loN (UInt32.ofNat (nmV b 4 p)).toNat 4 = sl b p.1 (tkP b 4 p).1 := by
  obtain ⟨h1, h2⟩ := num_ok h
  rw [UInt32.toNat_ofNat', Nat.mod_eq_of_lt (by simpa using h2), h1]
theorem bnd_ok {d : List UInt8} {most : Nat} (h : (bndN d most).2.2 = 0) : cptL (bndN d most).1 = d.take (bndN d most).2.1 ∧ (bndN d most).2.1 ≤ d.length ∧ (bndN d most).1 ≤ most ∧ (bndN d most).2.1 = sizN (bndN d most).1 := by
  have hr := bnd_rng d most h
  have e : bndN d most = cgetN d := by
    unfold bndN at h ⊢
    by_cases h0 : (cgetN d).2.2 = 0
    · rw [if_pos h0] at h ⊢
      by_cases h1 : most < (cgetN d).1 ∨ 2147483647 < (cgetN d).1
      · rw [if_pos h1] at h; cases h
      · rw [if_neg h1]
    · rw [if_neg h0] at h; exact absurd h h0
  have hc : cgetN d = ((bndN d most).1, (bndN d most).2.1, 0) := by
    rw [← e]; exact Prod.ext rfl (Prod.ext rfl h)
  obtain ⟨a, b, c, -⟩ := cget_once hc
  exact ⟨b.symm, a, hr.1, c⟩
theorem byt_ok {d : List UInt8} {most : Nat} (h : (bytN d most).2.2 = 0) : scL (bytN d most).1 = d.take (bytN d most).2.1 ∧ (bytN d most).2.1 ≤ d.length ∧ (bytN d most).1.length ≤ most := by
  have hb : (bndN d most).2.2 = 0 := by
    unfold bytN at h
    by_cases h0 : (bndN d most).2.2 = 0
    · exact h0
    · rw [if_neg h0] at h; exact absurd h h0
  obtain ⟨h1, h2, h3, -⟩ := bnd_ok hb
  have hl : ¬ d.length - (bndN d most).2.1 < (bndN d most).1 := fun q => by
    unfold bytN at h
    rw [if_pos hb, if_pos q] at h; cases h
  have e : bytN d most = ((d.drop (bndN d most).2.1).take (bndN d most).1, (bndN d most).2.1 + (bndN d most).1, 0) := by
    unfold bytN; rw [if_pos hb, if_neg hl]
  rw [e]
  simp only
  have hlen : ((d.drop (bndN d most).2.1).take (bndN d most).1).length = (bndN d most).1 := by rw [List.length_take, List.length_drop]; omega
  refine ⟨?_, by omega, by rw [hlen]; exact h3⟩
  unfold scL
  rw [hlen, h1, List.take_add]
theorem ct_ok {b : List UInt8} {most : Nat} {p : SP} (hp : p.1 ≤ b.length) (h : (ctP b most p).2 = 0) : p.2 = 0 ∧ cptL (ctV b most p) = sl b p.1 (ctP b most p).1 ∧ p.1 ≤ (ctP b most p).1 ∧ (ctP b most p).1 ≤ b.length ∧ ctV b most p ≤ most := by
  have h0 : p.2 = 0 := by
    unfold ctP at h
    by_cases q : p.2 = 0
    · exact q
    · rw [if_neg q] at h; exact absurd h q
  have e : ctP b most p = (p.1 + (bndN (b.drop p.1) most).2.1, (bndN (b.drop p.1) most).2.2) := by unfold ctP; rw [if_pos h0]
  have ev : ctV b most p = (bndN (b.drop p.1) most).1 := by unfold ctV; rw [if_pos h0]
  rw [e] at h ⊢
  rw [ev]
  simp only at h ⊢
  obtain ⟨h1, h2, h3, -⟩ := bnd_ok h
  rw [List.length_drop] at h2
  exact ⟨h0, by rw [sl_add, h1], by omega, by omega, h3⟩
theorem sc_ok {b : List UInt8} {p : SP} (hp : p.1 ≤ b.length) (h : (scP b p).2 = 0) : p.2 = 0 ∧ scL (scV b p) = sl b p.1 (scP b p).1 ∧ p.1 ≤ (scP b p).1 ∧ (scP b p).1 ≤ b.length ∧ (scV b p).length ≤ 10000 := by
  have h0 : p.2 = 0 := by
    unfold scP at h
    by_cases q : p.2 = 0
    · exact q
    · rw [if_neg q] at h; exact absurd h q
  have e : scP b p = (p.1 + (bytN (b.drop p.1) 10000).2.1, (bytN (b.drop p.1) 10000).2.2) := by unfold scP; rw [if_pos h0]
  have ev : scV b p = (bytN (b.drop p.1) 10000).1 := by unfold scV; rw [if_pos h0]
  rw [e] at h ⊢
  rw [ev]
  simp only at h ⊢
  obtain ⟨h1, h2, h3⟩ := byt_ok h
  rw [List.length_drop] at h2
  exact ⟨h0, by rw [sl_add, h1], by omega, by omega, h3⟩
theorem in_ok {b : List UInt8} {p : SP} (hp : p.1 ≤ b.length) (h : (inS b p).2.2 = 0) : p.2 = 0 ∧ inL (inS b p).1 = sl b p.1 (inS b p).2.1 ∧ p.1 ≤ (inS b p).2.1 ∧ (inS b p).2.1 ≤ b.length ∧ (inS b p).1.prev.length = 32 ∧ (inS b p).1.sc.length ≤ 10000 := by
  unfold inS at h ⊢
  simp only at h ⊢
  obtain ⟨h4, l4, e4⟩ := tk_ok h
  have n4 := num32_ok h
  have hp1 := tkP_le (b := b) (m := 32) hp
  have hp2 := tkP_le (b := b) (m := 4) hp1
  obtain ⟨h3, s3, a3, b3, c3⟩ := sc_ok hp2 h4
  obtain ⟨h2, l2, e2⟩ := tk_ok h3
  have n2 := num32_ok h3
  obtain ⟨h1, l1, e1⟩ := tk_ok h2
  obtain ⟨t1, tl⟩ := tkB_ok h2
  have hpad : padH (tkB b 32 p) = sl b p.1 (tkP b 32 p).1 := by
    unfold padH; rw [tl, show z32.drop 32 = [] from rfl, List.append_nil, t1, e1]
  refine ⟨h1, ?_, by omega, by omega, by unfold padH; rw [tl, show z32.drop 32 = [] from rfl, List.append_nil]; exact tl, c3⟩
  unfold inL
  simp only
  rw [hpad, n2, s3, n4, sl_app a3 (by omega), sl_app (by omega) (by omega), sl_app (by omega) (by omega)]
theorem out_ok {b : List UInt8} {p : SP} (hp : p.1 ≤ b.length) (h : (outS b p).2.2 = 0) : p.2 = 0 ∧ outL (outS b p).1 = sl b p.1 (outS b p).2.1 ∧ p.1 ≤ (outS b p).2.1 ∧ (outS b p).2.1 ≤ b.length ∧ (outS b p).1.val < 2 ^ 64 ∧ (outS b p).1.sc.length ≤ 10000 := by
  unfold outS at h ⊢
  simp only at h ⊢
  have hp1 := tkP_le (b := b) (m := 8) hp
  obtain ⟨h3, s3, a3, b3, c3⟩ := sc_ok hp1 h
  obtain ⟨h2, l2, e2⟩ := tk_ok h3
  have n2 := num_ok h3
  refine ⟨h2, ?_, by omega, by omega, n2.2, c3⟩
  unfold outL
  simp only
  rw [n2.1, s3, sl_app (by omega) a3]
theorem ins_ok {b : List UInt8} : ∀ (n : Nat) {p : SP}, p.1 ≤ b.length → (insS b n p).2.2 = 0 → p.2 = 0 ∧ (insS b n p).1.length = n ∧ (insS b n p).1.flatMap inL = sl b p.1 (insS b n p).2.1 ∧ p.1 ≤ (insS b n p).2.1 ∧ (insS b n p).2.1 ≤ b.length ∧ ∀ x ∈ (insS b n p).1, x.prev.length = 32 ∧ x.sc.length ≤ 10000
  | 0, p, hp, h => by
    unfold insS at h ⊢
    exact ⟨h, rfl, by rw [sl_self]; rfl, Nat.le_refl _, hp, fun x hx => by cases hx⟩
  | n + 1, p, hp, h => by
    by_cases h0 : p.2 = 0
    · unfold insS at h ⊢
      rw [if_pos h0] at h ⊢
      simp only at h ⊢
      obtain ⟨a1, a2, a3, a4, a5, a6⟩ := ins_ok n (inS_le hp) h
      obtain ⟨c1, c2, c3, c4, c5, c6⟩ := in_ok hp a1
      refine ⟨h0, by rw [List.length_cons, a2], ?_, by omega, a5, fun x hx => ?_⟩
      · rw [List.flatMap_cons, c2, a3, sl_app c3 a4]
      · rcases List.mem_cons.1 hx with rfl | q
        · exact ⟨c5, c6⟩
        · exact a6 x q
    · rw [insS_err b _ h0] at h
      exact absurd h h0
theorem outs_ok {b : List UInt8} : ∀ (n : Nat) {p : SP}, p.1 ≤ b.length → (outsS b n p).2.2 = 0 → p.2 = 0 ∧ (outsS b n p).1.length = n ∧ (outsS b n p).1.flatMap outL = sl b p.1 (outsS b n p).2.1 ∧ p.1 ≤ (outsS b n p).2.1 ∧ (outsS b n p).2.1 ≤ b.length ∧ ∀ x ∈ (outsS b n p).1, x.val < 2 ^ 64 ∧ x.sc.length ≤ 10000
  | 0, p, hp, h => by
    unfold outsS at h ⊢
    exact ⟨h, rfl, by rw [sl_self]; rfl, Nat.le_refl _, hp, fun x hx => by cases hx⟩
  | n + 1, p, hp, h => by
    by_cases h0 : p.2 = 0
    · unfold outsS at h ⊢
      rw [if_pos h0] at h ⊢
      simp only at h ⊢
      obtain ⟨a1, a2, a3, a4, a5, a6⟩ := outs_ok n (outS_le hp) h
      obtain ⟨c1, c2, c3, c4, c5, c6⟩ := out_ok hp a1
      refine ⟨h0, by rw [List.length_cons, a2], ?_, by omega, a5, fun x hx => ?_⟩
      · rw [List.flatMap_cons, c2, a3, sl_app c3 a4]
      · rcases List.mem_cons.1 hx with rfl | q
        · exact ⟨c5, c6⟩
        · exact a6 x q
    · rw [outsS_err b _ h0] at h
      exact absurd h h0
theorem cnt_ok {n : Nat} {p : SP} (h : (cntE n p).2 = 0) : cntE n p = p ∧ n ≠ 0 ∧ p.2 = 0 := by
  unfold cntE at h ⊢
  by_cases q : p.2 = 0 ∧ n = 0
  · rw [if_pos q] at h; cases h
  · rw [if_neg q] at h ⊢
    exact ⟨rfl, fun e => q ⟨h, e⟩, h⟩
theorem tget_ok {b : List UInt8} (h : (tgetS b).2.2 = 0) : txL (tgetS b).1 = b.take (tgetS b).2.1 ∧ (tgetS b).2.1 ≤ b.length ∧ saneT (tgetS b).1 = true ∧ (∀ x ∈ (tgetS b).1.ins, x.prev.length = 32) ∧ ∀ x ∈ (tgetS b).1.outs, x.val < 2 ^ 64 := by
  unfold tgetS at h ⊢
  simp only at h ⊢
  have q1 := tkP_le (b := b) (m := 4) (p := (0, 0)) (Nat.zero_le _)
  have q2 := ctP_le (b := b) (m := 1000) q1
  generalize hp1 : tkP b 4 (0, 0) = p1 at *
  generalize hc2 : ctP b 1000 p1 = p2 at *
  generalize hn : ctV b 1000 p1 = n at *
  have q3 : (cntE n p2).1 ≤ b.length := by unfold cntE; split <;> exact q2
  have q4 := insS_le n q3
  generalize hI : insS b n (cntE n p2) = I at *
  have q5 := ctP_le (b := b) (m := 1000) q4
  generalize hc3 : ctP b 1000 I.2 = p5 at *
  generalize hm : ctV b 1000 I.2 = m at *
  have q6 := outsS_le m q5
  generalize hO : outsS b m p5 = O at *
  have n7 := num32_ok h
  obtain ⟨h6, l6, e6⟩ := tk_ok h
  have o := outs_ok (b := b) m q5 (by rw [hO]; exact h6)
  rw [hO] at o
  obtain ⟨o1, o2, o3, o4, o5, o6⟩ := o
  have c := ct_ok (b := b) (most := 1000) q4 (by rw [hc3]; exact o1)
  rw [hc3, hm] at c
  obtain ⟨c1, c2, c3, c4, c5⟩ := c
  have i := ins_ok (b := b) n q3 (by rw [hI]; exact c1)
  rw [hI] at i
  obtain ⟨i1, i2, i3, i4, i5, i6⟩ := i
  obtain ⟨k1, k2, k3⟩ := cnt_ok i1
  rw [k1] at i3 i4
  have d := ct_ok (b := b) (most := 1000) q1 (by rw [hc2]; exact k3)
  rw [hc2, hn] at d
  obtain ⟨d1, d2, d3, d4, d5⟩ := d
  have t := tk_ok (b := b) (m := 4) (p := (0, 0)) (by rw [hp1]; exact d1)
  have t2 := num32_ok (b := b) (p := (0, 0)) (by rw [hp1]; exact d1)
  rw [hp1] at t t2
  obtain ⟨t0, tl, te⟩ := t
  simp only at t2 te tl
  refine ⟨?_, by omega, ?_, fun x hx => (i6 x hx).1, fun x hx => (o6 x hx).1⟩
  · unfold txL
    simp only
    rw [t2, i2, d2, i3, o2, c2, o3, n7, sl_app o4 (by omega), sl_app c3 (by omega), sl_app i4 (by omega), sl_app d3 (by omega), sl_app (by omega) (by omega), sl_zero]
  · unfold saneT
    rw [decide_eq_true_eq]
    simp only
    exact ⟨by omega, by omega, by omega, fun x hx => (i6 x hx).2, fun x hx => (o6 x hx).2⟩
end Go.Proofs.Ytimggloacjbnjaa

/- A header's bytes are a header: plain. -/
set_option linter.unusedSimpArgs false
set_option linter.unusedVariables false
namespace Go.Proofs.Ytimggloacjbnjaa
open Go.RowKit

theorem w8_nat {n : Int} (h0 : 0 ≤ n) (h1 : n ≤ 255) : ((w8 n).toNat : Int) = n := (w8_of h0 h1).symm
theorem num32_le4 (x : UInt32) (l : List UInt8) : num32 (le4 x ++ l) = x := by
  have hx := w32_hi x
  have e : numE (le4 x ++ l) 4 = x.toNat := by
    simp only [numE, le4, List.cons_append, List.nil_append, List.getD_cons_succ, List.getD_cons_zero]
    have g : ∀ k, ((w8 (leE x k)).toNat : Int) = leE x k := fun k => w8_nat (by unfold leE; omega) (by unfold leE; omega)
    simp only [g]
    unfold leE
    omega
  unfold num32 w32
  rw [e]
  simp
theorem hget_put {h : Hd} (hk : h.ok) : hgetL (hputL h) = h := by
  unfold hgetL hputL
  have l4 : ∀ x, (le4 x).length = 4 := fun _ => rfl
  have d4 : (le4 h.ver ++ (h.prev ++ (h.root ++ (le4 h.time ++ (le4 h.bits ++ le4 h.nonce))))).drop 4 = h.prev ++ (h.root ++ (le4 h.time ++ (le4 h.bits ++ le4 h.nonce))) := List.drop_left' (l4 _)
  have dn : ∀ k, (le4 h.ver ++ (h.prev ++ (h.root ++ (le4 h.time ++ (le4 h.bits ++ le4 h.nonce))))).drop (4 + k) = (h.prev ++ (h.root ++ (le4 h.time ++ (le4 h.bits ++ le4 h.nonce)))).drop k := fun k => by rw [← List.drop_drop, d4]
  have dn2 : ∀ k, (le4 h.ver ++ (h.prev ++ (h.root ++ (le4 h.time ++ (le4 h.bits ++ le4 h.nonce))))).drop (36 + k) = (h.root ++ (le4 h.time ++ (le4 h.bits ++ le4 h.nonce))).drop k := fun k => by
    rw [show 36 + k = 4 + (32 + k) by omega, dn, ← List.drop_drop, List.drop_left' hk.1]
  have dn3 : ∀ k, (le4 h.ver ++ (h.prev ++ (h.root ++ (le4 h.time ++ (le4 h.bits ++ le4 h.nonce))))).drop (68 + k) = (le4 h.time ++ (le4 h.bits ++ le4 h.nonce)).drop k := fun k => by
    rw [show 68 + k = 36 + (32 + k) by omega, dn2, ← List.drop_drop, List.drop_left' hk.2]
  have e36 := dn2 0; have e68 := dn3 0; have e72 := dn3 4; have e76 := dn3 8
  rw [List.drop_zero] at e36 e68
  rw [List.drop_left' (l4 _)] at e72
  have e8 : (le4 h.time ++ (le4 h.bits ++ le4 h.nonce)).drop (4 + 4) = le4 h.nonce := by rw [← List.drop_drop, List.drop_left' (l4 _), List.drop_left' (l4 _)]
  have e76' := e76.trans e8
  rw [d4, e36, e68, e72, e76', num32_le4, num32_le4, num32_le4, List.take_left' hk.1, List.take_left' hk.2]
  have := num32_le4 h.nonce []
  rw [List.append_nil] at this
  rw [this]
theorem le4_inj {x y : UInt32} (h : le4 x = le4 y) : x = y := by
  have h1 := num32_le4 x []; have h2 := num32_le4 y []
  rw [← h1, ← h2, h]
theorem le4_num {a b c d : UInt8} (l : List UInt8) : le4 (num32 (a :: b :: c :: d :: l)) = [a, b, c, d] := by
  have e : (num32 (a :: b :: c :: d :: l)).toNat = a.toNat + 256 * b.toNat + 65536 * c.toNat + 16777216 * d.toNat := by
    have ha := a.toNat_lt; have hb := b.toNat_lt; have hc := c.toNat_lt; have hd := d.toNat_lt
    have h := w32_of (n := numE (a :: b :: c :: d :: l) 4) (numE_rng _ 4).1 (by have := (numE_rng (a :: b :: c :: d :: l) 4).2; omega)
    have e4 : numE (a :: b :: c :: d :: l) 4 = a.toNat + 256 * b.toNat + 65536 * c.toNat + 16777216 * d.toNat := by
      simp only [numE, List.getD_cons_succ, List.getD_cons_zero]; omega
    rw [e4] at h
    unfold num32
    rw [e4]
    omega
  have g : ∀ (n : Int) (x : UInt8), n = x.toNat → w8 n = x := fun n x h => by
    apply UInt8.toNat_inj.1
    have := w8_nat (n := n) (by omega) (by have := x.toNat_lt; omega)
    omega
  have ha := a.toNat_lt; have hb := b.toNat_lt; have hc := c.toNat_lt; have hd := d.toNat_lt
  unfold le4 leE
  rw [e]
  rw [g _ a (by omega), g _ b (by omega), g _ c (by omega), g _ d (by omega)]
theorem le4_num4 {l : List UInt8} (h : 4 ≤ l.length) : le4 (num32 l) = l.take 4 := by
  rcases l with _ | ⟨a, _ | ⟨b, _ | ⟨c, _ | ⟨d, l⟩⟩⟩⟩ <;> simp at h
  rw [le4_num]; rfl
theorem hput_get {b : List UInt8} (h : b.length = 80) : hputL (hgetL b) = b := by
  unfold hgetL hputL
  rw [le4_num4 (by omega), le4_num4 (by rw [List.length_drop]; omega), le4_num4 (by rw [List.length_drop]; omega), le4_num4 (by rw [List.length_drop]; omega)]
  have e1 : b.drop 72 = (b.drop 72).take 4 ++ b.drop 76 := by
    have := (List.take_append_drop 4 (b.drop 72)).symm; rwa [List.drop_drop] at this
  have e2 : b.drop 68 = (b.drop 68).take 4 ++ b.drop 72 := by
    have := (List.take_append_drop 4 (b.drop 68)).symm; rwa [List.drop_drop] at this
  have e3 : b.drop 36 = (b.drop 36).take 32 ++ b.drop 68 := by
    have := (List.take_append_drop 32 (b.drop 36)).symm; rwa [List.drop_drop] at this
  have e4 : b.drop 4 = (b.drop 4).take 32 ++ b.drop 36 := by
    have := (List.take_append_drop 32 (b.drop 4)).symm; rwa [List.drop_drop] at this
  rw [show (b.drop 76).take 4 = b.drop 76 from List.take_of_length_le (by rw [List.length_drop]; omega), ← e1, ← e2, ← e3, ← e4, List.take_append_drop]
end Go.Proofs.Ytimggloacjbnjaa

/- What is got was put so: parts and messages. -/
set_option linter.unusedSimpArgs false
set_option linter.unusedVariables false
namespace Go.Proofs.Ytimggloacjbnjaa
open Go.RowKit

theorem hshs_sl {b : List UInt8} {a : Nat} : ∀ {n : Nat}, a + n * 32 ≤ b.length → (hshs b a n).flatten = sl b a (a + n * 32)
  | 0, _ => by rw [Nat.zero_mul, Nat.add_zero, sl_self]; rfl
  | n + 1, h => by
    rw [hshs_succ, List.flatten_append, hshs_sl (by omega)]
    have e : [(b.drop (a + n * 32)).take 32].flatten = sl b (a + n * 32) (a + n * 32 + 32) := by rw [sl_add]; simp
    rw [e, sl_app (by omega) (by omega)]
    congr 1; omega
theorem itmOf_sl {b : List UInt8} {a : Nat} (h : a + 36 ≤ b.length) : itL (itmOf b a) = sl b a (a + 36) := by
  unfold itL itmOf
  simp only
  have h1 := lo_numN (b := b.drop a) (k := 4) (by rw [List.length_drop]; omega)
  rw [UInt32.toNat_ofNat', Nat.mod_eq_of_lt (by have := numN_lt (b.drop a) 4; omega), h1, ← sl_add, ← sl_add, sl_app (by omega) (by omega)]
theorem itms_sl {b : List UInt8} {a : Nat} : ∀ {n : Nat}, a + n * 36 ≤ b.length → (itms b a n).flatMap itL = sl b a (a + n * 36)
  | 0, _ => by rw [Nat.zero_mul, Nat.add_zero, sl_self]; rfl
  | n + 1, h => by
    rw [itms_succ, List.flatMap_append, itms_sl (by omega)]
    have e : [itmOf b (a + n * 36)].flatMap itL = sl b (a + n * 36) (a + n * 36 + 36) := by
      rw [← itmOf_sl (by omega)]; simp
    rw [e, sl_app (by omega) (by omega)]
    congr 1; omega
theorem hgal_sl {b : List UInt8} : ∀ (n a : Nat), a ≤ b.length → (hgal b n a).2 = 0 → (hgal b n a).1.length = n ∧ hpa (hgal b n a).1 = b.drop a
  | 0, a, ha, h => by
    unfold hgal at h ⊢
    by_cases q : b.length ≤ a
    · rw [if_pos q]; exact ⟨rfl, by rw [List.drop_eq_nil_of_le q]; rfl⟩
    · rw [if_neg q] at h; cases h
  | n + 1, a, ha, h => by
    unfold hgal at h ⊢
    by_cases q : b.length ≤ a + 80
    · rw [if_pos q] at h; cases h
    · rw [if_neg q] at h ⊢
      by_cases q2 : b.getD (a + 80) 0 = 0
      · rw [if_pos q2] at h ⊢
        by_cases q3 : (hgal b n (a + 81)).2 = 0
        · rw [if_pos q3] at h ⊢
          obtain ⟨h1, h2⟩ := hgal_sl n (a + 81) (by omega) q3
          refine ⟨by rw [List.length_cons, h1], ?_⟩
          simp only
          unfold hpa at h2 ⊢
          rw [List.flatMap_cons, h2, hput_get (by rw [List.length_take, List.length_drop]; omega)]
          have e0 : [(0 : UInt8)] = sl b (a + 80) (a + 81) := by
            rw [List.getD_eq_getElem?_getD, List.getElem?_eq_getElem (show a + 80 < b.length by omega)] at q2
            unfold sl
            rw [show a + 81 - (a + 80) = 1 by omega, List.drop_eq_getElem_cons (show a + 80 < b.length by omega), List.take_succ_cons, List.take_zero, ← q2]
            rfl
          rw [← sl_add, e0, sl_app (by omega) (by omega), ← sl_end, ← sl_end, sl_app (by omega) (by omega)]
        · rw [if_neg q3] at h; exact absurd h q3
      · rw [if_neg q2] at h; cases h
theorem hgall_once {b : List UInt8} (h : (hgall b).2 = 0) : hpall (hgall b).1 = b ∧ (hgall b).1.length ≤ 2000 := by
  unfold hgall at h ⊢
  by_cases h0 : (bndN b 2000).2.2 = 0
  · rw [if_pos h0] at h ⊢
    obtain ⟨b1, b2, b3, -⟩ := bnd_ok h0
    obtain ⟨h1, h2⟩ := hgal_sl _ _ b2 h
    refine ⟨?_, by omega⟩
    unfold hpall
    rw [h1, h2, b1, List.take_append_drop]
  · rw [if_neg h0] at h; exact absurd h h0
theorem ths_once {b : List UInt8} {most : Nat} (h : (thsN b most).2.2 = 0) : cptL (thsN b most).1.length ++ (thsN b most).1.flatten = b.take (thsN b most).2.1 ∧ (thsN b most).1.length ≤ most := by
  unfold thsN at h ⊢
  by_cases h0 : (bndN b most).2.2 = 0
  · rw [if_pos h0] at h ⊢
    obtain ⟨b1, b2, b3, -⟩ := bnd_ok h0
    by_cases h1 : b.length < (bndN b most).2.1 + (bndN b most).1 * 32
    · rw [if_pos h1] at h; cases h
    · rw [if_neg h1]
      simp only
      rw [hshs_len, hshs_sl (by omega), b1, ← sl_zero, sl_app (Nat.zero_le _) (by omega), sl_zero]
      exact ⟨rfl, b3⟩
  · rw [if_neg h0] at h; exact absurd h h0
theorem tit_once {b : List UInt8} (h : (titN b).2.2 = 0) : cptL (titN b).1.length ++ (titN b).1.flatMap itL = b.take (titN b).2.1 ∧ (titN b).1.length ≤ 50000 := by
  unfold titN at h ⊢
  by_cases h0 : (bndN b 50000).2.2 = 0
  · rw [if_pos h0] at h ⊢
    obtain ⟨b1, b2, b3, -⟩ := bnd_ok h0
    by_cases h1 : b.length < (bndN b 50000).2.1 + (bndN b 50000).1 * 36
    · rw [if_pos h1] at h; cases h
    · rw [if_neg h1]
      simp only
      rw [itms_len, itms_sl (by omega), b1, ← sl_zero, sl_app (Nat.zero_le _) (by omega), sl_zero]
      exact ⟨rfl, b3⟩
  · rw [if_neg h0] at h; exact absurd h h0
theorem if10 {c : Prop} [Decidable c] (h : (if c then (1 : Int) else 0) = 0) : ¬ c := fun q => by rw [if_pos q] at h; cases h
/-- What a part may be, if its message fits. -/
def PV.lim : PV → Prop
  | .hsh _ l _ most => l.length ≤ most
  | .heads _ l _ => l.length ≤ 2000
  | .items _ l _ => l.length ≤ 50000
  | .bytes _ l _ => l.length ≤ 1024
  | .tx t => saneT t = true
  | _ => True
def PV.mst : PV → Nat
  | .hsh _ _ _ most => most
  | _ => 0
theorem tak_mst (p : PV) (b : List UInt8) : (p.tak b).1.mst = p.mst := by cases p <;> first | exact Eq.refl (0 : Nat) | exact Eq.refl _
theorem tak_once (p : PV) (b : List UInt8) (h : (p.tak b).2.2 = 0) : layL (p.tak b).1 = b.take (p.tak b).2.1 ∧ (p.tak b).1.lim := by
  cases p with
  | u32 x =>
    have q := if10 (c := b.length < 4) h
    refine ⟨?_, trivial⟩
    show loN (UInt32.ofNat (if b.length < 4 then 0 else numN b 4)).toNat 4 = b.take 4
    rw [if_neg q, UInt32.toNat_ofNat', Nat.mod_eq_of_lt (by have := numN_lt b 4; omega), lo_numN (by omega)]
  | u64 x =>
    have q := if10 (c := b.length < 8) h
    refine ⟨?_, trivial⟩
    show loN (if b.length < 8 then 0 else numN b 8) 8 = b.take 8
    rw [if_neg q, lo_numN (by omega)]
  | hsh A l c most => exact ths_once h
  | h32 s =>
    have q := if10 (c := b.length < 32) h
    refine ⟨?_, trivial⟩
    show b.take 32 = b.take (if b.length < 32 then 0 else 32)
    rw [if_neg q]
  | heads A l c =>
    have q := hgall_once (b := b) h
    refine ⟨?_, q.2⟩
    show hpall (hgall b).1 = b.take b.length
    rw [q.1, List.take_length]
  | items A l c => exact tit_once h
  | head x =>
    have q := if10 (c := b.length < 80) h
    refine ⟨?_, trivial⟩
    show hputL (hgetL (b.take 80)) = b.take 80
    rw [hput_get (by rw [List.length_take]; omega)]
  | bytes A l c =>
    have q := byt_ok (d := b) (most := 1024) h
    exact ⟨q.1, q.2.2⟩
  | tx t =>
    have h1 : (tgetN b).2.2 = 0 := h
    have h0 : (tgetS b).2.2 = 0 := by
      unfold tgetN at h1
      by_cases q : (tgetS b).2.2 = 0
      · exact q
      · rw [if_neg q] at h1; exact absurd h1 q
    have e : tgetN b = ((tgetS b).1, (tgetS b).2.1, 0) := by unfold tgetN; rw [if_pos h0]
    obtain ⟨t1, t2, t3, -⟩ := tget_ok h0
    have e1 : (tgetN b).1 = (tgetS b).1 := by rw [e]
    have e2 : (tgetN b).2.1 = (tgetS b).2.1 := by rw [e]
    refine ⟨?_, ?_⟩
    · show (if saneT (tgetN b).1 = true then txL (tgetN b).1 else []) = b.take (tgetN b).2.1
      rw [e1, e2, if_pos t3, t1]
    · show saneT (tgetN b).1 = true
      rw [e1]; exact t3
theorem gets_once : ∀ (ps : List PV) (b : List UInt8), (getsN ps b).2.2 = 0 → (getsN ps b).1.flatMap layL ++ (getsN ps b).2.1 = b ∧ (getsN ps b).1.map PV.mst = ps.map PV.mst ∧ ∀ q ∈ (getsN ps b).1, q.lim := by
  intro ps
  induction ps with
  | nil => intro b _; rw [gets_nil]; exact ⟨rfl, rfl, fun q hq => by cases hq⟩
  | cons p ps ih =>
    intro b h
    by_cases h0 : (p.tak b).2.2 = 0
    · rw [gets_ok p ps b h0] at h ⊢
      obtain ⟨i1, i2, i3⟩ := ih _ h
      obtain ⟨t1, t2⟩ := tak_once p b h0
      have t3 := tak_mst p b
      generalize hR : getsN ps (b.drop (p.tak b).2.1) = R at *
      generalize hk : (p.tak b).2.1 = k at *
      generalize (p.tak b).1 = x at *
      refine ⟨?_, ?_, ?_⟩
      · show (x :: R.1).flatMap layL ++ R.2.1 = b
        rw [List.flatMap_cons, List.append_assoc, i1, t1, List.take_append_drop]
      · show (x :: R.1).map PV.mst = _
        rw [List.map_cons, List.map_cons, i2, t3]
      · intro q hq
        rcases List.mem_cons.1 hq with rfl | hq
        · exact t2
        · exact i3 q hq
    · rw [gets_bad p ps b h0] at h
      exact absurd h h0
theorem nothing_Z (k : Int) : nothingB (msgZ k) = true := by kernel_rfl
theorem fits_mk {m : MsgR} (k : Int) (hk : m.kind = k) (h0 : 0 ≤ k ∧ k < 11) (h2 : m.ls.length ≤ 101) (h3 : m.hs.length ≤ 2000) (h4 : m.is.length ≤ 50000) (h5 : m.shs.length ≤ 4096) (h6 : m.fs.length ≤ 1024) (h7 : k = 10 → saneT m.t = true) (h8 : othersM m = msgZ k) : fitsB m = true := by
  unfold fitsB
  rw [decide_eq_true_eq, hk]
  exact ⟨h0.1, h0.2, h2, h3, h4, h5, h6, h7, by rw [h8]; exact nothing_Z k⟩
theorem put_mk {m : MsgR} (h : fitsB m = true) {l : List UInt8} (e : (partsM m).flatMap layL = l) : putL m = l := by unfold putL; rw [if_pos h, e]
theorem ne10 {k : Int} {c : Prop} (h : ¬ k = 10) : k = 10 → c := fun q => absurd q h

theorem msg_once (k : Nat) (hk : k < 11) (qs : List PV) (ht : qs.map PV.tag = (partsM (msgZ k)).map PV.tag) (hm : qs.map PV.mst = (partsM (msgZ k)).map PV.mst) (hl : ∀ q ∈ qs, q.lim) :
    fitsB (msgOf k qs) = true ∧ putL (msgOf k qs) = qs.flatMap layL ∧ (msgOf k qs).kind = k := by
  obtain rfl | rfl | rfl | rfl | rfl | rfl | rfl | rfl | rfl | rfl | rfl : k = 0 ∨ k = 1 ∨ k = 2 ∨ k = 3 ∨ k = 4 ∨ k = 5 ∨ k = 6 ∨ k = 7 ∨ k = 8 ∨ k = 9 ∨ k = 10 := by omega
  · obtain ⟨a, b, d, rfl, ha, hb, hd⟩ := tags3 (x := 0) (y := 1) (z := 0) ht
    obtain ⟨p, rfl⟩ := tag0 ha; obtain ⟨n, rfl⟩ := tag1 hb; obtain ⟨h, rfl⟩ := tag0 hd
    have f : fitsB { msgZ ((0 : Nat) : Int) with proto := p, nonce := n, height := h } = true := fits_mk 0 rfl (by decide) (Nat.zero_le _) (Nat.zero_le _) (Nat.zero_le _) (Nat.zero_le _) (Nat.zero_le _) (fun e => absurd e (by decide)) rfl
    exact ⟨f, put_mk f rfl, rfl⟩
  · have : qs = [] := by cases qs with
      | nil => rfl
      | cons a l => cases ht
    subst this
    have f : fitsB (msgZ ((1 : Nat) : Int)) = true := fits_mk 1 rfl (by decide) (Nat.zero_le _) (Nat.zero_le _) (Nat.zero_le _) (Nat.zero_le _) (Nat.zero_le _) (fun e => absurd e (by decide)) rfl
    exact ⟨f, put_mk f rfl, rfl⟩
  · obtain ⟨a, rfl, ha⟩ := tags1 (x := 1) ht
    obtain ⟨n, rfl⟩ := tag1 ha
    have f : fitsB { msgZ ((2 : Nat) : Int) with nonce := n } = true := fits_mk 2 rfl (by decide) (Nat.zero_le _) (Nat.zero_le _) (Nat.zero_le _) (Nat.zero_le _) (Nat.zero_le _) (fun e => absurd e (by decide)) rfl
    exact ⟨f, put_mk f rfl, rfl⟩
  · obtain ⟨a, rfl, ha⟩ := tags1 (x := 1) ht
    obtain ⟨n, rfl⟩ := tag1 ha
    have f : fitsB { msgZ ((3 : Nat) : Int) with nonce := n } = true := fits_mk 3 rfl (by decide) (Nat.zero_le _) (Nat.zero_le _) (Nat.zero_le _) (Nat.zero_le _) (Nat.zero_le _) (fun e => absurd e (by decide)) rfl
    exact ⟨f, put_mk f rfl, rfl⟩
  · obtain ⟨a, b, d, rfl, ha, hb, hd⟩ := tags3 (x := 0) (y := 2) (z := 3) ht
    obtain ⟨p, rfl⟩ := tag0 ha; obtain ⟨lA, l, lc, most, rfl⟩ := tag2 hb; obtain ⟨s, rfl⟩ := tag3 hd
    have e1 : [0, most, 0] = [0, 101, 0] := hm
    obtain rfl : most = 101 := by injection e1 with _ e1; injection e1 with e1 _
    have hq : l.length ≤ 101 := hl (.hsh lA l lc 101) (by simp)
    have f : fitsB { msgZ ((4 : Nat) : Int) with proto := p, lA := lA, ls := l, lc := lc, stop := s } = true := fits_mk 4 rfl (by decide) hq (Nat.zero_le _) (Nat.zero_le _) (Nat.zero_le _) (Nat.zero_le _) (fun e => absurd e (by decide)) rfl
    exact ⟨f, put_mk f rfl, rfl⟩
  · obtain ⟨a, rfl, ha⟩ := tags1 (x := 4) ht
    obtain ⟨lA, l, lc, rfl⟩ := tag4 ha
    have hq : l.length ≤ 2000 := hl (.heads lA l lc) (by simp)
    have f : fitsB { msgZ ((5 : Nat) : Int) with hA := lA, hs := l, hc := lc } = true := fits_mk 5 rfl (by decide) (Nat.zero_le _) hq (Nat.zero_le _) (Nat.zero_le _) (Nat.zero_le _) (fun e => absurd e (by decide)) rfl
    exact ⟨f, put_mk f rfl, rfl⟩
  · obtain ⟨a, rfl, ha⟩ := tags1 (x := 5) ht
    obtain ⟨lA, l, lc, rfl⟩ := tag5 ha
    have hq : l.length ≤ 50000 := hl (.items lA l lc) (by simp)
    have f : fitsB { msgZ ((6 : Nat) : Int) with iA := lA, is := l, ic := lc } = true := fits_mk 6 rfl (by decide) (Nat.zero_le _) (Nat.zero_le _) hq (Nat.zero_le _) (Nat.zero_le _) (fun e => absurd e (by decide)) rfl
    exact ⟨f, put_mk f rfl, rfl⟩
  · obtain ⟨a, rfl, ha⟩ := tags1 (x := 5) ht
    obtain ⟨lA, l, lc, rfl⟩ := tag5 ha
    have hq : l.length ≤ 50000 := hl (.items lA l lc) (by simp)
    have f : fitsB { msgZ ((7 : Nat) : Int) with iA := lA, is := l, ic := lc } = true := fits_mk 7 rfl (by decide) (Nat.zero_le _) (Nat.zero_le _) hq (Nat.zero_le _) (Nat.zero_le _) (fun e => absurd e (by decide)) rfl
    exact ⟨f, put_mk f rfl, rfl⟩
  · obtain ⟨a, rfl, ha⟩ := tags1 (x := 5) ht
    obtain ⟨lA, l, lc, rfl⟩ := tag5 ha
    have hq : l.length ≤ 50000 := hl (.items lA l lc) (by simp)
    have f : fitsB { msgZ ((8 : Nat) : Int) with iA := lA, is := l, ic := lc } = true := fits_mk 8 rfl (by decide) (Nat.zero_le _) (Nat.zero_le _) hq (Nat.zero_le _) (Nat.zero_le _) (fun e => absurd e (by decide)) rfl
    exact ⟨f, put_mk f rfl, rfl⟩
  · obtain ⟨a, b, d, e, rfl, ha, hb, hd, he⟩ := tags4 (x := 6) (y := 0) (z := 2) (u := 7) ht
    obtain ⟨h, rfl⟩ := tag6 ha; obtain ⟨t, rfl⟩ := tag0 hb; obtain ⟨lA, l, lc, most, rfl⟩ := tag2 hd; obtain ⟨fA, f, fc, rfl⟩ := tag7 he
    have e1 : [0, 0, most, 0] = [0, 0, 4096, 0] := hm
    obtain rfl : most = 4096 := by injection e1 with _ e1; injection e1 with _ e1; injection e1 with e1 _
    have hq : l.length ≤ 4096 := hl (.hsh lA l lc 4096) (by simp)
    have hf : f.length ≤ 1024 := hl (.bytes fA f fc) (by simp)
    have f : fitsB { msgZ ((9 : Nat) : Int) with bh := h, total := t, sA := lA, shs := l, sc := lc, fA := fA, fs := f, fc := fc } = true := fits_mk 9 rfl (by decide) (Nat.zero_le _) (Nat.zero_le _) (Nat.zero_le _) hq hf (fun e => absurd e (by decide)) rfl
    exact ⟨f, put_mk f rfl, rfl⟩
  · obtain ⟨a, rfl, ha⟩ := tags1 (x := 8) ht
    obtain ⟨t, rfl⟩ := tag8 ha
    have hq : saneT t = true := hl (.tx t) (by simp)
    have f : fitsB { msgZ ((10 : Nat) : Int) with t := t } = true := fits_mk 10 rfl (by decide) (Nat.zero_le _) (Nat.zero_le _) (Nat.zero_le _) (Nat.zero_le _) (Nat.zero_le _) (fun _ => hq) rfl
    exact ⟨f, put_mk f rfl, rfl⟩
theorem wget_once (s b : List UInt8) (h : (wgetN s b).2 = 0) : (kindN s).2 = true ∧ fitsB (wgetN s b).1 = true ∧ putL (wgetN s b).1 = b ∧ (wgetN s b).1.kind = (kindN s).1 := by
  unfold wgetN at h ⊢
  by_cases h1 : (kindN s).2 = true
  · rw [if_pos h1] at h ⊢
    have hk := (kindN_spec h1).2
    generalize (kindN s).1 = k at *
    by_cases h2 : (getsN (partsM (msgZ k)) b).2.2 = 0
    · rw [if_pos h2] at h ⊢
      obtain ⟨g1, g2, g3⟩ := gets_once _ _ h2
      have g4 := gets_tag _ _ h2
      generalize getsN (partsM (msgZ k)) b = G at *
      by_cases h3 : G.2.1 = []
      · rw [if_pos h3]
        rw [h3, List.append_nil] at g1
        obtain ⟨m1, m2, m3⟩ := msg_once k hk G.1 g4 g2 g3
        exact ⟨h1, m1, m2.trans g1, m3⟩
      · rw [if_neg h3] at h; cases h
    · rw [if_neg h2] at h; exact absurd h h2
  · rw [if_neg h1] at h; cases h
theorem wget_bad (s b : List UInt8) (h : (wgetN s b).2 ≠ 0) : (wgetN s b).1 = msgZ 0 ∧ ((kindN s).2 = false → (wgetN s b).2 = 2) := by
  unfold wgetN at h ⊢
  by_cases h1 : (kindN s).2 = true
  · rw [if_pos h1] at h ⊢
    refine ⟨?_, fun q => by rw [h1] at q; cases q⟩
    generalize getsN (partsM (msgZ (kindN s).1)) b = G at *
    by_cases h2 : G.2.2 = 0
    · rw [if_pos h2] at h ⊢
      by_cases h3 : G.2.1 = []
      · rw [if_pos h3] at h; exact absurd rfl h
      · rw [if_neg h3]
    · rw [if_neg h2]
  · rw [if_neg h1]; exact ⟨rfl, fun _ => rfl⟩
/-- Where the rows lie does not matter. -/
theorem inL_pl (x : InR) : inL x.pl = inL x := rfl
theorem outL_pl (x : OutR) : outL x.pl = outL x := rfl
theorem txL_pl (t : TxR) : txL t.pl = txL t := by
  unfold txL TxR.pl
  simp only [List.length_map, List.flatMap_map]
  rfl
theorem saneT_pl (t : TxR) : saneT t.pl = saneT t := by
  unfold saneT TxR.pl
  simp only [List.length_map, List.mem_map, forall_exists_index, and_imp, forall_apply_eq_imp_iff₂]
  rfl
theorem others_pl (m : MsgR) : othersM m.pl = (othersM m).pl := by
  unfold othersM
  rw [show m.pl.kind = m.kind from rfl]
  by_cases h : m.kind = 0
  · rw [if_pos h, if_pos h]; rfl
  rw [if_neg h, if_neg h]; clear h
  by_cases h : m.kind = 2 ∨ m.kind = 3
  · rw [if_pos h, if_pos h]; rfl
  rw [if_neg h, if_neg h]; clear h
  by_cases h : m.kind = 4
  · rw [if_pos h, if_pos h]; rfl
  rw [if_neg h, if_neg h]; clear h
  by_cases h : m.kind = 5
  · rw [if_pos h, if_pos h]; rfl
  rw [if_neg h, if_neg h]; clear h
  by_cases h : m.kind = 6 ∨ m.kind = 7 ∨ m.kind = 8
  · rw [if_pos h, if_pos h]; rfl
  rw [if_neg h, if_neg h]; clear h
  by_cases h : m.kind = 9
  · rw [if_pos h, if_pos h]; rfl
  rw [if_neg h, if_neg h]; clear h
  by_cases h : m.kind = 10
  · rw [if_pos h, if_pos h]; rfl
  rw [if_neg h, if_neg h]
theorem nothing_pl (m : MsgR) : nothingB m.pl = nothingB m := by
  unfold nothingB MsgR.pl TxR.pl
  simp only [List.length_map]
theorem fits_pl (m : MsgR) : fitsB m.pl = fitsB m := by
  have e1 : nothingB (othersM m.pl) = nothingB (othersM m) := by rw [others_pl, nothing_pl]
  have e2 : saneT m.pl.t = saneT m.t := saneT_pl m.t
  unfold fitsB
  rw [e1, e2]
  rfl
theorem lay_tx_pl (t : TxR) : layL (.tx t.pl) = layL (.tx t) := by
  show (if saneT t.pl = true then txL t.pl else []) = if saneT t = true then txL t else []
  rw [saneT_pl, txL_pl]
theorem parts_pl (m : MsgR) : (partsM m.pl).flatMap layL = (partsM m).flatMap layL := by
  unfold partsM
  rw [show m.pl.kind = m.kind from rfl]
  by_cases h : m.kind = 0
  · rw [if_pos h, if_pos h]; rfl
  rw [if_neg h, if_neg h]; clear h
  by_cases h : m.kind = 2 ∨ m.kind = 3
  · rw [if_pos h, if_pos h]; rfl
  rw [if_neg h, if_neg h]; clear h
  by_cases h : m.kind = 4
  · rw [if_pos h, if_pos h]; rfl
  rw [if_neg h, if_neg h]; clear h
  by_cases h : m.kind = 5
  · rw [if_pos h, if_pos h]; rfl
  rw [if_neg h, if_neg h]; clear h
  by_cases h : m.kind = 6 ∨ m.kind = 7 ∨ m.kind = 8
  · rw [if_pos h, if_pos h]; rfl
  rw [if_neg h, if_neg h]; clear h
  by_cases h : m.kind = 9
  · rw [if_pos h, if_pos h]; rfl
  rw [if_neg h, if_neg h]; clear h
  by_cases h : m.kind = 10
  · rw [if_pos h, if_pos h]
    rw [List.flatMap_cons, List.flatMap_cons]
    rw [show m.pl.t = m.t.pl from rfl, lay_tx_pl]
  · rw [if_neg h, if_neg h]
theorem put_pl (m : MsgR) : putL m.pl = putL m := by
  unfold putL
  rw [fits_pl, parts_pl]
end Go.Proofs.Ytimggloacjbnjaa

/- WireOnce. (printed by gen_it.py) -/
set_option linter.unusedSimpArgs false
set_option linter.unusedVariables false
namespace Go.Proofs.Ytimggloacjbnjaa
open Go.RowKit
attribute [local go_sem ↓] Go.wp_at_zero Go.wp_at_succ

set_option maxRecDepth 100000 in
set_option maxHeartbeats 4000000 in
theorem once_walk (s : List UInt8) (A : Option Addr) (b : List UInt8) (c : Nat) (w : World) (hr : Rd w A (b.map u8v)) (hc : b.length ≤ c) (hcm : c ≤ maxLen) : Calls Try.prog 5 #[.string (str s), .slice A b.length c] w fun e w' => e = .returned (.bool true) ∧ Keep w w' := by
  have AW := Lib.hid awake_any
  obtain ⟨ys, hyz, hyA⟩ := zmsg_letter
  have hyn := hyA.n; have hys := hyA.z
  have HY := Lib.hid hyA
  clear hyA
  by_cases hb4 : 4000 < b.length
  · have d0 : (4000 : Int) < (b.length : Int) := by omega
    clear hb4
    go_enter Try.func5, Try.ntmps5
    go_wp2_with (go_at_call 8; refine (AW.out _).mono ?_; rintro e w1 ⟨rfl, k1⟩; have K1 := Lib.hid k1; clear k1)
    exact bodyPost_ret (v := .bool true) (by simp [results, Try.results5]) rfl ⟨rfl, K1.out⟩
  have d0 : ¬ (4000 : Int) < (b.length : Int) := by omega
  by_cases hlen : 100 < s.length
  · have d1 : (100 : Int) < ((str s).size : Int) := by rw [str_size]; omega
    have d2 : 100 < (str s).size := by rw [str_size]; exact hlen
    clear hb4 hlen
    go_enter Try.func5, Try.ntmps5
    go_wp2_with (go_at_call 8; refine (AW.out _).mono ?_; rintro e w1 ⟨rfl, k1⟩; have K1 := Lib.hid k1; clear k1)
    exact bodyPost_ret (v := .bool true) (by simp [results, Try.results5]) rfl ⟨rfl, K1.out⟩
  have d1 : ¬ (100 : Int) < ((str s).size : Int) := by rw [str_size]; omega
  have d2 : ¬ 100 < (str s).size := by rw [str_size]; exact hlen
  have ON := Lib.hid (wget_once s b); have BD := Lib.hid (wget_bad s b)
  have GT : Hid (∀ y, Keep w y → Calls Try.prog 13 #[.string (str s), .slice A b.length c] y fun e w' => ∃ m ds, e = .returned (.tuple #[.agg ds, iv (wgetN s b).2]) ∧ MsA m ds ∧ m.pl = (wgetN s b).1 ∧ m.at_ w' ∧ Keep y w') := Lib.hid fun y hy => by
    refine (get_any s A b c y (by omega) hc hcm (hr.keep hy)).mono ?_
    rintro e w' ⟨m, rfl, hm, ha, hk⟩
    exact ⟨m, _, rfl, MsA.of ha.o, hm, ha, hk⟩
  have HR := Lib.hid hr
  have KC : Hid (∀ y, Calls Try.prog 15 #[.string (str s)] y fun e w' => e = .returned (.tuple #[iv (kindN s).1, .bool (kindN s).2]) ∧ Keep y w') := Lib.hid fun y => kind_any s y
  clear hb4 hlen hr hcm hc
  generalize wgetN s b = G at *
  generalize kindN s = kn at *
  obtain ⟨k, ok⟩ := kn
  obtain ⟨g1, E⟩ := G
  simp only at ON BD GT KC
  by_cases hE : E = 0
  · subst hE
    obtain ⟨hok, hf, hp, hkk⟩ := ON.out rfl
    subst hok
    have HF := Lib.hid hf; have HP := Lib.hid hp; have HKK := Lib.hid hkk
    clear ON BD hf hp hkk
    have PT : Hid (∀ m ds y, MsA m ds → m.pl = g1 → m.at_ y → Calls Try.prog 11 #[.agg ds] y fun e w' => ∃ A2 c2, e = .returned (.tuple #[.slice A2 b.length c2, iv 0]) ∧ Rd w' A2 (b.map u8v) ∧ Keep y w') := Lib.hid fun m ds y h1 h2 h3 => by
      refine (put_any m ds h1 y h3).mono ?_
      have f1 : fitsB m = true := by rw [← fits_pl, h2]; exact HF.out
      have p1 : putL m = b := by rw [← put_pl, h2]; exact HP.out
      rw [f1, p1, if_pos rfl]
      rintro e w' ⟨v, rfl, o, k⟩
      obtain ⟨A2, c2, rfl, -, -, h⟩ := own_form o
      exact ⟨A2, c2, rfl, h, k⟩
    have FT : Hid (∀ m ds y, MsA m ds → m.pl = g1 → m.at_ y → Calls Try.prog 17 #[.agg ds] y fun e w' => e = .returned (.bool true) ∧ Keep y w') := Lib.hid fun m ds y h1 h2 h3 => by
      have q := fits_any m ds h1 h3.o y h3.t
      rwa [← fits_pl, h2, HF.out] at q
    have d3 : (str b == str b) = true := by rw [str_beq]; exact decide_eq_true rfl
    have d4 : (b == b) = true := beq_self_eq_true _
    go_enter Try.func5, Try.ntmps5
    go_upto_region 5 with (first | (go_at_call 8; refine (AW.out _).mono ?_; rintro e w1 ⟨rfl, k1⟩; have K1 := Lib.hid k1; clear k1) | (go_at_call 13; refine (GT.out _ K1.out).mono ?_; rintro e w2 ⟨m, ds, rfl, hA, hm, ha, k2⟩; have HA := Lib.hid hA; have hdn := hA.n; have hdz := hA.z; have hdi := hA.i; have HM := Lib.hid hm; have HT2 := Lib.hid ha; have K2 := Lib.hid (keep_trans K1.out k2); have hst2 : ∀ y : World, (storeCells ⟨y.heap.size, 0, none⟩ ds.toList 0).run Try.prog (y.alloc (.cells ys 49)) = .ok () (y.alloc (.cells ds 49)) := fun y => run_storeCells_new (P := Try.prog) y 49 ys ds hdi (hys.trans hdz.symm) (by have := all_oneCell_toArray HA.out.o; simpa using this); clear hA hm ha k2))
    obtain ⟨w3, hw3⟩ : ∃ w3, w3 = w2.alloc (.cells ds 49) := ⟨_, rfl⟩
    have HB3 : Hid (Blk w3 w2.heap.size 49 ds.toList) := by rw [hw3]; exact Lib.hid (Blk.new w2 _ ds.toList)
    have K3 : Hid (Keep w w3) := by rw [hw3]; exact Lib.hid (keep_trans K2.out (keep_new _ _))
    have HT3 : Hid (m.at_ w3) := by rw [hw3]; exact Lib.hid (HT2.out.keep (keep_new _ _))
    rw [← hw3]
    clear hw3 hst2
    have c0 : w3.cell? ⟨w2.heap.size, 0, none⟩ = some (.int .i64 k) := by
      have e : m.cells[0]? = some (.int .i64 m.kind) := rfl
      rw [HB3.out.cell, HA.out.l, e, show m.kind = m.pl.kind from rfl, HM.out, HKK.out]
    go_upto_region 9 with (first | (go_at_call 15; refine (KC.out _).mono ?_; rintro e w4 ⟨rfl, k4⟩; have c0 := keep_cell k4 c0; have HB4 := Lib.hid (HB3.out.keep k4); have HT4 := Lib.hid (HT3.out.keep k4); have K4 := Lib.hid (keep_trans K3.out k4); clear k4) | ((with_reducible refine load_arr w2.heap.size ds (Eq.trans ?_ rfl) HB4.out _ Try.underlying49 rfl hdi ?_); rfl) | (go_at_call 11; refine (PT.out m ds _ HA.out HM.out HT4.out).mono ?_; rintro e w5 ⟨A2, c2, rfl, r5, k5⟩; have c0 := keep_cell k5 c0; have HB5 := Lib.hid (HB4.out.keep k5); have HT5 := Lib.hid (HT4.out.keep k5); have K5 := Lib.hid (keep_trans K4.out k5); have R5 := Lib.hid r5; clear r5 k5))
    have RG : Hid (w5.rangeAt w2.heap.size 0 ds.toList) := Lib.hid (range_of HB5.out 0 ds.toList (by simp [List.take_of_length_le]))
    go_wp2_with (first | ((with_reducible refine load_partg w2.heap.size 0 ds (Eq.trans ?_ rfl) RG.out _ Try.underlying49 rfl hdi (Eq.trans ?_ rfl) ?_); rfl; rfl) | (go_at_call 17; refine (FT.out m ds _ HA.out HM.out HT5.out).mono ?_; rintro e w6 ⟨rfl, k6⟩; have K6 := Lib.hid (keep_trans K5.out k6); have cv1 : (convert 31 9 (.slice A2 b.length c2)).run Try.prog w6 = .ok (.string (str b)) w6 := run_bytes_str Try.underlying31 Try.underlying5 Try.underlying9 c2 (R5.out.keep k6); have cv2 : (convert 31 9 (.slice A b.length c)).run Try.prog w6 = .ok (.string (str b)) w6 := run_bytes_str Try.underlying31 Try.underlying5 Try.underlying9 c (HR.out.keep K6.out); clear k6))
    exact bodyPost_ret (v := .bool true) (by simp [results, Try.results5]) rfl ⟨rfl, K6.out⟩
  · obtain ⟨hz, hk2⟩ := BD.out hE
    have HZ := Lib.hid hz
    have d3 : (E != 0) = true := by rw [bne_iff_ne]; exact hE
    clear ON BD hz
    cases ok with
    | true =>
      clear hE hk2
      go_enter Try.func5, Try.ntmps5
      go_upto_region 5 with (first | (go_at_call 8; refine (AW.out _).mono ?_; rintro e w1 ⟨rfl, k1⟩; have K1 := Lib.hid k1; clear k1) | (go_at_call 13; refine (GT.out _ K1.out).mono ?_; rintro e w2 ⟨m, ds, rfl, hA, hm, ha, k2⟩; have HA := Lib.hid hA; have hdn := hA.n; have hdz := hA.z; have hdi := hA.i; have HM := Lib.hid hm; have HT2 := Lib.hid ha; have K2 := Lib.hid (keep_trans K1.out k2); have hst2 : ∀ y : World, (storeCells ⟨y.heap.size, 0, none⟩ ds.toList 0).run Try.prog (y.alloc (.cells ys 49)) = .ok () (y.alloc (.cells ds 49)) := fun y => run_storeCells_new (P := Try.prog) y 49 ys ds hdi (hys.trans hdz.symm) (by have := all_oneCell_toArray HA.out.o; simpa using this); clear hA hm ha k2))
      obtain ⟨w3, hw3⟩ : ∃ w3, w3 = w2.alloc (.cells ds 49) := ⟨_, rfl⟩
      have HB3 : Hid (Blk w3 w2.heap.size 49 ds.toList) := by rw [hw3]; exact Lib.hid (Blk.new w2 _ ds.toList)
      have K3 : Hid (Keep w w3) := by rw [hw3]; exact Lib.hid (keep_trans K2.out (keep_new _ _))
      have HT3 : Hid (m.at_ w3) := by rw [hw3]; exact Lib.hid (HT2.out.keep (keep_new _ _))
      rw [← hw3]
      clear hw3 hst2
      have c0 : w3.cell? ⟨w2.heap.size, 0, none⟩ = some (.int .i64 0) := by
        have e : m.cells[0]? = some (.int .i64 m.kind) := rfl
        rw [HB3.out.cell, HA.out.l, e, show m.kind = m.pl.kind from rfl, HM.out, HZ.out]; rfl
      go_wp2_with (go_at_call 15; refine (KC.out _).mono ?_; rintro e w4 ⟨rfl, k4⟩; have c0 := keep_cell k4 c0; have K4 := Lib.hid (keep_trans K3.out k4); clear k4)
      exact bodyPost_ret (v := .bool true) (by simp [results, Try.results5]) rfl ⟨rfl, K4.out⟩
    | false =>
      obtain rfl : E = 2 := hk2 rfl
      clear hE hk2 d3
      go_enter Try.func5, Try.ntmps5
      go_upto_region 5 with (first | (go_at_call 8; refine (AW.out _).mono ?_; rintro e w1 ⟨rfl, k1⟩; have K1 := Lib.hid k1; clear k1) | (go_at_call 13; refine (GT.out _ K1.out).mono ?_; rintro e w2 ⟨m, ds, rfl, hA, hm, ha, k2⟩; have HA := Lib.hid hA; have hdn := hA.n; have hdz := hA.z; have hdi := hA.i; have HM := Lib.hid hm; have HT2 := Lib.hid ha; have K2 := Lib.hid (keep_trans K1.out k2); have hst2 : ∀ y : World, (storeCells ⟨y.heap.size, 0, none⟩ ds.toList 0).run Try.prog (y.alloc (.cells ys 49)) = .ok () (y.alloc (.cells ds 49)) := fun y => run_storeCells_new (P := Try.prog) y 49 ys ds hdi (hys.trans hdz.symm) (by have := all_oneCell_toArray HA.out.o; simpa using this); clear hA hm ha k2))
      obtain ⟨w3, hw3⟩ : ∃ w3, w3 = w2.alloc (.cells ds 49) := ⟨_, rfl⟩
      have HB3 : Hid (Blk w3 w2.heap.size 49 ds.toList) := by rw [hw3]; exact Lib.hid (Blk.new w2 _ ds.toList)
      have K3 : Hid (Keep w w3) := by rw [hw3]; exact Lib.hid (keep_trans K2.out (keep_new _ _))
      have HT3 : Hid (m.at_ w3) := by rw [hw3]; exact Lib.hid (HT2.out.keep (keep_new _ _))
      rw [← hw3]
      clear hw3 hst2
      have c0 : w3.cell? ⟨w2.heap.size, 0, none⟩ = some (.int .i64 0) := by
        have e : m.cells[0]? = some (.int .i64 m.kind) := rfl
        rw [HB3.out.cell, HA.out.l, e, show m.kind = m.pl.kind from rfl, HM.out, HZ.out]; rfl
      go_wp2_with (go_at_call 15; refine (KC.out _).mono ?_; rintro e w4 ⟨rfl, k4⟩; have c0 := keep_cell k4 c0; have K4 := Lib.hid (keep_trans K3.out k4); clear k4)
      exact bodyPost_ret (v := .bool true) (by simp [results, Try.results5]) rfl ⟨rfl, K4.out⟩
end Go.Proofs.Ytimggloacjbnjaa
