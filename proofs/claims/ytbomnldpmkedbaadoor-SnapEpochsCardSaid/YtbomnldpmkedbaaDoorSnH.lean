/- Operations in a row, done to a disk. -/
import Derived.Test.YtbomnldpmkedbaaDoorSnG
set_option linter.unusedSimpArgs false
set_option linter.unusedVariables false
namespace Go.Proofs.YtbomnldpmkedbaaDoor
open Go.RowKit
attribute [local go_sem ↓] Go.wp_at_zero Go.wp_at_succ

/-- An operation as a value, and where what it holds lies. -/
inductive OpR where
  | sync
  | put (p q : Nat) (at_ : Int) (A : Option Addr) (s : List UInt8) (c : Nat)
  | lay (p q : Nat) (at_ : Int) (A : Option Addr) (s : List UInt8) (c : Nat)
def OpR.val : OpR → Value
  | .sync => .func (.func 50) #[] #[]
  | .put p q _ _ _ _ => .func (.func 67) #[] #[.pointer (some ⟨p, 0, none⟩), .pointer (some ⟨q, 0, none⟩)]
  | .lay p q _ _ _ _ => .func (.func 69) #[] #[.pointer (some ⟨p, 0, none⟩), .pointer (some ⟨q, 0, none⟩)]
/-- What it holds, laid at p and q. -/
structure HoldsOp (w : World) (p q : Nat) (at_ : Int) (A : Option Addr) (s : List UInt8) (c : Nat) : Prop where
  p : w.cell? ⟨p, 0, none⟩ = some (.int .i64 at_)
  q : w.cell? ⟨q, 0, none⟩ = some (.slice A s.length c)
  r : Rd w A (s.map u8v)
  l : s.length ≤ 1000000
  i : -9223372036854775808 ≤ at_ ∧ at_ ≤ 9223372036854775807
theorem HoldsOp.keep {w w' : World} {p q : Nat} {at_ : Int} {A : Option Addr} {s : List UInt8} {c : Nat} (h : HoldsOp w p q at_ A s c) (hk : Keep w w') : HoldsOp w' p q at_ A s c :=
  ⟨keep_cell hk h.p, keep_cell hk h.q, h.r.keep hk, h.l, h.i⟩
def OpR.ok (w : World) : OpR → Prop
  | .sync => True
  | .put p q at_ A s c => HoldsOp w p q at_ A s c ∧ s.length = 32
  | .lay p q at_ A s c => HoldsOp w p q at_ A s c
theorem OpR.ok_keep {w w' : World} {x : OpR} (h : x.ok w) (hk : Keep w w') : x.ok w' := by
  cases x with
  | sync => trivial
  | put => exact ⟨h.1.keep hk, h.2⟩
  | lay => exact HoldsOp.keep h hk
/-- An operation, plainly. -/
inductive POp where
  | sync
  | lay (at_ : Int) (s : List UInt8)
def OpR.pl : OpR → POp
  | .sync => .sync
  | .put _ _ at_ _ s _ => .lay at_ s
  | .lay _ _ at_ _ s _ => .lay at_ s
/-- What it does to a disk: the bytes, what is pending, the error. -/
def runP : POp → List UInt8 → List WP → List UInt8 × List WP × Int
  | .sync, b, ps => (bytesQ b ps, [], 0)
  | .lay at_ s, b, ps => (b, (layP b ps at_ s).1, (layP b ps at_ s).2)
def doP : List POp → List UInt8 → List WP → List UInt8 × List WP × Int
  | [], b, ps => (b, ps, 0)
  | x :: l, b, ps => if (runP x b ps).2.2 = 0 then doP l (runP x b ps).1 (runP x b ps).2.1 else runP x b ps
theorem runP_sane {b : List UInt8} {ps : List WP} (hs : saneP b.length ps = true) : ∀ x, saneP (runP x b ps).1.length (runP x b ps).2.1 = true
  | .sync => bytesQ_sane b ps
  | .lay at_ s => layP_sane hs at_ s

section
variable (A : Option Addr) (b : List UInt8) (c : Nat) (PA : Option Addr) (ws : List WriteR) (pc : Nat)
/-- An operation, called as a function's value. -/
theorem op_sync (w : World) (X : Nat → Prop) (hX : ∀ k, X k → k < w.heap.size) (h : ∀ W, Fr 0 X w W → DOk W A b c PA ws pc) :
    Calls Tryd.prog 50 #[DV A b.length c PA ws.length pc] w fun e w' => ∃ A' b' c' PA' vs pc' er, e = .returned (.tuple #[DV A' b'.length c' PA' vs.length pc', .int .i64 er]) ∧
      (b', vs.map WriteR.pl, er) = runP .sync b (ws.map WriteR.pl) ∧ (∀ W, Fr 0 X w' W → DOk W A' b' c' PA' vs pc') ∧ Keep w w' :=
  (osync_w A b c PA ws pc w (h w (fun _ _ _ _ => rfl))).mono fun e w' ⟨B, A', c', g1, g2, g3, g4⟩ => ⟨A', B, c', none, [], 0, 0, g2, by rw [g1]; rfl, fun W hW => g3 W (fun k h1 h2 _ => hW k (Nat.zero_le _) h2 (fun e => by have := hX k e; omega)), g4⟩
theorem fr_mid {X : Nat → Prop} {w w' W : World} (hX : ∀ k, X k → k < w.heap.size) (hk : Keep w w') (hW : Fr 0 X w' W) : MidF (Fr 0 X w) w w' W :=
  ⟨hW.keep hk, fun k h1 h2 => hW k (Nat.zero_le _) h2 (fun e => by have := hX k e; omega)⟩
theorem op_put (p q : Nat) (i : Int) (B : Option Addr) (data : List UInt8) (cd : Nat) (w : World) (X : Nat → Prop) (hX : ∀ k, X k → k < w.heap.size) (h : ∀ W, Fr 0 X w W → DOk W A b c PA ws pc) (hs : saneP b.length (ws.map WriteR.pl) = true)
    (ho : (OpR.put p q i B data cd).ok w) :
    Calls Tryd.prog 67 #[DV A b.length c PA ws.length pc, .pointer (some ⟨p, 0, none⟩), .pointer (some ⟨q, 0, none⟩)] w fun e w' => ∃ A' b' c' PA' vs pc' er, e = .returned (.tuple #[DV A' b'.length c' PA' vs.length pc', .int .i64 er]) ∧
      (b', vs.map WriteR.pl, er) = runP (.lay i data) b (ws.map WriteR.pl) ∧ (∀ W, Fr 0 X w' W → DOk W A' b' c' PA' vs pc') ∧ Keep w w' :=
  (oput_w A b c PA ws pc p q i B data cd w (Fr 0 X w) (fun W hW => Fr.of_keep hW) h hs ho.1.p ho.1.q ho.1.r ho.1.l ho.2 ho.1.i).mono fun e w' ⟨A', c', PA', pc', vs, er, g1, g2, g3, g4⟩ => ⟨A', b, c', PA', vs, pc', er, g1, by show _ = (b, (layP b (ws.map WriteR.pl) i data).1, (layP b (ws.map WriteR.pl) i data).2); rw [← g2], fun W hW => g3 W (fr_mid hX g4 hW), g4⟩
theorem op_lay (p q : Nat) (i : Int) (B : Option Addr) (data : List UInt8) (cd : Nat) (w : World) (X : Nat → Prop) (hX : ∀ k, X k → k < w.heap.size) (h : ∀ W, Fr 0 X w W → DOk W A b c PA ws pc) (hs : saneP b.length (ws.map WriteR.pl) = true)
    (ho : (OpR.lay p q i B data cd).ok w) :
    Calls Tryd.prog 69 #[DV A b.length c PA ws.length pc, .pointer (some ⟨p, 0, none⟩), .pointer (some ⟨q, 0, none⟩)] w fun e w' => ∃ A' b' c' PA' vs pc' er, e = .returned (.tuple #[DV A' b'.length c' PA' vs.length pc', .int .i64 er]) ∧
      (b', vs.map WriteR.pl, er) = runP (.lay i data) b (ws.map WriteR.pl) ∧ (∀ W, Fr 0 X w' W → DOk W A' b' c' PA' vs pc') ∧ Keep w w' :=
  (olay_w A b c PA ws pc p q i B data cd w (Fr 0 X w) (fun W hW => Fr.of_keep hW) h hs ho.p ho.q ho.r ho.l ho.i).mono fun e w' ⟨A', c', PA', pc', vs, er, g1, g2, g3, g4⟩ => ⟨A', b, c', PA', vs, pc', er, g1, by show _ = (b, (layP b (ws.map WriteR.pl) i data).1, (layP b (ws.map WriteR.pl) i data).2); rw [← g2], fun W hW => g3 W (fr_mid hX g4 hW), g4⟩

set_option maxHeartbeats 1000000 in
theorem put_make (i : Int) (B : Option Addr) (s : List UInt8) (cd : Nat) (w : World) (hr : Rd w B (s.map u8v)) (hl : s.length = 32) (hi : -9223372036854775808 ≤ i ∧ i ≤ 9223372036854775807) :
    Calls Tryd.prog 51 #[.int .i64 i, .slice B s.length cd] w fun e w' => ∃ p q, e = .returned (OpR.put p q i B s cd).val ∧ (OpR.put p q i B s cd).ok w' ∧ w.heap.size ≤ p ∧ w.heap.size ≤ q ∧ Keep w w' := by
  have Hr := Lib.hid hr; have Hl := Lib.hid hl
  have hmf : ∀ (fn : Fn) (first cap : Array Value) (w : World), (Instr.makeFunc fn first cap).run Tryd.prog w = .ok (.func fn first cap) w := fun _ _ _ _ => rfl
  clear hr
  generalize hn : s.length = n at *
  have Hn := Lib.hid hn
  clear hn hl
  go_enter Tryd.func51, Tryd.ntmps51
  go_wp2
  go_ret
  have k1 : Keep w ((w.alloc (.cells #[.int .i64 i] 3)).alloc (.cells #[.slice B n cd] 24)) := keep_trans (keep_new _ _) (keep_new _ _)
  refine ⟨w.heap.size, w.heap.size + 1, rfl, ⟨⟨by go_simp, by rw [Hn.out]; go_simp, Hr.out.keep k1, by rw [Hn.out, Hl.out]; omega, hi⟩, by rw [Hn.out]; exact Hl.out⟩, Nat.le_refl _, by omega, k1⟩
set_option maxHeartbeats 1000000 in
theorem lay_make (i : Int) (B : Option Addr) (s : List UInt8) (cd : Nat) (w : World) (hr : Rd w B (s.map u8v)) (hl : s.length ≤ 1000000) (hi : -9223372036854775808 ≤ i ∧ i ≤ 9223372036854775807) :
    Calls Tryd.prog 54 #[.int .i64 i, .slice B s.length cd] w fun e w' => ∃ p q, e = .returned (OpR.lay p q i B s cd).val ∧ (OpR.lay p q i B s cd).ok w' ∧ w.heap.size ≤ p ∧ w.heap.size ≤ q ∧ Keep w w' := by
  have Hr := Lib.hid hr; have Hl := Lib.hid hl
  have hmf : ∀ (fn : Fn) (first cap : Array Value) (w : World), (Instr.makeFunc fn first cap).run Tryd.prog w = .ok (.func fn first cap) w := fun _ _ _ _ => rfl
  clear hr
  generalize hn : s.length = n at *
  have Hn := Lib.hid hn
  clear hn hl
  go_enter Tryd.func54, Tryd.ntmps54
  go_wp2
  go_ret
  have k1 : Keep w ((w.alloc (.cells #[.int .i64 i] 3)).alloc (.cells #[.slice B n cd] 24)) := keep_trans (keep_new _ _) (keep_new _ _)
  exact ⟨w.heap.size, w.heap.size + 1, rfl, ⟨by go_simp, by rw [Hn.out]; go_simp, Hr.out.keep k1, by rw [Hn.out]; exact Hl.out, hi⟩, Nat.le_refl _, by omega, k1⟩

theorem doP_cons {x : POp} {l : List POp} {b : List UInt8} {ps : List WP} {R : List UInt8 × List WP × Int} (h : runP x b ps = R) : doP (x :: l) b ps = if R.2.2 = 0 then doP l R.1 R.2.1 else R := by
  subst h; rfl

/-- A disk in a box, in the midst of operations. -/
structure DoI (X : Nat → Prop) (w wr : World) (A : Option Addr) (b : List UInt8) (c : Nat) (PA : Option Addr) (ws : List WriteR) (pc : Nat) : Prop where
  blk : Blk wr w.heap.size 32 [.slice A b.length c, .slice PA ws.length pc]
  res : Blk wr (w.heap.size + 1) 32 [.slice none 0 0, .slice none 0 0]
  keep : Keep w wr
  dok : ∀ W, Fr 0 (fun k => X k ∨ k = w.heap.size ∨ k = w.heap.size + 1) wr W → DOk W A b c PA ws pc
  san : saneP b.length (ws.map WriteR.pl) = true

theorem DoI.step {X : Nat → Prop} {w wr w2 : World} (hX : ∀ k, X k → k < w.heap.size) {A : Option Addr} {b : List UInt8} {c : Nat} {PA : Option Addr} {ws : List WriteR} {pc : Nat} (hI : DoI X w wr A b c PA ws pc) (hk : Keep wr w2)
    {A' : Option Addr} {b' : List UInt8} {c' : Nat} {PA' : Option Addr} {vs : List WriteR} {pc' : Nat} (hd : ∀ W, Fr 0 (fun k => X k ∨ k = w.heap.size ∨ k = w.heap.size + 1) w2 W → DOk W A' b' c' PA' vs pc') (hs : saneP b'.length (vs.map WriteR.pl) = true) :
    DoI X w ((w2.setCell ⟨w.heap.size, 0, none⟩ (.slice A' b'.length c')).setCell ⟨w.heap.size, 1, none⟩ (.slice PA' vs.length pc')) A' b' c' PA' vs pc' := by
  refine ⟨?_, ?_, ?_, fun W hW => hd W (fun k h1 h2 h3 => ?_), hs⟩
  · exact ((hI.blk.keep hk).set_ 0 _).set_ 1 _
  · exact ((hI.res.keep hk).far (by show w.heap.size + 1 ≠ w.heap.size; omega) _).far (by show w.heap.size + 1 ≠ w.heap.size; omega) _
  · exact ((keep_trans hI.keep hk).setCell (Nat.le_refl _) _).setCell (Nat.le_refl _) _
  · have hn : k ≠ w.heap.size := fun e => h3 (.inr (.inl e))
    have h4 := hW k h1 (by simpa using h2) h3
    rw [h4, set_ne _ _ _ _ _ hn, set_ne _ _ _ _ _ hn]

set_option maxRecDepth 100000 in
set_option maxHeartbeats 4000000 in
theorem do_w (w : World) (X : Nat → Prop) (hX : ∀ k, X k → k < w.heap.size) (ops : List OpR) (Af : Option Addr) (cf : Nat) (h : ∀ W, Fr 0 X w W → DOk W A b c PA ws pc) (hs : saneP b.length (ws.map WriteR.pl) = true)
    (hf : ∀ W, Fr 0 X w W → Rd W Af (ops.map OpR.val) ∧ ∀ x ∈ ops, x.ok W) (hol : ops.length ≤ 1000000) :
    Calls Tryd.prog 34 #[DV A b.length c PA ws.length pc, .slice Af ops.length cf] w fun e w' => ∃ A' b' c' PA' vs pc' er, e = .returned (.tuple #[DV A' b'.length c' PA' vs.length pc', .int .i64 er]) ∧
      (b', vs.map WriteR.pl, er) = doP (ops.map OpR.pl) b (ws.map WriteR.pl) ∧ (∀ W, Fr 0 X w' W → DOk W A' b' c' PA' vs pc') ∧ Keep w w' := by
  obtain ⟨D, hD⟩ : ∃ D, doP (ops.map OpR.pl) b (ws.map WriteR.pl) = D := ⟨_, rfl⟩
  rw [hD]
  have Hf := Lib.hid hf; have HX := Lib.hid hX; have Hh := Lib.hid h; have Hs := Lib.hid hs; have HD := Lib.hid hD
  clear hf hX h hs hD
  generalize hbl : b.length = bl at *
  generalize hwl : ws.length = wl at *
  have Hbl := Lib.hid hbl; have Hwl := Lib.hid hwl
  clear hbl hwl
  go_enter Tryd.func34, Tryd.ntmps34
  go_upto_region 1 with fail
  obtain ⟨w1, hw1⟩ : ∃ w1, w1 = (w.alloc (.cells #[.slice A bl c, .slice PA wl pc] 32)).alloc (.cells #[.slice none 0 0, .slice none 0 0] 32) := ⟨_, rfl⟩
  have HI1 : Hid (DoI X w w1 A b c PA ws pc) := by
    have hk1 : Keep w w1 := by rw [hw1]; exact keep_trans (keep_new _ _) (keep_new _ _)
    refine ⟨?_, ?_, hk1, fun W hW => Hh.out W (fun k h1 h2 h3 => ?_), by rw [Hbl.out]; exact Hs.out⟩
    · rw [hw1, Hbl.out, Hwl.out]; exact (Blk.new w _ [.slice A bl c, .slice PA wl pc]).alloc _
    · rw [hw1]
      have h1 := Blk.new (w.alloc (.cells #[.slice A bl c, .slice PA wl pc] 32)) 32 [.slice none 0 0, .slice none 0 0]
      rw [World.size_alloc] at h1
      exact h1
    · exact (hW k h1 (Nat.lt_of_lt_of_le h2 hk1.size) (fun e => e.elim h3 (fun e => by omega))).trans (hk1.block k h2)
  rw [← hw1]
  clear hw1
  go_wp2_with fail
  go_loopw [11] (fun i wr => ∃ (k : Nat) (A2 : Option Addr) (b2 : List UInt8) (c2 : Nat) (PA2 : Option Addr) (ws2 : List WriteR) (pc2 : Nat), k ≤ ops.length ∧ i = .int .i64 k ∧ Hid (DoI X w wr A2 b2 c2 PA2 ws2 pc2) ∧ Hid (doP ((ops.drop k).map OpR.pl) b2 (ws2.map WriteR.pl) = D)) (fun i _ => ops.length - (intOf i).toNat)
  case atStart => exact ⟨0, A, b, c, PA, ws, pc, Nat.zero_le _, rfl, HI1, by rw [List.drop_zero]; exact HD⟩
  case round =>
    obtain ⟨k, A2, b2, c2, PA2, ws2, pc2, hk, rfl, HI, HF⟩ := hrel
    have c0 := HI.out.blk.cell 0; have c1 := HI.out.blk.cell 1; have f0 := HI.out.blk.frozen 0; have f1 := HI.out.blk.frozen 1
    have r0 := HI.out.res.cell 0; have r1 := HI.out.res.cell 1; have g0 := HI.out.res.frozen 0; have g1 := HI.out.res.frozen 1
    simp only [List.getElem?_cons_zero, List.getElem?_cons_succ] at c0 c1 r0 r1
    have hzr : w.heap.size + 1 < wr.heap.size := HI.out.res.lt
    clear HI1
    by_cases hlt : k < ops.length
    · have hfr : Hid (∀ W, Keep wr W → Fr 0 X w W) := fun W hW => Fr.of_keep (keep_trans HI.out.keep hW)
      have hfw := Hf.out wr (hfr.out wr (Below.refl _ _))
      obtain ⟨gf, off, rfl, hgf, hcf⟩ := hfw.1.at (k := k) (by rw [List.length_map]; exact hlt)
      have hcell := hcf k (by rw [List.length_map]; exact hlt)
      have hok := hfw.2 _ (List.getElem_mem hlt)
      rw [List.getElem_map] at hcell
      have hst : (ops.drop k).map OpR.pl = (ops[k]).pl :: (ops.drop (k + 1)).map OpR.pl := by rw [List.drop_eq_getElem_cons hlt, List.map_cons]
      have hXX : ∀ q, (X q ∨ q = w.heap.size ∨ q = w.heap.size + 1) → q < wr.heap.size := fun q e => by
        rcases e with e | e | e
        · have h1 := HX.out q e; omega
        · omega
        · omega
      have HF2 := Lib.hid (hst ▸ HF.out : doP ((ops[k]).pl :: (ops.drop (k + 1)).map OpR.pl) b2 (ws2.map WriteR.pl) = D)
      generalize ops[k] = x at *
      clear hst hcf hfw
      obtain ⟨R, hR⟩ : ∃ R, runP x.pl b2 (ws2.map WriteR.pl) = R := ⟨_, rfl⟩
      have HFR : Hid ((if R.2.2 = 0 then doP ((ops.drop (k + 1)).map OpR.pl) R.1 R.2.1 else R) = D) := by rw [← doP_cons hR]; exact HF2.out
      have HRS : Hid (saneP R.1.length R.2.1 = true) := by rw [← hR]; exact runP_sane HI.out.san _
      clear HF HF2
      cases x with
      | sync =>
        have C := op_sync A2 b2 c2 PA2 ws2 pc2 wr _ hXX HI.out.dok
        rw [show runP .sync b2 (ws2.map WriteR.pl) = R from hR] at C
        have HC := Lib.hid C
        simp only [OpR.val] at hcell
        clear C hR
        generalize b2.length = bl2 at *
        generalize ws2.length = wl2 at *
        go_wp2_with fail
        refine HC.out.mono ?_
        rintro e w2 ⟨A3, b3, c3, PA3, vs, pc3, er, rfl, hrun, hd3, k2⟩
        clear HC
        replace c0 := keep_cell k2 c0; replace c1 := keep_cell k2 c1; replace f0 := keep_frozen k2 (by omega) f0; replace f1 := keep_frozen k2 (by omega) f1
        replace r0 := keep_cell k2 r0; replace r1 := keep_cell k2 r1; replace g0 := keep_frozen k2 hzr g0; replace g1 := keep_frozen k2 hzr g1
        have hsn : saneP b3.length (vs.map WriteR.pl) = true := by
          have h1 := HRS.out
          rw [← hrun] at h1; exact h1
        have HI3 := Lib.hid (DoI.step HX.out HI.out k2 hd3 hsn)
        have HFR3 : Hid ((if er = 0 then doP ((ops.drop (k + 1)).map OpR.pl) b3 (vs.map WriteR.pl) else (b3, vs.map WriteR.pl, er)) = D) := by
          have h1 := HFR.out
          rw [← hrun] at h1; exact h1
        have Hd3 := Lib.hid hd3
        have hz2 : wr.heap.size ≤ w2.heap.size := k2.size
        clear HFR hrun hsn k2 hd3 HRS
        by_cases he : er = 0
        · have HF3 := Lib.hid ((if_pos he).symm.trans HFR3.out)
          subst he
          clear HFR3
          go_wp2
          go_roundw
          case rel => exact ⟨k + 1, A3, b3, c3, PA3, vs, pc3, by omega, by go_num, HI3, HF3⟩
          case measure => simp [intOf]; omega
        · have HD3 := Lib.hid ((if_neg he).symm.trans HFR3.out)
          have he2 : (er != 0) = true := by simp [he]
          clear HFR3 he
          go_wp2_with fail
          refine bodyPost_ret (v := .tuple #[DV A3 b3.length c3 PA3 vs.length pc3, .int .i64 er]) (by simp [results, Tryd.results34, go_sem, c0, c1, r0, r1]) rfl ⟨A3, b3, c3, PA3, vs, pc3, er, rfl, HD3.out, fun W hW => HI3.out.dok W (fun q h1 h2 h3 => ?_), (HI3.out.keep.setCell (by simp) _).setCell (by simp) _⟩
          have hn : q ≠ w.heap.size + 1 := fun e => h3 (.inr (.inr e))
          have h4 := hW q h1 (by simpa using h2) (fun e => h3 (.inl e))
          rw [h4, set_ne _ _ _ _ _ hn, set_ne _ _ _ _ _ hn]
      | put p q i B data cd =>
        have C := op_put A2 b2 c2 PA2 ws2 pc2 p q i B data cd wr _ hXX HI.out.dok HI.out.san hok
        rw [show runP (.lay i data) b2 (ws2.map WriteR.pl) = R from hR] at C
        have HC := Lib.hid C
        simp only [OpR.val] at hcell
        clear C hR
        generalize b2.length = bl2 at *
        generalize ws2.length = wl2 at *
        go_wp2_with fail
        refine HC.out.mono ?_
        rintro e w2 ⟨A3, b3, c3, PA3, vs, pc3, er, rfl, hrun, hd3, k2⟩
        clear HC
        replace c0 := keep_cell k2 c0; replace c1 := keep_cell k2 c1; replace f0 := keep_frozen k2 (by omega) f0; replace f1 := keep_frozen k2 (by omega) f1
        replace r0 := keep_cell k2 r0; replace r1 := keep_cell k2 r1; replace g0 := keep_frozen k2 hzr g0; replace g1 := keep_frozen k2 hzr g1
        have hsn : saneP b3.length (vs.map WriteR.pl) = true := by
          have h1 := HRS.out
          rw [← hrun] at h1; exact h1
        have HI3 := Lib.hid (DoI.step HX.out HI.out k2 hd3 hsn)
        have HFR3 : Hid ((if er = 0 then doP ((ops.drop (k + 1)).map OpR.pl) b3 (vs.map WriteR.pl) else (b3, vs.map WriteR.pl, er)) = D) := by
          have h1 := HFR.out
          rw [← hrun] at h1; exact h1
        have Hd3 := Lib.hid hd3
        have hz2 : wr.heap.size ≤ w2.heap.size := k2.size
        clear HFR hrun hsn k2 hd3 HRS
        by_cases he : er = 0
        · have HF3 := Lib.hid ((if_pos he).symm.trans HFR3.out)
          subst he
          clear HFR3
          go_wp2
          go_roundw
          case rel => exact ⟨k + 1, A3, b3, c3, PA3, vs, pc3, by omega, by go_num, HI3, HF3⟩
          case measure => simp [intOf]; omega
        · have HD3 := Lib.hid ((if_neg he).symm.trans HFR3.out)
          have he2 : (er != 0) = true := by simp [he]
          clear HFR3 he
          go_wp2_with fail
          refine bodyPost_ret (v := .tuple #[DV A3 b3.length c3 PA3 vs.length pc3, .int .i64 er]) (by simp [results, Tryd.results34, go_sem, c0, c1, r0, r1]) rfl ⟨A3, b3, c3, PA3, vs, pc3, er, rfl, HD3.out, fun W hW => HI3.out.dok W (fun q h1 h2 h3 => ?_), (HI3.out.keep.setCell (by simp) _).setCell (by simp) _⟩
          have hn : q ≠ w.heap.size + 1 := fun e => h3 (.inr (.inr e))
          have h4 := hW q h1 (by simpa using h2) (fun e => h3 (.inl e))
          rw [h4, set_ne _ _ _ _ _ hn, set_ne _ _ _ _ _ hn]
      | lay p q i B data cd =>
        have C := op_lay A2 b2 c2 PA2 ws2 pc2 p q i B data cd wr _ hXX HI.out.dok HI.out.san hok
        rw [show runP (.lay i data) b2 (ws2.map WriteR.pl) = R from hR] at C
        have HC := Lib.hid C
        simp only [OpR.val] at hcell
        clear C hR
        generalize b2.length = bl2 at *
        generalize ws2.length = wl2 at *
        go_wp2_with fail
        refine HC.out.mono ?_
        rintro e w2 ⟨A3, b3, c3, PA3, vs, pc3, er, rfl, hrun, hd3, k2⟩
        clear HC
        replace c0 := keep_cell k2 c0; replace c1 := keep_cell k2 c1; replace f0 := keep_frozen k2 (by omega) f0; replace f1 := keep_frozen k2 (by omega) f1
        replace r0 := keep_cell k2 r0; replace r1 := keep_cell k2 r1; replace g0 := keep_frozen k2 hzr g0; replace g1 := keep_frozen k2 hzr g1
        have hsn : saneP b3.length (vs.map WriteR.pl) = true := by
          have h1 := HRS.out
          rw [← hrun] at h1; exact h1
        have HI3 := Lib.hid (DoI.step HX.out HI.out k2 hd3 hsn)
        have HFR3 : Hid ((if er = 0 then doP ((ops.drop (k + 1)).map OpR.pl) b3 (vs.map WriteR.pl) else (b3, vs.map WriteR.pl, er)) = D) := by
          have h1 := HFR.out
          rw [← hrun] at h1; exact h1
        have Hd3 := Lib.hid hd3
        have hz2 : wr.heap.size ≤ w2.heap.size := k2.size
        clear HFR hrun hsn k2 hd3 HRS
        by_cases he : er = 0
        · have HF3 := Lib.hid ((if_pos he).symm.trans HFR3.out)
          subst he
          clear HFR3
          go_wp2
          go_roundw
          case rel => exact ⟨k + 1, A3, b3, c3, PA3, vs, pc3, by omega, by go_num, HI3, HF3⟩
          case measure => simp [intOf]; omega
        · have HD3 := Lib.hid ((if_neg he).symm.trans HFR3.out)
          have he2 : (er != 0) = true := by simp [he]
          clear HFR3 he
          go_wp2_with fail
          refine bodyPost_ret (v := .tuple #[DV A3 b3.length c3 PA3 vs.length pc3, .int .i64 er]) (by simp [results, Tryd.results34, go_sem, c0, c1, r0, r1]) rfl ⟨A3, b3, c3, PA3, vs, pc3, er, rfl, HD3.out, fun W hW => HI3.out.dok W (fun q h1 h2 h3 => ?_), (HI3.out.keep.setCell (by simp) _).setCell (by simp) _⟩
          have hn : q ≠ w.heap.size + 1 := fun e => h3 (.inr (.inr e))
          have h4 := hW q h1 (by simpa using h2) (fun e => h3 (.inl e))
          rw [h4, set_ne _ _ _ _ _ hn, set_ne _ _ _ _ _ hn]
    · obtain rfl : k = ops.length := by omega
      have hFl := HF.out
      rw [List.drop_length] at hFl
      have HFl : Hid ((b2, ws2.map WriteR.pl, 0) = D) := hFl
      clear hFl HF
      generalize hb2 : b2.length = bl2 at *
      generalize hw2 : ws2.length = wl2 at *
      have Hb2 := Lib.hid hb2; have Hw2 := Lib.hid hw2
      clear hb2 hw2
      go_wp2_with fail
      refine bodyPost_ret (v := .tuple #[DV A2 bl2 c2 PA2 wl2 pc2, .int .i64 0]) (by simp [results, Tryd.results34, go_sem, c0, c1, r0, r1]) rfl ⟨A2, b2, c2, PA2, ws2, pc2, 0, by rw [Hb2.out, Hw2.out], HFl.out, fun W hW => HI.out.dok W (fun q h1 h2 h3 => ?_), (HI.out.keep.setCell (by simp) _).setCell (by simp) _⟩
      have hn : q ≠ w.heap.size + 1 := fun e => h3 (.inr (.inr e))
      have h4 := hW q h1 (by simpa using h2) (fun e => h3 (.inl e))
      rw [h4, set_ne _ _ _ _ _ hn, set_ne _ _ _ _ _ hn]
end
end Go.Proofs.YtbomnldpmkedbaaDoor
