/- RulesSpoilt: the walk. (printed by gen_rsp.py) -/
import Derived.Test.YteoilddiilegmaaDoorRz0
import Derived.Test.YteoilddiilegmaaDoorRw
set_option linter.unusedSimpArgs false
set_option linter.unusedVariables false
namespace Go.Proofs.YteoilddiilegmaaDoor
open Go.RowKit
attribute [local go_sem ↓] Go.wp_at_zero Go.wp_at_succ

theorem hd_split (h : Hd) : h.cells = (u32v h.ver :: (h.prev.map u8v ++ h.root.map u8v)) ++ [u32v h.time, u32v h.bits, u32v h.nonce] := by simp [Hd.cells]
theorem set65 {h : Hd} (hk : h.ok) (t : UInt32) : h.cells.set 65 (u32v t) = ({ h with time := t } : Hd).cells := by
  have hl : (u32v h.ver :: (h.prev.map u8v ++ h.root.map u8v)).length = 65 := by simp [hk.1, hk.2]
  rw [hd_split h, List.set_append_right _ _ (by omega), hl]
  simp [Hd.cells]
theorem set66 {h : Hd} (hk : h.ok) (t : UInt32) : h.cells.set 66 (u32v t) = ({ h with bits := t } : Hd).cells := by
  have hl : (u32v h.ver :: (h.prev.map u8v ++ h.root.map u8v)).length = 65 := by simp [hk.1, hk.2]
  rw [hd_split h, List.set_append_right _ _ (by omega), hl]
  simp [Hd.cells]
theorem set1 {h : Hd} {x : UInt8} {r : List UInt8} (hp : h.prev = x :: r) (y : UInt8) : h.cells.set 1 (u8v y) = ({ h with prev := y :: r } : Hd).cells := by simp [Hd.cells, hp]
theorem xor8 (x : UInt8) : bits .xor .u8 (x.toNat : Int) 1 = ((x ^^^ 1).toNat : Int) := by
  have h1 : BitVec.ofInt 8 (x.toNat : Int) = x.toBitVec := by
    apply BitVec.eq_of_toNat_eq
    rw [BitVec.toNat_ofInt]
    have := x.toNat_lt
    show ((x.toNat : Int) % ((2 ^ 8 : Nat) : Int)).toNat = x.toNat
    omega
  show IntKind.u8.wrap ((BitVec.ofInt 8 (x.toNat : Int) ^^^ BitVec.ofInt 8 1).toNat : Nat) = _
  rw [h1]
  show IntKind.u8.wrap ((x ^^^ 1).toNat : Nat) = _
  have := (x ^^^ 1).toNat_lt
  rw [IntKind.wrap_u8]
  omega
theorem xor32 (x : UInt32) : bits .xor .u32 (x.toNat : Int) 1 = ((x ^^^ 1).toNat : Int) := by
  have h1 : BitVec.ofInt 32 (x.toNat : Int) = x.toBitVec := by
    apply BitVec.eq_of_toNat_eq
    rw [BitVec.toNat_ofInt]
    have := x.toNat_lt
    show ((x.toNat : Int) % ((2 ^ 32 : Nat) : Int)).toNat = x.toNat
    omega
  show IntKind.u32.wrap ((BitVec.ofInt 32 (x.toNat : Int) ^^^ BitVec.ofInt 32 1).toNat : Nat) = _
  rw [h1]
  show IntKind.u32.wrap ((x ^^^ 1).toNat : Nat) = _
  have := (x ^^^ 1).toNat_lt
  rw [IntKind.wrap_u32]
  omega
theorem xor8_ne (x : UInt8) : x ^^^ 1 ≠ x := fun h => by
  have h2 : x ^^^ (x ^^^ 1) = x ^^^ x := by rw [h]
  rw [← UInt8.xor_assoc, UInt8.xor_self, UInt8.zero_xor] at h2
  exact absurd h2 (by decide)
theorem xor32_ne (x : UInt32) : x ^^^ 1 ≠ x := fun h => by
  have h2 : x ^^^ (x ^^^ 1) = x ^^^ x := by rw [h]
  rw [← UInt32.xor_assoc, UInt32.xor_self, UInt32.zero_xor] at h2
  exact absurd h2 (by decide)

set_option maxRecDepth 100000 in
set_option maxHeartbeats 8000000 in
theorem spoilt_walk (p : Par) (A : Option Addr) (c : Nat) (B : Option Addr) (l : List Hd) (d : Nat) (h : Hd) (cs : Array Value) (now : Int) (w : World) (hS : ShaOk w) (hC : Rd w A (p.chks.flatMap chkC) ∧ ∀ x ∈ p.chks, x.2.length = 32)
    (hd : l.length ≤ d) (hdm : d ≤ maxLen) (hr : Rd w B (l.flatMap Hd.cells)) (hk : ∀ h ∈ l, h.ok) (ho : h.ok) (hcs : HdA h cs) :
    Calls Tryd.prog 4 #[parV p A c, .slice B l.length d, .agg cs, iv now] w fun e w' => e = .returned (.bool true) ∧ Keep w w' := by
  have AW : Hid (∀ y, Keep w y → Calls Tryd.prog 8 #[] y fun e w' => e = .returned (.bool true) ∧ Keep y w') := Lib.hid fun y hy => awake_any y (hS.keep hy)
  have CG : ∀ g gs, g.ok → HdA g gs → ∀ y, Keep w y → l.length ≤ 20 → p.chks.length ≤ 120 → Calls Tryd.prog 9 #[parV p A c, .slice B l.length d, .agg gs, iv now] y fun e w' => e = .returned (iv (checkR p l g now)) ∧ Keep y w' := fun g gs gk hgs y hy h1 h2 =>
    check_hd p A c B l d g gs now y (hS.keep hy) ⟨hC.1.keep hy, hC.2, by omega⟩ (by omega) hd hdm (hr.keep hy) hk gk hgs
  have CK := Lib.hid (CG h cs ho hcs)
  obtain ⟨x0, pr, hpr⟩ : ∃ x0 pr, h.prev = x0 :: pr := by
    cases hp : h.prev with
    | nil => have := ho.1; rw [hp] at this; cases this
    | cons a b => exact ⟨a, b, rfl⟩
  have X8 := xor8 x0
  have N8 := xor8_ne x0
  obtain ⟨x1, hx1⟩ : ∃ x1, x0 ^^^ 1 = x1 := ⟨_, rfl⟩
  rw [hx1] at X8 N8
  have X32 := xor32 h.bits
  have N32 := xor32_ne h.bits
  obtain ⟨b1, hb1⟩ : ∃ b1, h.bits ^^^ 1 = b1 := ⟨_, rfl⟩
  rw [hb1] at X32 N32
  obtain ⟨md, hmd⟩ : ∃ md, medL (l.map Hd.time) = md := ⟨_, rfl⟩
  have oa : ({ h with prev := x1 :: pr } : Hd).ok := ⟨by have := ho.1; rw [hpr] at this; simpa using this, ho.2⟩
  have ob : ({ h with bits := b1 } : Hd).ok := ho
  have oc : ({ h with time := md } : Hd).ok := ho
  obtain ⟨av, has, hal⟩ : ∃ av, HdA { h with prev := x1 :: pr } av ∧ av.toList = cs.toList.set 1 (u8v x1) := ⟨_, HdA.of oa, by rw [hcs.l, set1 hpr]⟩
  obtain ⟨bs, hbs, hbl⟩ : ∃ bs, HdA { h with bits := b1 } bs ∧ bs.toList = cs.toList.set 66 (u32v b1) := ⟨_, HdA.of ob, by rw [hcs.l, set66 ho]⟩
  obtain ⟨gs, hgs, hgl⟩ : ∃ gs, HdA { h with time := md } gs ∧ gs.toList = cs.toList.set 65 (u32v md) := ⟨_, HdA.of oc, by rw [hcs.l, set65 ho]⟩
  have KA : Hid (∀ y, Keep w y → l.length ≤ 20 → p.chks.length ≤ 120 → checkR p l h now = 0 → Calls Tryd.prog 9 #[parV p A c, .slice B l.length d, .agg av, iv now] y fun e w' => e = .returned (iv 9) ∧ Keep y w') := Lib.hid fun y hy h1 h2 h3 => by
    have q := CG _ av oa has y hy h1 h2
    rw [spoilt_prev h3 (g := { h with prev := x1 :: pr }) (by rw [hpr]; intro e; exact N8 (List.cons.inj e).1)] at q
    exact q
  have KB : Hid (∀ y, Keep w y → l.length ≤ 20 → p.chks.length ≤ 120 → checkR p l h now = 0 → Calls Tryd.prog 9 #[parV p A c, .slice B l.length d, .agg bs, iv now] y fun e w' => e = .returned (iv 7) ∧ Keep y w') := Lib.hid fun y hy h1 h2 h3 => by
    have q := CG _ bs ob hbs y hy h1 h2
    rw [spoilt_bits h3 (g := { h with bits := b1 }) rfl N32] at q
    exact q
  have KC := Lib.hid (CG _ gs oc hgs)
  have HX : Hid (checkR p l h now = 0 → checkR p l { h with time := md } now = 8 ∨ checkR p l { h with time := md } now = 6) := Lib.hid fun h3 => spoilt_time h3 rfl rfl hmd.symm
  have TI : Hid (∀ y, Keep w y → l.length ≤ 20 → Calls Tryd.prog 16 #[.slice B l.length d] y (Lasted y.heap.size (l.map Hd.time) y)) := Lib.hid fun y hy h1 => times_hd B l d y (by omega) (hr.keep hy) hk
  have MD : Hid (∀ y base v, y.ownsRow base 22 1 v (l.map Hd.time).length ((l.map Hd.time).map u32v) → Calls Tryd.prog 17 #[v] y fun e w' => e = .returned (u32v md) ∧ Keep y w') := Lib.hid fun y base v hv => by
    obtain ⟨Av, cv, rfl, hcv, hmv, hrv⟩ := own_form hv
    rw [← hmd]
    exact median_any Av _ cv y hcv hmv (own_rd hv)
  have HC1 : Hid (cs.toList[1]? = some (u8v x0)) := Lib.hid (by rw [hcs.l]; simp [Hd.cells, hpr])
  have HC65 : Hid (cs.toList[65]? = some (u32v h.time)) := Lib.hid (by rw [hcs.l]; exact hd_time ho)
  have HC66 : Hid (cs.toList[66]? = some (u32v h.bits)) := Lib.hid (by rw [hcs.l]; exact hd_bits ho)
  have hcz := hcs.z; have hcn := hcs.n; have hci := hcs.i; have hco := Lib.hid hcs.o
  have haz := has.z; have han := has.n; have hai := has.i
  have hbz := hbs.z; have hbn := hbs.n; have hbi := hbs.i
  have hgz := hgs.z; have hgn := hgs.n; have hgi := hgs.i
  have HAL := Lib.hid hal; have HBL := Lib.hid hbl; have HGL := Lib.hid hgl
  clear hal hbl hgl has hbs hgs hcs ho hk hr hC hS hdm hd CG oa ob oc hx1 hb1 hmd N8 N32 hpr
  generalize checkR p l h now = R at *
  generalize checkR p l { h with time := md } now = X at *
  generalize l.map Hd.time = ts at *
  generalize l.length = n at *
  generalize h.bits = bits at *
  generalize h.time = tm at *
  unfold parV at *
  generalize p.limit = limit at *
  generalize p.itv = itv at *
  generalize p.span = span at *
  generalize p.fut = fut at *
  generalize p.idx = idx at *
  generalize p.orp = orp at *
  generalize p.chks.length = m at *
  clear p
  obtain ⟨zs, hz1, hz2, hz3, -⟩ := zhead_letter
  have STO : Hid (∀ y : World, (storeCells ⟨y.heap.size, 0, none⟩ cs.toList 0).run Tryd.prog (y.alloc (.cells zs 30)) = .ok () (y.alloc (.cells cs 30))) := Lib.hid fun y => run_storeCells_new (P := Tryd.prog) y 30 zs cs hci (hz1.trans hcz.symm) (by have := all_oneCell_toArray hco.out; rwa [Array.toArray_toList] at this)
  go_enter Tryd.func4, Tryd.ntmps4
  go_upto_region 1 with fail
  obtain ⟨w1, hw1⟩ : ∃ w1, w1 = (w.alloc (.cells #[u32v limit, iv itv, iv span, iv fut, iv idx, iv orp, .slice A m c] 25)).alloc (.cells cs 30) := ⟨_, rfl⟩
  have HP1 : Hid (Blk w1 w.heap.size 25 [u32v limit, iv itv, iv span, iv fut, iv idx, iv orp, .slice A m c]) := by rw [hw1]; exact Lib.hid ((Blk.new w 25 [u32v limit, iv itv, iv span, iv fut, iv idx, iv orp, .slice A m c]).alloc _)
  have HH1 : Hid (Blk w1 (w.heap.size + 1) 30 cs.toList) := by
    rw [hw1]
    have h2 := Blk.new (w.alloc (.cells #[u32v limit, iv itv, iv span, iv fut, iv idx, iv orp, .slice A m c] 25)) 30 cs.toList
    rw [World.size_alloc] at h2
    exact Lib.hid h2
  have HK1 : Hid (Keep w w1) := by rw [hw1]; exact Lib.hid (keep_trans (keep_new _ _) (keep_new _ _))
  rw [← hw1]
  clear hw1
  go_wp2_with fail
  refine (AW.out _ HK1.out).mono ?_
  rintro e w2 ⟨rfl, k2⟩
  have HP2 := Lib.hid (HP1.out.keep k2)
  have HH2 := Lib.hid (HH1.out.keep k2)
  have HK2 := Lib.hid (keep_trans HK1.out k2)
  clear k2 HP1 HH1 HK1
  clear AW
  have p6 := HP2.out.cell 6
  simp only [List.getElem?_cons_succ, List.getElem?_cons_zero] at p6
  by_cases hn : 20 < n
  · have d1 : (20 : Int) < n := by omega
    clear CK KA KB KC HX TI MD
    go_wp2
    exact bodyPost_ret (v := .bool true) (by simp [results, Tryd.results4]) rfl ⟨rfl, HK2.out⟩
  by_cases hm : 120 < m
  · have d1 : ¬ (20 : Int) < n := by omega
    have d2 : (120 : Int) < m := by omega
    clear CK KA KB KC HX TI MD
    go_wp2
    exact bodyPost_ret (v := .bool true) (by simp [results, Tryd.results4]) rfl ⟨rfl, HK2.out⟩
  have d1 : ¬ (20 : Int) < n := by omega
  have d2 : ¬ (120 : Int) < m := by omega
  have d3 : decide ((20 : Int) < n) = false := by simp; omega
  have d4 : decide ((120 : Int) < m) = false := by simp; omega
  have p0 := HP2.out.cell 0
  have p1 := HP2.out.cell 1
  have p2 := HP2.out.cell 2
  have p3 := HP2.out.cell 3
  have p4 := HP2.out.cell 4
  have p5 := HP2.out.cell 5
  simp only [List.getElem?_cons_succ, List.getElem?_cons_zero] at p0 p1 p2 p3 p4 p5
  have RH : Hid (w2.rangeAt (w.heap.size + 1) 0 cs.toList) := Lib.hid (range_of HH2.out 0 cs.toList (by simp [List.take_of_length_le]))
  go_wp2_with ((with_reducible refine load_partg (w.heap.size + 1) 0 cs (Eq.trans ?_ rfl) RH.out _ Tryd.underlying30 rfl hci (Eq.trans ?_ rfl) ?_); rfl; rfl)
  refine (CK.out _ HK2.out (by omega) (by omega)).mono ?_
  clear p0 p1 p2 p3 p4 p5 p6 RH
  rintro e w4 ⟨rfl, k4⟩
  have HP4 := Lib.hid (HP2.out.keep k4)
  have HH4 := Lib.hid (HH2.out.keep k4)
  have HK4 := Lib.hid (keep_trans HK2.out k4)
  clear k4 HP2 HH2 HK2
  by_cases hR : R = 0
  case neg =>
    have hR2 : (R != 0) = true := by simp [hR]
    clear CK KA KB KC HX TI MD
    go_wp2
    exact bodyPost_ret (v := .bool true) (by simp [results, Tryd.results4]) rfl ⟨rfl, HK4.out⟩
  subst hR
  have hX := HX.out rfl
  have rh : Hid (w4.rangeAt (w.heap.size + 1) 0 cs.toList) := Lib.hid (range_of HH4.out 0 cs.toList (by simp [List.take_of_length_le]))
  have hst := STO.out w4
  go_upto_region 5 with ((with_reducible refine load_partg (w.heap.size + 1) 0 cs (Eq.trans ?_ rfl) rh.out _ Tryd.underlying30 rfl hci rfl ?_); rfl)
  clear hst rh
  obtain ⟨w5, hw5⟩ : ∃ w5, w5 = w4.alloc (.cells cs 30) := ⟨_, rfl⟩
  have HP5 : Hid (Blk w5 w.heap.size 25 [u32v limit, iv itv, iv span, iv fut, iv idx, iv orp, .slice A m c]) := by rw [hw5]; exact Lib.hid (HP4.out.alloc _)
  have HH5 : Hid (Blk w5 (w.heap.size + 1) 30 cs.toList) := by rw [hw5]; exact Lib.hid (HH4.out.alloc _)
  have HA5 : Hid (Blk w5 w4.heap.size 30 cs.toList) := by rw [hw5]; exact Lib.hid (Blk.new w4 30 cs.toList)
  have HK5 : Hid (Keep w w5) := by rw [hw5]; exact Lib.hid (keep_trans HK4.out (keep_new _ _))
  rw [← hw5]
  have hgs5 : w.heap.size ≤ w4.heap.size := HK4.out.size
  have hltHP5 := HP4.out.lt
  have hltHH5 := HH4.out.lt
  clear hw5 HP4 HH4 HK4
  generalize w4.heap.size = ga at *
  have c1 := (HA5.out.cell 1).trans HC1.out
  have f1 := HA5.out.frozen 1
  go_upto_region 6 with fail
  clear c1 f1 X8
  obtain ⟨w6, hw6⟩ : ∃ w6, w6 = w5.setCell ⟨ga, 1, none⟩ (u8v x1) := ⟨_, rfl⟩
  have HP6 : Hid (Blk w6 w.heap.size 25 [u32v limit, iv itv, iv span, iv fut, iv idx, iv orp, .slice A m c]) := by rw [hw6]; exact Lib.hid (HP5.out.far (by simp; omega) _)
  have HH6 : Hid (Blk w6 (w.heap.size + 1) 30 cs.toList) := by rw [hw6]; exact Lib.hid (HH5.out.far (by simp; omega) _)
  have HA6 : Hid (Blk w6 ga 30 av.toList) := by rw [hw6, HAL.out]; exact Lib.hid (HA5.out.set_ 1 _)
  have HK6 : Hid (Keep w w6) := by rw [hw6]; exact Lib.hid (Below.setCell HK5.out (by simp; omega) _)
  rw [← hw6]
  clear hw6 HP5 HH5 HA5 HK5
  have rh : Hid (w6.rangeAt (w.heap.size + 1) 0 cs.toList) := Lib.hid (range_of HH6.out 0 cs.toList (by simp [List.take_of_length_le]))
  have hst := STO.out w6
  go_upto_region 7 with ((with_reducible refine load_partg (w.heap.size + 1) 0 cs (Eq.trans ?_ rfl) rh.out _ Tryd.underlying30 rfl hci rfl ?_); rfl)
  clear hst rh
  obtain ⟨w7, hw7⟩ : ∃ w7, w7 = w6.alloc (.cells cs 30) := ⟨_, rfl⟩
  have HP7 : Hid (Blk w7 w.heap.size 25 [u32v limit, iv itv, iv span, iv fut, iv idx, iv orp, .slice A m c]) := by rw [hw7]; exact Lib.hid (HP6.out.alloc _)
  have HH7 : Hid (Blk w7 (w.heap.size + 1) 30 cs.toList) := by rw [hw7]; exact Lib.hid (HH6.out.alloc _)
  have HA7 : Hid (Blk w7 ga 30 av.toList) := by rw [hw7]; exact Lib.hid (HA6.out.alloc _)
  have HB7 : Hid (Blk w7 w6.heap.size 30 cs.toList) := by rw [hw7]; exact Lib.hid (Blk.new w6 30 cs.toList)
  have HK7 : Hid (Keep w w7) := by rw [hw7]; exact Lib.hid (keep_trans HK6.out (keep_new _ _))
  rw [← hw7]
  have hgs7 : w.heap.size ≤ w6.heap.size := HK6.out.size
  have hltHP7 := HP6.out.lt
  have hltHH7 := HH6.out.lt
  have hltHA7 := HA6.out.lt
  clear hw7 HP6 HH6 HA6 HK6
  generalize w6.heap.size = gb at *
  have c66 := (HB7.out.cell 66).trans HC66.out
  have f66 := HB7.out.frozen 66
  go_upto_region 8 with fail
  clear c66 f66 X32
  obtain ⟨w8, hw8⟩ : ∃ w8, w8 = w7.setCell ⟨gb, 66, none⟩ (u32v b1) := ⟨_, rfl⟩
  have HP8 : Hid (Blk w8 w.heap.size 25 [u32v limit, iv itv, iv span, iv fut, iv idx, iv orp, .slice A m c]) := by rw [hw8]; exact Lib.hid (HP7.out.far (by simp; omega) _)
  have HH8 : Hid (Blk w8 (w.heap.size + 1) 30 cs.toList) := by rw [hw8]; exact Lib.hid (HH7.out.far (by simp; omega) _)
  have HA8 : Hid (Blk w8 ga 30 av.toList) := by rw [hw8]; exact Lib.hid (HA7.out.far (by simp; omega) _)
  have HB8 : Hid (Blk w8 gb 30 bs.toList) := by rw [hw8, HBL.out]; exact Lib.hid (HB7.out.set_ 66 _)
  have HK8 : Hid (Keep w w8) := by rw [hw8]; exact Lib.hid (Below.setCell HK7.out (by simp; omega) _)
  rw [← hw8]
  clear hw8 HP7 HH7 HA7 HB7 HK7
  have rh : Hid (w8.rangeAt (w.heap.size + 1) 0 cs.toList) := Lib.hid (range_of HH8.out 0 cs.toList (by simp [List.take_of_length_le]))
  have hst := STO.out w8
  go_upto_region 9 with ((with_reducible refine load_partg (w.heap.size + 1) 0 cs (Eq.trans ?_ rfl) rh.out _ Tryd.underlying30 rfl hci rfl ?_); rfl)
  clear hst rh
  obtain ⟨w9, hw9⟩ : ∃ w9, w9 = w8.alloc (.cells cs 30) := ⟨_, rfl⟩
  have HP9 : Hid (Blk w9 w.heap.size 25 [u32v limit, iv itv, iv span, iv fut, iv idx, iv orp, .slice A m c]) := by rw [hw9]; exact Lib.hid (HP8.out.alloc _)
  have HH9 : Hid (Blk w9 (w.heap.size + 1) 30 cs.toList) := by rw [hw9]; exact Lib.hid (HH8.out.alloc _)
  have HA9 : Hid (Blk w9 ga 30 av.toList) := by rw [hw9]; exact Lib.hid (HA8.out.alloc _)
  have HB9 : Hid (Blk w9 gb 30 bs.toList) := by rw [hw9]; exact Lib.hid (HB8.out.alloc _)
  have HG9 : Hid (Blk w9 w8.heap.size 30 cs.toList) := by rw [hw9]; exact Lib.hid (Blk.new w8 30 cs.toList)
  have HK9 : Hid (Keep w w9) := by rw [hw9]; exact Lib.hid (keep_trans HK8.out (keep_new _ _))
  rw [← hw9]
  have hgs9 : w.heap.size ≤ w8.heap.size := HK8.out.size
  have hltHP9 := HP8.out.lt
  have hltHH9 := HH8.out.lt
  have hltHA9 := HA8.out.lt
  have hltHB9 := HB8.out.lt
  clear hw9 HP8 HH8 HA8 HB8 HK8
  generalize w8.heap.size = gc at *
  go_wp2_with fail
  refine (TI.out _ HK9.out (by omega)).mono ?_
  rintro e w10 ⟨tv, rfl, htv, k10⟩
  have HTV := Lib.hid htv
  clear htv TI
  have HP10 := Lib.hid (HP9.out.keep k10)
  have HH10 := Lib.hid (HH9.out.keep k10)
  have HA10 := Lib.hid (HA9.out.keep k10)
  have HB10 := Lib.hid (HB9.out.keep k10)
  have HG10 := Lib.hid (HG9.out.keep k10)
  have HK10 := Lib.hid (keep_trans HK9.out k10)
  clear k10 HP9 HH9 HA9 HB9 HG9 HK9
  go_wp2_with fail
  refine (MD.out _ _ _ HTV.out).mono ?_
  rintro e w11 ⟨rfl, k11⟩
  clear HTV MD
  have HP11 := Lib.hid (HP10.out.keep k11)
  have HH11 := Lib.hid (HH10.out.keep k11)
  have HA11 := Lib.hid (HA10.out.keep k11)
  have HB11 := Lib.hid (HB10.out.keep k11)
  have HG11 := Lib.hid (HG10.out.keep k11)
  have HK11 := Lib.hid (keep_trans HK10.out k11)
  clear k11 HP10 HH10 HA10 HB10 HG10 HK10
  have c65 := (HG11.out.cell 65).trans HC65.out
  have f65 := HG11.out.frozen 65
  go_upto_region 10 with fail
  clear c65 f65
  obtain ⟨wa, hwa⟩ : ∃ wa, wa = w11.setCell ⟨gc, 65, none⟩ (u32v md) := ⟨_, rfl⟩
  have HPa : Hid (Blk wa w.heap.size 25 [u32v limit, iv itv, iv span, iv fut, iv idx, iv orp, .slice A m c]) := by rw [hwa]; exact Lib.hid (HP11.out.far (by simp; omega) _)
  have HHa : Hid (Blk wa (w.heap.size + 1) 30 cs.toList) := by rw [hwa]; exact Lib.hid (HH11.out.far (by simp; omega) _)
  have HAa : Hid (Blk wa ga 30 av.toList) := by rw [hwa]; exact Lib.hid (HA11.out.far (by simp; omega) _)
  have HBa : Hid (Blk wa gb 30 bs.toList) := by rw [hwa]; exact Lib.hid (HB11.out.far (by simp; omega) _)
  have HGa : Hid (Blk wa gc 30 gs.toList) := by rw [hwa, HGL.out]; exact Lib.hid (HG11.out.set_ 65 _)
  have HKa : Hid (Keep w wa) := by rw [hwa]; exact Lib.hid (Below.setCell HK11.out (by simp; omega) _)
  rw [← hwa]
  clear hwa HP11 HH11 HA11 HB11 HG11 HK11 HAL HBL HGL HC1 HC65 HC66
  have p0 := HPa.out.cell 0
  have p1 := HPa.out.cell 1
  have p2 := HPa.out.cell 2
  have p3 := HPa.out.cell 3
  have p4 := HPa.out.cell 4
  have p5 := HPa.out.cell 5
  have p6 := HPa.out.cell 6
  simp only [List.getElem?_cons_succ, List.getElem?_cons_zero] at p0 p1 p2 p3 p4 p5 p6
  have rg : Hid (wa.rangeAt gc 0 gs.toList) := Lib.hid (range_of HGa.out 0 gs.toList (by simp [List.take_of_length_le]))
  go_wp2_with ((with_reducible refine load_partg gc 0 gs (Eq.trans ?_ rfl) rg.out _ Tryd.underlying30 rfl hgi rfl ?_); rfl)
  refine (KC.out _ HKa.out (by omega) (by omega)).mono ?_
  clear KC p0 p1 p2 p3 p4 p5 p6 rg
  rintro e wb ⟨rfl, kb⟩
  have HPb := Lib.hid (HPa.out.keep kb)
  have HHb := Lib.hid (HHa.out.keep kb)
  have HAb := Lib.hid (HAa.out.keep kb)
  have HBb := Lib.hid (HBa.out.keep kb)
  have HGb := Lib.hid (HGa.out.keep kb)
  have HKb := Lib.hid (keep_trans HKa.out kb)
  clear kb HPa HHa HAa HBa HGa HKa
  rcases hX with rfl | rfl
  ·
    have p0 := HPb.out.cell 0
    have p1 := HPb.out.cell 1
    have p2 := HPb.out.cell 2
    have p3 := HPb.out.cell 3
    have p4 := HPb.out.cell 4
    have p5 := HPb.out.cell 5
    have p6 := HPb.out.cell 6
    simp only [List.getElem?_cons_succ, List.getElem?_cons_zero] at p0 p1 p2 p3 p4 p5 p6
    have rh : Hid (wb.rangeAt ga 0 av.toList) := Lib.hid (range_of HAb.out 0 av.toList (by simp [List.take_of_length_le]))
    go_wp2_with ((with_reducible refine load_partg ga 0 av (Eq.trans ?_ rfl) rh.out _ Tryd.underlying30 rfl hai (Eq.trans ?_ rfl) ?_); rfl; rfl)
    refine (KA.out _ HKb.out (by omega) (by omega) (by simp)).mono ?_
    clear p0 p1 p2 p3 p4 p5 p6 rh
    rintro e wd ⟨rfl, kd⟩
    have HPd := Lib.hid (HPb.out.keep kd)
    have HHd := Lib.hid (HHb.out.keep kd)
    have HBd := Lib.hid (HBb.out.keep kd)
    have HKd := Lib.hid (keep_trans HKb.out kd)
    clear kd HPb HHb HBb HKb
    have p0 := HPd.out.cell 0
    have p1 := HPd.out.cell 1
    have p2 := HPd.out.cell 2
    have p3 := HPd.out.cell 3
    have p4 := HPd.out.cell 4
    have p5 := HPd.out.cell 5
    have p6 := HPd.out.cell 6
    simp only [List.getElem?_cons_succ, List.getElem?_cons_zero] at p0 p1 p2 p3 p4 p5 p6
    have rh : Hid (wd.rangeAt gb 0 bs.toList) := Lib.hid (range_of HBd.out 0 bs.toList (by simp [List.take_of_length_le]))
    go_wp2_with ((with_reducible refine load_partg gb 0 bs (Eq.trans ?_ rfl) rh.out _ Tryd.underlying30 rfl hbi (Eq.trans ?_ rfl) ?_); rfl; rfl)
    refine (KB.out _ HKd.out (by omega) (by omega) (by simp)).mono ?_
    clear p0 p1 p2 p3 p4 p5 p6 rh
    rintro e we ⟨rfl, ke⟩
    have HPe := Lib.hid (HPd.out.keep ke)
    have HHe := Lib.hid (HHd.out.keep ke)
    have HKe := Lib.hid (keep_trans HKd.out ke)
    clear ke HPd HHd HKd
    have p0 := HPe.out.cell 0
    have p1 := HPe.out.cell 1
    have p2 := HPe.out.cell 2
    have p3 := HPe.out.cell 3
    have p4 := HPe.out.cell 4
    have p5 := HPe.out.cell 5
    have p6 := HPe.out.cell 6
    simp only [List.getElem?_cons_succ, List.getElem?_cons_zero] at p0 p1 p2 p3 p4 p5 p6
    have rh : Hid (we.rangeAt (w.heap.size + 1) 0 cs.toList) := Lib.hid (range_of HHe.out 0 cs.toList (by simp [List.take_of_length_le]))
    go_wp2_with ((with_reducible refine load_partg (w.heap.size + 1) 0 cs (Eq.trans ?_ rfl) rh.out _ Tryd.underlying30 rfl hci (Eq.trans ?_ rfl) ?_); rfl; rfl)
    refine (CK.out _ HKe.out (by omega) (by omega)).mono ?_
    clear p0 p1 p2 p3 p4 p5 p6 rh
    rintro e wf ⟨rfl, kf⟩
    have HPf := Lib.hid (HPe.out.keep kf)
    have HKf := Lib.hid (keep_trans HKe.out kf)
    clear kf HPe HKe
    go_wp2
    exact bodyPost_ret (v := .bool true) (by simp [results, Tryd.results4]) rfl ⟨rfl, HKf.out⟩
  ·
    have p0 := HPb.out.cell 0
    have p1 := HPb.out.cell 1
    have p2 := HPb.out.cell 2
    have p3 := HPb.out.cell 3
    have p4 := HPb.out.cell 4
    have p5 := HPb.out.cell 5
    have p6 := HPb.out.cell 6
    simp only [List.getElem?_cons_succ, List.getElem?_cons_zero] at p0 p1 p2 p3 p4 p5 p6
    have rh : Hid (wb.rangeAt ga 0 av.toList) := Lib.hid (range_of HAb.out 0 av.toList (by simp [List.take_of_length_le]))
    go_wp2_with ((with_reducible refine load_partg ga 0 av (Eq.trans ?_ rfl) rh.out _ Tryd.underlying30 rfl hai (Eq.trans ?_ rfl) ?_); rfl; rfl)
    refine (KA.out _ HKb.out (by omega) (by omega) (by simp)).mono ?_
    clear p0 p1 p2 p3 p4 p5 p6 rh
    rintro e wd ⟨rfl, kd⟩
    have HPd := Lib.hid (HPb.out.keep kd)
    have HHd := Lib.hid (HHb.out.keep kd)
    have HBd := Lib.hid (HBb.out.keep kd)
    have HKd := Lib.hid (keep_trans HKb.out kd)
    clear kd HPb HHb HBb HKb
    have p0 := HPd.out.cell 0
    have p1 := HPd.out.cell 1
    have p2 := HPd.out.cell 2
    have p3 := HPd.out.cell 3
    have p4 := HPd.out.cell 4
    have p5 := HPd.out.cell 5
    have p6 := HPd.out.cell 6
    simp only [List.getElem?_cons_succ, List.getElem?_cons_zero] at p0 p1 p2 p3 p4 p5 p6
    have rh : Hid (wd.rangeAt gb 0 bs.toList) := Lib.hid (range_of HBd.out 0 bs.toList (by simp [List.take_of_length_le]))
    go_wp2_with ((with_reducible refine load_partg gb 0 bs (Eq.trans ?_ rfl) rh.out _ Tryd.underlying30 rfl hbi (Eq.trans ?_ rfl) ?_); rfl; rfl)
    refine (KB.out _ HKd.out (by omega) (by omega) (by simp)).mono ?_
    clear p0 p1 p2 p3 p4 p5 p6 rh
    rintro e we ⟨rfl, ke⟩
    have HPe := Lib.hid (HPd.out.keep ke)
    have HHe := Lib.hid (HHd.out.keep ke)
    have HKe := Lib.hid (keep_trans HKd.out ke)
    clear ke HPd HHd HKd
    have p0 := HPe.out.cell 0
    have p1 := HPe.out.cell 1
    have p2 := HPe.out.cell 2
    have p3 := HPe.out.cell 3
    have p4 := HPe.out.cell 4
    have p5 := HPe.out.cell 5
    have p6 := HPe.out.cell 6
    simp only [List.getElem?_cons_succ, List.getElem?_cons_zero] at p0 p1 p2 p3 p4 p5 p6
    have rh : Hid (we.rangeAt (w.heap.size + 1) 0 cs.toList) := Lib.hid (range_of HHe.out 0 cs.toList (by simp [List.take_of_length_le]))
    go_wp2_with ((with_reducible refine load_partg (w.heap.size + 1) 0 cs (Eq.trans ?_ rfl) rh.out _ Tryd.underlying30 rfl hci (Eq.trans ?_ rfl) ?_); rfl; rfl)
    refine (CK.out _ HKe.out (by omega) (by omega)).mono ?_
    clear p0 p1 p2 p3 p4 p5 p6 rh
    rintro e wf ⟨rfl, kf⟩
    have HPf := Lib.hid (HPe.out.keep kf)
    have HKf := Lib.hid (keep_trans HKe.out kf)
    clear kf HPe HKe
    go_wp2
    exact bodyPost_ret (v := .bool true) (by simp [results, Tryd.results4]) rfl ⟨rfl, HKf.out⟩
end Go.Proofs.YteoilddiilegmaaDoor
