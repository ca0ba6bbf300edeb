/- RulesParts: the walk. (printed by gen_rpa.py) -/
import Derived.Test.YteoilddiilegmaaDoorRz0
import Derived.Test.YteoilddiilegmaaDoorRw
set_option linter.unusedSimpArgs false
set_option linter.unusedVariables false
namespace Go.Proofs.YteoilddiilegmaaDoor
open Go.RowKit
attribute [local go_sem ↓] Go.wp_at_zero Go.wp_at_succ

theorem low16r (n : Int) : bits .and .i64 n 65535 = n % 65536 := by
  have h127 : (BitVec.ofInt 64 65535).toNat = 2 ^ 16 - 1 := by decide
  have key : (BitVec.ofInt 64 n &&& BitVec.ofInt 64 65535).toNat = (n % ((2 ^ 64 : Nat) : Int)).toNat % 2 ^ 16 := by
    rw [BitVec.toNat_and, BitVec.toNat_ofInt, h127, Nat.and_two_pow_sub_one_eq_mod]
  show IntKind.i64.wrap ((BitVec.ofInt 64 n &&& BitVec.ofInt 64 65535).toNat : Nat) = n % 65536
  rw [key, IntKind.wrap_i64]
  omega
theorem list_build1b {P : Program} {t e : TypeId} {zc : Array Value} {size bytes : Nat} (T : ElT P t e (.agg zc) size bytes) {ops : Array Oper} {rest : List Oper} {a : Act} {w : World} {Q : Exit → Act → World → Prop} {x : Operand} {dst : Option Tmp} {ty' : TypeId} {pos : String} {af : Array Edge}
    (cs : Array Value) (hz : cs.size = size) (hsm : size ≤ 1000) (hx : a.eval x = .agg cs)
    (h : wpList P ops Q rest (a.put dst (.slice (some ⟨w.heap.size, 0, none⟩) 1 1)) (w.alloc (.cells cs e))) : wpList P ops Q ({ dst := dst, op := .buildSlice t 1 #[(0, x)], type := ty', pos := pos, after := af, guard := none } :: rest) a w :=
  wpList_plain rfl fun _ hK => wp_build1b T x rfl cs hz hsm hx (hK _ _ h)

set_option maxRecDepth 100000 in
set_option maxHeartbeats 16000000 in
theorem parts_walk (p : Par) (A : Option Addr) (c : Nat) (B : Option Addr) (l : List Hd) (d : Nat) (h : Hd) (cs : Array Value) (now kk : Int) (w : World) (hS : ShaOk w) (hC : Rd w A (p.chks.flatMap chkC) ∧ ∀ x ∈ p.chks, x.2.length = 32)
    (hd : l.length ≤ d) (hdm : d ≤ maxLen) (hr : Rd w B (l.flatMap Hd.cells)) (hk : ∀ h ∈ l, h.ok) (ho : h.ok) (hcs : HdA h cs) (hkk : -9223372036854775808 ≤ kk ∧ kk ≤ 9223372036854775807) :
    Calls Tryd.prog 6 #[parV p A c, .slice B l.length d, .agg cs, iv now, iv kk] w fun e w' => e = .returned (.bool true) ∧ Keep w w' := by
  have AW : Hid (∀ y, Keep w y → Calls Tryd.prog 8 #[] y fun e w' => e = .returned (.bool true) ∧ Keep y w') := Lib.hid fun y hy => awake_any y (hS.keep hy)
  have CK : Hid (∀ y, Keep w y → l.length ≤ 16 → p.chks.length ≤ 120 → Calls Tryd.prog 9 #[parV p A c, .slice B l.length d, .agg cs, iv now] y fun e w' => e = .returned (iv (checkR p l h now)) ∧ Keep y w') := Lib.hid fun y hy h1 h2 =>
    check_hd p A c B l d h cs now y (hS.keep hy) ⟨hC.1.keep hy, hC.2, by omega⟩ (by omega) hd hdm (hr.keep hy) hk ho hcs
  have BG : Hid (∀ y, Keep w y → p.chks.length ≤ 120 → Calls Tryd.prog 21 #[parV p A c, .agg cs] y fun e w' => e = .returned (iv (beginsR p h)) ∧ Keep y w') := Lib.hid fun y hy h2 =>
    begins_any p A c h cs y (hS.keep hy) ⟨hC.1.keep hy, hC.2, by omega⟩ ho hcs
  have V1 : Hid (∀ y, Keep w y → l.length ≤ 16 → p.chks.length ≤ 120 → Calls Tryd.prog 18 #[parV p A c, .slice B l.length d, iv now] y fun e w' => e = .returned (.tuple #[iv (validN p l now), iv (validE p l now)]) ∧ Keep y w') := Lib.hid fun y hy h1 h2 =>
    valid_any p A c B l d now y (hS.keep hy) ⟨hC.1.keep hy, hC.2, by omega⟩ (by omega) hd hdm (hr.keep hy) hk
  have V2 : Hid (∀ m o, m ≤ l.length → min (validN p l now) m = o → ∃ x, ∀ y, Keep w y → l.length ≤ 16 → p.chks.length ≤ 120 → Calls Tryd.prog 18 #[parV p A c, .slice B m d, iv now] y fun e w' => e = .returned (.tuple #[iv o, iv x]) ∧ Keep y w') := Lib.hid fun m o hm hmo => ⟨validE p (l.take m) now, fun y hy h1 h2 => by
    have e : (l.take m).length = m := by simp; omega
    have q := valid_any p A c B (l.take m) d now y (hS.keep hy) ⟨hC.1.keep hy, hC.2, by omega⟩ (by omega) (by omega) hdm (rd_takeH (hr.keep hy) m) (fun h hh => hk h (List.mem_of_mem_take hh))
    rw [e, valid_part hm, hmo] at q
    exact q⟩
  have V20 : Hid (∃ x, ∀ y B' d', Keep w y → d' ≤ maxLen → p.chks.length ≤ 120 → Calls Tryd.prog 18 #[parV p A c, .slice B' 0 d', iv now] y fun e w' => e = .returned (.tuple #[iv 0, iv x]) ∧ Keep y w') := Lib.hid ⟨validE p [] now, fun y B' d' hy h1 h2 =>
    valid_any p A c B' [] d' now y (hS.keep hy) ⟨hC.1.keep hy, hC.2, by omega⟩ (by decide) (Nat.zero_le _) h1 (Rd.nil _ _) (fun h hh => absurd hh List.not_mem_nil)⟩
  have hcl : (l ++ [h]).flatMap Hd.cells = l.flatMap Hd.cells ++ cs.toList := by simp [hcs.l]
  have V3 : Hid (∀ y A4 c4, Keep w y → l.length ≤ 16 → p.chks.length ≤ 120 → l.length + 1 ≤ c4 → c4 ≤ maxLen → Rd y A4 (l.flatMap Hd.cells ++ cs.toList) → Calls Tryd.prog 18 #[parV p A c, .slice A4 (l.length + 1) c4, iv now] y fun e w' => e = .returned (.tuple #[iv (validN p (l ++ [h]) now), iv (validE p (l ++ [h]) now)]) ∧ Keep y w') := Lib.hid fun y A4 c4 hy h1 h2 h3 h4 h5 => by
    have e : (l ++ [h]).length = l.length + 1 := by simp
    have q := valid_any p A c A4 (l ++ [h]) c4 now y (hS.keep hy) ⟨hC.1.keep hy, hC.2, by omega⟩ (by omega) (by omega) h4 (by rw [hcl]; exact h5) (fun x hx => by
      rcases List.mem_append.1 hx with hx | hx
      · exact hk x hx
      · rw [List.mem_singleton.1 hx]; exact ho)
    rw [e] at q
    exact q
  have HLC : Hid ((l.flatMap Hd.cells).length = l.length * 68) := Lib.hid (flatMap_len' _ 68 _ fun x hx => Hd.len (hk x hx))
  have HL1 : Hid (∀ u ∈ l.flatMap Hd.cells, u.oneCell' = true) := Lib.hid fun u hu => by
    obtain ⟨x, -, hx⟩ := List.mem_flatMap.1 hu
    exact Hd.one x u hx
  have HN := (valid_low (p := p) (l := l) (now := now)).2.1
  have LAW := Lib.hid (valid_more (p := p) (l := l) (h := h) (now := now))
  have M0 : Hid (l.length = 0 → moreR p l h now = beginsR p h) := Lib.hid fun e => if_pos e
  have M1 : Hid (l.length ≠ 0 → moreR p l h now = checkR p l h now) := Lib.hid fun e => if_neg e
  have HAT : Hid (l.length ≠ 0 → ∃ b off, B = some ⟨b, off, none⟩) := Lib.hid fun e => by
    obtain ⟨b, off, h1, -⟩ := heads_at hr hk (k := 0) (by omega)
    exact ⟨b, off, h1⟩
  have HR := Lib.hid hr
  have em := low16r kk
  have bm : 0 ≤ kk % 65536 ∧ kk % 65536 < 65536 := by omega
  obtain ⟨x, hx⟩ : ∃ x : Nat, kk % 65536 = x := ⟨(kk % 65536).toNat, by omega⟩
  rw [hx] at em bm
  have hcz := hcs.z; have hcn := hcs.n; have hci := hcs.i; have hco := Lib.hid hcs.o
  clear hcl hcs ho hk hr hC hS hx hkk
  have hdm' : Hid (l.length ≤ d ∧ d ≤ maxLen) := Lib.hid ⟨hd, hdm⟩
  generalize validN p l now = N at *
  generalize validE p l now = E1 at *
  generalize validN p (l ++ [h]) now = Q at *
  generalize validE p (l ++ [h]) now = QE at *
  generalize moreR p l h now = M at *
  generalize checkR p l h now = R at *
  generalize beginsR p h = BR at *
  generalize l.flatMap Hd.cells = LC at *
  generalize l.length = n at *
  unfold parV at *
  generalize p.limit = limit at *
  generalize p.itv = itv at *
  generalize p.span = span at *
  generalize p.fut = fut at *
  generalize p.idx = idx at *
  generalize p.orp = orp at *
  generalize p.chks.length = m at *
  clear p
  go_enter Tryd.func6, Tryd.ntmps6
  go_upto_region 1 with fail
  obtain ⟨w1, hw1⟩ : ∃ w1, w1 = (w.alloc (.cells #[u32v limit, iv itv, iv span, iv fut, iv idx, iv orp, .slice A m c] 25)).alloc (.cells cs 30) := ⟨_, rfl⟩
  have HP1 : Hid (Blk w1 w.heap.size 25 [u32v limit, iv itv, iv span, iv fut, iv idx, iv orp, .slice A m c]) := by rw [hw1]; exact Lib.hid ((Blk.new w 25 [u32v limit, iv itv, iv span, iv fut, iv idx, iv orp, .slice A m c]).alloc _)
  have HH1 : Hid (Blk w1 (w.heap.size + 1) 30 cs.toList) := by
    rw [hw1]
    have h2 := Blk.new (w.alloc (.cells #[u32v limit, iv itv, iv span, iv fut, iv idx, iv orp, .slice A m c] 25)) 30 cs.toList
    rw [World.size_alloc] at h2
    exact Lib.hid h2
  have HK1 : Hid (Keep w w1) := by rw [hw1]; exact Lib.hid (keep_trans (keep_new _ _) (keep_new _ _))
  rw [← hw1]
  clear hw1
  go_wp2_with fail
  refine (AW.out _ HK1.out).mono ?_
  clear AW
  rintro e w2 ⟨rfl, k2⟩
  have HP2 := Lib.hid (HP1.out.keep k2)
  have HH2 := Lib.hid (HH1.out.keep k2)
  have HK2 := Lib.hid (keep_trans HK1.out k2)
  clear k2 HP1 HH1 HK1
  have p6 := HP2.out.cell 6
  simp only [List.getElem?_cons_succ, List.getElem?_cons_zero] at p6
  by_cases hn : 16 < n
  · have d1 : (16 : Int) < n := by omega
    clear V1 V2 V20 V3 CK BG LAW M0 M1 HAT HR em bm hd hdm HN
    go_wp2
    exact bodyPost_ret (v := .bool true) (by simp [results, Tryd.results6]) rfl ⟨rfl, HK2.out⟩
  by_cases hm : 120 < m
  · have d1 : ¬ (16 : Int) < n := by omega
    have d2 : (120 : Int) < m := by omega
    clear V1 V2 V20 V3 CK BG LAW M0 M1 HAT HR em bm hd hdm HN
    go_wp2
    exact bodyPost_ret (v := .bool true) (by simp [results, Tryd.results6]) rfl ⟨rfl, HK2.out⟩
  have d1 : ¬ (16 : Int) < n := by omega
  have d2 : ¬ (120 : Int) < m := by omega
  have p0 := HP2.out.cell 0
  have p1 := HP2.out.cell 1
  have p2 := HP2.out.cell 2
  have p3 := HP2.out.cell 3
  have p4 := HP2.out.cell 4
  have p5 := HP2.out.cell 5
  simp only [List.getElem?_cons_succ, List.getElem?_cons_zero] at p0 p1 p2 p3 p4 p5
  clear hd hdm
  have HNn := Lib.hid HN
  clear HN
  go_wp2_with fail
  refine (V1.out _ HK2.out (by omega) (by omega)).mono ?_
  clear V1 p0 p1 p2 p3 p4 p5 p6
  rintro e w3 ⟨rfl, k3⟩
  have HP3 := Lib.hid (HP2.out.keep k3)
  have HH3 := Lib.hid (HH2.out.keep k3)
  have HK3 := Lib.hid (keep_trans HK2.out k3)
  clear k3 HP2 HH2 HK2
  by_cases h0 : n = 0
  · subst h0
    obtain rfl : N = 0 := by have := HNn.out; omega
    have hM := M0.out rfl
    subst hM
    obtain ⟨hI0, hq⟩ := LAW.out.2 rfl
    subst hq
    have hI := Lib.hid hI0
    clear hI0 LAW M0 M1
    obtain ⟨E2, V20o⟩ := V20.out
    have V2x := Lib.hid V20o
    obtain ⟨o, ho⟩ : ∃ o : Nat, o = 0 := ⟨_, rfl⟩
    clear V2 V20 V20o HAT bm
    go_upto_region 8 with fail
    refine wp_region_tree (.take [0,1,2,3,4] (.force [5] (.take [6,7,8,9,10] .done))) [] (by kernel_rfl) (by kernel_rfl) (fun w4 k4 => ?_)
    have HP4 := Lib.hid (HP3.out.keep k4)
    have HH4 := Lib.hid (HH3.out.keep k4)
    have HK4 := Lib.hid (keep_trans HK3.out k4)
    clear k4 HP3 HH3 HK3
    have q0 := aft_cell (HP4.out.cell 0)
    have q1 := aft_cell (HP4.out.cell 1)
    have q2 := aft_cell (HP4.out.cell 2)
    have q3 := aft_cell (HP4.out.cell 3)
    have q4 := aft_cell (HP4.out.cell 4)
    have q5 := aft_cell (HP4.out.cell 5)
    have q6 := aft_cell (HP4.out.cell 6)
    refine mt_take w4 (Below.refl _ _) ?_
    simp only [pick_cons, pick_nil, nth_zero, nth_succ]
    repeat (first
      | go_big_quiet_step (fail))
    clear q0 q1 q2 q3 q4 q5 q6
    refine wpQuiet_nil (mt_force ?_)
    simp only [pick_cons, pick_nil, nth_zero, nth_succ]
    refine fc_step rfl (fun K hK => ?_)
    go_simp
    (with_reducible refine (V2x.out _ _ _ HK4.out (by have := hdm'.out; omega) (by omega)).mono ?_)
    rintro e w5 ⟨rfl, k5⟩
    refine hK _ _ k5 ?_
    clear hK K
    have HP5 := Lib.hid (HP4.out.keep k5)
    have HH5 := Lib.hid (HH4.out.keep k5)
    have HK5 := Lib.hid (keep_trans HK4.out k5)
    clear k5 HP4 HH4 HK4
    refine fc_nil (mt_take w5 (Below.refl _ _) ?_)
    simp only [pick_cons, pick_nil, nth_zero, nth_succ]
    repeat (first
      | go_big_quiet_step (fail))
    refine wpQuiet_nil (mt_end ?_)
    clear V2x
    have hz5 := HK5.out.size
    have HB5 : Hid (Rd w5 B LC) := Lib.hid (HR.out.keep HK5.out)
    go_upto_region 10 with (at_builtin; refine wpList_app headTb (by rfl) _ _ (by rfl) w5.heap.size _ 0 [] (by rfl) (own_zero _ _ _) _ 0 _ LC (by rfl) HLC.out (HB5.out.alloc _) HL1.out (by omega) (by unfold maxLen; omega) (by simp) ?_; intro v6 w6 own6 hg6 hat6; rw [List.nil_append, Nat.zero_add] at own6; have k6 := keep_grown (keep_new _ _) (by simp) hg6 (own_zero _ _ 68); obtain ⟨A6, c6, rfl, hc6, hm6, hrd6⟩ := own_form own6; have Own6 := Lib.hid own6; clear own6 hg6 hat6)
    have hz6 := k6.size
    have K6 := Lib.hid k6
    have HH6 := Lib.hid (HH5.out.keep k6)
    clear k6
    clear hrd6
    have rh : Hid (w6.rangeAt (w.heap.size + 1) 0 cs.toList) := Lib.hid (range_of HH6.out 0 cs.toList (by simp [List.take_of_length_le]))
    go_upto_region 11 with (first
      | ((with_reducible refine load_partg (w.heap.size + 1) 0 cs (Eq.trans ?_ rfl) rh.out _ Tryd.underlying30 rfl hci rfl ?_); rfl)
      | ((with_reducible refine list_build1b headTb cs hcz (by omega) (Eq.trans ?_ rfl) ?_); rfl)
      | (at_builtin; refine wpList_app headTb (by rfl) _ _ (by rfl) w5.heap.size _ 0 LC (by rfl) (Own6.out.alloc _) _ 1 1 cs.toList (by rfl) (by rw [Array.length_toList, hcz]) (by simpa using Rd.new w6 cs.toList 30) hco.out (by omega) (by unfold maxLen; omega) (by simp; omega) ?_; intro v7 w7 own7 hg7 hat7; have k7 := keep_grown (keep_trans K6.out (keep_new w6 _)) (by simp; omega) hg7 (Own6.out.alloc _)))
    obtain ⟨A7, c7, rfl, hc7, hm7, hrd7⟩ := own_form own7
    have Hrd7 := Lib.hid hrd7
    clear own7 hg7 hat7 rh hrd7
    clear HH6 K6
    have HP7 := Lib.hid (HP5.out.keep k7)
    have HH7 := Lib.hid (HH5.out.keep k7)
    have HK7 := Lib.hid (keep_trans HK5.out k7)
    clear k7 HP5 HH5 HK5
    have p0 := HP7.out.cell 0
    have p1 := HP7.out.cell 1
    have p2 := HP7.out.cell 2
    have p3 := HP7.out.cell 3
    have p4 := HP7.out.cell 4
    have p5 := HP7.out.cell 5
    have p6 := HP7.out.cell 6
    simp only [List.getElem?_cons_succ, List.getElem?_cons_zero] at p0 p1 p2 p3 p4 p5 p6
    go_wp2_with fail
    refine (V3.out _ A7 c7 HK7.out (by omega) (by omega) (by omega) hm7 Hrd7.out).mono ?_
    clear V3 p0 p1 p2 p3 p4 p5 p6
    rintro e w8 ⟨rfl, k8⟩
    have HP8 := Lib.hid (HP7.out.keep k8)
    have HH8 := Lib.hid (HH7.out.keep k8)
    have HK8 := Lib.hid (keep_trans HK7.out k8)
    clear k8 HP7 HH7 HK7
    have p0 := HP8.out.cell 0
    have p1 := HP8.out.cell 1
    have p2 := HP8.out.cell 2
    have p3 := HP8.out.cell 3
    have p4 := HP8.out.cell 4
    have p5 := HP8.out.cell 5
    have p6 := HP8.out.cell 6
    simp only [List.getElem?_cons_succ, List.getElem?_cons_zero] at p0 p1 p2 p3 p4 p5 p6
    have rh : Hid (w8.rangeAt (w.heap.size + 1) 0 cs.toList) := Lib.hid (range_of HH8.out 0 cs.toList (by simp [List.take_of_length_le]))
    go_wp2_with ((with_reducible refine load_partg (w.heap.size + 1) 0 cs (Eq.trans ?_ rfl) rh.out _ Tryd.underlying30 rfl hci rfl ?_); rfl)
    refine (CK.out _ HK8.out (by omega) (by omega)).mono ?_
    clear CK p0 p1 p2 p3 p4 p5 p6 rh
    rintro e w9 ⟨rfl, k9⟩
    have HP9 := Lib.hid (HP8.out.keep k9)
    have HH9 := Lib.hid (HH8.out.keep k9)
    have HK9 := Lib.hid (keep_trans HK8.out k9)
    clear k9 HP8 HH8 HK8
    have p0 := HP9.out.cell 0
    have p1 := HP9.out.cell 1
    have p2 := HP9.out.cell 2
    have p3 := HP9.out.cell 3
    have p4 := HP9.out.cell 4
    have p5 := HP9.out.cell 5
    have p6 := HP9.out.cell 6
    simp only [List.getElem?_cons_succ, List.getElem?_cons_zero] at p0 p1 p2 p3 p4 p5 p6
    have rh : Hid (w9.rangeAt (w.heap.size + 1) 0 cs.toList) := Lib.hid (range_of HH9.out 0 cs.toList (by simp [List.take_of_length_le]))
    go_wp2_with ((with_reducible refine load_partg (w.heap.size + 1) 0 cs (Eq.trans ?_ rfl) rh.out _ Tryd.underlying30 rfl hci rfl ?_); rfl)
    refine (BG.out _ HK9.out (by omega)).mono ?_
    clear BG p0 p1 p2 p3 p4 p5 p6 rh
    rintro e wa ⟨rfl, ka⟩
    have HPa := Lib.hid (HP9.out.keep ka)
    have HHa := Lib.hid (HH9.out.keep ka)
    have HKa := Lib.hid (keep_trans HK9.out ka)
    clear ka HP9 HH9 HK9
    have f3 : ((Q : Int) == 1) = (QE == 0) := by
      rw [Bool.eq_iff_iff]; simp only [beq_iff_eq]; rw [← hI.out]; omega
    obtain ⟨b2, hb2⟩ : ∃ b, (QE == 0) = b := ⟨_, rfl⟩
    rw [hb2] at f3
    have s2 : (QE == QE) = true := beq_self_eq_true _
    have s4 : (b2 == b2) = true := beq_self_eq_true _
    clear hI Hrd7 HLC HL1 Own6
    go_wp2
    exact bodyPost_ret (v := .bool true) (by simp [results, Tryd.results6]) rfl ⟨rfl, HKa.out⟩
  have g0 : (0 : Int) < n := by omega
  obtain ⟨b, off, rfl⟩ := HAT.out h0
  have g1 : ((n : Int) + 1 == 0) = false := by rw [beq_eq_false_iff_ne]; omega
  have g2 : IntKind.i64.wrap ((n : Int) + 1) = (n : Int) + 1 := IntWalk.i64_in _ (by omega)
  have g3 : ¬ (n : Int) + 1 = 0 := by omega
  obtain ⟨q, hq⟩ : ∃ q : Nat, q = x % (n + 1) := ⟨_, rfl⟩
  have hqn : q ≤ n := by have := Nat.mod_lt x (show 0 < n + 1 by omega); omega
  have g4 : ((x : Int)).tmod ((n : Int) + 1) = (q : Int) := by rw [hq, Int.tmod_eq_emod_of_nonneg (by omega)]; simp
  have g5 : IntKind.i64.wrap (q : Int) = (q : Int) := IntWalk.i64_in _ (by omega)
  obtain ⟨o, ho⟩ : ∃ o : Nat, min N q = o := ⟨_, rfl⟩
  have omin : min (N : Int) (q : Int) = (o : Int) := by omega
  obtain ⟨E2, V2o⟩ := V2.out q o hqn ho
  have V2x := Lib.hid V2o
  have hqd : q ≤ d := by have := hdm'.out; omega
  obtain ⟨n1, hn1⟩ : ∃ z, (n : Int) + 1 = z := ⟨_, rfl⟩
  rw [hn1] at g1 g2 g3 g4
  clear V2 V20 V2o HAT bm hq ho
  have hd0 : ¬ d = 0 := by have := hdm'.out; omega
  go_upto_region 8 with fail
  refine wp_region_tree (.take [0,1,2,3,4] (.force [5] (.take [6,7,8,9,10] .done))) [] (by kernel_rfl) (by kernel_rfl) (fun w4 k4 => ?_)
  have HP4 := Lib.hid (HP3.out.keep k4)
  have HH4 := Lib.hid (HH3.out.keep k4)
  have HK4 := Lib.hid (keep_trans HK3.out k4)
  clear k4 HP3 HH3 HK3
  have q0 := aft_cell (HP4.out.cell 0)
  have q1 := aft_cell (HP4.out.cell 1)
  have q2 := aft_cell (HP4.out.cell 2)
  have q3 := aft_cell (HP4.out.cell 3)
  have q4 := aft_cell (HP4.out.cell 4)
  have q5 := aft_cell (HP4.out.cell 5)
  have q6 := aft_cell (HP4.out.cell 6)
  refine mt_take w4 (Below.refl _ _) ?_
  simp only [pick_cons, pick_nil, nth_zero, nth_succ]
  repeat (first
    | go_big_quiet_step (fail))
  clear q0 q1 q2 q3 q4 q5 q6
  refine wpQuiet_nil (mt_force ?_)
  simp only [pick_cons, pick_nil, nth_zero, nth_succ]
  refine fc_step rfl (fun K hK => ?_)
  go_simp
  (with_reducible refine (V2x.out _ HK4.out (by omega) (by omega)).mono ?_)
  rintro e w5 ⟨rfl, k5⟩
  refine hK _ _ k5 ?_
  clear hK K
  have HP5 := Lib.hid (HP4.out.keep k5)
  have HH5 := Lib.hid (HH4.out.keep k5)
  have HK5 := Lib.hid (keep_trans HK4.out k5)
  clear k5 HP4 HH4 HK4
  refine fc_nil (mt_take w5 (Below.refl _ _) ?_)
  simp only [pick_cons, pick_nil, nth_zero, nth_succ]
  repeat (first
    | go_big_quiet_step (fail))
  refine wpQuiet_nil (mt_end ?_)
  clear V2x
  have hz5 := HK5.out.size
  have HB5 : Hid (Rd w5 (some ⟨b, off, none⟩) LC) := Lib.hid (HR.out.keep HK5.out)
  go_upto_region 10 with (at_builtin; refine wpList_app headTb (by rfl) _ _ (by rfl) w5.heap.size _ 0 [] (by rfl) (own_zero _ _ _) _ n _ LC (by rfl) HLC.out (HB5.out.alloc _) HL1.out (by omega) (by unfold maxLen; omega) (by simp) ?_; intro v6 w6 own6 hg6 hat6; rw [List.nil_append, Nat.zero_add] at own6; have k6 := keep_grown (keep_new _ _) (by simp) hg6 (own_zero _ _ 68); obtain ⟨A6, c6, rfl, hc6, hm6, hrd6⟩ := own_form own6; have Own6 := Lib.hid own6; clear own6 hg6 hat6)
  have hz6 := k6.size
  have K6 := Lib.hid k6
  have HH6 := Lib.hid (HH5.out.keep k6)
  clear k6
  clear hrd6
  have rh : Hid (w6.rangeAt (w.heap.size + 1) 0 cs.toList) := Lib.hid (range_of HH6.out 0 cs.toList (by simp [List.take_of_length_le]))
  go_upto_region 11 with (first
    | ((with_reducible refine load_partg (w.heap.size + 1) 0 cs (Eq.trans ?_ rfl) rh.out _ Tryd.underlying30 rfl hci rfl ?_); rfl)
    | ((with_reducible refine list_build1b headTb cs hcz (by omega) (Eq.trans ?_ rfl) ?_); rfl)
    | (at_builtin; refine wpList_app headTb (by rfl) _ _ (by rfl) w5.heap.size _ n LC (by rfl) (Own6.out.alloc _) _ 1 1 cs.toList (by rfl) (by rw [Array.length_toList, hcz]) (by simpa using Rd.new w6 cs.toList 30) hco.out (by omega) (by unfold maxLen; omega) (by simp; omega) ?_; intro v7 w7 own7 hg7 hat7; have k7 := keep_grown (keep_trans K6.out (keep_new w6 _)) (by simp; omega) hg7 (Own6.out.alloc _)))
  obtain ⟨A7, c7, rfl, hc7, hm7, hrd7⟩ := own_form own7
  have Hrd7 := Lib.hid hrd7
  clear own7 hg7 hat7 rh hrd7
  clear HH6 K6
  have HP7 := Lib.hid (HP5.out.keep k7)
  have HH7 := Lib.hid (HH5.out.keep k7)
  have HK7 := Lib.hid (keep_trans HK5.out k7)
  clear k7 HP5 HH5 HK5
  have p0 := HP7.out.cell 0
  have p1 := HP7.out.cell 1
  have p2 := HP7.out.cell 2
  have p3 := HP7.out.cell 3
  have p4 := HP7.out.cell 4
  have p5 := HP7.out.cell 5
  have p6 := HP7.out.cell 6
  simp only [List.getElem?_cons_succ, List.getElem?_cons_zero] at p0 p1 p2 p3 p4 p5 p6
  go_wp2_with fail
  refine (V3.out _ A7 c7 HK7.out (by omega) (by omega) (by omega) hm7 Hrd7.out).mono ?_
  clear V3 p0 p1 p2 p3 p4 p5 p6
  rintro e w8 ⟨rfl, k8⟩
  have HP8 := Lib.hid (HP7.out.keep k8)
  have HH8 := Lib.hid (HH7.out.keep k8)
  have HK8 := Lib.hid (keep_trans HK7.out k8)
  clear k8 HP7 HH7 HK7
  have p0 := HP8.out.cell 0
  have p1 := HP8.out.cell 1
  have p2 := HP8.out.cell 2
  have p3 := HP8.out.cell 3
  have p4 := HP8.out.cell 4
  have p5 := HP8.out.cell 5
  have p6 := HP8.out.cell 6
  simp only [List.getElem?_cons_succ, List.getElem?_cons_zero] at p0 p1 p2 p3 p4 p5 p6
  have rh : Hid (w8.rangeAt (w.heap.size + 1) 0 cs.toList) := Lib.hid (range_of HH8.out 0 cs.toList (by simp [List.take_of_length_le]))
  go_wp2_with ((with_reducible refine load_partg (w.heap.size + 1) 0 cs (Eq.trans ?_ rfl) rh.out _ Tryd.underlying30 rfl hci rfl ?_); rfl)
  refine (CK.out _ HK8.out (by omega) (by omega)).mono ?_
  clear CK p0 p1 p2 p3 p4 p5 p6 rh
  rintro e w9 ⟨rfl, k9⟩
  have HP9 := Lib.hid (HP8.out.keep k9)
  have HH9 := Lib.hid (HH8.out.keep k9)
  have HK9 := Lib.hid (keep_trans HK8.out k9)
  clear k9 HP8 HH8 HK8
  have hM := M1.out h0
  subst hM
  have s3 : (o == o) = true := beq_self_eq_true _
  have hL1 := LAW.out.1; have hL2 := LAW.out.2
  have hNn := HNn.out
  clear LAW M0 M1 Hrd7 HLC HL1 Own6
  by_cases hNlt : N < n
  · obtain rfl := hL1 hNlt
    have f1 : (Q : Int) < n := by omega
    clear hL2 hNn hL1
    go_wp2
    exact bodyPost_ret (v := .bool true) (by simp [results, Tryd.results6]) rfl ⟨rfl, HK9.out⟩
  have hNe : N = n := by omega
  obtain ⟨hI, rfl⟩ := hL2 hNe
  subst hNe
  have f1 : ¬ (N : Int) < N := by omega
  have s1 : ((N : Int) == N) = true := beq_self_eq_true _
  have s2 : (QE == QE) = true := beq_self_eq_true _
  have f3 : ((Q : Int) == n1) = (QE == 0) := by
    rw [Bool.eq_iff_iff]; simp only [beq_iff_eq]; rw [← hI]; omega
  obtain ⟨b2, hb2⟩ : ∃ b, (QE == 0) = b := ⟨_, rfl⟩
  rw [hb2] at f3
  have s4 : (b2 == b2) = true := beq_self_eq_true _
  clear hI hL1 hL2 hNlt
  go_wp2
  exact bodyPost_ret (v := .bool true) (by simp [results, Tryd.results6]) rfl ⟨rfl, HK9.out⟩
end Go.Proofs.YteoilddiilegmaaDoor
