/- rules.passes; clock.Times of headers. -/
import Derived.Test.YteoilddiilegmaaDoorRp
import Derived.Test.YteoilddiilegmaaDoorClkN
set_option linter.unusedSimpArgs false
set_option linter.unusedVariables false
namespace Go.Proofs.YteoilddiilegmaaDoor
open Go.RowKit
attribute [local go_sem ↓] Go.wp_at_zero Go.wp_at_succ

theorem hash_neq {l m : List UInt8} {cs ds : Array Value} (h : HashA l cs) (g : HashA m ds) (hl : l.length = 32) (hm : m.length = 32) (w : World) :
    (Go.binOp .neq 28 (.agg cs) (.agg ds)).run Tryd.prog w = .ok (.bool (!(l == m))) w := by
  rw [run_neq_struct, show (10000 : Nat) = 9998 + 2 from rfl, hash_eqIn 9998 h g hl hm]
  rfl
theorem hash_in {l m : List UInt8} {cs ds : Array Value} (h : HashA l cs) (g : HashA m ds) (hl : l.length = 32) (hm : m.length = 32) (w : World) :
    (Op.equalIn 10000 28 (.agg cs) (.agg ds)).run Tryd.prog w = .ok (l == m) w := by
  rw [show (10000 : Nat) = 9998 + 2 from rfl, hash_eqIn 9998 h g hl hm]
theorem u32v_one (x : UInt32) : (u32v x).oneCell' = true := rfl

theorem hd_rs (l : List Hd) (hk : ∀ h ∈ l, h.ok) : ∃ rs : List HdR, rs.flatMap HdR.cells = l.flatMap Hd.cells ∧ rs.map HdR.t = l.map Hd.time ∧ rs.length = l.length := by
  induction l with
  | nil => exact ⟨[], rfl, rfl, rfl⟩
  | cons h l ih =>
    obtain ⟨rs, e1, e2, e3⟩ := ih fun x hx => hk x (List.mem_cons_of_mem _ hx)
    have ho := hk h List.mem_cons_self
    refine ⟨⟨u32v h.ver :: (h.prev.map u8v ++ h.root.map u8v), h.time, [u32v h.bits, u32v h.nonce], by simp [ho.1, ho.2], rfl, ?_, ?_⟩ :: rs, ?_, ?_, ?_⟩
    · intro u hu
      exact Hd.one h u (by simp only [Hd.cells, List.mem_cons, List.mem_append] at hu ⊢; rcases hu with rfl | hu | hu <;> simp_all)
    · intro u hu
      exact Hd.one h u (by simp only [Hd.cells, List.mem_cons, List.mem_append, List.not_mem_nil, or_false] at hu ⊢; rcases hu with rfl | rfl <;> simp)
    · simp [HdR.cells, Hd.cells, e1]
    · simp [e2]
    · simp [e3]
theorem times_hd (A : Option Addr) (l : List Hd) (c : Nat) (w : World) (hl : l.length ≤ 100) (hr : Rd w A (l.flatMap Hd.cells)) (hk : ∀ h ∈ l, h.ok) :
    Calls Tryd.prog 16 #[.slice A l.length c] w (Lasted w.heap.size (l.map Hd.time) w) := by
  obtain ⟨rs, e1, e2, e3⟩ := hd_rs l hk
  rw [← e2, ← e3]
  exact times_any A rs c w (by rw [e3]; exact hl) (by rw [e1]; exact hr)

def passR (p : Par) (n : Int) (id : List UInt8) : Int := if pointR p n = none ∨ pointR p n = some id then 0 else 11
theorem passR_of (p : Par) (n : Int) (id : List UInt8) : passR p n id = if (pointR p n).isSome = true ∧ (pointH p n == id) = false then 11 else 0 := by
  unfold passR pointH
  cases pointR p n with
  | none => simp
  | some x => by_cases e : x = id <;> simp [e]
theorem pointH_len {p : Par} (h : ∀ x ∈ p.chks, x.2.length = 32) (n : Int) : (pointH p n).length = 32 := by
  unfold pointH pointR
  cases hf : p.chks.find? fun x => x.1 == n with
  | none => rfl
  | some x => exact h x (List.mem_of_find?_eq_some hf)

set_option maxRecDepth 100000 in
set_option maxHeartbeats 4000000 in
theorem passes_any (p : Par) (A : Option Addr) (c : Nat) (n : Int) (id : List UInt8) (cs : Array Value) (w : World) (hr : Chks p A w) (hl : id.length = 32) (hcs : HashA id cs) :
    Calls Tryd.prog 26 #[parV p A c, iv n, .agg cs] w fun e w' => e = .returned (iv (passR p n id)) ∧ Keep w w' := by
  have P1 : Hid (∀ y, Keep w y → Calls Tryd.prog 12 #[parV p A c, iv n] y fun e w' => ∃ cs, e = .returned (.tuple #[.agg cs, .bool (pointR p n).isSome]) ∧ HashA (pointH p n) cs ∧ Keep y w') := Lib.hid fun y hy => point_any p A c n y (hr.keep hy)
  have HL := Lib.hid (pointH_len hr.2.1 n)
  have HR := Lib.hid (passR_of p n id)
  obtain ⟨zs, hz1, hz2, hz3, -⟩ := zhash_letter
  have hcz := hcs.z; have hcn := hcs.n; have hci := hcs.i
  have Hcs := Lib.hid hcs; have Hl := Lib.hid hl
  clear hr hcs hl
  generalize passR p n id = R at *
  generalize (pointR p n).isSome = is at *
  generalize pointH p n = H at *
  unfold parV at *
  generalize p.limit = limit at *
  generalize p.itv = itv at *
  generalize p.span = span at *
  generalize p.fut = fut at *
  generalize p.idx = idx at *
  generalize p.orp = orp at *
  generalize hm : p.chks.length = m at *
  clear hm
  go_enter Tryd.func26, Tryd.ntmps26
  go_upto_region 1 with fail
  obtain ⟨w1, hw1⟩ : ∃ w1, w1 = (w.alloc (.cells #[u32v limit, iv itv, iv span, iv fut, iv idx, iv orp, .slice A m c] 25)).alloc (.cells cs 28) := ⟨_, rfl⟩
  have HP1 : Hid (Blk w1 w.heap.size 25 [u32v limit, iv itv, iv span, iv fut, iv idx, iv orp, .slice A m c]) := by rw [hw1]; exact Lib.hid ((Blk.new w 25 [u32v limit, iv itv, iv span, iv fut, iv idx, iv orp, .slice A m c]).alloc _)
  have HI1 : Hid (Blk w1 (w.heap.size + 1) 28 cs.toList) := by
    rw [hw1]
    have h2 := Blk.new (w.alloc (.cells #[u32v limit, iv itv, iv span, iv fut, iv idx, iv orp, .slice A m c] 25)) 28 cs.toList
    rw [World.size_alloc] at h2
    exact Lib.hid h2
  have HK1 : Hid (Keep w w1) := by rw [hw1]; exact Lib.hid (keep_trans (keep_new _ _) (keep_new _ _))
  rw [← hw1]
  clear hw1
  have p0 := HP1.out.cell 0
  have p1 := HP1.out.cell 1
  have p2 := HP1.out.cell 2
  have p3 := HP1.out.cell 3
  have p4 := HP1.out.cell 4
  have p5 := HP1.out.cell 5
  have p6 := HP1.out.cell 6
  simp only [List.getElem?_cons_succ, List.getElem?_cons_zero] at p0 p1 p2 p3 p4 p5 p6
  go_wp2_with fail
  refine (P1.out _ HK1.out).mono ?_
  clear P1 p0 p1 p2 p3 p4 p5 p6
  rintro e w2 ⟨ds, rfl, hds, k2⟩
  have HI2 := Lib.hid (HI1.out.keep k2)
  have HK2 := Lib.hid (keep_trans HK1.out k2)
  have hdz := hds.z; have hdn := hds.n; have hdi := hds.i
  have hst : (storeCells ⟨w2.heap.size, 0, none⟩ ds.toList 0).run Tryd.prog (w2.alloc (.cells zs 28)) = .ok () (w2.alloc (.cells ds 28)) := run_storeCells_new (P := Tryd.prog) w2 28 zs ds hdi (hz1.trans hdz.symm) (by have := all_oneCell_toArray hds.o; rwa [Array.toArray_toList] at this)
  have Hds := Lib.hid hds
  clear k2 HI1 HK1 HP1 hds
  go_upto_region 2 with fail
  obtain ⟨w3, hw3⟩ : ∃ w3, w3 = w2.alloc (.cells ds 28) := ⟨_, rfl⟩
  have HI3 : Hid (Blk w3 (w.heap.size + 1) 28 cs.toList) := by rw [hw3]; exact Lib.hid (HI2.out.alloc _)
  have HD3 : Hid (Blk w3 w2.heap.size 28 ds.toList) := by rw [hw3]; exact Lib.hid (Blk.new w2 28 ds.toList)
  have HK3 : Hid (Keep w w3) := by rw [hw3]; exact Lib.hid (keep_trans HK2.out (keep_new _ _))
  rw [← hw3]
  clear hw3 hst HI2 HK2
  generalize w2.heap.size = g at *
  have q1 : Hid (w3.rangeAt g 0 ds.toList) := Lib.hid (range_of HD3.out 0 ds.toList (by simp [List.take_of_length_le]))
  have q2 : Hid (w3.rangeAt (w.heap.size + 1) 0 cs.toList) := Lib.hid (range_of HI3.out 0 cs.toList (by simp [List.take_of_length_le]))
  have heq := hash_in Hds.out Hcs.out HL.out Hl.out w3
  have hR := HR.out
  cases is with
  | false =>
    rw [if_neg (by simp)] at hR
    subst hR
    clear HR heq q1 q2 HD3 HI3
    go_wp2
    exact bodyPost_ret (v := iv 0) (by simp [results, Tryd.results26]) rfl ⟨rfl, HK3.out⟩
  | true =>
    obtain ⟨b, hb⟩ : ∃ b, (H == id) = b := ⟨_, rfl⟩
    rw [hb] at heq hR
    clear HR hb HD3 HI3 HL
    cases b with
    | true =>
      rw [if_neg (by simp)] at hR
      subst hR
      go_wp2_with (first
        | ((with_reducible refine load_partg g 0 ds (Eq.trans ?_ rfl) q1.out _ Tryd.underlying28 rfl hdi rfl ?_); rfl)
        | ((with_reducible refine load_partg (w.heap.size + 1) 0 cs (Eq.trans ?_ rfl) q2.out _ Tryd.underlying28 rfl hci rfl ?_); rfl))
      exact bodyPost_ret (v := iv 0) (by simp [results, Tryd.results26]) rfl ⟨rfl, HK3.out⟩
    | false =>
      rw [if_pos ⟨rfl, rfl⟩] at hR
      subst hR
      go_wp2_with (first
        | ((with_reducible refine load_partg g 0 ds (Eq.trans ?_ rfl) q1.out _ Tryd.underlying28 rfl hdi rfl ?_); rfl)
        | ((with_reducible refine load_partg (w.heap.size + 1) 0 cs (Eq.trans ?_ rfl) q2.out _ Tryd.underlying28 rfl hci rfl ?_); rfl))
      exact bodyPost_ret (v := iv 11) (by simp [results, Tryd.results26]) rfl ⟨rfl, HK3.out⟩
end Go.Proofs.YteoilddiilegmaaDoor
