/- rules.Begins, Valid. -/
import Derived.Test.YteoilddiilegmaaDoorRk
set_option linter.unusedSimpArgs false
set_option linter.unusedVariables false
namespace Go.Proofs.YteoilddiilegmaaDoor
open Go.RowKit
attribute [local go_sem ↓] Go.wp_at_zero Go.wp_at_succ

def beginsR (p : Par) (h : Hd) : Int := if saneR p = false then 15 else passR p 0 (idL h)

set_option maxRecDepth 100000 in
set_option maxHeartbeats 4000000 in
theorem begins_any (p : Par) (A : Option Addr) (c : Nat) (h : Hd) (cs : Array Value) (w : World) (hS : ShaOk w) (hC : Chks p A w) (ho : h.ok) (hcs : HdA h cs) :
    Calls Tryd.prog 21 #[parV p A c, .agg cs] w fun e w' => e = .returned (iv (beginsR p h)) ∧ Keep w w' := by
  have S1 : Hid (∀ y, Calls Tryd.prog 10 #[parV p A c] y fun e w' => e = .returned (.bool (saneR p)) ∧ Keep y w') := Lib.hid fun y => sane_any p A c y
  have HR : Hid (∀ r, beginsR p h = r → r = if saneR p = false then 15 else passR p 0 (idL h)) := Lib.hid fun r e => by subst e; rfl
  replace HR := Lib.hid (HR.out _ rfl)
  have I2 : Hid (∀ y, Keep w y → Calls Tryd.prog 11 #[.agg cs] y fun e w' => ∃ ds, e = .returned (.agg ds) ∧ HashA (idL h) ds ∧ Keep y w') := Lib.hid fun y hy => id_any h cs y (hS.keep hy) ho hcs
  have P1 : Hid (∀ y, Keep w y → ∀ ds, HashA (idL h) ds → Calls Tryd.prog 26 #[parV p A c, iv 0, .agg ds] y fun e w' => e = .returned (iv (passR p 0 (idL h))) ∧ Keep y w') := Lib.hid fun y hy ds hds => passes_any p A c 0 (idL h) ds y (hC.keep hy) (idL_len _) hds
  have hcz := hcs.z; have hcn := hcs.n; have hci := hcs.i
  clear hcs ho hC hS
  generalize beginsR p h = R at *
  generalize idL h = HI at *
  generalize passR p 0 HI = PR at *
  generalize saneR p = S at *
  unfold parV at *
  generalize p.limit = limit at *
  generalize p.itv = itv at *
  generalize p.span = span at *
  generalize p.fut = fut at *
  generalize p.idx = idx at *
  generalize p.orp = orp at *
  generalize hm : p.chks.length = m at *
  clear hm
  go_enter Tryd.func21, Tryd.ntmps21
  go_upto_region 1 with fail
  obtain ⟨w1, hw1⟩ : ∃ w1, w1 = (w.alloc (.cells #[u32v limit, iv itv, iv span, iv fut, iv idx, iv orp, .slice A m c] 25)).alloc (.cells cs 30) := ⟨_, rfl⟩
  have HP1 : Hid (Blk w1 w.heap.size 25 [u32v limit, iv itv, iv span, iv fut, iv idx, iv orp, .slice A m c]) := by rw [hw1]; exact Lib.hid ((Blk.new w 25 [u32v limit, iv itv, iv span, iv fut, iv idx, iv orp, .slice A m c]).alloc _)
  have HH1 : Hid (Blk w1 (w.heap.size + 1) 30 cs.toList) := by
    rw [hw1]
    have h2 := Blk.new (w.alloc (.cells #[u32v limit, iv itv, iv span, iv fut, iv idx, iv orp, .slice A m c] 25)) 30 cs.toList
    rw [World.size_alloc] at h2
    exact Lib.hid h2
  have HK1 : Hid (Keep w w1) := by rw [hw1]; exact Lib.hid (keep_trans (keep_new _ _) (keep_new _ _))
  rw [← hw1]
  clear hw1
  have p0 := HP1.out.cell 0
  have p1 := HP1.out.cell 1
  have p2 := HP1.out.cell 2
  have p3 := HP1.out.cell 3
  have p4 := HP1.out.cell 4
  have p5 := HP1.out.cell 5
  have p6 := HP1.out.cell 6
  simp only [List.getElem?_cons_succ, List.getElem?_cons_zero] at p0 p1 p2 p3 p4 p5 p6
  go_wp2_with fail
  refine (S1.out _).mono ?_
  clear S1 p0 p1 p2 p3 p4 p5 p6
  rintro e w2 ⟨rfl, k2⟩
  have HP2 := Lib.hid (HP1.out.keep k2)
  have HH2 := Lib.hid (HH1.out.keep k2)
  have HK2 := Lib.hid (keep_trans HK1.out k2)
  clear HP1 HH1 HK1 k2
  have hR := HR.out
  cases S with
  | false =>
    rw [if_pos rfl] at hR
    subst hR
    clear HR HP2 HH2
    go_wp2
    exact bodyPost_ret (v := iv 15) (by simp [results, Tryd.results21]) rfl ⟨rfl, HK2.out⟩
  | true =>
    rw [if_neg (by simp)] at hR
    subst hR
    clear HR
    go_upto_region 3 with fail
    refine wp_region_tree (.take [0,1] (.force [2,3] (.take [4] .done))) [] (by kernel_rfl) (by kernel_rfl) (fun w3 k3 => ?_)
    have HP3 := HP2.out.keep k3
    have HH3 := HH2.out.keep k3
    have HK3 := Lib.hid (keep_trans HK2.out k3)
    have rh : Hid (w3.rangeAt (w.heap.size + 1) 0 cs.toList) := Lib.hid (range_of HH3 0 cs.toList (by simp [List.take_of_length_le]))
    have q0 := aft_cell (HP3.cell 0)
    have q1 := aft_cell (HP3.cell 1)
    have q2 := aft_cell (HP3.cell 2)
    have q3 := aft_cell (HP3.cell 3)
    have q4 := aft_cell (HP3.cell 4)
    have q5 := aft_cell (HP3.cell 5)
    have q6 := aft_cell (HP3.cell 6)
    clear HP2 HH2 HK2 k3 HP3 HH3
    refine mt_take w3 (Below.refl _ _) ?_
    simp only [pick_cons, pick_nil, nth_zero, nth_succ]
    repeat (first
      | ((with_reducible refine wpQuiet_load_partg (w.heap.size + 1) 0 cs (Eq.trans ?_ rfl) rh.out _ Tryd.underlying30 rfl hci rfl ?_); rfl; simp only [Act.put, Array.set!_eq_setIfInBounds, List.setIfInBounds_toArray, List.set_cons_succ, List.set_cons_zero])
      | go_big_quiet_step (fail))
    refine wpQuiet_nil (mt_force ?_)
    clear rh q0 q1 q2 q3 q4 q5 q6
    simp only [pick_cons, pick_nil, nth_zero, nth_succ]
    refine fc_step rfl (fun K hK => ?_)
    go_simp
    (with_reducible refine (I2.out _ HK3.out).mono ?_)
    rintro e w4 ⟨ds, rfl, hds, k4⟩
    refine hK _ _ k4 ?_
    have Hds := Lib.hid hds
    have HK4 := Lib.hid (keep_trans HK3.out k4)
    clear hK K hds k4 HK3
    refine fc_step rfl (fun K hK => ?_)
    go_simp
    (with_reducible refine (P1.out _ HK4.out ds Hds.out).mono ?_)
    rintro e w5 ⟨rfl, k5⟩
    refine hK _ _ k5 ?_
    have HK5 := Lib.hid (keep_trans HK4.out k5)
    clear hK K k5
    refine fc_nil (mt_take _ (Below.refl _ _) ?_)
    simp only [pick_cons, pick_nil, nth_zero, nth_succ]
    repeat (go_big_quiet_step (fail))
    refine wpQuiet_nil (mt_end ?_)
    go_wp2
    exact bodyPost_ret (v := iv R) (by simp [results, Tryd.results21]) rfl ⟨rfl, HK5.out⟩

def stepR (p : Par) (l : List Hd) (now : Int) (i : Nat) : Int := if i = 0 then beginsR p (l.getD i hd0) else checkR p (l.take i) (l.getD i hd0) now
def validN (p : Par) (l : List Hd) (now : Int) : Nat := ((List.range l.length).find? fun i => decide (stepR p l now i ≠ 0)).getD l.length
def validE (p : Par) (l : List Hd) (now : Int) : Int := if validN p l now < l.length then stepR p l now (validN p l now) else 0
theorem valid_stop {p : Par} {l : List Hd} {now : Int} {k : Nat} (hk : k < l.length) (h0 : ∀ j, j < k → stepR p l now j = 0) (h1 : stepR p l now k ≠ 0) : validN p l now = k ∧ validE p l now = stepR p l now k := by
  have e : validN p l now = k := by
    unfold validN
    have h2 : (List.range l.length).find? (fun i => decide (stepR p l now i ≠ 0)) = some k := by
      rw [List.find?_range_eq_some]
      exact ⟨by simpa using h1, by simpa using hk, fun j hj => by simpa using h0 j hj⟩
    rw [h2]; rfl
  refine ⟨e, ?_⟩
  unfold validE
  rw [e, if_pos hk]
theorem valid_all {p : Par} {l : List Hd} {now : Int} (h0 : ∀ j, j < l.length → stepR p l now j = 0) : validN p l now = l.length ∧ validE p l now = 0 := by
  have e : validN p l now = l.length := by
    unfold validN
    have h2 : (List.range l.length).find? (fun i => decide (stepR p l now i ≠ 0)) = none := by
      rw [List.find?_eq_none]
      intro j hj
      have := h0 j (by simpa using hj)
      simpa using this
    rw [h2]; rfl
  refine ⟨e, ?_⟩
  unfold validE
  rw [e, if_neg (Nat.lt_irrefl _)]
theorem valid_low {p : Par} {l : List Hd} {now : Int} : (∀ j, j < validN p l now → stepR p l now j = 0) ∧ validN p l now ≤ l.length ∧ (validN p l now < l.length → stepR p l now (validN p l now) ≠ 0) := by
  unfold validN
  cases h : (List.range l.length).find? (fun i => decide (stepR p l now i ≠ 0)) with
  | none =>
    rw [List.find?_eq_none] at h
    refine ⟨fun j hj => ?_, Nat.le_refl _, fun h => absurd h (Nat.lt_irrefl _)⟩
    have := h j (by simpa using hj)
    simpa using this
  | some k =>
    rw [List.find?_range_eq_some] at h
    obtain ⟨h1, h2, h3⟩ := h
    exact ⟨fun j hj => by simpa using h3 j hj, Nat.le_of_lt (by simpa using h2), fun _ => by simpa using h1⟩
theorem rd_takeH {w : World} {B : Option Addr} {l : List Hd} (h : Rd w B (l.flatMap Hd.cells)) (k : Nat) : Rd w B ((l.take k).flatMap Hd.cells) := by
  have e : l.flatMap Hd.cells = (l.take k).flatMap Hd.cells ++ (l.drop k).flatMap Hd.cells := by rw [← List.flatMap_append, List.take_append_drop]
  have h2 := h.take ((l.take k).flatMap Hd.cells).length
  rw [e, List.take_left] at h2
  exact h2

end Go.Proofs.YteoilddiilegmaaDoor
