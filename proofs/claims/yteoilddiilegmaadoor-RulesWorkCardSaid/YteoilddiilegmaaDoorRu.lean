/- rules.Valid. -/
import Derived.Test.YteoilddiilegmaaDoorRv
set_option linter.unusedSimpArgs false
set_option linter.unusedVariables false
namespace Go.Proofs.YteoilddiilegmaaDoor
open Go.RowKit
attribute [local go_sem ↓] Go.wp_at_zero Go.wp_at_succ

set_option maxRecDepth 100000 in
set_option maxHeartbeats 4000000 in
theorem valid_any (p : Par) (A : Option Addr) (c : Nat) (B : Option Addr) (l : List Hd) (d : Nat) (now : Int) (w : World) (hS : ShaOk w) (hC : Chks p A w)
    (hl : l.length ≤ 100) (hd : l.length ≤ d) (hdm : d ≤ maxLen) (hr : Rd w B (l.flatMap Hd.cells)) (hk : ∀ h ∈ l, h.ok) :
    Calls Tryd.prog 18 #[parV p A c, .slice B l.length d, iv now] w fun e w' => e = .returned (.tuple #[iv (validN p l now), iv (validE p l now)]) ∧ Keep w w' := by
  have STOP : Hid (∀ k ev, k < l.length → (∀ j, j < k → stepR p l now j = 0) → stepR p l now k = ev → ev ≠ 0 → k = validN p l now ∧ ev = validE p l now) := Lib.hid fun k ev h1 h2 h3 h4 => by
    subst h3
    obtain ⟨a, b⟩ := valid_stop h1 h2 h4
    exact ⟨a.symm, b.symm⟩
  have ALL : Hid ((∀ j, j < l.length → stepR p l now j = 0) → l.length = validN p l now ∧ 0 = validE p l now) := Lib.hid fun h => by
    obtain ⟨a, b⟩ := valid_all h
    exact ⟨a.symm, b.symm⟩
  have HAT : Hid (∀ k, k < l.length → ∃ b off, B = some ⟨b, off, none⟩ ∧ ∃ xs, HdA (l.getD k hd0) xs ∧ w.rangeAt b (off + k * 68) xs.toList) := Lib.hid fun k hlt => by
    obtain ⟨b, off, h1, -, h2⟩ := heads_at hr hk hlt
    have hx := HdA.of (hk _ (List.getElem_mem hlt))
    have e : l.getD k hd0 = l[k] := by simp [List.getD_eq_getElem?_getD, List.getElem?_eq_getElem hlt]
    refine ⟨b, off, h1, _, by rw [e]; exact hx, ?_⟩
    exact h2
  have HOK : ∀ k, k < l.length → (l.getD k hd0).ok := fun k hlt => by
    have e : l.getD k hd0 = l[k] := by simp [List.getD_eq_getElem?_getD, List.getElem?_eq_getElem hlt]
    rw [e]; exact hk _ (List.getElem_mem hlt)
  have B1 : Hid (∀ y xs, Keep w y → 0 < l.length → HdA (l.getD 0 hd0) xs → Calls Tryd.prog 21 #[parV p A c, .agg xs] y fun e w' => e = .returned (iv (stepR p l now 0)) ∧ Keep y w') := Lib.hid fun y xs hy h0 hx =>
    begins_any p A c _ xs y (hS.keep hy) (hC.keep hy) (HOK 0 h0) hx
  have C1 : Hid (∀ k y xs, Keep w y → k < l.length → k ≠ 0 → HdA (l.getD k hd0) xs → Calls Tryd.prog 9 #[parV p A c, .slice B k d, .agg xs, iv now] y fun e w' => e = .returned (iv (stepR p l now k)) ∧ Keep y w') := Lib.hid fun k y xs hy h0 hne hx => by
    have e : (l.take k).length = k := by simp; omega
    have h1 := check_hd p A c B (l.take k) d _ xs now y (hS.keep hy) (hC.keep hy) (by omega) (by omega) hdm (rd_takeH (hr.keep hy) k) (fun h hh => hk h (List.mem_of_mem_take hh)) (HOK k h0) hx
    rw [e] at h1
    unfold stepR
    rw [if_neg hne]
    exact h1
  obtain ⟨zs, hz1, hz2, hz3, -⟩ := zhead_letter
  clear hr hC hS HOK hk
  generalize validN p l now = N at *
  generalize validE p l now = E at *
  have Hlen := Lib.hid (show l.length = l.length from rfl)
  unfold parV at *
  generalize p.limit = limit at *
  generalize p.itv = itv at *
  generalize p.span = span at *
  generalize p.fut = fut at *
  generalize p.idx = idx at *
  generalize p.orp = orp at *
  generalize hm : p.chks.length = m at *
  clear hm Hlen
  generalize l.length = n at *
  go_enter Tryd.func18, Tryd.ntmps18
  go_upto_region 1 with fail
  obtain ⟨w1, hw1⟩ : ∃ w1, w1 = w.alloc (.cells #[u32v limit, iv itv, iv span, iv fut, iv idx, iv orp, .slice A m c] 25) := ⟨_, rfl⟩
  have HP1 : Hid (Blk w1 w.heap.size 25 [u32v limit, iv itv, iv span, iv fut, iv idx, iv orp, .slice A m c]) := by rw [hw1]; exact Lib.hid (Blk.new w 25 [u32v limit, iv itv, iv span, iv fut, iv idx, iv orp, .slice A m c])
  have HK1 : Hid (Keep w w1) := by rw [hw1]; exact Lib.hid (keep_new _ _)
  rw [← hw1]
  clear hw1
  go_wp2_with fail
  go_loopw [13] (fun i wr => ∃ k : Nat, k ≤ n ∧ i = .int .i64 k ∧ Hid (∀ j, j < k → stepR p l now j = 0) ∧ Hid (Blk wr w.heap.size 25 [u32v limit, iv itv, iv span, iv fut, iv idx, iv orp, .slice A m c]) ∧ Hid (Keep w wr)) (fun i _ => n - (intOf i).toNat)
  case atStart => exact ⟨0, Nat.zero_le _, rfl, Lib.hid (fun j hj => absurd hj (Nat.not_lt_zero _)), HP1, HK1⟩
  case round =>
    obtain ⟨k, hk, rfl, hz, HP, HK⟩ := hrel
    by_cases hlt : k < n
    · obtain ⟨b, off, rfl, xs, hxs, hrx⟩ := HAT.out k hlt
      have RX : Hid (wr.rangeAt b (off + k * 68) xs.toList) := Lib.hid fun i v hv => keep_cell HK.out (hrx i v hv)
      have hxz := hxs.z; have hxn := hxs.n; have hxi := hxs.i
      have hst : (storeCells ⟨wr.heap.size, 0, none⟩ xs.toList 0).run Tryd.prog (wr.alloc (.cells zs 30)) = .ok () (wr.alloc (.cells xs 30)) := run_storeCells_new (P := Tryd.prog) wr 30 zs xs hxi (hz1.trans hxz.symm) (by have := all_oneCell_toArray hxs.o; rwa [Array.toArray_toList] at this)
      have Hxs := Lib.hid hxs
      clear hxs hrx
      go_upto_region 4 with ((with_reducible refine load_partg b (off + k * 68) xs (Eq.trans ?_ rfl) RX.out _ Tryd.underlying30 rfl hxi rfl ?_); rfl)
      obtain ⟨w3, hw3⟩ : ∃ w3, w3 = wr.alloc (.cells xs 30) := ⟨_, rfl⟩
      have HP3 : Hid (Blk w3 w.heap.size 25 [u32v limit, iv itv, iv span, iv fut, iv idx, iv orp, .slice A m c]) := by rw [hw3]; exact Lib.hid (HP.out.alloc _)
      have HX3 : Hid (Blk w3 wr.heap.size 30 xs.toList) := by rw [hw3]; exact Lib.hid (Blk.new wr 30 xs.toList)
      have HK3 : Hid (Keep w w3) := by rw [hw3]; exact Lib.hid (keep_trans HK.out (keep_new _ _))
      rw [← hw3]
      clear hw3 hst RX HP HK HAT
      generalize wr.heap.size = g at *
      have rx : Hid (w3.rangeAt g 0 xs.toList) := Lib.hid (range_of HX3.out 0 xs.toList (by simp [List.take_of_length_le]))
      by_cases hk0 : k = 0
      · subst hk0
        have B2 := Lib.hid (B1.out w3 xs HK3.out hlt Hxs.out)
        clear B1 C1
        have p0 := HP3.out.cell 0
        have p1 := HP3.out.cell 1
        have p2 := HP3.out.cell 2
        have p3 := HP3.out.cell 3
        have p4 := HP3.out.cell 4
        have p5 := HP3.out.cell 5
        have p6 := HP3.out.cell 6
        simp only [List.getElem?_cons_succ, List.getElem?_cons_zero] at p0 p1 p2 p3 p4 p5 p6
        obtain ⟨ev, hev0⟩ : ∃ ev, stepR p l now 0 = ev := ⟨_, rfl⟩
        rw [hev0] at B2
        have Hev := Lib.hid hev0
        clear hev0
        go_wp2_with ((with_reducible refine load_partg g 0 xs (Eq.trans ?_ rfl) rx.out _ Tryd.underlying30 rfl hxi rfl ?_); rfl)
        refine B2.out.mono ?_
        clear B2 p0 p1 p2 p3 p4 p5 p6 rx
        rintro e w4 ⟨rfl, k4⟩
        have HP4 := Lib.hid (HP3.out.keep k4)
        have HK4 := Lib.hid (keep_trans HK3.out k4)
        clear k4 HP3 HK3 HX3
        go_wp2_with fail
        refine (wrong_any ev _).mono ?_
        rintro e wz ⟨rfl, rfl⟩
        by_cases hev : ev = 0
        · subst hev
          have hnext : Hid (∀ j, j < 1 → stepR p l now j = 0) := Lib.hid fun j hj => by
            by_cases e : j < 0
            · exact absurd e (Nat.not_lt_zero _)
            · obtain rfl : j = 0 := by omega
              exact Hev.out
          clear hz Hev
          go_wp2
          go_roundw
          case rel => exact ⟨1, by omega, by go_num, hnext, HP4, HK4⟩
          case measure => simp [intOf]; omega
        · have d1 : (ev != 0) = true := by simp [hev]
          obtain ⟨hN, hE⟩ := STOP.out 0 _ hlt hz.out Hev.out hev
          subst hN hE
          clear STOP ALL hz Hev hev HP4
          go_wp2
          exact bodyPost_ret (v := .tuple #[iv ((0 : Nat) : Int), iv ev]) (by simp [results, Tryd.results18]) rfl ⟨rfl, HK4.out⟩
      · have C2 : Hid (∀ y, Keep w3 y → Calls Tryd.prog 9 #[.agg #[u32v limit, iv itv, iv span, iv fut, iv idx, iv orp, .slice A m c], .slice (some ⟨b, off, none⟩) k d, .agg xs, iv now] y fun e w' => e = .returned (iv (stepR p l now k)) ∧ Keep y w') := Lib.hid fun y hy => C1.out k y xs (keep_trans HK3.out hy) hlt hk0 Hxs.out
        clear B1 C1
        obtain ⟨ev, hev0⟩ : ∃ ev, stepR p l now k = ev := ⟨_, rfl⟩
        rw [hev0] at C2
        have Hev := Lib.hid hev0
        clear hev0
        have d0 : (k == 0) = false := by simp [hk0]
        have d00 : ((k : Int) == 0) = false := by rw [beq_eq_false_iff_ne]; omega
        go_upto_region 7 with fail
        refine wp_region_tree (.take [0,1,2,3,4,5] (.force [6] (.take [7] .done))) [] (by kernel_rfl) (by kernel_rfl) (fun w9 k9 => ?_)
        have HP9 := Lib.hid (HP3.out.keep k9)
        have HX9 := HX3.out.keep k9
        have HK9 := Lib.hid (keep_trans HK3.out k9)
        have C3 := Lib.hid (C2.out w9 k9)
        have rx9 : Hid (w9.rangeAt g 0 xs.toList) := Lib.hid (range_of HX9 0 xs.toList (by simp [List.take_of_length_le]))
        have q0 := aft_cell (HP9.out.cell 0)
        have q1 := aft_cell (HP9.out.cell 1)
        have q2 := aft_cell (HP9.out.cell 2)
        have q3 := aft_cell (HP9.out.cell 3)
        have q4 := aft_cell (HP9.out.cell 4)
        have q5 := aft_cell (HP9.out.cell 5)
        have q6 := aft_cell (HP9.out.cell 6)
        clear HP3 HX3 HK3 HX9 C2 rx k9
        refine mt_take w9 (Below.refl _ _) ?_
        simp only [pick_cons, pick_nil, nth_zero, nth_succ]
        repeat (first
          | ((with_reducible refine wpQuiet_load_partg g 0 xs (Eq.trans ?_ rfl) rx9.out _ Tryd.underlying30 rfl hxi rfl ?_); rfl; simp only [Act.put, Array.set!_eq_setIfInBounds, List.setIfInBounds_toArray, List.set_cons_succ, List.set_cons_zero])
          | go_big_quiet_step (fail))
        refine wpQuiet_nil (mt_force ?_)
        clear rx9 q0 q1 q2 q3 q4 q5 q6
        simp only [pick_cons, pick_nil, nth_zero, nth_succ]
        refine fc_step rfl (fun K hK => ?_)
        go_simp
        (with_reducible refine (C3.out).mono ?_)
        rintro e w4 ⟨rfl, k4⟩
        refine hK _ _ k4 ?_
        have HP4 := Lib.hid (HP9.out.keep k4)
        have HK4 := Lib.hid (keep_trans HK9.out k4)
        clear hK K k4 C3 HP9 HK9
        refine fc_nil (mt_take w4 (Below.refl _ _) ?_)
        simp only [pick_cons, pick_nil, nth_zero, nth_succ]
        repeat (go_big_quiet_step (fail))
        refine wpQuiet_nil (mt_end ?_)
        go_wp2_with fail
        refine (wrong_any ev _).mono ?_
        rintro e wz ⟨rfl, rfl⟩
        by_cases hev : ev = 0
        · subst hev
          have hnext : Hid (∀ j, j < k + 1 → stepR p l now j = 0) := Lib.hid fun j hj => by
            by_cases e : j < k
            · exact hz.out j e
            · obtain rfl : j = k := by omega
              exact Hev.out
          clear hz Hev
          go_wp2
          go_roundw
          case rel => exact ⟨k + 1, by omega, by go_num, hnext, HP4, HK4⟩
          case measure => simp [intOf]; omega
        · have d1 : (ev != 0) = true := by simp [hev]
          obtain ⟨hN, hE⟩ := STOP.out k _ hlt hz.out Hev.out hev
          subst hN hE
          clear STOP ALL hz Hev hev HP4
          go_wp2
          exact bodyPost_ret (v := .tuple #[iv k, iv ev]) (by simp [results, Tryd.results18]) rfl ⟨rfl, HK4.out⟩
    · obtain rfl : n = k := by omega
      obtain ⟨hN, hE⟩ := ALL.out hz.out
      subst hN hE
      clear STOP ALL hz HAT B1 C1 HP
      go_wp2
      exact bodyPost_ret (v := .tuple #[iv n, iv 0]) (by simp [results, Tryd.results18]) rfl ⟨rfl, HK.out⟩
end Go.Proofs.YteoilddiilegmaaDoor
