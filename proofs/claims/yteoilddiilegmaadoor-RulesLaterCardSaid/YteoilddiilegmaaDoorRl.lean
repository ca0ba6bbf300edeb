/- header.Linked. -/
import Derived.Test.YteoilddiilegmaaDoorRu
set_option linter.unusedSimpArgs false
set_option linter.unusedVariables false
namespace Go.Proofs.YteoilddiilegmaaDoor
open Go.RowKit
attribute [local go_sem ↓] Go.wp_at_zero Go.wp_at_succ

/-- Does the header of an index stand on the one ahead? -/
def linkB (l : List Hd) (i : Nat) : Bool := i == 0 || (l.getD i hd0).prev == idL (l.getD (i - 1) hd0)
def linkN (l : List Hd) : Nat := ((List.range l.length).find? fun i => !linkB l i).getD l.length
theorem link_stop {l : List Hd} {k : Nat} (hk : k < l.length) (h0 : ∀ j, j < k → linkB l j = true) (h1 : linkB l k = false) : linkN l = k := by
  unfold linkN
  have h2 : (List.range l.length).find? (fun i => !linkB l i) = some k := by
    rw [List.find?_range_eq_some]
    exact ⟨by simpa using h1, by simpa using hk, fun j hj => by simpa using h0 j hj⟩
  rw [h2]; rfl
theorem link_all {l : List Hd} (h0 : ∀ j, j < l.length → linkB l j = true) : linkN l = l.length := by
  unfold linkN
  have h2 : (List.range l.length).find? (fun i => !linkB l i) = none := by
    rw [List.find?_eq_none]
    intro j hj
    have := h0 j (by simpa using hj)
    simpa using this
  rw [h2]; rfl
theorem link_le {l : List Hd} {n : Nat} (hn : n ≤ l.length) (h : ∀ j, j < n → linkB l j = true) : n ≤ linkN l := by
  unfold linkN
  cases hf : (List.range l.length).find? (fun i => !linkB l i) with
  | none => exact hn
  | some k =>
    rw [List.find?_range_eq_some] at hf
    obtain ⟨h1, h2, h3⟩ := hf
    by_cases hk : k < n
    · rw [h k hk] at h1; cases h1
    · exact Nat.le_of_not_lt hk

set_option maxRecDepth 100000 in
set_option maxHeartbeats 4000000 in
theorem linked_any (B : Option Addr) (l : List Hd) (d : Nat) (w : World) (hS : ShaOk w) (hl : l.length ≤ 100) (hr : Rd w B (l.flatMap Hd.cells)) (hk : ∀ h ∈ l, h.ok) :
    Calls Tryd.prog 22 #[.slice B l.length d] w fun e w' => e = .returned (iv (linkN l)) ∧ Keep w w' := by
  have STOP : Hid (∀ k, k < l.length → (∀ j, j < k → linkB l j = true) → linkB l k = false → linkN l = k) := Lib.hid fun k h1 h2 h3 => link_stop h1 h2 h3
  have ALL : Hid ((∀ j, j < l.length → linkB l j = true) → linkN l = l.length) := Lib.hid link_all
  have HAT : Hid (∀ k, k < l.length → ∃ b off, B = some ⟨b, off, none⟩ ∧ ∃ xs, HdA (l.getD k hd0) xs ∧ (l.getD k hd0).ok ∧ w.rangeAt b (off + k * 68) xs.toList) := Lib.hid fun k hlt => by
    obtain ⟨b, off, h1, -, h2⟩ := heads_at hr hk hlt
    have hx := HdA.of (hk _ (List.getElem_mem hlt))
    have e : l.getD k hd0 = l[k] := by simp [List.getD_eq_getElem?_getD, List.getElem?_eq_getElem hlt]
    refine ⟨b, off, h1, _, by rw [e]; exact hx, by rw [e]; exact hk _ (List.getElem_mem hlt), ?_⟩
    exact h2
  have I1 : Hid (∀ k y xs, Keep w y → HdA (l.getD k hd0) xs → (l.getD k hd0).ok → Calls Tryd.prog 11 #[.agg xs] y fun e w' => ∃ ds, e = .returned (.agg ds) ∧ HashA (idL (l.getD k hd0)) ds ∧ Keep y w') := Lib.hid fun k y xs hy hx ho => id_any _ xs y (hS.keep hy) ho hx
  have HLB : Hid (∀ k, k ≠ 0 → linkB l k = ((l.getD k hd0).prev == idL (l.getD (k - 1) hd0))) := Lib.hid fun k h0 => by unfold linkB; simp [h0]
  have HL0 : Hid (linkB l 0 = true) := Lib.hid rfl
  clear hr hS hk
  generalize linkN l = R at *
  obtain ⟨lk, hlk⟩ : ∃ f, linkB l = f := ⟨_, rfl⟩
  obtain ⟨at_, hat⟩ : ∃ f : Nat → Hd, (fun k => l.getD k hd0) = f := ⟨_, rfl⟩
  have hat' : ∀ k, l.getD k hd0 = at_ k := fun k => by rw [← hat]
  rw [hlk] at STOP ALL HLB HL0
  simp only [hat'] at HAT I1 HLB
  obtain ⟨ids, hid⟩ : ∃ f : Nat → List UInt8, (fun k => idL (at_ k)) = f ∧ ∀ k, (f k).length = 32 := ⟨_, rfl, fun k => idL_len _⟩
  have hid' : ∀ k, idL (at_ k) = ids k := fun k => by rw [← hid.1]
  have HIL := Lib.hid hid.2
  simp only [hid'] at I1 HLB
  clear hlk hat hat' hid hid'
  generalize l.length = n at *
  go_enter Tryd.func22, Tryd.ntmps22
  go_wp2_with fail
  go_loopw [6] (fun i wr => ∃ k : Nat, k ≤ n ∧ i = .int .i64 k ∧ Hid (∀ j, j < k → lk j = true) ∧ Hid (Keep w wr)) (fun i _ => n - (intOf i).toNat)
  case atStart => exact ⟨0, Nat.zero_le _, rfl, Lib.hid (fun j hj => absurd hj (Nat.not_lt_zero _)), Lib.hid (Below.refl _ _)⟩
  case round =>
    obtain ⟨k, hk, rfl, hz, HK⟩ := hrel
    by_cases hlt : k < n
    · by_cases hk0 : k = 0
      · subst hk0
        have d1 : ¬ (0 : Int) > 0 := by decide
        clear STOP ALL HAT I1 HLB
        go_upto_region 4 with fail
        refine wp_region_tree (.take [0,1,2,3,4,5,6,7,8,9,10,11,12] (.force [13] (.take [14,15] .done))) [] (by kernel_rfl) (by kernel_rfl) (fun w3 k3 => ?_)
        have HK3 := Lib.hid (keep_trans HK.out k3)
        refine mt_take w3 (Below.refl _ _) ?_
        simp only [pick_cons, pick_nil, nth_zero, nth_succ]
        repeat (go_big_quiet_step (fail))
        refine wpQuiet_nil (mt_force ?_)
        simp only [pick_cons, pick_nil, nth_zero, nth_succ]
        refine fc_skip rfl ?_
        simp only [Act.put, Array.set!_eq_setIfInBounds, List.setIfInBounds_toArray, List.set_cons_succ, List.set_cons_zero]
        refine fc_nil (mt_take w3 (Below.refl _ _) ?_)
        simp only [pick_cons, pick_nil, nth_zero, nth_succ]
        repeat (go_big_quiet_step (fail))
        refine wpQuiet_nil (mt_end ?_)
        clear HK k3
        go_wp2
        go_roundw
        case rel =>
          have hone : ∀ j, j < 1 → lk j = true := fun j hj => by
            obtain rfl : j = 0 := by omega
            exact HL0.out
          exact ⟨1, by omega, by go_num, Lib.hid hone, HK3⟩
        case measure => simp [intOf]; omega
      · obtain ⟨b, off, rfl, xs, hxs, hxo, hrx⟩ := HAT.out k hlt
        obtain ⟨b', off', hB, ys, hys, hyo, hry⟩ := HAT.out (k - 1) (by omega)
        cases hB
        obtain ⟨j, hj⟩ : ∃ j, k - 1 = j := ⟨_, rfl⟩
        have hj2 : (k : Int) - 1 = j := by omega
        have hjn : j < n := by omega
        have hLB := HLB.out k hk0
        rw [hj] at hry hys hyo hLB
        have I2 : Hid (∀ y, Keep w y → Calls Tryd.prog 11 #[.agg ys] y fun e w' => ∃ ds, e = .returned (.agg ds) ∧ HashA (ids j) ds ∧ Keep y w') := Lib.hid fun y hy => I1.out j y ys hy hys hyo
        have hyz := hys.z; have hyn := hys.n; have hyi := hys.i
        have hpl := hxo.1
        obtain ⟨pv, hpv⟩ : ∃ pv, HashA (at_ k).prev pv := ⟨_, HashA.of hpl⟩
        have hpz := hpv.z; have hpn := hpv.n; have hpi := hpv.i
        have hsub : ∀ i v, pv.toList[i]? = some v → xs.toList[1 + i]? = some v := fun i v hv => by
          have hi : i < 32 := by have h1 := (List.getElem?_eq_some_iff.1 hv).1; rw [Array.length_toList, hpz] at h1; exact h1
          rw [hpv.l] at hv
          rw [hxs.l, Nat.add_comm]
          unfold Hd.cells
          rw [List.getElem?_cons_succ, List.getElem?_append_left (by simp [hpl]; omega)]
          exact hv
        have RP0 : Hid (w.rangeAt b (off + k * 68 + 1) pv.toList) := Lib.hid fun i v hv => by
          have h1 := hrx (1 + i) v (hsub i v hv)
          rw [show off + k * 68 + (1 + i) = off + k * 68 + 1 + i by omega] at h1
          exact h1
        have RY0 := Lib.hid hry
        have Hpl := Lib.hid hpl; have Hpv := Lib.hid hpv
        have HLB2 := Lib.hid hLB
        have d1 : (0 : Int) < k := by omega
        have d2 : 0 < k := by omega
        clear HAT I1 HLB hLB hrx hry hys hyo hxs hxo hpl hpv hsub hj HL0
        generalize (at_ k).prev = PV at *
        go_upto_region 4 with fail
        refine wp_region_tree (.take [0,1,2,3,4,5,6,7,8,9,10,11,12] (.force [13] (.take [14,15] .done))) [] (by kernel_rfl) (by kernel_rfl) (fun w3 k3 => ?_)
        have HK3 := Lib.hid (keep_trans HK.out k3)
        have RY : Hid (w3.rangeAt b (off + j * 68) ys.toList) := Lib.hid fun i v hv => keep_cell HK3.out (RY0.out i v hv)
        have RP : Hid (w3.rangeAt b (off + k * 68 + 1) pv.toList) := Lib.hid fun i v hv => keep_cell HK3.out (RP0.out i v hv)
        clear k3 RY0 RP0 HK
        refine mt_take w3 (Below.refl _ _) ?_
        simp only [pick_cons, pick_nil, nth_zero, nth_succ]
        repeat (first
          | ((with_reducible refine wpQuiet_load_partg b (off + k * 68 + 1) pv (Eq.trans ?_ rfl) RP.out _ Tryd.underlying28 rfl hpi (Eq.trans ?_ rfl) ?_); rfl; rfl; simp only [Act.put, Array.set!_eq_setIfInBounds, List.setIfInBounds_toArray, List.set_cons_succ, List.set_cons_zero])
          | ((with_reducible refine wpQuiet_load_partg b (off + j * 68) ys (Eq.trans ?_ rfl) RY.out _ Tryd.underlying30 rfl hyi (Eq.trans ?_ rfl) ?_); rfl; rfl; simp only [Act.put, Array.set!_eq_setIfInBounds, List.setIfInBounds_toArray, List.set_cons_succ, List.set_cons_zero])
          | go_big_quiet_step (fail))
        refine wpQuiet_nil (mt_force ?_)
        simp only [pick_cons, pick_nil, nth_zero, nth_succ]
        refine fc_step rfl (fun K hK => ?_)
        go_simp
        (with_reducible refine (I2.out _ HK3.out).mono ?_)
        rintro e w4 ⟨ds, rfl, hds, k4⟩
        refine hK _ _ k4 ?_
        have heq : ∀ x, (Op.equalIn 10000 28 (.agg pv) (.agg ds)).run Tryd.prog (aft w4 x) = .ok (PV == ids j) (aft w4 x) := fun x => hash_in Hpv.out hds Hpl.out (HIL.out j) _
        have hdz := hds.z; have hdn := hds.n; have hdi := hds.i
        have HK4 := Lib.hid (keep_trans HK3.out k4)
        clear hK K hds k4 HK3 RY RP I2 Hpv Hpl
        obtain ⟨b1, hb1⟩ : ∃ b, (PV == ids j) = b := ⟨_, rfl⟩
        rw [hb1] at HLB2 heq
        clear hb1
        refine fc_nil (mt_take w4 (Below.refl _ _) ?_)
        simp only [pick_cons, pick_nil, nth_zero, nth_succ]
        repeat (go_big_quiet_step (fail))
        refine wpQuiet_nil (mt_end ?_)
        clear heq
        cases b1 with
        | true =>
          have hnext : Hid (∀ j, j < k + 1 → lk j = true) := Lib.hid fun i hi => by
            by_cases e : i < k
            · exact hz.out i e
            · obtain rfl : i = k := by omega
              exact HLB2.out
          clear hz HLB2 STOP ALL
          go_wp2
          go_roundw
          case rel => exact ⟨k + 1, by omega, by go_num, hnext, HK4⟩
          case measure => simp [intOf]; omega
        | false =>
          have hN := STOP.out k hlt hz.out HLB2.out
          subst hN
          clear hz HLB2 STOP ALL
          go_wp2
          exact bodyPost_ret (v := iv R) (by simp [results, Tryd.results22]) rfl ⟨rfl, HK4.out⟩
    · obtain rfl : n = k := by omega
      have hN := ALL.out hz.out
      subst hN
      clear STOP ALL hz HAT I1 HLB HL0
      go_wp2
      exact bodyPost_ret (v := iv R) (by simp [results, Tryd.results22]) rfl ⟨rfl, HK.out⟩
end Go.Proofs.YteoilddiilegmaaDoor
