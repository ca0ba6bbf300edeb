/- Are headers in a row the same? -/
import Derived.Test.YtbomnldpmkedbaaDoorJrnP
set_option linter.unusedSimpArgs false
set_option linter.unusedVariables false
namespace Go.Proofs.YtbomnldpmkedbaaDoor
open Go.RowKit
attribute [local go_sem ↓] Go.wp_at_zero Go.wp_at_succ

theorem fm_get {α β : Type} (f : α → List β) (size : Nat) : ∀ (l : List α), (∀ a ∈ l, (f a).length = size) → ∀ (k j : Nat) (hk : k < l.length), j < size → (l.flatMap f)[k * size + j]? = (f l[k])[j]?
  | [], _, k, j, hk, _ => by simp at hk
  | a :: l, hl, 0, j, hk, hj => by
    rw [List.flatMap_cons, Nat.zero_mul, Nat.zero_add, List.getElem?_append_left (by rw [hl a (by simp)]; omega)]; rfl
  | a :: l, hl, k + 1, j, hk, hj => by
    have ha := hl a (by simp)
    rw [List.flatMap_cons, List.getElem?_append_right (by rw [ha, Nat.succ_mul]; omega), ha, show (k + 1) * size + j - size = k * size + j by rw [Nat.succ_mul]; omega]
    exact fm_get f size l (fun b hb => hl b (by simp [hb])) k j (by simpa using hk) hj
theorem Hd.at_ {w : World} {A : Option Addr} {hs : List Hd} (hr : Rd w A (hs.flatMap Hd.cells)) (ho : ∀ x ∈ hs, x.ok) {k : Nat} (hk : k < hs.length) :
    ∃ b off, A = some ⟨b, off, none⟩ ∧ b < w.heap.size ∧ ∀ w', Keep w w' → w'.rangeAt b (off + k * 68) hs[k].cells := by
  have hl := flatMap_len' Hd.cells 68 hs (fun a ha => Hd.len (ho a ha))
  obtain ⟨b, off, rfl, hb, _, F⟩ := hr.at2 (Below.refl _ _) (k := k * 68) (by rw [hl]; omega)
  refine ⟨b, off, rfl, hb, fun w' hk' j v hv => ?_⟩
  have hj : j < 68 := by rw [← Hd.len (ho _ (List.getElem_mem hk))]; exact (List.getElem?_eq_some_iff.1 hv).1
  have e := fm_get Hd.cells 68 hs (fun a ha => Hd.len (ho a ha)) k j hk hj
  obtain ⟨h1, h2⟩ := List.getElem?_eq_some_iff.1 (e.trans hv)
  rw [show off + k * 68 + j = off + (k * 68 + j) by omega, F w' hk' _ h1, h2]

set_option maxRecDepth 100000 in
set_option maxHeartbeats 2000000 in
theorem hsame_any (A : Option Addr) (hs : List Hd) (c : Nat) (B : Option Addr) (gs : List Hd) (d : Nat) (w : World) (ha : Rd w A (hs.flatMap Hd.cells)) (hb : Rd w B (gs.flatMap Hd.cells)) (ho : ∀ x ∈ hs, x.ok) (go : ∀ x ∈ gs, x.ok)
    (hl : hs.length ≤ 1000000) (gl : gs.length ≤ 1000000) :
    Calls Tryd.prog 18 #[.slice A hs.length c, .slice B gs.length d] w fun e w' => e = .returned (.bool (decide (hs = gs))) ∧ Keep w w' := by
  by_cases hn : hs.length = gs.length
  · have hn1 : ((hs.length : Int) != (gs.length : Int)) = false := by simp; omega
    have Hn := Lib.hid hn; clear hn
    go_enter Tryd.func18, Tryd.ntmps18
    go_wp2_with fail
    go_loopw [5] (fun i wr => ∃ k : Nat, k ≤ hs.length ∧ i = .int .i64 k ∧ Keep w wr ∧ hs.take k = gs.take k) (fun i _ => hs.length - (intOf i).toNat)
    case atStart => exact ⟨0, Nat.zero_le _, rfl, Below.refl _ _, by simp⟩
    case round =>
      obtain ⟨k, hk, rfl, hkr, heq⟩ := hrel
      have Heq := Lib.hid heq; clear heq
      by_cases hlt : k < hs.length
      · have hlt' : k < gs.length := by have := Hn.out; omega
        obtain ⟨b, off, rfl, hbb, F⟩ := Hd.at_ ha ho hlt
        obtain ⟨b', off', rfl, hbb', F'⟩ := Hd.at_ hb go hlt'
        have hx := ho _ (List.getElem_mem hlt); have gx := go _ (List.getElem_mem hlt')
        have hts : hs.take (k + 1) = hs.take k ++ [hs[k]] := List.take_succ_eq_append_getElem hlt
        have gts : gs.take (k + 1) = gs.take k ++ [gs[k]] := List.take_succ_eq_append_getElem hlt'
        have hno : hs[k] ≠ gs[k] → decide (hs = gs) = false := fun h => decide_eq_false fun e => h (by subst e; rfl)
        generalize hs[k] = x at F hx hts hno
        generalize gs[k] = y at F' gx gts hno
        obtain ⟨xv, hxv⟩ : ∃ xv, HdA x xv := ⟨_, HdA.of hx⟩
        obtain ⟨yv, hyv⟩ : ∃ yv, HdA y yv := ⟨_, HdA.of gx⟩
        have xz := hxv.z; have xn := hxv.n; have xi := hxv.i
        have yz := hyv.z; have yn := hyv.n; have yi := hyv.i
        have Hx : Hid (wr.rangeAt b (off + k * 68) xv.toList) := by rw [hxv.l]; exact F wr hkr
        have Hy : Hid (wr.rangeAt b' (off' + k * 68) yv.toList) := by rw [hyv.l]; exact F' wr hkr
        have he : ∀ w, (Go.binOp .neq 65 (.agg xv) (.agg yv)).run Tryd.prog w = .ok (.bool (!hdEq x y)) w := fun w => hd_neq hxv hyv hx gx w
        have hgd := hd_guard
        have Hts := Lib.hid hts; have Gts := Lib.hid gts; have Hno := Lib.hid hno
        clear F F' hts gts hno hxv hyv hx gx
        by_cases q : x = y
        · have q1 : hdEq x y = true := (hdEq_iff x y).2 q
          rw [q1] at he
          have Q := Lib.hid q
          clear q q1
          go_upto_region 6 with fail
          refine wp_region_aft (by kernel_rfl) (by kernel_rfl) wr (Below.refl _ _) ?_
          iterate 3 (go_big_quiet_step (fail))
          (with_reducible refine wpQuiet_load_part b (off + k * 68) xv (Eq.trans ?_ rfl) Hx.out _ Tryd.underlying65 rfl xi ?_)
          rfl
          simp only [Act.put, Array.set!_eq_setIfInBounds, List.setIfInBounds_toArray, List.set_cons_succ, List.set_cons_zero]
          iterate 3 (go_big_quiet_step (fail))
          (with_reducible refine wpQuiet_load_part b' (off' + k * 68) yv (Eq.trans ?_ rfl) Hy.out _ Tryd.underlying65 rfl yi ?_)
          rfl
          simp only [Act.put, Array.set!_eq_setIfInBounds, List.setIfInBounds_toArray, List.set_cons_succ, List.set_cons_zero]
          repeat (go_big_quiet_step (fail))
          refine wpQuiet_nil ?_
          rintro _ ⟨z, rfl⟩
          have hk2 := aft_keep wr z
          generalize aft wr z = w2 at hk2 ⊢
          clear he
          go_wp2
          go_roundw
          case rel => exact ⟨k + 1, by omega, by go_num, keep_trans hkr hk2, by rw [Hts.out, Gts.out, Heq.out, Q.out]⟩
          case measure => simp [intOf]; omega
        · have q1 : hdEq x y = false := by cases h : hdEq x y with | false => rfl | true => exact absurd ((hdEq_iff x y).1 h) q
          rw [q1] at he
          have Q := Lib.hid (Hno.out q)
          clear q q1
          go_upto_region 6 with fail
          refine wp_region_aft (by kernel_rfl) (by kernel_rfl) wr (Below.refl _ _) ?_
          iterate 3 (go_big_quiet_step (fail))
          (with_reducible refine wpQuiet_load_part b (off + k * 68) xv (Eq.trans ?_ rfl) Hx.out _ Tryd.underlying65 rfl xi ?_)
          rfl
          simp only [Act.put, Array.set!_eq_setIfInBounds, List.setIfInBounds_toArray, List.set_cons_succ, List.set_cons_zero]
          iterate 3 (go_big_quiet_step (fail))
          (with_reducible refine wpQuiet_load_part b' (off' + k * 68) yv (Eq.trans ?_ rfl) Hy.out _ Tryd.underlying65 rfl yi ?_)
          rfl
          simp only [Act.put, Array.set!_eq_setIfInBounds, List.setIfInBounds_toArray, List.set_cons_succ, List.set_cons_zero]
          repeat (go_big_quiet_step (fail))
          refine wpQuiet_nil ?_
          rintro _ ⟨z, rfl⟩
          have hk2 := aft_keep wr z
          generalize aft wr z = w2 at hk2 ⊢
          clear he
          go_wp2
          exact bodyPost_ret (v := .bool false) (by simp [results, Tryd.results18]) rfl ⟨by rw [Q.out], keep_trans hkr hk2⟩
      · have he : hs = gs := by
          have h1 := Heq.out
          have hn := Hn.out
          rw [show k = hs.length by omega, List.take_length, hn, List.take_length] at h1
          exact h1
        have HE := Lib.hid (show decide (hs = gs) = true from decide_eq_true he)
        clear he
        go_wp2_with fail
        exact bodyPost_ret (v := .bool true) (by simp [results, Tryd.results18]) rfl ⟨by rw [HE.out], hkr⟩
  · have hn1 : ((hs.length : Int) != (gs.length : Int)) = true := by simp; omega
    have HE := Lib.hid (show decide (hs = gs) = false from decide_eq_false fun e => hn (by rw [e]))
    clear hn
    go_enter Tryd.func18, Tryd.ntmps18
    go_wp2_with fail
    exact bodyPost_ret (v := .bool false) (by simp [results, Tryd.results18]) rfl ⟨by rw [HE.out], Below.refl _ _⟩
end Go.Proofs.YtbomnldpmkedbaaDoor
