/- florinref18.Put. (printed by gen_drf.py) -/
import Derived.Test.YtmhbfjcehmjllaaDre
set_option linter.unusedSimpArgs false
set_option linter.unusedVariables false
namespace Go.Proofs.Ytmhbfjcehmjllaa
open Go.RowKit
attribute [local go_sem ↓] Go.wp_at_zero Go.wp_at_succ
theorem put_split (b : List UInt8) (ws : List WriteR) (i : Int) (data : List UInt8) : putD b ws i data = if (decide (i < 0) || decide (((tkB b ws).length : Int) / 32 ≤ i) || !((data.length : Int) == 32) || decide ((100000 : Int) ≤ (tkW b ws).length)) = true then ((tkW b ws).map WriteR.pl, 14) else ((tkW b ws).map WriteR.pl ++ [(i, data)], 0) := by
  unfold putD layD layOk
  generalize (tkW b ws).map WriteR.pl = P
  generalize (tkB b ws).length = nb
  generalize (tkW b ws).length = np
  by_cases h32 : data.length = 32
  · rw [if_pos h32, if_neg (by omega), if_neg (by omega)]
    have e1 : data.length / 32 = 1 := by omega
    rw [e1]
    by_cases hc : 0 ≤ i ∧ i ≤ (nb / 32 : Nat) - (1 : Nat) ∧ np + 1 ≤ 100000
    · rw [if_pos (by simpa using hc), if_neg (by simp; omega)]
      have e2 : layWs i data 1 = [(i, data)] := by
        unfold layWs
        simp [List.range_succ, List.take_of_length_le (show data.length ≤ 32 by omega)]
      rw [e2]
    · rw [if_neg (by simpa using hc), if_pos (by simp; omega)]
  · rw [if_neg h32, if_pos (by simp; omega)]
theorem drf_tr : ∀ p q r s : Bool, (p = true) ∨ (p = false ∧ q = true) ∨ (p = false ∧ q = false ∧ r = false) ∨ (p = false ∧ q = false ∧ r = true ∧ s = true) ∨ (p = false ∧ q = false ∧ r = true ∧ s = false) := by decide
set_option maxRecDepth 100000 in
set_option maxHeartbeats 4000000 in
theorem rput_any (A : Option Addr) (b : List UInt8) (c : Nat) (PA : Option Addr) (ws : List WriteR) (pc : Nat) (i : Int) (B : Option Addr) (data : List UInt8) (cd : Nat) (w : World) (h : DOk w A b c PA ws pc) (hdr : Rd w B (data.map u8v)) (hdl : data.length ≤ 1000000) :
    Calls Try.prog 10 #[DV A b.length c PA ws.length pc, .int .i64 i, .slice B data.length cd] w fun e w' => ∃ A' c' PA' pc' vs, e = .returned (.tuple #[DV A' (tkB b ws).length c' PA' vs.length pc', .int .i64 (putD b ws i data).2]) ∧ vs.map WriteR.pl = (putD b ws i data).1 ∧ DOk w' A' (tkB b ws) c' PA' vs pc' ∧ Keep w w' := by
  have hts := sane_len (tk_sane b ws)
  have HP := Lib.hid (put_split b ws i data)
  have hwsok : ∀ x ∈ tkW b ws, OkW w x := fun x hx => by
    unfold tkW at hx
    split at hx
    · exact h.ok x hx
    · cases hx
  have OWN : Hid (∀ y, Keep w y → Calls Try.prog 27 #[DV A b.length c PA ws.length pc] y fun e w' => ∃ A' c' PA' pc', e = .returned (DV A' (tkB b ws).length c' PA' (tkW b ws).length pc') ∧ w'.ownsRow y.heap.size 5 1 (.slice A' (tkB b ws).length c') (tkB b ws).length ((tkB b ws).map u8v) ∧ w'.ownsRow y.heap.size 53 2 (.slice PA' (tkW b ws).length pc') (tkW b ws).length ((tkW b ws).flatMap WriteR.cells) ∧ Keep y w') := Lib.hid fun y hy => rown_any _ _ _ _ _ _ _ (h.keep hy)
  generalize putD b ws i data = R at *
  generalize hbb : tkB b ws = bb at *
  generalize hww : tkW b ws = wv at *
  obtain ⟨bl, hbl⟩ : ∃ n, bb.length = n := ⟨_, rfl⟩
  obtain ⟨wl, hwl⟩ : ∃ n, wv.length = n := ⟨_, rfl⟩
  obtain ⟨D, hD⟩ : ∃ n, data.length = n := ⟨_, rfl⟩
  rw [hbl, hwl] at hts HP OWN
  rw [hD] at HP hdl
  rw [hbl, hD]
  have HBL := Lib.hid hbl; have HWL := Lib.hid hwl; have HDL := Lib.hid hD; have HOK := Lib.hid hwsok; have HDR := Lib.hid hdr
  have hb1 : bl ≤ 131072 := by omega
  have hw1 : wl ≤ 100000 := by omega
  clear hbb hww hbl hwl hD hts h hwsok hdr
  obtain ⟨p, hp⟩ : ∃ p, decide (i < 0) = p := ⟨_, rfl⟩
  obtain ⟨q, hq⟩ : ∃ q, decide ((bl : Int) / 32 ≤ i) = q := ⟨_, rfl⟩
  obtain ⟨r, hr⟩ : ∃ r, ((D : Int) == 32) = r := ⟨_, rfl⟩
  obtain ⟨s, hs⟩ : ∃ s, decide ((100000 : Int) ≤ wl) = s := ⟨_, rfl⟩
  have hn : ((D : Int) != 32) = !r := by show (!((D : Int) == 32)) = _; rw [hr]
  rw [hp, hq, hr, hs] at HP
  have HEQ := Lib.hid (And.intro hp (And.intro hq (And.intro hr (And.intro hs hn))))
  clear hp hq hr hs hn
  go_enter Try.func10, Try.ntmps10
  go_upto_region 2 with (go_at_call 27; refine (OWN.out _ (((Below.refl _ _).alloc (Nat.le_refl _) _).alloc (by simp) _)).mono ?_; rintro e w2 ⟨A1, c1, PA1, pc1, rfl, o1, o2, hk2⟩; have r0 : w2.cell? ⟨w.heap.size + 1, 0, none⟩ = some (.slice none 0 0) := keep_cell hk2 (by go_simp); have r1 : w2.cell? ⟨w.heap.size + 1, 1, none⟩ = some (.slice none 0 0) := keep_cell hk2 (by go_simp); have f0 : w2.frozen? ⟨w.heap.size + 1, 0, none⟩ = false := keep_frozen hk2 (by simp) (by go_simp); have f1 : w2.frozen? ⟨w.heap.size + 1, 1, none⟩ = false := keep_frozen hk2 (by simp) (by go_simp); have k2 : Keep w w2 := keep_trans (((Below.refl _ _).alloc (Nat.le_refl _) _).alloc (by simp) _) hk2; have hz2 : w.heap.size + 2 ≤ w2.heap.size := (by have := hk2.size; simpa using this))
  have O1 := Lib.hid (own_base (b' := w.heap.size + 2) o1 (by simp)); have O2 := Lib.hid (own_base (b' := w.heap.size + 2) o2 (by simp))
  clear o1 o2 hk2 OWN
  obtain ⟨w3, hw3⟩ : ∃ x, x = w2.alloc (.cells #[.slice A1 bl c1, .slice PA1 wl pc1] 25) := ⟨_, rfl⟩
  have k23 : Keep w2 w3 := by rw [hw3]; exact keep_new _ _
  have C0 : Hid (w3.cell? ⟨w2.heap.size, 0, none⟩ = some (.slice A1 bl c1)) := by rw [hw3]; exact Lib.hid (box_cell _ _ _ 0)
  have C1 : Hid (w3.cell? ⟨w2.heap.size, 1, none⟩ = some (.slice PA1 wl pc1)) := by rw [hw3]; exact Lib.hid (box_cell _ _ _ 1)
  have hz3 : w2.heap.size < w3.heap.size := by rw [hw3]; simp
  rw [← hw3]
  have K3 := Lib.hid (keep_trans k2 k23)
  replace O1 := Lib.hid (own_keep O1.out k23); replace O2 := Lib.hid (own_keep O2.out k23)
  have R0 := Lib.hid (keep_cell k23 r0); have R1 := Lib.hid (keep_cell k23 r1); have F0 := Lib.hid (keep_frozen k23 (by omega) f0); have F1 := Lib.hid (keep_frozen k23 (by omega) f1)
  clear hw3 k2 k23 r0 r1 f0 f1
  generalize w2.heap.size = g at *
  go_cut [32] (fun v wx => v = .bool (p || q || !r || s) ∧ Hid (Keep w3 wx))
  case first =>
    obtain ⟨hp, hq, hr, hs, hn⟩ := HEQ.out
    have a0 := aft_cell C0.out; have a1 := aft_cell C1.out
    clear HP HEQ
    rcases drf_tr p q r s with rfl | ⟨rfl, rfl⟩ | ⟨rfl, rfl, rfl⟩ | ⟨rfl, rfl, rfl, rfl⟩ | ⟨rfl, rfl, rfl, rfl⟩
    all_goals
      try simp only [Bool.not_false, Bool.not_true] at hn
      refine wp_region_plainp w3 (Below.refl _ _) ?_
      try simp only [List.append_eq, List.cons_append, List.nil_append]
      repeat (go_big_quiet_step (fail))
      refine wpQuiet_nil ?_
      rintro _ ⟨y, rfl⟩
      have j := Lib.hid (aft_keep w3 y)
      go_wp2
      go_meet
      exact ⟨by simp, j⟩
  obtain ⟨rfl, HKc⟩ := hcut
  have K4 := Lib.hid (keep_trans K3.out HKc.out)
  have b0 := keep_cell HKc.out C0.out; have b1 := keep_cell HKc.out C1.out
  have r0 := keep_cell HKc.out R0.out; have r1 := keep_cell HKc.out R1.out
  have f0 := keep_frozen HKc.out (by omega) F0.out; have f1 := keep_frozen HKc.out (by omega) F1.out
  replace O1 := Lib.hid (own_keep O1.out HKc.out); replace O2 := Lib.hid (own_keep O2.out HKc.out)
  have hzc : w3.heap.size ≤ wc.heap.size := HKc.out.size
  obtain ⟨_, _, e1, hc1, hm1, -⟩ := own_form O1.out
  obtain ⟨rfl, -, rfl⟩ : A1 = _ ∧ bl = _ ∧ c1 = _ := by injection e1 with h1 h2 h3; exact ⟨h1, h2, h3⟩
  obtain ⟨_, _, e2, hc2, hm2, -⟩ := own_form O2.out
  obtain ⟨rfl, -, rfl⟩ : PA1 = _ ∧ wl = _ ∧ pc1 = _ := by injection e2 with h1 h2 h3; exact ⟨h1, h2, h3⟩
  clear e1 e2 C0 C1 R0 R1 F0 F1 HKc K3
  have hR := HP.out
  cases hT : (p || q || !r || s) with
  | true =>
    rw [hT, if_pos rfl] at hR
    subst hR
    clear HP hT HEQ
    go_wp2
    have q1 := ownsRow_setCell_below (ownsRow_setCell_below O1.out (a := ⟨w.heap.size + 1, 0, none⟩) (by simp) (.slice A1 bl c1)) (a := ⟨w.heap.size + 1, 1, none⟩) (by simp) (.slice PA1 wl pc1)
    have q2 := ownsRow_setCell_below (ownsRow_setCell_below O2.out (a := ⟨w.heap.size + 1, 0, none⟩) (by simp) (.slice A1 bl c1)) (a := ⟨w.heap.size + 1, 1, none⟩) (by simp) (.slice PA1 wl pc1)
    have k9 : Keep w ((wc.setCell ⟨w.heap.size + 1, 0, none⟩ (.slice A1 bl c1)).setCell ⟨w.heap.size + 1, 1, none⟩ (.slice PA1 wl pc1)) := (K4.out.setCell (by simp) _).setCell (by simp) _
    exact bodyPost_ret (v := .tuple #[DV A1 bl c1 PA1 wl pc1, .int .i64 14]) (by simp [results, Try.results10, go_sem, r0, r1, f0, f1]) rfl ⟨A1, c1, PA1, pc1, wv, by rw [HWL.out], rfl, ⟨own_rd q1, by rw [HBL.out]; exact hc1, hm1, own_rd q2, by rw [HWL.out]; exact hc2, hm2, fun x hx => (HOK.out x hx).keep k9⟩, k9⟩
  | false =>
    rw [hT, if_neg (by simp)] at hR
    subst hR
    clear HP
    have hT2 : r = true ∧ s = false := by
      cases p <;> cases q <;> cases r <;> cases s <;> simp at hT ⊢
    obtain ⟨hp, hq, hr, hs, hn⟩ := HEQ.out
    rw [hT2.1] at hr
    rw [hT2.2] at hs
    have hD32 : D = 32 := by have := beq_iff_eq.1 hr; omega
    have hwl2 : wl < 100000 := by have := of_decide_eq_false hs; omega
    clear hT hT2 hp hq hr hs hn HEQ
    have HD32 := Lib.hid hD32
    clear hD32
    have hD6 : D ≤ 1000000 := hdl
    have b1a := keep_cell (keep_new wc (.cells #[] 53)) b1
    have O2a := O2.out.alloc (.cells #[] 53)
    go_upto_region 5 with (at_builtin; refine wpList_app rwriteT (by rfl) _ _ (by rfl) wc.heap.size _ 0 [] (by rfl) (own_zero wc 53 2) _ wl pc1 (wv.flatMap WriteR.cells) (by rfl) (by rw [flatMap_len _ 2 (fun _ => rfl), HWL.out]) (own_rd O2a) (one_writesR _) (by omega) (by unfold maxLen; omega) (by simp) ?_; intro v4 w4 own4 hg4 hat4)
    have k4 : Keep wc w4 := keep_grown (keep_new wc (.cells #[] 53)) (by simp) hg4 (own_zero wc 53 2)
    rw [List.nil_append, Nat.zero_add] at own4
    obtain ⟨A4, c4, rfl, hc4, hm4, -⟩ := own_form own4
    have O4 := Lib.hid own4
    have hz4 : wc.heap.size ≤ w4.heap.size := k4.size
    have B0c := Lib.hid b0; have R0c := Lib.hid r0; have R1c := Lib.hid r1; have F0c := Lib.hid f0; have F1c := Lib.hid f1; have O1c := O1; have KC4 := Lib.hid k4; have K4c := K4
    replace b0 := keep_cell k4 b0; replace b1 := keep_cell k4 b1
    replace r0 := keep_cell k4 r0; replace r1 := keep_cell k4 r1; replace f0 := keep_frozen k4 (by omega) f0; replace f1 := keep_frozen k4 (by omega) f1
    replace O1 := Lib.hid (own_keep O1.out k4)
    have K5 := Lib.hid (keep_trans K4.out k4)
    clear own4 hg4 hat4 k4 b1a O2a O2 K4
    have HDR4 := Lib.hid (HDR.out.keep K5.out)
    go_upto_region 6 with (first
      | (at_builtin; refine wpList_app byteT (by rfl) _ _ (by rfl) w4.heap.size _ 0 [] (by rfl) (own_zero w4 5 1) _ D cd (data.map u8v) (by rfl) (by rw [List.length_map, HDL.out, Nat.mul_one]) (HDR4.out.alloc _) (one_bytes _) (by omega) (by unfold maxLen; omega) (by simp) ?_; intro v5 w5 own5 hg5 hat5; have k5 : Keep w4 w5 := keep_grown (keep_new w4 (.cells #[] 5)) (by simp) hg5 (own_zero w4 5 1); rw [List.nil_append, Nat.zero_add] at own5; have KW5 := Lib.hid k5; obtain ⟨A5, c5, rfl, hc5, hm5, -⟩ := own_form own5; have O5 := Lib.hid own5; have O45 := Lib.hid (own_keep O4.out k5); have hz5 : w4.heap.size ≤ w5.heap.size := k5.size; clear own5 hg5 hat5)
      | (at_builtin; refine wpList_app rwriteT (by rfl) _ _ (by rfl) wc.heap.size _ wl (wv.flatMap WriteR.cells) (by rfl) (O45.out.alloc _) _ 1 1 [.int .i64 i, .slice A5 D c5] (by rfl) (by rfl) (Rd.new _ _ _) (by simp [Value.oneCell']) (by omega) (by unfold maxLen; omega) (by simp; omega) ?_; intro v7 w7 own7 hg7 hat7))
    have kc6 := keep_trans (keep_trans KC4.out KW5.out) (keep_new w5 (.cells #[.int .i64 i, .slice A5 D c5] 53))
    have kc7 : Keep wc w7 := kc6.grown hg7 kc6.size (fun q hq => (O45.out.lt q hq).1)
    have O7 := Lib.hid own7
    obtain ⟨A7, c7, rfl, hc7, hm7, -⟩ := own_form own7
    obtain ⟨g5, cap5, hv5, hgb5, hgl5⟩ := O5.out.form (by have := HD32.out; omega)
    have hne : (Value.slice A5 D c5).ownBlock ≠ (Value.slice A4 wl c4).ownBlock := fun e => by
      rw [hv5] at e
      have h1 := (O4.out.lt g5 (e.symm.trans (by simp [Value.ownBlock]))).2
      omega
    have O57 := Lib.hid ((O5.out.alloc (.cells #[.int .i64 i, .slice A5 D c5] 53)).kept hg7 (.inr hne))
    have K7 := Lib.hid (keep_trans K4c.out kc7)
    replace b0 := keep_cell kc7 B0c.out
    replace r0 := keep_cell kc7 R0c.out; replace r1 := keep_cell kc7 R1c.out; replace f0 := keep_frozen kc7 (by omega) F0c.out; replace f1 := keep_frozen kc7 (by omega) F1c.out
    have O17 := Lib.hid (own_keep O1c.out kc7)
    clear own7 hg7 hat7 kc6 kc7 hv5 hgb5 hgl5 hne b1
    go_wp2
    have q1 := ownsRow_setCell_below (ownsRow_setCell_below O17.out (a := ⟨w.heap.size + 1, 0, none⟩) (by simp) (.slice A1 bl c1)) (a := ⟨w.heap.size + 1, 1, none⟩) (by simp) (.slice A7 (wl + 1) c7)
    have q2 := ownsRow_setCell_below (ownsRow_setCell_below O7.out (a := ⟨w.heap.size + 1, 0, none⟩) (by show w.heap.size + 1 < wc.heap.size; omega) (.slice A1 bl c1)) (a := ⟨w.heap.size + 1, 1, none⟩) (by show w.heap.size + 1 < wc.heap.size; omega) (.slice A7 (wl + 1) c7)
    have q3 := ownsRow_setCell_below (ownsRow_setCell_below O57.out (a := ⟨w.heap.size + 1, 0, none⟩) (by show w.heap.size + 1 < w4.heap.size; omega) (.slice A1 bl c1)) (a := ⟨w.heap.size + 1, 1, none⟩) (by show w.heap.size + 1 < w4.heap.size; omega) (.slice A7 (wl + 1) c7)
    have k9 : Keep w ((w7.setCell ⟨w.heap.size + 1, 0, none⟩ (.slice A1 bl c1)).setCell ⟨w.heap.size + 1, 1, none⟩ (.slice A7 (wl + 1) c7)) := (K7.out.setCell (by simp) _).setCell (by simp) _
    have hvs : (wv ++ [(⟨i, A5, c5, data⟩ : WriteR)]).flatMap WriteR.cells = wv.flatMap WriteR.cells ++ [.int .i64 i, .slice A5 D c5] := by
      rw [List.flatMap_append]; simp [WriteR.cells, HDL.out]
    have hvl : (wv ++ [(⟨i, A5, c5, data⟩ : WriteR)]).length = wl + 1 := by rw [List.length_append, HWL.out]; rfl
    refine bodyPost_ret (v := .tuple #[DV A1 bl c1 A7 (wl + 1) c7, .int .i64 0]) (by simp [results, Try.results10, go_sem, r0, r1, f0, f1]) rfl ⟨A1, c1, A7, c7, wv ++ [⟨i, A5, c5, data⟩], by rw [hvl], by simp [WriteR.pl], ⟨own_rd q1, by rw [HBL.out]; exact hc1, hm1, by rw [hvs]; exact own_rd q2, by rw [hvl]; exact hc7, hm7, fun x hx => ?_⟩, k9⟩
    rcases List.mem_append.1 hx with h1 | h1
    · exact (HOK.out x h1).keep k9
    · obtain rfl := List.mem_singleton.1 h1
      exact ⟨own_rd q3, by rw [HDL.out]; exact hc5, hm5⟩
end Go.Proofs.Ytmhbfjcehmjllaa
