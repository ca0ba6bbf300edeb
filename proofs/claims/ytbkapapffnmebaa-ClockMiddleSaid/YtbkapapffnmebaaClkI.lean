/- ClockMiddle: as many are below as above. -/
import Derived.Test.YtbkapapffnmebaaClkF
set_option linter.unusedSimpArgs false
set_option linter.unusedVariables false
namespace Go.Proofs.Ytbkapapffnmebaa
open Go.RowKit
attribute [local go_sem ↓] Go.wp_at_zero Go.wp_at_succ

theorem med_far (l more : List UInt32) (h : 11 ≤ l.length) : medL (more ++ l) = medL l := by
  have : lastL (more ++ l) = lastL l := by
    unfold lastL
    rw [List.length_append, show more.length + l.length - 11 = more.length + (l.length - 11) by omega, ← List.drop_drop, List.drop_left]
  unfold medL
  rw [this]
theorem med_nil : medL [] = 0 := by decide +kernel
theorem count_snoc (p : UInt32 → Bool) (D : List UInt32) (k : Nat) (h : k < D.length) : (D.take (k + 1)).countP p = (D.take k).countP p + (if p D[k] then 1 else 0) := by
  rw [List.take_succ_eq_append_getElem h, List.countP_append, List.countP_singleton]

set_option maxRecDepth 100000 in
set_option maxHeartbeats 4000000 in
theorem middle_law (A : Option Addr) (l : List UInt32) (c : Nat) (A' : Option Addr) (more : List UInt32) (c' : Nat) (w : World) (hc : l.length ≤ c) (hm : c ≤ maxLen) (hr : Rd w A (l.map u32v)) (hc' : more.length ≤ c') (hm' : c' ≤ maxLen) (hr' : Rd w A' (more.map u32v)) :
    Calls Try.prog 3 #[.slice A l.length c, .slice A' more.length c'] w (Gave (.bool true) w) := by
  have Hm := Lib.hid hm
  unfold maxLen at hm hm'
  go_enter Try.func3, Try.ntmps3
  go_wp2_with fail
  refine (awake_any w).mono ?_
  rintro e w1 ⟨rfl, k1⟩
  by_cases q1 : 200 < l.length
  · go_wp2
    go_ret
    exact ⟨rfl, k1⟩
  by_cases q2 : 200 < more.length
  · go_wp2
    go_ret
    exact ⟨rfl, k1⟩
  have hr1 := hr.keep k1; have hr1' := hr'.keep k1
  have Hr' := Lib.hid hr1'
  clear hr hr' hr1'
  go_wp2_with fail
  refine (median_any A l c w1 hc Hm.out hr1).mono ?_
  rintro e w2 ⟨rfl, k2⟩
  have Hr := Lib.hid (hr1.keep k2)
  have k12 := keep_trans k1 k2
  have Hl := Lib.hid (fun W h => last_any A l c W hc Hm.out (Rd.keep (w' := W) Hr.out h))
  have Hll := Lib.hid (lastL_len l)
  have Hlaw := Lib.hid (fun h => med_law (l := l) h)
  have Hfar := Lib.hid (fun h => med_far l more h)
  have Hnil : Hid (l.length = 0 → medL l = 0) := Lib.hid (fun h => by rw [List.eq_nil_of_length_eq_zero h]; exact med_nil)
  obtain ⟨D, hD⟩ : ∃ D, D = l.drop (l.length - 11) := ⟨_, rfl⟩
  have hDl : D.length = min l.length 11 := by rw [hD, List.length_drop]; omega
  obtain ⟨n, hn⟩ : ∃ n, n = D.length := ⟨_, rfl⟩
  have hnl : n = min l.length 11 := by omega
  obtain ⟨s, hs⟩ : ∃ s, s = l.length - n := ⟨_, rfl⟩
  have HsD : Hid (∀ k (h : k < D.length) (h2 : s + k < l.length), l[s + k] = D[k]) := Lib.hid (fun k h h2 => by
    subst hD; rw [List.getElem_drop]; congr 1; omega)
  rw [← hD] at Hlaw
  have Hn := Lib.hid hn; have Hnl := Lib.hid hnl; have Hs := Lib.hid hs
  have b1 : n ≤ l.length := by omega
  have b2 : n ≤ 11 := by omega
  clear hD hDl hn hs hr1
  generalize medL l = m at *
  go_upto_region 5 with fail
  go_cut [7] (fun v wx => v = .int .i64 n ∧ wx = w2)
  case first =>
    by_cases h : l.length ≤ 11
    · have e : n = l.length := by omega
      clear hnl
      go_wp2_with fail
      all_goals go_meet
      all_goals exact ⟨by rw [e], rfl⟩
    · have e : n = 11 := by omega
      clear hnl
      go_wp2_with fail
      all_goals go_meet
      all_goals exact ⟨by rw [e]; rfl, rfl⟩
  case rest =>
    obtain ⟨rfl, rfl⟩ := hcut
    clear hnl
    go_wp2
    go_loopw [8, 9, 10, 11] (fun lo hi eq i wr => ∃ k : Nat, k ≤ n ∧ i = .int .i64 ((s + k : Nat) : Int) ∧ lo = .int .i64 ((D.take k).countP (fun x => decide (x.toNat < m.toNat)) : Nat) ∧ hi = .int .i64 ((D.take k).countP (fun x => decide (m.toNat < x.toNat)) : Nat) ∧ eq = .int .i64 ((D.take k).countP (fun x => decide (x = m)) : Nat) ∧ wr = wc) (fun _ _ _ i _ => l.length - (intOf i).toNat)
    case atStart => exact ⟨0, Nat.zero_le _, by have := Hs.out; go_num, rfl, rfl, rfl, rfl⟩
    case round =>
      obtain ⟨k, hk, rfl, rfl, rfl, rfl, rfl⟩ := hrel
      have c1 := List.countP_le_length (p := fun x : UInt32 => decide (x.toNat < m.toNat)) (l := D.take k)
      have c2 := List.countP_le_length (p := fun x : UInt32 => decide (m.toNat < x.toNat)) (l := D.take k)
      have c3 := List.countP_le_length (p := fun x : UInt32 => decide (x = m)) (l := D.take k)
      rw [List.length_take] at c1 c2 c3
      have hn := Hn.out; have hs := Hs.out
      by_cases hlt : k < n
      · have hsk : s + k < l.length := by omega
        have t1 := count_snoc (fun x => decide (x.toNat < m.toNat)) D k (by omega)
        have t2 := count_snoc (fun x => decide (m.toNat < x.toNat)) D k (by omega)
        have t3 := count_snoc (fun x => decide (x = m)) D k (by omega)
        obtain ⟨b, off, rfl, hb, F⟩ := Hr.out.at (k := s + k) (by simpa using hsk)
        have r0 := F (s + k) (by simpa using hsk)
        simp only [List.getElem_map] at r0
        rw [HsD.out k (by omega) hsk] at r0
        generalize D[k]'_ = x at r0 t1 t2 t3
        generalize (D.take k).countP (fun x => decide (x.toNat < m.toNat)) = lo at *
        generalize (D.take k).countP (fun x => decide (m.toNat < x.toNat)) = hi at *
        generalize (D.take k).countP (fun x => decide (x = m)) = eq at *
        have T1 := Lib.hid t1; have T2 := Lib.hid t2; have T3 := Lib.hid t3
        clear F t1 t2 t3 hn hs
        rcases Nat.lt_trichotomy x.toNat m.toNat with h | h | h
        · have e2 : ¬ m.toNat < x.toNat := by omega
          have e3 : ¬ x.toNat = m.toNat := by omega
          have e4 : ¬ x = m := fun hh => e3 (by rw [hh])
          have E4 := Lib.hid e4; clear e4
          go_wp2
          go_roundw
          case rel => exact ⟨k + 1, by omega, by go_num, by rw [T1.out]; simp [h], by rw [T2.out]; simp [e2], by rw [T3.out]; simp [E4.out], by trivial⟩
          case measure => simp [intOf]; omega
        · have e0 : x = m := UInt32.toNat_inj.1 h
          subst e0
          clear h
          go_wp2
          go_roundw
          case rel => exact ⟨k + 1, by omega, by go_num, by rw [T1.out]; simp, by rw [T2.out]; simp, by rw [T3.out]; simp, by trivial⟩
          case measure => simp [intOf]; omega
        · have e2 : ¬ x.toNat < m.toNat := by omega
          have e3 : ¬ x.toNat = m.toNat := by omega
          have e4 : ¬ x = m := fun hh => e3 (by rw [hh])
          have E4 := Lib.hid e4; clear e4
          go_wp2
          go_roundw
          case rel => exact ⟨k + 1, by omega, by go_num, by rw [T1.out]; simp [e2], by rw [T2.out]; simp [h], by rw [T3.out]; simp [E4.out], by trivial⟩
          case measure => simp [intOf]; omega
      · obtain rfl : n = k := by omega
        have eD : D.take n = D := by rw [hn, List.take_length]
        have hlen : (lastL l).length = n := by have := Hll.out; have := Hnl.out; omega
        rw [eD] at c1 c2 c3 ⊢
        have hle : l.length ≤ s + n := by omega
        have k2' := k2
        by_cases h0 : n = 0
        · have hl0 : l.length = 0 := by have := Hnl.out; omega
          have hm0 := Hnil.out hl0
          clear hl0
          obtain rfl : n = 0 := h0
          have eDn : D = [] := List.eq_nil_of_length_eq_zero hn.symm
          subst hm0
          rw [eDn]
          clear hn hs c1 c2 c3 eD
          go_upto_region 21 with (at_builtin; refine wpList_app wordT (by rfl) _ _ (by rfl) _ _ 0 [] (by rfl) (own_zero _ _ _) _ more.length _ (more.map u32v) (by rfl) (by simp) ((Hr'.out.keep k2).alloc _) (one_words _) (by omega) (by unfold maxLen; omega) (by simp) ?_; intro v3 w3 own3 hg3 hat3; rw [List.nil_append, Nat.zero_add] at own3; have k3 := keep_grown (keep_new _ _) (by simp) hg3 (own_zero _ _ 1); obtain ⟨A3, c3, rfl, hc3, hm3, hrd3⟩ := own_form own3; have Own3 := Lib.hid own3; clear own3 hrd3 hg3 hat3)
          go_wp2_with (at_builtin; refine wpList_app wordT (by rfl) _ _ (by rfl) _ _ more.length _ (by rfl) Own3.out _ l.length _ (l.map u32v) (by rfl) (by simp) (Hr.out.keep k3) (one_words _) (by omega) (by unfold maxLen; omega) (by have := k3.size; omega) ?_; intro v4 w4 own4 hg4 hat4; have k4 := keep_grown k3 (by have := k3.size; omega) hg4 Own3.out; obtain ⟨A4, c4, rfl, hc4, hm4, hrd4⟩ := own_form own4; have Own4 := Lib.hid own4; clear own4 hrd4 hg4 hat4)
          refine (Hl.out w4 k4).mono ?_
          rintro e w6 ⟨v6, rfl, own6, k6⟩
          rw [hlen] at own6
          obtain ⟨A6, c6, rfl, hc6, hm6, hr6⟩ := own_form own6
          clear own6 hr6 hlen
          go_wp2
          go_ret
          exact ⟨rfl, keep_trans k12 (keep_trans k4 k6)⟩
        · have hlaw := Hlaw.out (fun h => h0 (by have := Hnl.out; rw [h] at this; simpa using this))
          have hq : 0 < D.countP (fun x => decide (x = m)) := List.countP_pos_iff.2 ⟨m, hlaw.2.2, by simp⟩
          obtain ⟨g1, g2, _⟩ := hlaw
          rw [← Hnl.out] at g1 g2
          generalize D.countP (fun x => decide (x.toNat < m.toNat)) = lo at *
          generalize D.countP (fun x => decide (m.toNat < x.toNat)) = hi at *
          generalize D.countP (fun x => decide (x = m)) = eq at *
          clear hn hs c1 c2 c3 eD
          have hn0 : 0 < n := by omega
          have he0 : ((eq : Int) == 0) = false := beq_eq_false_iff_ne.2 (by omega)
          have gl : (lo : Int) ≤ (n : Int) / 2 := by omega
          have gh : (hi : Int) ≤ (n : Int) - 1 - (n : Int) / 2 := by omega
          clear g1 g2
          by_cases h11 : n < 11
          · go_upto_region 21 with (at_builtin; refine wpList_app wordT (by rfl) _ _ (by rfl) _ _ 0 [] (by rfl) (own_zero _ _ _) _ more.length _ (more.map u32v) (by rfl) (by simp) ((Hr'.out.keep k2).alloc _) (one_words _) (by omega) (by unfold maxLen; omega) (by simp) ?_; intro v3 w3 own3 hg3 hat3; rw [List.nil_append, Nat.zero_add] at own3; have k3 := keep_grown (keep_new _ _) (by simp) hg3 (own_zero _ _ 1); obtain ⟨A3, c3, rfl, hc3, hm3, hrd3⟩ := own_form own3; have Own3 := Lib.hid own3; clear own3 hrd3 hg3 hat3)
            go_wp2_with (at_builtin; refine wpList_app wordT (by rfl) _ _ (by rfl) _ _ more.length _ (by rfl) Own3.out _ l.length _ (l.map u32v) (by rfl) (by simp) (Hr.out.keep k3) (one_words _) (by omega) (by unfold maxLen; omega) (by have := k3.size; omega) ?_; intro v4 w4 own4 hg4 hat4; have k4 := keep_grown k3 (by have := k3.size; omega) hg4 Own3.out; obtain ⟨A4, c4, rfl, hc4, hm4, hrd4⟩ := own_form own4; have Own4 := Lib.hid own4; clear own4 hrd4 hg4 hat4)
            refine (Hl.out w4 k4).mono ?_
            rintro e w6 ⟨v6, rfl, own6, k6⟩
            rw [hlen] at own6
            obtain ⟨A6, c6, rfl, hc6, hm6, hr6⟩ := own_form own6
            clear own6 hr6 hlen
            go_wp2
            go_ret
            exact ⟨rfl, keep_trans k12 (keep_trans k4 k6)⟩
          · have hq := fun (B : Option Addr) (d : Nat) (W : World) => median_any B (more ++ l) d W
            rw [Hfar.out (by omega)] at hq
            have Hq := Lib.hid hq; clear hq
            go_upto_region 21 with (at_builtin; refine wpList_app wordT (by rfl) _ _ (by rfl) _ _ 0 [] (by rfl) (own_zero _ _ _) _ more.length _ (more.map u32v) (by rfl) (by simp) ((Hr'.out.keep k2).alloc _) (one_words _) (by omega) (by unfold maxLen; omega) (by simp) ?_; intro v3 w3 own3 hg3 hat3; rw [List.nil_append, Nat.zero_add] at own3; have k3 := keep_grown (keep_new _ _) (by simp) hg3 (own_zero _ _ 1); obtain ⟨A3, c3, rfl, hc3, hm3, hrd3⟩ := own_form own3; have Own3 := Lib.hid own3; clear own3 hrd3 hg3 hat3)
            go_wp2_with (at_builtin; refine wpList_app wordT (by rfl) _ _ (by rfl) _ _ more.length _ (by rfl) Own3.out _ l.length _ (l.map u32v) (by rfl) (by simp) (Hr.out.keep k3) (one_words _) (by omega) (by unfold maxLen; omega) (by have := k3.size; omega) ?_; intro v4 w4 own4 hg4 hat4; have k4 := keep_grown k3 (by have := k3.size; omega) hg4 Own3.out; obtain ⟨A4, c4, rfl, hc4, hm4, hrd4⟩ := own_form own4; have Own4 := Lib.hid own4; clear own4 hrd4 hg4 hat4)
            have hq := Hq.out A4 c4 w4 (by rw [List.length_append]; exact hc4) hm4 (by rw [List.map_append]; exact own_rd Own4.out)
            rw [List.length_append] at hq
            refine hq.mono ?_
            rintro e w5 ⟨rfl, k5⟩
            clear hq
            go_wp2_with fail
            refine (Hl.out w5 (keep_trans k4 k5)).mono ?_
            rintro e w6 ⟨v6, rfl, own6, k6⟩
            rw [hlen] at own6
            obtain ⟨A6, c6, rfl, hc6, hm6, hr6⟩ := own_form own6
            clear own6 hr6 hlen
            go_wp2
            go_ret
            exact ⟨rfl, keep_trans k12 (keep_trans (keep_trans k4 k5) k6)⟩
end Go.Proofs.Ytbkapapffnmebaa
