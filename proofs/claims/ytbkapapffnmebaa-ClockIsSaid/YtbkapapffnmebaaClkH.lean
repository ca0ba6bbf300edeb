/- ClockOrder: the same times in another order. -/
import Derived.Test.YtbkapapffnmebaaClkG
set_option linter.unusedSimpArgs false
set_option linter.unusedVariables false
namespace Go.Proofs.Ytbkapapffnmebaa
open Go.RowKit
attribute [local go_sem ↓] Go.wp_at_zero Go.wp_at_succ

set_option maxRecDepth 100000 in
set_option maxHeartbeats 2000000 in
theorem same_any (A A' : Option Addr) (l l' : List UInt32) (c c' : Nat) (w : World) (hc : l.length ≤ c) (hm : c ≤ maxLen) (hr : Rd w A (l.map u32v)) (hc' : l'.length ≤ c') (hm' : c' ≤ maxLen) (hr' : Rd w A' (l'.map u32v)) :
    Calls Try.prog 11 #[.slice A l.length c, .slice A' l'.length c'] w (Gave (.bool (decide (l = l'))) w) := by
  unfold maxLen at hm hm'
  by_cases hl : l.length = l'.length
  · have Hl := Lib.hid hl
    rw [← hl]
    go_enter Try.func11, Try.ntmps11
    go_wp2_with fail
    go_loopw [5] (fun i wr => ∃ k : Nat, k ≤ l.length ∧ i = .int .i64 k ∧ Keep w wr ∧ l.take k = l'.take k) (fun i _ => l.length - (intOf i).toNat)
    case atStart => exact ⟨0, Nat.zero_le _, rfl, Below.refl _ _, rfl⟩
    case round =>
      obtain ⟨k, hk, rfl, hkr, heq⟩ := hrel
      have Heq := Lib.hid heq; clear heq
      by_cases hlt : k < l.length
      · obtain ⟨b, off, rfl, hb, F⟩ := hr.at (k := k) (by simpa using hlt)
        obtain ⟨b', off', rfl, hb', F'⟩ := hr'.at (k := k) (by simp; omega)
        have r0 := keep_cell hkr (F k (by simpa using hlt)); have r1 := keep_cell hkr (F' k (by simp; omega))
        simp only [List.getElem_map] at r0 r1
        have hts := List.take_succ_eq_append_getElem hlt
        have hts' := List.take_succ_eq_append_getElem (show k < l'.length by omega)
        have hno : l[k] ≠ l'[k] → l ≠ l' := fun h e => h (by subst e; rfl)
        generalize l[k] = x at *
        generalize l'[k] = y at *
        have Hts := Lib.hid hts; have Hts' := Lib.hid hts'; have Hno := Lib.hid hno
        clear F F' hts hts' hno
        have a0 := aft_cell r0; have a1 := aft_cell r1
        by_cases q : x = y
        · subst q
          go_wp2_with fail
          refine wp_region_aft (by kernel_rfl) (by kernel_rfl) wr (Below.refl _ _) ?_
          repeat (go_big_quiet_step (fail))
          refine wpQuiet_nil ?_
          rintro _ ⟨y, rfl⟩
          have hk2 := aft_keep wr y
          generalize aft wr y = w2 at hk2 ⊢
          clear a0 a1
          go_wp2
          go_roundw
          case rel => exact ⟨k + 1, by omega, by go_num, keep_trans hkr hk2, by rw [Hts.out, Hts'.out, Heq.out]⟩
          case measure => simp [intOf]; omega
        · have q2 : ¬ x.toNat = y.toNat := fun h => q (UInt32.toNat_inj.1 h)
          have Q := Lib.hid (Hno.out q)
          clear q
          go_wp2_with fail
          refine wp_region_aft (by kernel_rfl) (by kernel_rfl) wr (Below.refl _ _) ?_
          repeat (go_big_quiet_step (fail))
          refine wpQuiet_nil ?_
          rintro _ ⟨y, rfl⟩
          have hk2 := aft_keep wr y
          generalize aft wr y = w2 at hk2 ⊢
          clear a0 a1
          go_wp2
          go_ret
          exact ⟨ret_bool (decide_eq_false Q.out).symm, keep_trans hkr hk2⟩
      · obtain rfl : k = l.length := by omega
        have Q := Lib.hid (show l = l' by have h := Heq.out; rw [List.take_length, Hl.out, List.take_length] at h; exact h)
        go_wp2
        go_ret
        exact ⟨ret_bool (decide_eq_true Q.out).symm, hkr⟩
  · have Q := Lib.hid (show l ≠ l' from fun h => hl (by rw [h]))
    go_enter Try.func11, Try.ntmps11
    go_wp2
    go_ret
    exact ⟨ret_bool (decide_eq_false Q.out).symm, Below.refl _ _⟩

theorem drop_rev (l : List UInt32) (j : Nat) (h : j < l.length) : (l.drop j).reverse = (l.drop (j + 1)).reverse ++ [l[j]] := by
  rw [List.drop_eq_getElem_cons h, List.reverse_cons]
theorem perm_last {a l : List UInt32} (h : a.Perm l) (hl : l.length ≤ 11) : lastL a = lastL l := by
  have e := h.length_eq
  unfold lastL
  rw [show a.length - 11 = 0 by omega, show l.length - 11 = 0 by omega, List.drop_zero, List.drop_zero]
  exact sortL_eq h
theorem perm_med {a l : List UInt32} (h : a.Perm l) (hl : l.length ≤ 11) : medL a = medL l := by unfold medL; rw [perm_last h hl]

set_option maxRecDepth 100000 in
set_option maxHeartbeats 4000000 in
theorem order_law (A : Option Addr) (l : List UInt32) (c : Nat) (k0 : Int) (w : World) (hc : l.length ≤ c) (hm : c ≤ maxLen) (hr : Rd w A (l.map u32v)) (hk0 : -9223372036854775808 ≤ k0 ∧ k0 ≤ 9223372036854775807) :
    Calls Try.prog 4 #[.slice A l.length c, .int .i64 k0] w (Gave (.bool true) w) := by
  have hm' := hm
  unfold maxLen at hm
  have ek := i64_low16 k0
  have bk : 0 ≤ k0 % 65536 ∧ k0 % 65536 < 65536 := by omega
  generalize k0 % 65536 = k at ek bk
  obtain ⟨kk, rfl⟩ := Int.eq_ofNat_of_zero_le bk.1
  go_enter Try.func4, Try.ntmps4
  go_wp2_with fail
  refine (awake_any w).mono ?_
  rintro e w1 ⟨rfl, k1⟩
  by_cases h2 : 11 < l.length
  · go_wp2
    go_ret
    exact ⟨rfl, k1⟩
  · have h11 : l.length ≤ 11 := by omega
    clear h2
    have hr1 := hr.keep k1
    go_wp2_with fail
    go_loopw [6, 7] (fun v i wr => ∃ m : Nat, m ≤ l.length ∧ i = .int .i64 ((m : Int) - 1) ∧ wr.ownsRow w1.heap.size 24 1 v (l.length - m) ((l.drop m).reverse.map u32v) ∧ Keep w1 wr) (fun _ i _ => (intOf i + 1).toNat)
    case atStart => exact ⟨l.length, Nat.le_refl _, by go_num, by simpa using World.ownsRow_nil _ _ _ _, Below.refl _ _⟩
    case round =>
      obtain ⟨m, hml, rfl, hown, hkr⟩ := hrel
      have hz := hkr.size
      match m, hml, hown with
      | j + 1, hml, hown =>
        obtain ⟨b, off, rfl, hb, F⟩ := hr1.at (k := j) (by simp; omega)
        have r0 := keep_cell hkr (F j (by simp; omega))
        have hts := drop_rev l j (by omega)
        simp only [List.getElem_map] at r0
        generalize l[j] = x at r0 hts
        have Hts := Lib.hid hts
        obtain ⟨Av, cv, rfl, hcv, hmv, _⟩ := own_form hown
        have Hown := Lib.hid hown
        clear F hts hown
        go_wp2_with (at_builtin; refine wpList_app wordT (by rfl) _ _ (by rfl) w1.heap.size _ (l.length - (j + 1)) _ (by rfl) (Hown.out.alloc _) _ 1 1 [u32v x] (by rfl) (by rfl) (Rd.new _ _ _) (by simp [Value.oneCell']) (by omega) (by unfold maxLen; omega) (by simp; omega) ?_; intro v2 w2 own2 hg2 hat2; have k2 := keep_grown (keep_trans hkr (keep_new _ _)) (by simp; omega) hg2 (Hown.out.alloc _); obtain ⟨A2, c2, rfl, hc2, hm2, hrd2⟩ := own_form own2; have Own2 := Lib.hid own2; clear own2 hrd2)
        go_roundw
        case rel =>
          refine ⟨j, by omega, by go_num, ?_, k2⟩
          rw [Hts.out, List.map_append]
          have h := Own2.out
          rw [show l.length - (j + 1) + 1 = l.length - j by omega] at h ⊢
          exact h
        case measure => simp [intOf]
      | 0, hml, hown =>
        rw [List.drop_zero, Nat.sub_zero] at hown
        have hpb := List.reverse_perm l
        have hlb := List.length_reverse («as» := l)
        generalize l.reverse = back at *
        obtain ⟨Ab, cb, rfl, hcb, hmb, hrb⟩ := own_form hown
        have Hpb := Lib.hid hpb; have Hrb := Lib.hid hrb
        clear hlb
        have hlb : back.length = l.length := Hpb.out.length_eq
        have hz := hkr.size
        have hrr := hr1.keep hkr
        by_cases h0 : l.length = 0
        · have hpo : (l.drop 0 ++ l.take 0).Perm l := by simp
          have hnil : ∀ W : World, Rd W A ((l.drop 0).map u32v) := fun W => by have e := List.eq_nil_of_length_eq_zero h0; subst e; exact Rd.nil _ _
          have hnil' : ∀ W : World, Rd W A ((l.take 0).map u32v) := fun W => Rd.nil _ _
          go_upto_region 13 with (at_builtin; refine wpList_app wordT (by rfl) _ _ (by rfl) wr.heap.size _ 0 [] (by rfl) (own_zero _ _ _) _ 0 _ ((l.drop 0).map u32v) (by rfl) (by rw [List.length_map, List.length_drop]; omega) (hnil _) (one_words _) (by omega) (by unfold maxLen; omega) (by simp) ?_; intro v2 w2 own2 hg2 hat2; rw [List.nil_append, Nat.zero_add] at own2; have k2 := keep_grown (keep_new _ _) (by simp) hg2 (own_zero _ _ 1); obtain ⟨A2, c2, rfl, hc2, hm2, hrd2⟩ := own_form own2; have Own2 := Lib.hid own2; clear own2 hrd2 hg2 hat2)
          go_wp2_with (at_builtin; refine wpList_app wordT (by rfl) _ _ (by rfl) wr.heap.size _ 0 _ (by rfl) Own2.out _ 0 _ ((l.take 0).map u32v) (by rfl) (by rw [List.length_map, List.length_take]; omega) (hnil' _) (one_words _) (by omega) (by unfold maxLen; omega) (by have := k2.size; omega) ?_; intro v3 w3 own3 hg3 hat3; have k3 := keep_grown k2 (by have := k2.size; omega) hg3 Own2.out)
          obtain rfl := List.eq_nil_of_length_eq_zero h0
          have own3 : w3.ownsRow wr.heap.size 24 1 v3 ([] : List UInt32).length _ := own3
          obtain ⟨Ao, co, rfl, hco, hmo, hro⟩ := own_form own3
          have hol : (([] : List UInt32).drop 0 ++ ([] : List UInt32).take 0).length = ([] : List UInt32).length := hpo.length_eq
          rw [← List.map_append] at hro
          generalize hother : ([] : List UInt32).drop 0 ++ ([] : List UInt32).take 0 = other at *
          clear hother own3
          have Hro := Lib.hid hro; have Hk := Lib.hid k3
          clear hro
          have M1 : ∀ w', Keep w3 w' → Calls Try.prog 9 #[.slice Ab ([] : List UInt32).length cb] w' (Gave (u32v (medL ([] : List UInt32))) w') := fun w' h => by
            have h := median_any Ab back cb w' (by omega) hmb ((Hrb.out.keep k3).keep h)
            rwa [hlb, perm_med Hpb.out h11] at h
          have M2 : ∀ w', Keep w3 w' → Calls Try.prog 9 #[.slice A ([] : List UInt32).length c] w' (Gave (u32v (medL ([] : List UInt32))) w') := fun w' h => median_any _ ([] : List UInt32) c w' hc hm' (hr.keep (keep_trans k1 (keep_trans hkr (keep_trans k3 h))))
          have M3 : ∀ w', Keep w3 w' → Calls Try.prog 9 #[.slice Ao ([] : List UInt32).length co] w' (Gave (u32v (medL ([] : List UInt32))) w') := fun w' h => by
            have h := median_any Ao other co w' (by omega) hmo (Hro.out.keep h)
            rwa [hol, perm_med hpo h11] at h
          have L1 : ∀ w', Keep w3 w' → Calls Try.prog 10 #[.slice Ab ([] : List UInt32).length cb] w' (Lasted (w'.heap.size + 1) (lastL ([] : List UInt32)) w') := fun w' h => by
            have h := last_any Ab back cb w' (by omega) hmb ((Hrb.out.keep k3).keep h)
            rwa [hlb, perm_last Hpb.out h11] at h
          have L2 : ∀ w', Keep w3 w' → Calls Try.prog 10 #[.slice A ([] : List UInt32).length c] w' (Lasted (w'.heap.size + 1) (lastL ([] : List UInt32)) w') := fun w' h => last_any _ ([] : List UInt32) c w' hc hm' (hr.keep (keep_trans k1 (keep_trans hkr (keep_trans k3 h))))
          have HM1 := Lib.hid M1; have HM2 := Lib.hid M2; have HM3 := Lib.hid M3; have HL1 := Lib.hid L1; have HL2 := Lib.hid L2
          clear M1 M2 M3 L1 L2 hr hr1
          generalize medL ([] : List UInt32) = md at *
          generalize lastL ([] : List UInt32) = ls at *
          refine (HM1.out w3 (Below.refl _ _)).mono ?_
          rintro e u1 ⟨rfl, j1⟩
          go_wp2_with fail
          refine (HM2.out u1 j1).mono ?_
          rintro e u2 ⟨rfl, j2'⟩
          have j2 := keep_trans j1 j2'
          go_wp2_with fail
          refine (HM3.out u2 j2).mono ?_
          rintro e u3 ⟨rfl, j3'⟩
          have j3 := keep_trans j2 j3'
          go_wp2_with fail
          refine (HM2.out u3 j3).mono ?_
          rintro e u4 ⟨rfl, j4'⟩
          have j4 := keep_trans j3 j4'
          go_wp2_with fail
          refine (HL1.out u4 j4).mono ?_
          rintro e u5 ⟨v5, rfl, own5, j5'⟩
          have j5 := keep_trans j4 j5'
          obtain ⟨A5, c5, rfl, hc5, hm5, hr5⟩ := own_form own5
          go_wp2_with fail
          refine (HL2.out u5 j5).mono ?_
          rintro e u6 ⟨v6, rfl, own6, j6'⟩
          have j6 := keep_trans j5 j6'
          obtain ⟨A6, c6, rfl, hc6, hm6, hr6⟩ := own_form own6
          go_wp2_with fail
          refine (same_any A5 A6 ls ls c5 c6 u6 hc5 hm5 (hr5.keep j6') hc6 hm6 hr6).mono ?_
          rw [decide_eq_true rfl]
          rintro e u7 ⟨rfl, j7⟩
          clear own5 own6 hr5 hr6
          go_wp2
          go_ret
          exact ⟨rfl, keep_trans k1 (keep_trans hkr (keep_trans k3 (keep_trans j6 j7)))⟩
        · obtain ⟨q, hq⟩ : ∃ q, q = kk % l.length := ⟨_, rfl⟩
          have hql : q < l.length := by rw [hq]; exact Nat.mod_lt _ (by omega)
          have hpo : (l.drop q ++ l.take q).Perm l := List.perm_append_comm.trans (by rw [List.take_append_drop])
          obtain ⟨b, off, rfl, hb, F⟩ := hr.at (k := 0) (by simp; omega)
          have hq2 : (kk : Int) % (l.length : Int) = (q : Int) := by rw [hq]; simp
          have hd : Rd wr (some ⟨b, off + q, none⟩) ((l.drop q).map u32v) := by
            have h := hrr.dropN (k := q) (by simp; omega)
            rwa [← List.map_drop, Option.map_some, add_lit0] at h
          have ht : Rd wr (some ⟨b, off, none⟩) ((l.take q).map u32v) := by
            have h := hrr.take q
            rwa [← List.map_take] at h
          clear F hq
          go_upto_region 13 with (at_builtin; refine wpList_app wordT (by rfl) _ _ (by rfl) wr.heap.size _ 0 [] (by rfl) (own_zero _ _ _) _ (l.length - q) _ ((l.drop q).map u32v) (by rfl) (by rw [List.length_map, List.length_drop]; omega) (hd.alloc _) (one_words _) (by omega) (by unfold maxLen; omega) (by simp) ?_; intro v2 w2 own2 hg2 hat2; rw [List.nil_append, Nat.zero_add] at own2; have k2 := keep_grown (keep_new _ _) (by simp) hg2 (own_zero _ _ 1); obtain ⟨A2, c2, rfl, hc2, hm2, hrd2⟩ := own_form own2; have Own2 := Lib.hid own2; clear own2 hrd2 hg2 hat2)
          go_wp2_with (at_builtin; refine wpList_app wordT (by rfl) _ _ (by rfl) wr.heap.size _ (l.length - q) _ (by rfl) Own2.out _ q _ ((l.take q).map u32v) (by rfl) (by rw [List.length_map, List.length_take]; omega) (ht.keep k2) (one_words _) (by omega) (by unfold maxLen; omega) (by have := k2.size; omega) ?_; intro v3 w3 own3 hg3 hat3; have k3 := keep_grown k2 (by have := k2.size; omega) hg3 Own2.out)
          rw [show l.length - q + q = l.length by omega] at own3
          obtain ⟨Ao, co, rfl, hco, hmo, hro⟩ := own_form own3
          have hol : (l.drop q ++ l.take q).length = l.length := hpo.length_eq
          rw [← List.map_append] at hro
          generalize hother : l.drop q ++ l.take q = other at *
          clear hother own3
          have Hro := Lib.hid hro; have Hk := Lib.hid k3
          clear hro
          have M1 : ∀ w', Keep w3 w' → Calls Try.prog 9 #[.slice Ab l.length cb] w' (Gave (u32v (medL l)) w') := fun w' h => by
            have h := median_any Ab back cb w' (by omega) hmb ((Hrb.out.keep k3).keep h)
            rwa [hlb, perm_med Hpb.out h11] at h
          have M2 : ∀ w', Keep w3 w' → Calls Try.prog 9 #[.slice (some ⟨b, off, none⟩) l.length c] w' (Gave (u32v (medL l)) w') := fun w' h => median_any _ l c w' hc hm' (hr.keep (keep_trans k1 (keep_trans hkr (keep_trans k3 h))))
          have M3 : ∀ w', Keep w3 w' → Calls Try.prog 9 #[.slice Ao l.length co] w' (Gave (u32v (medL l)) w') := fun w' h => by
            have h := median_any Ao other co w' (by omega) hmo (Hro.out.keep h)
            rwa [hol, perm_med hpo h11] at h
          have L1 : ∀ w', Keep w3 w' → Calls Try.prog 10 #[.slice Ab l.length cb] w' (Lasted (w'.heap.size + 1) (lastL l) w') := fun w' h => by
            have h := last_any Ab back cb w' (by omega) hmb ((Hrb.out.keep k3).keep h)
            rwa [hlb, perm_last Hpb.out h11] at h
          have L2 : ∀ w', Keep w3 w' → Calls Try.prog 10 #[.slice (some ⟨b, off, none⟩) l.length c] w' (Lasted (w'.heap.size + 1) (lastL l) w') := fun w' h => last_any _ l c w' hc hm' (hr.keep (keep_trans k1 (keep_trans hkr (keep_trans k3 h))))
          have HM1 := Lib.hid M1; have HM2 := Lib.hid M2; have HM3 := Lib.hid M3; have HL1 := Lib.hid L1; have HL2 := Lib.hid L2
          clear M1 M2 M3 L1 L2 hr hr1
          generalize medL l = md at *
          generalize lastL l = ls at *
          refine (HM1.out w3 (Below.refl _ _)).mono ?_
          rintro e u1 ⟨rfl, j1⟩
          go_wp2_with fail
          refine (HM2.out u1 j1).mono ?_
          rintro e u2 ⟨rfl, j2'⟩
          have j2 := keep_trans j1 j2'
          go_wp2_with fail
          refine (HM3.out u2 j2).mono ?_
          rintro e u3 ⟨rfl, j3'⟩
          have j3 := keep_trans j2 j3'
          go_wp2_with fail
          refine (HM2.out u3 j3).mono ?_
          rintro e u4 ⟨rfl, j4'⟩
          have j4 := keep_trans j3 j4'
          go_wp2_with fail
          refine (HL1.out u4 j4).mono ?_
          rintro e u5 ⟨v5, rfl, own5, j5'⟩
          have j5 := keep_trans j4 j5'
          obtain ⟨A5, c5, rfl, hc5, hm5, hr5⟩ := own_form own5
          go_wp2_with fail
          refine (HL2.out u5 j5).mono ?_
          rintro e u6 ⟨v6, rfl, own6, j6'⟩
          have j6 := keep_trans j5 j6'
          obtain ⟨A6, c6, rfl, hc6, hm6, hr6⟩ := own_form own6
          go_wp2_with fail
          refine (same_any A5 A6 ls ls c5 c6 u6 hc5 hm5 (hr5.keep j6') hc6 hm6 hr6).mono ?_
          rw [decide_eq_true rfl]
          rintro e u7 ⟨rfl, j7⟩
          clear own5 own6 hr5 hr6
          go_wp2
          go_ret
          exact ⟨rfl, keep_trans k1 (keep_trans hkr (keep_trans k3 (keep_trans j6 j7)))⟩
end Go.Proofs.Ytbkapapffnmebaa
