/- The document's answers for times: florinref14's Last, Median, Check. -/
import Derived.Test.YtbkapapffnmebaaClkH
set_option linter.unusedSimpArgs false
set_option linter.unusedVariables false
namespace Go.Proofs.Ytbkapapffnmebaa
open Go.RowKit
attribute [local go_sem ↓] Go.wp_at_zero Go.wp_at_succ

/-- The place behind all that are not above. -/
def ub (xs : List UInt32) (t : UInt32) : Nat := (xs.takeWhile fun x => decide (x.toNat ≤ t.toNat)).length
theorem ub_le (xs : List UInt32) (t : UInt32) : ub xs t ≤ xs.length := (List.takeWhile_prefix _).length_le
theorem ub_stop {xs : List UInt32} {t : UInt32} {k : Nat} (hk : k ≤ xs.length) (h1 : ∀ j (h : j < k), (xs[j]'(by omega)).toNat ≤ t.toNat) (h2 : ∀ h : k < xs.length, ¬ xs[k].toNat ≤ t.toNat) : k = ub xs t := by
  unfold ub
  induction xs generalizing k with
  | nil => simpa using hk
  | cons x xs ih =>
    cases k with
    | zero =>
      have := h2 (by simp)
      simp only [List.getElem_cons_zero] at this
      rw [List.takeWhile_cons_of_neg (by simpa using this)]; rfl
    | succ k =>
      have := h1 0 (by omega)
      simp only [List.getElem_cons_zero] at this
      rw [List.takeWhile_cons_of_pos (by simpa using this), List.length_cons, ← ih (k := k) (by simpa using hk) (fun j h => by simpa using h1 (j + 1) (by omega)) (fun h => by have h3 := h2 (by simpa using h); simpa only [List.getElem_cons_succ] using h3)]
theorem ub_insert {xs : List UInt32} (t : UInt32) (h : xs.Pairwise le32) : xs.take (ub xs t) ++ t :: xs.drop (ub xs t) = insAt xs t := by
  refine sorted_unique ?_ (insAt_sorted t h) ((show (xs.take (ub xs t) ++ t :: xs.drop (ub xs t)).Perm (t :: xs) by
    have := List.perm_middle (a := t) (l₁ := xs.take (ub xs t)) (l₂ := xs.drop (ub xs t)); rwa [List.take_append_drop] at this).trans (insAt_perm xs t).symm)
  have e1 : xs.take (ub xs t) = xs.takeWhile fun x => decide (x.toNat ≤ t.toNat) := by
    unfold ub; exact ((List.prefix_iff_eq_take.1 (List.takeWhile_prefix _)).symm)
  have e2 : xs.drop (ub xs t) = xs.dropWhile fun x => decide (x.toNat ≤ t.toNat) := by
    have := List.takeWhile_append_dropWhile (p := fun x : UInt32 => decide (x.toNat ≤ t.toNat)) (l := xs)
    have h3 := List.take_append_drop (ub xs t) xs
    rw [e1] at h3
    exact List.append_cancel_left (h3.trans this.symm)
  have h1 : ∀ y ∈ xs.take (ub xs t), y.toNat ≤ t.toNat := fun y hy => by
    rw [e1] at hy; simpa using List.all_eq_true.1 List.all_takeWhile y hy
  have h2 : ∀ y ∈ xs.drop (ub xs t), t.toNat ≤ y.toNat := fun y hy => by
    have hp : (xs.drop (ub xs t)).Pairwise le32 := h.sublist (List.drop_sublist _ _)
    rw [e2] at hy hp
    have hh := List.head?_dropWhile_not (fun x : UInt32 => decide (x.toNat ≤ t.toNat)) xs
    cases hd : xs.dropWhile fun x => decide (x.toNat ≤ t.toNat) with
    | nil => rw [hd] at hy; cases hy
    | cons z zs =>
      rw [hd] at hy hh hp
      simp at hh
      rw [List.pairwise_cons] at hp
      rcases List.mem_cons.1 hy with rfl | hy
      · omega
      · have := hp.1 y hy; unfold le32 at this; omega
  rw [List.pairwise_append, List.pairwise_cons]
  refine ⟨h.sublist (List.take_sublist _ _), ⟨fun y hy => h2 y hy, h.sublist (List.drop_sublist _ _)⟩, fun a ha b hb => ?_⟩
  have ha1 := h1 a ha
  rcases List.mem_cons.1 hb with rfl | hb
  · exact ha1
  · have := h2 b hb; show _ ≤ _; omega

theorem own_low {w : World} {base base' : Nat} {e : TypeId} {size : Nat} {v : Value} {n : Nat} {xs : List Value} (h : w.ownsRow base e size v n xs) (hb : base' ≤ base) : w.ownsRow base' e size v n xs :=
  ⟨h.1, h.2.imp id fun ⟨g, cap, cur, hv, hg, r⟩ => ⟨g, cap, cur, hv, Nat.le_trans hb hg, r⟩⟩

theorem own_sl {w : World} {base : Nat} {e : TypeId} {size : Nat} {A : Option Addr} {a a' c n : Nat} {xs : List Value} (h : w.ownsRow base e size (.slice A a c) n xs) (ha : a = a') : w.ownsRow base e size (.slice A a' c) n xs := ha ▸ h

set_option maxRecDepth 100000 in
set_option maxHeartbeats 4000000 in
theorem rlast_any (A : Option Addr) (l : List UInt32) (c : Nat) (w : World) (hc : l.length ≤ c) (hm : c ≤ maxLen) (hr : Rd w A (l.map u32v)) :
    Calls Try.prog 13 #[.slice A l.length c] w (Lasted w.heap.size (lastL l) w) := by
  unfold maxLen at hm
  obtain ⟨s, hs⟩ : ∃ s, s = l.length - 11 := ⟨_, rfl⟩
  obtain ⟨d, hdd⟩ : ∃ d, d = l.drop s := ⟨_, rfl⟩
  have hdl : d.length = l.length - s := by rw [hdd]; simp
  have Hd := Lib.hid (show lastL l = sortL d by unfold lastL; rw [hdd, hs])
  have HsD : Hid (∀ k (h : k < d.length) (h2 : s + k < l.length), l[s + k] = d[k]) := Lib.hid (fun k h h2 => by subst hdd; rw [List.getElem_drop])
  have Hdl := Lib.hid hdl; have Hs := Lib.hid hs
  have b1 : d.length ≤ 11 := by omega
  have Hr := Lib.hid hr
  clear hdl hdd hr
  go_enter Try.func13, Try.ntmps13
  go_upto_region 1 with fail
  go_cut [3] (fun v wx => v = .int .i64 s ∧ wx = w)
  case first =>
    by_cases h : 11 ≤ l.length
    · have e : (s : Int) = l.length - 11 := by omega
      clear hs
      go_wp2_with fail
      all_goals go_meet
      all_goals exact ⟨by first | (rw [e]; done) | (congr 1; omega), rfl⟩
    · have e : s = 0 := by omega
      clear hs
      go_wp2_with fail
      all_goals go_meet
      all_goals exact ⟨by first | (congr 1; omega), rfl⟩
  case rest =>
    obtain ⟨rfl, rfl⟩ := hcut
    clear hs
    go_wp2
    go_loopw [4, 5] (fun v i wr => ∃ (k : Nat), k ≤ d.length ∧ i = .int .i64 ((s + k : Nat) : Int) ∧ wr.ownsRow wc.heap.size 24 1 v k ((sortL (d.take k)).map u32v) ∧ Keep wc wr) (fun _ i _ => l.length - (intOf i).toNat)
    case atStart => exact ⟨0, Nat.zero_le _, rfl, World.ownsRow_nil _ _ _ _, Below.refl _ _⟩
    case round =>
      obtain ⟨k, hk, rfl, hown, hkr⟩ := hrel
      have hz := hkr.size
      have hlen : (sortL (d.take k)).length = k := by rw [sortL_len, List.length_take]; omega
      have hsl := Hdl.out
      by_cases hlt : k < d.length
      · have hsk : s + k < l.length := by omega
        obtain ⟨b, off, rfl, hb, F⟩ := Hr.out.at (k := s + k) (by simpa using hsk)
        have r0 := keep_cell hkr (F (s + k) (by simpa using hsk))
        have hts := fold_take d k hlt
        simp only [List.getElem_map] at r0
        rw [HsD.out k hlt hsk] at r0
        generalize d[k] = x at r0 hts
        have hsrt := sortL_sorted (d.take k)
        generalize sortL (d.take k) = ys at *
        subst hlen
        have hxs := ub_insert x hsrt
        have hub := ub_le ys x
        rw [← hts] at hxs
        have Hxs := Lib.hid hxs; have Hown := Lib.hid hown; have Hts := Lib.hid hts
        obtain ⟨Av, cv, rfl, hcv, hmv, hrv⟩ := own_form hown
        clear F hts hxs hown hsl
        go_wp2
        obtain ⟨wo, rfl⟩ : ∃ wo : World, wo = wr := ⟨_, rfl⟩
        go_loopw [6] (fun j wr => ∃ q : Nat, q ≤ ys.length ∧ j = .int .i64 q ∧ (∀ i (h : i < ys.length), i < q → ys[i].toNat ≤ x.toNat) ∧ Keep wo wr) (fun j _ => ys.length - (intOf j).toNat)
        case atStart => exact ⟨0, Nat.zero_le _, rfl, fun i h h2 => absurd h2 (by omega), Below.refl _ _⟩
        case round =>
          obtain ⟨q, hq, rfl, hall, hkq⟩ := hrel
          have r0' := keep_cell hkq r0
          have Hall := Lib.hid hall; clear hall
          by_cases hq2 : q < ys.length
          · obtain ⟨b2, off2, rfl, hb2, F2⟩ := hrv.at (k := q) (by simpa using hq2)
            have r1 := keep_cell hkq (F2 q (by simpa using hq2))
            simp only [List.getElem_map] at r1
            have hy : ys[q] = ys[q] := rfl
            have Hy := Lib.hid (fun (h : ys[q].toNat ≤ x.toNat) i (hi : i < ys.length) (h2 : i < q + 1) => show ys[i].toNat ≤ x.toNat by
              by_cases e : i = q
              · subst e; exact h
              · exact Hall.out i hi (by omega))
            have Hz := Lib.hid (fun (h : ¬ ys[q].toNat ≤ x.toNat) => ub_stop hq (fun j hj => Hall.out j (by omega) hj) (fun _ => h))
            generalize ys[q] = y at r1 Hy Hz
            have a0 := aft_cell r0'; have a1 := aft_cell r1
            clear F2 hy
            by_cases hc : y.toNat ≤ x.toNat
            · have HH := Lib.hid (Hy.out hc)
              go_wp2_with fail
              refine wp_region_aft (by kernel_rfl) (by kernel_rfl) wr (Below.refl _ _) ?_
              repeat (go_big_quiet_step (fail))
              refine wpQuiet_nil ?_
              rintro _ ⟨y, rfl⟩
              have hk2 := aft_keep wr y
              generalize aft wr y = w2 at hk2 ⊢
              clear a0 a1
              go_wp2
              go_roundw
              case rel => exact ⟨q + 1, by omega, by go_num, HH.out, keep_trans hkq hk2⟩
              case measure => simp [intOf]; omega
            · have HH := Lib.hid (Hz.out hc)
              go_wp2_with fail
              refine wp_region_aft (by kernel_rfl) (by kernel_rfl) wr (Below.refl _ _) ?_
              repeat (go_big_quiet_step (fail))
              refine wpQuiet_nil ?_
              rintro _ ⟨y, rfl⟩
              have hk2 := aft_keep wr y
              generalize aft wr y = w2 at hk2 ⊢
              clear a0 a1
              have kx := keep_trans hkq hk2
              have hX := Hxs.out
              rw [← HH.out] at hX
              have HX := Lib.hid hX
              have xo := keep_cell kx r0
              have hrx := hrv.keep kx
              clear hX
              by_cases p0 : q = 0
              · subst p0
                go_upto_region 10 with (at_builtin; refine wpList_app wordT (by rfl) _ _ (by rfl) _ _ 0 [] (by rfl) (own_zero _ _ _) _ 0 _ ((ys.take (0)).map u32v) (by rfl) (by rw [List.length_map, List.length_take]; omega) (Rd.nil _ _) (one_words _) (by omega) (by unfold maxLen; omega) (by simp) ?_; intro v3 w3 own3 hg3 hat3; rw [List.nil_append, Nat.zero_add] at own3; have k3 := keep_grown (keep_new _ _) (by simp) hg3 (own_zero _ _ 1); obtain ⟨A3, c3, rfl, hc3, hm3, hrd3⟩ := own_form own3; have Own3 := Lib.hid own3; have x3 := keep_cell k3 xo; have z3 := k3.size; clear own3 hrd3 hg3 hat3)
                go_upto_region 11 with (at_builtin; refine wpList_app wordT (by rfl) _ _ (by rfl) _ _ (0) _ (by rfl) (Own3.out.alloc _) _ 1 1 [u32v x] (by rfl) (by rfl) (Rd.new _ _ _) (by simp [Value.oneCell']) (by omega) (by unfold maxLen; omega) (by simp; omega) ?_; intro v4 w4 own4 hg4 hat4; have k4 := keep_grown (keep_trans k3 (keep_new _ _)) (by simp; omega) hg4 (Own3.out.alloc _); obtain ⟨A4, c4, rfl, hc4, hm4, hrd4⟩ := own_form own4; have Own4 := Lib.hid own4; have z4 := k4.size; clear own4 hrd4 hg4 hat4)
                go_wp2_with (at_builtin; refine wpList_app wordT (by rfl) _ _ (by rfl) _ _ (0 + 1) _ (by rfl) Own4.out _ (ys.length) _ ((ys.drop (0)).map u32v) (by rfl) (by rw [List.length_map, List.length_drop]; omega) (by rw [List.drop_zero]; exact hrx.keep k4) (one_words _) (by omega) (by unfold maxLen; omega) (by omega) ?_; intro v5 w5 own5 hg5 hat5; have k5 := keep_grown k4 (by omega) hg5 Own4.out; obtain ⟨A5, c5, rfl, hc5, hm5, hrd5⟩ := own_form own5; have Own5 := Lib.hid own5; clear own5 hrd5 hg5 hat5)
                go_roundw
                case rel =>
                  refine ⟨ys.length + 1, by omega, by go_num, ?_, keep_trans hkr (keep_trans kx k5)⟩
                  have h := own_low Own5.out (base' := wc.heap.size) (by have := kx.size; omega)
                  exact own_sl (own_eq h (by omega) (by rw [← HX.out]; simp)) (by omega)
                case measure => simp [intOf]; omega
              · go_upto_region 10 with (at_builtin; refine wpList_app wordT (by rfl) _ _ (by rfl) _ _ 0 [] (by rfl) (own_zero _ _ _) _ q _ ((ys.take (q)).map u32v) (by rfl) (by rw [List.length_map, List.length_take]; omega) (by rw [List.map_take]; exact (hrx.take q).alloc _) (one_words _) (by omega) (by unfold maxLen; omega) (by simp) ?_; intro v3 w3 own3 hg3 hat3; rw [List.nil_append, Nat.zero_add] at own3; have k3 := keep_grown (keep_new _ _) (by simp) hg3 (own_zero _ _ 1); obtain ⟨A3, c3, rfl, hc3, hm3, hrd3⟩ := own_form own3; have Own3 := Lib.hid own3; have x3 := keep_cell k3 xo; have z3 := k3.size; clear own3 hrd3 hg3 hat3)
                go_upto_region 11 with (at_builtin; refine wpList_app wordT (by rfl) _ _ (by rfl) _ _ (q) _ (by rfl) (Own3.out.alloc _) _ 1 1 [u32v x] (by rfl) (by rfl) (Rd.new _ _ _) (by simp [Value.oneCell']) (by omega) (by unfold maxLen; omega) (by simp; omega) ?_; intro v4 w4 own4 hg4 hat4; have k4 := keep_grown (keep_trans k3 (keep_new _ _)) (by simp; omega) hg4 (Own3.out.alloc _); obtain ⟨A4, c4, rfl, hc4, hm4, hrd4⟩ := own_form own4; have Own4 := Lib.hid own4; have z4 := k4.size; clear own4 hrd4 hg4 hat4)
                go_wp2_with (at_builtin; refine wpList_app wordT (by rfl) _ _ (by rfl) _ _ (q + 1) _ (by rfl) Own4.out _ (ys.length - q) _ ((ys.drop (q)).map u32v) (by rfl) (by rw [List.length_map, List.length_drop]; omega) (by have h := (hrx.keep k4).dropN (k := q) (by simp; omega); rwa [← List.map_drop, Option.map_some, add_lit0] at h) (one_words _) (by omega) (by unfold maxLen; omega) (by omega) ?_; intro v5 w5 own5 hg5 hat5; have k5 := keep_grown k4 (by omega) hg5 Own4.out; obtain ⟨A5, c5, rfl, hc5, hm5, hrd5⟩ := own_form own5; have Own5 := Lib.hid own5; clear own5 hrd5 hg5 hat5)
                go_roundw
                case rel =>
                  refine ⟨ys.length + 1, by omega, by go_num, ?_, keep_trans hkr (keep_trans kx k5)⟩
                  have h := own_low Own5.out (base' := wc.heap.size) (by have := kx.size; omega)
                  exact own_sl (own_eq h (by omega) (by rw [← HX.out]; simp)) (by omega)
                case measure => simp [intOf]; omega
          · obtain rfl : ys.length = q := by omega
            have HH := Lib.hid (ub_stop (Nat.le_refl _) (fun j hj => Hall.out j (by omega) hj) (fun h => absurd h (Nat.lt_irrefl _)))
            have a0 := aft_cell r0'
            go_wp2_with fail
            refine wp_region_aft (by kernel_rfl) (by kernel_rfl) wr (Below.refl _ _) ?_
            repeat (go_big_quiet_step (fail))
            refine wpQuiet_nil ?_
            rintro _ ⟨y, rfl⟩
            have hk2 := aft_keep wr y
            generalize aft wr y = w2 at hk2 ⊢
            clear a0
            have kx := keep_trans hkq hk2
            have hX := Hxs.out
            rw [← HH.out] at hX
            have HX := Lib.hid hX
            have xo := keep_cell kx r0
            have hrx := hrv.keep kx
            clear hX
            by_cases p0 : ys.length = 0
            · rw [p0, Nat.add_zero] at xo
              go_upto_region 10 with (at_builtin; refine wpList_app wordT (by rfl) _ _ (by rfl) _ _ 0 [] (by rfl) (own_zero _ _ _) _ 0 _ ((ys.take (0)).map u32v) (by rfl) (by rw [List.length_map, List.length_take]; omega) (Rd.nil _ _) (one_words _) (by omega) (by unfold maxLen; omega) (by simp) ?_; intro v3 w3 own3 hg3 hat3; rw [List.nil_append, Nat.zero_add] at own3; have k3 := keep_grown (keep_new _ _) (by simp) hg3 (own_zero _ _ 1); obtain ⟨A3, c3, rfl, hc3, hm3, hrd3⟩ := own_form own3; have Own3 := Lib.hid own3; have x3 := keep_cell k3 xo; have z3 := k3.size; clear own3 hrd3 hg3 hat3)
              go_upto_region 11 with (at_builtin; refine wpList_app wordT (by rfl) _ _ (by rfl) _ _ (0) _ (by rfl) (Own3.out.alloc _) _ 1 1 [u32v x] (by rfl) (by rfl) (Rd.new _ _ _) (by simp [Value.oneCell']) (by omega) (by unfold maxLen; omega) (by simp; omega) ?_; intro v4 w4 own4 hg4 hat4; have k4 := keep_grown (keep_trans k3 (keep_new _ _)) (by simp; omega) hg4 (Own3.out.alloc _); obtain ⟨A4, c4, rfl, hc4, hm4, hrd4⟩ := own_form own4; have Own4 := Lib.hid own4; have z4 := k4.size; clear own4 hrd4 hg4 hat4)
              go_wp2_with (at_builtin; refine wpList_app wordT (by rfl) _ _ (by rfl) _ _ (0 + 1) _ (by rfl) Own4.out _ (0) _ ((ys.drop (0)).map u32v) (by rfl) (by rw [List.length_map, List.length_drop]; omega) (by have e := List.eq_nil_of_length_eq_zero p0; rw [e]; exact Rd.nil _ _) (one_words _) (by omega) (by unfold maxLen; omega) (by omega) ?_; intro v5 w5 own5 hg5 hat5; have k5 := keep_grown k4 (by omega) hg5 Own4.out; obtain ⟨A5, c5, rfl, hc5, hm5, hrd5⟩ := own_form own5; have Own5 := Lib.hid own5; clear own5 hrd5 hg5 hat5)
              go_roundw
              case rel =>
                refine ⟨ys.length + 1, by omega, by go_num, ?_, keep_trans hkr (keep_trans kx k5)⟩
                have h := own_low Own5.out (base' := wc.heap.size) (by have := kx.size; omega)
                exact own_sl (own_eq h (by omega) (by have e := List.eq_nil_of_length_eq_zero p0; rw [← HX.out, e]; simp)) (by omega)
              case measure => simp [intOf]; omega
            · obtain ⟨b2, off2, rfl, hb2, F2⟩ := hrv.at (k := 0) (by simp; omega)
              clear F2
              go_upto_region 10 with (at_builtin; refine wpList_app wordT (by rfl) _ _ (by rfl) _ _ 0 [] (by rfl) (own_zero _ _ _) _ ys.length _ ((ys.take (ys.length)).map u32v) (by rfl) (by rw [List.length_map, List.length_take]; omega) (by rw [List.take_length]; exact hrx.alloc _) (one_words _) (by omega) (by unfold maxLen; omega) (by simp) ?_; intro v3 w3 own3 hg3 hat3; rw [List.nil_append, Nat.zero_add] at own3; have k3 := keep_grown (keep_new _ _) (by simp) hg3 (own_zero _ _ 1); obtain ⟨A3, c3, rfl, hc3, hm3, hrd3⟩ := own_form own3; have Own3 := Lib.hid own3; have x3 := keep_cell k3 xo; have z3 := k3.size; clear own3 hrd3 hg3 hat3)
              go_upto_region 11 with (at_builtin; refine wpList_app wordT (by rfl) _ _ (by rfl) _ _ (ys.length) _ (by rfl) (Own3.out.alloc _) _ 1 1 [u32v x] (by rfl) (by rfl) (Rd.new _ _ _) (by simp [Value.oneCell']) (by omega) (by unfold maxLen; omega) (by simp; omega) ?_; intro v4 w4 own4 hg4 hat4; have k4 := keep_grown (keep_trans k3 (keep_new _ _)) (by simp; omega) hg4 (Own3.out.alloc _); obtain ⟨A4, c4, rfl, hc4, hm4, hrd4⟩ := own_form own4; have Own4 := Lib.hid own4; have z4 := k4.size; clear own4 hrd4 hg4 hat4)
              go_wp2_with (at_builtin; refine wpList_app wordT (by rfl) _ _ (by rfl) _ _ (ys.length + 1) _ (by rfl) Own4.out _ (0) _ ((ys.drop (ys.length)).map u32v) (by rfl) (by rw [List.length_map, List.length_drop]; omega) (by rw [List.drop_length]; exact Rd.nil _ _) (one_words _) (by omega) (by unfold maxLen; omega) (by omega) ?_; intro v5 w5 own5 hg5 hat5; have k5 := keep_grown k4 (by omega) hg5 Own4.out; obtain ⟨A5, c5, rfl, hc5, hm5, hrd5⟩ := own_form own5; have Own5 := Lib.hid own5; clear own5 hrd5 hg5 hat5)
              go_roundw
              case rel =>
                refine ⟨ys.length + 1, by omega, by go_num, ?_, keep_trans hkr (keep_trans kx k5)⟩
                have h := own_low Own5.out (base' := wc.heap.size) (by have := kx.size; omega)
                exact own_sl (own_eq h (by omega) (by rw [← HX.out]; simp)) (by omega)
              case measure => simp [intOf]; omega
      · obtain rfl : d.length = k := by omega
        rw [List.take_length] at hown
        obtain ⟨Av, cv, rfl, hcv, hmv, hrv⟩ := own_form hown
        clear hrv
        have Hown := Lib.hid hown; clear hown
        go_wp2
        go_ret
        refine ⟨_, rfl, ?_, hkr⟩
        rw [Hd.out, sortL_len]
        exact Hown.out
end Go.Proofs.Ytbkapapffnmebaa
