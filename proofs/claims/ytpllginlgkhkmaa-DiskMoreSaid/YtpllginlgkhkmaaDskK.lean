import Derived.Test.YtpllginlgkhkmaaDskJ
set_option linter.unusedSimpArgs false
set_option linter.unusedVariables false
namespace Go.Proofs.Ytpllginlgkhkmaa
open Go.RowKit
attribute [local go_sem ↓] Go.wp_at_zero Go.wp_at_succ

theorem splice_get {b d : List UInt8} {o k : Nat} (hk : k < b.length) (ho : o + d.length ≤ b.length) : (splice b o d)[k]? = if o ≤ k ∧ k < o + d.length then d[k - o]? else b[k]? := by
  unfold splice
  by_cases h1 : k < o
  · rw [if_neg (by omega), List.getElem?_append_left (by simp; omega), List.getElem?_take, if_pos h1]
  · by_cases h2 : k < o + d.length
    · rw [if_pos ⟨by omega, h2⟩, List.getElem?_append_right (by simp; omega), List.getElem?_append_left (by simp; omega)]
      congr 1; simp; omega
    · rw [if_neg (by omega), List.getElem?_append_right (by simp; omega), List.getElem?_append_right (by simp; omega), List.getElem?_drop]
      congr 1; simp; omega

theorem crashAt_len (plan : List UInt8) (nb : Nat) : ∀ (ws : List WriteR) (i : Nat) (b : List UInt8), b.length = nb → (∀ x ∈ ws, x.ok nb = true) → (crashAt plan i ws b).length = nb
  | [], i, b, hb, _ => hb
  | x :: ws, i, b, hb, h => by
    refine crashAt_len plan nb ws (i + 1) _ ?_ fun y hy => h y (by simp [hy])
    rw [len_layN _ _ _ (by rw [hb]; exact h x (by simp)), hb]

theorem layN_get {b : List UInt8} {x : WriteR} {n k : Nat} (hx : x.ok b.length = true) (hk : k < b.length) :
    (layN b x n)[k]? = b[k]? ∨ (x.at_ = (k / 32 : Nat) ∧ (layN b x n)[k]? = x.d[k % 32]?) := by
  have ho := of_decide_eq_true hx
  obtain ⟨m, hm⟩ : ∃ m : Nat, x.at_ = m := ⟨x.at_.toNat, by omega⟩
  unfold layN
  rw [hm, Int.toNat_natCast, splice_get hk (by simp; omega)]
  split
  · rename_i h
    right
    have hl : (x.d.take n).length ≤ 32 := by simp; omega
    have e : k / 32 = m := by omega
    refine ⟨by omega, ?_⟩
    rw [List.getElem?_take, if_pos (by have := h.2; simp at this; omega)]
    congr 1; omega
  · exact .inl rfl

theorem crashAt_torn (plan : List UInt8) (nb k : Nat) (hk : k < nb) : ∀ (ws : List WriteR) (i : Nat) (b : List UInt8), b.length = nb → (∀ x ∈ ws, x.ok nb = true) →
    (crashAt plan i ws b)[k]? = b[k]? ∨ ∃ x ∈ ws, x.at_ = (k / 32 : Nat) ∧ (crashAt plan i ws b)[k]? = x.d[k % 32]?
  | [], i, b, hb, _ => .inl rfl
  | x :: ws, i, b, hb, h => by
    have hx := h x (by simp)
    have hl := len_layN b x (planN plan i) (by rw [hb]; exact hx)
    rcases crashAt_torn plan nb k hk ws (i + 1) (layN b x (planN plan i)) (by rw [hl, hb]) (fun y hy => h y (by simp [hy])) with h1 | ⟨y, hy, h1, h2⟩
    · rcases layN_get (n := planN plan i) (by rw [hb]; exact hx) (by rw [hb]; exact hk) with h2 | ⟨h2, h3⟩
      · exact .inl (h1.trans h2)
      · exact .inr ⟨x, by simp, h2, h1.trans h3⟩
    · exact .inr ⟨y, by simp [hy], h1, h2⟩

/-- Is byte k of the crash's bytes one that x put? -/
def tornB (k : Nat) (v : Option UInt8) (x : WriteR) : Bool := decide (x.at_ = (k / 32 : Nat) ∧ x.d[k % 32]? = v)
theorem torn_all {b : List UInt8} {ws : List WriteR} {plan : List UInt8} (h : saneD b.length ws = true) (k : Nat) (hk : k < b.length) :
    ((decide ((crashD b ws plan)[k]? = b[k]?)) || ws.any (tornB k (crashD b ws plan)[k]?)) = true := by
  have h1 := crashAt_torn plan b.length k hk ws 0 b rfl (ok_of_sane h)
  have e : crashD b ws plan = crashAt plan 0 ws b := by unfold crashD tkB tkW; rw [if_pos h, if_pos h]
  rw [e]
  rw [Bool.or_eq_true, List.any_eq_true]
  rcases h1 with h1 | ⟨x, hx, h1, h2⟩
  · exact .inl (decide_eq_true h1)
  · exact .inr ⟨x, hx, decide_eq_true ⟨h1, h2.symm⟩⟩
theorem crash_len {b : List UInt8} {ws : List WriteR} {plan : List UInt8} (h : saneD b.length ws = true) : (crashD b ws plan).length = b.length := by
  have e : crashD b ws plan = crashAt plan 0 ws b := by unfold crashD tkB tkW; rw [if_pos h, if_pos h]
  rw [e]; exact crashAt_len plan b.length ws 0 b rfl (ok_of_sane h)

theorem byte_eq (a b : UInt8) : ((a.toNat : Int) == (b.toNat : Int)) = decide (a = b) := by
  by_cases h : a = b
  · subst h; simp
  · have : a.toNat ≠ b.toNat := fun e => h (UInt8.toNat_inj.1 e)
    simp [h]; omega

set_option maxRecDepth 100000 in
set_option maxHeartbeats 2000000 in
theorem torn_law (A : Option Addr) (b : List UInt8) (c : Nat) (PA : Option Addr) (ws : List WriteR) (pc : Nat) (B : Option Addr) (plan : List UInt8) (cp : Nat) (w : World) (h : DOk w A b c PA ws pc) (hp : Rd w B (plan.map u8v)) (hpl : plan.length ≤ 9223372036854775807) :
    Calls Try.prog 3 #[DV A b.length c PA ws.length pc, .slice B plan.length cp] w fun e w' => e = .returned (.bool true) ∧ Keep w w' := by
  have hpl0 := h.pl; have hpm := h.pm; have hbc := h.bc; have hcm := h.cm
  unfold maxLen at hpm hcm
  go_enter Try.func3, Try.ntmps3
  go_wp2_with fail
  refine (awake_any _).mono ?_
  rintro e w1 ⟨rfl, hk1⟩
  have b0 := keep_box hk1 0 _ rfl
  have b1 := keep_box hk1 1 _ rfl
  have k1 := keep_trans (keep_new w _) hk1
  clear hk1
  go_wp2_with fail
  refine (few_any _ _ _ _ _ _ _ (by omega) (by omega)).mono ?_
  rintro e w2 ⟨rfl, hk2⟩
  replace b0 := keep_cell hk2 b0
  replace b1 := keep_cell hk2 b1
  have k2 := keep_trans k1 hk2
  clear k1 hk2
  cases hf : fewD b.length ws.length with
  | false =>
    go_wp2_with fail
    go_ret
    exact ⟨rfl, k2⟩
  | true =>
    have hfew := of_decide_eq_true hf
    clear hf
    by_cases hq : 400 < plan.length
    · have hq' : (400 : Int) < (plan.length : Int) := by omega
      go_wp2_with fail
      go_ret
      exact ⟨rfl, k2⟩
    · have hq' : (plan.length : Int) ≤ 400 := by omega
      go_wp2_with fail
      refine (drive_any A b c PA ws pc w2 (h.keep k2) (by omega)).mono ?_
      rintro e w3 ⟨PA3, pc3, rfl, hd3, hk3⟩
      replace b0 := keep_cell hk3 b0
      replace b1 := keep_cell hk3 b1
      have k3 := keep_trans k2 hk3
      clear k2 hk3
      go_wp2_with fail
      refine (sane_any A b c PA3 ws pc3 w3 (hd3 _ (Below.refl _ _))).mono ?_
      rintro e w4 ⟨rfl, hk4⟩
      replace b0 := keep_cell hk4 b0
      replace b1 := keep_cell hk4 b1
      have k4 := keep_trans k3 hk4
      clear k3 hk4 hd3
      cases hs : saneD b.length ws with
      | false =>
        go_wp2_with fail
        go_ret
        exact ⟨rfl, k4⟩
      | true =>
        have Hs := Lib.hid hs; clear hs
        go_wp2_with fail
        refine (drive_any A b c PA ws pc w4 (h.keep k4) (by omega)).mono ?_
        rintro e w5 ⟨PA5, pc5, rfl, hd5, hk5⟩
        replace b0 := keep_cell hk5 b0
        replace b1 := keep_cell hk5 b1
        have k5 := keep_trans k4 hk5
        clear k4 hk5
        go_wp2_with fail
        refine (crash_any A b c PA5 ws pc5 B plan cp w5 (hd5 _ (Below.refl _ _)) (hp.keep k5) (by omega)).mono ?_
        have hcl := crash_len (plan := plan) Hs.out
        have htn := torn_all (plan := plan) Hs.out
        generalize crashD b ws plan = cr at hcl htn ⊢
        rintro e w6 ⟨A6, c6, rfl, hown6, hk6⟩
        replace b0 := keep_cell hk6 b0
        replace b1 := keep_cell hk6 b1
        have k6 := keep_trans k5 hk6
        have hrd6 := own_rd hown6
        have Hcl := Lib.hid hcl
        have Htn := Lib.hid htn
        rw [hcl]
        clear k5 hk6 hd5 hown6 hcl htn
        have z6 := cell_lt b0
        obtain ⟨H6, hH6⟩ : ∃ H6, H6 = w6.heap.size := ⟨_, rfl⟩
        obtain ⟨W0, hW0⟩ : ∃ W0, W0 = w6.alloc (.cells #[.slice A6 b.length c6, .slice none 0 0] 31) := ⟨_, rfl⟩
        have d0 : W0.cell? ⟨H6, 0, none⟩ = some (.slice A6 b.length c6) := by rw [hW0, hH6]; go_simp
        have d1 : W0.cell? ⟨H6, 1, none⟩ = some (.slice none 0 0) := by rw [hW0, hH6]; go_simp
        have k7 : Keep w6 W0 := by rw [hW0]; exact keep_new _ _
        have HW0 := Lib.hid hW0
        have HH6 := Lib.hid hH6
        clear hW0 hH6
        go_wp2_with fail
        rw [← HW0.out, ← HH6.out]
        replace b0 := keep_cell k7 b0
        replace b1 := keep_cell k7 b1
        replace k6 := keep_trans k6 k7
        replace hrd6 := hrd6.keep k7
        have hrb := h.rb; have hrp := h.rp
        clear k7 HW0 HH6 z6
        go_loopw [7] (fun i wr => ∃ k : Nat, k ≤ b.length ∧ i = .int .i64 k ∧ Keep W0 wr) (fun i _ => b.length - (intOf i).toNat)
        case atStart => exact ⟨0, Nat.zero_le _, rfl, Below.refl _ _⟩
        case round =>
          obtain ⟨k, hk, rfl, hkr⟩ := hrel
          obtain ⟨wo, rfl⟩ : ∃ wo : World, wo = wr := ⟨_, rfl⟩
          have r0 := keep_cell hkr b0; have r1 := keep_cell hkr b1; have r2 := keep_cell hkr d0
          by_cases hlt : k < b.length
          · obtain ⟨bo, oo, rfl, hbo, F⟩ := (hrb.keep (keep_trans k6 hkr)).at (k := k) (by simpa using hlt)
            obtain ⟨bn, on_, rfl, hbn, G⟩ := (hrd6.keep hkr).at (k := k) (by simpa [Hcl.out] using hlt)
            have hf := F k (by simpa using hlt); have hg := G k (by simpa [Hcl.out] using hlt)
            have ht := Htn.out k hlt
            have hlc : k < cr.length := by rw [Hcl.out]; exact hlt
            rw [List.getElem?_eq_getElem hlt, List.getElem?_eq_getElem hlc] at ht
            simp only [List.getElem_map, Option.some.injEq] at hf hg ht
            generalize b[k] = x at hf ht
            generalize cr[k] = y at hg ht
            have Ht := Lib.hid ht
            have hxy := byte_eq y x
            clear F G ht
            have a0 := aft_cell r0; have a1 := aft_cell r1; have a2 := aft_cell r2; have af := aft_cell hf; have ag := aft_cell hg
            go_wp2
            refine wp_region_aft (by kernel_rfl) (by kernel_rfl) wo (Below.refl _ _) ?_
            repeat (go_big_quiet_step (fail))
            refine wpQuiet_nil ?_
            rintro _ ⟨u, rfl⟩
            have hk2 := aft_keep wo u
            generalize aft wo u = w2' at hk2 ⊢
            clear a0 a1 a2 af ag hxy
            go_wp2
            go_loopw [8, 9] (fun v i wz => ∃ j : Nat, j ≤ ws.length ∧ i = .int .i64 j ∧ v = .bool (decide (y = x) || (ws.take j).any (tornB k (some y))) ∧ Keep wo wz) (fun _ i _ => ws.length - (intOf i).toNat)
            case atStart => exact ⟨0, Nat.zero_le _, rfl, by simp, hk2⟩
            case round =>
              obtain ⟨j, hj, rfl, rfl, hkz⟩ := hrel
              have q0 := keep_cell hkz r0; have q1 := keep_cell hkz r1; have q2 := keep_cell hkz r2; have qf := keep_cell hkz hg
              generalize hT : (decide (y = x) || (ws.take j).any (tornB k (some y))) = t
              have HT := Lib.hid hT; clear hT
              have kz := keep_trans k6 (keep_trans hkr hkz)
              by_cases hjl : j < ws.length
              · obtain ⟨bp, op_, rfl, hbp, F⟩ := WriteR.at2 hrp hjl
                obtain ⟨c0, c1⟩ := F wr kz
                have hx := h.ok _ (List.getElem_mem hjl)
                have hxo := of_decide_eq_true (ok_of_sane Hs.out _ (List.getElem_mem hjl))
                have hts : (ws.take (j + 1)).any (tornB k (some y)) = ((ws.take j).any (tornB k (some y)) || tornB k (some y) ws[j]) := by rw [List.take_succ_eq_append_getElem hjl, List.any_append]; simp
                generalize ws[j] = v at F c0 c1 hx hxo hts
                have Hts := Lib.hid hts
                have hx3 := hx.2.1; have hx4 := hx.2.2
                unfold maxLen at hx4
                obtain ⟨bd, od, hvA, hbd, D⟩ := (hx.1.keep kz).at (k := k % 32) (by simp; omega)
                have hmod : k % 32 < v.d.length := by omega
                have hd := D (k % 32) (by simpa using hmod)
                simp only [List.getElem_map] at hd
                have hv? : v.d[k % 32]? = some v.d[k % 32] := List.getElem?_eq_getElem hmod
                generalize v.d[k % 32] = z at hd hv?
                have Hv := Lib.hid hv?
                rw [hvA] at c1
                have a0 := aft_cell q0; have a1 := aft_cell q1; have a2 := aft_cell q2; have a3 := aft_cell qf
                have a4 := aft_cell c0; have a5 := aft_cell c1; have a6 := aft_cell hd
                have hx1 := hxo.1; have hx2 := hxo.2.2
                have Hx3 := Lib.hid hxo
                clear F D hts hx hv? hvA hxo hx2
                go_wp2_with fail
                cases t with
                | true =>
                  refine wp_region_aft (by kernel_rfl) (by kernel_rfl) wr (Below.refl _ _) ?_
                  repeat (go_big_quiet_step (fail))
                  refine wpQuiet_nil ?_
                  rintro _ ⟨u, rfl⟩
                  have hk3 := aft_keep wr u
                  generalize aft wr u = w3' at hk3 ⊢
                  clear a0 a1 a2 a3 a4 a5 a6
                  go_wp2
                  go_roundw
                  case rel => exact ⟨j + 1, by omega, by go_num, by rw [Hts.out, ← Bool.or_assoc, HT.out, Bool.true_or], keep_trans hkz hk3⟩
                  case measure => simp [intOf]; omega
                | false =>
                  by_cases e1 : v.at_ = (k : Int) / 32
                  · have g1 : (v.at_ == (k : Int) / 32) = true := beq_iff_eq.2 e1
                    have hzy := byte_eq z y
                    have E := Lib.hid (show tornB k (some y) v = decide (z = y) by
                      unfold tornB; rw [Hv.out]
                      exact decide_eq_decide.2 ⟨fun hh => by injection hh.2, fun hh => ⟨by omega, by rw [hh]⟩⟩)
                    clear e1
                    refine wp_region_aft (by kernel_rfl) (by kernel_rfl) wr (Below.refl _ _) ?_
                    repeat (go_big_quiet_step (fail))
                    refine wpQuiet_nil ?_
                    rintro _ ⟨u, rfl⟩
                    have hk3 := aft_keep wr u
                    generalize aft wr u = w3' at hk3 ⊢
                    clear a0 a1 a2 a3 a4 a5 a6 hzy g1
                    go_wp2
                    go_roundw
                    case rel => exact ⟨j + 1, by omega, by go_num, by rw [Hts.out, ← Bool.or_assoc, HT.out, E.out]; rfl, keep_trans hkz hk3⟩
                    case measure => simp [intOf]; omega
                  · have g1 : (v.at_ == (k : Int) / 32) = false := beq_eq_false_iff_ne.2 e1
                    have E := Lib.hid (show tornB k (some y) v = false from decide_eq_false fun hh => e1 (by have := hh.1; omega))
                    clear e1
                    refine wp_region_aft (by kernel_rfl) (by kernel_rfl) wr (Below.refl _ _) ?_
                    repeat (go_big_quiet_step (fail))
                    refine wpQuiet_nil ?_
                    rintro _ ⟨u, rfl⟩
                    have hk3 := aft_keep wr u
                    generalize aft wr u = w3' at hk3 ⊢
                    clear a0 a1 a2 a3 a4 a5 a6 g1
                    go_wp2
                    go_roundw
                    case rel => exact ⟨j + 1, by omega, by go_num, by rw [Hts.out, ← Bool.or_assoc, HT.out, E.out]; rfl, keep_trans hkz hk3⟩
                    case measure => simp [intOf]; omega
              · obtain rfl : j = ws.length := by omega
                have ht2 := Ht.out
                have ht3 := HT.out
                rw [List.take_length] at ht3
                rw [ht3] at ht2
                subst ht2
                clear ht3
                go_wp2_with fail
                go_roundw
                case rel => exact ⟨k + 1, by omega, by go_num, keep_trans hkr hkz⟩
                case measure => simp [intOf]; omega
          · obtain rfl : k = b.length := by omega
            go_wp2_with fail
            go_ret
            exact ⟨rfl, keep_trans k6 hkr⟩
end Go.Proofs.Ytpllginlgkhkmaa
