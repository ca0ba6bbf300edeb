import Derived.Test.YtofcjfkakmlbbaaScrN
namespace Go.Proofs.Ytofcjfkakmlbbaa
open Go.RowKit
attribute [local go_sem ↓] Go.wp_at_zero Go.wp_at_succ

set_option maxRecDepth 100000 in
set_option maxHeartbeats 4000000 in
theorem is_law (A B : Option Addr) (vs : List StepR) (l : List UInt8) (ca cb : Nat) (x2 : Int) (w : World) (hl : vs.length ≤ ca) (hm : ca ≤ maxLen) (hr : Rd w A (vs.flatMap StepR.cells)) (hok : ∀ s ∈ vs, Ok w s ∧ s.d.length ≤ s.cap ∧ s.cap ≤ maxLen)
    (hl2 : l.length ≤ cb) (hm2 : cb ≤ maxLen) (hr2 : Rd w B (l.map u8v)) :
    Calls Try.prog 3 #[.slice A vs.length ca, .slice B l.length cb, .int .i64 x2] w fun e w' => e = .returned (.bool true) ∧ Keep w w' := by
  unfold maxLen at hm
  by_cases h60 : vs.length ≤ 60
  · by_cases h61 : l.length ≤ 3000
    · go_enter Try.func3, Try.ntmps3
      go_wp2_with (first
        | (go_at_call 7; refine (awake_any _).mono ?_; rintro e w1 ⟨rfl, hk1⟩))
      go_loopw [8] (fun i wr => ∃ k : Nat, k ≤ vs.length ∧ i = .int .i64 k ∧ Keep w1 wr ∧ (∀ s ∈ vs.take k, s.d.length ≤ 70000)) (fun i _ => vs.length - (intOf i).toNat)
      case atStart => exact ⟨0, Nat.zero_le _, rfl, Below.refl _ _, by simp⟩
      case round =>
        obtain ⟨k, hk, rfl, hkr, hsm⟩ := hrel
        obtain ⟨wo, rfl⟩ : ∃ wo : World, wo = wr := ⟨_, rfl⟩
        have Hsm := Lib.hid hsm; clear hsm
        have Hok := Lib.hid hok
        by_cases hlt : k < vs.length
        · obtain ⟨b, off, rfl, hb, F⟩ := StepR.at4 hr hlt
          have hx := (hok _ (List.getElem_mem hlt))
          have htk : ∀ s ∈ vs.take (k + 1), s ∈ vs.take k ∨ s = vs[k] := fun s hs => by
            rw [List.take_succ_eq_append_getElem hlt] at hs
            rcases List.mem_append.1 hs with h | h
            · exact .inl h
            · exact .inr (List.mem_singleton.1 h)
          generalize vs[k] = x at F hx htk
          have Htk := Lib.hid htk; have HF := Lib.hid F
          have Hx := Lib.hid (show ∀ w', Keep wo w' → Rd w' (some ⟨b, off + k * 4, none⟩) ([x].flatMap StepR.cells) from fun w' hw => one_rd (HF.out w' (keep_trans (keep_trans hk1 hkr) hw)))
          obtain ⟨c0, c1, c2, c3⟩ := F wo (keep_trans hk1 hkr)
          obtain ⟨hx1, hx2, hx3⟩ := hx
          unfold maxLen at hx3
          clear F htk hok
          by_cases h7 : x.d.length ≤ 70000
          · have h7' : ¬ (70000 : Int) < (x.d.length : Int) := by omega
            have hk0 : (0 : Int) ≤ (k : Int) := by omega
            have hk1' : (k : Int) < (vs.length : Int) := by omega
            have hk2' : (k : Int) + 1 ≤ (ca : Int) := by omega
            have hkw : IntKind.i64.wrap ((k : Int) + 1) = (k : Int) + 1 := IntWalk.i64_in _ (by omega)
            have hk3' : (0 : Int) ≤ (k : Int) + 1 := by omega
            have hcne : ca ≠ k := by omega
            go_upto_region 9 with fail
            go_cut [47] (fun t wx => t = .bool false ∧ Keep wo wx)
            case first =>
              go_region_law (first
                | (go_simp; go_at_call 9; refine (steps_any _ [x] _ _ (by simp) (Hx.out _ (Below.refl _ _).drew)).mono ?_; rintro e w2 ⟨v2, rfl, hown2, hk2⟩
                   obtain ⟨A5, c5, rfl, hc5, hm5, hrd5⟩ := own_form hown2
                   obtain ⟨b5, off5, rfl, hb5, F5⟩ := StepR.at4 (k := 0) hrd5 (by simp)
                   obtain ⟨d0, d1, d2, d3⟩ := F5 w2 (Below.refl _ _)
                   simp at d0 d1 d2 d3
                   have k2 : Keep wo w2 := keep_trans (Below.refl _ _).drew hk2
                   obtain ⟨e0, e1, e2, e3⟩ := HF.out w2 (keep_trans (keep_trans hk1 hkr) k2)
                   clear F5 hrd5 hown2)
                | (go_simp; go_at_call 8; refine (fits_any _ _ _ _ _ _ _ (by omega)).mono ?_; rintro e w3 ⟨rfl, hk3⟩
                   have k3 : Keep wo w3 := keep_trans k2 hk3
                   obtain ⟨g0, g1, g2, g3⟩ := HF.out w3 (keep_trans (keep_trans hk1 hkr) k3))
                | (go_simp; go_at_call 10; refine (rfits_any _ _ _ _ _ _ _ (by omega)).mono ?_; rintro e w4 ⟨rfl, hk4⟩
                   have k4 : Keep wo w4 := keep_trans k3 hk4))
              all_goals (go_wp2_with fail; go_meet)
              all_goals exact ⟨rfl, k4⟩
            case rest =>
              obtain ⟨rfl, hkc⟩ := hcut
              go_wp2
              go_roundw
              case rel =>
                refine ⟨k + 1, by omega, by go_num, keep_trans hkr hkc, fun s hs => ?_⟩
                rcases Htk.out s hs with h | rfl
                · exact Hsm.out s h
                · exact h7
              case measure => simp [intOf]; omega
          · have h7' : (70000 : Int) < (x.d.length : Int) := by omega
            go_wp2
            go_ret
            exact ⟨rfl, keep_trans hk1 hkr⟩
        · obtain rfl : k = vs.length := by omega
          have Hdl : Hid (∀ s ∈ vs, s.d.length ≤ 100000) := fun s hs => by have := Hsm.out s (by rwa [List.take_length]); omega
          clear Hsm hok
          have hkw := keep_trans hk1 hkr
          have Hr := Lib.hid (hr.keep hkw); have Hr2 := Lib.hid (hr2.keep hkw)
          have Hok3 : Hid (∀ s ∈ vs, ∀ w', Keep wo w' → Ok w' s) := fun s hs w' hw => (Hok.out s hs).1.keep (keep_trans hkw hw)
          go_wp2_with fail
          go_region_law (first
            | (go_simp; go_at_call 9; refine (steps_any _ vs _ _ (by omega) (Hr.out.keep (Below.refl _ _).drew)).mono ?_; rintro e w2 ⟨v2, rfl, hown2, hk2⟩
               have k2 : Keep wo w2 := keep_trans (Below.refl _ _).drew hk2
               obtain ⟨A2, c2, rfl, hc2, hm2', hrd2⟩ := own_form hown2
               have Hrd2 := Lib.hid hrd2; clear hrd2 hown2)
            | (go_simp; go_at_call 11; refine (put_any _ vs c2 _ (by omega) Hdl.out Hrd2.out (fun s hs => Hok3.out s hs _ k2)).mono ?_; rintro e w3 ⟨v3, rfl, hown3, hk3⟩
               have k3 : Keep wo w3 := keep_trans k2 hk3
               have hpl3 := len_puts vs Hdl.out
               generalize hbs : vs.flatMap StepR.put = bs at hown3 hpl3
               have Hbs := Lib.hid hbs; clear hbs
               obtain ⟨A3, c3, rfl, hc3, hm3, hrd3⟩ := own_form hown3
               have Hrd3 := Lib.hid hrd3
               have hcv3 : (convert 23 9 (.slice A3 bs.length c3)).run Try.prog w3 = .ok (.string (str bs)) w3 := run_bytes_str Try.underlying23 Try.underlying5 Try.underlying9 _ Hrd3.out
               clear hrd3 hown3)
            | (go_simp; go_at_call 12; refine (rput_any _ vs ca _ (by omega) Hdl.out (Hr.out.keep k3) (fun s hs => Hok3.out s hs _ k3)).mono ?_; rintro e w4 ⟨v4, rfl, hown4, hk4⟩
               have k4 : Keep wo w4 := keep_trans k3 hk4
               rw [Hbs.out] at hown4
               obtain ⟨A4, c4, rfl, hc4, hm4, hrd4⟩ := own_form hown4
               have hcv4 : (convert 23 9 (.slice A3 bs.length c3)).run Try.prog w4 = .ok (.string (str bs)) w4 := run_bytes_str Try.underlying23 Try.underlying5 Try.underlying9 _ (Hrd3.out.keep hk4)
               have hcv5 : (convert 23 9 (.slice A4 bs.length c4)).run Try.prog w4 = .ok (.string (str bs)) w4 := run_bytes_str Try.underlying23 Try.underlying5 Try.underlying9 _ hrd4
               clear hown4 hrd4)
            | (go_simp; go_at_call 15; refine (get_any _ l cb _ (by omega) hl2 hm2 (Hr2.out.keep k4)).mono ?_; rintro e w5 ⟨v5, qs, rfl, hown5, hk5, hok5, hpl5⟩
               have k5 : Keep wo w5 := keep_trans k4 hk5
               have hql := get_len hpl5
               have Hpl5 := Lib.hid hpl5; have Hok5 := Lib.hid hok5
               obtain ⟨A5, c5, rfl, hc5, hm5, hrd5⟩ := own_form hown5
               have Hrd5 := Lib.hid hrd5; clear hpl5 hok5 hown5 hrd5)
            | (go_simp; go_at_call 14; refine (rows_any _ qs c5 _ (by omega) Hrd5.out).mono ?_; rintro e w6 ⟨v6, rfl, hown6, hk6⟩
               have k6 : Keep wo w6 := keep_trans k5 hk6
               obtain ⟨A6, c6, rfl, hc6, hm6, hrd6⟩ := own_form hown6
               have Hrd6 := Lib.hid hrd6; clear hown6 hrd6)
            | (go_simp; go_at_call 16; refine (rget_any _ l cb _ (by omega) (Hr2.out.keep k6)).mono ?_; rintro e w7 ⟨v7, ps, rfl, hown7, hk7, hok7, hpl7⟩
               have k7 : Keep wo w7 := keep_trans k6 hk7
               have hpl := get_len hpl7
               have Hpl7 := Lib.hid hpl7; have Hok7 := Lib.hid hok7
               obtain ⟨A7, c7, rfl, hc7, hm7, hrd7⟩ := own_form hown7
               have Hrd7 := Lib.hid hrd7; clear hpl7 hok7 hown7 hrd7)
            | (go_simp; go_at_call 13; refine (same_any _ _ qs ps _ _ _ (by omega) (by omega) (Hrd6.out.keep hk7) Hrd7.out (fun s hs => (Hok5.out s hs).1.rd.keep (keep_trans hk6 hk7)) (fun s hs => (Hok7.out s hs).1.rd)).mono ?_; rw [decide_eq_true (Hpl5.out.trans Hpl7.out.symm)]; rintro e w8 ⟨rfl, hk8⟩
               have k8 : Keep wo w8 := keep_trans k7 hk8)
            | (go_simp; go_at_call 17; refine (name_any _ _).mono ?_; rintro e w9 ⟨rfl, hk9⟩
               have k9 : Keep wo w9 := keep_trans k8 hk9)
            | (go_simp; go_at_call 18; refine (rname_any _ _).mono ?_; rintro e wa ⟨rfl, hka⟩
               have ka : Keep wo wa := keep_trans k9 hka))
          all_goals go_wp2
          all_goals go_ret
          all_goals exact ⟨ret_bool rfl, keep_trans hkw ka⟩
    · have hp : (3000 : Int) < (l.length : Int) := by omega
      go_enter Try.func3, Try.ntmps3
      go_wp2_with (first
        | (go_at_call 7; refine (awake_any _).mono ?_; rintro e w1 ⟨rfl, hk1⟩))
      go_ret
      exact ⟨rfl, hk1⟩
  · have hp : (60 : Int) < (vs.length : Int) := by omega
    go_enter Try.func3, Try.ntmps3
    go_wp2_with (first
      | (go_at_call 7; refine (awake_any _).mono ?_; rintro e w1 ⟨rfl, hk1⟩))
    go_ret
    exact ⟨rfl, hk1⟩
end Go.Proofs.Ytofcjfkakmlbbaa
