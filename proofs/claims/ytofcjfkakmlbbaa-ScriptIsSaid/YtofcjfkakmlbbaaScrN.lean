import Derived.Test.YtofcjfkakmlbbaaScrM
namespace Go.Proofs.Ytofcjfkakmlbbaa
open Go.RowKit
attribute [local go_sem ↓] Go.wp_at_zero Go.wp_at_succ

theorem one_steps (vs : List StepR) : ∀ u ∈ vs.flatMap StepR.cells, u.oneCell' = true := by
  intro u hu
  obtain ⟨s, _, hs⟩ := List.mem_flatMap.1 hu
  simp only [StepR.cells, List.mem_cons, List.not_mem_nil, or_false] at hs
  rcases hs with rfl | rfl | rfl | rfl <;> rfl

set_option maxRecDepth 100000 in
set_option maxHeartbeats 4000000 in
theorem rows_law (A B : Option Addr) (vs us : List StepR) (ca cb : Nat) (w : World) (hl : vs.length ≤ ca) (hm : ca ≤ maxLen) (hr : Rd w A (vs.flatMap StepR.cells)) (hok : ∀ s ∈ vs, Ok w s ∧ s.d.length ≤ s.cap ∧ s.cap ≤ maxLen)
    (hl2 : us.length ≤ cb) (hm2 : cb ≤ maxLen) (hr2 : Rd w B (us.flatMap StepR.cells)) (hok2 : ∀ s ∈ us, Ok w s ∧ s.d.length ≤ s.cap ∧ s.cap ≤ maxLen) :
    Calls Try.prog 6 #[.slice A vs.length ca, .slice B us.length cb] w fun e w' => e = .returned (.bool true) ∧ Keep w w' := by
  by_cases h60 : vs.length ≤ 60
  · by_cases h61 : us.length ≤ 60
    · go_enter Try.func6, Try.ntmps6
      go_wp2_with (first
        | (go_at_call 7; refine (awake_any _).mono ?_; rintro e w1 ⟨rfl, hk1⟩))
      go_loop [6] (fun i => ∃ k : Nat, k ≤ vs.length ∧ i = .int .i64 k ∧ (∀ s ∈ vs.take k, s.d.length ≤ 3000)) (fun i => vs.length - (intOf i).toNat)
      case atStart => exact ⟨0, Nat.zero_le _, rfl, by simp⟩
      case round =>
        obtain ⟨k, hk, rfl, hsm⟩ := hrel
        have Hsm := Lib.hid hsm; clear hsm
        by_cases hlt : k < vs.length
        · obtain ⟨b, off, rfl, hb, F⟩ := StepR.at4 hr hlt
          have hx := (hok _ (List.getElem_mem hlt)).2
          have htk : ∀ s ∈ vs.take (k + 1), s ∈ vs.take k ∨ s = vs[k] := fun s hs => by
            rw [List.take_succ_eq_append_getElem hlt] at hs
            rcases List.mem_append.1 hs with h | h
            · exact .inl h
            · exact .inr (List.mem_singleton.1 h)
          generalize vs[k] = x at F hx htk
          have Htk := Lib.hid htk
          obtain ⟨c0, c1, c2, c3⟩ := F w1 hk1
          obtain ⟨hx2, hx3⟩ := hx
          unfold maxLen at hx3
          clear F htk
          by_cases h7 : x.d.length ≤ 3000
          · have h7' : ¬ (3000 : Int) < (x.d.length : Int) := by omega
            go_wp2
            go_round
            case rel =>
              refine ⟨k + 1, by omega, by go_num, fun s hs => ?_⟩
              rcases Htk.out s hs with h | rfl
              · exact Hsm.out s h
              · exact h7
            case measure => simp [intOf]; omega
          · have h7' : (3000 : Int) < (x.d.length : Int) := by omega
            go_wp2
            go_ret
            exact ⟨rfl, hk1⟩
        · obtain rfl : k = vs.length := by omega
          have Hdl : Hid (∀ s ∈ vs, s.d.length ≤ 3000) := fun s hs => Hsm.out s (by rwa [List.take_length])
          clear Hsm
          go_wp2
          go_loop [7] (fun i => ∃ k : Nat, k ≤ us.length ∧ i = .int .i64 k ∧ (∀ s ∈ us.take k, s.d.length ≤ 3000)) (fun i => us.length - (intOf i).toNat)
          case atStart => exact ⟨0, Nat.zero_le _, rfl, by simp⟩
          case round =>
            obtain ⟨k, hk, rfl, hsm⟩ := hrel
            have Hsm := Lib.hid hsm; clear hsm
            by_cases hlt : k < us.length
            · obtain ⟨b, off, rfl, hb, F⟩ := StepR.at4 hr2 hlt
              have hx := (hok2 _ (List.getElem_mem hlt)).2
              have htk : ∀ s ∈ us.take (k + 1), s ∈ us.take k ∨ s = us[k] := fun s hs => by
                rw [List.take_succ_eq_append_getElem hlt] at hs
                rcases List.mem_append.1 hs with h | h
                · exact .inl h
                · exact .inr (List.mem_singleton.1 h)
              generalize us[k] = x at F hx htk
              have Htk := Lib.hid htk
              obtain ⟨c0, c1, c2, c3⟩ := F w1 hk1
              obtain ⟨hx2, hx3⟩ := hx
              unfold maxLen at hx3
              clear F htk
              by_cases h7 : x.d.length ≤ 3000
              · have h7' : ¬ (3000 : Int) < (x.d.length : Int) := by omega
                go_wp2
                go_round
                case rel =>
                  refine ⟨k + 1, by omega, by go_num, fun s hs => ?_⟩
                  rcases Htk.out s hs with h | rfl
                  · exact Hsm.out s h
                  · exact h7
                case measure => simp [intOf]; omega
              · have h7' : (3000 : Int) < (x.d.length : Int) := by omega
                go_wp2
                go_ret
                exact ⟨rfl, hk1⟩
            · obtain rfl : k = us.length := by omega
              have Hdl2 : Hid (∀ s ∈ us, s.d.length ≤ 3000) := fun s hs => Hsm.out s (by rwa [List.take_length])
              clear Hsm
              have Hr := Lib.hid (hr.keep hk1); have Hr2 := Lib.hid (hr2.keep hk1)
              have Hok : Hid (∀ s ∈ vs, ∀ w', Keep w1 w' → Ok w' s) := fun s hs w' hw => (hok s hs).1.keep (keep_trans hk1 hw)
              have Hok2 : Hid (∀ s ∈ us, ∀ w', Keep w1 w' → Ok w' s) := fun s hs w' hw => (hok2 s hs).1.keep (keep_trans hk1 hw)
              have hd3 : Hid (∀ s ∈ vs, s.d.length ≤ 100000) := fun s hs => by have := Hdl.out s hs; omega
              have hd4 : Hid (∀ s ∈ us, s.d.length ≤ 100000) := fun s hs => by have := Hdl2.out s hs; omega
              go_wp2_with fail
              refine (steps_any _ vs _ _ (by omega) Hr.out).mono ?_
              rintro e w2 ⟨v2, rfl, hown2, hk2⟩
              obtain ⟨A2, c2, rfl, hc2, hm2', hrd2⟩ := own_form hown2
              have Hrd2 := Lib.hid hrd2; clear hrd2 hown2
              go_wp2_with fail
              refine (put_any _ vs c2 _ (by omega) hd3.out Hrd2.out (fun s hs => Hok.out s hs _ hk2)).mono ?_
              rintro e w3 ⟨v3, rfl, hown3, hk3⟩
              have hpl3 := len_puts vs hd3.out
              generalize hbs : vs.flatMap StepR.put = ba at hown3 hpl3
              have Hba := Lib.hid hbs; clear hbs
              obtain ⟨A3, c3, rfl, hc3, hm3, hrd3⟩ := own_form hown3
              have Hrd3 := Lib.hid hrd3; clear hrd3 hown3
              have k13 : Keep w1 w3 := keep_trans hk2 hk3
              go_wp2_with fail
              refine (steps_any _ us _ _ (by omega) (Hr2.out.keep k13)).mono ?_
              rintro e w4 ⟨v4, rfl, hown4, hk4⟩
              obtain ⟨A4, c4, rfl, hc4, hm4, hrd4⟩ := own_form hown4
              have Hrd4 := Lib.hid hrd4; clear hrd4 hown4
              go_wp2_with fail
              refine (put_any _ us c4 _ (by omega) hd4.out Hrd4.out (fun s hs => Hok2.out s hs _ (keep_trans k13 hk4))).mono ?_
              rintro e w5 ⟨v5, rfl, hown5, hk5⟩
              have hpl5 := len_puts us hd4.out
              generalize hbs : us.flatMap StepR.put = bb at hown5 hpl5
              have Hbb := Lib.hid hbs; clear hbs
              obtain ⟨A5, c5, rfl, hc5, hm5, hrd5⟩ := own_form hown5
              have Hrd5 := Lib.hid hrd5; clear hrd5 hown5
              have k35 : Keep w3 w5 := keep_trans hk4 hk5
              have k15 : Keep w1 w5 := keep_trans k13 k35
              have hz1 : (w5.alloc (.cells #[] 26)).heap.size = w5.heap.size + 1 := by simp
              go_wp2_with (first
                | (at_builtin; refine wpList_app rstepT (by rfl) (.tmp 57) (.tmp 58) (by rfl) w5.heap.size _ 0 [] (by rfl) (own_zero _ _ _) A vs.length ca (vs.flatMap StepR.cells) (by rfl) (flatMap_len _ 4 (fun _ => rfl) _) ((Hr.out.keep k15).alloc _) (one_steps _) (by omega) (by unfold maxLen; omega) (by simp) ?_
                   intro v6 w6 hown6 hg6 hat6
                   have k56 : Keep w5 w6 := keep_grown ((Below.refl _ _).alloc (Nat.le_refl _) _) (by simp) hg6 (own_zero _ _ 4)
                   have hz6 := k56.size
                   rw [List.nil_append, Nat.zero_add] at hown6)
                | (at_builtin; refine wpList_app rstepT (by rfl) (.tmp 60) (.tmp 61) (by rfl) w5.heap.size v6 vs.length _ (by rfl) hown6 B us.length cb (us.flatMap StepR.cells) (by rfl) (flatMap_len _ 4 (fun _ => rfl) _) (Hr2.out.keep (keep_trans k15 k56)) (one_steps _) (by omega) (by unfold maxLen; omega) hz6 ?_
                   intro v7 w7 hown7 hg7 hat7
                   have k57 : Keep w5 w7 := keep_grown k56 hz6 hg7 hown6))
              rw [← List.flatMap_append, ← List.length_append] at hown7
              have hwl : (vs ++ us).length ≤ 120 := by simp; omega
              generalize hws : vs ++ us = ws at hown7 hwl
              have Hws := Lib.hid hws; clear hws
              obtain ⟨A7, c7, rfl, hc7, hm7, hrd7⟩ := own_form hown7
              have Hrd7 := Lib.hid hrd7; clear hown6 hg6 hat6 hg7 hat7 hown7 hz6 hrd7
              refine (get_any _ ba c3 _ (by omega) hc3 hm3 (Hrd3.out.keep (keep_trans k35 k57))).mono ?_
              rintro e w8 ⟨v8, xs, rfl, hown8, hk8, hok8, hpl8⟩
              rw [← Hba.out, get_put vs 400 (by have := List.length_filter_le StepR.fits vs; omega)] at hpl8
              have Hpl8 := Lib.hid hpl8; have Hok8 := Lib.hid hok8; have Hown8 := Lib.hid hown8
              have hxl : xs.length ≤ 60 := by have h := congrArg List.length Hpl8.out; have := List.length_filter_le StepR.fits vs; simp at h; omega
              clear hpl8 hok8 hown8
              go_wp2_with fail
              refine (get_any _ bb c5 _ (by omega) hc5 hm5 (Hrd5.out.keep (keep_trans k57 hk8))).mono ?_
              rintro e w9 ⟨v9, ys, rfl, hown9, hk9, hok9, hpl9⟩
              rw [← Hbb.out, get_put us 400 (by have := List.length_filter_le StepR.fits us; omega)] at hpl9
              have Hpl9 := Lib.hid hpl9; have Hok9 := Lib.hid hok9
              have hyl : ys.length ≤ 60 := by have h := congrArg List.length Hpl9.out; have := List.length_filter_le StepR.fits us; simp at h; omega
              obtain ⟨A9, c9, rfl, hc9, hm9, hrd9⟩ := own_form hown9
              have Hrd9 := Lib.hid hrd9; clear hpl9 hok9 hown9 hrd9
              have hz9 : w7.heap.size ≤ w9.heap.size := Nat.le_trans hk8.size hk9.size
              go_wp2_with (first
                | (refine wpList_app stepT (by rfl) (.tmp 65) (.tmp 67) (by rfl) w7.heap.size v8 xs.length _ (by rfl) (own_keep Hown8.out hk9) A9 ys.length c9 (ys.flatMap StepR.cells) (by rfl) (flatMap_len _ 4 (fun _ => rfl) _) Hrd9.out (one_steps _) (by omega) (by unfold maxLen; omega) hz9 ?_
                   intro v10 w10 hown10 hg10 hat10
                   have k7a : Keep w7 w10 := keep_grown (keep_trans hk8 hk9) hz9 hg10 (own_keep Hown8.out hk9)
                   have Hxy : Hid (∀ s ∈ xs ++ ys, ∀ w', Keep w10 w' → Ok w' s) := fun s hs w' hw => by
                     rcases List.mem_append.1 hs with hs | hs
                     · exact ((((Hok8.out s hs).1.keep hk9).grown hg10 hat10).rd).keep hw
                     · exact (((RdX.of_fresh (Hok9.out s hs).1.rd (Hok9.out s hs).2.2.2 (by simp) (fun b hb => (Hown8.out.lt b hb).2)).grown hg10 hat10).rd).keep hw
                   rw [← List.flatMap_append, ← List.length_append] at hown10
                   have hzl : (xs ++ ys).length ≤ 120 := by simp; omega
                   have Hzp := Lib.hid (show (xs ++ ys).map StepR.pl = ((vs.filter StepR.fits).map StepR.pl ++ (us.filter StepR.fits).map StepR.pl) by rw [List.map_append, Hpl8.out, Hpl9.out])
                   generalize xs ++ ys = zs at hown10 hzl Hxy Hzp
                   obtain ⟨A10, c10, rfl, hc10, hm10, hrd10⟩ := own_form hown10
                   have Hrd10 := Lib.hid hrd10; clear hown10 hg10 hat10 hrd10
                   have hz10 : (w10.alloc (.cells #[] 5)).heap.size = w10.heap.size + 1 := by simp)
                | (at_builtin; refine wpList_app byteT (by rfl) (.tmp 69) (.tmp 70) (by rfl) w10.heap.size _ 0 [] (by rfl) (own_zero _ _ _) A3 ba.length c3 (ba.map u8v) (by rfl) (by simp) ((Hrd3.out.keep (keep_trans (keep_trans k35 k57) k7a)).alloc _) (one_bytes _) (by omega) (by unfold maxLen; omega) (by simp) ?_
                   intro v11 w11 hown11 hg11 hat11
                   have kab : Keep w10 w11 := keep_grown ((Below.refl _ _).alloc (Nat.le_refl _) _) (by simp) hg11 (own_zero _ _ 1)
                   have hz11 := kab.size
                   rw [List.nil_append, Nat.zero_add] at hown11)
                | (at_builtin; refine wpList_app byteT (by rfl) (.tmp 72) (.tmp 73) (by rfl) w10.heap.size v11 ba.length _ (by rfl) hown11 A5 bb.length c5 (bb.map u8v) (by rfl) (by simp) (Hrd5.out.keep (keep_trans (keep_trans k57 k7a) kab)) (one_bytes _) (by omega) (by unfold maxLen; omega) hz11 ?_
                   intro v12 w12 hown12 hg12 hat12
                   have kac : Keep w10 w12 := keep_grown kab hz11 hg12 hown11
                   rw [← List.map_append, ← List.length_append] at hown12
                   have hdl : (ba ++ bb).length ≤ 100000000 := by simp; omega
                   have Hbd := Lib.hid (show ws.flatMap StepR.put = ba ++ bb by rw [← Hws.out, List.flatMap_append, Hba.out, Hbb.out])
                   generalize ba ++ bb = bd at hown12 hdl Hbd
                   obtain ⟨A12, c12, rfl, hc12, hm12, hrd12⟩ := own_form hown12
                   have Hrd12 := Lib.hid hrd12; clear hown11 hg11 hat11 hown12 hg12 hat12 hrd12 hz11))
              have hd7 : Hid (∀ s ∈ ws, s.d.length ≤ 100000) := fun s hs => by
                rw [← Hws.out] at hs
                rcases List.mem_append.1 hs with h | h
                · exact hd3.out s h
                · exact hd4.out s h
              have Hokw : Hid (∀ s ∈ ws, ∀ w', Keep w1 w' → Ok w' s) := fun s hs w' hw => by
                rw [← Hws.out] at hs
                rcases List.mem_append.1 hs with h | h
                · exact Hok.out s h w' hw
                · exact Hok2.out s h w' hw
              have hfw := Lib.hid (show (ws.filter StepR.fits).map StepR.pl = zs.map StepR.pl by rw [Hzp.out, ← Hws.out, List.filter_append, List.map_append])
              have hfl := List.length_filter_le StepR.fits ws
              have k1c : Keep w1 w12 := keep_trans k15 (keep_trans k57 (keep_trans k7a kac))
              have hcv : ∀ w', Keep w12 w' → (convert 23 9 (.slice A12 bd.length c12)).run Try.prog w' = .ok (.string (str bd)) w' := fun w' hw => run_bytes_str Try.underlying23 Try.underlying5 Try.underlying9 _ (Hrd12.out.keep hw)
              have hcv0 := hcv w12 (Below.refl _ _)
              have Hcv := Lib.hid hcv
              clear hcv hpl3 hpl5 hz1 hz9 hz10
              have hcv1 := Hcv.out w12.drew (Below.refl _ _).drew
              go_region_law
                (first
                  | (go_simp; go_at_call 9; refine (steps_any _ ws c7 _ (by omega) (Hrd7.out.keep (keep_trans (keep_trans k7a kac) (Below.refl _ _).drew))).mono ?_; rintro e wd ⟨vd, rfl, hownd, hkd⟩
                     have kd1 : Keep w12 wd := keep_trans (Below.refl _ _).drew hkd
                     have hcvd := Hcv.out _ kd1
                     obtain ⟨Ad, cd, rfl, hcd, hmd, hrdd⟩ := own_form hownd
                     have Hrdd := Lib.hid hrdd; clear hownd hrdd)
                  | (go_simp; go_at_call 11; refine (put_any _ ws cd _ (by omega) hd7.out Hrdd.out (fun s hs => Hokw.out s hs _ (keep_trans k1c kd1))).mono ?_; rintro e we ⟨ve, rfl, howne, hke⟩
                     have ke1 : Keep w12 we := keep_trans kd1 hke
                     have hcvx := Hcv.out _ ke1
                     rw [Hbd.out] at howne
                     obtain ⟨Ae, ce, rfl, hce, hme, hrde⟩ := own_form howne
                     have hcve : (convert 23 9 (.slice Ae bd.length ce)).run Try.prog we = .ok (.string (str bd)) we := run_bytes_str Try.underlying23 Try.underlying5 Try.underlying9 _ hrde
                     clear howne hrde)
                  | (go_simp; go_at_call 15; refine (get_any _ bd c12 _ hdl hc12 hm12 (Hrd12.out.keep ke1)).mono ?_; rintro e wf ⟨vf, qs, rfl, hownf, hkf, hokf, hplf⟩
                     have kf1 : Keep w12 wf := keep_trans ke1 hkf
                     rw [← Hbd.out, get_put ws 400 (by omega), hfw.out] at hplf
                     have Hplf := Lib.hid hplf; have Hokf := Lib.hid hokf
                     have hql : qs.length ≤ 120 := by have h := congrArg List.length Hplf.out; simp at h; omega
                     obtain ⟨Af, cf, rfl, hcf, hmf, hrdf⟩ := own_form hownf
                     have Hrdf := Lib.hid hrdf; clear hplf hokf hownf hrdf)
                  | (go_simp; go_at_call 14; (with_reducible refine (rows_any _ qs cf _ (by omega) Hrdf.out).mono ?_); rintro e wg ⟨vg, rfl, howng, hkg⟩
                     have kg1 : Keep w12 wg := keep_trans kf1 hkg
                     obtain ⟨Ag, cg, rfl, hcg, hmg, hrdg⟩ := own_form howng
                     have Hrdg := Lib.hid hrdg; clear howng hrdg)
                  | (go_simp; go_at_call 14; (with_reducible refine (rows_any _ zs c10 _ (by omega) (Hrd10.out.keep (keep_trans kac kg1))).mono ?_); rintro e wh ⟨vh, rfl, hownh, hkh⟩
                     have kh1 : Keep w12 wh := keep_trans kg1 hkh
                     obtain ⟨Ah, ch, rfl, hch, hmh, hrdh⟩ := own_form hownh
                     have Hrdh := Lib.hid hrdh; clear hownh hrdh)
                  | (go_simp; go_at_call 13; refine (same_any _ _ qs zs _ _ _ (by omega) (by omega) (Hrdg.out.keep hkh) Hrdh.out (fun s hs => (Hokf.out s hs).1.rd.keep (keep_trans hkg hkh)) (fun s hs => Hxy.out s hs _ (keep_trans kac kh1))).mono ?_; rintro e wi ⟨rfl, hki⟩
                     have ki1 : Keep w12 wi := keep_trans kh1 hki))
              all_goals go_wp2
              all_goals go_ret
              all_goals exact ⟨ret_bool (decide_eq_true Hplf.out), keep_trans hk1 (keep_trans k1c ki1)⟩
    · have hp : (60 : Int) < (us.length : Int) := by omega
      go_enter Try.func6, Try.ntmps6
      go_wp2_with (first
        | (go_at_call 7; refine (awake_any _).mono ?_; rintro e w1 ⟨rfl, hk1⟩))
      go_ret
      exact ⟨rfl, hk1⟩
  · have hp : (60 : Int) < (vs.length : Int) := by omega
    go_enter Try.func6, Try.ntmps6
    go_wp2_with (first
      | (go_at_call 7; refine (awake_any _).mono ?_; rintro e w1 ⟨rfl, hk1⟩))
    go_ret
    exact ⟨rfl, hk1⟩
end Go.Proofs.Ytofcjfkakmlbbaa
