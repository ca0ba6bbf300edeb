import Derived.Test.YtofcjfkakmlbbaaScrL
namespace Go.Proofs.Ytofcjfkakmlbbaa
open Go.RowKit

set_option maxRecDepth 100000 in
set_option maxHeartbeats 2000000 in
theorem good_any (A : Option Addr) (l : List UInt8) (cap : Nat) (w : World) (hl : l.length ≤ cap) (hm : cap ≤ maxLen) (hr : Rd w A (l.map u8v)) :
    Calls Try.prog 5 #[.slice A l.length cap] w fun e w' => e = .returned (.bool true) ∧ Keep w w' := by
  unfold maxLen at hm
  by_cases h5 : l.length ≤ 5000
  · go_enter Try.func5, Try.ntmps5
    go_wp2_with (first
      | (go_at_call 7; refine (awake_any _).mono ?_; rintro e w1 ⟨rfl, hk1⟩)
      | (go_at_call 15; refine (get_any _ l cap _ (by omega) hl (by unfold maxLen; omega) (hr.keep hk1)).mono ?_; rintro e w2 ⟨v, vs, rfl, hown, hk2, hok, hpl⟩
         have hpl2 := Lib.hid hpl; clear hpl
         have Hok := Lib.hid hok; clear hok
         have Hown := Lib.hid hown
         obtain ⟨A3, c3, rfl, hc3, hm3, hrd⟩ := own_form hown
         clear hown
         have hvl := get_len hpl2.out
         have Hrd := Lib.hid hrd; clear hrd))
    have Hfit : Hid (∀ s ∈ vs, s.fits = true ∧ plFits s.pl) := fun s hs => by
      have h := getL_fits 400 l s.pl (by rw [← hpl2.out]; exact List.mem_map_of_mem hs)
      exact ⟨fits_of_pl s h, h⟩
    have hsz := getL_size 400 l
    rw [← hpl2.out] at hsz
    have Hsz := Lib.hid hsz.1
    have hsz2 : plSize (vs.map StepR.pl) < l.length + 6 := hsz.2
    clear hsz
    go_loopw [5, 6] (fun n i wr => ∃ k : Nat, k ≤ vs.length ∧ i = .int .i64 k ∧ n = .int .i64 (plSize ((vs.map StepR.pl).take k) : Nat) ∧ Keep w2 wr)
      (fun _ i _ => vs.length - (intOf i).toNat)
    case atStart => exact ⟨0, Nat.zero_le _, rfl, by simp [plSize], Below.refl _ _⟩
    case round =>
      obtain ⟨k, hk, rfl, rfl, hkr⟩ := hrel
      have hps := plSize_take (vs.map StepR.pl) k
      by_cases hlt : k < vs.length
      · obtain ⟨b, off, rfl, hb, F⟩ := StepR.at4 Hrd.out hlt
        have hx := Hfit.out _ (List.getElem_mem hlt)
        have hsn := plSize_snoc (vs.map StepR.pl) k (by simpa using hlt)
        simp only [List.getElem_map] at hsn
        have hps1 := plSize_take (vs.map StepR.pl) (k + 1)
        generalize vs[k] = x at F hx hsn
        have hsn' : plSize ((vs.map StepR.pl).take (k + 1)) = plSize ((vs.map StepR.pl).take k) + 6 + x.d.length := hsn
        clear hsn
        generalize plSize ((vs.map StepR.pl).take k) = N at *
        have hN : N + 6 + x.d.length < l.length + 6 := by omega
        have HM := Lib.hid hsn'
        clear hsn' hps hps1
        have hf : fitsD x.k x.p x.n x.d.length = true := hx.1
        have hnn := name_of_pl x hx.2
        have hn1 : (nameL x.k == []) = false := by simpa using hnn
        have hn2 : (nameL x.k).isEmpty = false := by simpa using hnn
        have hxl := fits_len x hx.1
        obtain ⟨c0, c1, c2, c3⟩ := F wr hkr
        have HF := Lib.hid F
        clear F hx hnn
        go_wp2_with (first
          | (go_at_call 8; refine (fits_any _ _ _ _ _ _ _ (by omega)).mono ?_; rintro e w3 ⟨rfl, hk3⟩
             obtain ⟨d0, d1, d2, d3⟩ := HF.out w3 (keep_trans hkr hk3))
          | (go_at_call 17; refine (name_any _ _).mono ?_; rintro e w4 ⟨rfl, hk4⟩))
        go_roundw
        case rel => exact ⟨k + 1, by omega, by go_num, by rw [HM.out]; go_num, keep_trans (keep_trans hkr hk3) hk4⟩
        case measure => simp [intOf]; omega
      · obtain rfl : k = vs.length := by omega
        rw [List.take_of_length_le (by simp)] at hps ⊢
        have Hkr := Lib.hid hkr
        have hpl3 := Lib.hid (show vs.length = 0 ↔ l.length = 0 by
          have h := getL_empty l
          rw [← hpl2.out] at h
          simpa using h)
        have hpn : vs.length < 400 → (l.length : Int) ≤ (plSize (vs.map StepR.pl) : Nat) := fun h => by
          rcases Hsz.out with h2 | h2
          · simp at h2; omega
          · omega
        generalize plSize (vs.map StepR.pl) = N at hps hsz2 hpn ⊢
        have HM := Lib.hid hpn
        clear hpn hps
        have e0 : (((vs.length : Int) == 0) == ((l.length : Int) == 0)) = true := by
          have h := hpl3.out
          rw [beq_iff_eq, Bool.eq_iff_iff]; simp; simpa using h
        have hpc : ((vs.length : Int) == 400) = false → (l.length : Int) ≤ (N : Int) := fun h => HM.out (by simp at h; omega)
        have Hok2 : Hid (∀ s ∈ vs, ∀ w', Keep w2 w' → Ok w' s) := fun s hs w' hw => (Hok.out s hs).1.rd.keep hw
        have hfv := Lib.hid (filter_all vs (fun s hs => (Hfit.out s hs).1))
        have Hdl : Hid (∀ s ∈ vs, s.d.length ≤ 100000) := fun s hs => by have := fits_len s (Hfit.out s hs).1; omega
        by_cases h4 : ((vs.length : Int) == 400) = true
        all_goals
          first
            | (have h4' : ((vs.length : Int) == 400) = true := h4
               clear hpc h4)
            | (have h4' : ((vs.length : Int) == 400) = false := by simpa using h4
               have hpd := hpc h4'
               clear hpc h4)
          go_wp2_with (first
            | (go_at_call 11; refine (put_any _ vs c3 _ (by omega) Hdl.out (Hrd.out.keep Hkr.out) (fun s hs => Hok2.out s hs _ Hkr.out)).mono ?_; rintro e w5 ⟨v5, rfl, hown5, hk5⟩
               have hpl5 := len_puts vs Hdl.out
               generalize hbs : vs.flatMap StepR.put = bs at hown5 hpl5
               have Hbs := Lib.hid hbs; clear hbs
               obtain ⟨A5, c5, rfl, hc5, hm5, hrd5⟩ := own_form hown5
               have Hrd5 := Lib.hid hrd5; clear hown5 hrd5)
            | (go_at_call 15; refine (get_any _ bs c5 _ (by omega) hc5 hm5 Hrd5.out).mono ?_; rintro e w6 ⟨v6, us, rfl, hown6, hk6, hok6, hpl6⟩
               rw [← Hbs.out, get_put vs 400 (by rw [hfv.out]; exact hvl), hfv.out] at hpl6
               have Hpl6 := Lib.hid hpl6; clear hpl6
               have Hok6 := Lib.hid hok6; clear hok6
               have hul : us.length ≤ 400 := by have := congrArg List.length Hpl6.out; simp at this; omega
               obtain ⟨A6, c6, rfl, hc6, hm6, hrd6⟩ := own_form hown6
               have Hrd6 := Lib.hid hrd6; clear hown6 hrd6)
            | (go_at_call 14; (with_reducible refine (rows_any _ us c6 _ (by omega) Hrd6.out).mono ?_); rintro e w7 ⟨v7, rfl, hown7, hk7⟩
               obtain ⟨A7, c7, rfl, hc7, hm7, hrd7⟩ := own_form hown7
               have Hrd7 := Lib.hid hrd7; clear hown7 hrd7)
            | (go_at_call 14; (with_reducible refine (rows_any _ vs c3 _ (by omega) (Hrd.out.keep (keep_trans (keep_trans (keep_trans Hkr.out hk5) hk6) hk7))).mono ?_); rintro e w8 ⟨v8, rfl, hown8, hk8⟩
               obtain ⟨A8, c8, rfl, hc8, hm8, hrd8⟩ := own_form hown8
               have Hrd8 := Lib.hid hrd8; clear hown8 hrd8)
            | (go_at_call 13; refine (same_any _ _ us vs _ _ _ (by omega) (by omega) (Hrd7.out.keep hk8) Hrd8.out (fun s hs => (Hok6.out s hs).1.rd.keep (keep_trans hk7 hk8)) (fun s hs => Hok2.out s hs _ (keep_trans (keep_trans (keep_trans (keep_trans Hkr.out hk5) hk6) hk7) hk8))).mono ?_; rintro e w9 ⟨rfl, hk9⟩))
          go_ret
          exact ⟨ret_bool (decide_eq_true Hpl6.out), keep_trans hk1 (keep_trans hk2 (keep_trans (keep_trans (keep_trans (keep_trans (keep_trans Hkr.out hk5) hk6) hk7) hk8) hk9))⟩
  · go_enter Try.func5, Try.ntmps5
    go_wp2_with (first
      | (go_at_call 7; refine (awake_any _).mono ?_; rintro e w1 ⟨rfl, hk1⟩))
    go_ret
    exact ⟨rfl, hk1⟩
end Go.Proofs.Ytofcjfkakmlbbaa
