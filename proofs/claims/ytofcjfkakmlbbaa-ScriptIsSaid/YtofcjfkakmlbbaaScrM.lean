import Derived.Test.YtofcjfkakmlbbaaScrK
namespace Go.Proofs.Ytofcjfkakmlbbaa
open Go.RowKit

theorem take_filter (vs : List StepR) (k : Nat) (h : k < vs.length) : (vs.take (k + 1)).filter StepR.fits = (vs.take k).filter StepR.fits ++ (if vs[k].fits then [vs[k]] else []) := by
  rw [List.take_succ_eq_append_getElem h, List.filter_append]; congr 1
  by_cases hf : vs[k].fits = true <;> simp [hf]

theorem one_rd {w : World} {b off : Nat} {x : StepR} (h : w.cell? ⟨b, off, none⟩ = some (.int .i64 x.k) ∧ w.cell? ⟨b, off + 1, none⟩ = some (.int .i64 x.p) ∧ w.cell? ⟨b, off + 2, none⟩ = some (.int .i64 x.n) ∧ w.cell? ⟨b, off + 3, none⟩ = some (.slice x.A x.d.length x.cap)) :
    Rd w (some ⟨b, off, none⟩) ([x].flatMap StepR.cells) := by
  obtain ⟨h0, h1, h2, h3⟩ := h
  refine .inr ⟨b, off, rfl, fun j hj => ?_⟩
  match j, hj with
  | 0, _ => exact h0
  | 1, _ => exact h1
  | 2, _ => exact h2
  | 3, _ => exact h3
  | n + 4, hj => exact absurd hj (by simp [StepR.cells])

set_option maxRecDepth 100000 in
set_option maxHeartbeats 2000000 in
theorem back_any (A : Option Addr) (vs : List StepR) (cap : Nat) (w : World) (hl : vs.length ≤ cap) (hm : cap ≤ maxLen) (hr : Rd w A (vs.flatMap StepR.cells)) (hok : ∀ s ∈ vs, Ok w s ∧ s.d.length ≤ s.cap ∧ s.cap ≤ maxLen) :
    Calls Try.prog 4 #[.slice A vs.length cap] w fun e w' => e = .returned (.bool true) ∧ Keep w w' := by
  unfold maxLen at hm
  by_cases h60 : vs.length ≤ 60
  · go_enter Try.func4, Try.ntmps4
    go_wp2_with (first
      | (go_at_call 7; refine (awake_any _).mono ?_; rintro e w1 ⟨rfl, hk1⟩))
    go_loopw [4, 5] (fun v i wr => ∃ k : Nat, k ≤ vs.length ∧ i = .int .i64 k ∧ wr.ownsRow w1.heap.size 26 4 v ((vs.take k).filter StepR.fits).length (((vs.take k).filter StepR.fits).flatMap StepR.cells) ∧ Keep w1 wr ∧ (∀ s ∈ vs.take k, s.d.length ≤ 70000))
      (fun _ i _ => vs.length - (intOf i).toNat)
    case atStart => exact ⟨0, Nat.zero_le _, rfl, World.ownsRow_nil _ _ _ _, Below.refl _ _, by simp⟩
    case round =>
      obtain ⟨k, hk, rfl, hown, hkr, hsm⟩ := hrel
      have hsz := hkr.size
      have Hsm := Lib.hid hsm; have Hok := Lib.hid hok
      clear hsm
      by_cases hlt : k < vs.length
      · obtain ⟨b, off, rfl, hb, F⟩ := StepR.at4 hr hlt
        have hx := hok _ (List.getElem_mem hlt)
        have hts := take_filter vs k hlt
        have htk : ∀ s ∈ vs.take (k + 1), s ∈ vs.take k ∨ s = vs[k] := fun s hs => by
          rw [List.take_succ_eq_append_getElem hlt] at hs
          rcases List.mem_append.1 hs with h | h
          · exact .inl h
          · exact .inr (List.mem_singleton.1 h)
        generalize vs[k] = x at F hx hts htk
        have Hts := Lib.hid hts; have Htk := Lib.hid htk; have HF := Lib.hid F
        obtain ⟨hx1, hx2, hx3⟩ := hx
        unfold maxLen at hx3
        obtain ⟨c0, c1, c2, c3⟩ := F wr (keep_trans hk1 hkr)
        have hfl := List.length_filter_le StepR.fits (vs.take k)
        have hfl2 : (vs.take k).length ≤ 60 := by simp; omega
        clear F hts htk hok
        by_cases h7 : x.d.length ≤ 70000
        · have h7' : ¬ (70000 : Int) < (x.d.length : Int) := by omega
          by_cases hf : fitsD x.k x.p x.n x.d.length = true
          · have Hf := Lib.hid hf
            have hz2 : w1.heap.size ≤ wr.heap.size := hsz
            go_wp2_with (first
              | (go_at_call 9; refine (steps_any _ [x] _ _ (by simp) (one_rd ⟨c0, c1, c2, c3⟩)).mono ?_; rintro e w2 ⟨v2, rfl, hown2, hk2⟩
                 obtain ⟨A5, c5, rfl, hc5, hm5, hrd5⟩ := own_form hown2
                 obtain ⟨b5, off5, rfl, hb5, F5⟩ := StepR.at4 (k := 0) hrd5 (by simp)
                 obtain ⟨d0, d1, d2, d3⟩ := F5 w2 (Below.refl _ _)
                 simp at d0 d1 d2 d3
                 clear F5 hrd5 hown2)
              | (go_at_call 8; refine (fits_any _ _ _ _ _ _ _ (by omega)).mono ?_; rintro e w3 ⟨rfl, hk3⟩
                 obtain ⟨f0, f1, f2, f3⟩ := HF.out w3 (keep_trans (keep_trans (keep_trans hk1 hkr) hk2) hk3))
              | (at_builtin; refine wpList_app rstepT (by rfl) (.tmp 34) (.tmp 39) (by rfl) w1.heap.size _ _ _ (by rfl) ((own_keep (own_keep hown hk2) hk3).alloc _) _ 1 1 (StepR.cells x) (by rfl) (by rfl) (Rd.new _ _ _) (by simp [StepR.cells, Value.oneCell']) (by omega) (by unfold maxLen; omega) (by simp; have := hk2.size; have := hk3.size; omega) ?_
                 intro v7 w7 hown7 hg7 hat7
                 have hz3 := hk2.size; have hz4 := hk3.size
                 have hk7 : Keep w1 w7 := keep_grown ((keep_trans (keep_trans hkr hk2) hk3).alloc (by omega) _) (by simp; omega) hg7 ((own_keep (own_keep hown hk2) hk3).alloc _)))
            go_roundw
            case rel =>
              refine ⟨k + 1, by omega, by go_num, ?_, hk7, fun s hs => ?_⟩
              · rw [Hts.out, if_pos (show x.fits = true from Hf.out), List.length_append, List.flatMap_append]; simpa using hown7
              · rcases Htk.out s hs with h | rfl
                · exact Hsm.out s h
                · exact h7
            case measure => simp [intOf]; omega
          · have hf' : fitsD x.k x.p x.n x.d.length = false := by simpa using hf
            have Hf := Lib.hid hf'
            clear hf
            go_wp2_with (first
              | (go_at_call 9; refine (steps_any _ [x] _ _ (by simp) (one_rd ⟨c0, c1, c2, c3⟩)).mono ?_; rintro e w2 ⟨v2, rfl, hown2, hk2⟩
                 obtain ⟨A5, c5, rfl, hc5, hm5, hrd5⟩ := own_form hown2
                 obtain ⟨b5, off5, rfl, hb5, F5⟩ := StepR.at4 (k := 0) hrd5 (by simp)
                 obtain ⟨d0, d1, d2, d3⟩ := F5 w2 (Below.refl _ _)
                 simp at d0 d1 d2 d3
                 clear F5 hrd5 hown2)
              | (go_at_call 8; refine (fits_any _ _ _ _ _ _ _ (by omega)).mono ?_; rintro e w3 ⟨rfl, hk3⟩
                 obtain ⟨f0, f1, f2, f3⟩ := HF.out w3 (keep_trans (keep_trans (keep_trans hk1 hkr) hk2) hk3)))
            go_roundw
            case rel =>
              refine ⟨k + 1, by omega, by go_num, ?_, keep_trans (keep_trans hkr hk2) hk3, fun s hs => ?_⟩
              · rw [Hts.out, if_neg (by rw [show x.fits = false from Hf.out]; decide), List.append_nil]; exact own_keep (own_keep hown hk2) hk3
              · rcases Htk.out s hs with h | rfl
                · exact Hsm.out s h
                · exact h7
            case measure => simp [intOf]; omega
        · have h7' : (70000 : Int) < (x.d.length : Int) := by omega
          go_wp2
          go_ret
          exact ⟨rfl, keep_trans hk1 hkr⟩
      · obtain rfl : k = vs.length := by omega
        have hsm2 := Hsm.out
        rw [List.take_length] at hown hsm2
        have Hdl : Hid (∀ s ∈ vs, s.d.length ≤ 100000) := fun s hs => by have := hsm2 s hs; omega
        clear hsm2
        have hfl := List.length_filter_le StepR.fits vs
        generalize hms : vs.filter StepR.fits = ms at hown hfl
        have Hms := Lib.hid hms; clear hms
        obtain ⟨A4, c4, rfl, hc4, hm4, hrd4⟩ := own_form hown
        have Hrd4 := Lib.hid hrd4
        have Hok4 : Hid (∀ s ∈ ms, ∀ w', Keep w w' → Ok w' s) := fun s hs w' hw => by
          rw [← Hms.out] at hs; exact (Hok.out s (List.mem_filter.1 hs).1).1.keep hw
        have Hok3 : Hid (∀ s ∈ vs, ∀ w', Keep w w' → Ok w' s) := fun s hs w' hw => (Hok.out s hs).1.keep hw
        have Hr := Lib.hid hr
        have Hkr := Lib.hid hkr
        clear hown hrd4
        have hkw := keep_trans hk1 hkr
        go_wp2_with (first
          | (go_at_call 9; refine (steps_any _ vs _ _ (by omega) (Hr.out.keep hkw)).mono ?_; rintro e w2 ⟨v2, rfl, hown2, hk2⟩
             obtain ⟨A5, c5, rfl, hc5, hm5, hrd5⟩ := own_form hown2
             have Hrd5 := Lib.hid hrd5; clear hrd5 hown2)
          | (go_at_call 11; refine (put_any _ vs c5 _ (by omega) Hdl.out Hrd5.out (fun s hs => Hok3.out s hs _ (keep_trans hkw hk2))).mono ?_; rintro e w3 ⟨v3, rfl, hown3, hk3⟩
             have hpl3 := len_puts vs Hdl.out
             generalize hbs : vs.flatMap StepR.put = bs at hown3 hpl3
             have Hbs := Lib.hid hbs; clear hbs
             obtain ⟨A6, c6, rfl, hc6, hm6, hrd6⟩ := own_form hown3
             have Hrd6 := Lib.hid hrd6; clear hown3 hrd6)
          | (go_at_call 15; refine (get_any _ bs c6 _ (by omega) hc6 hm6 Hrd6.out).mono ?_; rintro e w4 ⟨v4, us, rfl, hown6, hk4, hok6, hpl6⟩
             rw [← Hbs.out, get_put vs 400 (by rw [Hms.out]; omega), Hms.out] at hpl6
             have Hpl6 := Lib.hid hpl6; clear hpl6
             have Hok6 := Lib.hid hok6; clear hok6
             have hul : us.length ≤ 400 := by have := congrArg List.length Hpl6.out; simp at this; omega
             obtain ⟨A7, c7, rfl, hc7, hm7, hrd7⟩ := own_form hown6
             have Hrd7 := Lib.hid hrd7; clear hown6 hrd7)
          | (go_at_call 14; refine (rows_any _ us c7 _ (by omega) Hrd7.out).mono ?_; rintro e w5 ⟨v5, rfl, hown8, hk5⟩
             obtain ⟨A8, c8, rfl, hc8, hm8, hrd8⟩ := own_form hown8
             have Hrd8 := Lib.hid hrd8; clear hown8 hrd8)
          | (go_at_call 13; refine (same_any _ _ us ms _ _ _ (by omega) (by omega) Hrd8.out (Hrd4.out.keep (keep_trans (keep_trans (keep_trans hk2 hk3) hk4) hk5)) (fun s hs => (Hok6.out s hs).1.rd.keep hk5) (fun s hs => Hok4.out s hs _ (keep_trans hkw (keep_trans (keep_trans (keep_trans hk2 hk3) hk4) hk5)))).mono ?_; rintro e w6 ⟨rfl, hk6⟩))
        go_ret
        exact ⟨ret_bool (decide_eq_true Hpl6.out), keep_trans hkw (keep_trans (keep_trans (keep_trans (keep_trans hk2 hk3) hk4) hk5) hk6)⟩
  · go_enter Try.func4, Try.ntmps4
    go_wp2_with (first
      | (go_at_call 7; refine (awake_any _).mono ?_; rintro e w1 ⟨rfl, hk1⟩))
    go_ret
    exact ⟨rfl, hk1⟩
end Go.Proofs.Ytofcjfkakmlbbaa
