import Derived.Test.YtofcjfkakmlbbaaScrH
namespace Go.Proofs.Ytofcjfkakmlbbaa
open Go.RowKit

theorem vs_seven {vs : List StepR} (h : vs.map StepR.pl = getL 400 [7]) : ∃ A c, vs = [⟨7, 0, 0, A, c, []⟩] := by
  have h1 : getL 400 [7] = [(7, 0, 0, [])] := by
    rw [getL_step 399 (by simp)]
    have : getRest [7] = [] := rfl
    rw [this, getL_nil]; rfl
  rw [h1] at h
  match vs, h with
  | [⟨k, p, n, A, c, d⟩], h =>
    simp only [List.map_cons, List.map_nil, StepR.pl, List.cons.injEq, Prod.mk.injEq, and_true] at h
    obtain ⟨rfl, rfl, rfl, rfl⟩ := h
    exact ⟨A, c, rfl⟩

theorem getL_len : ∀ (n : Nat) (l : List UInt8), (getL n l).length ≤ n
  | 0, _ => by simp [getL]
  | n + 1, l => by
    have := getL_len n (getRest l)
    by_cases h : l = []
    · simp [getL, h]
    · simp [getL, h]; omega
theorem get_len {vs : List StepR} {l : List UInt8} (h : vs.map StepR.pl = getL 400 l) : vs.length ≤ 400 := by
  have := getL_len 400 l
  rw [← h] at this; simpa using this

set_option maxRecDepth 100000 in
set_option maxHeartbeats 2000000 in
theorem awake_any (w : World) : Calls Try.prog 7 #[] w fun e w' => e = .returned (.bool true) ∧ Keep w w' := by
  go_enter Try.func7, Try.ntmps7
  go_wp2_with (first
    | (go_at_call 15; refine (get_any _ [7] 1 _ (by simp) (by simp) (by unfold maxLen; omega) (Rd.new _ [u8v 7] _)).mono ?_; rintro e w2 ⟨v, vs, rfl, hown, hk2, hok, hpl⟩
       obtain ⟨A, c, rfl⟩ := vs_seven hpl
       clear hpl
       obtain ⟨A3, c3, rfl, hc3, hm3, hrd⟩ := own_form hown
       obtain ⟨b, off, rfl, hb, F⟩ := StepR.at4 (k := 0) hrd (by simp)
       obtain ⟨c0, c1, c2, c4⟩ := F w2 (Below.refl _ _)
       simp at c0 c1 c2 c4
       have HF := Lib.hid F; have Hrd := Lib.hid hrd; have Hok := Lib.hid hok
       clear hown F hrd hok)
    | (go_at_call 17; refine (name_any 7 _).mono ?_; rintro e w3 ⟨rfl, hk3⟩
       obtain ⟨d0, d1, d2, d4⟩ := HF.out w3 hk3
       simp at d0 d1 d2 d4)
    | (go_at_call 8; refine (fits_any _ _ _ _ _ _ _ (by omega)).mono ?_; rintro e w4 ⟨rfl, hk4⟩)
    | (go_at_call 11; refine (put_any _ [⟨7, 0, 0, A, c, []⟩] c3 _ (by simp) (by simp) ((Hrd.out.keep hk3).keep hk4) (by simp [Ok, Rd])).mono ?_; rintro e w5 ⟨v5, rfl, hown5, hk5⟩
       obtain ⟨A5, c5, rfl, hc5, hm5, hrd5⟩ := own_form hown5))
  go_ret
  exact ⟨ret_bool (by simp [StepR.put, fitsD]), keep_trans (keep_trans (keep_trans (keep_trans ((Below.refl _ _).alloc (Nat.le_refl _) _) hk2) hk3) hk4) hk5⟩

end Go.Proofs.Ytofcjfkakmlbbaa
