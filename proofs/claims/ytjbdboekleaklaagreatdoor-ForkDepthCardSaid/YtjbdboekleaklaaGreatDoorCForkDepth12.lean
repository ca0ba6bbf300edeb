/- Texts merged by pack.py: Tl. -/
import Derived.Test.YtjbdboekleaklaaGreatDoorCx11
/- ForkDepth: the walk. -/
set_option linter.unusedSimpArgs false
set_option linter.unusedVariables false
namespace Go.Proofs.YtjbdboekleaklaaGreatDoor
open Go.RowKit
attribute [local go_sem ↓] Go.wp_at_zero Go.wp_at_succ

theorem line_some {ns : List Nd} (TR : Tr ns) {i : Int} {k x : Nat} (h : (lineO ns i)[k]? = some x) : ∃ n : Nat, i = n ∧ n < ns.length ∧ k ≤ hgtN ns n ∧ x = abvN ns n k ∧ x < ns.length ∧ hgtN ns x = k := by
  unfold lineO at h
  split at h
  · rename_i hc
    have hk := (List.getElem?_eq_some_iff.1 h).1
    rw [line_len] at hk
    rw [line_abv (by omega)] at h
    have hx := Option.some.inj h
    obtain ⟨-, a, b⟩ := TR.abv hc.2 (h := k) (by omega)
    rw [hx] at a b
    exact ⟨i.toNat, by omega, hc.2, by omega, hx.symm, a, b⟩
  · simp at h
theorem dep_some {ns : List Nd} (TR : Tr ns) {i j : Int} {d : Nat} (h : depR ns i j = some d) : ∃ k, (∃ x : Nat, (lineO ns i)[k]? = some x ∧ (x : Int) = j) ∧ d + k = (lineO ns i).length ∧ ∀ m x : Nat, (lineO ns i)[m]? = some x → (x : Int) = j → m = k := by
  unfold depR at h
  split at h
  · rename_i hc
    obtain ⟨hs, ha⟩ := hc
    obtain ⟨q, hq, hqj⟩ : ∃ q, abvO ns i (((nodeO ns j).getD nd0).hgt : Int) = some q ∧ (q : Int) = j := by
      cases hq : abvO ns i (((nodeO ns j).getD nd0).hgt : Int) with
      | none => rw [hq] at ha; cases ha
      | some q => rw [hq] at ha; exact ⟨q, rfl, by simpa using ha⟩
    obtain ⟨n, g, h1, h2, h3, h4, h5⟩ := abvO_some hq
    obtain ⟨y, hy⟩ := Option.isSome_iff_exists.1 hs
    rw [hy] at h h2
    simp only [Option.getD_some] at h h2
    have hL : lineO ns i = lineN ns n := by unfold lineO; rw [if_pos ⟨by omega, by omega⟩, h1]; simp
    have hgk : (lineO ns i)[g]? = some q := by rw [hL, line_abv h4, h5]
    refine ⟨g, ⟨q, hgk, hqj⟩, ?_, fun m x hm hx => ?_⟩
    · have hd := Option.some.inj h
      rw [hL, line_len]
      rw [h1, Int.toNat_natCast] at hd
      have : y.hgt = g := by omega
      omega
    · obtain ⟨-, -, -, -, -, -, e1⟩ := line_some TR hm
      obtain ⟨-, -, -, -, -, -, e2⟩ := line_some TR hgk
      have : x = q := by omega
      rw [this] at e1
      omega
  · cases h
theorem dep_none {ns : List Nd} (TR : Tr ns) {i j : Int} (h : depR ns i j = none) (m x : Nat) (hm : (lineO ns i)[m]? = some x) : (x : Int) ≠ j := fun hx => by
  obtain ⟨n, h1, h2, h3, h4, h5, h6⟩ := line_some TR hm
  have hn : nodeO ns j = some ns[x] := by rw [← hx, nodeO_nat, List.getElem?_eq_getElem h5]
  have hh : ns[x].hgt = m := by rw [← hgtN_of (List.getElem?_eq_getElem h5)]; exact h6
  have ha : abvO ns i (m : Int) = some x := by
    unfold abvO
    rw [h1, nodeO_nat, List.getElem?_eq_getElem h2]
    rw [hgtN_of (List.getElem?_eq_getElem h2)] at h3
    rw [if_pos ⟨rfl, by omega, by simp; omega⟩]
    simp [h4]
  unfold depR at h
  rw [hn] at h
  simp only [Option.getD_some, hh, ha] at h
  rw [if_pos ⟨rfl, by simp [hx]⟩] at h
  cases h

set_option maxRecDepth 100000 in
set_option maxHeartbeats 8000000 in
theorem depth_walk (B : Option Addr) (l : List Hd) (d : Nat) (i j : Int) (w : World) (hS : ShaOk w) (hd : l.length ≤ d) (hdm : d ≤ maxLen) (hr : Rd w B (l.flatMap Hd.cells)) (hk : ∀ h ∈ l, h.ok)
    (hi : -9223372036854775808 ≤ i ∧ i ≤ 9223372036854775807) (hj : -9223372036854775808 ≤ j ∧ j ≤ 9223372036854775807) :
    Calls Tryz.prog 4 #[.slice B l.length d, iv i, iv j] w fun e w' => e = .returned (.bool true) ∧ Keep w w' := by
  have AW : Hid (∀ y, Keep w y → Calls Tryz.prog 8 #[] y fun e w' => e = .returned (.bool true) ∧ Keep y w') := Lib.hid fun y hy => awake_any y (hS.keep hy)
  have PL : Hid (∀ y, Keep w y → l.length ≤ 30 → Calls Tryz.prog 9 #[.slice B l.length d] y fun e w' => ∃ T, e = .returned (pT T) ∧ TrR w' T (plainR l) ∧ Keep y w') := Lib.hid fun y hy h1 =>
    (plainly_any B l d y (hS.keep hy) (by omega) (hr.keep hy) hk).mono fun e w' ⟨T, M, v, h2, h3, h4⟩ => ⟨T, h2, h3.r, h4⟩
  obtain ⟨TR, hlen⟩ := plain_tr l hk
  have L1 : Hid (∀ y T, TrR y T (plainR l) → l.length ≤ 30 → Calls Tryz.prog 12 #[pT T, iv i] y (Lined y.heap.size (lineO (plainR l) i) y)) := Lib.hid fun y T hy h1 => line_any T _ i y hy TR (by omega) hi
  have D1 : Hid (∀ y T, TrR y T (plainR l) → l.length ≤ 30 → Calls Tryz.prog 14 #[pT T, iv i, iv j] y fun e w' => e = .returned (.tuple #[iv ((depR (plainR l) i j).getD 0 : Nat), .bool (depR (plainR l) i j).isSome]) ∧ Keep y w') := Lib.hid fun y T hy h1 => depth_any T _ i j y hy TR (by omega) hj hi
  have HLL : Hid (l.length ≤ 30 → (lineO (plainR l) i).length ≤ 30) := Lib.hid fun h1 => by have := lineO_len TR i; omega
  have HS : Hid (∀ d, depR (plainR l) i j = some d → ∃ k, (∃ x : Nat, (lineO (plainR l) i)[k]? = some x ∧ (x : Int) = j) ∧ d + k = (lineO (plainR l) i).length ∧ ∀ m x : Nat, (lineO (plainR l) i)[m]? = some x → (x : Int) = j → m = k) := Lib.hid fun d h => dep_some TR h
  have HN : Hid (depR (plainR l) i j = none → ∀ m x : Nat, (lineO (plainR l) i)[m]? = some x → (x : Int) ≠ j) := Lib.hid fun h => dep_none TR h
  clear hS hr hk hd hdm TR hlen
  generalize depR (plainR l) i j = DR at *
  generalize lineO (plainR l) i = L at *
  generalize plainR l = ns at *
  generalize l.length = n at *
  unfold Lined at *
  have HK : Hid (Keep w w) := Lib.hid (Below.refl _ _)
  go_enter Tryz.func4, Tryz.ntmps4
  go_wp2_with fail
  refine (AW.out _ HK.out).mono ?_
  clear AW
  rintro e w1 ⟨rfl, k1⟩
  have HK1 := Lib.hid k1
  clear k1 HK
  by_cases hn : 30 < n
  · have d1 : (30 : Int) < n := by omega
    clear PL L1 D1 HLL HS HN
    go_wp2
    exact bodyPost_ret (v := .bool true) (by simp [results, Tryz.results4]) rfl ⟨rfl, HK1.out⟩
  have d1 : ¬ (30 : Int) < n := by omega
  have hn2 : n ≤ 30 := by omega
  have hL30 := HLL.out hn2
  go_wp2_with fail
  refine (PL.out _ HK1.out hn2).mono ?_
  clear PL
  rintro e w2 ⟨T, rfl, hT, k2⟩
  have HT2 := Lib.hid hT; have HK2 := Lib.hid (keep_trans HK1.out k2)
  clear hT k2 HK1
  go_wp2_with fail
  refine (L1.out _ T HT2.out hn2).mono ?_
  clear L1
  rintro e w3 ⟨v3, rfl, hown, k3⟩
  obtain ⟨A3, c3, rfl, hc3, hm3, hr3⟩ := own_form hown
  have HT3 := Lib.hid (HT2.out.keep k3); have HK3 := Lib.hid (keep_trans HK2.out k3)
  have RL := Lib.hid hr3
  clear hown hr3 k3 HT2 HK2
  go_wp2_with fail
  refine (D1.out _ T HT3.out hn2).mono ?_
  clear D1
  rintro e w4 ⟨rfl, k4⟩
  have HK4 := Lib.hid (keep_trans HK3.out k4)
  have RL4 := Lib.hid (RL.out.keep k4)
  clear k4 HT3 HK3 RL
  go_wp2_with fail
  go_loopw [12, 13] (fun f s wr => ∃ k : Nat, k ≤ L.length ∧ s = .int .i64 k ∧ wr = w4 ∧ ((f = .int .i64 (-1) ∧ ∀ m x : Nat, m < k → L[m]? = some x → (x : Int) ≠ j) ∨ ∃ k0 : Nat, f = .int .i64 k0 ∧ k0 < k ∧ ∃ x : Nat, L[k0]? = some x ∧ (x : Int) = j)) (fun _ s _ => L.length - (intOf s).toNat)
  case atStart => exact ⟨0, Nat.zero_le _, rfl, rfl, .inl ⟨rfl, fun m x hm => absurd hm (Nat.not_lt_zero _)⟩⟩
  case round =>
    obtain ⟨k, hkl, rfl, rfl, hf⟩ := hrel
    have HF := Lib.hid hf
    clear hf
    by_cases hlt : k < L.length
    · obtain ⟨x, hx⟩ : ∃ x, L[k]? = some x := ⟨_, List.getElem?_eq_getElem hlt⟩
      obtain ⟨b, off, hA0, hcx⟩ := nv_at RL4.out hx
      cases hA0
      have HX := Lib.hid hx
      have d2 : (k : Int) < L.length := by omega
      clear hx
      by_cases hxj : (x : Int) = j
      · subst hxj
        have s1 : ((x : Int) == (x : Int)) = true := beq_self_eq_true _
        clear HF HS HN
        go_wp2
        go_roundw
        case rel => exact ⟨k + 1, by omega, by go_num, by first | rfl | trivial, .inr ⟨k, by first | rfl | trivial, by omega, x, HX.out, rfl⟩⟩
        case measure => simp [intOf]; omega
      · have s1 : ((x : Int) == j) = false := by simp [hxj]
        clear HS HN
        go_wp2
        go_roundw
        case rel =>
          refine ⟨k + 1, by omega, by go_num, by first | rfl | trivial, ?_⟩
          rcases HF.out with ⟨h1, h2⟩ | ⟨k0, h1, h2, h3⟩
          · refine .inl ⟨h1, fun m y hm hy => ?_⟩
            by_cases q : m = k
            · rw [q, HX.out] at hy
              rw [← Option.some.inj hy]; exact hxj
            · exact h2 m y (by omega) hy
          · exact .inr ⟨k0, h1, by omega, h3⟩
        case measure => simp [intOf]; omega
    · obtain rfl : k = L.length := by omega
      have d2 : ¬ ((L.length : Int) < L.length) := by omega
      cases DR with
      | none =>
        have hall := HN.out rfl
        rcases HF.out with ⟨h1, h2⟩ | ⟨k0, h1, h2, x, h3, h4⟩
        · subst h1
          clear HF HS HN hall h2
          go_wp2
          exact bodyPost_ret (v := .bool true) (by simp [results, Tryz.results4]) rfl ⟨rfl, HK4.out⟩
        · exact absurd h4 (hall k0 x h3)
      | some dd =>
        obtain ⟨k1, ⟨x1, hx1, hx2⟩, hdk, huni⟩ := HS.out dd rfl
        rcases HF.out with ⟨h1, h2⟩ | ⟨k0, h1, h2, x, h3, h4⟩
        · exact absurd hx2 (h2 k1 x1 (List.getElem?_eq_some_iff.1 hx1).1 hx1)
        · have hkk := huni k0 x h3 h4
          subst h1
          have f1 : (L.length : Int) - (k0 : Int) = (dd : Int) := by omega
          have f2 : IntKind.i64.wrap (dd : Int) = dd := IntWalk.i64_in _ (by omega)
          have f3 : (0 : Int) ≤ (k0 : Int) := by omega
          have s1 : ((dd : Int) == (dd : Int)) = true := beq_self_eq_true _
          clear HF HS HN huni hx1 hx2 hdk h3 h4 hkk
          go_wp2
          exact bodyPost_ret (v := .bool true) (by simp [results, Tryz.results4]) rfl ⟨rfl, HK4.out⟩
end Go.Proofs.YtjbdboekleaklaaGreatDoor
