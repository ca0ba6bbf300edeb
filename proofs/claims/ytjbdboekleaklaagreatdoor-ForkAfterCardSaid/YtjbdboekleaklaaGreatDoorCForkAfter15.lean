/- Texts merged by pack.py: Tl, Tq0, Rl, Tu0, Tu, Tv. -/
import Derived.Test.YtjbdboekleaklaaGreatDoorCx11
import Derived.Test.YtjbdboekleaklaaGreatDoorCx10
/- ForkDepth: the walk. -/
set_option linter.unusedSimpArgs false
set_option linter.unusedVariables false
namespace Go.Proofs.YtjbdboekleaklaaGreatDoor
open Go.RowKit
attribute [local go_sem ↓] Go.wp_at_zero Go.wp_at_succ

theorem line_some {ns : List Nd} (TR : Tr ns) {i : Int} {k x : Nat} (h : (lineO ns i)[k]? = some x) : ∃ n : Nat, i = n ∧ n < ns.length ∧ k ≤ hgtN ns n ∧ x = abvN ns n k ∧ x < ns.length ∧ hgtN ns x = k := by
  unfold lineO at h
  split at h
  · rename_i hc
    have hk := (List.getElem?_eq_some_iff.1 h).1
    rw [line_len] at hk
    rw [line_abv (by omega)] at h
    have hx := Option.some.inj h
    obtain ⟨-, a, b⟩ := TR.abv hc.2 (h := k) (by omega)
    rw [hx] at a b
    exact ⟨i.toNat, by omega, hc.2, by omega, hx.symm, a, b⟩
  · simp at h
theorem dep_some {ns : List Nd} (TR : Tr ns) {i j : Int} {d : Nat} (h : depR ns i j = some d) : ∃ k, (∃ x : Nat, (lineO ns i)[k]? = some x ∧ (x : Int) = j) ∧ d + k = (lineO ns i).length ∧ ∀ m x : Nat, (lineO ns i)[m]? = some x → (x : Int) = j → m = k := by
  unfold depR at h
  split at h
  · rename_i hc
    obtain ⟨hs, ha⟩ := hc
    obtain ⟨q, hq, hqj⟩ : ∃ q, abvO ns i (((nodeO ns j).getD nd0).hgt : Int) = some q ∧ (q : Int) = j := by
      cases hq : abvO ns i (((nodeO ns j).getD nd0).hgt : Int) with
      | none => rw [hq] at ha; cases ha
      | some q => rw [hq] at ha; exact ⟨q, rfl, by simpa using ha⟩
    obtain ⟨n, g, h1, h2, h3, h4, h5⟩ := abvO_some hq
    obtain ⟨y, hy⟩ := Option.isSome_iff_exists.1 hs
    rw [hy] at h h2
    simp only [Option.getD_some] at h h2
    have hL : lineO ns i = lineN ns n := by unfold lineO; rw [if_pos ⟨by omega, by omega⟩, h1]; simp
    have hgk : (lineO ns i)[g]? = some q := by rw [hL, line_abv h4, h5]
    refine ⟨g, ⟨q, hgk, hqj⟩, ?_, fun m x hm hx => ?_⟩
    · have hd := Option.some.inj h
      rw [hL, line_len]
      rw [h1, Int.toNat_natCast] at hd
      have : y.hgt = g := by omega
      omega
    · obtain ⟨-, -, -, -, -, -, e1⟩ := line_some TR hm
      obtain ⟨-, -, -, -, -, -, e2⟩ := line_some TR hgk
      have : x = q := by omega
      rw [this] at e1
      omega
  · cases h
theorem dep_none {ns : List Nd} (TR : Tr ns) {i j : Int} (h : depR ns i j = none) (m x : Nat) (hm : (lineO ns i)[m]? = some x) : (x : Int) ≠ j := fun hx => by
  obtain ⟨n, h1, h2, h3, h4, h5, h6⟩ := line_some TR hm
  have hn : nodeO ns j = some ns[x] := by rw [← hx, nodeO_nat, List.getElem?_eq_getElem h5]
  have hh : ns[x].hgt = m := by rw [← hgtN_of (List.getElem?_eq_getElem h5)]; exact h6
  have ha : abvO ns i (m : Int) = some x := by
    unfold abvO
    rw [h1, nodeO_nat, List.getElem?_eq_getElem h2]
    rw [hgtN_of (List.getElem?_eq_getElem h2)] at h3
    rw [if_pos ⟨rfl, by omega, by simp; omega⟩]
    simp [h4]
  unfold depR at h
  rw [hn] at h
  simp only [Option.getD_some, hh, ha] at h
  rw [if_pos ⟨rfl, by simp [hx]⟩] at h
  cases h

set_option maxRecDepth 100000 in
set_option maxHeartbeats 8000000 in
theorem depth_walk (B : Option Addr) (l : List Hd) (d : Nat) (i j : Int) (w : World) (hS : ShaOk w) (hd : l.length ≤ d) (hdm : d ≤ maxLen) (hr : Rd w B (l.flatMap Hd.cells)) (hk : ∀ h ∈ l, h.ok)
    (hi : -9223372036854775808 ≤ i ∧ i ≤ 9223372036854775807) (hj : -9223372036854775808 ≤ j ∧ j ≤ 9223372036854775807) :
    Calls Tryz.prog 4 #[.slice B l.length d, iv i, iv j] w fun e w' => e = .returned (.bool true) ∧ Keep w w' := by
  have AW : Hid (∀ y, Keep w y → Calls Tryz.prog 8 #[] y fun e w' => e = .returned (.bool true) ∧ Keep y w') := Lib.hid fun y hy => awake_any y (hS.keep hy)
  have PL : Hid (∀ y, Keep w y → l.length ≤ 30 → Calls Tryz.prog 9 #[.slice B l.length d] y fun e w' => ∃ T, e = .returned (pT T) ∧ TrR w' T (plainR l) ∧ Keep y w') := Lib.hid fun y hy h1 =>
    (plainly_any B l d y (hS.keep hy) (by omega) (hr.keep hy) hk).mono fun e w' ⟨T, M, v, h2, h3, h4⟩ => ⟨T, h2, h3.r, h4⟩
  obtain ⟨TR, hlen⟩ := plain_tr l hk
  have L1 : Hid (∀ y T, TrR y T (plainR l) → l.length ≤ 30 → Calls Tryz.prog 12 #[pT T, iv i] y (Lined y.heap.size (lineO (plainR l) i) y)) := Lib.hid fun y T hy h1 => line_any T _ i y hy TR (by omega) hi
  have D1 : Hid (∀ y T, TrR y T (plainR l) → l.length ≤ 30 → Calls Tryz.prog 14 #[pT T, iv i, iv j] y fun e w' => e = .returned (.tuple #[iv ((depR (plainR l) i j).getD 0 : Nat), .bool (depR (plainR l) i j).isSome]) ∧ Keep y w') := Lib.hid fun y T hy h1 => depth_any T _ i j y hy TR (by omega) hj hi
  have HLL : Hid (l.length ≤ 30 → (lineO (plainR l) i).length ≤ 30) := Lib.hid fun h1 => by have := lineO_len TR i; omega
  have HS : Hid (∀ d, depR (plainR l) i j = some d → ∃ k, (∃ x : Nat, (lineO (plainR l) i)[k]? = some x ∧ (x : Int) = j) ∧ d + k = (lineO (plainR l) i).length ∧ ∀ m x : Nat, (lineO (plainR l) i)[m]? = some x → (x : Int) = j → m = k) := Lib.hid fun d h => dep_some TR h
  have HN : Hid (depR (plainR l) i j = none → ∀ m x : Nat, (lineO (plainR l) i)[m]? = some x → (x : Int) ≠ j) := Lib.hid fun h => dep_none TR h
  clear hS hr hk hd hdm TR hlen
  generalize depR (plainR l) i j = DR at *
  generalize lineO (plainR l) i = L at *
  generalize plainR l = ns at *
  generalize l.length = n at *
  unfold Lined at *
  have HK : Hid (Keep w w) := Lib.hid (Below.refl _ _)
  go_enter Tryz.func4, Tryz.ntmps4
  go_wp2_with fail
  refine (AW.out _ HK.out).mono ?_
  clear AW
  rintro e w1 ⟨rfl, k1⟩
  have HK1 := Lib.hid k1
  clear k1 HK
  by_cases hn : 30 < n
  · have d1 : (30 : Int) < n := by omega
    clear PL L1 D1 HLL HS HN
    go_wp2
    exact bodyPost_ret (v := .bool true) (by simp [results, Tryz.results4]) rfl ⟨rfl, HK1.out⟩
  have d1 : ¬ (30 : Int) < n := by omega
  have hn2 : n ≤ 30 := by omega
  have hL30 := HLL.out hn2
  go_wp2_with fail
  refine (PL.out _ HK1.out hn2).mono ?_
  clear PL
  rintro e w2 ⟨T, rfl, hT, k2⟩
  have HT2 := Lib.hid hT; have HK2 := Lib.hid (keep_trans HK1.out k2)
  clear hT k2 HK1
  go_wp2_with fail
  refine (L1.out _ T HT2.out hn2).mono ?_
  clear L1
  rintro e w3 ⟨v3, rfl, hown, k3⟩
  obtain ⟨A3, c3, rfl, hc3, hm3, hr3⟩ := own_form hown
  have HT3 := Lib.hid (HT2.out.keep k3); have HK3 := Lib.hid (keep_trans HK2.out k3)
  have RL := Lib.hid hr3
  clear hown hr3 k3 HT2 HK2
  go_wp2_with fail
  refine (D1.out _ T HT3.out hn2).mono ?_
  clear D1
  rintro e w4 ⟨rfl, k4⟩
  have HK4 := Lib.hid (keep_trans HK3.out k4)
  have RL4 := Lib.hid (RL.out.keep k4)
  clear k4 HT3 HK3 RL
  go_wp2_with fail
  go_loopw [12, 13] (fun f s wr => ∃ k : Nat, k ≤ L.length ∧ s = .int .i64 k ∧ wr = w4 ∧ ((f = .int .i64 (-1) ∧ ∀ m x : Nat, m < k → L[m]? = some x → (x : Int) ≠ j) ∨ ∃ k0 : Nat, f = .int .i64 k0 ∧ k0 < k ∧ ∃ x : Nat, L[k0]? = some x ∧ (x : Int) = j)) (fun _ s _ => L.length - (intOf s).toNat)
  case atStart => exact ⟨0, Nat.zero_le _, rfl, rfl, .inl ⟨rfl, fun m x hm => absurd hm (Nat.not_lt_zero _)⟩⟩
  case round =>
    obtain ⟨k, hkl, rfl, rfl, hf⟩ := hrel
    have HF := Lib.hid hf
    clear hf
    by_cases hlt : k < L.length
    · obtain ⟨x, hx⟩ : ∃ x, L[k]? = some x := ⟨_, List.getElem?_eq_getElem hlt⟩
      obtain ⟨b, off, hA0, hcx⟩ := nv_at RL4.out hx
      cases hA0
      have HX := Lib.hid hx
      have d2 : (k : Int) < L.length := by omega
      clear hx
      by_cases hxj : (x : Int) = j
      · subst hxj
        have s1 : ((x : Int) == (x : Int)) = true := beq_self_eq_true _
        clear HF HS HN
        go_wp2
        go_roundw
        case rel => exact ⟨k + 1, by omega, by go_num, by first | rfl | trivial, .inr ⟨k, by first | rfl | trivial, by omega, x, HX.out, rfl⟩⟩
        case measure => simp [intOf]; omega
      · have s1 : ((x : Int) == j) = false := by simp [hxj]
        clear HS HN
        go_wp2
        go_roundw
        case rel =>
          refine ⟨k + 1, by omega, by go_num, by first | rfl | trivial, ?_⟩
          rcases HF.out with ⟨h1, h2⟩ | ⟨k0, h1, h2, h3⟩
          · refine .inl ⟨h1, fun m y hm hy => ?_⟩
            by_cases q : m = k
            · rw [q, HX.out] at hy
              rw [← Option.some.inj hy]; exact hxj
            · exact h2 m y (by omega) hy
          · exact .inr ⟨k0, h1, by omega, h3⟩
        case measure => simp [intOf]; omega
    · obtain rfl : k = L.length := by omega
      have d2 : ¬ ((L.length : Int) < L.length) := by omega
      cases DR with
      | none =>
        have hall := HN.out rfl
        rcases HF.out with ⟨h1, h2⟩ | ⟨k0, h1, h2, x, h3, h4⟩
        · subst h1
          clear HF HS HN hall h2
          go_wp2
          exact bodyPost_ret (v := .bool true) (by simp [results, Tryz.results4]) rfl ⟨rfl, HK4.out⟩
        · exact absurd h4 (hall k0 x h3)
      | some dd =>
        obtain ⟨k1, ⟨x1, hx1, hx2⟩, hdk, huni⟩ := HS.out dd rfl
        rcases HF.out with ⟨h1, h2⟩ | ⟨k0, h1, h2, x, h3, h4⟩
        · exact absurd hx2 (h2 k1 x1 (List.getElem?_eq_some_iff.1 hx1).1 hx1)
        · have hkk := huni k0 x h3 h4
          subst h1
          have f1 : (L.length : Int) - (k0 : Int) = (dd : Int) := by omega
          have f2 : IntKind.i64.wrap (dd : Int) = dd := IntWalk.i64_in _ (by omega)
          have f3 : (0 : Int) ≤ (k0 : Int) := by omega
          have s1 : ((dd : Int) == (dd : Int)) = true := beq_self_eq_true _
          clear HF HS HN huni hx1 hx2 hdk h3 h4 hkk
          go_wp2
          exact bodyPost_ret (v := .bool true) (by simp [results, Tryz.results4]) rfl ⟨rfl, HK4.out⟩
end Go.Proofs.YtjbdboekleaklaaGreatDoor

/- The plain law of a locator; a hash in a row of hashes. -/
set_option linter.unusedSimpArgs false
set_option linter.unusedVariables false
namespace Go.Proofs.YtjbdboekleaklaaGreatDoor
open Go.RowKit

theorem hash_at {w : World} {B : Option Addr} {l : List (List UInt8)} (hr : Rd w B (hsL l)) (hk : ∀ h ∈ l, h.length = 32) {k : Nat} (h : k < l.length) :
    ∃ b off, B = some ⟨b, off, none⟩ ∧ b < w.heap.size ∧ w.rangeAt b (off + k * 32) (l[k].map u8v) := by
  have hlen : ∀ a ∈ l, (a.map u8v).length = 32 := fun a ha => by rw [List.length_map]; exact hk a ha
  unfold hsL at hr
  obtain ⟨b, off, rfl, hb, F⟩ := hr.at (k := k * 32) (by rw [flatMap_len' _ 32 _ hlen]; omega)
  refine ⟨b, off, rfl, hb, fun j v hv => ?_⟩
  have hj : j < 32 := by rw [← hlen l[k] (List.getElem_mem h)]; exact (List.getElem?_eq_some_iff.1 hv).1
  have hg := flatMap_get' (fun a : List UInt8 => a.map u8v) 32 l hlen k j h hj
  have hlt : k * 32 + j < (l.flatMap fun a => a.map u8v).length := by rw [flatMap_len' _ 32 _ hlen]; omega
  have hc := F (k * 32 + j) hlt
  rw [Nat.add_assoc, hc, ← hv, ← hg, List.getElem?_eq_getElem hlt]

theorem locH_head (f x s c : Nat) (h : x ≤ f) : (locH f x s c ++ [0])[0]? = some x := by
  cases f with
  | zero => obtain rfl : x = 0 := by omega
            rfl
  | succ f => by_cases h0 : x = 0
              · subst h0; simp [locH]
              · simp [locH, h0]
theorem locH_get : ∀ (f x s c : Nat), x ≤ f → 1 ≤ s → ∀ k g, (locH f x s c ++ [0])[k]? = some g → g ≤ x ∧ (0 < k → ∃ p, (locH f x s c ++ [0])[k - 1]? = some p ∧ g < p)
  | 0, x, s, c, hx, _, k, g, hg => by
    obtain rfl : x = 0 := by omega
    rw [locH_zero] at hg ⊢
    obtain ⟨h1, h2⟩ := List.getElem?_eq_some_iff.1 hg
    simp at h1
    subst h1
    simp at h2
    exact ⟨by omega, fun q => absurd q (Nat.lt_irrefl _)⟩
  | f + 1, x, s, c, hx, hs, k, g, hg => by
    by_cases h0 : x = 0
    · subst h0
      rw [locH_zero] at hg ⊢
      obtain ⟨h1, h2⟩ := List.getElem?_eq_some_iff.1 hg
      simp at h1
      subst h1
      simp at h2
      exact ⟨by omega, fun q => absurd q (Nat.lt_irrefl _)⟩
    · have hst : 1 ≤ stpN s c := by unfold stpN; split <;> omega
      have e : locH (f + 1) x s c ++ [0] = x :: (locH f (x - stpN s c) (stpN s c) (c + 1) ++ [0]) := by simp only [locH]; rw [if_neg h0]; rfl
      rw [e] at hg ⊢
      cases k with
      | zero => simp at hg; exact ⟨by omega, fun q => absurd q (Nat.lt_irrefl _)⟩
      | succ k =>
        rw [List.getElem?_cons_succ] at hg
        obtain ⟨a1, a2⟩ := locH_get f _ _ (c + 1) (by omega) hst k g hg
        refine ⟨by omega, fun _ => ?_⟩
        rw [Nat.add_sub_cancel]
        cases k with
        | zero => exact ⟨x, rfl, by omega⟩
        | succ k => obtain ⟨p, h1, h2⟩ := a2 (Nat.succ_pos _)
                    exact ⟨p, h1, h2⟩
theorem locH_len2 : ∀ (k f x s c : Nat), 9 ≤ c → x + 2 * s ≤ s * 2 ^ (k + 1) → (locH f x s c).length ≤ k
  | k, 0, x, s, c, _, _ => Nat.zero_le _
  | 0, f + 1, x, s, c, hc, h => by
    have : x = 0 := by rw [Nat.zero_add, Nat.pow_one] at h; omega
    subst this; rw [locH_zero]; exact Nat.le_refl _
  | k + 1, f + 1, x, s, c, hc, h => by
    by_cases h0 : x = 0
    · subst h0; rw [locH_zero]; exact Nat.zero_le _
    · simp only [locH]; rw [if_neg h0]
      have e : stpN s c = 2 * s := by unfold stpN; rw [if_pos (by omega)]
      rw [e, List.length_cons]
      have := locH_len2 k f (x - 2 * s) (2 * s) (c + 1) (by omega) (by
        have q : s * 2 ^ (k + 1 + 1) = 2 * s * 2 ^ (k + 1) := by rw [Nat.pow_succ, Nat.mul_comm 2 s, Nat.mul_assoc, Nat.mul_comm 2 (2 ^ _)]
        rw [← q]
        have p1 : 2 ^ (k + 1) = 2 * 2 ^ k := by rw [Nat.pow_succ]; omega
        have p2 : 1 ≤ 2 ^ k := Nat.one_le_two_pow
        have p3 : 4 * s ≤ s * 2 ^ (k + 1 + 1) := by
          rw [Nat.mul_comm 4 s]; exact Nat.mul_le_mul_left s (by rw [Nat.pow_succ, Nat.pow_succ]; omega)
        omega)
      omega
theorem locH_len1 : ∀ (j f x k : Nat), j ≤ 9 → (x - j) + 2 ≤ 2 ^ (k + 1) → (locH f x 1 (9 - j)).length ≤ j + k
  | 0, f, x, k, _, h => by
    have := locH_len2 k f x 1 9 (by omega) (by rw [Nat.one_mul]; omega)
    rw [Nat.sub_zero]; omega
  | j + 1, 0, x, k, _, _ => Nat.zero_le _
  | j + 1, f + 1, x, k, hj, h => by
    by_cases h0 : x = 0
    · subst h0; rw [locH_zero]; exact Nat.zero_le _
    · simp only [locH]; rw [if_neg h0]
      have e : stpN 1 (9 - (j + 1)) = 1 := by unfold stpN; rw [if_neg (by omega)]
      rw [e, List.length_cons, show 9 - (j + 1) + 1 = 9 - j by omega]
      have := locH_len1 j f (x - 1) k (by omega) (by rw [show x - 1 - j = x - (j + 1) by omega]; exact h)
      omega
theorem locH_len {n d : Nat} (h : n / 2 ^ d = 0) : (locH n n 1 0 ++ [0]).length ≤ 12 + d := by
  have hlt : n < 2 ^ d := by
    rcases Nat.div_eq_zero_iff.1 h with h | h
    · have := Nat.two_pow_pos d; omega
    · exact h
  have := locH_len1 9 n n d (by omega) (by rw [Nat.pow_succ]; have := Nat.two_pow_pos d; omega)
  rw [Nat.sub_self] at this
  rw [List.length_append]
  simp
  omega

theorem loc_none {ns : List Nd} {i : Int} (h : nodeO ns i = none) : locN ns i = [] := by
  have hL : lineO ns i = [] := by
    unfold lineO
    split
    · rename_i hc
      unfold nodeO at h
      rw [if_pos hc.1, List.getElem?_eq_getElem hc.2] at h
      cases h
    · rfl
  unfold locN locL
  rw [hL, if_pos rfl]
  rfl
theorem loc_some {ns : List Nd} (TR : Tr ns) {i : Int} {y : Nd} (h : nodeO ns i = some y) : ∃ hs : List Nat, hs.length = (locN ns i).length ∧ 0 < hs.length ∧ hs[0]? = some y.hgt ∧ (locN ns i)[0]? = some y.id ∧
    hs[hs.length - 1]? = some 0 ∧ (∀ d, y.hgt / 2 ^ d = 0 → hs.length ≤ 12 + d) ∧ ∀ k g, hs[k]? = some g → g ≤ y.hgt ∧ (0 < k → ∃ p, hs[k - 1]? = some p ∧ g < p) ∧
      ∃ (I : List UInt8) (x : Nat) (z : Nd), (locN ns i)[k]? = some I ∧ findN ns I = some x ∧ nodeO ns x = some z ∧ z.hgt = g ∧ abvO ns i g = some x := by
  obtain ⟨m, hm, hml, hmh⟩ := nodeO_some h
  subst hm
  have hy : ns[m]? = some y := by rw [← nodeO_nat]; exact h
  have hL : lineO ns (m : Int) = lineN ns m := by unfold lineO; rw [if_pos ⟨by omega, by simpa using hml⟩]; simp
  have hne : ¬ lineN ns m = [] := fun q => by have := line_len ns m; rw [q] at this; simp at this
  have hloc : locN ns (m : Int) = (locH y.hgt y.hgt 1 0 ++ [0]).map fun k => idN ns ((lineN ns m).getD k 0) := by
    unfold locN locL
    rw [hL, if_neg hne, line_len, Nat.add_sub_cancel, hmh, List.map_map]
    rfl
  rw [hloc]
  refine ⟨locH y.hgt y.hgt 1 0 ++ [0], by simp, by simp, locH_head _ _ _ _ (Nat.le_refl _), ?_, by simp, fun d hd => locH_len hd, fun k g hg => ?_⟩
  · rw [List.getElem?_map, locH_head _ _ _ _ (Nat.le_refl _)]
    have e : (lineN ns m).getD y.hgt 0 = m := by
      rw [List.getD_eq_getElem?_getD, line_abv (by omega), ← hmh, abv_top]; rfl
    show some (idN ns ((lineN ns m).getD y.hgt 0)) = some y.id
    rw [e]; unfold idN; rw [hy]; rfl
  · obtain ⟨a1, a2⟩ := locH_get y.hgt y.hgt 1 0 (Nat.le_refl _) (Nat.le_refl _) k g hg
    obtain ⟨-, b1, b2⟩ := TR.abv hml (h := g) (by omega)
    have e : (lineN ns m).getD g 0 = abvN ns m g := by rw [List.getD_eq_getElem?_getD, line_abv (by omega)]; rfl
    have hz := List.getElem?_eq_getElem b1
    refine ⟨a1, a2, _, abvN ns m g, ns[abvN ns m g], by rw [List.getElem?_map, hg]; rfl, ?_, by rw [nodeO_nat]; exact hz, by rw [← hgtN_of hz]; exact b2, ?_⟩
    · show findN ns (idN ns ((lineN ns m).getD g 0)) = _
      rw [e]; unfold idN; rw [hz]; exact TR.find hz
    · unfold abvO
      rw [h]
      rw [if_pos ⟨rfl, by omega, by simp; omega⟩]
      simp
theorem loc_law {ns : List Nd} (TR : Tr ns) {i : Int} {y : Nd} (h : nodeO ns i = some y) : ∃ LA : Nat → Nat, LA 0 = y.hgt + 1 ∧ LA (locN ns i).length = 0 ∧ 0 < (locN ns i).length ∧ (locN ns i)[0]? = some y.id ∧
    (∀ d, y.hgt / 2 ^ d = 0 → (locN ns i).length ≤ 12 + d) ∧ ∀ k, k < (locN ns i).length → LA (k + 1) < LA k ∧ LA (k + 1) ≤ y.hgt ∧ ∃ (I : List UInt8) (x : Nat) (z : Nd), (locN ns i)[k]? = some I ∧ findN ns I = some x ∧ nodeO ns x = some z ∧ z.hgt = LA (k + 1) ∧ abvO ns i (LA (k + 1)) = some x := by
  obtain ⟨hs, h1, h2, h3, h4, h5, h6, h7⟩ := loc_some TR h
  rw [← h1]
  refine ⟨fun k => if k = 0 then y.hgt + 1 else hs.getD (k - 1) 0, if_pos rfl, ?_, h2, h4, h6, fun k hk => ?_⟩
  · show (if hs.length = 0 then _ else hs.getD (hs.length - 1) 0) = 0
    rw [if_neg (by omega), List.getD_eq_getElem?_getD, h5]; rfl
  · have hg := List.getElem?_eq_getElem hk
    obtain ⟨a1, a2, a3⟩ := h7 k _ hg
    have e : (if k + 1 = 0 then y.hgt + 1 else hs.getD (k + 1 - 1) 0) = hs[k] := by
      rw [if_neg (by omega), Nat.add_sub_cancel, List.getD_eq_getElem?_getD, hg]; rfl
    simp only [e]
    refine ⟨?_, a1, a3⟩
    by_cases h0 : k = 0
    · rw [if_pos h0]; omega
    · obtain ⟨p, p1, p2⟩ := a2 (by omega)
      rw [if_neg h0, List.getD_eq_getElem?_getD, p1]; exact p2
end Go.Proofs.YtjbdboekleaklaaGreatDoor

/- header.Linked. -/
set_option linter.unusedSimpArgs false
set_option linter.unusedVariables false
namespace Go.Proofs.YtjbdboekleaklaaGreatDoor
open Go.RowKit
attribute [local go_sem ↓] Go.wp_at_zero Go.wp_at_succ

/-- Does the header of an index stand on the one ahead? -/
def linkB (l : List Hd) (i : Nat) : Bool := i == 0 || (l.getD i hd0).prev == idL (l.getD (i - 1) hd0)
def linkN (l : List Hd) : Nat := ((List.range l.length).find? fun i => !linkB l i).getD l.length
theorem link_stop {l : List Hd} {k : Nat} (hk : k < l.length) (h0 : ∀ j, j < k → linkB l j = true) (h1 : linkB l k = false) : linkN l = k := by
  unfold linkN
  have h2 : (List.range l.length).find? (fun i => !linkB l i) = some k := by
    rw [List.find?_range_eq_some]
    exact ⟨by simpa using h1, by simpa using hk, fun j hj => by simpa using h0 j hj⟩
  rw [h2]; rfl
theorem link_all {l : List Hd} (h0 : ∀ j, j < l.length → linkB l j = true) : linkN l = l.length := by
  unfold linkN
  have h2 : (List.range l.length).find? (fun i => !linkB l i) = none := by
    rw [List.find?_eq_none]
    intro j hj
    have := h0 j (by simpa using hj)
    simpa using this
  rw [h2]; rfl
theorem link_le {l : List Hd} {n : Nat} (hn : n ≤ l.length) (h : ∀ j, j < n → linkB l j = true) : n ≤ linkN l := by
  unfold linkN
  cases hf : (List.range l.length).find? (fun i => !linkB l i) with
  | none => exact hn
  | some k =>
    rw [List.find?_range_eq_some] at hf
    obtain ⟨h1, h2, h3⟩ := hf
    by_cases hk : k < n
    · rw [h k hk] at h1; cases h1
    · exact Nat.le_of_not_lt hk

set_option maxRecDepth 100000 in
set_option maxHeartbeats 4000000 in
theorem linked_any (B : Option Addr) (l : List Hd) (d : Nat) (w : World) (hS : ShaOk w) (hl : l.length ≤ 100) (hr : Rd w B (l.flatMap Hd.cells)) (hk : ∀ h ∈ l, h.ok) :
    Calls Tryz.prog 20 #[.slice B l.length d] w fun e w' => e = .returned (iv (linkN l)) ∧ Keep w w' := by
  have STOP : Hid (∀ k, k < l.length → (∀ j, j < k → linkB l j = true) → linkB l k = false → linkN l = k) := Lib.hid fun k h1 h2 h3 => link_stop h1 h2 h3
  have ALL : Hid ((∀ j, j < l.length → linkB l j = true) → linkN l = l.length) := Lib.hid link_all
  have HAT : Hid (∀ k, k < l.length → ∃ b off, B = some ⟨b, off, none⟩ ∧ ∃ xs, HdA (l.getD k hd0) xs ∧ (l.getD k hd0).ok ∧ w.rangeAt b (off + k * 68) xs.toList) := Lib.hid fun k hlt => by
    obtain ⟨b, off, h1, -, h2⟩ := heads_at hr hk hlt
    have hx := HdA.of (hk _ (List.getElem_mem hlt))
    have e : l.getD k hd0 = l[k] := by simp [List.getD_eq_getElem?_getD, List.getElem?_eq_getElem hlt]
    refine ⟨b, off, h1, _, by rw [e]; exact hx, by rw [e]; exact hk _ (List.getElem_mem hlt), ?_⟩
    exact h2
  have I1 : Hid (∀ k y xs, Keep w y → HdA (l.getD k hd0) xs → (l.getD k hd0).ok → Calls Tryz.prog 21 #[.agg xs] y fun e w' => ∃ ds, e = .returned (.agg ds) ∧ HashA (idL (l.getD k hd0)) ds ∧ Keep y w') := Lib.hid fun k y xs hy hx ho => id_any _ xs y (hS.keep hy) ho hx
  have HLB : Hid (∀ k, k ≠ 0 → linkB l k = ((l.getD k hd0).prev == idL (l.getD (k - 1) hd0))) := Lib.hid fun k h0 => by unfold linkB; simp [h0]
  have HL0 : Hid (linkB l 0 = true) := Lib.hid rfl
  clear hr hS hk
  generalize linkN l = R at *
  obtain ⟨lk, hlk⟩ : ∃ f, linkB l = f := ⟨_, rfl⟩
  obtain ⟨at_, hat⟩ : ∃ f : Nat → Hd, (fun k => l.getD k hd0) = f := ⟨_, rfl⟩
  have hat' : ∀ k, l.getD k hd0 = at_ k := fun k => by rw [← hat]
  rw [hlk] at STOP ALL HLB HL0
  simp only [hat'] at HAT I1 HLB
  obtain ⟨ids, hid⟩ : ∃ f : Nat → List UInt8, (fun k => idL (at_ k)) = f ∧ ∀ k, (f k).length = 32 := ⟨_, rfl, fun k => idL_len _⟩
  have hid' : ∀ k, idL (at_ k) = ids k := fun k => by rw [← hid.1]
  have HIL := Lib.hid hid.2
  simp only [hid'] at I1 HLB
  clear hlk hat hat' hid hid'
  generalize l.length = n at *
  go_enter Tryz.func20, Tryz.ntmps20
  go_wp2_with fail
  go_loopw [6] (fun i wr => ∃ k : Nat, k ≤ n ∧ i = .int .i64 k ∧ Hid (∀ j, j < k → lk j = true) ∧ Hid (Keep w wr)) (fun i _ => n - (intOf i).toNat)
  case atStart => exact ⟨0, Nat.zero_le _, rfl, Lib.hid (fun j hj => absurd hj (Nat.not_lt_zero _)), Lib.hid (Below.refl _ _)⟩
  case round =>
    obtain ⟨k, hk, rfl, hz, HK⟩ := hrel
    by_cases hlt : k < n
    · by_cases hk0 : k = 0
      · subst hk0
        have d1 : ¬ (0 : Int) > 0 := by decide
        clear STOP ALL HAT I1 HLB
        go_upto_region 4 with fail
        refine wp_region_tree (.take [0,1,2,3,4,5,6,7,8,9,10,11,12] (.force [13] (.take [14,15] .done))) [] (by kernel_rfl) (by kernel_rfl) (fun w3 k3 => ?_)
        have HK3 := Lib.hid (keep_trans HK.out k3)
        refine mt_take w3 (Below.refl _ _) ?_
        simp only [pick_cons, pick_nil, nth_zero, nth_succ]
        repeat (go_big_quiet_step (fail))
        refine wpQuiet_nil (mt_force ?_)
        simp only [pick_cons, pick_nil, nth_zero, nth_succ]
        refine fc_skip rfl ?_
        simp only [Act.put, Array.set!_eq_setIfInBounds, List.setIfInBounds_toArray, List.set_cons_succ, List.set_cons_zero]
        refine fc_nil (mt_take w3 (Below.refl _ _) ?_)
        simp only [pick_cons, pick_nil, nth_zero, nth_succ]
        repeat (go_big_quiet_step (fail))
        refine wpQuiet_nil (mt_end ?_)
        clear HK k3
        go_wp2
        go_roundw
        case rel =>
          have hone : ∀ j, j < 1 → lk j = true := fun j hj => by
            obtain rfl : j = 0 := by omega
            exact HL0.out
          exact ⟨1, by omega, by go_num, Lib.hid hone, HK3⟩
        case measure => simp [intOf]; omega
      · obtain ⟨b, off, rfl, xs, hxs, hxo, hrx⟩ := HAT.out k hlt
        obtain ⟨b', off', hB, ys, hys, hyo, hry⟩ := HAT.out (k - 1) (by omega)
        cases hB
        obtain ⟨j, hj⟩ : ∃ j, k - 1 = j := ⟨_, rfl⟩
        have hj2 : (k : Int) - 1 = j := by omega
        have hjn : j < n := by omega
        have hLB := HLB.out k hk0
        rw [hj] at hry hys hyo hLB
        have I2 : Hid (∀ y, Keep w y → Calls Tryz.prog 21 #[.agg ys] y fun e w' => ∃ ds, e = .returned (.agg ds) ∧ HashA (ids j) ds ∧ Keep y w') := Lib.hid fun y hy => I1.out j y ys hy hys hyo
        have hyz := hys.z; have hyn := hys.n; have hyi := hys.i
        have hpl := hxo.1
        obtain ⟨pv, hpv⟩ : ∃ pv, HashA (at_ k).prev pv := ⟨_, HashA.of hpl⟩
        have hpz := hpv.z; have hpn := hpv.n; have hpi := hpv.i
        have hsub : ∀ i v, pv.toList[i]? = some v → xs.toList[1 + i]? = some v := fun i v hv => by
          have hi : i < 32 := by have h1 := (List.getElem?_eq_some_iff.1 hv).1; rw [Array.length_toList, hpz] at h1; exact h1
          rw [hpv.l] at hv
          rw [hxs.l, Nat.add_comm]
          unfold Hd.cells
          rw [List.getElem?_cons_succ, List.getElem?_append_left (by simp [hpl]; omega)]
          exact hv
        have RP0 : Hid (w.rangeAt b (off + k * 68 + 1) pv.toList) := Lib.hid fun i v hv => by
          have h1 := hrx (1 + i) v (hsub i v hv)
          rw [show off + k * 68 + (1 + i) = off + k * 68 + 1 + i by omega] at h1
          exact h1
        have RY0 := Lib.hid hry
        have Hpl := Lib.hid hpl; have Hpv := Lib.hid hpv
        have HLB2 := Lib.hid hLB
        have d1 : (0 : Int) < k := by omega
        have d2 : 0 < k := by omega
        clear HAT I1 HLB hLB hrx hry hys hyo hxs hxo hpl hpv hsub hj HL0
        generalize (at_ k).prev = PV at *
        go_upto_region 4 with fail
        refine wp_region_tree (.take [0,1,2,3,4,5,6,7,8,9,10,11,12] (.force [13] (.take [14,15] .done))) [] (by kernel_rfl) (by kernel_rfl) (fun w3 k3 => ?_)
        have HK3 := Lib.hid (keep_trans HK.out k3)
        have RY : Hid (w3.rangeAt b (off + j * 68) ys.toList) := Lib.hid fun i v hv => keep_cell HK3.out (RY0.out i v hv)
        have RP : Hid (w3.rangeAt b (off + k * 68 + 1) pv.toList) := Lib.hid fun i v hv => keep_cell HK3.out (RP0.out i v hv)
        clear k3 RY0 RP0 HK
        refine mt_take w3 (Below.refl _ _) ?_
        simp only [pick_cons, pick_nil, nth_zero, nth_succ]
        repeat (first
          | ((with_reducible refine wpQuiet_load_partg b (off + k * 68 + 1) pv (Eq.trans ?_ rfl) RP.out _ Tryz.underlying36 rfl hpi (Eq.trans ?_ rfl) ?_); rfl; rfl; simp only [Act.put, Array.set!_eq_setIfInBounds, List.setIfInBounds_toArray, List.set_cons_succ, List.set_cons_zero])
          | ((with_reducible refine wpQuiet_load_partg b (off + j * 68) ys (Eq.trans ?_ rfl) RY.out _ Tryz.underlying39 rfl hyi (Eq.trans ?_ rfl) ?_); rfl; rfl; simp only [Act.put, Array.set!_eq_setIfInBounds, List.setIfInBounds_toArray, List.set_cons_succ, List.set_cons_zero])
          | go_big_quiet_step (fail))
        refine wpQuiet_nil (mt_force ?_)
        simp only [pick_cons, pick_nil, nth_zero, nth_succ]
        refine fc_step rfl (fun K hK => ?_)
        go_simp
        (with_reducible refine (I2.out _ HK3.out).mono ?_)
        rintro e w4 ⟨ds, rfl, hds, k4⟩
        refine hK _ _ k4 ?_
        have heq : ∀ x, (Op.equalIn 10000 36 (.agg pv) (.agg ds)).run Tryz.prog (aft w4 x) = .ok (PV == ids j) (aft w4 x) := fun x => hash_in Hpv.out hds Hpl.out (HIL.out j) _
        have hdz := hds.z; have hdn := hds.n; have hdi := hds.i
        have HK4 := Lib.hid (keep_trans HK3.out k4)
        clear hK K hds k4 HK3 RY RP I2 Hpv Hpl
        obtain ⟨b1, hb1⟩ : ∃ b, (PV == ids j) = b := ⟨_, rfl⟩
        rw [hb1] at HLB2 heq
        clear hb1
        refine fc_nil (mt_take w4 (Below.refl _ _) ?_)
        simp only [pick_cons, pick_nil, nth_zero, nth_succ]
        repeat (go_big_quiet_step (fail))
        refine wpQuiet_nil (mt_end ?_)
        clear heq
        cases b1 with
        | true =>
          have hnext : Hid (∀ j, j < k + 1 → lk j = true) := Lib.hid fun i hi => by
            by_cases e : i < k
            · exact hz.out i e
            · obtain rfl : i = k := by omega
              exact HLB2.out
          clear hz HLB2 STOP ALL
          go_wp2
          go_roundw
          case rel => exact ⟨k + 1, by omega, by go_num, hnext, HK4⟩
          case measure => simp [intOf]; omega
        | false =>
          have hN := STOP.out k hlt hz.out HLB2.out
          subst hN
          clear hz HLB2 STOP ALL
          go_wp2
          exact bodyPost_ret (v := iv R) (by simp [results, Tryz.results20]) rfl ⟨rfl, HK4.out⟩
    · obtain rfl : n = k := by omega
      have hN := ALL.out hz.out
      subst hN
      clear STOP ALL hz HAT I1 HLB HL0
      go_wp2
      exact bodyPost_ret (v := iv R) (by simp [results, Tryz.results20]) rfl ⟨rfl, HK.out⟩
end Go.Proofs.YtjbdboekleaklaaGreatDoor

/- What is behind a locator: plain. -/
set_option linter.unusedSimpArgs false
set_option linter.unusedVariables false
namespace Go.Proofs.YtjbdboekleaklaaGreatDoor
open Go.RowKit

/-- At which place of a line a hash stands. -/
def plcN (ns : List Nd) (L : List Nat) (h : List UInt8) : Option Nat := match findN ns h with
  | none => none
  | some i => if L[hgtN ns i]? = some i then some (hgtN ns i) else none
def begN (ns : List Nd) (L : List Nat) (b : Nat) (loc : List (List UInt8)) : Nat := loc.foldl (fun b h => match plcN ns L h with | some a => max b (a + 1) | none => b) b
theorem begN_snoc (ns : List Nd) (L : List Nat) (b : Nat) (loc : List (List UInt8)) (h : List UInt8) : begN ns L b (loc ++ [h]) = match plcN ns L h with | some a => max (begN ns L b loc) (a + 1) | none => begN ns L b loc := by
  unfold begN; rw [List.foldl_append]; rfl
def endN (ns : List Nd) (L : List Nat) (b : Nat) (stop : List UInt8) (most : Int) : Nat :=
  match plcN ns L stop with
  | some a => if b ≤ a then min (min L.length (b + min (max most 0).toNat 2000)) (a + 1) else min L.length (b + min (max most 0).toNat 2000)
  | none => min L.length (b + min (max most 0).toNat 2000)
def aftN (ns : List Nd) (L : List Nat) (loc : List (List UInt8)) (stop : List UInt8) (most : Int) : List Nat :=
  if L = [] then [] else (L.take (endN ns L (begN ns L 1 loc) stop most)).drop (begN ns L 1 loc)
theorem plcN_lt {ns : List Nd} {L : List Nat} {h : List UInt8} {a : Nat} (e : plcN ns L h = some a) : a < L.length := by
  unfold plcN at e
  split at e
  · cases e
  · split at e
    · rename_i q
      cases e; exact (List.getElem?_eq_some_iff.1 q).1
    · cases e
theorem begN_le (ns : List Nd) (L : List Nat) : ∀ (loc : List (List UInt8)) (b : Nat), b ≤ L.length → b ≤ begN ns L b loc ∧ begN ns L b loc ≤ L.length
  | [], b, h => ⟨Nat.le_refl _, h⟩
  | x :: t, b, h => by
    have e : begN ns L b (x :: t) = begN ns L (match plcN ns L x with | some a => max b (a + 1) | none => b) t := rfl
    rw [e]
    cases hp : plcN ns L x with
    | none => exact begN_le ns L t b h
    | some a =>
      have := plcN_lt hp
      have q := begN_le ns L t (max b (a + 1)) (by omega)
      simp only
      omega
theorem endN_le (ns : List Nd) (L : List Nat) (b : Nat) (stop : List UInt8) (most : Int) (hb : b ≤ L.length) : b ≤ endN ns L b stop most ∧ endN ns L b stop most ≤ L.length ∧ endN ns L b stop most ≤ b + min (max most 0).toNat 2000 := by
  unfold endN
  split
  · split
    · omega
    · omega
  · omega
theorem aft_len {ns : List Nd} {L : List Nat} (hL : L ≠ []) (loc : List (List UInt8)) (stop : List UInt8) (most : Int) :
    (aftN ns L loc stop most).length = endN ns L (begN ns L 1 loc) stop most - begN ns L 1 loc ∧ 1 ≤ begN ns L 1 loc ∧ begN ns L 1 loc ≤ L.length := by
  have hp := List.length_pos_iff.2 hL
  have h1 := begN_le ns L loc 1 hp
  have h2 := endN_le ns L (begN ns L 1 loc) stop most h1.2
  unfold aftN
  rw [if_neg hL, List.length_drop, List.length_take]
  omega
theorem aft_get {ns : List Nd} {L : List Nat} (hL : L ≠ []) (loc : List (List UInt8)) (stop : List UInt8) (most : Int) {k : Nat} (hk : k < (aftN ns L loc stop most).length) :
    (aftN ns L loc stop most)[k]? = L[begN ns L 1 loc + k]? := by
  have h1 := aft_len (ns := ns) hL loc stop most
  rw [h1.1] at hk
  unfold aftN
  rw [if_neg hL, List.getElem?_drop, List.getElem?_take]
  rw [if_pos (by omega)]

/-- A line's numbers: what they are in the tree. -/
theorem line_nd {ns : List Nd} (TR : Tr ns) {i : Int} {k x : Nat} (h : (lineO ns i)[k]? = some x) : hgtN ns x = k ∧ findN ns (idN ns x) = some x ∧ idL (headN ns x) = idN ns x ∧ (headN ns x).ok ∧
    ∀ p, (lineO ns i)[k + 1]? = some p → (headN ns p).prev = idN ns x := by
  obtain ⟨n, h1, h2, h3, h4, h5, h6⟩ := line_some TR h
  have hx := List.getElem?_eq_getElem h5
  have hid : idN ns x = ns[x].id := by unfold idN; rw [hx]; rfl
  have hhd : headN ns x = ns[x].head := by unfold headN; rw [hx]; rfl
  have ho := TR.ok _ (List.getElem_mem h5)
  refine ⟨h6, by rw [hid]; exact TR.find hx, by rw [hid, hhd]; exact (TR.id _ (List.getElem_mem h5)).symm, by rw [hhd]; exact ho.2.1, fun p hp => ?_⟩
  obtain ⟨n', g1, g2, g3, g4, g5, g6⟩ := line_some TR hp
  obtain rfl : n' = n := by omega
  have hp0 : 0 < p := by have := (TR.pos g5).1 (by omega); exact this
  have hpx := List.getElem?_eq_getElem g5
  obtain ⟨q, q1, q2, m, q3, q4, q5⟩ := TR.up p ns[p] hp0 hpx
  have e1 : headN ns p = ns[p].head := by unfold headN; rw [hpx]; rfl
  rw [e1, q5, hid]
  have e2 : x = q := by
    have a1 := TR.abv_abv g2 (h := k + 1) (g := k) g3 (by omega)
    rw [← g4] at a1
    rw [h4, ← a1, TR.abv_par g5 (by omega), parN_of hpx, q1, Int.toNat_natCast]
    have a2 : hgtN ns q = k := by
      rw [hgtN_of q3]
      have := hgtN_of hpx
      omega
    rw [← a2]; exact abv_top ns q
  have a3 : ns[x]? = some m := by rw [e2]; exact q3
  rw [Option.some.inj (hx.symm.trans a3)]
theorem after_law {ns : List Nd} (TR : Tr ns) (tip : Int) (loc : List (List UInt8)) (stop : List UInt8) (most : Int) :
    ∃ G, aftN ns (lineO ns tip) loc stop most = G ∧ (∀ x ∈ G, x < ns.length) ∧ G.length ≤ (lineO ns tip).length ∧ (G.length : Int) ≤ max 0 (min most 2000) ∧ linkN (G.map (headN ns)) = G.length ∧ (G.length ≠ 0 → G.length < (lineO ns tip).length) ∧
      ∀ k, k < G.length → ∃ x m, G[k]? = some x ∧ findN ns (idL (headN ns x)) = some x ∧ 1 ≤ m ∧ (lineO ns tip)[m]? = some x ∧ (k + 1 < G.length → idL (headN ns x) ≠ stop) := by
  by_cases hL : lineO ns tip = []
  · refine ⟨[], ?_, by simp, by simp, by simp; omega, rfl, fun h => absurd rfl h, fun k hk => absurd hk (Nat.not_lt_zero _)⟩
    unfold aftN; rw [if_pos hL]
  · obtain ⟨h1, h2, h3⟩ := aft_len (ns := ns) hL loc stop most
    have hget : ∀ {k : Nat}, k < (aftN ns (lineO ns tip) loc stop most).length → (aftN ns (lineO ns tip) loc stop most)[k]? = (lineO ns tip)[begN ns (lineO ns tip) 1 loc + k]? := fun hk => aft_get hL loc stop most hk
    obtain ⟨e1, e2, e3⟩ := endN_le ns (lineO ns tip) (begN ns (lineO ns tip) 1 loc) stop most h3
    have hmid : ∀ a, plcN ns (lineO ns tip) stop = some a → begN ns (lineO ns tip) 1 loc ≤ a → endN ns (lineO ns tip) (begN ns (lineO ns tip) 1 loc) stop most ≤ a + 1 := fun a ha hb => by
      unfold endN; rw [ha]; simp only; rw [if_pos hb]; omega
    obtain ⟨G, hG⟩ : ∃ G, aftN ns (lineO ns tip) loc stop most = G := ⟨_, rfl⟩
    rw [hG] at h1 hget
    refine ⟨G, hG, ?_, by omega, by omega, ?_, fun _ => by omega, fun k hk => ?_⟩
    · intro x hx
      obtain ⟨k, hk, rfl⟩ := List.mem_iff_getElem.1 hx
      have := hget hk
      rw [List.getElem?_eq_getElem hk] at this
      exact lineO_lt TR tip _ (List.mem_of_getElem? this.symm)
    · have hall : ∀ j, j < (G.map (headN ns)).length → linkB (G.map (headN ns)) j = true := by
        intro j hj
        rw [List.length_map] at hj
        unfold linkB
        by_cases hj0 : j = 0
        · subst hj0; rfl
        · have a1 := hget (k := j) hj
          have a2 := hget (k := j - 1) (by omega)
          rw [List.getElem?_eq_getElem hj] at a1
          rw [List.getElem?_eq_getElem (show j - 1 < G.length by omega)] at a2
          obtain ⟨-, -, b3, -, b5⟩ := line_nd TR a2.symm
          have b6 := b5 G[j] (by rw [show begN ns (lineO ns tip) 1 loc + (j - 1) + 1 = begN ns (lineO ns tip) 1 loc + j by omega]; exact a1.symm)
          have c1 : (G.map (headN ns)).getD j hd0 = headN ns G[j] := by simp [List.getD_eq_getElem?_getD, List.getElem?_eq_getElem hj]
          have c2 : (G.map (headN ns)).getD (j - 1) hd0 = headN ns G[j - 1] := by simp [List.getD_eq_getElem?_getD, List.getElem?_eq_getElem (show j - 1 < G.length by omega)]
          rw [c1, c2, b6, b3, beq_self_eq_true, Bool.or_true]
      rw [link_all hall, List.length_map]
    · have a1 := hget hk
      rw [List.getElem?_eq_getElem hk] at a1
      obtain ⟨b1, b2, b3, -, -⟩ := line_nd TR a1.symm
      refine ⟨G[k], begN ns (lineO ns tip) 1 loc + k, List.getElem?_eq_getElem hk, by rw [b3]; exact b2, by omega, a1.symm, fun hk2 hst => ?_⟩
      rw [b3] at hst
      have hpl : plcN ns (lineO ns tip) stop = some (begN ns (lineO ns tip) 1 loc + k) := by
        unfold plcN; rw [← hst, b2]; simp only; rw [b1, if_pos a1.symm]
      have := hmid _ hpl (by omega)
      omega
end Go.Proofs.YtjbdboekleaklaaGreatDoor

/- fork.place and fork.After. (printed by gen_tu.py) -/
set_option linter.unusedSimpArgs false
set_option linter.unusedVariables false
namespace Go.Proofs.YtjbdboekleaklaaGreatDoor
open Go.RowKit
attribute [local go_sem ↓] Go.wp_at_zero Go.wp_at_succ

set_option maxRecDepth 100000 in
set_option maxHeartbeats 4000000 in
theorem place_any (T : Nat) (ns : List Nd) (A : Option Addr) (L : List Nat) (c : Nat) (h : List UInt8) (cs : Array Value) (w : World) (hT : TrR w T ns) (TR : Tr ns) (hl : ns.length ≤ 100000) (hL : L.length ≤ 100000) (hr : Rd w A (nvL L)) (hh : h.length = 32) (hcs : HashA h cs) :
    Calls Tryz.prog 31 #[pT T, .slice A L.length c, .agg cs] w fun e w' => e = .returned (.tuple #[iv ((plcN ns L h).getD 0 : Nat), .bool (plcN ns L h).isSome]) ∧ Keep w w' := by
  have F1 : Hid (∀ y, Keep w y → Calls Tryz.prog 17 #[pT T, .agg cs] y fun e w' => e = .returned (.tuple #[iv ((findN ns h).getD 0 : Nat), .bool (findN ns h).isSome]) ∧ Keep y w') := Lib.hid fun y hy => find_any T ns h cs y (hT.keep hy) hh hcs
  have N1 : Hid (∀ x, findN ns h = some x → ∃ (z : Nd) (g : Nat), z.ok ∧ z.hgt = g ∧ hgtN ns x = g ∧ g ≤ 100000 ∧ x ≤ 100000 ∧ ∀ y, Keep w y → Calls Tryz.prog 15 #[pT T, iv x] y fun e w' => ∃ ds, e = .returned (.tuple #[.agg ds, .bool true]) ∧ NdA z ds ∧ Keep y w') := Lib.hid fun x hx => by
    obtain ⟨z, hz, -⟩ := find_some hx
    have hxl := (List.getElem?_eq_some_iff.1 hz).1
    have h1 := hgtN_of hz
    have h2 := TR.le x hxl
    refine ⟨z, z.hgt, TR.ok _ (List.mem_of_getElem? hz), rfl, h1, by omega, by omega, fun y hy => ?_⟩
    have := node_any T ns x y (hT.keep hy) TR.ok (by omega) (by omega)
    rw [nodeO_nat, hz] at this; exact this
  have HPL : Hid (∀ P, plcN ns L h = P → P = match findN ns h with | none => none | some i => if L[hgtN ns i]? = some i then some (hgtN ns i) else none) := Lib.hid fun P e => by subst e; rfl
  replace HPL := Lib.hid (HPL.out _ rfl)
  have RL := Lib.hid hr
  have hcz := hcs.z; have hcn := hcs.n; have hci := hcs.i
  clear hT hr hcs hh TR
  generalize plcN ns L h = P at *
  generalize findN ns h = O at *
  obtain ⟨n, hn⟩ : ∃ n, L.length = n := ⟨_, rfl⟩
  rw [hn] at hL ⊢
  have HLN := Lib.hid hn
  clear hn
  have HK : Hid (Keep w w) := Lib.hid (Below.refl _ _)
  obtain ⟨zs, hz1, hz2, hz3, -, -⟩ := znode_letter
  go_enter Tryz.func31, Tryz.ntmps31
  go_upto_region 1 with fail
  obtain ⟨w1, hw1⟩ : ∃ w1, w1 = w.alloc (.cells cs 36) := ⟨_, rfl⟩
  have HC1 : Hid (Blk w1 w.heap.size 36 cs.toList) := by rw [hw1]; exact Lib.hid (Blk.new w 36 cs.toList)
  have HK1 : Hid (Keep w w1) := by rw [hw1]; exact Lib.hid (keep_trans HK.out (keep_new _ _))
  rw [← hw1]
  have hgs1 : w.heap.size ≤ w.heap.size := HK.out.size
  clear hw1  HK
  generalize w.heap.size = gc at *
  have RC : Hid (w1.rangeAt gc 0 cs.toList) := Lib.hid (range_of HC1.out 0 cs.toList (by simp [List.take_of_length_le]))
  clear HC1 hgs1
  go_wp2_with ((with_reducible refine load_partg gc 0 cs (Eq.trans ?_ rfl) RC.out _ Tryz.underlying36 rfl hci rfl ?_); rfl)
  refine (F1.out _ HK1.out).mono ?_
  clear F1 RC hcz hcn hci
  rintro e w2 ⟨rfl, k2⟩
  have HK2 := Lib.hid (keep_trans HK1.out k2)
  clear k2 HK1
  cases O with
  | none =>
    have hP := HPL.out
    simp only at hP
    subst hP
    clear HPL N1 RL HLN
    go_wp2
    exact bodyPost_ret (v := .tuple #[iv 0, .bool false]) (by simp [results, Tryz.results31]) rfl ⟨rfl, HK2.out⟩
  | some x =>
  obtain ⟨z, g, hzo, hzg, hxg, hg, hx, N2⟩ := N1.out x rfl
  have N2 := Lib.hid N2
  have hP := HPL.out
  simp only at hP
  rw [hxg] at hP
  have HPQ := Lib.hid hP
  have HZO := Lib.hid hzo
  clear hP HPL N1 hxg hzo
  go_wp2_with fail
  refine (N2.out _ HK2.out).mono ?_
  clear N2
  rintro e w3 ⟨ds, rfl, hds, k3⟩
  have HK3 := Lib.hid (keep_trans HK2.out k3)
  clear k3  HK2
  have hdsz := hds.z; have hdsn := hds.n; have hdsi := hds.i
  have hstds : (storeCells ⟨w3.heap.size, 0, none⟩ ds.toList 0).run Tryz.prog (w3.alloc (.cells zs 44)) = .ok () (w3.alloc (.cells ds 44)) := run_storeCells_new (P := Tryz.prog) w3 44 zs ds hdsi (hz1.trans hdsz.symm) (by have := all_oneCell_toArray hds.o; rwa [Array.toArray_toList] at this)
  have Hds := Lib.hid hds
  clear hds
  go_upto_region 5 with fail
  obtain ⟨w4, hw4⟩ : ∃ w4, w4 = w3.alloc (.cells ds 44) := ⟨_, rfl⟩
  have HGN4 : Hid (Blk w4 w3.heap.size 44 ds.toList) := by rw [hw4]; exact Lib.hid (Blk.new w3 44 ds.toList)
  have HK4 : Hid (Keep w w4) := by rw [hw4]; exact Lib.hid (keep_trans HK3.out (keep_new _ _))
  rw [← hw4]
  have hgs4 : w.heap.size ≤ w3.heap.size := HK3.out.size
  clear hw4  HK3
  generalize w3.heap.size = gn at *
  clear hstds
  have c101 : w4.cell? ⟨gn, 101, none⟩ = some (iv (g : Int)) := (HGN4.out.cell 101).trans (by rw [Hds.out.l, ← hzg]; exact nd_hgt HZO.out)
  clear HGN4 Hds HZO hzg
  by_cases hgn : g < n
  · obtain ⟨q, hq⟩ : ∃ q, L[g]? = some q := ⟨_, List.getElem?_eq_getElem (by rw [HLN.out]; exact hgn)⟩
    obtain ⟨b, off, hA0, hcw⟩ := nv_at RL.out hq
    cases hA0
    have hcw := keep_cell HK4.out hcw
    have hP := HPQ.out
    rw [hq] at hP
    have d1 : ¬ (n : Int) ≤ g := by omega
    by_cases hqx : q = x
    · subst hqx
      rw [if_pos rfl] at hP
      subst hP
      have s1 : ((q : Int) != (q : Int)) = false := by simp
      clear HPQ hq RL HLN
      go_wp2
      exact bodyPost_ret (v := .tuple #[iv (g : Nat), .bool true]) (by simp [results, Tryz.results31]) rfl ⟨rfl, HK4.out⟩
    · rw [if_neg (fun r => hqx (Option.some.inj r))] at hP
      subst hP
      have s1 : ((q : Int) != (x : Int)) = true := by simp; omega
      clear HPQ hq RL HLN hqx
      go_wp2
      exact bodyPost_ret (v := .tuple #[iv 0, .bool false]) (by simp [results, Tryz.results31]) rfl ⟨rfl, HK4.out⟩
  · have hP := HPQ.out
    rw [List.getElem?_eq_none (by rw [HLN.out]; omega), if_neg (by simp)] at hP
    subst hP
    have d1 : (n : Int) ≤ g := by omega
    clear HPQ RL HLN
    go_wp2
    exact bodyPost_ret (v := .tuple #[iv 0, .bool false]) (by simp [results, Tryz.results31]) rfl ⟨rfl, HK4.out⟩

theorem cut_rd {w : World} {b off : Nat} {L : List Nat} (h : Rd w (some ⟨b, off, none⟩) (nvL L)) (k e : Nat) (hk : k ≤ e) (he : e ≤ L.length) : Rd w (some ⟨b, off + k, none⟩) (nvL ((L.take e).drop k)) := by
  have q := h.sub k (e - k) (by rw [nvL_len]; omega)
  have e1 : ((nvL L).drop k).take (e - k) = nvL ((L.take e).drop k) := by
    unfold nvL
    rw [List.drop_take, List.map_take, List.map_drop]
  rw [e1] at q; exact q
set_option maxRecDepth 100000 in
set_option maxHeartbeats 8000000 in
theorem after_any (T : Nat) (ns : List Nd) (tip most : Int) (Al : Option Addr) (loc : List (List UInt8)) (cl : Nat) (stop : List UInt8) (ss : Array Value) (w : World) (h : TrR w T ns) (TR : Tr ns) (hl : ns.length ≤ 100000) (htip : -9223372036854775808 ≤ tip ∧ tip ≤ 9223372036854775807)
    (hmost : -9223372036854775808 ≤ most ∧ most ≤ 9223372036854775807) (hloc : loc.length ≤ 100000) (hrl : Rd w Al (hsL loc)) (hk : ∀ h ∈ loc, h.length = 32) (hstop : stop.length = 32) (hss : HashA stop ss) :
    Calls Tryz.prog 19 #[pT T, iv tip, .slice Al loc.length cl, .agg ss, iv most] w (Headed w.heap.size ((aftN ns (lineO ns tip) loc stop most).map (headN ns)) w) := by
  have L1 : Hid (∀ y, Keep w y → Calls Tryz.prog 12 #[pT T, iv tip] y (Lined y.heap.size (lineO ns tip) y)) := Lib.hid fun y hy => line_any T ns tip y (h.keep hy) TR (by omega) htip
  have hla := lineO_len TR tip
  have hlt := lineO_lt TR tip
  have PL : Hid (∀ y A c I is, Keep w y → Rd y A (nvL (lineO ns tip)) → I.length = 32 → HashA I is → Calls Tryz.prog 31 #[pT T, .slice A (lineO ns tip).length c, .agg is] y fun e w' => e = .returned (.tuple #[iv ((plcN ns (lineO ns tip) I).getD 0 : Nat), .bool (plcN ns (lineO ns tip) I).isSome]) ∧ Keep y w') := Lib.hid fun y A c I is hy hr h1 h2 => place_any T ns A _ c I is y (h.keep hy) TR hl (by omega) hr h1 h2
  obtain ⟨L, hL⟩ : ∃ L, lineO ns tip = L := ⟨_, rfl⟩
  rw [hL] at L1 hla hlt PL ⊢
  clear hL
  have HE : Hid (∀ y A c k m, Keep w y → Rd y A (nvL ((L.take m).drop k)) → Calls Tryz.prog 32 #[pT T, .slice A ((L.take m).drop k).length c] y (Headed y.heap.size (((L.take m).drop k).map (headN ns)) y)) := Lib.hid fun y A c k m hy hr => heads_any T ns A _ c y (h.keep hy) TR (by omega) (by rw [List.length_drop, List.length_take]; omega) hr fun x hx => hlt x (List.mem_of_mem_take (List.mem_of_mem_drop hx))
  have BS : Hid (∀ k, k < loc.length → begN ns L 1 (loc.take (k + 1)) = match plcN ns L (loc.getD k z32) with | some a => max (begN ns L 1 (loc.take k)) (a + 1) | none => begN ns L 1 (loc.take k)) := Lib.hid fun k hk => by
    rw [List.take_succ_eq_append_getElem hk, begN_snoc]
    have : loc.getD k z32 = loc[k] := by simp [List.getD_eq_getElem?_getD, List.getElem?_eq_getElem hk]
    first | (rw [this]; done) | (rw [this]; rfl)
  have PLT : Hid (∀ I a, plcN ns L I = some a → a < L.length) := Lib.hid fun I a e => plcN_lt e
  have HLC : Hid (∀ k, k < loc.length → ∃ (b off : Nat) (is : Array Value), Al = some ⟨b, off, none⟩ ∧ HashA (loc.getD k z32) is ∧ (loc.getD k z32).length = 32 ∧ w.rangeAt b (off + k * 32) is.toList) := Lib.hid fun k hlt2 => by
    have e0 : loc.getD k z32 = loc[k] := by simp [List.getD_eq_getElem?_getD, List.getElem?_eq_getElem hlt2]
    rw [e0]
    obtain ⟨b, off, h1, -, h2⟩ := hash_at hrl hk hlt2
    have h3 := HashA.of (hk _ (List.getElem_mem hlt2))
    exact ⟨b, off, _, h1, h3, hk _ (List.getElem_mem hlt2), by rw [h3.l]; exact h2⟩
  have HBE : Hid (begN ns L 1 (loc.take loc.length) = begN ns L 1 loc) := Lib.hid (by rw [List.take_length])
  have HGN : Hid (∀ G, aftN ns L loc stop most = G → G = if L = [] then [] else (L.take (endN ns L (begN ns L 1 loc) stop most)).drop (begN ns L 1 loc)) := Lib.hid fun G e => by subst e; rfl
  replace HGN := Lib.hid (HGN.out _ rfl)
  have HEN : Hid (∀ b, endN ns L b stop most = match plcN ns L stop with
    | some a => if b ≤ a then min (min L.length (b + min (max most 0).toNat 2000)) (a + 1) else min L.length (b + min (max most 0).toNat 2000)
    | none => min L.length (b + min (max most 0).toNat 2000)) := Lib.hid fun b => rfl
  have Hstop := Lib.hid hstop; have Hss := Lib.hid hss
  have hcz := hss.z; have hcn := hss.n; have hci := hss.i
  have hl2 : L.length ≤ 100000 := by omega
  obtain ⟨m0, hm0⟩ : ∃ m0, min (max most 0).toNat 2000 = m0 := ⟨_, rfl⟩
  have HM0 := Lib.hid hm0
  have hm0l : m0 ≤ 2000 := by omega
  rw [hm0] at HEN
  clear h TR hl hla htip hrl hk hstop hss hlt hm0
  generalize aftN ns L loc stop most = G at *
  generalize loc.length = n at *
  obtain ⟨gg, hgg⟩ : ∃ f : Nat → List UInt8, (fun k => loc.getD k z32) = f := ⟨_, rfl⟩
  have hgg' : ∀ k, loc.getD k z32 = gg k := fun k => by rw [← hgg]
  simp only [hgg'] at HLC BS
  obtain ⟨bg, hbg⟩ : ∃ f : Nat → Nat, (fun k => begN ns L 1 (loc.take k)) = f := ⟨_, rfl⟩
  have hbg' : ∀ k, begN ns L 1 (loc.take k) = bg k := fun k => by rw [← hbg]
  have hb0 : bg 0 = 1 := by rw [← hbg]; rfl
  simp only [hbg'] at HBE BS
  rw [← HBE.out] at HGN
  have HB0 := Lib.hid hb0
  clear hgg hgg' hbg hbg' HBE hb0
  generalize plcN ns L = pl at *
  generalize endN ns L = en at *
  generalize headN ns = hd at *
  unfold Headed Lined at *
  have HK : Hid (Keep w w) := Lib.hid (Below.refl _ _)
  obtain ⟨zs, hz1, hz2, hz3, -⟩ := zhash_letter
  go_enter Tryz.func19, Tryz.ntmps19
  go_upto_region 1 with fail
  obtain ⟨w1, hw1⟩ : ∃ w1, w1 = w.alloc (.cells ss 36) := ⟨_, rfl⟩
  have HC1 : Hid (Blk w1 w.heap.size 36 ss.toList) := by rw [hw1]; exact Lib.hid (Blk.new w 36 ss.toList)
  have HK1 : Hid (Keep w w1) := by rw [hw1]; exact Lib.hid (keep_trans HK.out (keep_new _ _))
  rw [← hw1]
  have hgs1 : w.heap.size ≤ w.heap.size := HK.out.size
  clear hw1  HK
  generalize w.heap.size = gc at *
  go_wp2_with fail
  refine (L1.out _ HK1.out).mono ?_
  clear L1
  rintro e w2 ⟨v, rfl, hown, k2⟩
  obtain ⟨A2, c2, rfl, hc2, hm2, hr2⟩ := own_form hown
  have RL := Lib.hid hr2
  clear hown hr2
  have HC2 := Lib.hid (HC1.out.keep k2)
  have HK2 := Lib.hid (keep_trans HK1.out k2)
  clear k2 HC1 HK1
  by_cases h0 : L.length = 0
  · have hL0 : L = [] := List.eq_nil_of_length_eq_zero h0
    have hG := HGN.out
    rw [if_pos hL0] at hG
    subst hG
    clear HGN HEN BS PLT HLC PL HE hL0
    go_wp2
    exact bodyPost_ret (v := .slice none 0 0) (by simp [results, Tryz.results19]) rfl ⟨_, rfl, World.ownsRow_nil _ _ _ _, HK2.out⟩
  have hG := HGN.out
  rw [if_neg (fun q => h0 (by rw [q]; rfl))] at hG
  have HG := Lib.hid hG
  clear HGN hG
  obtain ⟨b2, o2, hA2, -, -⟩ := RL.out.at (k := 0) (by rw [nvL_len]; omega)
  cases hA2
  have hp : 0 < L.length := by omega
  obtain ⟨ll, hll⟩ : ∃ ll, L.length = ll := ⟨_, rfl⟩
  have HLL := Lib.hid hll
  rw [hll] at PL PLT HEN h0 hp hl2 hc2 ⊢
  clear hll
  have g1 : ((ll : Int) == 0) = false := by rw [beq_eq_false_iff_ne]; omega
  go_wp2_with fail
  clear g1 h0
  go_loopw [12, 28] (fun b i wr => ∃ (k bb : Nat), k ≤ n ∧ i = .int .i64 k ∧ b = .int .i64 bb ∧ 1 ≤ bb ∧ bb ≤ ll ∧ Hid (bb = bg k) ∧ Hid (Keep w2 wr)) (fun _ i _ => n - (intOf i).toNat)
  case atStart => exact ⟨0, 1, Nat.zero_le _, rfl, rfl, Nat.le_refl _, hp, Lib.hid HB0.out.symm, Lib.hid (Below.refl _ _)⟩
  case round =>
    obtain ⟨k, bb, hkn, rfl, rfl, hb1, hb2, HBB, HKr⟩ := hrel
    by_cases hlt : k < n
    · obtain ⟨b, off, is, rfl, his, hi32, hrg⟩ := HLC.out k hlt
      have hbs := BS.out k hlt
      rw [← HBB.out] at hbs
      have HPT : Hid (∀ a, pl (gg k) = some a → a < ll) := Lib.hid fun a e => PLT.out _ a e
      have P1 : Hid (∀ y, Keep w y → Rd y (some ⟨b2, o2, none⟩) (nvL L) → Calls Tryz.prog 31 #[pT T, .slice (some ⟨b2, o2, none⟩) ll c2, .agg is] y fun e w' => e = .returned (.tuple #[iv ((pl (gg k)).getD 0 : Nat), .bool (pl (gg k)).isSome]) ∧ Keep y w') := Lib.hid fun y hy hr => PL.out y _ c2 _ is hy hr hi32 his
      generalize pl (gg k) = P at *
      have HBS := Lib.hid hbs
      have hiz := his.z; have hin := his.n; have hii := his.i
      have RI : Hid (wr.rangeAt b (off + k * 32) is.toList) := Lib.hid fun j v hv => keep_cell (keep_trans HK2.out HKr.out) (hrg j v hv)
      have hst : (storeCells ⟨wr.heap.size, 0, none⟩ is.toList 0).run Tryz.prog (wr.alloc (.cells zs 36)) = .ok () (wr.alloc (.cells is 36)) := run_storeCells_new (P := Tryz.prog) wr 36 zs is hii (hz1.trans hiz.symm) (by have := all_oneCell_toArray his.o; rwa [Array.toArray_toList] at this)
      have d2 : (k : Int) < n := by omega
      clear his hrg hbs hi32 PL HLC BS PLT
      go_upto_region 8 with ((with_reducible refine load_partg b (off + k * 32) is (Eq.trans ?_ rfl) RI.out _ Tryz.underlying36 rfl hii rfl ?_); rfl)
      obtain ⟨w3, hw3⟩ : ∃ w3, w3 = wr.alloc (.cells is 36) := ⟨_, rfl⟩
      have HI3 : Hid (Blk w3 wr.heap.size 36 is.toList) := by rw [hw3]; exact Lib.hid (Blk.new wr 36 is.toList)
      have HK3 : Hid (Keep w2 w3) := by rw [hw3]; exact Lib.hid (keep_trans HKr.out (keep_new _ _))
      rw [← hw3]
      clear hw3 hst RI HKr
      generalize wr.heap.size = gi at *
      have RB : Hid (w3.rangeAt gi 0 is.toList) := Lib.hid (range_of HI3.out 0 is.toList (by simp [List.take_of_length_le]))
      have HKW3 := Lib.hid (keep_trans HK2.out HK3.out)
      have RL3 := Lib.hid (RL.out.keep HK3.out)
      clear HI3
      go_wp2_with ((with_reducible refine load_partg gi 0 is (Eq.trans ?_ rfl) RB.out _ Tryz.underlying36 rfl hii rfl ?_); rfl)
      refine (P1.out _ HKW3.out RL3.out).mono ?_
      clear P1 RB RL3 HKW3
      rintro e w4 ⟨rfl, k4⟩
      have HK4 := Lib.hid (keep_trans HK3.out k4)
      clear k4 HK3 hiz hin hii
      cases P with
      | none =>
        have hb3 : bb = bg (k + 1) := by have := HBS.out; simp only at this; exact this.symm
        have HB3 := Lib.hid hb3
        clear hb3 HBS HPT HBB
        go_wp2
        go_roundw
        case rel => exact ⟨k + 1, bb, by omega, by go_num, rfl, hb1, hb2, HB3, HK4⟩
        case measure => simp [intOf]; omega
      | some a =>
        have ha := HPT.out a rfl
        have hb3 : max bb (a + 1) = bg (k + 1) := by have := HBS.out; simp only at this; exact this.symm
        have HB3 := Lib.hid hb3
        have hmx : max (bb : Int) ((a : Int) + 1) = ((max bb (a + 1) : Nat) : Int) := by omega
        have hwa : IntKind.i64.wrap ((a : Int) + 1) = (a : Int) + 1 := IntWalk.i64_in _ (by omega)
        clear hb3 HBS HPT HBB
        go_wp2
        go_roundw
        case rel => exact ⟨k + 1, max bb (a + 1), by omega, by go_num, by first | rfl | (rw [← hmx]; rfl) | go_num, by omega, by omega, HB3, HK4⟩
        case measure => simp [intOf]; omega
    · obtain rfl : k = n := by omega
      have d2 : ¬ ((k : Int) < k) := by omega
      rw [← HBB.out] at HG
      have hex := HEN.out bb
      have PS : Hid (∀ y, Keep w y → Rd y (some ⟨b2, o2, none⟩) (nvL L) → Calls Tryz.prog 31 #[pT T, .slice (some ⟨b2, o2, none⟩) ll c2, .agg ss] y fun e w' => e = .returned (.tuple #[iv ((pl stop).getD 0 : Nat), .bool (pl stop).isSome]) ∧ Keep y w') := Lib.hid fun y hy hr => PL.out y _ c2 _ ss hy hr Hstop.out Hss.out
      have HPT : Hid (∀ a, pl stop = some a → a < ll) := Lib.hid fun a e => PLT.out _ a e
      generalize pl stop = P at *
      have RC : Hid (wr.rangeAt gc 0 ss.toList) := Lib.hid (range_of (HC2.out.keep HKr.out) 0 ss.toList (by simp [List.take_of_length_le]))
      have hmx : min (max most 0) 2000 = (m0 : Int) := by have := HM0.out; omega
      obtain ⟨e0, he0⟩ : ∃ e0, min ll (bb + m0) = e0 := ⟨_, rfl⟩
      have hmi : min (ll : Int) ((bb : Int) + (m0 : Int)) = (e0 : Int) := by omega
      have he1 : bb ≤ e0 ∧ e0 ≤ ll := by omega
      rw [he0] at hex
      have HEX := Lib.hid hex
      have FIN : Hid (∀ e : Nat, en bb stop most = e → bb ≤ e → e ≤ ll → ∀ y A N c', Keep w2 y → N = e - bb → (A = some ⟨b2, o2 + bb, none⟩ ∨ (A = some ⟨b2, o2, none⟩ ∧ bb = c2)) → Calls Tryz.prog 32 #[pT T, .slice A N c'] y fun e w' => ∃ v, e = .returned v ∧ w'.ownsRow w.heap.size 39 68 v (G.map hd).length ((G.map hd).flatMap Hd.cells) ∧ Keep y w') := Lib.hid fun e h1 h2 h3 y A N c' hy hN hA => by
        have hg := HG.out
        rw [h1] at hg
        have hN2 : N = ((L.take e).drop bb).length := by rw [List.length_drop, List.length_take, HLL.out]; omega
        rw [hg, hN2]
        have hyw := keep_trans HK2.out hy
        have hrd : Rd y A (nvL ((L.take e).drop bb)) := by
          rcases hA with rfl | ⟨rfl, hbc⟩
          · exact cut_rd (RL.out.keep hy) bb e h2 (by rw [HLL.out]; exact h3)
          · have : (L.take e).drop bb = [] := List.eq_nil_of_length_eq_zero (by rw [← hN2]; omega)
            rw [this]; exact Rd.nil _ _
        refine (HE.out y A c' bb e hyw hrd).mono ?_
        rintro e w' ⟨v, h4, h5, h6⟩
        exact ⟨v, h4, own_base h5 hyw.size, h6⟩
      have HKWr := Lib.hid (keep_trans HK2.out HKr.out); have RLr := Lib.hid (RL.out.keep HKr.out)
      clear PL PLT HEN BS HLC HBB HB0 HM0 HE hex he0 HG
      go_wp2_with ((with_reducible refine load_partg gc 0 ss (Eq.trans ?_ rfl) RC.out _ Tryz.underlying36 rfl hci rfl ?_); rfl)
      refine (PS.out _ HKWr.out RLr.out).mono ?_
      clear PS RC RLr HKWr hmx hmi hcz hcn hci
      rintro e w4 ⟨rfl, k4⟩
      have HK4 := Lib.hid (keep_trans HKr.out k4)
      clear k4 HKr
      cases P with
      | none =>
        have hex := HEX.out
        simp only at hex
        have F2 := Lib.hid (FIN.out e0 hex he1.1 he1.2)
        clear HEX HPT FIN hex
        go_wp2_with fail
        all_goals
          with_reducible refine (F2.out _ _ _ _ HK4.out rfl (by first | exact .inl rfl | exact .inr ⟨rfl, rfl⟩ | exact .inr ⟨rfl, by omega⟩)).mono ?_
          clear F2
          rintro e w5 ⟨v, rfl, hown, k5⟩
          have HOWN := Lib.hid hown
          have HK5 := Lib.hid (keep_trans HK2.out (keep_trans HK4.out k5))
          clear hown k5 HK4 HK2
          go_wp2
          exact bodyPost_ret (v := v) (by simp [results, Tryz.results19]) rfl ⟨_, rfl, HOWN.out, HK5.out⟩
      | some a =>
        have ha := HPT.out a rfl
        have hwa : IntKind.i64.wrap ((a : Int) + 1) = (a : Int) + 1 := IntWalk.i64_in _ (by omega)
        by_cases hba : bb ≤ a
        · have hex := HEX.out
          simp only at hex
          rw [if_pos hba] at hex
          obtain ⟨e1, he1b⟩ : ∃ e1, min e0 (a + 1) = e1 := ⟨_, rfl⟩
          rw [he1b] at hex
          have hmi : min (e0 : Int) ((a : Int) + 1) = (e1 : Int) := by omega
          have d3 : (bb : Int) ≤ (a : Int) := by omega
          have F2 := Lib.hid (FIN.out e1 hex (by omega) (by omega))
          have he2 : bb ≤ e1 ∧ e1 ≤ ll := by omega
          clear HEX HPT FIN hex he1b he1
          go_wp2_with fail
          all_goals
            with_reducible refine (F2.out _ _ _ _ HK4.out rfl (by first | exact .inl rfl | exact .inr ⟨rfl, rfl⟩ | exact .inr ⟨rfl, by omega⟩)).mono ?_
            clear F2
            rintro e w5 ⟨v, rfl, hown, k5⟩
            have HOWN := Lib.hid hown
            have HK5 := Lib.hid (keep_trans HK2.out (keep_trans HK4.out k5))
            clear hown k5 HK4 HK2
            go_wp2
            exact bodyPost_ret (v := v) (by simp [results, Tryz.results19]) rfl ⟨_, rfl, HOWN.out, HK5.out⟩
        · have hex := HEX.out
          simp only at hex
          rw [if_neg hba] at hex
          have d3 : ¬ (bb : Int) ≤ (a : Int) := by omega
          have F2 := Lib.hid (FIN.out e0 hex he1.1 he1.2)
          clear HEX HPT FIN hex
          go_wp2_with fail
          all_goals
            with_reducible refine (F2.out _ _ _ _ HK4.out rfl (by first | exact .inl rfl | exact .inr ⟨rfl, rfl⟩ | exact .inr ⟨rfl, by omega⟩)).mono ?_
            clear F2
            rintro e w5 ⟨v, rfl, hown, k5⟩
            have HOWN := Lib.hid hown
            have HK5 := Lib.hid (keep_trans HK2.out (keep_trans HK4.out k5))
            clear hown k5 HK4 HK2
            go_wp2
            exact bodyPost_ret (v := v) (by simp [results, Tryz.results19]) rfl ⟨_, rfl, HOWN.out, HK5.out⟩
end Go.Proofs.YtjbdboekleaklaaGreatDoor

/- ForkAfter: the walk. (printed by gen_tv.py) -/
set_option linter.unusedSimpArgs false
set_option linter.unusedVariables false
namespace Go.Proofs.YtjbdboekleaklaaGreatDoor
open Go.RowKit
attribute [local go_sem ↓] Go.wp_at_zero Go.wp_at_succ

set_option maxRecDepth 100000 in
set_option maxHeartbeats 8000000 in
theorem after_walk (B : Option Addr) (l : List Hd) (d : Nat) (tip i : Int) (stop : List UInt8) (ss : Array Value) (most : Int) (w : World) (hS : ShaOk w) (hd : l.length ≤ d) (hdm : d ≤ maxLen) (hr : Rd w B (l.flatMap Hd.cells)) (hk : ∀ h ∈ l, h.ok)
    (htip : -9223372036854775808 ≤ tip ∧ tip ≤ 9223372036854775807) (hi : -9223372036854775808 ≤ i ∧ i ≤ 9223372036854775807) (hstop : stop.length = 32) (hss : HashA stop ss) (hmost : -9223372036854775808 ≤ most ∧ most ≤ 9223372036854775807) :
    Calls Tryz.prog 6 #[.slice B l.length d, iv tip, iv i, .agg ss, iv most] w fun e w' => e = .returned (.bool true) ∧ Keep w w' := by
  have AW : Hid (∀ y, Keep w y → Calls Tryz.prog 8 #[] y fun e w' => e = .returned (.bool true) ∧ Keep y w') := Lib.hid fun y hy => awake_any y (hS.keep hy)
  have PL : Hid (∀ y, Keep w y → l.length ≤ 30 → Calls Tryz.prog 9 #[.slice B l.length d] y fun e w' => ∃ T, e = .returned (pT T) ∧ TrR w' T (plainR l) ∧ Keep y w') := Lib.hid fun y hy h1 =>
    (plainly_any B l d y (hS.keep hy) (by omega) (hr.keep hy) hk).mono fun e w' ⟨T, M, v, h2, h3, h4⟩ => ⟨T, h2, h3.r, h4⟩
  obtain ⟨TR, hlen⟩ := plain_tr l hk
  have LO : Hid (∀ y T, TrR y T (plainR l) → l.length ≤ 30 → Calls Tryz.prog 16 #[pT T, iv i] y fun e w' => ∃ v, e = .returned v ∧ w'.ownsRow y.heap.size 36 32 v (locN (plainR l) i).length (hsL (locN (plainR l) i)) ∧ Keep y w') := Lib.hid fun y T hy h1 => locator_any T _ i y hy TR (by omega) hi
  have HI32 : ∀ I ∈ locN (plainR l) i, I.length = 32 := fun I hI => by
    unfold locN at hI
    obtain ⟨q, _, rfl⟩ := List.mem_map.1 hI
    exact idN_len TR q
  have HLL : l.length ≤ 30 → (locN (plainR l) i).length ≤ 100000 := fun h30 => by
    cases hy : nodeO (plainR l) i with
    | none => rw [loc_none hy]; simp
    | some y =>
      obtain ⟨m, hm, hml, hmh⟩ := nodeO_some hy
      have hle := TR.le m hml
      obtain ⟨LA, a1, a2, a3, a4, a5, a6⟩ := loc_law TR hy
      have := a5 30 (Nat.div_eq_of_lt (by have : (2 : Nat) ^ 30 = 1073741824 := by decide
                                          omega))
      omega
  obtain ⟨G, hG, g1, g2, g3, g4, g5, g6⟩ := after_law TR tip (locN (plainR l) i) stop most
  have AF : Hid (∀ y T A c, TrR y T (plainR l) → Rd y A (hsL (locN (plainR l) i)) → l.length ≤ 30 → Calls Tryz.prog 19 #[pT T, iv tip, .slice A (locN (plainR l) i).length c, .agg ss, iv most] y fun e w' => ∃ v, e = .returned v ∧ w'.ownsRow y.heap.size 39 68 v (G.map (headN (plainR l))).length ((G.map (headN (plainR l))).flatMap Hd.cells) ∧ Keep y w') := Lib.hid fun y T A c hy hr h1 => by
    have := after_any T _ tip most A _ c stop ss y hy TR (by omega) htip hmost (HLL h1) hr HI32 hstop hss
    rw [hG] at this
    exact this
  have LN : Hid (∀ y T, TrR y T (plainR l) → l.length ≤ 30 → Calls Tryz.prog 12 #[pT T, iv tip] y fun e w' => ∃ v, e = .returned v ∧ w'.ownsRow y.heap.size 3 1 v (lineO (plainR l) tip).length (nvL (lineO (plainR l) tip)) ∧ Keep y w') := Lib.hid fun y T hy h1 => line_any T _ tip y hy TR (by omega) htip
  have hla := lineO_len TR tip
  have MAIN : Hid (l.length ≤ 30 → (lineO (plainR l) tip).length ≤ 30 ∧ ((G.map (headN (plainR l))).length : Int) ≤ max 0 (min most 2000) ∧ (G.map (headN (plainR l))).length ≤ (lineO (plainR l) tip).length ∧ ((G.map (headN (plainR l))).length ≠ 0 → (G.map (headN (plainR l))).length < (lineO (plainR l) tip).length) ∧
      (∀ y A c, Keep w y → Rd y A ((G.map (headN (plainR l))).flatMap Hd.cells) → Calls Tryz.prog 20 #[.slice A (G.map (headN (plainR l))).length c] y fun e w' => e = .returned (iv (G.map (headN (plainR l))).length) ∧ Keep y w') ∧
      ∀ k, k < (G.map (headN (plainR l))).length → ∃ (xs : Array Value) (I : List UInt8) (x m : Nat), (∃ hh, HdA hh xs) ∧ 1 ≤ m ∧ m < (lineO (plainR l) tip).length ∧ (lineO (plainR l) tip)[m]? = some x ∧ I.length = 32 ∧ (k + 1 < (G.map (headN (plainR l))).length → I ≠ stop) ∧
        (∀ y A, Rd y A ((G.map (headN (plainR l))).flatMap Hd.cells) → ∃ b off, A = some ⟨b, off, none⟩ ∧ y.rangeAt b (off + k * 68) xs.toList) ∧
        (∀ y, Keep w y → Calls Tryz.prog 21 #[.agg xs] y fun e w' => ∃ ds, e = .returned (.agg ds) ∧ HashA I ds ∧ Keep y w') ∧
        (∀ y T ds, TrR y T (plainR l) → HashA I ds → Calls Tryz.prog 17 #[pT T, .agg ds] y fun e w' => e = .returned (.tuple #[iv x, .bool true]) ∧ Keep y w')) := Lib.hid fun h30 => by
    have hok : ∀ h ∈ G.map (headN (plainR l)), h.ok := fun h hh => by
      obtain ⟨q, _, rfl⟩ := List.mem_map.1 hh
      exact headN_ok TR q
    have e1 : (G.map (headN (plainR l))).length = G.length := by rw [List.length_map]
    refine ⟨by omega, by rw [e1]; exact g3, by rw [e1]; exact g2, by rw [e1]; exact g5, fun y A c hy hr2 => ?_, fun k hk2 => ?_⟩
    · have := linked_any A _ c y (hS.keep hy) (by omega) hr2 hok
      rw [g4] at this
      rw [e1] at this ⊢
      exact this
    · rw [e1] at hk2
      obtain ⟨x, m, q1, q2, q3, q4, q5⟩ := g6 k hk2
      have hh := HdA.of (headN_ok TR x)
      have hgk : (G.map (headN (plainR l)))[k]'(by rw [e1]; exact hk2) = headN (plainR l) x := by
        rw [List.getElem_map]
        rw [List.getElem?_eq_getElem hk2] at q1
        rw [Option.some.inj q1]
      refine ⟨_, idL (headN (plainR l) x), x, m, ⟨_, hh⟩, q3, (List.getElem?_eq_some_iff.1 q4).1, q4, idL_len _, by rw [e1]; exact q5, fun y A hy => ?_, fun y hy => id_any _ _ y (hS.keep hy) (headN_ok TR x) hh, fun y T ds hy hds => ?_⟩
      · obtain ⟨b, off, h1, -, h2⟩ := heads_at hy hok (k := k) (by rw [e1]; exact hk2)
        rw [hgk, ← hh.l] at h2
        exact ⟨b, off, h1, h2⟩
      · have := find_any T _ _ ds y hy (idL_len _) hds
        rw [q2] at this; exact this
  have Hss := Lib.hid hss; have Hst := Lib.hid hstop
  have hcz := hss.z; have hcn := hss.n; have hci := hss.i
  clear hS hr hk hd hdm hlen TR hi htip HI32 HLL hG g1 g2 g3 g4 g5 g6 hla hss hstop
  generalize locN (plainR l) i = LC at *
  generalize G.map (headN (plainR l)) = H at *
  generalize lineO (plainR l) tip = L at *
  generalize plainR l = ns at *
  generalize l.length = n at *
  have HK : Hid (Keep w w) := Lib.hid (Below.refl _ _)
  go_enter Tryz.func6, Tryz.ntmps6
  go_upto_region 1 with fail
  obtain ⟨w1, hw1⟩ : ∃ w1, w1 = w.alloc (.cells ss 36) := ⟨_, rfl⟩
  have HC1 : Hid (Blk w1 w.heap.size 36 ss.toList) := by rw [hw1]; exact Lib.hid (Blk.new w 36 ss.toList)
  have HK1 : Hid (Keep w w1) := by rw [hw1]; exact Lib.hid (keep_trans HK.out (keep_new _ _))
  rw [← hw1]
  have hgs1 : w.heap.size ≤ w.heap.size := HK.out.size
  clear hw1  HK
  generalize w.heap.size = gc at *
  clear hgs1
  go_wp2_with fail
  refine (AW.out _ HK1.out).mono ?_
  clear AW
  rintro e w2 ⟨rfl, k2⟩
  have HC2 := Lib.hid (HC1.out.keep k2)
  have HK2 := Lib.hid (keep_trans HK1.out k2)
  clear k2 HC1 HK1
  by_cases hn : 30 < n
  · have d1 : (30 : Int) < n := by omega
    clear PL LO AF LN MAIN
    go_wp2
    exact bodyPost_ret (v := .bool true) (by simp [results, Tryz.results6]) rfl ⟨rfl, HK2.out⟩
  have d1 : ¬ (30 : Int) < n := by omega
  have hn2 : n ≤ 30 := by omega
  go_wp2_with fail
  refine (PL.out _ HK2.out hn2).mono ?_
  clear PL
  rintro e w3 ⟨T, rfl, hT, k3⟩
  have HT3 := Lib.hid hT; have HK3 := Lib.hid (keep_trans HK2.out k3); have HC3 := Lib.hid (HC2.out.keep k3)
  clear hT k3 HK2 HC2
  obtain ⟨m1, m2, m3, m4, LK, M6⟩ := MAIN.out hn2
  have LK := Lib.hid LK; have M6 := Lib.hid M6
  have LO := Lib.hid fun y T h => LO.out y T h hn2
  have AF := Lib.hid fun y T A c h h' => AF.out y T A c h h' hn2
  have LN := Lib.hid fun y T h => LN.out y T h hn2
  clear MAIN
  go_upto_region 5 with fail
  refine wp_region_tree (.take [0,1,2,3,5,6] (.force [4,7] (.take [8] .done))) [] (by kernel_rfl) (by kernel_rfl) (fun w4 k4 => ?_)
  have HT4 := Lib.hid (HT3.out.keep k4); have HK4 := Lib.hid (keep_trans HK3.out k4); have HC4 := Lib.hid (HC3.out.keep k4)
  have RC : Hid (w4.rangeAt gc 0 ss.toList) := Lib.hid (range_of HC4.out 0 ss.toList (by simp [List.take_of_length_le]))
  clear k4 HT3 HK3 HC3
  refine mt_take w4 (Below.refl _ _) ?_
  simp only [pick_cons, pick_nil, nth_zero, nth_succ]
  repeat (first
    | ((with_reducible refine wpQuiet_load_partg gc 0 ss (Eq.trans ?_ rfl) RC.out _ Tryz.underlying36 rfl hci (Eq.trans ?_ rfl) ?_); rfl; rfl; simp only [Act.put, Array.set!_eq_setIfInBounds, List.setIfInBounds_toArray, List.set_cons_succ, List.set_cons_zero])
    | go_big_quiet_step (fail))
  refine wpQuiet_nil (mt_force ?_)
  simp only [pick_cons, pick_nil, nth_zero, nth_succ]
  clear RC
  refine fc_step rfl (fun K hK => ?_)
  go_simp
  (with_reducible refine (LO.out _ T HT4.out).mono ?_)
  rintro e w5 ⟨vl, rfl, hown, k5⟩
  refine hK _ _ k5 ?_
  clear hK K LO
  obtain ⟨A5, c5, rfl, -, -, hr5⟩ := own_form hown
  have RL := Lib.hid hr5
  have HT5 := Lib.hid (HT4.out.keep k5); have HK5 := Lib.hid (keep_trans HK4.out k5); have HC5 := Lib.hid (HC4.out.keep k5)
  clear hown hr5 k5 HT4 HK4 HC4
  refine fc_step rfl (fun K hK => ?_)
  go_simp
  (with_reducible refine (AF.out _ T A5 c5 HT5.out RL.out).mono ?_)
  rintro e w6 ⟨vg, rfl, hown, k6⟩
  refine hK _ _ k6 ?_
  clear hK K AF RL
  obtain ⟨A6, c6, rfl, -, -, hr6⟩ := own_form hown
  have RG6 := Lib.hid hr6
  have HT6 := Lib.hid (HT5.out.keep k6); have HK6 := Lib.hid (keep_trans HK5.out k6); have HC6 := Lib.hid (HC5.out.keep k6)
  clear hown hr6 k6 HT5 HK5 HC5
  refine fc_nil (mt_take w6 (Below.refl _ _) ?_)
  simp only [pick_cons, pick_nil, nth_zero, nth_succ]
  repeat (go_big_quiet_step (fail))
  refine wpQuiet_nil (mt_end ?_)
  go_wp2_with fail
  refine (LN.out _ T HT6.out).mono ?_
  clear LN
  rintro e w7 ⟨vn, rfl, hown, k7⟩
  obtain ⟨A7, c7, rfl, -, -, hr7⟩ := own_form hown
  have RL7 := Lib.hid hr7
  have HT7 := Lib.hid (HT6.out.keep k7); have HK7 := Lib.hid (keep_trans HK6.out k7); have HC7 := Lib.hid (HC6.out.keep k7); have RG7 := Lib.hid (RG6.out.keep k7)
  clear hown hr7 k7 HT6 HK6 HC6 RG6
  obtain ⟨N, hN⟩ : ∃ N, H.length = N := ⟨_, rfl⟩
  rw [hN] at m2 m3 m4 LK M6 ⊢
  obtain ⟨M, hM⟩ : ∃ M, L.length = M := ⟨_, rfl⟩
  rw [hM] at m1 m3 m4 M6 ⊢
  have HML := Lib.hid hM
  clear hN hM
  have d2 : ¬ max 0 (min most 2000) < (N : Int) := by omega
  have M4 := Lib.hid m4
  clear m2 m4
  go_wp2_with fail
  refine (LK.out _ A6 c6 HK7.out RG7.out).mono ?_
  clear LK
  rintro e w8 ⟨rfl, k8⟩
  have HT8 := Lib.hid (HT7.out.keep k8); have HK8 := Lib.hid (keep_trans HK7.out k8); have HC8 := Lib.hid (HC7.out.keep k8); have RG8 := Lib.hid (RG7.out.keep k8); have RL8 := Lib.hid (RL7.out.keep k8)
  clear k8 HT7 HK7 HC7 RG7 RL7
  have d3 : ((N : Int) != (N : Int)) = false := by simp
  go_wp2_with fail
  clear d2 d3
  go_loopw [15] (fun kv wr => ∃ k : Nat, k ≤ N ∧ kv = .int .i64 k ∧ Hid (Keep w8 wr)) (fun kv _ => N - (intOf kv).toNat)
  case atStart => exact ⟨0, Nat.zero_le _, rfl, Lib.hid (Below.refl _ _)⟩
  case round =>
    obtain ⟨k, hk, rfl, HKr⟩ := hrel
    by_cases hlt : k < N
    · obtain ⟨xs, I, x, m, ⟨hh, hxs⟩, h1m, hmM, hLm, hI32, hne, hat, I1, F1⟩ := M6.out k hlt
      obtain ⟨b, off, hA0, hrg⟩ := hat _ _ RG8.out
      cases hA0
      have I1 := Lib.hid I1; have F1 := Lib.hid F1; have HNE := Lib.hid hne; have HLM := Lib.hid hLm; have HI := Lib.hid hI32
      have hxz := hxs.z; have hxn := hxs.n; have hxi := hxs.i
      obtain ⟨wq, hwq⟩ : ∃ wq, wr = wq := ⟨_, rfl⟩
      rw [hwq] at HKr ⊢
      clear hwq
      have RX : Hid (wq.rangeAt b (off + k * 68) xs.toList) := Lib.hid fun j v hv => keep_cell HKr.out (hrg j v hv)
      have HTq := Lib.hid (HT8.out.keep HKr.out); have HKq := Lib.hid (keep_trans HK8.out HKr.out)
      have d2 : (k : Int) < N := by omega
      have HRG := Lib.hid hrg
      clear hat hrg hne hLm hI32 hxs M6
      go_wp2_with ((with_reducible refine load_partg b (off + k * 68) xs (Eq.trans ?_ rfl) RX.out _ Tryz.underlying39 rfl hxi rfl ?_); rfl)
      refine (I1.out _ HKq.out).mono ?_
      clear RX
      rintro e w11 ⟨ds, rfl, hds, k11⟩
      have Hds := Lib.hid hds
      have HT11 := Lib.hid (HTq.out.keep k11); have HK11 := Lib.hid (keep_trans HKr.out k11)
      clear k11 HTq HKr HKq hds
      go_wp2_with fail
      refine (F1.out _ T ds HT11.out Hds.out).mono ?_
      clear F1 Hds
      rintro e w12 ⟨rfl, k12⟩
      have HK12 := Lib.hid (keep_trans HK11.out k12)
      clear k12 HK11 HT11
      have RLq := Lib.hid (RL8.out.keep HK12.out)
      go_wp2_with fail
      go_loopw [18, 19] (fun bv mv wr => ∃ (b : Bool) (q : Nat), q ≤ M ∧ 1 ≤ q ∧ bv = .bool b ∧ mv = .int .i64 q ∧ (m < q → b = true) ∧ w12 = wr) (fun _ mv _ => M - (intOf mv).toNat)
      case atStart => exact ⟨false, 1, by omega, Nat.le_refl _, rfl, rfl, fun h => by omega, rfl⟩
      case round =>
        obtain ⟨b, q, hq, hq1, rfl, rfl, hbq, rfl⟩ := hrel
        by_cases hlt2 : q < M
        · have d3 : (q : Int) < M := by omega
          cases b with
          | true =>
            clear hbq
            go_wp2
            go_roundw
            case rel => exact ⟨true, q + 1, by omega, by omega, rfl, by go_num, fun _ => rfl, by first | rfl | trivial⟩
            case measure => simp [intOf]; omega
          | false =>
            obtain ⟨y, hy⟩ : ∃ y, L[q]? = some y := ⟨_, List.getElem?_eq_getElem (by rw [HML.out]; exact hlt2)⟩
            obtain ⟨bl, ol, hA1, hcl⟩ := nv_at RLq.out hy
            cases hA1
            have hqm : ¬ m < q := fun h => by have := hbq h; cases this
            have hnew : Hid (m < q + 1 → ((y : Int) == (x : Int)) = true) := Lib.hid fun h => by
              obtain rfl : m = q := by omega
              rw [HLM.out] at hy
              rw [Option.some.inj hy]; exact beq_self_eq_true _
            obtain ⟨b2, hb2⟩ : ∃ b2, ((y : Int) == (x : Int)) = b2 := ⟨_, rfl⟩
            rw [hb2] at hnew
            clear hbq hqm hy
            go_wp2
            go_roundw
            case rel => exact ⟨b2, q + 1, by omega, by omega, by first | rfl | (rw [← hb2]; done) | (rw [hb2]), by go_num, hnew.out, by first | rfl | trivial⟩
            case measure => simp [intOf]; omega
        · obtain rfl : q = M := by omega
          have hb : b = true := hbq hmM
          subst hb
          have d3 : ¬ ((q : Int) < q) := by omega
          clear hbq RLq HLM
          have hw1 : IntKind.i64.wrap ((N : Int) - 1) = (N : Int) - 1 := IntWalk.i64_in _ (by omega)
          have RX0 : Hid (w12.rangeAt b (off + k * 68) xs.toList) := Lib.hid fun j v hv => keep_cell HK12.out (HRG.out j v hv)
          have HKW := Lib.hid (keep_trans HK8.out HK12.out)
          clear HRG
          go_upto_region 18 with fail
          refine wp_region_tree (.take [0,1,2,3,4,5,6,7,8,9,10,11,12,13,14,15,16,18] (.force [17] (.take [19,20,21] .done))) [] (by kernel_rfl) (by kernel_rfl) (fun w21 k21 => ?_)
          have RX : Hid (w21.rangeAt b (off + k * 68) xs.toList) := Lib.hid fun j v hv => keep_cell k21 (RX0.out j v hv)
          have RC : Hid (w21.rangeAt gc 0 ss.toList) := Lib.hid (range_of (HC8.out.keep (keep_trans HK12.out k21)) 0 ss.toList (by simp [List.take_of_length_le]))
          have HK21 := Lib.hid (keep_trans HK12.out k21); have HKW21 := Lib.hid (keep_trans HKW.out k21)
          clear k21 RX0 HKW HK12
          by_cases hk1 : k + 1 < N
          · have d4 : (k : Int) < (N : Int) - 1 := by omega
            have hIs := HNE.out hk1
            have HIS := Lib.hid hIs
            clear hk1 hIs HNE
            refine mt_take w21 (Below.refl _ _) ?_
            simp only [pick_cons, pick_nil, nth_zero, nth_succ]
            repeat (first
              | ((with_reducible refine wpQuiet_load_partg b (off + k * 68) xs (Eq.trans ?_ rfl) RX.out _ Tryz.underlying39 rfl hxi (Eq.trans ?_ rfl) ?_); rfl; rfl; simp only [Act.put, Array.set!_eq_setIfInBounds, List.setIfInBounds_toArray, List.set_cons_succ, List.set_cons_zero])
              | ((with_reducible refine wpQuiet_load_partg gc 0 ss (Eq.trans ?_ rfl) RC.out _ Tryz.underlying36 rfl hci (Eq.trans ?_ rfl) ?_); rfl; rfl; simp only [Act.put, Array.set!_eq_setIfInBounds, List.setIfInBounds_toArray, List.set_cons_succ, List.set_cons_zero])
              | go_big_quiet_step (fail))
            refine wpQuiet_nil (mt_force ?_)
            simp only [pick_cons, pick_nil, nth_zero, nth_succ]
            refine fc_step rfl (fun K hK => ?_)
            go_simp
            (with_reducible refine (I1.out _ HKW21.out).mono ?_)
            rintro e w22 ⟨ds, rfl, hds, k22⟩
            refine hK _ _ k22 ?_
            have heq : ∀ z, (Op.equalIn 10000 36 (.agg ds) (.agg ss)).run Tryz.prog (aft w22 z) = .ok (I == stop) (aft w22 z) := fun z => hash_in hds Hss.out HI.out Hst.out _
            rw [show (I == stop) = false from beq_eq_false_iff_ne.2 HIS.out] at heq
            have hdz := hds.z; have hdn := hds.n; have hdi := hds.i
            have HK22 := Lib.hid (keep_trans HK21.out k22)
            clear hK K k22 hds HK21 HKW21 RX RC I1 HIS HI
            refine fc_nil (mt_take w22 (Below.refl _ _) ?_)
            simp only [pick_cons, pick_nil, nth_zero, nth_succ]
            repeat (go_big_quiet_step (fail))
            refine wpQuiet_nil (mt_end ?_)
            clear heq
            go_wp2
            go_roundw
            case rel => exact ⟨k + 1, by omega, by go_num, HK22⟩
            case measure => simp [intOf]; omega
          · have d4 : ¬ (k : Int) < (N : Int) - 1 := by omega
            clear hk1 HNE I1
            refine mt_take w21 (Below.refl _ _) ?_
            simp only [pick_cons, pick_nil, nth_zero, nth_succ]
            repeat (first
              | ((with_reducible refine wpQuiet_load_partg b (off + k * 68) xs (Eq.trans ?_ rfl) RX.out _ Tryz.underlying39 rfl hxi (Eq.trans ?_ rfl) ?_); rfl; rfl; simp only [Act.put, Array.set!_eq_setIfInBounds, List.setIfInBounds_toArray, List.set_cons_succ, List.set_cons_zero])
              | ((with_reducible refine wpQuiet_load_partg gc 0 ss (Eq.trans ?_ rfl) RC.out _ Tryz.underlying36 rfl hci (Eq.trans ?_ rfl) ?_); rfl; rfl; simp only [Act.put, Array.set!_eq_setIfInBounds, List.setIfInBounds_toArray, List.set_cons_succ, List.set_cons_zero])
              | go_big_quiet_step (fail))
            refine wpQuiet_nil (mt_force ?_)
            simp only [pick_cons, pick_nil, nth_zero, nth_succ]
            refine fc_skip rfl ?_
            simp only [Act.put, Array.set!_eq_setIfInBounds, List.setIfInBounds_toArray, List.set_cons_succ, List.set_cons_zero]
            refine fc_nil (mt_take w21 (Below.refl _ _) ?_)
            simp only [pick_cons, pick_nil, nth_zero, nth_succ]
            repeat (go_big_quiet_step (fail))
            refine wpQuiet_nil (mt_end ?_)
            clear RX RC
            go_wp2
            go_roundw
            case rel => exact ⟨k + 1, by omega, by go_num, HK21⟩
            case measure => simp [intOf]; omega
    · obtain rfl : k = N := by omega
      have d2 : ¬ ((k : Int) < k) := by omega
      have HKF := Lib.hid (keep_trans HK8.out HKr.out)
      by_cases h0 : k = 0
      · have d5 : ((k : Int) == 0) = true := by simp [h0]
        clear M6 M4
        go_wp2
        exact bodyPost_ret (v := .bool true) (by simp [results, Tryz.results6]) rfl ⟨rfl, HKF.out⟩
      · have d5 : ((k : Int) == 0) = false := by rw [beq_eq_false_iff_ne]; omega
        have d6 : (k : Int) < (M : Int) := by have := M4.out h0; omega
        clear M6 M4 h0
        go_wp2
        exact bodyPost_ret (v := .bool true) (by simp [results, Tryz.results6]) rfl ⟨rfl, HKF.out⟩
end Go.Proofs.YtjbdboekleaklaaGreatDoor
