/- Texts merged by pack.py: Tl, Tq0, Tq. -/
import Derived.Test.YtjbdboekleaklaaGreatDoorCx11
/- ForkDepth: the walk. -/
set_option linter.unusedSimpArgs false
set_option linter.unusedVariables false
namespace Go.Proofs.YtjbdboekleaklaaGreatDoor
open Go.RowKit
attribute [local go_sem ↓] Go.wp_at_zero Go.wp_at_succ

theorem line_some {ns : List Nd} (TR : Tr ns) {i : Int} {k x : Nat} (h : (lineO ns i)[k]? = some x) : ∃ n : Nat, i = n ∧ n < ns.length ∧ k ≤ hgtN ns n ∧ x = abvN ns n k ∧ x < ns.length ∧ hgtN ns x = k := by
  unfold lineO at h
  split at h
  · rename_i hc
    have hk := (List.getElem?_eq_some_iff.1 h).1
    rw [line_len] at hk
    rw [line_abv (by omega)] at h
    have hx := Option.some.inj h
    obtain ⟨-, a, b⟩ := TR.abv hc.2 (h := k) (by omega)
    rw [hx] at a b
    exact ⟨i.toNat, by omega, hc.2, by omega, hx.symm, a, b⟩
  · simp at h
theorem dep_some {ns : List Nd} (TR : Tr ns) {i j : Int} {d : Nat} (h : depR ns i j = some d) : ∃ k, (∃ x : Nat, (lineO ns i)[k]? = some x ∧ (x : Int) = j) ∧ d + k = (lineO ns i).length ∧ ∀ m x : Nat, (lineO ns i)[m]? = some x → (x : Int) = j → m = k := by
  unfold depR at h
  split at h
  · rename_i hc
    obtain ⟨hs, ha⟩ := hc
    obtain ⟨q, hq, hqj⟩ : ∃ q, abvO ns i (((nodeO ns j).getD nd0).hgt : Int) = some q ∧ (q : Int) = j := by
      cases hq : abvO ns i (((nodeO ns j).getD nd0).hgt : Int) with
      | none => rw [hq] at ha; cases ha
      | some q => rw [hq] at ha; exact ⟨q, rfl, by simpa using ha⟩
    obtain ⟨n, g, h1, h2, h3, h4, h5⟩ := abvO_some hq
    obtain ⟨y, hy⟩ := Option.isSome_iff_exists.1 hs
    rw [hy] at h h2
    simp only [Option.getD_some] at h h2
    have hL : lineO ns i = lineN ns n := by unfold lineO; rw [if_pos ⟨by omega, by omega⟩, h1]; simp
    have hgk : (lineO ns i)[g]? = some q := by rw [hL, line_abv h4, h5]
    refine ⟨g, ⟨q, hgk, hqj⟩, ?_, fun m x hm hx => ?_⟩
    · have hd := Option.some.inj h
      rw [hL, line_len]
      rw [h1, Int.toNat_natCast] at hd
      have : y.hgt = g := by omega
      omega
    · obtain ⟨-, -, -, -, -, -, e1⟩ := line_some TR hm
      obtain ⟨-, -, -, -, -, -, e2⟩ := line_some TR hgk
      have : x = q := by omega
      rw [this] at e1
      omega
  · cases h
theorem dep_none {ns : List Nd} (TR : Tr ns) {i j : Int} (h : depR ns i j = none) (m x : Nat) (hm : (lineO ns i)[m]? = some x) : (x : Int) ≠ j := fun hx => by
  obtain ⟨n, h1, h2, h3, h4, h5, h6⟩ := line_some TR hm
  have hn : nodeO ns j = some ns[x] := by rw [← hx, nodeO_nat, List.getElem?_eq_getElem h5]
  have hh : ns[x].hgt = m := by rw [← hgtN_of (List.getElem?_eq_getElem h5)]; exact h6
  have ha : abvO ns i (m : Int) = some x := by
    unfold abvO
    rw [h1, nodeO_nat, List.getElem?_eq_getElem h2]
    rw [hgtN_of (List.getElem?_eq_getElem h2)] at h3
    rw [if_pos ⟨rfl, by omega, by simp; omega⟩]
    simp [h4]
  unfold depR at h
  rw [hn] at h
  simp only [Option.getD_some, hh, ha] at h
  rw [if_pos ⟨rfl, by simp [hx]⟩] at h
  cases h

set_option maxRecDepth 100000 in
set_option maxHeartbeats 8000000 in
theorem depth_walk (B : Option Addr) (l : List Hd) (d : Nat) (i j : Int) (w : World) (hS : ShaOk w) (hd : l.length ≤ d) (hdm : d ≤ maxLen) (hr : Rd w B (l.flatMap Hd.cells)) (hk : ∀ h ∈ l, h.ok)
    (hi : -9223372036854775808 ≤ i ∧ i ≤ 9223372036854775807) (hj : -9223372036854775808 ≤ j ∧ j ≤ 9223372036854775807) :
    Calls Tryz.prog 4 #[.slice B l.length d, iv i, iv j] w fun e w' => e = .returned (.bool true) ∧ Keep w w' := by
  have AW : Hid (∀ y, Keep w y → Calls Tryz.prog 8 #[] y fun e w' => e = .returned (.bool true) ∧ Keep y w') := Lib.hid fun y hy => awake_any y (hS.keep hy)
  have PL : Hid (∀ y, Keep w y → l.length ≤ 30 → Calls Tryz.prog 9 #[.slice B l.length d] y fun e w' => ∃ T, e = .returned (pT T) ∧ TrR w' T (plainR l) ∧ Keep y w') := Lib.hid fun y hy h1 =>
    (plainly_any B l d y (hS.keep hy) (by omega) (hr.keep hy) hk).mono fun e w' ⟨T, M, v, h2, h3, h4⟩ => ⟨T, h2, h3.r, h4⟩
  obtain ⟨TR, hlen⟩ := plain_tr l hk
  have L1 : Hid (∀ y T, TrR y T (plainR l) → l.length ≤ 30 → Calls Tryz.prog 12 #[pT T, iv i] y (Lined y.heap.size (lineO (plainR l) i) y)) := Lib.hid fun y T hy h1 => line_any T _ i y hy TR (by omega) hi
  have D1 : Hid (∀ y T, TrR y T (plainR l) → l.length ≤ 30 → Calls Tryz.prog 14 #[pT T, iv i, iv j] y fun e w' => e = .returned (.tuple #[iv ((depR (plainR l) i j).getD 0 : Nat), .bool (depR (plainR l) i j).isSome]) ∧ Keep y w') := Lib.hid fun y T hy h1 => depth_any T _ i j y hy TR (by omega) hj hi
  have HLL : Hid (l.length ≤ 30 → (lineO (plainR l) i).length ≤ 30) := Lib.hid fun h1 => by have := lineO_len TR i; omega
  have HS : Hid (∀ d, depR (plainR l) i j = some d → ∃ k, (∃ x : Nat, (lineO (plainR l) i)[k]? = some x ∧ (x : Int) = j) ∧ d + k = (lineO (plainR l) i).length ∧ ∀ m x : Nat, (lineO (plainR l) i)[m]? = some x → (x : Int) = j → m = k) := Lib.hid fun d h => dep_some TR h
  have HN : Hid (depR (plainR l) i j = none → ∀ m x : Nat, (lineO (plainR l) i)[m]? = some x → (x : Int) ≠ j) := Lib.hid fun h => dep_none TR h
  clear hS hr hk hd hdm TR hlen
  generalize depR (plainR l) i j = DR at *
  generalize lineO (plainR l) i = L at *
  generalize plainR l = ns at *
  generalize l.length = n at *
  unfold Lined at *
  have HK : Hid (Keep w w) := Lib.hid (Below.refl _ _)
  go_enter Tryz.func4, Tryz.ntmps4
  go_wp2_with fail
  refine (AW.out _ HK.out).mono ?_
  clear AW
  rintro e w1 ⟨rfl, k1⟩
  have HK1 := Lib.hid k1
  clear k1 HK
  by_cases hn : 30 < n
  · have d1 : (30 : Int) < n := by omega
    clear PL L1 D1 HLL HS HN
    go_wp2
    exact bodyPost_ret (v := .bool true) (by simp [results, Tryz.results4]) rfl ⟨rfl, HK1.out⟩
  have d1 : ¬ (30 : Int) < n := by omega
  have hn2 : n ≤ 30 := by omega
  have hL30 := HLL.out hn2
  go_wp2_with fail
  refine (PL.out _ HK1.out hn2).mono ?_
  clear PL
  rintro e w2 ⟨T, rfl, hT, k2⟩
  have HT2 := Lib.hid hT; have HK2 := Lib.hid (keep_trans HK1.out k2)
  clear hT k2 HK1
  go_wp2_with fail
  refine (L1.out _ T HT2.out hn2).mono ?_
  clear L1
  rintro e w3 ⟨v3, rfl, hown, k3⟩
  obtain ⟨A3, c3, rfl, hc3, hm3, hr3⟩ := own_form hown
  have HT3 := Lib.hid (HT2.out.keep k3); have HK3 := Lib.hid (keep_trans HK2.out k3)
  have RL := Lib.hid hr3
  clear hown hr3 k3 HT2 HK2
  go_wp2_with fail
  refine (D1.out _ T HT3.out hn2).mono ?_
  clear D1
  rintro e w4 ⟨rfl, k4⟩
  have HK4 := Lib.hid (keep_trans HK3.out k4)
  have RL4 := Lib.hid (RL.out.keep k4)
  clear k4 HT3 HK3 RL
  go_wp2_with fail
  go_loopw [12, 13] (fun f s wr => ∃ k : Nat, k ≤ L.length ∧ s = .int .i64 k ∧ wr = w4 ∧ ((f = .int .i64 (-1) ∧ ∀ m x : Nat, m < k → L[m]? = some x → (x : Int) ≠ j) ∨ ∃ k0 : Nat, f = .int .i64 k0 ∧ k0 < k ∧ ∃ x : Nat, L[k0]? = some x ∧ (x : Int) = j)) (fun _ s _ => L.length - (intOf s).toNat)
  case atStart => exact ⟨0, Nat.zero_le _, rfl, rfl, .inl ⟨rfl, fun m x hm => absurd hm (Nat.not_lt_zero _)⟩⟩
  case round =>
    obtain ⟨k, hkl, rfl, rfl, hf⟩ := hrel
    have HF := Lib.hid hf
    clear hf
    by_cases hlt : k < L.length
    · obtain ⟨x, hx⟩ : ∃ x, L[k]? = some x := ⟨_, List.getElem?_eq_getElem hlt⟩
      obtain ⟨b, off, hA0, hcx⟩ := nv_at RL4.out hx
      cases hA0
      have HX := Lib.hid hx
      have d2 : (k : Int) < L.length := by omega
      clear hx
      by_cases hxj : (x : Int) = j
      · subst hxj
        have s1 : ((x : Int) == (x : Int)) = true := beq_self_eq_true _
        clear HF HS HN
        go_wp2
        go_roundw
        case rel => exact ⟨k + 1, by omega, by go_num, by first | rfl | trivial, .inr ⟨k, by first | rfl | trivial, by omega, x, HX.out, rfl⟩⟩
        case measure => simp [intOf]; omega
      · have s1 : ((x : Int) == j) = false := by simp [hxj]
        clear HS HN
        go_wp2
        go_roundw
        case rel =>
          refine ⟨k + 1, by omega, by go_num, by first | rfl | trivial, ?_⟩
          rcases HF.out with ⟨h1, h2⟩ | ⟨k0, h1, h2, h3⟩
          · refine .inl ⟨h1, fun m y hm hy => ?_⟩
            by_cases q : m = k
            · rw [q, HX.out] at hy
              rw [← Option.some.inj hy]; exact hxj
            · exact h2 m y (by omega) hy
          · exact .inr ⟨k0, h1, by omega, h3⟩
        case measure => simp [intOf]; omega
    · obtain rfl : k = L.length := by omega
      have d2 : ¬ ((L.length : Int) < L.length) := by omega
      cases DR with
      | none =>
        have hall := HN.out rfl
        rcases HF.out with ⟨h1, h2⟩ | ⟨k0, h1, h2, x, h3, h4⟩
        · subst h1
          clear HF HS HN hall h2
          go_wp2
          exact bodyPost_ret (v := .bool true) (by simp [results, Tryz.results4]) rfl ⟨rfl, HK4.out⟩
        · exact absurd h4 (hall k0 x h3)
      | some dd =>
        obtain ⟨k1, ⟨x1, hx1, hx2⟩, hdk, huni⟩ := HS.out dd rfl
        rcases HF.out with ⟨h1, h2⟩ | ⟨k0, h1, h2, x, h3, h4⟩
        · exact absurd hx2 (h2 k1 x1 (List.getElem?_eq_some_iff.1 hx1).1 hx1)
        · have hkk := huni k0 x h3 h4
          subst h1
          have f1 : (L.length : Int) - (k0 : Int) = (dd : Int) := by omega
          have f2 : IntKind.i64.wrap (dd : Int) = dd := IntWalk.i64_in _ (by omega)
          have f3 : (0 : Int) ≤ (k0 : Int) := by omega
          have s1 : ((dd : Int) == (dd : Int)) = true := beq_self_eq_true _
          clear HF HS HN huni hx1 hx2 hdk h3 h4 hkk
          go_wp2
          exact bodyPost_ret (v := .bool true) (by simp [results, Tryz.results4]) rfl ⟨rfl, HK4.out⟩
end Go.Proofs.YtjbdboekleaklaaGreatDoor

/- The plain law of a locator; a hash in a row of hashes. -/
set_option linter.unusedSimpArgs false
set_option linter.unusedVariables false
namespace Go.Proofs.YtjbdboekleaklaaGreatDoor
open Go.RowKit

theorem hash_at {w : World} {B : Option Addr} {l : List (List UInt8)} (hr : Rd w B (hsL l)) (hk : ∀ h ∈ l, h.length = 32) {k : Nat} (h : k < l.length) :
    ∃ b off, B = some ⟨b, off, none⟩ ∧ b < w.heap.size ∧ w.rangeAt b (off + k * 32) (l[k].map u8v) := by
  have hlen : ∀ a ∈ l, (a.map u8v).length = 32 := fun a ha => by rw [List.length_map]; exact hk a ha
  unfold hsL at hr
  obtain ⟨b, off, rfl, hb, F⟩ := hr.at (k := k * 32) (by rw [flatMap_len' _ 32 _ hlen]; omega)
  refine ⟨b, off, rfl, hb, fun j v hv => ?_⟩
  have hj : j < 32 := by rw [← hlen l[k] (List.getElem_mem h)]; exact (List.getElem?_eq_some_iff.1 hv).1
  have hg := flatMap_get' (fun a : List UInt8 => a.map u8v) 32 l hlen k j h hj
  have hlt : k * 32 + j < (l.flatMap fun a => a.map u8v).length := by rw [flatMap_len' _ 32 _ hlen]; omega
  have hc := F (k * 32 + j) hlt
  rw [Nat.add_assoc, hc, ← hv, ← hg, List.getElem?_eq_getElem hlt]

theorem locH_head (f x s c : Nat) (h : x ≤ f) : (locH f x s c ++ [0])[0]? = some x := by
  cases f with
  | zero => obtain rfl : x = 0 := by omega
            rfl
  | succ f => by_cases h0 : x = 0
              · subst h0; simp [locH]
              · simp [locH, h0]
theorem locH_get : ∀ (f x s c : Nat), x ≤ f → 1 ≤ s → ∀ k g, (locH f x s c ++ [0])[k]? = some g → g ≤ x ∧ (0 < k → ∃ p, (locH f x s c ++ [0])[k - 1]? = some p ∧ g < p)
  | 0, x, s, c, hx, _, k, g, hg => by
    obtain rfl : x = 0 := by omega
    rw [locH_zero] at hg ⊢
    obtain ⟨h1, h2⟩ := List.getElem?_eq_some_iff.1 hg
    simp at h1
    subst h1
    simp at h2
    exact ⟨by omega, fun q => absurd q (Nat.lt_irrefl _)⟩
  | f + 1, x, s, c, hx, hs, k, g, hg => by
    by_cases h0 : x = 0
    · subst h0
      rw [locH_zero] at hg ⊢
      obtain ⟨h1, h2⟩ := List.getElem?_eq_some_iff.1 hg
      simp at h1
      subst h1
      simp at h2
      exact ⟨by omega, fun q => absurd q (Nat.lt_irrefl _)⟩
    · have hst : 1 ≤ stpN s c := by unfold stpN; split <;> omega
      have e : locH (f + 1) x s c ++ [0] = x :: (locH f (x - stpN s c) (stpN s c) (c + 1) ++ [0]) := by simp only [locH]; rw [if_neg h0]; rfl
      rw [e] at hg ⊢
      cases k with
      | zero => simp at hg; exact ⟨by omega, fun q => absurd q (Nat.lt_irrefl _)⟩
      | succ k =>
        rw [List.getElem?_cons_succ] at hg
        obtain ⟨a1, a2⟩ := locH_get f _ _ (c + 1) (by omega) hst k g hg
        refine ⟨by omega, fun _ => ?_⟩
        rw [Nat.add_sub_cancel]
        cases k with
        | zero => exact ⟨x, rfl, by omega⟩
        | succ k => obtain ⟨p, h1, h2⟩ := a2 (Nat.succ_pos _)
                    exact ⟨p, h1, h2⟩
theorem locH_len2 : ∀ (k f x s c : Nat), 9 ≤ c → x + 2 * s ≤ s * 2 ^ (k + 1) → (locH f x s c).length ≤ k
  | k, 0, x, s, c, _, _ => Nat.zero_le _
  | 0, f + 1, x, s, c, hc, h => by
    have : x = 0 := by rw [Nat.zero_add, Nat.pow_one] at h; omega
    subst this; rw [locH_zero]; exact Nat.le_refl _
  | k + 1, f + 1, x, s, c, hc, h => by
    by_cases h0 : x = 0
    · subst h0; rw [locH_zero]; exact Nat.zero_le _
    · simp only [locH]; rw [if_neg h0]
      have e : stpN s c = 2 * s := by unfold stpN; rw [if_pos (by omega)]
      rw [e, List.length_cons]
      have := locH_len2 k f (x - 2 * s) (2 * s) (c + 1) (by omega) (by
        have q : s * 2 ^ (k + 1 + 1) = 2 * s * 2 ^ (k + 1) := by rw [Nat.pow_succ, Nat.mul_comm 2 s, Nat.mul_assoc, Nat.mul_comm 2 (2 ^ _)]
        rw [← q]
        have p1 : 2 ^ (k + 1) = 2 * 2 ^ k := by rw [Nat.pow_succ]; omega
        have p2 : 1 ≤ 2 ^ k := Nat.one_le_two_pow
        have p3 : 4 * s ≤ s * 2 ^ (k + 1 + 1) := by
          rw [Nat.mul_comm 4 s]; exact Nat.mul_le_mul_left s (by rw [Nat.pow_succ, Nat.pow_succ]; omega)
        omega)
      omega
theorem locH_len1 : ∀ (j f x k : Nat), j ≤ 9 → (x - j) + 2 ≤ 2 ^ (k + 1) → (locH f x 1 (9 - j)).length ≤ j + k
  | 0, f, x, k, _, h => by
    have := locH_len2 k f x 1 9 (by omega) (by rw [Nat.one_mul]; omega)
    rw [Nat.sub_zero]; omega
  | j + 1, 0, x, k, _, _ => Nat.zero_le _
  | j + 1, f + 1, x, k, hj, h => by
    by_cases h0 : x = 0
    · subst h0; rw [locH_zero]; exact Nat.zero_le _
    · simp only [locH]; rw [if_neg h0]
      have e : stpN 1 (9 - (j + 1)) = 1 := by unfold stpN; rw [if_neg (by omega)]
      rw [e, List.length_cons, show 9 - (j + 1) + 1 = 9 - j by omega]
      have := locH_len1 j f (x - 1) k (by omega) (by rw [show x - 1 - j = x - (j + 1) by omega]; exact h)
      omega
theorem locH_len {n d : Nat} (h : n / 2 ^ d = 0) : (locH n n 1 0 ++ [0]).length ≤ 12 + d := by
  have hlt : n < 2 ^ d := by
    rcases Nat.div_eq_zero_iff.1 h with h | h
    · have := Nat.two_pow_pos d; omega
    · exact h
  have := locH_len1 9 n n d (by omega) (by rw [Nat.pow_succ]; have := Nat.two_pow_pos d; omega)
  rw [Nat.sub_self] at this
  rw [List.length_append]
  simp
  omega

theorem loc_none {ns : List Nd} {i : Int} (h : nodeO ns i = none) : locN ns i = [] := by
  have hL : lineO ns i = [] := by
    unfold lineO
    split
    · rename_i hc
      unfold nodeO at h
      rw [if_pos hc.1, List.getElem?_eq_getElem hc.2] at h
      cases h
    · rfl
  unfold locN locL
  rw [hL, if_pos rfl]
  rfl
theorem loc_some {ns : List Nd} (TR : Tr ns) {i : Int} {y : Nd} (h : nodeO ns i = some y) : ∃ hs : List Nat, hs.length = (locN ns i).length ∧ 0 < hs.length ∧ hs[0]? = some y.hgt ∧ (locN ns i)[0]? = some y.id ∧
    hs[hs.length - 1]? = some 0 ∧ (∀ d, y.hgt / 2 ^ d = 0 → hs.length ≤ 12 + d) ∧ ∀ k g, hs[k]? = some g → g ≤ y.hgt ∧ (0 < k → ∃ p, hs[k - 1]? = some p ∧ g < p) ∧
      ∃ (I : List UInt8) (x : Nat) (z : Nd), (locN ns i)[k]? = some I ∧ findN ns I = some x ∧ nodeO ns x = some z ∧ z.hgt = g ∧ abvO ns i g = some x := by
  obtain ⟨m, hm, hml, hmh⟩ := nodeO_some h
  subst hm
  have hy : ns[m]? = some y := by rw [← nodeO_nat]; exact h
  have hL : lineO ns (m : Int) = lineN ns m := by unfold lineO; rw [if_pos ⟨by omega, by simpa using hml⟩]; simp
  have hne : ¬ lineN ns m = [] := fun q => by have := line_len ns m; rw [q] at this; simp at this
  have hloc : locN ns (m : Int) = (locH y.hgt y.hgt 1 0 ++ [0]).map fun k => idN ns ((lineN ns m).getD k 0) := by
    unfold locN locL
    rw [hL, if_neg hne, line_len, Nat.add_sub_cancel, hmh, List.map_map]
    rfl
  rw [hloc]
  refine ⟨locH y.hgt y.hgt 1 0 ++ [0], by simp, by simp, locH_head _ _ _ _ (Nat.le_refl _), ?_, by simp, fun d hd => locH_len hd, fun k g hg => ?_⟩
  · rw [List.getElem?_map, locH_head _ _ _ _ (Nat.le_refl _)]
    have e : (lineN ns m).getD y.hgt 0 = m := by
      rw [List.getD_eq_getElem?_getD, line_abv (by omega), ← hmh, abv_top]; rfl
    show some (idN ns ((lineN ns m).getD y.hgt 0)) = some y.id
    rw [e]; unfold idN; rw [hy]; rfl
  · obtain ⟨a1, a2⟩ := locH_get y.hgt y.hgt 1 0 (Nat.le_refl _) (Nat.le_refl _) k g hg
    obtain ⟨-, b1, b2⟩ := TR.abv hml (h := g) (by omega)
    have e : (lineN ns m).getD g 0 = abvN ns m g := by rw [List.getD_eq_getElem?_getD, line_abv (by omega)]; rfl
    have hz := List.getElem?_eq_getElem b1
    refine ⟨a1, a2, _, abvN ns m g, ns[abvN ns m g], by rw [List.getElem?_map, hg]; rfl, ?_, by rw [nodeO_nat]; exact hz, by rw [← hgtN_of hz]; exact b2, ?_⟩
    · show findN ns (idN ns ((lineN ns m).getD g 0)) = _
      rw [e]; unfold idN; rw [hz]; exact TR.find hz
    · unfold abvO
      rw [h]
      rw [if_pos ⟨rfl, by omega, by simp; omega⟩]
      simp
theorem loc_law {ns : List Nd} (TR : Tr ns) {i : Int} {y : Nd} (h : nodeO ns i = some y) : ∃ LA : Nat → Nat, LA 0 = y.hgt + 1 ∧ LA (locN ns i).length = 0 ∧ 0 < (locN ns i).length ∧ (locN ns i)[0]? = some y.id ∧
    (∀ d, y.hgt / 2 ^ d = 0 → (locN ns i).length ≤ 12 + d) ∧ ∀ k, k < (locN ns i).length → LA (k + 1) < LA k ∧ LA (k + 1) ≤ y.hgt ∧ ∃ (I : List UInt8) (x : Nat) (z : Nd), (locN ns i)[k]? = some I ∧ findN ns I = some x ∧ nodeO ns x = some z ∧ z.hgt = LA (k + 1) ∧ abvO ns i (LA (k + 1)) = some x := by
  obtain ⟨hs, h1, h2, h3, h4, h5, h6, h7⟩ := loc_some TR h
  rw [← h1]
  refine ⟨fun k => if k = 0 then y.hgt + 1 else hs.getD (k - 1) 0, if_pos rfl, ?_, h2, h4, h6, fun k hk => ?_⟩
  · show (if hs.length = 0 then _ else hs.getD (hs.length - 1) 0) = 0
    rw [if_neg (by omega), List.getD_eq_getElem?_getD, h5]; rfl
  · have hg := List.getElem?_eq_getElem hk
    obtain ⟨a1, a2, a3⟩ := h7 k _ hg
    have e : (if k + 1 = 0 then y.hgt + 1 else hs.getD (k + 1 - 1) 0) = hs[k] := by
      rw [if_neg (by omega), Nat.add_sub_cancel, List.getD_eq_getElem?_getD, hg]; rfl
    simp only [e]
    refine ⟨?_, a1, a3⟩
    by_cases h0 : k = 0
    · rw [if_pos h0]; omega
    · obtain ⟨p, p1, p2⟩ := a2 (by omega)
      rw [if_neg h0, List.getD_eq_getElem?_getD, p1]; exact p2
end Go.Proofs.YtjbdboekleaklaaGreatDoor

/- ForkLocator: the walk. (printed by gen_tq.py) -/
set_option linter.unusedSimpArgs false
set_option linter.unusedVariables false
namespace Go.Proofs.YtjbdboekleaklaaGreatDoor
open Go.RowKit
attribute [local go_sem ↓] Go.wp_at_zero Go.wp_at_succ

set_option maxRecDepth 100000 in
set_option maxHeartbeats 8000000 in
theorem locator_walk (B : Option Addr) (l : List Hd) (d : Nat) (i : Int) (w : World) (hS : ShaOk w) (hd : l.length ≤ d) (hdm : d ≤ maxLen) (hr : Rd w B (l.flatMap Hd.cells)) (hk : ∀ h ∈ l, h.ok)
    (hi : -9223372036854775808 ≤ i ∧ i ≤ 9223372036854775807) :
    Calls Tryz.prog 5 #[.slice B l.length d, iv i] w fun e w' => e = .returned (.bool true) ∧ Keep w w' := by
  have AW : Hid (∀ y, Keep w y → Calls Tryz.prog 8 #[] y fun e w' => e = .returned (.bool true) ∧ Keep y w') := Lib.hid fun y hy => awake_any y (hS.keep hy)
  have PL : Hid (∀ y, Keep w y → l.length ≤ 30 → Calls Tryz.prog 9 #[.slice B l.length d] y fun e w' => ∃ T, e = .returned (pT T) ∧ TrR w' T (plainR l) ∧ Keep y w') := Lib.hid fun y hy h1 =>
    (plainly_any B l d y (hS.keep hy) (by omega) (hr.keep hy) hk).mono fun e w' ⟨T, M, v, h2, h3, h4⟩ => ⟨T, h2, h3.r, h4⟩
  obtain ⟨TR, hlen⟩ := plain_tr l hk
  have LO : Hid (∀ y T, TrR y T (plainR l) → l.length ≤ 30 → Calls Tryz.prog 16 #[pT T, iv i] y fun e w' => ∃ v, e = .returned v ∧ w'.ownsRow y.heap.size 36 32 v (locN (plainR l) i).length (hsL (locN (plainR l) i)) ∧ Keep y w') := Lib.hid fun y T hy h1 => locator_any T _ i y hy TR (by omega) hi
  have N1 : Hid (∀ y T, TrR y T (plainR l) → l.length ≤ 30 → Calls Tryz.prog 15 #[pT T, iv i] y fun e w' => ∃ ds, e = .returned (.tuple #[.agg ds, .bool (nodeO (plainR l) i).isSome]) ∧ NdA ((nodeO (plainR l) i).getD nd0) ds ∧ Keep y w') := Lib.hid fun y T hy h1 => node_any T _ i y hy TR.ok (by omega) hi
  have HN0 : Hid (nodeO (plainR l) i = none → locN (plainR l) i = []) := Lib.hid loc_none
  have HI32 : Hid (∀ I ∈ locN (plainR l) i, I.length = 32) := Lib.hid fun I hI => by
    unfold locN at hI
    obtain ⟨q, _, rfl⟩ := List.mem_map.1 hI
    exact idN_len TR q
  have HN1 : Hid (l.length ≤ 30 → ∀ y, nodeO (plainR l) i = some y → y.ok ∧ y.hgt ≤ 30 ∧ ∃ LA : Nat → Nat, LA 0 = y.hgt + 1 ∧ LA (locN (plainR l) i).length = 0 ∧ 0 < (locN (plainR l) i).length ∧ (locN (plainR l) i)[0]? = some y.id ∧
      (∀ d, y.hgt / 2 ^ d = 0 → (locN (plainR l) i).length ≤ 12 + d) ∧ ∀ k, k < (locN (plainR l) i).length → LA (k + 1) < LA k ∧ LA (k + 1) ≤ 30 ∧ ∃ (I : List UInt8) (x : Nat) (z : Nd), (locN (plainR l) i)[k]? = some I ∧ x ≤ 30 ∧ z.ok ∧ z.hgt = LA (k + 1) ∧
        (∀ y T cs, TrR y T (plainR l) → HashA I cs → Calls Tryz.prog 17 #[pT T, .agg cs] y fun e w' => e = .returned (.tuple #[iv x, .bool true]) ∧ Keep y w') ∧
        (∀ y T, TrR y T (plainR l) → Calls Tryz.prog 15 #[pT T, iv x] y fun e w' => ∃ ds, e = .returned (.tuple #[.agg ds, .bool true]) ∧ NdA z ds ∧ Keep y w') ∧
        (∀ y T, TrR y T (plainR l) → Calls Tryz.prog 18 #[pT T, iv i, iv (LA (k + 1) : Nat)] y fun e w' => e = .returned (.tuple #[iv x, .bool true]) ∧ Keep y w')) := Lib.hid fun h30 y hy => by
    obtain ⟨m, hm, hml, hmh⟩ := nodeO_some hy
    have hle := TR.le m hml
    have hok : y.ok := by have := nodeO_ok TR.ok i; rw [hy] at this; exact this
    obtain ⟨LA, a1, a2, a3, a4, a5, a6⟩ := loc_law TR hy
    refine ⟨hok, by omega, LA, a1, a2, a3, a4, a5, fun k hk2 => ?_⟩
    obtain ⟨b1, b2, I, x, z, b3, b4, b5, b6, b7⟩ := a6 k hk2
    have hzo : z.ok := by have := nodeO_ok TR.ok (x : Int); rw [b5] at this; exact this
    have hxl : x < (plainR l).length := by rw [nodeO_nat] at b5; exact (List.getElem?_eq_some_iff.1 b5).1
    refine ⟨b1, by omega, I, x, z, b3, by omega, hzo, b6, fun y T cs hy hc => ?_, fun y T hy => ?_, fun y T hy => ?_⟩
    · have := find_any T _ I cs y hy (HI32.out I (List.mem_of_getElem? b3)) hc
      rw [b4] at this; exact this
    · have := node_any T _ (x : Int) y hy TR.ok (by omega) (by omega)
      rw [b5] at this; exact this
    · have := above_any T _ i (LA (k + 1) : Nat) y hy TR (by omega) hi
      rw [b7] at this; exact this
  clear hS hr hk hd hdm hlen TR
  generalize locN (plainR l) i = LN at *
  generalize nodeO (plainR l) i = O at *
  generalize plainR l = ns at *
  generalize l.length = n at *
  have HK : Hid (Keep w w) := Lib.hid (Below.refl _ _)
  obtain ⟨zs, hz1, hz2, hz3, -, -⟩ := znode_letter
  go_enter Tryz.func5, Tryz.ntmps5
  go_wp2_with fail
  refine (AW.out _ HK.out).mono ?_
  clear AW
  rintro e w1 ⟨rfl, k1⟩
  have HK1 := Lib.hid k1
  clear k1 HK
  by_cases hn : 30 < n
  · have d1 : (30 : Int) < n := by omega
    clear PL LO N1 HN0 HN1
    go_wp2
    exact bodyPost_ret (v := .bool true) (by simp [results, Tryz.results5]) rfl ⟨rfl, HK1.out⟩
  have d1 : ¬ (30 : Int) < n := by omega
  have hn2 : n ≤ 30 := by omega
  go_wp2_with fail
  refine (PL.out _ HK1.out hn2).mono ?_
  clear PL
  rintro e w2 ⟨T, rfl, hT, k2⟩
  have HT2 := Lib.hid hT; have HKW := Lib.hid (keep_trans HK1.out k2)
  have HK2 : Hid (Keep w2 w2) := Lib.hid (Below.refl _ _)
  clear hT k2 HK1
  go_wp2_with fail
  refine (N1.out _ T HT2.out hn2).mono ?_
  clear N1
  rintro e w3 ⟨ds, rfl, hds, k3⟩
  have HK3 := Lib.hid (keep_trans HK2.out k3)
  clear k3  HK2
  have hdsz := hds.z; have hdsn := hds.n; have hdsi := hds.i
  have hstds : (storeCells ⟨w3.heap.size, 0, none⟩ ds.toList 0).run Tryz.prog (w3.alloc (.cells zs 44)) = .ok () (w3.alloc (.cells ds 44)) := run_storeCells_new (P := Tryz.prog) w3 44 zs ds hdsi (hz1.trans hdsz.symm) (by have := all_oneCell_toArray hds.o; rwa [Array.toArray_toList] at this)
  have Hds := Lib.hid hds
  clear hds
  go_upto_region 6 with fail
  obtain ⟨w4, hw4⟩ : ∃ w4, w4 = w3.alloc (.cells ds 44) := ⟨_, rfl⟩
  have HGN4 : Hid (Blk w4 w3.heap.size 44 ds.toList) := by rw [hw4]; exact Lib.hid (Blk.new w3 44 ds.toList)
  have HK4 : Hid (Keep w2 w4) := by rw [hw4]; exact Lib.hid (keep_trans HK3.out (keep_new _ _))
  rw [← hw4]
  have hgs4 : w2.heap.size ≤ w3.heap.size := HK3.out.size
  clear hw4  HK3
  generalize w3.heap.size = gn at *
  clear hstds
  go_wp2_with fail
  refine (LO.out _ T (HT2.out.keep HK4.out) hn2).mono ?_
  clear LO
  rintro e w5 ⟨vl, rfl, hown, k5⟩
  obtain ⟨A5, c5, rfl, hc5, hm5, hr5⟩ := own_form hown
  have RL := Lib.hid hr5
  clear hown hr5
  have HGN5 := Lib.hid (HGN4.out.keep k5)
  have HK5 := Lib.hid (keep_trans HK4.out k5)
  clear k5 HGN4 HK4
  have HT5 := Lib.hid (HT2.out.keep HK5.out)
  have HKW5 := Lib.hid (keep_trans HKW.out HK5.out)
  clear HT2 HKW HK5
  cases O with
  | none =>
    have hL := HN0.out rfl
    subst hL
    clear HN0 HN1 Hds HGN5 RL HI32
    go_wp2
    exact bodyPost_ret (v := .bool true) (by simp [results, Tryz.results5]) rfl ⟨rfl, HKW5.out⟩
  | some y =>
  obtain ⟨hok, hh30, LA, a1, a2, a3, a4, a5, a6⟩ := HN1.out hn2 y rfl
  have HOK := Lib.hid hok
  have c101 : w5.cell? ⟨gn, 101, none⟩ = some (iv (y.hgt : Int)) := (HGN5.out.cell 101).trans (by rw [Hds.out.l]; exact nd_hgt HOK.out)
  have H4 := Lib.hid a4; have H6 := Lib.hid a6
  obtain ⟨N, hN⟩ : ∃ N, LN.length = N := ⟨_, rfl⟩
  rw [hN] at a2 a3 a5 H6
  have HNL := Lib.hid hN
  have hN40 : N ≤ 42 := by
    have := a5 30 (Nat.div_eq_of_lt (by have : (2 : Nat) ^ 30 = 1073741824 := by decide
                                        omega))
    omega
  have HLA0 := Lib.hid a1; have HLAN := Lib.hid a2; have HDG := Lib.hid a5
  rw [hN]
  obtain ⟨h0, hh0⟩ : ∃ h, y.hgt = h := ⟨_, rfl⟩
  rw [hh0] at c101 HLA0 HDG hh30
  clear hN HN0 HN1 a4 a6 a1 a2 a5 hok hh0
  have hw1 : IntKind.i64.wrap ((h0 : Int) + 1) = (h0 : Int) + 1 := IntWalk.i64_in _ (by omega)
  go_wp2_with fail
  clear c101 hw1
  go_loopw [11, 12] (fun dv hv wr => ∃ h dd : Nat, dv = .int .i64 dd ∧ hv = .int .i64 h ∧ Hid (h0 / 2 ^ dd = h) ∧ h + dd ≤ h0 ∧ w5 = wr) (fun _ hv _ => (intOf hv).toNat)
  case atStart => exact ⟨h0, 0, rfl, rfl, Lib.hid (by simp), by omega, rfl⟩
  case round =>
    obtain ⟨h, dd, rfl, rfl, HH, hhd, rfl⟩ := hrel
    by_cases hp : 0 < h
    · have e1 : (h : Int).tdiv 2 = ((h / 2 : Nat) : Int) := by rw [Int.tdiv_eq_ediv_of_nonneg (by omega)]; omega
      have hw2 : IntKind.i64.wrap ((h / 2 : Nat) : Int) = ((h / 2 : Nat) : Int) := IntWalk.i64_in _ (by omega)
      have hw3 : IntKind.i64.wrap ((dd : Int) + 1) = (dd : Int) + 1 := IntWalk.i64_in _ (by omega)
      have HH2 : Hid (h0 / 2 ^ (dd + 1) = h / 2) := Lib.hid (by rw [Nat.pow_succ, ← Nat.div_div_eq_div_mul, HH.out])
      clear HH
      go_wp2
      go_roundw
      case rel => exact ⟨h / 2, dd + 1, by go_num, by first | rfl | go_num | (congr 1; omega), HH2, by omega, by first | rfl | trivial⟩
      case measure => simp [intOf]; omega
    · obtain rfl : h = 0 := by omega
      have hlen := HDG.out dd HH.out
      clear HH HDG
      rw [show ((0 : Nat) : Int) = 0 from rfl]
      go_wp2_with fail
      go_loopw [10, 13] (fun la kv wr => ∃ k : Nat, k ≤ N ∧ la = .int .i64 (LA k : Nat) ∧ kv = .int .i64 k ∧ Hid (Keep w5 wr)) (fun _ kv _ => N - (intOf kv).toNat)
      case atStart => exact ⟨0, Nat.zero_le _, by first | rfl | (rw [HLA0.out]; go_num) | (rw [HLA0.out]; rfl), rfl, Lib.hid (Below.refl _ _)⟩
      case round =>
        obtain ⟨k, hkn, rfl, rfl, HKr⟩ := hrel
        by_cases hlt : k < N
        · obtain ⟨b1, b2, I, x, z, b3, b4, hzo, b6, F1, N1, A1⟩ := H6.out k hlt
          have F1 := Lib.hid F1; have N1 := Lib.hid N1; have A1 := Lib.hid A1
          have hI : LN[k]'(by rw [HNL.out]; exact hlt) = I := by
            have := List.getElem?_eq_getElem (l := LN) (i := k) (by rw [HNL.out]; exact hlt)
            rw [this] at b3; exact Option.some.inj b3
          have hI32 := HI32.out I (List.mem_of_getElem? b3)
          obtain ⟨is, his⟩ : ∃ is, HashA I is := ⟨_, HashA.of hI32⟩
          obtain ⟨b, off, hA0, -, hrg⟩ := hash_at RL.out HI32.out (k := k) (by rw [HNL.out]; exact hlt)
          cases hA0
          rw [hI, ← his.l] at hrg
          have RI : Hid (wr.rangeAt b (off + k * 32) is.toList) := Lib.hid fun j v hv => keep_cell HKr.out (hrg j v hv)
          have hiz := his.z; have hin := his.n; have hii := his.i
          have His := Lib.hid his; have HZO := Lib.hid hzo
          obtain ⟨wq, hwq⟩ : ∃ wq, wr = wq := ⟨_, rfl⟩
          rw [hwq] at HKr RI ⊢
          clear hwq
          have HTq := Lib.hid (HT5.out.keep HKr.out)
          have HK10 : Hid (Keep wq wq) := Lib.hid (Below.refl _ _)
          obtain ⟨g, hg⟩ : ∃ g, LA (k + 1) = g := ⟨_, rfl⟩
          obtain ⟨la, hla⟩ : ∃ g, LA k = g := ⟨_, rfl⟩
          rw [hg] at b1 b2 b6 A1
          rw [hla] at b1 ⊢
          have HG := Lib.hid hg
          have d2 : (k : Int) < N := by omega
          clear b3 hI hI32 hrg his hzo hg hla H4 H6 HLA0 HLAN
          go_wp2_with ((with_reducible refine load_partg b (off + k * 32) is (Eq.trans ?_ rfl) RI.out _ Tryz.underlying36 rfl hii rfl ?_); rfl)
          refine (F1.out _ T is HTq.out His.out).mono ?_
          clear F1 His RI
          rintro e w11 ⟨rfl, k11⟩
          have HK11 := Lib.hid (keep_trans HK10.out k11)
          clear HK10 k11
          go_wp2_with fail
          refine (N1.out _ T (HTq.out.keep HK11.out)).mono ?_
          clear N1
          rintro e w12 ⟨es, rfl, hes, k12⟩
          have HK12 := Lib.hid (keep_trans HK11.out k12)
          clear k12  HK11
          have hesz := hes.z; have hesn := hes.n; have hesi := hes.i
          have hstes : (storeCells ⟨w12.heap.size, 0, none⟩ es.toList 0).run Tryz.prog (w12.alloc (.cells zs 44)) = .ok () (w12.alloc (.cells es 44)) := run_storeCells_new (P := Tryz.prog) w12 44 zs es hesi (hz1.trans hesz.symm) (by have := all_oneCell_toArray hes.o; rwa [Array.toArray_toList] at this)
          have Hes := Lib.hid hes
          clear hes
          go_upto_region 20 with fail
          obtain ⟨w13, hw13⟩ : ∃ w13, w13 = w12.alloc (.cells es 44) := ⟨_, rfl⟩
          have HGM13 : Hid (Blk w13 w12.heap.size 44 es.toList) := by rw [hw13]; exact Lib.hid (Blk.new w12 44 es.toList)
          have HK13 : Hid (Keep wq w13) := by rw [hw13]; exact Lib.hid (keep_trans HK12.out (keep_new _ _))
          rw [← hw13]
          have hgs13 : wq.heap.size ≤ w12.heap.size := HK12.out.size
          clear hw13  HK12
          generalize w12.heap.size = gm at *
          clear hstes
          have c101 : w13.cell? ⟨gm, 101, none⟩ = some (iv (g : Int)) := (HGM13.out.cell 101).trans (by rw [Hes.out.l, ← b6]; exact nd_hgt HZO.out)
          clear b6 b4 hiz hin hii
          go_wp2_with fail
          refine (A1.out _ T (HTq.out.keep HK13.out)).mono ?_
          clear A1
          rintro e w14 ⟨rfl, k14⟩
          have c101 := keep_cell k14 c101
          have HK14 := Lib.hid (keep_trans HKr.out (keep_trans HK13.out k14))
          clear k14 HK13 HTq HKr HGM13 Hes HZO
          have d3 : ¬ (la : Int) ≤ (g : Int) := by omega
          have s1 : ((x : Int) != (x : Int)) = false := by simp
          go_wp2
          go_roundw
          case rel => exact ⟨k + 1, by omega, by rw [HG.out], by go_num, HK14⟩
          case measure => simp [intOf]; omega
        · obtain rfl : k = N := by omega
          have d2 : ¬ ((k : Int) < k) := by omega
          have d4 : (0 : Int) < (k : Int) := by omega
          have d5 : (k : Int) ≤ 12 + (dd : Int) := by omega
          have hw4 : IntKind.i64.wrap (12 + (dd : Int)) = 12 + (dd : Int) := IntWalk.i64_in _ (by omega)
          obtain ⟨is, his⟩ : ∃ is, HashA y.id is := ⟨_, HashA.of HOK.out.1⟩
          obtain ⟨b, off, hA0, -, hrg⟩ := hash_at RL.out HI32.out (k := 0) (by rw [HNL.out]; exact a3)
          cases hA0
          have hI : LN[0]'(by rw [HNL.out]; exact a3) = y.id := by
            have q := List.getElem?_eq_getElem (l := LN) (i := 0) (by rw [HNL.out]; exact a3)
            have q2 := H4.out
            rw [q] at q2; exact Option.some.inj q2
          rw [hI, ← his.l, Nat.zero_mul, Nat.add_zero] at hrg
          have hiz := his.z; have hin := his.n; have hii := his.i
          have heq : ∀ w, (Go.binOp .eql 36 (.agg is) (.agg is)).run Tryz.prog w = .ok (.bool (y.id == y.id)) w := fun w => hash_eql his his HOK.out.1 HOK.out.1 w
          rw [show (y.id == y.id) = true from beq_self_eq_true _] at heq
          have RI0 : Hid (w5.rangeAt b off is.toList) := Lib.hid hrg
          have RD0 : Hid (w5.rangeAt gn 0 is.toList) := Lib.hid (nd_idr HOK.out his HGN5.out Hds.out)
          have hgd := hash_guard
          rw [HLAN.out]
          clear H4 H6 HLA0 HLAN hrg hI his HNL HI32 RL HGN5 Hds
          go_upto_region 24 with fail
          refine wp_region_tree (.take [0,1,2,3,4,5,6,7,8,9,10,11,12,13,14,15,16,17,18,19,20,21,22,23,24,25] .done) [] (by kernel_rfl) (by kernel_rfl) (fun w21 k21 => ?_)
          have RI : Hid (w21.rangeAt b off is.toList) := Lib.hid fun j v hv => keep_cell (keep_trans HKr.out k21) (RI0.out j v hv)
          have RD : Hid (w21.rangeAt gn 0 is.toList) := Lib.hid fun j v hv => keep_cell (keep_trans HKr.out k21) (RD0.out j v hv)
          have HK21 := Lib.hid (keep_trans HKW5.out (keep_trans HKr.out k21))
          clear k21 RI0 RD0 HKr HKW5 HT5 HOK
          refine mt_take w21 (Below.refl _ _) ?_
          simp only [pick_cons, pick_nil, nth_zero, nth_succ]
          repeat (first
            | ((with_reducible refine wpQuiet_load_partg b off is (Eq.trans ?_ rfl) RI.out _ Tryz.underlying36 rfl hii (Eq.trans ?_ rfl) ?_); rfl; rfl; simp only [Act.put, Array.set!_eq_setIfInBounds, List.setIfInBounds_toArray, List.set_cons_succ, List.set_cons_zero])
            | ((with_reducible refine wpQuiet_load_partg gn 0 is (Eq.trans ?_ rfl) RD.out _ Tryz.underlying36 rfl hii (Eq.trans ?_ rfl) ?_); rfl; rfl; simp only [Act.put, Array.set!_eq_setIfInBounds, List.setIfInBounds_toArray, List.set_cons_succ, List.set_cons_zero])
            | go_big_quiet_step (fail))
          refine wpQuiet_nil (mt_end ?_)
          go_wp2
          exact bodyPost_ret (v := .bool true) (by simp [results, Tryz.results5]) rfl ⟨rfl, HK21.out⟩
end Go.Proofs.YtjbdboekleaklaaGreatDoor
