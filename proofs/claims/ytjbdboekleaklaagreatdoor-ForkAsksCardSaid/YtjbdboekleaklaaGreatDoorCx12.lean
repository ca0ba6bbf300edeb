/- Texts merged by pack.py: To0, Tx, Arg, OpZ. -/
import Derived.Test.YtjbdboekleaklaaGreatDoorCx11
import Derived.Test.YtjbdboekleaklaaGreatDoorCx2
import Derived.ProofKit
import Derived.Deep.Slices
import Derived.Deep.Fields
import Derived.Test.YtjbdboekleaklaaGreatDoorCx7
import Derived.Test.YtjbdboekleaklaaGreatDoorCards
import Derived.Test.YtjbdboekleaklaaGreatDoorTie
import Derived.WalkKit
import Derived.OpenShut
import Derived.Deep.DeepHandedRow
import Derived.Lib.LaidTab
/- florinref15.Ints, and the plain law of Reorg. (printed by gen_to.py) -/
set_option linter.unusedSimpArgs false
set_option linter.unusedVariables false
namespace Go.Proofs.YtjbdboekleaklaaGreatDoor
open Go.RowKit
attribute [local go_sem ↓] Go.wp_at_zero Go.wp_at_succ

theorem low16f (n : Int) : bits .and .i64 n 65535 = n % 65536 := by
  have h127 : (BitVec.ofInt 64 65535).toNat = 2 ^ 16 - 1 := by decide
  have key : (BitVec.ofInt 64 n &&& BitVec.ofInt 64 65535).toNat = (n % ((2 ^ 64 : Nat) : Int)).toNat % 2 ^ 16 := by
    rw [BitVec.toNat_and, BitVec.toNat_ofInt, h127, Nat.and_two_pow_sub_one_eq_mod]
  show IntKind.i64.wrap ((BitVec.ofInt 64 n &&& BitVec.ofInt 64 65535).toNat : Nat) = n % 65536
  rw [key, IntKind.wrap_i64]
  omega
theorem cpN_comm : ∀ a b : List Nat, cpN a b = cpN b a
  | [], b => by cases b <;> rfl
  | _ :: _, [] => rfl
  | x :: a, y :: b => by
    unfold cpN
    by_cases h : x = y
    · subst h; rw [cpN_comm a b]
    · rw [if_neg h, if_neg (fun e => h e.symm)]
theorem line_zero {ns : List Nd} (TR : Tr ns) {n : Nat} (h : n < ns.length) : ∃ r, lineO ns (n : Int) = 0 :: r := by
  have hL : lineO ns (n : Int) = lineN ns n := by unfold lineO; rw [if_pos ⟨by omega, by simpa using h⟩]; simp
  have h0 : (lineN ns n)[0]? = some 0 := by rw [line_abv (Nat.zero_le _)]; unfold abvN; rw [Nat.sub_zero, TR.upTop h]
  rw [hL]
  cases hl : lineN ns n with
  | nil => rw [hl] at h0; simp at h0
  | cons x r => rw [hl] at h0; simp at h0; exact ⟨r, by rw [h0]⟩
theorem reorg_law {a b r s : List Nat} (ha : a = 0 :: r) (hb : b = 0 :: s) :
    (undN a b).length < a.length ∧ (undN b a).length = (donN a b).length ∧ (donN b a).length = (undN a b).length ∧
    (∀ k, k < (undN a b).length → ∃ z, (undN a b)[k]? = some z ∧ a[a.length - 1 - k]? = some z ∧ (donN b a)[(undN a b).length - 1 - k]? = some z) ∧
    a.take (a.length - (undN a b).length) ++ donN a b = b ∧ (donN a b).length < b.length := by
  have hc : 1 ≤ cpN a b := by rw [ha, hb]; unfold cpN; rw [if_pos rfl]; omega
  obtain ⟨l1, l2⟩ := cpN_le a b
  have he := cpN_eq a b
  unfold undN donN
  rw [cpN_comm b a]
  generalize cpN a b = c at *
  have hlen : (a.drop c).reverse.length = a.length - c := by simp
  refine ⟨by rw [hlen]; omega, by simp, by simp, fun k hk => ?_, ?_, by simp; omega⟩
  · rw [hlen] at hk
    have q1 : (a.drop c).reverse[k]? = a[a.length - 1 - k]? := by
      rw [List.getElem?_reverse (by simp; omega), List.getElem?_drop]
      congr 1; simp; omega
    have q2 : (a.drop c)[(a.drop c).reverse.length - 1 - k]? = a[a.length - 1 - k]? := by
      rw [List.getElem?_drop, hlen]
      congr 1; omega
    have q3 : a[a.length - 1 - k]? = some (a[a.length - 1 - k]'(by omega)) := List.getElem?_eq_getElem (by omega)
    exact ⟨_, q1.trans q3, q3, q2.trans q3⟩
  · rw [hlen, show a.length - (a.length - c) = c by omega, he, List.take_append_drop]
theorem nvL_app (a b : List Nat) : nvL (a ++ b) = nvL a ++ nvL b := by simp [nvL]
theorem nvL_take (a : List Nat) (k : Nat) : (nvL a).take k = nvL (a.take k) := by simp [nvL, List.map_take]
theorem nvL_one (a : List Nat) : ∀ u ∈ nvL a, u.oneCell' = true := by
  intro u hu; obtain ⟨x, _, rfl⟩ := List.mem_map.1 hu; rfl

set_option maxRecDepth 100000 in
set_option maxHeartbeats 4000000 in
theorem ints_any (A : Option Addr) (a : List Nat) (c : Nat) (B : Option Addr) (b : List Nat) (d : Nat) (w : World) (ha : a.length ≤ 1000000) (hb : b.length ≤ 1000000) (hra : Rd w A (nvL a)) (hrb : Rd w B (nvL b)) :
    Calls Tryz.prog 13 #[.slice A a.length c, .slice B b.length d] w fun e w' => e = .returned (.bool (decide (a = b))) ∧ Keep w w' := by
  obtain ⟨R, hR⟩ : ∃ R, decide (a = b) = R := ⟨_, rfl⟩
  rw [hR]
  have HR := Lib.hid hR
  have RA := Lib.hid hra; have RB := Lib.hid hrb
  clear hR hra hrb
  have HK : Hid (Keep w w) := Lib.hid (Below.refl _ _)
  go_enter Tryz.func13, Tryz.ntmps13
  by_cases hl : a.length = b.length
  case neg =>
    have hv : R = false := by rw [← HR.out]; simp; intro e; rw [e] at hl; exact hl rfl
    subst hv
    have d1 : ((a.length : Int) != (b.length : Int)) = true := by simp; omega
    clear HR
    go_wp2
    exact bodyPost_ret (v := .bool false) (by simp [results, Tryz.results13]) rfl ⟨rfl, HK.out⟩
  obtain ⟨n, hn⟩ : ∃ n, b.length = n := ⟨_, rfl⟩
  rw [hn] at hl
  have HLA := Lib.hid hl; have HLB := Lib.hid hn
  rw [hl, hn]
  rw [hl] at ha
  clear hl hn hb
  go_wp2_with fail
  go_loopw [5] (fun s wr => ∃ k : Nat, k ≤ n ∧ s = .int .i64 k ∧ Hid (∀ m, m < k → a[m]? = b[m]?) ∧ Hid (Keep w wr)) (fun s _ => n - (intOf s).toNat)
  case atStart => exact ⟨0, Nat.zero_le _, rfl, Lib.hid fun m hm => absurd hm (Nat.not_lt_zero _), HK⟩
  case round =>
    obtain ⟨k, hk, rfl, HEQ, HKr⟩ := hrel
    by_cases hlt : k < n
    · obtain ⟨x, hx⟩ : ∃ x, a[k]? = some x := ⟨_, List.getElem?_eq_getElem (by rw [HLA.out]; exact hlt)⟩
      obtain ⟨y, hy⟩ : ∃ y, b[k]? = some y := ⟨_, List.getElem?_eq_getElem (by rw [HLB.out]; exact hlt)⟩
      obtain ⟨ba, oa, hA0, hcx⟩ := nv_at RA.out hx
      obtain ⟨bb, ob, hB0, hcy⟩ := nv_at RB.out hy
      cases hA0; cases hB0
      have HX := Lib.hid hx; have HY := Lib.hid hy
      have HCX := Lib.hid hcx; have HCY := Lib.hid hcy
      have d2 : (k : Int) < n := by omega
      clear hx hy hcx hcy
      go_upto_region 6 with fail
      refine wp_region_tree (.take [0,1,2,3,4,5,6,7,8] .done) [] (by kernel_rfl) (by kernel_rfl) (fun w3 k3 => ?_)
      have HK3 := Lib.hid (keep_trans HKr.out k3)
      have c0 := aft_cell (keep_cell HK3.out HCX.out); have c1 := aft_cell (keep_cell HK3.out HCY.out)
      clear k3 HKr HCX HCY
      refine mt_take w3 (Below.refl _ _) ?_
      simp only [pick_cons, pick_nil, nth_zero, nth_succ]
      repeat (go_big_quiet_step (fail))
      refine wpQuiet_nil (mt_end ?_)
      clear c0 c1
      by_cases hxy : x = y
      · have s1 : ((x : Int) != (y : Int)) = false := by simp [hxy]
        have HN : Hid (∀ m, m < k + 1 → a[m]? = b[m]?) := Lib.hid fun m hm => by
          by_cases q : m = k
          · rw [q, HX.out, HY.out, hxy]
          · exact HEQ.out m (by omega)
        clear hxy HEQ HX HY HR
        go_wp2
        go_roundw
        case rel => exact ⟨k + 1, by omega, by go_num, HN, HK3⟩
        case measure => simp [intOf]; omega
      · have s1 : ((x : Int) != (y : Int)) = true := by simp; omega
        have hv : R = false := by
          rw [← HR.out, decide_eq_false_iff_not]
          intro e
          have h1 := HX.out; have h2 := HY.out
          rw [e, h2] at h1
          exact hxy (Option.some.inj h1).symm
        subst hv
        clear hxy HEQ HX HY HR
        go_wp2
        exact bodyPost_ret (v := .bool false) (by simp [results, Tryz.results13]) rfl ⟨rfl, HK3.out⟩
    · obtain rfl : k = n := by omega
      have d2 : ¬ ((k : Int) < k) := by omega
      have hv : R = true := by
        rw [← HR.out, decide_eq_true_eq]
        apply List.ext_getElem?
        intro m
        by_cases hm : m < k
        · exact HEQ.out m hm
        · rw [List.getElem?_eq_none (by rw [HLA.out]; omega), List.getElem?_eq_none (by rw [HLB.out]; omega)]
      subst hv
      clear HEQ HR
      go_wp2
      exact bodyPost_ret (v := .bool true) (by simp [results, Tryz.results13]) rfl ⟨rfl, HKr.out⟩

end Go.Proofs.YtjbdboekleaklaaGreatDoor

/- ForkAsks: the walk. (printed by gen_tx.py) -/
set_option linter.unusedSimpArgs false
set_option linter.unusedVariables false
namespace Go.Proofs.YtjbdboekleaklaaGreatDoor
open Go.RowKit
attribute [local go_sem ↓] Go.wp_at_zero Go.wp_at_succ

theorem fm_drop : ∀ (l : List Hd) (_ : ∀ a ∈ l, a.cells.length = 68) (k : Nat), (l.flatMap Hd.cells).drop (k * 68) = (l.drop k).flatMap Hd.cells
  | [], _, k => by simp
  | a :: l, h, 0 => by simp
  | a :: l, h, k + 1 => by
    have ha := h a List.mem_cons_self
    rw [List.flatMap_cons, List.drop_succ_cons, ← fm_drop l (fun b hb => h b (List.mem_cons_of_mem _ hb)) k, List.drop_append, ha, List.drop_eq_nil_of_le (by rw [ha]; omega), List.nil_append]
    congr 1; omega
set_option maxRecDepth 100000 in
set_option maxHeartbeats 8000000 in
theorem asks_walk (B : Option Addr) (l : List Hd) (d : Nat) (i j : Int) (w : World) (hS : ShaOk w) (hd : l.length ≤ d) (hdm : d ≤ maxLen) (hr : Rd w B (l.flatMap Hd.cells)) (hk : ∀ h ∈ l, h.ok)
    (hi : -9223372036854775808 ≤ i ∧ i ≤ 9223372036854775807) (hj : -9223372036854775808 ≤ j ∧ j ≤ 9223372036854775807) :
    Calls Tryz.prog 7 #[.slice B l.length d, iv i, iv j] w fun e w' => e = .returned (.bool true) ∧ Keep w w' := by
  have AW : Hid (∀ y, Keep w y → Calls Tryz.prog 8 #[] y fun e w' => e = .returned (.bool true) ∧ Keep y w') := Lib.hid fun y hy => awake_any y (hS.keep hy)
  have PL : Hid (∀ y, Keep w y → l.length ≤ 30 → Calls Tryz.prog 9 #[.slice B l.length d] y fun e w' => ∃ T, e = .returned (pT T) ∧ TrR w' T (plainR l) ∧ Keep y w') := Lib.hid fun y hy h1 =>
    (plainly_any B l d y (hS.keep hy) (by omega) (hr.keep hy) hk).mono fun e w' ⟨T, M, v, h2, h3, h4⟩ => ⟨T, h2, h3.r, h4⟩
  obtain ⟨TR, hlen⟩ := plain_tr l hk
  have HNZ : Hid (l.length ≠ 0 → 0 < (plainR l).length) := Lib.hid fun h => List.length_pos_iff.2 (plain_some fun e => h (by rw [e]; rfl))
  have HN30 := Lib.hid hlen
  clear hS hr hk hd hdm hlen
  generalize plainR l = ns at *
  generalize l.length = n at *
  have ei := low16f i; have ej := low16f j
  obtain ⟨xi, hxi⟩ : ∃ x : Nat, i % 65536 = x := ⟨(i % 65536).toNat, by omega⟩
  obtain ⟨xj, hxj⟩ : ∃ x : Nat, j % 65536 = x := ⟨(j % 65536).toNat, by omega⟩
  rw [hxi] at ei; rw [hxj] at ej
  clear hxi hxj hi hj
  obtain ⟨N, hN⟩ : ∃ N, ns.length = N := ⟨_, rfl⟩
  have LN : Hid (∀ y T, TrR y T ns → Calls Tryz.prog 10 #[pT T] y fun e w' => e = .returned (iv N) ∧ Keep y w') := Lib.hid fun y T hy => by rw [← hN]; exact tlen_any T ns y hy
  have MAIN : Hid (0 < N → N ≤ 30 → ∃ (qa qb C : Nat) (H Gh : List Hd) (loc : List (List UInt8)) (fr : Nat) (za zb zc z0 : Nd), qa = xi % N ∧ qb = xj % N ∧
      Gh.length + fr = H.length ∧ 1 ≤ fr ∧ fr ≤ zc.hgt + 1 ∧ H.drop fr = Gh ∧ H.length ≤ 30 ∧ 0 < loc.length ∧ loc.length ≤ zc.hgt + N ∧ loc[0]? = some za.id ∧ loc[loc.length - 1]? = some z0.id ∧ (zc.hgt + 10 ≤ za.hgt ∨ fr = zc.hgt + 1) ∧ zc.hgt ≤ 30 ∧ za.hgt ≤ 30 ∧
      za.ok ∧ zb.ok ∧ zc.ok ∧ z0.ok ∧ (∀ h ∈ H, h.ok) ∧ (∀ h ∈ loc, h.length = 32) ∧
      (∀ y T, TrR y T ns → Calls Tryz.prog 16 #[pT T, iv qa] y fun e w' => ∃ v, e = .returned v ∧ w'.ownsRow y.heap.size 36 32 v loc.length (hsL loc) ∧ Keep y w') ∧
      (∀ y T A c is, TrR y T ns → Rd y A (hsL loc) → HashA zb.id is → Calls Tryz.prog 19 #[pT T, iv qb, .slice A loc.length c, .agg is, iv 2000] y fun e w' => ∃ v, e = .returned v ∧ w'.ownsRow y.heap.size 39 68 v Gh.length (Gh.flatMap Hd.cells) ∧ Keep y w') ∧
      (∀ y T, TrR y T ns → Calls Tryz.prog 22 #[pT T, iv qb] y fun e w' => ∃ v, e = .returned v ∧ w'.ownsRow y.heap.size 39 68 v H.length (H.flatMap Hd.cells) ∧ Keep y w') ∧
      (∀ y T, TrR y T ns → Calls Tryz.prog 23 #[pT T, iv qa, iv qb] y fun e w' => e = .returned (.tuple #[iv C, .bool true]) ∧ Keep y w') ∧
      (∀ y T, TrR y T ns → Calls Tryz.prog 15 #[pT T, iv qa] y fun e w' => ∃ ds, e = .returned (.tuple #[.agg ds, .bool true]) ∧ NdA za ds ∧ Keep y w') ∧ (∀ y T, TrR y T ns → Calls Tryz.prog 15 #[pT T, iv qb] y fun e w' => ∃ ds, e = .returned (.tuple #[.agg ds, .bool true]) ∧ NdA zb ds ∧ Keep y w') ∧ (∀ y T, TrR y T ns → Calls Tryz.prog 15 #[pT T, iv C] y fun e w' => ∃ ds, e = .returned (.tuple #[.agg ds, .bool true]) ∧ NdA zc ds ∧ Keep y w') ∧ (∀ y T, TrR y T ns → Calls Tryz.prog 15 #[pT T, iv 0] y fun e w' => ∃ ds, e = .returned (.tuple #[.agg ds, .bool true]) ∧ NdA z0 ds ∧ Keep y w')) := Lib.hid fun h0 h30 => by
    have hqa : xi % N < ns.length := by rw [hN]; exact Nat.mod_lt _ h0
    have hqb : xj % N < ns.length := by rw [hN]; exact Nat.mod_lt _ h0
    generalize xi % N = qa at *
    generalize xj % N = qb at *
    obtain ⟨L, G, loc, fr, hc, h1, h2, h3, h4, h5, h6, h7, h8, h9, h10, h11, h12, h13, h14, h15, h16⟩ := asks_law TR hqa hqb (by omega)
    obtain ⟨c1, c2, -, -⟩ := com_law TR hqa hqb
    obtain ⟨-, d2, d3⟩ := TR.abv hqa c1
    rw [h4] at d2 d3 c1
    have hla := TR.le qa hqa
    have n0 : 0 < ns.length := by omega
    have nd : ∀ k (hk : k < ns.length), ns[k].ok ∧ ns[k].hgt = hgtN ns k ∧ idN ns k = ns[k].id ∧ ∀ y T, TrR y T ns → Calls Tryz.prog 15 #[pT T, iv (k : Nat)] y fun e w' => ∃ ds, e = .returned (.tuple #[.agg ds, .bool true]) ∧ NdA ns[k] ds ∧ Keep y w' := fun k hk => by
      have hz := List.getElem?_eq_getElem hk
      refine ⟨TR.ok _ (List.getElem_mem hk), (hgtN_of hz).symm, by unfold idN; rw [hz]; rfl, fun y T hy => ?_⟩
      have := node_any T ns (k : Int) y hy TR.ok (by omega) (by omega)
      rw [nodeO_nat, hz] at this
      exact this
    obtain ⟨a1, a2, a3, a4⟩ := nd qa hqa
    obtain ⟨b1, b2, b3, b4⟩ := nd qb hqb
    obtain ⟨e1, e2, e3, e4⟩ := nd _ d2
    obtain ⟨f1, f2, f3, f4⟩ := nd 0 n0
    have hgl : (G.map (headN ns)).length = G.length := List.length_map ..
    have hll : (L.map (headN ns)).length = L.length := List.length_map ..
    refine ⟨qa, qb, abvN ns qa hc, L.map (headN ns), G.map (headN ns), loc, fr, ns[qa], ns[qb], ns[abvN ns qa hc], ns[0], rfl, rfl, by omega, h8, by omega, by rw [← List.map_drop, h10], by omega, h11, by omega, by rw [h13, a3], by rw [h14, f3], ?_, by omega, by omega, a1, b1, e1, f1, ?_, ?_, fun y T hy => ?_, fun y T A c is hy hr hs => ?_, fun y T hy => ?_, fun y T hy => ?_, a4, b4, e4, f4⟩
    · rcases h15 with q | q
      · exact .inl (by omega)
      · exact .inr (by omega)
    · intro h hh
      obtain ⟨q, _, rfl⟩ := List.mem_map.1 hh
      exact headN_ok TR q
    · intro I hI
      rw [← h2] at hI
      unfold locN at hI
      obtain ⟨q, _, rfl⟩ := List.mem_map.1 hI
      exact idN_len TR q
    · have := locator_any T ns qa y hy TR (by omega) (by omega)
      rw [h2] at this; exact this
    · have := after_any T ns qb 2000 A loc c ns[qb].id is y hy TR (by omega) (by omega) (by omega) (by omega) hr (fun I hI => by
        rw [← h2] at hI
        unfold locN at hI
        obtain ⟨q, _, rfl⟩ := List.mem_map.1 hI
        exact idN_len TR q) b1.1 hs
      rw [h1, ← b3, h3] at this
      exact this
    · have := Heads_any T ns qb y hy TR (by omega) (by omega)
      rw [h1] at this; exact this
    · have := common_any T ns qa qb y hy TR (by omega) hqa hqb
      rw [h4] at this; exact this
  rw [hN] at HNZ HN30
  clear hN TR
  have HK : Hid (Keep w w) := Lib.hid (Below.refl _ _)
  obtain ⟨zs, hz1, hz2, hz3, -, -⟩ := znode_letter
  go_enter Tryz.func7, Tryz.ntmps7
  go_wp2_with fail
  refine (AW.out _ HK.out).mono ?_
  clear AW
  rintro e w1 ⟨rfl, k1⟩
  have HK1 := Lib.hid k1
  clear k1 HK
  by_cases hn : 30 < n
  · have d1 : (30 : Int) < n := by omega
    clear PL LN MAIN HNZ HN30
    go_wp2
    exact bodyPost_ret (v := .bool true) (by simp [results, Tryz.results7]) rfl ⟨rfl, HK1.out⟩
  have d1 : ¬ (30 : Int) < n := by omega
  by_cases h0 : n = 0
  · subst h0
    clear PL LN MAIN HNZ HN30
    go_wp2
    exact bodyPost_ret (v := .bool true) (by simp [results, Tryz.results7]) rfl ⟨rfl, HK1.out⟩
  have hn2 : n ≤ 30 := by omega
  have hNp := HNZ.out h0
  have hN30 := HN30.out
  obtain ⟨qa, qb, C, H, Gh, loc, fr, za, zb, zc, z0, hqa, hqb, f1, f2, f3, f4, f5, f6, f7, f8, f9, f10, f11, f12, oa, ob, oc, o0, oh, ol, LO, AF, HE, CO, NA, NB, NC, N0⟩ := MAIN.out hNp (by omega)
  have LO := Lib.hid LO; have AF := Lib.hid AF; have HE := Lib.hid HE; have CO := Lib.hid CO; have NA := Lib.hid NA; have NB := Lib.hid NB; have NC := Lib.hid NC; have N0 := Lib.hid N0
  have F4 := Lib.hid f4; have F8 := Lib.hid f8; have F9 := Lib.hid f9; have F10 := Lib.hid f10
  have OA := Lib.hid oa; have OB := Lib.hid ob; have OC := Lib.hid oc; have O0 := Lib.hid o0; have OH := Lib.hid oh; have OL := Lib.hid ol
  obtain ⟨hn_, hhn⟩ : ∃ k, H.length = k := ⟨_, rfl⟩
  obtain ⟨gn_, hgn⟩ : ∃ k, Gh.length = k := ⟨_, rfl⟩
  obtain ⟨ln_, hln⟩ : ∃ k, loc.length = k := ⟨_, rfl⟩
  obtain ⟨hc, hhc⟩ : ∃ k, zc.hgt = k := ⟨_, rfl⟩
  obtain ⟨ha, hha⟩ : ∃ k, za.hgt = k := ⟨_, rfl⟩
  rw [hhn] at f1 f5 HE; rw [hgn] at f1 AF; rw [hln] at f6 f7 F9 LO AF
  rw [hhc] at f3 f7 F10 f11
  rw [hha] at F10 f12
  have HHN := Lib.hid hhn; have HGN := Lib.hid hgn; have HLN := Lib.hid hln; have HHC := Lib.hid hhc; have HHA := Lib.hid hha
  have g0 : (n == 0) = false := by simp [h0]
  have g00 : ((n : Int) == 0) = false := by rw [beq_eq_false_iff_ne]; omega
  have gN : (N == 0) = false := by rw [beq_eq_false_iff_ne]; omega
  have gNN : ((N : Int) == 0) = false := by rw [beq_eq_false_iff_ne]; omega
  have gN0 : ¬ N = 0 := by omega
  have ta : (xi : Int).tmod (N : Int) = (qa : Int) := by rw [hqa, Int.tmod_eq_emod_of_nonneg (by omega)]; simp
  have tb : (xj : Int).tmod (N : Int) = (qb : Int) := by rw [hqb, Int.tmod_eq_emod_of_nonneg (by omega)]; simp
  have ta2 : (xi : Int) % (N : Int) = (qa : Int) := by rw [hqa]; simp
  have tb2 : (xj : Int) % (N : Int) = (qb : Int) := by rw [hqb]; simp
  have wa : IntKind.i64.wrap (qa : Int) = qa := IntWalk.i64_in _ (by have := Nat.mod_lt xi hNp; omega)
  have wb : IntKind.i64.wrap (qb : Int) = qb := IntWalk.i64_in _ (by have := Nat.mod_lt xj hNp; omega)
  clear f4 f8 f9 f10 oa ob oc o0 oh ol hqa hqb MAIN HNZ HN30 hhn hgn hln hhc hha
  go_wp2_with fail
  refine (PL.out _ HK1.out hn2).mono ?_
  clear PL
  rintro e w2 ⟨T, rfl, hT, k2⟩
  have HT2 := Lib.hid hT; have HKW := Lib.hid (keep_trans HK1.out k2)
  have HK2 : Hid (Keep w2 w2) := Lib.hid (Below.refl _ _)
  clear hT k2 HK1
  go_wp2_with fail
  refine (LN.out _ T HT2.out).mono ?_
  rintro e w3 ⟨rfl, k3⟩
  have HK3 := Lib.hid (keep_trans HK2.out k3)
  clear k3 HK2
  go_wp2_with fail
  refine (LN.out _ T (HT2.out.keep HK3.out)).mono ?_
  rintro e w4 ⟨rfl, k4⟩
  have HK4 := Lib.hid (keep_trans HK3.out k4)
  clear k4 HK3
  go_wp2_with fail
  refine (LN.out _ T (HT2.out.keep HK4.out)).mono ?_
  rintro e w5 ⟨rfl, k5⟩
  have HK5 := Lib.hid (keep_trans HK4.out k5)
  clear k5 HK4
  go_wp2_with fail
  clear ei ej ta tb ta2 tb2 gNN gN gN0
  refine (LO.out _ T (HT2.out.keep HK5.out)).mono ?_
  clear LO
  rintro e w6 ⟨vl, rfl, hown, k6⟩
  obtain ⟨A6, c6, rfl, -, -, hr6⟩ := own_form hown
  have RLO6 := Lib.hid hr6
  clear hown hr6
  have HK6 := Lib.hid (keep_trans HK5.out k6)
  clear k6 HK5
  go_wp2_with fail
  refine (NB.out _ T (HT2.out.keep HK6.out)).mono ?_
  clear NB
  rintro e w7 ⟨db, rfl, hdb, k7⟩
  have RLO7 := Lib.hid (RLO6.out.keep k7)
  have HK7 := Lib.hid (keep_trans HK6.out k7)
  clear k7 RLO6 HK6
  have hdbz := hdb.z; have hdbn := hdb.n; have hdbi := hdb.i
  have hstdb : (storeCells ⟨w7.heap.size, 0, none⟩ db.toList 0).run Tryz.prog (w7.alloc (.cells zs 44)) = .ok () (w7.alloc (.cells db 44)) := run_storeCells_new (P := Tryz.prog) w7 44 zs db hdbi (hz1.trans hdbz.symm) (by have := all_oneCell_toArray hdb.o; rwa [Array.toArray_toList] at this)
  have Hdb := Lib.hid hdb
  clear hdb
  go_upto_region 11 with fail
  obtain ⟨w8, hw8⟩ : ∃ w8, w8 = w7.alloc (.cells db 44) := ⟨_, rfl⟩
  have RLO8 : Hid (Rd w8 A6 (hsL loc)) := by rw [hw8]; exact Lib.hid (RLO7.out.alloc _)
  have HGB8 : Hid (Blk w8 w7.heap.size 44 db.toList) := by rw [hw8]; exact Lib.hid (Blk.new w7 44 db.toList)
  have HK8 : Hid (Keep w2 w8) := by rw [hw8]; exact Lib.hid (keep_trans HK7.out (keep_new _ _))
  rw [← hw8]
  have hgs8 : w2.heap.size ≤ w7.heap.size := HK7.out.size
  clear hw8 RLO7 HK7
  generalize w7.heap.size = gb at *
  clear hstdb
  obtain ⟨ib, hib⟩ : ∃ ib, HashA zb.id ib := ⟨_, HashA.of OB.out.1⟩
  have hibz := hib.z; have hibn := hib.n; have hibi := hib.i
  have RB : Hid (w8.rangeAt gb 0 ib.toList) := Lib.hid (nd_idr OB.out hib HGB8.out Hdb.out)
  have Hib := Lib.hid hib
  have hwgb := HGB8.out.lt
  clear hib HGB8 Hdb OB
  go_wp2_with ((with_reducible refine load_partg gb 0 ib (Eq.trans ?_ rfl) RB.out _ Tryz.underlying36 rfl hibi rfl ?_); rfl)
  refine (AF.out _ T A6 c6 ib (HT2.out.keep HK8.out) RLO8.out Hib.out).mono ?_
  clear AF RB Hib hibz hibn hibi
  rintro e w9 ⟨vg, rfl, hown, k9⟩
  obtain ⟨A9, c9, rfl, -, -, hr9⟩ := own_form hown
  have RG9 := Lib.hid hr9; have RLO9 := Lib.hid (RLO8.out.keep k9)
  have HK9 := Lib.hid (keep_trans HK8.out k9)
  clear hown hr9 k9 HK8 RLO8
  go_wp2_with fail
  refine (HE.out _ T (HT2.out.keep HK9.out)).mono ?_
  clear HE
  rintro e w10 ⟨vh, rfl, hown, k10⟩
  obtain ⟨A10, c10, rfl, hc10, hm10, hr10⟩ := own_form hown
  have RH10 := Lib.hid hr10; have RG10 := Lib.hid (RG9.out.keep k10); have RLO10 := Lib.hid (RLO9.out.keep k10)
  have HK10 := Lib.hid (keep_trans HK9.out k10)
  clear hown hr10 k10 HK9 RLO9 RG9
  go_wp2_with fail
  refine (CO.out _ T (HT2.out.keep HK10.out)).mono ?_
  clear CO
  rintro e w11 ⟨rfl, k11⟩
  have RH11 := Lib.hid (RH10.out.keep k11); have RG11 := Lib.hid (RG10.out.keep k11); have RLO11 := Lib.hid (RLO10.out.keep k11)
  have HK11 := Lib.hid (keep_trans HK10.out k11)
  clear k11 HK10 RLO10 RG10 RH10
  go_wp2_with fail
  refine (NC.out _ T (HT2.out.keep HK11.out)).mono ?_
  clear NC
  rintro e w12 ⟨dc, rfl, hdc, k12⟩
  have RH12 := Lib.hid (RH11.out.keep k12)
  have RG12 := Lib.hid (RG11.out.keep k12)
  have RLO12 := Lib.hid (RLO11.out.keep k12)
  have HK12 := Lib.hid (keep_trans HK11.out k12)
  clear k12 RH11 RG11 RLO11 HK11
  have hdcz := hdc.z; have hdcn := hdc.n; have hdci := hdc.i
  have hstdc : (storeCells ⟨w12.heap.size, 0, none⟩ dc.toList 0).run Tryz.prog (w12.alloc (.cells zs 44)) = .ok () (w12.alloc (.cells dc 44)) := run_storeCells_new (P := Tryz.prog) w12 44 zs dc hdci (hz1.trans hdcz.symm) (by have := all_oneCell_toArray hdc.o; rwa [Array.toArray_toList] at this)
  have Hdc := Lib.hid hdc
  clear hdc
  go_upto_region 15 with fail
  obtain ⟨w13, hw13⟩ : ∃ w13, w13 = w12.alloc (.cells dc 44) := ⟨_, rfl⟩
  have RH13 : Hid (Rd w13 A10 (H.flatMap Hd.cells)) := by rw [hw13]; exact Lib.hid (RH12.out.alloc _)
  have RG13 : Hid (Rd w13 A9 (Gh.flatMap Hd.cells)) := by rw [hw13]; exact Lib.hid (RG12.out.alloc _)
  have RLO13 : Hid (Rd w13 A6 (hsL loc)) := by rw [hw13]; exact Lib.hid (RLO12.out.alloc _)
  have HGX13 : Hid (Blk w13 w12.heap.size 44 dc.toList) := by rw [hw13]; exact Lib.hid (Blk.new w12 44 dc.toList)
  have HK13 : Hid (Keep w2 w13) := by rw [hw13]; exact Lib.hid (keep_trans HK12.out (keep_new _ _))
  rw [← hw13]
  have hgs13 : w2.heap.size ≤ w12.heap.size := HK12.out.size
  clear hw13 RH12 RG12 RLO12 HK12
  generalize w12.heap.size = gx at *
  clear hstdc
  have c101 : w13.cell? ⟨gx, 101, none⟩ = some (iv (hc : Int)) := (HGX13.out.cell 101).trans (by rw [Hdc.out.l, ← HHC.out]; exact nd_hgt OC.out)
  clear OC
  obtain ⟨bh, oh_, hAh, -, -⟩ := RH13.out.at (k := 0) (by rw [flatMap_len' Hd.cells 68 H (fun a ha => Hd.len (OH.out a ha)), HHN.out]; omega)
  cases hAh
  have OG : Hid (∀ h ∈ Gh, h.ok) := Lib.hid fun h hh => OH.out h (List.mem_of_mem_drop (by rw [F4.out]; exact hh))
  have SM : Hid (∀ y A m c A' c', Keep w13 y → gn_ = m → A9 = A' → (A = some ⟨bh, oh_ + fr * 68, none⟩ ∨ (A = some ⟨bh, oh_, none⟩ ∧ fr = c10)) → Calls Tryz.prog 24 #[.slice A m c, .slice A' gn_ c'] y fun e w' => e = .returned (.bool true) ∧ Keep y w') := Lib.hid fun y A m c A' c' hy hm' hA' hA => by
    subst hA'; subst hm'
    have hrd : Rd y A (Gh.flatMap Hd.cells) := by
      rcases hA with rfl | ⟨rfl, hb⟩
      · have q := (RH13.out.keep hy).sub (fr * 68) (gn_ * 68) (by rw [flatMap_len' Hd.cells 68 H (fun a ha => Hd.len (OH.out a ha)), HHN.out]; omega)
        rw [fm_drop H (fun a ha => Hd.len (OH.out a ha)), F4.out, List.take_of_length_le (by rw [flatMap_len' Hd.cells 68 Gh (fun a ha => Hd.len (OG.out a ha)), HGN.out]; omega)] at q
        exact q
      · have : Gh = [] := List.eq_nil_of_length_eq_zero (by rw [HGN.out]; omega)
        rw [this]; exact Rd.nil _ _
    have := hsame_any A Gh c A9 Gh c' y hrd (RG13.out.keep hy) OG.out OG.out (by rw [HGN.out]; omega) (by rw [HGN.out]; omega)
    rw [HGN.out, show (decide (Gh = Gh)) = true from decide_eq_true rfl] at this
    exact this
  have hwf : IntKind.i64.wrap ((hn_ : Int) - (gn_ : Int)) = (fr : Int) := by rw [show (hn_ : Int) - (gn_ : Int) = (fr : Int) by omega]; exact IntWalk.i64_in _ (by omega)
  have hw1 : IntKind.i64.wrap ((hc : Int) + 1) = (hc : Int) + 1 := IntWalk.i64_in _ (by omega)
  have hw2 : IntKind.i64.wrap ((hc : Int) + (N : Int)) = (hc : Int) + (N : Int) := IntWalk.i64_in _ (by omega)
  have d2 : ¬ (fr : Int) < 1 := by omega
  have d3 : ¬ (hc : Int) + 1 < (fr : Int) := by omega
  have d4 : ((ln_ : Int) == 0) = false := by rw [beq_eq_false_iff_ne]; omega
  have d5 : ¬ (hc : Int) + (N : Int) < (ln_ : Int) := by omega
  have C101 := Lib.hid c101; have HC101 : Hid (dc.toList[101]? = some (iv (hc : Int))) := Lib.hid ((HGX13.out.cell 101).symm.trans c101)
  have hN31 : N ≤ 30 := by omega
  clear c101 F4 OH OG HGN RG13 RH13 Hdc
  go_upto_region 16 with fail
  clear hwf
  refine wp_region_tree (.take [0,1,2,3,4,5,6,7,8,9,10,11,12,13] (.force [14] (.take [15,16,17,18,19,20,21,22,23,24,25,26,27] (.force [28] (.take [29,30,31] .done))))) [] (by kernel_rfl) (by kernel_rfl) (fun w14 k14 => ?_)
  have c14 := aft_cell (keep_cell k14 C101.out)
  have HK14 := Lib.hid k14
  clear k14
  by_cases hfc : fr = c10
  ·
    subst hfc
    refine mt_take w14 (Below.refl _ _) ?_
    simp only [pick_cons, pick_nil, nth_zero, nth_succ]
    repeat (go_big_quiet_step (fail))
    refine wpQuiet_nil (mt_force ?_)
    simp only [pick_cons, pick_nil, nth_zero, nth_succ]
    refine fc_step rfl (fun K hK => ?_)
    go_simp
    (with_reducible refine (SM.out _ _ _ _ _ _ HK14.out (by omega) rfl (.inr ⟨rfl, rfl⟩)).mono ?_)
    rintro e w15 ⟨rfl, k15⟩
    refine hK _ _ k15 ?_
    have c15 := aft_cell (keep_cell (keep_trans HK14.out k15) C101.out)
    have HK15 := Lib.hid (keep_trans HK14.out k15)
    clear hK K k15 HK14 SM c14
    refine fc_nil (mt_take w15 (Below.refl _ _) ?_)
    simp only [pick_cons, pick_nil, nth_zero, nth_succ]
    repeat (go_big_quiet_step (fail))
    refine wpQuiet_nil (mt_force ?_)
    simp only [pick_cons, pick_nil, nth_zero, nth_succ]
    refine fc_step rfl (fun K hK => ?_)
    go_simp
    (with_reducible refine (LN.out _ T (HT2.out.keep (keep_trans HK13.out HK15.out))).mono ?_)
    rintro e w16 ⟨rfl, k16⟩
    refine hK _ _ k16 ?_
    have HK16 := Lib.hid (keep_trans HK13.out (keep_trans HK15.out k16))
    have RLO16 := Lib.hid (RLO13.out.keep (keep_trans HK15.out k16))
    have HGX16 := Lib.hid (HGX13.out.keep (keep_trans HK15.out k16))
    clear hK K k16 LN c15 HK15 HK13 RLO13 HGX13
    refine fc_nil (mt_take w16 (Below.refl _ _) ?_)
    simp only [pick_cons, pick_nil, nth_zero, nth_succ]
    repeat (go_big_quiet_step (fail))
    refine wpQuiet_nil (mt_end ?_)
    clear d2 d3 d4 d5 hw2
    go_wp2_with fail
    refine (NA.out _ T (HT2.out.keep HK16.out)).mono ?_
    clear NA
    rintro e w17 ⟨da, rfl, hda, k17⟩
    have RLO17 := Lib.hid (RLO16.out.keep k17)
    have HGX17 := Lib.hid (HGX16.out.keep k17)
    have HK17 := Lib.hid (keep_trans HK16.out k17)
    clear k17 RLO16 HGX16 HK16
    have hdaz := hda.z; have hdan := hda.n; have hdai := hda.i
    have hstda : (storeCells ⟨w17.heap.size, 0, none⟩ da.toList 0).run Tryz.prog (w17.alloc (.cells zs 44)) = .ok () (w17.alloc (.cells da 44)) := run_storeCells_new (P := Tryz.prog) w17 44 zs da hdai (hz1.trans hdaz.symm) (by have := all_oneCell_toArray hda.o; rwa [Array.toArray_toList] at this)
    have Hda := Lib.hid hda
    clear hda
    go_upto_region 19 with fail
    obtain ⟨w18, hw18⟩ : ∃ w18, w18 = w17.alloc (.cells da 44) := ⟨_, rfl⟩
    have RLO18 : Hid (Rd w18 A6 (hsL loc)) := by rw [hw18]; exact Lib.hid (RLO17.out.alloc _)
    have HGX18 : Hid (Blk w18 gx 44 dc.toList) := by rw [hw18]; exact Lib.hid (HGX17.out.alloc _)
    have HGA18 : Hid (Blk w18 w17.heap.size 44 da.toList) := by rw [hw18]; exact Lib.hid (Blk.new w17 44 da.toList)
    have HK18 : Hid (Keep w2 w18) := by rw [hw18]; exact Lib.hid (keep_trans HK17.out (keep_new _ _))
    rw [← hw18]
    have hgs18 : w2.heap.size ≤ w17.heap.size := HK17.out.size
    have hltHGX18 := HGX17.out.lt
    clear hw18 RLO17 HGX17 HK17
    generalize w17.heap.size = ga at *
    clear hstda
    go_wp2_with fail
    refine (N0.out _ T (HT2.out.keep HK18.out)).mono ?_
    clear N0
    rintro e w19 ⟨d0, rfl, hd0, k19⟩
    have RLO19 := Lib.hid (RLO18.out.keep k19)
    have HGX19 := Lib.hid (HGX18.out.keep k19)
    have HGA19 := Lib.hid (HGA18.out.keep k19)
    have HK19 := Lib.hid (keep_trans HK18.out k19)
    clear k19 RLO18 HGX18 HGA18 HK18
    have hd0z := hd0.z; have hd0n := hd0.n; have hd0i := hd0.i
    have hstd0 : (storeCells ⟨w19.heap.size, 0, none⟩ d0.toList 0).run Tryz.prog (w19.alloc (.cells zs 44)) = .ok () (w19.alloc (.cells d0 44)) := run_storeCells_new (P := Tryz.prog) w19 44 zs d0 hd0i (hz1.trans hd0z.symm) (by have := all_oneCell_toArray hd0.o; rwa [Array.toArray_toList] at this)
    have Hd0 := Lib.hid hd0
    clear hd0
    go_upto_region 20 with fail
    obtain ⟨w20, hw20⟩ : ∃ w20, w20 = w19.alloc (.cells d0 44) := ⟨_, rfl⟩
    have RLO20 : Hid (Rd w20 A6 (hsL loc)) := by rw [hw20]; exact Lib.hid (RLO19.out.alloc _)
    have HGX20 : Hid (Blk w20 gx 44 dc.toList) := by rw [hw20]; exact Lib.hid (HGX19.out.alloc _)
    have HGA20 : Hid (Blk w20 ga 44 da.toList) := by rw [hw20]; exact Lib.hid (HGA19.out.alloc _)
    have HGZ20 : Hid (Blk w20 w19.heap.size 44 d0.toList) := by rw [hw20]; exact Lib.hid (Blk.new w19 44 d0.toList)
    have HK20 : Hid (Keep w2 w20) := by rw [hw20]; exact Lib.hid (keep_trans HK19.out (keep_new _ _))
    rw [← hw20]
    have hgs20 : w2.heap.size ≤ w19.heap.size := HK19.out.size
    have hltHGX20 := HGX19.out.lt
    have hltHGA20 := HGA19.out.lt
    clear hw20 RLO19 HGX19 HGA19 HK19
    generalize w19.heap.size = gz at *
    clear hstd0
    obtain ⟨ia, hia⟩ : ∃ ia, HashA za.id ia := ⟨_, HashA.of OA.out.1⟩
    obtain ⟨i0, hi0⟩ : ∃ i0, HashA z0.id i0 := ⟨_, HashA.of O0.out.1⟩
    obtain ⟨bl, ol, hAl, -, hrg⟩ := hash_at RLO20.out OL.out (k := 0) (by rw [HLN.out]; omega)
    cases hAl
    obtain ⟨bl2, ol2, hAl, -, hrg2⟩ := hash_at RLO20.out OL.out (k := ln_ - 1) (by rw [HLN.out]; omega)
    cases hAl
    have hI : loc[0]'(by rw [HLN.out]; omega) = za.id := by
      have q := List.getElem?_eq_getElem (l := loc) (i := 0) (by rw [HLN.out]; omega)
      have q2 := F8.out
      rw [q] at q2; exact Option.some.inj q2
    have hI2 : loc[ln_ - 1]'(by rw [HLN.out]; omega) = z0.id := by
      have q := List.getElem?_eq_getElem (l := loc) (i := ln_ - 1) (by rw [HLN.out]; omega)
      have q2 := F9.out
      rw [q] at q2; exact Option.some.inj q2
    rw [hI, ← hia.l, Nat.zero_mul, Nat.add_zero] at hrg
    rw [hI2, ← hi0.l] at hrg2
    obtain ⟨k1, hk1⟩ : ∃ k1, ln_ - 1 = k1 := ⟨_, rfl⟩
    rw [hk1] at hrg2
    have hiaz := hia.z; have hian := hia.n; have hiai := hia.i
    have hi0z := hi0.z; have hi0n := hi0.n; have hi0i := hi0.i
    have heq : ∀ w, (Go.binOp .eql 36 (.agg ia) (.agg ia)).run Tryz.prog w = .ok (.bool (za.id == za.id)) w := fun w => hash_eql hia hia OA.out.1 OA.out.1 w
    have heq0 : ∀ w, (Go.binOp .eql 36 (.agg i0) (.agg i0)).run Tryz.prog w = .ok (.bool (z0.id == z0.id)) w := fun w => hash_eql hi0 hi0 O0.out.1 O0.out.1 w
    rw [show (za.id == za.id) = true from beq_self_eq_true _] at heq
    rw [show (z0.id == z0.id) = true from beq_self_eq_true _] at heq0
    have RI0 : Hid (w20.rangeAt bl ol ia.toList) := Lib.hid hrg
    have RJ0 : Hid (w20.rangeAt bl (ol + k1 * 32) i0.toList) := Lib.hid hrg2
    have RA0 : Hid (w20.rangeAt ga 0 ia.toList) := Lib.hid (nd_idr OA.out hia HGA20.out Hda.out)
    have RZ0 : Hid (w20.rangeAt gz 0 i0.toList) := Lib.hid (nd_idr O0.out hi0 HGZ20.out Hd0.out)
    have CX : Hid (w20.cell? ⟨gx, 101, none⟩ = some (iv (hc : Int))) := Lib.hid ((HGX20.out.cell 101).trans HC101.out)
    have CA : Hid (w20.cell? ⟨ga, 101, none⟩ = some (iv (ha : Int))) := Lib.hid ((HGA20.out.cell 101).trans (by rw [Hda.out.l, ← HHA.out]; exact nd_hgt OA.out))
    have hgd := hash_guard
    have hw3 : IntKind.i64.wrap ((ln_ : Int) - 1) = (k1 : Int) := by rw [show (ln_ : Int) - 1 = (k1 : Int) by omega]; exact IntWalk.i64_in _ (by omega)
    have hw4 : IntKind.i64.wrap ((hc : Int) + 10) = (hc : Int) + 10 := IntWalk.i64_in _ (by omega)
    have d6 : (0 : Int) < ln_ := by omega
    have d7 : (k1 : Int) < ln_ := by omega
    have f10 := F10.out
    clear hrg hrg2 hI hI2 hia hi0 hk1 HGX20 HGA20 HGZ20 Hda Hd0 RLO20 F8 F9 F10 HLN OL OA O0
    refine wp_region_tree (.take [0,1,2,3,4,5,6,7,8,9,10,11,12,13,14,15,16,17,18,19,20,21,22,23,24,25,26,27,28,29,30,31,32,33,34,35] .done) [] (by kernel_rfl) (by kernel_rfl) (fun w21 k21 => ?_)
    have RI : Hid (w21.rangeAt bl ol ia.toList) := Lib.hid fun j v hv => keep_cell k21 (RI0.out j v hv)
    have RJ : Hid (w21.rangeAt bl (ol + k1 * 32) i0.toList) := Lib.hid fun j v hv => keep_cell k21 (RJ0.out j v hv)
    have RA : Hid (w21.rangeAt ga 0 ia.toList) := Lib.hid fun j v hv => keep_cell k21 (RA0.out j v hv)
    have RZ : Hid (w21.rangeAt gz 0 i0.toList) := Lib.hid fun j v hv => keep_cell k21 (RZ0.out j v hv)
    have cx := aft_cell (keep_cell k21 CX.out); have ca := aft_cell (keep_cell k21 CA.out)
    have HK21 := Lib.hid (keep_trans HKW.out (keep_trans HK20.out k21))
    clear k21 RI0 RJ0 RA0 RZ0 CX CA
    rcases f10 with q | q
    · have d8 : (hc : Int) + 10 ≤ (ha : Int) := by omega
      clear q
      refine mt_take w21 (Below.refl _ _) ?_
      simp only [pick_cons, pick_nil, nth_zero, nth_succ]
      try simp only [List.append_eq, List.cons_append, List.nil_append]
      repeat (first
        | ((with_reducible refine wpQuiet_load_partg bl ol ia (Eq.trans ?_ rfl) RI.out _ Tryz.underlying36 rfl hiai (Eq.trans ?_ rfl) ?_); rfl; rfl; simp only [Act.put, Array.set!_eq_setIfInBounds, List.setIfInBounds_toArray, List.set_cons_succ, List.set_cons_zero])
        | ((with_reducible refine wpQuiet_load_partg bl (ol + k1 * 32) i0 (Eq.trans ?_ rfl) RJ.out _ Tryz.underlying36 rfl hi0i (Eq.trans ?_ rfl) ?_); rfl; rfl; simp only [Act.put, Array.set!_eq_setIfInBounds, List.setIfInBounds_toArray, List.set_cons_succ, List.set_cons_zero])
        | ((with_reducible refine wpQuiet_load_partg ga 0 ia (Eq.trans ?_ rfl) RA.out _ Tryz.underlying36 rfl hiai (Eq.trans ?_ rfl) ?_); rfl; rfl; simp only [Act.put, Array.set!_eq_setIfInBounds, List.setIfInBounds_toArray, List.set_cons_succ, List.set_cons_zero])
        | ((with_reducible refine wpQuiet_load_partg gz 0 i0 (Eq.trans ?_ rfl) RZ.out _ Tryz.underlying36 rfl hi0i (Eq.trans ?_ rfl) ?_); rfl; rfl; simp only [Act.put, Array.set!_eq_setIfInBounds, List.setIfInBounds_toArray, List.set_cons_succ, List.set_cons_zero])
        | go_big_quiet_step (fail))
      refine wpQuiet_nil (mt_end ?_)
      go_wp2
      exact bodyPost_ret (v := .bool true) (by simp [results, Tryz.results7]) rfl ⟨rfl, HK21.out⟩
    · have d9 : ((fr : Int) == (hc : Int) + 1) = true := by rw [beq_iff_eq]; omega
      clear q
      by_cases d8 : (hc : Int) + 10 ≤ (ha : Int)
      ·
        refine mt_take w21 (Below.refl _ _) ?_
        simp only [pick_cons, pick_nil, nth_zero, nth_succ]
        try simp only [List.append_eq, List.cons_append, List.nil_append]
        repeat (first
          | ((with_reducible refine wpQuiet_load_partg bl ol ia (Eq.trans ?_ rfl) RI.out _ Tryz.underlying36 rfl hiai (Eq.trans ?_ rfl) ?_); rfl; rfl; simp only [Act.put, Array.set!_eq_setIfInBounds, List.setIfInBounds_toArray, List.set_cons_succ, List.set_cons_zero])
          | ((with_reducible refine wpQuiet_load_partg bl (ol + k1 * 32) i0 (Eq.trans ?_ rfl) RJ.out _ Tryz.underlying36 rfl hi0i (Eq.trans ?_ rfl) ?_); rfl; rfl; simp only [Act.put, Array.set!_eq_setIfInBounds, List.setIfInBounds_toArray, List.set_cons_succ, List.set_cons_zero])
          | ((with_reducible refine wpQuiet_load_partg ga 0 ia (Eq.trans ?_ rfl) RA.out _ Tryz.underlying36 rfl hiai (Eq.trans ?_ rfl) ?_); rfl; rfl; simp only [Act.put, Array.set!_eq_setIfInBounds, List.setIfInBounds_toArray, List.set_cons_succ, List.set_cons_zero])
          | ((with_reducible refine wpQuiet_load_partg gz 0 i0 (Eq.trans ?_ rfl) RZ.out _ Tryz.underlying36 rfl hi0i (Eq.trans ?_ rfl) ?_); rfl; rfl; simp only [Act.put, Array.set!_eq_setIfInBounds, List.setIfInBounds_toArray, List.set_cons_succ, List.set_cons_zero])
          | go_big_quiet_step (fail))
        refine wpQuiet_nil (mt_end ?_)
        go_wp2
        exact bodyPost_ret (v := .bool true) (by simp [results, Tryz.results7]) rfl ⟨rfl, HK21.out⟩
      ·
        refine mt_take w21 (Below.refl _ _) ?_
        simp only [pick_cons, pick_nil, nth_zero, nth_succ]
        try simp only [List.append_eq, List.cons_append, List.nil_append]
        repeat (first
          | ((with_reducible refine wpQuiet_load_partg bl ol ia (Eq.trans ?_ rfl) RI.out _ Tryz.underlying36 rfl hiai (Eq.trans ?_ rfl) ?_); rfl; rfl; simp only [Act.put, Array.set!_eq_setIfInBounds, List.setIfInBounds_toArray, List.set_cons_succ, List.set_cons_zero])
          | ((with_reducible refine wpQuiet_load_partg bl (ol + k1 * 32) i0 (Eq.trans ?_ rfl) RJ.out _ Tryz.underlying36 rfl hi0i (Eq.trans ?_ rfl) ?_); rfl; rfl; simp only [Act.put, Array.set!_eq_setIfInBounds, List.setIfInBounds_toArray, List.set_cons_succ, List.set_cons_zero])
          | ((with_reducible refine wpQuiet_load_partg ga 0 ia (Eq.trans ?_ rfl) RA.out _ Tryz.underlying36 rfl hiai (Eq.trans ?_ rfl) ?_); rfl; rfl; simp only [Act.put, Array.set!_eq_setIfInBounds, List.setIfInBounds_toArray, List.set_cons_succ, List.set_cons_zero])
          | ((with_reducible refine wpQuiet_load_partg gz 0 i0 (Eq.trans ?_ rfl) RZ.out _ Tryz.underlying36 rfl hi0i (Eq.trans ?_ rfl) ?_); rfl; rfl; simp only [Act.put, Array.set!_eq_setIfInBounds, List.setIfInBounds_toArray, List.set_cons_succ, List.set_cons_zero])
          | go_big_quiet_step (fail))
        refine wpQuiet_nil (mt_end ?_)
        go_wp2
        exact bodyPost_ret (v := .bool true) (by simp [results, Tryz.results7]) rfl ⟨rfl, HK21.out⟩
  ·
    refine mt_take w14 (Below.refl _ _) ?_
    simp only [pick_cons, pick_nil, nth_zero, nth_succ]
    repeat (go_big_quiet_step (fail))
    refine wpQuiet_nil (mt_force ?_)
    simp only [pick_cons, pick_nil, nth_zero, nth_succ]
    refine fc_step rfl (fun K hK => ?_)
    go_simp
    (with_reducible refine (SM.out _ _ _ _ _ _ HK14.out (by omega) rfl (.inl rfl)).mono ?_)
    rintro e w15 ⟨rfl, k15⟩
    refine hK _ _ k15 ?_
    have c15 := aft_cell (keep_cell (keep_trans HK14.out k15) C101.out)
    have HK15 := Lib.hid (keep_trans HK14.out k15)
    clear hK K k15 HK14 SM c14
    refine fc_nil (mt_take w15 (Below.refl _ _) ?_)
    simp only [pick_cons, pick_nil, nth_zero, nth_succ]
    repeat (go_big_quiet_step (fail))
    refine wpQuiet_nil (mt_force ?_)
    simp only [pick_cons, pick_nil, nth_zero, nth_succ]
    refine fc_step rfl (fun K hK => ?_)
    go_simp
    (with_reducible refine (LN.out _ T (HT2.out.keep (keep_trans HK13.out HK15.out))).mono ?_)
    rintro e w16 ⟨rfl, k16⟩
    refine hK _ _ k16 ?_
    have HK16 := Lib.hid (keep_trans HK13.out (keep_trans HK15.out k16))
    have RLO16 := Lib.hid (RLO13.out.keep (keep_trans HK15.out k16))
    have HGX16 := Lib.hid (HGX13.out.keep (keep_trans HK15.out k16))
    clear hK K k16 LN c15 HK15 HK13 RLO13 HGX13
    refine fc_nil (mt_take w16 (Below.refl _ _) ?_)
    simp only [pick_cons, pick_nil, nth_zero, nth_succ]
    repeat (go_big_quiet_step (fail))
    refine wpQuiet_nil (mt_end ?_)
    clear d2 d3 d4 d5 hw2
    go_wp2_with fail
    refine (NA.out _ T (HT2.out.keep HK16.out)).mono ?_
    clear NA
    rintro e w17 ⟨da, rfl, hda, k17⟩
    have RLO17 := Lib.hid (RLO16.out.keep k17)
    have HGX17 := Lib.hid (HGX16.out.keep k17)
    have HK17 := Lib.hid (keep_trans HK16.out k17)
    clear k17 RLO16 HGX16 HK16
    have hdaz := hda.z; have hdan := hda.n; have hdai := hda.i
    have hstda : (storeCells ⟨w17.heap.size, 0, none⟩ da.toList 0).run Tryz.prog (w17.alloc (.cells zs 44)) = .ok () (w17.alloc (.cells da 44)) := run_storeCells_new (P := Tryz.prog) w17 44 zs da hdai (hz1.trans hdaz.symm) (by have := all_oneCell_toArray hda.o; rwa [Array.toArray_toList] at this)
    have Hda := Lib.hid hda
    clear hda
    go_upto_region 19 with fail
    obtain ⟨w18, hw18⟩ : ∃ w18, w18 = w17.alloc (.cells da 44) := ⟨_, rfl⟩
    have RLO18 : Hid (Rd w18 A6 (hsL loc)) := by rw [hw18]; exact Lib.hid (RLO17.out.alloc _)
    have HGX18 : Hid (Blk w18 gx 44 dc.toList) := by rw [hw18]; exact Lib.hid (HGX17.out.alloc _)
    have HGA18 : Hid (Blk w18 w17.heap.size 44 da.toList) := by rw [hw18]; exact Lib.hid (Blk.new w17 44 da.toList)
    have HK18 : Hid (Keep w2 w18) := by rw [hw18]; exact Lib.hid (keep_trans HK17.out (keep_new _ _))
    rw [← hw18]
    have hgs18 : w2.heap.size ≤ w17.heap.size := HK17.out.size
    have hltHGX18 := HGX17.out.lt
    clear hw18 RLO17 HGX17 HK17
    generalize w17.heap.size = ga at *
    clear hstda
    go_wp2_with fail
    refine (N0.out _ T (HT2.out.keep HK18.out)).mono ?_
    clear N0
    rintro e w19 ⟨d0, rfl, hd0, k19⟩
    have RLO19 := Lib.hid (RLO18.out.keep k19)
    have HGX19 := Lib.hid (HGX18.out.keep k19)
    have HGA19 := Lib.hid (HGA18.out.keep k19)
    have HK19 := Lib.hid (keep_trans HK18.out k19)
    clear k19 RLO18 HGX18 HGA18 HK18
    have hd0z := hd0.z; have hd0n := hd0.n; have hd0i := hd0.i
    have hstd0 : (storeCells ⟨w19.heap.size, 0, none⟩ d0.toList 0).run Tryz.prog (w19.alloc (.cells zs 44)) = .ok () (w19.alloc (.cells d0 44)) := run_storeCells_new (P := Tryz.prog) w19 44 zs d0 hd0i (hz1.trans hd0z.symm) (by have := all_oneCell_toArray hd0.o; rwa [Array.toArray_toList] at this)
    have Hd0 := Lib.hid hd0
    clear hd0
    go_upto_region 20 with fail
    obtain ⟨w20, hw20⟩ : ∃ w20, w20 = w19.alloc (.cells d0 44) := ⟨_, rfl⟩
    have RLO20 : Hid (Rd w20 A6 (hsL loc)) := by rw [hw20]; exact Lib.hid (RLO19.out.alloc _)
    have HGX20 : Hid (Blk w20 gx 44 dc.toList) := by rw [hw20]; exact Lib.hid (HGX19.out.alloc _)
    have HGA20 : Hid (Blk w20 ga 44 da.toList) := by rw [hw20]; exact Lib.hid (HGA19.out.alloc _)
    have HGZ20 : Hid (Blk w20 w19.heap.size 44 d0.toList) := by rw [hw20]; exact Lib.hid (Blk.new w19 44 d0.toList)
    have HK20 : Hid (Keep w2 w20) := by rw [hw20]; exact Lib.hid (keep_trans HK19.out (keep_new _ _))
    rw [← hw20]
    have hgs20 : w2.heap.size ≤ w19.heap.size := HK19.out.size
    have hltHGX20 := HGX19.out.lt
    have hltHGA20 := HGA19.out.lt
    clear hw20 RLO19 HGX19 HGA19 HK19
    generalize w19.heap.size = gz at *
    clear hstd0
    obtain ⟨ia, hia⟩ : ∃ ia, HashA za.id ia := ⟨_, HashA.of OA.out.1⟩
    obtain ⟨i0, hi0⟩ : ∃ i0, HashA z0.id i0 := ⟨_, HashA.of O0.out.1⟩
    obtain ⟨bl, ol, hAl, -, hrg⟩ := hash_at RLO20.out OL.out (k := 0) (by rw [HLN.out]; omega)
    cases hAl
    obtain ⟨bl2, ol2, hAl, -, hrg2⟩ := hash_at RLO20.out OL.out (k := ln_ - 1) (by rw [HLN.out]; omega)
    cases hAl
    have hI : loc[0]'(by rw [HLN.out]; omega) = za.id := by
      have q := List.getElem?_eq_getElem (l := loc) (i := 0) (by rw [HLN.out]; omega)
      have q2 := F8.out
      rw [q] at q2; exact Option.some.inj q2
    have hI2 : loc[ln_ - 1]'(by rw [HLN.out]; omega) = z0.id := by
      have q := List.getElem?_eq_getElem (l := loc) (i := ln_ - 1) (by rw [HLN.out]; omega)
      have q2 := F9.out
      rw [q] at q2; exact Option.some.inj q2
    rw [hI, ← hia.l, Nat.zero_mul, Nat.add_zero] at hrg
    rw [hI2, ← hi0.l] at hrg2
    obtain ⟨k1, hk1⟩ : ∃ k1, ln_ - 1 = k1 := ⟨_, rfl⟩
    rw [hk1] at hrg2
    have hiaz := hia.z; have hian := hia.n; have hiai := hia.i
    have hi0z := hi0.z; have hi0n := hi0.n; have hi0i := hi0.i
    have heq : ∀ w, (Go.binOp .eql 36 (.agg ia) (.agg ia)).run Tryz.prog w = .ok (.bool (za.id == za.id)) w := fun w => hash_eql hia hia OA.out.1 OA.out.1 w
    have heq0 : ∀ w, (Go.binOp .eql 36 (.agg i0) (.agg i0)).run Tryz.prog w = .ok (.bool (z0.id == z0.id)) w := fun w => hash_eql hi0 hi0 O0.out.1 O0.out.1 w
    rw [show (za.id == za.id) = true from beq_self_eq_true _] at heq
    rw [show (z0.id == z0.id) = true from beq_self_eq_true _] at heq0
    have RI0 : Hid (w20.rangeAt bl ol ia.toList) := Lib.hid hrg
    have RJ0 : Hid (w20.rangeAt bl (ol + k1 * 32) i0.toList) := Lib.hid hrg2
    have RA0 : Hid (w20.rangeAt ga 0 ia.toList) := Lib.hid (nd_idr OA.out hia HGA20.out Hda.out)
    have RZ0 : Hid (w20.rangeAt gz 0 i0.toList) := Lib.hid (nd_idr O0.out hi0 HGZ20.out Hd0.out)
    have CX : Hid (w20.cell? ⟨gx, 101, none⟩ = some (iv (hc : Int))) := Lib.hid ((HGX20.out.cell 101).trans HC101.out)
    have CA : Hid (w20.cell? ⟨ga, 101, none⟩ = some (iv (ha : Int))) := Lib.hid ((HGA20.out.cell 101).trans (by rw [Hda.out.l, ← HHA.out]; exact nd_hgt OA.out))
    have hgd := hash_guard
    have hw3 : IntKind.i64.wrap ((ln_ : Int) - 1) = (k1 : Int) := by rw [show (ln_ : Int) - 1 = (k1 : Int) by omega]; exact IntWalk.i64_in _ (by omega)
    have hw4 : IntKind.i64.wrap ((hc : Int) + 10) = (hc : Int) + 10 := IntWalk.i64_in _ (by omega)
    have d6 : (0 : Int) < ln_ := by omega
    have d7 : (k1 : Int) < ln_ := by omega
    have f10 := F10.out
    clear hrg hrg2 hI hI2 hia hi0 hk1 HGX20 HGA20 HGZ20 Hda Hd0 RLO20 F8 F9 F10 HLN OL OA O0
    refine wp_region_tree (.take [0,1,2,3,4,5,6,7,8,9,10,11,12,13,14,15,16,17,18,19,20,21,22,23,24,25,26,27,28,29,30,31,32,33,34,35] .done) [] (by kernel_rfl) (by kernel_rfl) (fun w21 k21 => ?_)
    have RI : Hid (w21.rangeAt bl ol ia.toList) := Lib.hid fun j v hv => keep_cell k21 (RI0.out j v hv)
    have RJ : Hid (w21.rangeAt bl (ol + k1 * 32) i0.toList) := Lib.hid fun j v hv => keep_cell k21 (RJ0.out j v hv)
    have RA : Hid (w21.rangeAt ga 0 ia.toList) := Lib.hid fun j v hv => keep_cell k21 (RA0.out j v hv)
    have RZ : Hid (w21.rangeAt gz 0 i0.toList) := Lib.hid fun j v hv => keep_cell k21 (RZ0.out j v hv)
    have cx := aft_cell (keep_cell k21 CX.out); have ca := aft_cell (keep_cell k21 CA.out)
    have HK21 := Lib.hid (keep_trans HKW.out (keep_trans HK20.out k21))
    clear k21 RI0 RJ0 RA0 RZ0 CX CA
    rcases f10 with q | q
    · have d8 : (hc : Int) + 10 ≤ (ha : Int) := by omega
      clear q
      refine mt_take w21 (Below.refl _ _) ?_
      simp only [pick_cons, pick_nil, nth_zero, nth_succ]
      try simp only [List.append_eq, List.cons_append, List.nil_append]
      repeat (first
        | ((with_reducible refine wpQuiet_load_partg bl ol ia (Eq.trans ?_ rfl) RI.out _ Tryz.underlying36 rfl hiai (Eq.trans ?_ rfl) ?_); rfl; rfl; simp only [Act.put, Array.set!_eq_setIfInBounds, List.setIfInBounds_toArray, List.set_cons_succ, List.set_cons_zero])
        | ((with_reducible refine wpQuiet_load_partg bl (ol + k1 * 32) i0 (Eq.trans ?_ rfl) RJ.out _ Tryz.underlying36 rfl hi0i (Eq.trans ?_ rfl) ?_); rfl; rfl; simp only [Act.put, Array.set!_eq_setIfInBounds, List.setIfInBounds_toArray, List.set_cons_succ, List.set_cons_zero])
        | ((with_reducible refine wpQuiet_load_partg ga 0 ia (Eq.trans ?_ rfl) RA.out _ Tryz.underlying36 rfl hiai (Eq.trans ?_ rfl) ?_); rfl; rfl; simp only [Act.put, Array.set!_eq_setIfInBounds, List.setIfInBounds_toArray, List.set_cons_succ, List.set_cons_zero])
        | ((with_reducible refine wpQuiet_load_partg gz 0 i0 (Eq.trans ?_ rfl) RZ.out _ Tryz.underlying36 rfl hi0i (Eq.trans ?_ rfl) ?_); rfl; rfl; simp only [Act.put, Array.set!_eq_setIfInBounds, List.setIfInBounds_toArray, List.set_cons_succ, List.set_cons_zero])
        | go_big_quiet_step (fail))
      refine wpQuiet_nil (mt_end ?_)
      go_wp2
      exact bodyPost_ret (v := .bool true) (by simp [results, Tryz.results7]) rfl ⟨rfl, HK21.out⟩
    · have d9 : ((fr : Int) == (hc : Int) + 1) = true := by rw [beq_iff_eq]; omega
      clear q
      by_cases d8 : (hc : Int) + 10 ≤ (ha : Int)
      ·
        refine mt_take w21 (Below.refl _ _) ?_
        simp only [pick_cons, pick_nil, nth_zero, nth_succ]
        try simp only [List.append_eq, List.cons_append, List.nil_append]
        repeat (first
          | ((with_reducible refine wpQuiet_load_partg bl ol ia (Eq.trans ?_ rfl) RI.out _ Tryz.underlying36 rfl hiai (Eq.trans ?_ rfl) ?_); rfl; rfl; simp only [Act.put, Array.set!_eq_setIfInBounds, List.setIfInBounds_toArray, List.set_cons_succ, List.set_cons_zero])
          | ((with_reducible refine wpQuiet_load_partg bl (ol + k1 * 32) i0 (Eq.trans ?_ rfl) RJ.out _ Tryz.underlying36 rfl hi0i (Eq.trans ?_ rfl) ?_); rfl; rfl; simp only [Act.put, Array.set!_eq_setIfInBounds, List.setIfInBounds_toArray, List.set_cons_succ, List.set_cons_zero])
          | ((with_reducible refine wpQuiet_load_partg ga 0 ia (Eq.trans ?_ rfl) RA.out _ Tryz.underlying36 rfl hiai (Eq.trans ?_ rfl) ?_); rfl; rfl; simp only [Act.put, Array.set!_eq_setIfInBounds, List.setIfInBounds_toArray, List.set_cons_succ, List.set_cons_zero])
          | ((with_reducible refine wpQuiet_load_partg gz 0 i0 (Eq.trans ?_ rfl) RZ.out _ Tryz.underlying36 rfl hi0i (Eq.trans ?_ rfl) ?_); rfl; rfl; simp only [Act.put, Array.set!_eq_setIfInBounds, List.setIfInBounds_toArray, List.set_cons_succ, List.set_cons_zero])
          | go_big_quiet_step (fail))
        refine wpQuiet_nil (mt_end ?_)
        go_wp2
        exact bodyPost_ret (v := .bool true) (by simp [results, Tryz.results7]) rfl ⟨rfl, HK21.out⟩
      ·
        refine mt_take w21 (Below.refl _ _) ?_
        simp only [pick_cons, pick_nil, nth_zero, nth_succ]
        try simp only [List.append_eq, List.cons_append, List.nil_append]
        repeat (first
          | ((with_reducible refine wpQuiet_load_partg bl ol ia (Eq.trans ?_ rfl) RI.out _ Tryz.underlying36 rfl hiai (Eq.trans ?_ rfl) ?_); rfl; rfl; simp only [Act.put, Array.set!_eq_setIfInBounds, List.setIfInBounds_toArray, List.set_cons_succ, List.set_cons_zero])
          | ((with_reducible refine wpQuiet_load_partg bl (ol + k1 * 32) i0 (Eq.trans ?_ rfl) RJ.out _ Tryz.underlying36 rfl hi0i (Eq.trans ?_ rfl) ?_); rfl; rfl; simp only [Act.put, Array.set!_eq_setIfInBounds, List.setIfInBounds_toArray, List.set_cons_succ, List.set_cons_zero])
          | ((with_reducible refine wpQuiet_load_partg ga 0 ia (Eq.trans ?_ rfl) RA.out _ Tryz.underlying36 rfl hiai (Eq.trans ?_ rfl) ?_); rfl; rfl; simp only [Act.put, Array.set!_eq_setIfInBounds, List.setIfInBounds_toArray, List.set_cons_succ, List.set_cons_zero])
          | ((with_reducible refine wpQuiet_load_partg gz 0 i0 (Eq.trans ?_ rfl) RZ.out _ Tryz.underlying36 rfl hi0i (Eq.trans ?_ rfl) ?_); rfl; rfl; simp only [Act.put, Array.set!_eq_setIfInBounds, List.setIfInBounds_toArray, List.set_cons_succ, List.set_cons_zero])
          | go_big_quiet_step (fail))
        refine wpQuiet_nil (mt_end ?_)
        go_wp2
        exact bodyPost_ret (v := .bool true) (by simp [results, Tryz.results7]) rfl ⟨rfl, HK21.out⟩
end Go.Proofs.YtjbdboekleaklaaGreatDoor

/- Arguments opened to lists, and the last step of a law: it answers true and leaves what was there. -/
set_option linter.unusedSimpArgs false
set_option linter.unusedVariables false
namespace Go.Proofs.YtjbdboekleaklaaGreatDoor
open Go.RowKit Go.ChangeShapes Go.WideShapes Go.Deep

theorem addr_plain {w : World} {a : Addr} {v : Value} (h : w.cell? a = some v) : a = ⟨a.block, a.off, none⟩ := by
  obtain ⟨b, o, s⟩ := a
  cases s with
  | none => rfl
  | some x => unfold World.cell? at h; split at h <;> simp at h

theorem Rd.of_add {w : World} {a : Addr} {xs : List Value} (h : ∀ j (hj : j < xs.length), w.cell? (a.add j) = some xs[j]) : Rd w (some a) xs := by
  by_cases h0 : xs = []
  · exact .inl h0
  · have hp : 0 < xs.length := List.length_pos_iff.2 h0
    have h1 := h 0 hp
    have e : a.add 0 = a := by unfold Addr.add; simp
    rw [e] at h1
    have ha := addr_plain h1
    refine .inr ⟨a.block, a.off, by rw [← ha], fun j hj => ?_⟩
    have := h j hj
    rw [ha, add_lit0] at this
    exact this

theorem list_choose {α β : Type} {f : α → β} {p : α → Prop} : ∀ (l : List β), (∀ x ∈ l, ∃ a, x = f a ∧ p a) → ∃ ys : List α, l = ys.map f ∧ ∀ a ∈ ys, p a
  | [], _ => ⟨[], rfl, by simp⟩
  | x :: l, h => by
    obtain ⟨a, rfl, ha⟩ := h x (by simp)
    obtain ⟨ys, rfl, hys⟩ := list_choose l fun y hy => h y (by simp [hy])
    exact ⟨a :: ys, rfl, by simpa using ⟨ha, hys⟩⟩

section
variable {H : Type} {enc : TypeId × Value → H} {P : Program} {w : World} {spare : Nat → Bool} {held : Bool}

theorem slice_open {t e : TypeId} {size fuel : Nat} {cs : List Value} {x : DataW H × List MemPlace} (ht : P.underlying t = some (.slice e)) (hc : P.cellsOf e = size) (hz : 0 < size)
    (h : DataW.trod enc P w 0 spare held fuel t cs = some x) :
    ∃ (A : Option Addr) (n c : Nat) (Cs : List (List Value)), cs = [.slice A n c] ∧ n ≤ c ∧ c ≤ maxLen ∧ Cs.length = n ∧ Rd w A Cs.flatten ∧
      ∀ y ∈ Cs, y.length = size ∧ ∃ m z, DataW.trod enc P w 0 spare held m e y = some z := by
  rcases open_slice ht h with ⟨rfl, _⟩ | ⟨a, len, cap, m, n, D, Pl, rfl, _, hl, hm, hmm, _, hi⟩
  · exact ⟨none, 0, 0, [], rfl, Nat.le_refl _, Nat.zero_le _, rfl, .inl rfl, by simp⟩
  · have hlm : len ≤ m := by rw [hmm]; split <;> omega
    rw [hc] at hi
    obtain ⟨V, hV⟩ := choose_lt (p := fun i (cs' : List Value) => w.cells? 0 (a.add (i * size)) size = some cs' ∧ DataW.trod enc P w 0 spare held n e cs' = some (D i, Pl i)) (n := len) fun i hi' => hi i (by omega)
    have hlen : ∀ y ∈ (List.range len).map V, y.length = size := by
      intro y hy
      obtain ⟨i, hi', rfl⟩ := List.mem_map.1 hy
      exact (World.cells?_some (hV i (List.mem_range.1 hi')).1).2.1
    refine ⟨some a, len, cap, (List.range len).map V, rfl, hl, hm, by simp, Rd.of_add fun j hj => ?_, fun y hy => ⟨hlen y hy, ?_⟩⟩
    · have hfl : ((List.range len).map V).flatten.length = len * size := by
        rw [← List.flatMap_id, flatMap_len' id size _ hlen]; simp
      have hj' : j < len * size := by rw [← hfl]; exact hj
      have hq : j / size < len := by rwa [Nat.div_lt_iff_lt_mul hz]
      have hr : j % size < size := Nat.mod_lt _ hz
      have hcell := (World.cells?_some (hV (j / size) hq).1).2.2 (j % size) hr
      have hjj : j = j / size * size + j % size := by rw [Nat.mul_comm]; exact (Nat.div_add_mod j size).symm
      have hadd : (a.add (j / size * size)).add (j % size) = a.add j := by
        rw [add_add', ← hjj]
      rw [hadd] at hcell
      rw [hcell, ← List.getElem?_eq_getElem hj, ← List.flatMap_id]
      conv => rhs; rw [hjj]
      rw [flatMap_get' id size _ hlen (j / size) (j % size) (by simpa using hq) hr]
      simp
    · obtain ⟨i, hi', rfl⟩ := List.mem_map.1 hy
      exact ⟨n, _, (hV i (List.mem_range.1 hi')).2⟩

theorem fields_open {t : TypeId} {fs : Array Field} {fuel : Nat} {cs : List Value} {x : DataW H × List MemPlace} (ht : P.underlying t = some (.struct fs)) (hone : oneCellFields P fs = true)
    (h : DataW.trod enc P w 0 spare held fuel t cs = some x) (hl : cs.length = fs.size) :
    ∀ (j : Nat) (f : Field), fs[j]? = some f → ∃ v m y, cs[j]? = some v ∧ DataW.trod enc P w 0 spare held m f.type [v] = some y := by
  obtain ⟨ys, n, _, _, _, hyl, hf⟩ := DataW.trod_struct ht h
  intro j f hj
  obtain ⟨ho, hk⟩ := hone_of hone j f hj
  have hjl : j < fs.size := (Array.getElem?_eq_some_iff.1 hj).1
  have h1 := hf j f hj
  rw [ho, hk] at h1
  have hone' : (cs.drop j).take 1 = [cs[j]'(by omega)] := by
    rw [List.drop_eq_getElem_cons (by omega)]; rfl
  rw [hone'] at h1
  have hys : ys[j]? = some (ys[j]'(by omega)) := List.getElem?_eq_getElem (by omega)
  exact ⟨_, n, _, List.getElem?_eq_getElem (by omega), h1.trans hys⟩

theorem bytes_open {t e : TypeId} {fuel : Nat} {cs : List Value} {x : DataW H × List MemPlace} (ht : P.underlying t = some (.slice e)) (he : P.underlying e = some (.int .u8)) (hc : P.cellsOf e = 1)
    (h : DataW.trod enc P w 0 spare held fuel t cs = some x) :
    ∃ (A : Option Addr) (l : List UInt8) (c : Nat), cs = [.slice A l.length c] ∧ l.length ≤ c ∧ c ≤ maxLen ∧ Rd w A (l.map u8v) := by
  obtain ⟨A, n, c, Cs, rfl, h1, h2, rfl, h3, h4⟩ := slice_open ht hc (by omega) h
  obtain ⟨l, rfl, _⟩ := list_choose (f := fun x : UInt8 => [u8v x]) (p := fun _ => True) Cs fun y hy => by
    obtain ⟨_, m, z, hz⟩ := h4 y hy
    obtain ⟨n, rfl, _, hw⟩ := DataW.trod_int he hz
    have hb : 0 ≤ n ∧ n ≤ 255 := by simpa [Lit.wf, IntKind.min, IntKind.max, IntKind.signed, IntKind.bits] using hw
    refine ⟨UInt8.ofNat n.toNat, ?_, trivial⟩
    have : ((UInt8.ofNat n.toNat).toNat : Int) = n := by
      rw [UInt8.toNat_ofNat']
      omega
    show [Value.int .u8 n] = [Value.int .u8 ((UInt8.ofNat n.toNat).toNat : Int)]
    rw [this]
  refine ⟨A, l, c, by simp, by simpa using h1, h2, ?_⟩
  have e : (l.map fun x : UInt8 => [u8v x]).flatten = l.map u8v := by rw [← List.flatMap_def, ← List.map_eq_flatMap]
  rwa [e] at h3
end

section
variable {H : Type} {enc : TypeId × Value → H} {P : Program}

theorem trodAll_below (hl : laidOutB P = true) {W W' : World} (hb : Below W.heap.size W W') : ∀ (ts : List TypeId) (vs : List Value) (ds : List (DataW H)) (ps : List MemPlace),
    (∀ t ∈ ts, P.readableRec t = true ∧ t < P.types.size) → (∀ x ∈ ps, x.block < W.heap.size) → DataW.TrodAll enc P W 0 (fun _ => true) true ts vs ds ps →
    DataW.TrodAll enc P W' 0 (fun b => decide (b < W.heap.size)) true ts vs ds ps
  | [], [], [], ps, _, _, h => h
  | t :: ts, v :: vs, d :: ds, ps, hr, hlt, h => by
    obtain ⟨p, q, h1, h2, rfl⟩ := h
    exact ⟨p, q, Below.trod hl (hr t (by simp)).1 (hr t (by simp)).2 h1 hb fun x hx => hlt x (by simp [hx]),
      trodAll_below hl hb ts vs ds q (fun t ht => hr t (by simp [ht])) (fun x hx => hlt x (by simp [hx])) h2, rfl⟩
  | [], _ :: _, _, _, _, _, h => by cases h
  | [], [], _ :: _, _, _, _, h => by cases h
  | _ :: _, [], _, _, _, _, h => by cases h
  | _ :: _, _ :: _, [], _, _, _, h => by cases h

/-- A law's last step. -/
theorem law_post {f : Func} {s : ChangeSpec} {apart fresh handsOn : Bool} {W W' : World} {args : Array Value} {ds gs : List (DataW H)} {before : List MemPlace} {tb : TypeId}
    (hW : DataW.Whole enc P f.params.toList s.vars apart W args.toList ds gs before) (hv : s.vars = []) (hl : laidOutB P = true)
    (hrB : (f.params.toList.all fun t => P.readableRec t && decide (t < P.types.size)) = true) (hres : f.resultTypes = #[tb]) (htb : P.underlying tb = some .bool)
    (hs : s.fn H ds = { results := [.lit (.bool true)], args := ds }) (hb : Below W.heap.size W W') :
    s.post enc P f apart fresh handsOn false W args (.bool true) W' := by
  have hr : ∀ t ∈ f.params.toList, P.readableRec t = true ∧ t < P.types.size := fun t ht => by
    have := List.all_eq_true.1 hrB t ht
    simpa using this
  have hW' := hW
  obtain ⟨p, q, hA, hV, rfl, hfz, hnd⟩ := hW
  rw [hv] at hV
  obtain ⟨rfl, rfl⟩ := trodVars_none hV
  simp only [List.append_nil] at hW'
  have hlt : ∀ x ∈ p, x.block < W.heap.size := fun x hx => hW'.lt x (by simpa using hx)
  refine ⟨ds, [], p, [], p, [], by simpa using hW', ?_, ?_, ?_, hb.frame _, fun h => by cases h⟩
  · rw [List.append_nil, hs, hres]
    exact trodAll_mk1 (shut_bool htb true)
  · rw [List.append_nil, hs]
    exact trodAll_below hl hb _ _ _ _ hr hlt hA
  · rw [List.append_nil, hs, hv]
    exact rfl
end
end Go.Proofs.YtjbdboekleaklaaGreatDoor

/- Headers, sums and rules that came in, opened; what the laid tables give (JrnZ without the disk). -/
set_option linter.unusedSimpArgs false
set_option linter.unusedVariables false
namespace Go.Proofs.YtjbdboekleaklaaGreatDoor
open Go.RowKit Go.ChangeShapes Go.WideShapes Go.ChangeAt Go.Deep

theorem cellsByte : Tryz.prog.cellsOf 5 = 1 := by kernel_rfl
theorem word_ofJ {x : Int} (h : 0 ≤ x ∧ x ≤ 4294967295) : ∃ t : UInt32, x = (t.toNat : Int) := ⟨w32 x, w32_of h.1 h.2⟩
theorem byte_ofJ {x : Int} (h : 0 ≤ x ∧ x ≤ 255) : ∃ t : UInt8, x = (t.toNat : Int) := ⟨w8 x, w8_of h.1 h.2⟩
theorem word_openJ {H : Type} {enc : TypeId × Value → H} {w : World} {spare : Nat → Bool} {held : Bool} {fuel : Nat} {cs : List Value} {x : DataW H × List MemPlace}
    (h : DataW.trod enc Tryz.prog w 0 spare held fuel 37 cs = some x) : ∃ t : UInt32, cs = [u32v t] := by
  obtain ⟨k, ek, _, wk⟩ := DataW.trod_int Tryz.underlying37 h
  obtain ⟨t, rfl⟩ := word_ofJ (x := k) (by simpa [Lit.wf, IntKind.min, IntKind.max, IntKind.signed, IntKind.bits] using wk)
  exact ⟨t, ek⟩
theorem cellsHeaderJ : Tryz.prog.cellsOf 39 = 68 := by kernel_rfl
theorem cellsHashJ : Tryz.prog.cellsOf 36 = 32 := by kernel_rfl
theorem cellsWordJ : Tryz.prog.cellsOf 37 = 1 := by kernel_rfl
theorem underHashJ : Tryz.prog.underlying 36 = some (.array 32 5) := by kernel_rfl
theorem hash_openJ {H : Type} {enc : TypeId × Value → H} {w : World} {spare : Nat → Bool} {held : Bool} {fuel : Nat} {cs : List Value} {x : DataW H × List MemPlace}
    (h : DataW.trod enc Tryz.prog w 0 spare held fuel 36 cs = some x) : ∃ l : List UInt8, cs = l.map u8v ∧ l.length = 32 := by
  obtain ⟨xs, m, _, _, h1, h2, h3⟩ := DataW.trod_array underHashJ h
  rw [cellsHashJ] at h1
  obtain ⟨l, rfl, _⟩ := list_choose (f := u8v) (p := fun _ => True) cs fun u hu => by
    obtain ⟨i, hi, rfl⟩ := List.mem_iff_getElem.1 hu
    have h4 := h3 i (by omega)
    rw [cellsByte, Nat.mul_one, List.getElem?_eq_getElem (by omega)] at h4
    obtain ⟨k, ek, _, wk⟩ := DataW.trod_int Tryz.underlying5 h4
    obtain ⟨t, rfl⟩ := byte_ofJ (x := k) (by simpa [Lit.wf, IntKind.min, IntKind.max, IntKind.signed, IntKind.bits] using wk)
    rw [List.drop_eq_getElem_cons hi, List.take_succ_cons, List.take_zero] at ek
    exact ⟨t, (List.cons.inj ek).1, trivial⟩
  exact ⟨l, rfl, by simpa using h1⟩
theorem header_openJ {H : Type} {enc : TypeId × Value → H} {w : World} {spare : Nat → Bool} {held : Bool} {fuel : Nat} {cs : List Value} {x : DataW H × List MemPlace}
    (h : DataW.trod enc Tryz.prog w 0 spare held fuel 39 cs = some x) : ∃ r : Hd, cs = r.cells ∧ r.ok := by
  obtain ⟨xs, n, _, _, hl, hx, F⟩ := DataW.trod_struct Tryz.underlying39 h
  rw [cellsHeaderJ] at hl
  have hx' : xs.length = 6 := hx
  have g : ∀ (i : Nat) (hi : i < 6), xs[i]? = some (xs[i]'(by omega)) := fun i hi => List.getElem?_eq_getElem (by omega)
  have f0 : DataW.trod enc Tryz.prog w 0 spare held n 37 ((cs.drop 0).take (Tryz.prog.cellsOf 37)) = some _ := (F 0 _ rfl).trans (g 0 (by omega))
  have f1 : DataW.trod enc Tryz.prog w 0 spare held n 36 ((cs.drop 1).take (Tryz.prog.cellsOf 36)) = some _ := (F 1 _ rfl).trans (g 1 (by omega))
  have f2 : DataW.trod enc Tryz.prog w 0 spare held n 36 ((cs.drop 33).take (Tryz.prog.cellsOf 36)) = some _ := (F 2 _ rfl).trans (g 2 (by omega))
  have f3 : DataW.trod enc Tryz.prog w 0 spare held n 37 ((cs.drop 65).take (Tryz.prog.cellsOf 37)) = some _ := (F 3 _ rfl).trans (g 3 (by omega))
  have f4 : DataW.trod enc Tryz.prog w 0 spare held n 37 ((cs.drop 66).take (Tryz.prog.cellsOf 37)) = some _ := (F 4 _ rfl).trans (g 4 (by omega))
  have f5 : DataW.trod enc Tryz.prog w 0 spare held n 37 ((cs.drop 67).take (Tryz.prog.cellsOf 37)) = some _ := (F 5 _ rfl).trans (g 5 (by omega))
  simp only [cellsWordJ, cellsHashJ] at f0 f1 f2 f3 f4 f5
  obtain ⟨a, ea⟩ := word_openJ f0
  obtain ⟨p, ep, hp⟩ := hash_openJ f1
  obtain ⟨q, eq, hq⟩ := hash_openJ f2
  obtain ⟨t, et⟩ := word_openJ f3
  obtain ⟨b, eb⟩ := word_openJ f4
  obtain ⟨c, ec⟩ := word_openJ f5
  have key : ∀ (l : List Value) (i k : Nat), l.drop i = (l.drop i).take k ++ l.drop (i + k) := fun l i k => by
    have h1 := (List.take_append_drop k (l.drop i)).symm
    rwa [List.drop_drop] at h1
  refine ⟨⟨a, p, q, t, b, c⟩, ?_, hp, hq⟩
  have e : cs = cs.drop 0 := rfl
  rw [e, key cs 0 1, ea, key cs (0 + 1) 32, ep, key cs (0 + 1 + 32) 32, eq, key cs (0 + 1 + 32 + 32) 1, et, key cs (0 + 1 + 32 + 32 + 1) 1, eb, key cs (0 + 1 + 32 + 32 + 1 + 1) 1, ec, List.drop_eq_nil_of_le (by omega)]
  simp [Hd.cells]
theorem heads_openJ {H : Type} {enc : TypeId × Value → H} {w : World} {spare : Nat → Bool} {held : Bool} {fuel : Nat} {cs : List Value} {x : DataW H × List MemPlace}
    (h : DataW.trod enc Tryz.prog w 0 spare held fuel 22 cs = some x) :
    ∃ (A : Option Addr) (l : List Hd) (c : Nat), cs = [.slice A l.length c] ∧ l.length ≤ c ∧ c ≤ maxLen ∧ Rd w A (l.flatMap Hd.cells) ∧ ∀ y ∈ l, y.ok := by
  obtain ⟨A, n, c, Cs, rfl, h1, h2, rfl, h3, h4⟩ := slice_open Tryz.underlying22 cellsHeaderJ (by omega) h
  obtain ⟨l, rfl, hok⟩ := list_choose (f := Hd.cells) (p := Hd.ok) Cs fun y hy => by
    obtain ⟨_, m, z, hz⟩ := h4 y hy
    exact header_openJ hz
  refine ⟨A, l, c, by simp, by simpa using h1, h2, ?_, hok⟩
  rwa [← List.flatMap_def] at h3

/-! The tables. -/
theorem gK : Tryz.prog.globalNamed "florin/sha2.constants" = some 1 := by kernel_rfl
theorem gH : Tryz.prog.globalNamed "florin/sha2.initials" = some 0 := by kernel_rfl
theorem gKT : (Tryz.prog.globals[1]?).map (·.type) = some 139 := by kernel_rfl
theorem gHT : (Tryz.prog.globals[0]?).map (·.type) = some 105 := by kernel_rfl
theorem cellsK : Tryz.prog.cellsOf 139 = 64 := by kernel_rfl
theorem cells8 : Tryz.prog.cellsOf 105 = 8 := by kernel_rfl
theorem tab_cell {W : World} {name : String} {l : List UInt32} {g : Nat} (h : Lib.TabIs Tryz.prog W name .u32 (l.map fun y => (y.toNat : Int))) (hg : Tryz.prog.globalNamed name = some g) (i : Nat) (y : UInt32) (hy : l[i]? = some y) :
    W.cell? ⟨g, i, none⟩ = some (u32v y) := by
  have hi : i < l.length := (List.getElem?_eq_some_iff.1 hy).1
  have h1 := h.cell hg i (by rw [List.length_map]; exact hi)
  rw [h1, List.getD_eq_getElem?_getD, List.getElem?_map, hy]
  rfl
theorem tab_tail {x : String × DataW Unit} {rest : List (String × DataW Unit)} {W : World} (h : laidMet Tryz.prog (x :: rest) W) : ∃ ps, DataW.LaidVars Tryz.prog W rest ps := by
  obtain ⟨ps, ⟨_, _, _, _, _, q, _, _, _, _, hq, _⟩, _⟩ := h
  exact ⟨q, hq⟩
theorem laid_eqK {H : Type} : (Rows.laid_florin_sha2_constants : DataW H) = Lib.tabData .u32 (kTab.map fun y => (y.toNat : Int)) := by kernel_rfl
theorem laid_eqH {H : Type} : (Rows.laid_florin_sha2_initials : DataW H) = Lib.tabData .u32 (hTab.map fun y => (y.toNat : Int)) := by kernel_rfl
theorem sha_ok {W : World} (h : laidMet Tryz.prog [("florin/sha2.constants", Rows.laid_florin_sha2_constants), ("florin/sha2.initials", Rows.laid_florin_sha2_initials)] W) : ShaOk W := by
  rw [laid_eqK, laid_eqH] at h
  have hK := Lib.tabIs_of_head gK gKT Tryz.underlying139 Tryz.underlying37 cellsWordJ cellsK h
  have hH : Lib.TabIs Tryz.prog W "florin/sha2.initials" .u32 (hTab.map fun y => (y.toNat : Int)) := by
    obtain ⟨qs, g', t', cs, fuel, p, q, hg', ht', hvar, hd, _, _⟩ := tab_tail h
    obtain rfl := Option.some.inj (gH.symm.trans hg')
    obtain rfl := Option.some.inj (gHT.symm.trans ht')
    unfold Lib.TabIs
    rw [hvar, ← Lib.cells_of_tab Tryz.underlying105 Tryz.underlying37 cellsWordJ cells8 hd]
  exact ⟨fun i y hy => tab_cell hK gK i y hy, fun i y hy => tab_cell hH gH i y hy⟩

def layTab (g : Nat) (cs : Array Value) (h : Array Obj) : Array Obj := h.modify g fun
  | .cells _ t frozen => .cells cs t frozen
  | o => o
/-- A world for the witness: the settled one, the two tables holding what is laid. -/
noncomputable def laidWorld (os : Os) : World :=
  { World.holding Tryz.prog os ⟨#[], #[], []⟩ with heap := layTab 0 (hTab.map u32v).toArray (layTab 1 (kTab.map u32v).toArray (World.holding Tryz.prog os ⟨#[], #[], []⟩).heap) }
theorem hda_of {r : Hd} {cs : Array Value} (ho : r.ok) (h : cs.toList = r.cells) : HdA r cs := by
  have e : cs = r.cells.toArray := by rw [← h]
  rw [e]; exact HdA.of ho
theorem hasha_of {l : List UInt8} {cs : Array Value} (hl : l.length = 32) (h : cs.toList = l.map u8v) : HashA l cs := by
  have e : cs = (l.map u8v).toArray := by rw [← h]
  rw [e]; exact HashA.of hl
theorem cellsCheckJ : Tryz.prog.cellsOf 129 = 33 := by kernel_rfl
theorem cellsIntJ : Tryz.prog.cellsOf 3 = 1 := by kernel_rfl
theorem check_openJ {H : Type} {enc : TypeId × Value → H} {w : World} {spare : Nat → Bool} {held : Bool} {fuel : Nat} {cs : List Value} {x : DataW H × List MemPlace}
    (h : DataW.trod enc Tryz.prog w 0 spare held fuel 129 cs = some x) : ∃ r : Int × List UInt8, cs = chkC r ∧ r.2.length = 32 := by
  obtain ⟨xs, n, _, _, hl, hx, F⟩ := DataW.trod_struct Tryz.underlying129 h
  rw [cellsCheckJ] at hl
  have hx' : xs.length = 2 := hx
  have g : ∀ (i : Nat) (hi : i < 2), xs[i]? = some (xs[i]'(by omega)) := fun i hi => List.getElem?_eq_getElem (by omega)
  have f0 : DataW.trod enc Tryz.prog w 0 spare held n 3 ((cs.drop 0).take (Tryz.prog.cellsOf 3)) = some _ := (F 0 _ rfl).trans (g 0 (by omega))
  have f1 : DataW.trod enc Tryz.prog w 0 spare held n 36 ((cs.drop 1).take (Tryz.prog.cellsOf 36)) = some _ := (F 1 _ rfl).trans (g 1 (by omega))
  simp only [cellsIntJ, cellsHashJ] at f0 f1
  obtain ⟨k, ek, _, _⟩ := DataW.trod_int Tryz.underlying3 f0
  obtain ⟨p, ep, hp⟩ := hash_openJ f1
  have key : ∀ (l : List Value) (i k : Nat), l.drop i = (l.drop i).take k ++ l.drop (i + k) := fun l i k => by
    have h1 := (List.take_append_drop k (l.drop i)).symm
    rwa [List.drop_drop] at h1
  refine ⟨⟨k, p⟩, ?_, hp⟩
  have e : cs = cs.drop 0 := rfl
  rw [e, key cs 0 1, ek, key cs (0 + 1) 32, ep, List.drop_eq_nil_of_le (by omega)]
  simp [chkC]
theorem checks_openJ {H : Type} {enc : TypeId × Value → H} {w : World} {spare : Nat → Bool} {held : Bool} {fuel : Nat} {cs : List Value} {x : DataW H × List MemPlace}
    (h : DataW.trod enc Tryz.prog w 0 spare held fuel 62 cs = some x) :
    ∃ (A : Option Addr) (l : List (Int × List UInt8)) (c : Nat), cs = [.slice A l.length c] ∧ Rd w A (l.flatMap chkC) ∧ ∀ y ∈ l, y.2.length = 32 := by
  obtain ⟨A, n, c, Cs, rfl, h1, h2, rfl, h3, h4⟩ := slice_open Tryz.underlying62 cellsCheckJ (by omega) h
  obtain ⟨l, rfl, hok⟩ := list_choose (f := chkC) (p := fun r => r.2.length = 32) Cs fun y hy => by
    obtain ⟨_, m, z, hz⟩ := h4 y hy
    exact check_openJ hz
  refine ⟨A, l, c, by simp, ?_, hok⟩
  rwa [← List.flatMap_def] at h3
theorem params_openJ {H : Type} {enc : TypeId × Value → H} {w : World} {spare : Nat → Bool} {held : Bool} {fuel : Nat} {cs : List Value} {x : DataW H × List MemPlace}
    (h : DataW.trod enc Tryz.prog w 0 spare held fuel 64 cs = some x) (hl : cs.length = 7) :
    ∃ (p : Par) (A : Option Addr) (c : Nat), Value.agg cs.toArray = parV p A c ∧ Rd w A (p.chks.flatMap chkC) ∧ ∀ y ∈ p.chks, y.2.length = 32 := by
  have F := fields_open Tryz.underlying64 (by kernel_rfl) h hl
  match cs, hl with
  | [c0, c1, c2, c3, c4, c5, c6], _ =>
    obtain ⟨v0, m0, y0, e0, t0⟩ := F 0 _ rfl
    obtain ⟨v1, m1, y1, e1, t1⟩ := F 1 _ rfl
    obtain ⟨v2, m2, y2, e2, t2⟩ := F 2 _ rfl
    obtain ⟨v3, m3, y3, e3, t3⟩ := F 3 _ rfl
    obtain ⟨v4, m4, y4, e4, t4⟩ := F 4 _ rfl
    obtain ⟨v5, m5, y5, e5, t5⟩ := F 5 _ rfl
    obtain ⟨v6, m6, y6, e6, t6⟩ := F 6 _ rfl
    simp only [List.getElem?_cons_zero, List.getElem?_cons_succ, Option.some.injEq] at e0 e1 e2 e3 e4 e5 e6
    subst e0 e1 e2 e3 e4 e5 e6
    obtain ⟨a, ea⟩ := word_openJ t0
    obtain ⟨k1, ek1, _, _⟩ := DataW.trod_int Tryz.underlying3 t1
    obtain ⟨k2, ek2, _, _⟩ := DataW.trod_int Tryz.underlying3 t2
    obtain ⟨k3, ek3, _, _⟩ := DataW.trod_int Tryz.underlying3 t3
    obtain ⟨k4, ek4, _, _⟩ := DataW.trod_int Tryz.underlying3 t4
    obtain ⟨k5, ek5, _, _⟩ := DataW.trod_int Tryz.underlying3 t5
    obtain ⟨A, l, c, ed, hr, ho⟩ := checks_openJ t6
    simp only [List.cons.injEq, and_true] at ea ek1 ek2 ek3 ek4 ek5 ed
    subst ea ek1 ek2 ek3 ek4 ek5 ed
    exact ⟨⟨a, k1, k2, k3, k4, k5, l⟩, A, c, rfl, hr, ho⟩
end Go.Proofs.YtjbdboekleaklaaGreatDoor
