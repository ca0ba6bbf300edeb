/- What a slot's bytes tell. -/
import Derived.Test.YtbomnldpmkedbaaDoorSnA
set_option linter.unusedSimpArgs false
set_option linter.unusedVariables false
namespace Go.Proofs.YtbomnldpmkedbaaDoor
open Go.RowKit
attribute [local go_sem ↓] Go.wp_at_zero Go.wp_at_succ

theorem or64 (k : Nat) (hk : k ≤ 24) (x y : Nat) (hx : x < 2 ^ k) (hy : y < 256) : bits .or .i64 (x : Int) ((y : Int) * ((2 ^ k : Nat) : Int)) = ((x + y * 2 ^ k : Nat) : Int) := by
  have hp : 2 ^ k ≤ 2 ^ 24 := Nat.pow_le_pow_right (by omega) hk
  have hy2 : y * 2 ^ k ≤ 255 * 2 ^ 24 := Nat.mul_le_mul (by omega) hp
  have of : ∀ x : Nat, x < 9223372036854775808 → (BitVec.ofInt 64 (x : Int)).toNat = x := fun x hx => by
    rw [BitVec.ofInt_natCast, BitVec.toNat_ofNat]; exact Nat.mod_eq_of_lt (by omega)
  rw [← Int.natCast_mul]
  show IntKind.i64.wrap ((BitVec.ofInt 64 (x : Int) ||| BitVec.ofInt 64 ((y * 2 ^ k : Nat) : Int)).toNat : Int) = _
  rw [BitVec.toNat_or, of _ (by omega), of _ (by omega)]
  have h := Nat.two_pow_add_eq_or_of_lt (i := k) (b := x) hx y
  have e2 : x ||| y * 2 ^ k = x + y * 2 ^ k := by rw [Nat.or_comm, Nat.mul_comm, ← h, Nat.mul_comm]; omega
  rw [e2, IntKind.wrap_i64]
  omega

theorem or64' (k m : Nat) (M : Int) (hk : k ≤ 24) (hm : m = 2 ^ k) (hM : M = m) (x y : Nat) (hx : x < m) (hy : y < 256) : bits .or .i64 (x : Int) ((y : Int) * M) = ((x + y * m : Nat) : Int) := by
  subst hM hm
  exact or64 k hk x y hx hy
theorem or_four (x0 x1 x2 x3 : UInt8) : bits .or .i64 (x0.toNat : Int) ((x1.toNat : Int) * 256) = ((x0.toNat + x1.toNat * 256 : Nat) : Int) ∧
    bits .or .i64 ((x0.toNat + x1.toNat * 256 : Nat) : Int) ((x2.toNat : Int) * 65536) = ((x0.toNat + x1.toNat * 256 + x2.toNat * 65536 : Nat) : Int) ∧
    bits .or .i64 ((x0.toNat + x1.toNat * 256 + x2.toNat * 65536 : Nat) : Int) ((x3.toNat : Int) * 16777216) = ((x0.toNat + x1.toNat * 256 + x2.toNat * 65536 + x3.toNat * 16777216 : Nat) : Int) := by
  have l0 := x0.toNat_lt; have l1 := x1.toNat_lt; have l2 := x2.toNat_lt; have l3 := x3.toNat_lt
  exact ⟨or64' 8 256 256 (by omega) (by decide) (by decide) _ _ (by omega) (by omega), or64' 16 65536 65536 (by omega) (by decide) (by decide) _ _ (by omega) (by omega), or64' 24 16777216 16777216 (by omega) (by decide) (by decide) _ _ (by omega) (by omega)⟩

/-- The four bytes ahead, as a number. -/
def ep4 (b : List UInt8) : Nat := (b.getD 0 0).toNat + (b.getD 1 0).toNat * 256 + (b.getD 2 0).toNat * 65536 + (b.getD 3 0).toNat * 16777216
/-- What a slot's bytes tell. -/
def takeS (b : List UInt8) : Int × Int × Bool :=
  if b.length = 64 ∧ 1 ≤ ep4 b ∧ ep4 b ≤ 2147483647 ∧ supB (ep4 b) (b.getD 4 0).toNat = b then ((ep4 b : Int), ((b.getD 4 0).toNat : Int), true) else (0, 0, false)

set_option maxRecDepth 100000 in
set_option maxHeartbeats 3000000 in
theorem takes_any (A : Option Addr) (b : List UInt8) (c : Nat) (w : World) (hr : Rd w A (b.map u8v)) (hS : ShaOk w) (hbl : b.length ≤ 1000000) :
    Calls Tryd.prog 11 #[.slice A b.length c] w fun e w' => e = .returned (.tuple #[.int .i64 (takeS b).1, .int .i64 (takeS b).2.1, .bool (takeS b).2.2]) ∧ Keep w w' := by
  have HT0 : Hid (∀ e r, ep4 b = e → (b.getD 4 0).toNat = r → (b.length ≠ 64 ∨ e < 1 ∨ 2147483647 < e ∨ supB e r ≠ b → takeS b = (0, 0, false)) ∧ (b.length = 64 → 1 ≤ e → e ≤ 2147483647 → supB e r = b → takeS b = ((e : Int), (r : Int), true))) := fun e r h1 h2 => by
    subst h1 h2
    refine ⟨fun h => if_neg (fun h2 => ?_), fun h1 h2 h3 h4 => if_pos ⟨h1, h2, h3, h4⟩⟩
    obtain ⟨a1, a2, a3, a4⟩ := h2
    rcases h with h | h | h | h
    · exact h a1
    · omega
    · omega
    · exact h a4
  have Hr := Lib.hid hr; have HS := Lib.hid hS
  clear hr hS
  by_cases hb : b.length = 64
  · obtain ⟨g, off, rfl, hg, hc⟩ := Hr.out.at (k := 0) (by simp; omega)
    have hcell : ∀ k, k < 64 → w.cell? ⟨g, off + k, none⟩ = some (u8v (b.getD k 0)) := fun k hk => by
      rw [hc k (by simp; omega)]
      simp [List.getD_eq_getElem?_getD, List.getElem?_eq_getElem (show k < b.length by omega)]
    have c0 := aft_cell (show w.cell? ⟨g, off, none⟩ = _ from hcell 0 (by omega)); have c1 := aft_cell (hcell 1 (by omega)); have c2 := aft_cell (hcell 2 (by omega)); have c3 := aft_cell (hcell 3 (by omega))
    have hc4 := hcell 4 (by omega)
    have hE : Hid (ep4 b = (b.getD 0 0).toNat + (b.getD 1 0).toNat * 256 + (b.getD 2 0).toNat * 65536 + (b.getD 3 0).toNat * 16777216) := rfl
    have hR : Hid ((b.getD 4 0).toNat = (b.getD 4 0).toNat) := rfl
    have Hb := Lib.hid hb
    generalize takeS b = T at *
    have HT : Hid (∀ r, (b.getD 4 0).toNat = r → (b.length ≠ 64 ∨ ep4 b < 1 ∨ 2147483647 < ep4 b ∨ supB (ep4 b : Nat) r ≠ b → T = (0, 0, false)) ∧ (b.length = 64 → 1 ≤ ep4 b → ep4 b ≤ 2147483647 → supB (ep4 b : Nat) r = b → T = ((ep4 b : Int), (r : Int), true))) := fun r h => HT0.out _ r rfl h
    clear HT0 hcell hc
    generalize b.getD 0 0 = x0 at *
    generalize b.getD 1 0 = x1 at *
    generalize b.getD 2 0 = x2 at *
    generalize b.getD 3 0 = x3 at *
    generalize b.getD 4 0 = x4 at *
    have l0 := x0.toNat_lt; have l1 := x1.toNat_lt; have l2 := x2.toNat_lt; have l3 := x3.toNat_lt; have l4 := x4.toNat_lt
    obtain ⟨o1, o2, o3⟩ := or_four x0 x1 x2 x3
    have HT := Lib.hid (HT.out _ rfl)
    generalize ep4 b = E at *
    rw [← hE.out] at o3
    generalize x0.toNat + x1.toNat * 256 + x2.toNat * 65536 = e2 at o2 o3
    generalize x0.toNat + x1.toNat * 256 = e1 at o1 o2
    rw [hb]
    clear hb hE
    go_enter Tryd.func11, Tryd.ntmps11
    go_upto_region 3 with fail
    refine wp_region_aft (by kernel_rfl) (by kernel_rfl) w (Below.refl _ _) ?_
    repeat (go_big_quiet_step (fail))
    refine wpQuiet_nil ?_
    rintro _ ⟨y, rfl⟩
    have j := aft_keep w y
    generalize aft w y = w1 at j ⊢
    replace hc4 := keep_cell j hc4
    have K1 := Lib.hid j
    clear c0 c1 c2 c3 o1 o2 o3 j
    by_cases e1 : E < 1
    · have HD := Lib.hid (HT.out.1 (.inr (.inl e1)))
      have e1' : (E : Int) < 1 := by omega
      clear HT e1
      go_wp2
      rw [HD.out]
      exact bodyPost_ret (v := .tuple #[.int .i64 0, .int .i64 0, .bool false]) (by simp [results, Tryd.results11]) rfl ⟨rfl, K1.out⟩
    · by_cases e2 : 2147483647 < E
      · have HD := Lib.hid (HT.out.1 (.inr (.inr (.inl e2))))
        have d1 : decide ((E : Int) < 1) = false := decide_eq_false (by omega)
        have d2 : decide ((2147483647 : Int) < (E : Int)) = true := decide_eq_true (by omega)
        clear HT e1 e2
        go_wp2
        rw [HD.out]
        exact bodyPost_ret (v := .tuple #[.int .i64 0, .int .i64 0, .bool false]) (by simp [results, Tryd.results11]) rfl ⟨rfl, K1.out⟩
      · have d1 : decide ((E : Int) < 1) = false := decide_eq_false (by omega)
        have d2 : decide ((2147483647 : Int) < (E : Int)) = false := decide_eq_false (by omega)
        have HE1 := Lib.hid e1; have HE2 := Lib.hid e2
        have S1 : ∀ W, Keep w W → Calls Tryd.prog 10 #[.int .i64 (E : Nat), .int .i64 (x4.toNat : Nat)] W fun e w' => ∃ A c, e = .returned (.slice A 64 c) ∧ w'.ownsRow W.heap.size 5 1 (.slice A 64 c) 64 ((supB (E : Nat) (x4.toNat : Nat)).map u8v) ∧ Keep W w' := fun W hW => super_any _ _ W (HS.out.keep hW)
        have HTT := HT.out
        have hSl : Hid ((supB (E : Nat) (x4.toNat : Nat)).length = 64) := supB_len _ _
        generalize supB (E : Nat) (x4.toNat : Nat) = SB at *
        have HS1 := Lib.hid S1; have HT2 := Lib.hid HTT
        clear S1 HTT HT e1 e2
        go_wp2_with fail
        refine (HS1.out w1 K1.out).mono ?_
        rintro e w2 ⟨A2, c2, rfl, own2, k2⟩
        have Hr2 := Lib.hid (own_rd own2); have K2 := Lib.hid (keep_trans K1.out k2)
        clear own2 k2 hc4
        go_wp2_with fail
        refine (equal_any (some ⟨g, off, none⟩) b 64 c A2 SB 64 c2 w2 (Hr.out.keep K2.out) Hr2.out Hb.out.symm hSl.out.symm).mono ?_
        rintro e w3 ⟨rfl, rfl⟩
        by_cases heq : b = SB
        · have HD := Lib.hid (HT2.out.2 Hb.out (by have := HE1.out; omega) (by have := HE2.out; omega) heq.symm)
          have hdt : decide (b = SB) = true := decide_eq_true heq
          clear heq HT2
          go_wp2
          rw [HD.out]
          exact bodyPost_ret (v := .tuple #[.int .i64 (E : Nat), .int .i64 (x4.toNat : Nat), .bool true]) (by simp [results, Tryd.results11]) rfl ⟨rfl, K2.out⟩
        · have HD := Lib.hid (HT2.out.1 (.inr (.inr (.inr (fun e => heq e.symm)))))
          have hdt : decide (b = SB) = false := decide_eq_false heq
          clear heq HT2
          go_wp2
          rw [HD.out]
          exact bodyPost_ret (v := .tuple #[.int .i64 0, .int .i64 0, .bool false]) (by simp [results, Tryd.results11]) rfl ⟨rfl, K2.out⟩
  · have HD : Hid (takeS b = (0, 0, false)) := if_neg (fun h => hb h.1)
    have t1 : ((b.length : Int) != 64) = true := by simp; omega
    generalize takeS b = T at *
    clear hb HT0
    go_enter Tryd.func11, Tryd.ntmps11
    go_wp2
    rw [HD.out]
    exact bodyPost_ret (v := .tuple #[.int .i64 0, .int .i64 0, .bool false]) (by simp [results, Tryd.results11]) rfl ⟨rfl, Below.refl _ _⟩
end Go.Proofs.YtbomnldpmkedbaaDoor
