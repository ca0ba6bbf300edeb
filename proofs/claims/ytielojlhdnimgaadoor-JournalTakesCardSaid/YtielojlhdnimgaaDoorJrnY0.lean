/- Each record hangs on the one ahead: what the calls answer. -/
import Derived.Test.YtielojlhdnimgaaDoorJrnV
set_option linter.unusedSimpArgs false
set_option linter.unusedVariables false
namespace Go.Proofs.YtielojlhdnimgaaDoor
open Go.RowKit

theorem two_recs {bs : List UInt8} {h g : Hd} (hl : bs.length = 256) (hr : recsAt 0 bs 0 z32 [h, g]) {X Y L1 : List UInt8} (hX : recB z32 ((0 : Nat) : Int) h = X) (hL : recSum z32 ((0 : Nat) : Int) h = L1) (hY : recB L1 ((1 : Nat) : Int) g = Y) : bs = X ++ Y := by
  obtain ⟨⟨_, h2, _⟩, ⟨_, h4, _⟩, _⟩ := hr
  rw [hX] at h2
  rw [hL, show (0 + 1 : Nat) = 1 from rfl, hY] at h4
  rw [← h2, ← h4]
  unfold seg
  rw [show (0 + 4 * 0) * 32 = 0 from rfl, show (0 + 4 * (0 + 1)) * 32 = 128 from rfl, List.drop_zero, List.take_of_length_le (l := bs.drop 128) (by rw [List.length_drop]; omega), List.take_append_drop]
/-- Two more behind what there is. -/
theorem app2_w (A2 : Option Addr) (B : List UInt8) (c2 : Nat) (base room : Int) (hs : List Hd) (h g : Hd) (cs hv gv : Array Value) (w3 : World) (hb : -9223372036854775808 ≤ base ∧ base ≤ 9223372036854775807) (hi : LogInv B [] base room hs)
    (hls : LogA (lgCells (.slice A2 B.length c2) (.slice none 0 0) base room (hs.length : Nat) (lastL 0 z32 hs)) cs) (hk : h.ok) (hhv : HdA h hv) (gk : g.ok) (hgv : HdA g gv) (hz : (appendD B base room hs.length (lastL 0 z32 hs) h []).1 = 0)
    (hz2 : ∀ ps, saneP B.length ps = true → ps.length = 4 → (appendD B base room (hs ++ [h]).length (lastL 0 z32 (hs ++ [h])) g ps).1 = 0)
    (hd2 : ∀ W, Keep w3 W → DOk W A2 B c2 none [] 0) (hS : ShaOk w3) {Z : List UInt8} (hZ : ∀ bs, bs.length = B.length → recsAt base.toNat bs 0 z32 (hs ++ [h] ++ [g]) → bs = Z) : Calls Tryd.prog 12 #[.agg cs, .agg hv] w3 fun e w' => ∃ A4 c4 PA4 n4 pc4 ds, e = .returned (.tuple #[.agg ds, .int .i64 0]) ∧
      LogA (lgCells (.slice A4 B.length c4) (.slice PA4 n4 pc4) base room ((hs ++ [h]).length : Nat) (lastL 0 z32 (hs ++ [h]))) ds ∧ Keep w3 w' ∧
      (∀ W, Keep w' W → Calls Tryd.prog 12 #[.agg ds, .agg gv] W fun e w'' => ∃ A5 c5 PA5 n5 pc5 es, e = .returned (.tuple #[.agg es, .int .i64 0]) ∧
        LogA (lgCells (.slice A5 B.length c5) (.slice PA5 n5 pc5) base room ((hs ++ [h] ++ [g]).length : Nat) (lastL 0 z32 (hs ++ [h] ++ [g]))) es ∧ Keep W w'' ∧
        (∀ V, Keep w'' V → Calls Tryd.prog 23 #[DV A5 B.length c5 PA5 n5 pc5] V fun e v' => ∃ A6 c6, e = .returned (.slice A6 Z.length c6) ∧ Rd v' A6 (Z.map u8v) ∧ Z.length ≤ c6 ∧ c6 ≤ maxLen ∧ Keep V v')) := by
  have hc := app_w A2 B c2 none [] 0 base room hs cs h hv w3 (fun W => Keep w3 W) (fun W hW => hW) hd2 hS hb hi hls hk hhv
  refine hc.mono ?_
  rintro e w4 ⟨A4, c4, PA4, pc4, vs, ds, er, rfl, her, hd4, k4, h0, h1⟩
  have her0 : er = 0 := her.trans hz
  subst her0
  obtain ⟨hds, hi4, hap⟩ := h0 rfl
  have hd : ∀ W, Keep w4 W → DOk W A4 B c4 PA4 vs pc4 := fun W hW => hd4 W ⟨keep_trans k4 hW, fun k _ h2 => hW.block k h2⟩
  have hvl : (vs.map WriteR.pl).length = 4 := by
    have h5 := hap.eq
    rw [show ([] : List WriteR).map WriteR.pl = [] from rfl, List.nil_append] at h5
    rw [h5]; simp [layWs]
  refine ⟨A4, c4, PA4, vs.length, pc4, ds, rfl, hds, k4, fun W hW => ?_⟩
  have hc2 := app_w A4 B c4 PA4 vs pc4 base room (hs ++ [h]) ds g gv W (fun V => Keep W V) (fun V hV => hV) (fun V hV => hd V (keep_trans hW hV)) (hS.keep (keep_trans k4 hW)) hb hi4 hds gk hgv
  refine hc2.mono ?_
  rintro e w5 ⟨A5, c5, PA5, pc5, us, es, er, rfl, her, hd5, k5, h0, h1⟩
  have her0 : er = 0 := her.trans (hz2 _ hap.san hvl)
  subst her0
  obtain ⟨hes, hi5, hap5⟩ := h0 rfl
  have hd' : ∀ V, Keep w5 V → DOk V A5 B c5 PA5 us pc5 := fun V hV => hd5 V ⟨keep_trans k5 hV, fun k _ h2 => hV.block k h2⟩
  refine ⟨A5, c5, PA5, us.length, pc5, es, rfl, hes, k5, fun V hV => ?_⟩
  refine (bytes_any A5 B c5 PA5 us pc5 V (hd' V hV)).mono ?_
  rintro e v' ⟨v, rfl, own, hk'⟩
  have hZ' : bytesD B us = Z := by
    rw [bytesD_Q]
    exact hZ _ (bytesQ_len B _ hap5.san) hi5.fnd.recs
  rw [hZ'] at own
  obtain ⟨A6, c6, rfl, hc6, hm6, hr6⟩ := own_form own
  exact ⟨A6, c6, rfl, hr6, hc6, hm6, hk'⟩

theorem recB_tail (last : List UInt8) (s t : Int) {h : Hd} (hk : h.ok) : ((recB last s h).drop 4).take 92 = ((recB last t h).drop 4).take 92 := by
  have e : ∀ s, ((recB last s h).drop 4).take 92 = hputL h ++ List.replicate 12 0 := fun s => by
    unfold recB recHead
    rw [List.append_assoc, List.drop_left' (show (le4 (seqN s)).length = 4 from rfl), List.take_left' (by rw [List.length_append, hputL_len hk, List.length_replicate])]
  rw [e s, e t]
theorem recB_sum (last : List UInt8) (s : Int) {h : Hd} (hk : h.ok) : (recB last s h).drop 96 = recSum last s h := by
  unfold recB; rw [List.drop_left' (recHead_len s hk)]
theorem recB_head_ne (last : List UInt8) (k : Nat) (hk : k < 100000) (h : Hd) : (recB last k h).take 4 ≠ (recB last ((k : Int) + 1) h).take 4 := by
  rw [recB_first, recB_first]
  intro e
  have h1 := congrArg UInt32.toNat (le4_inj e)
  have h2 := seqN_nat (k := k + 1) (by omega)
  rw [show (((k + 1 : Nat) : Int)) = (k : Int) + 1 from by omega] at h2
  rw [seqN_nat (by omega), h2] at h1
  omega

def lasB : List UInt8 := List.replicate 256 0
theorem lasB_len : lasB.length = 256 := by kernel_rfl
theorem lasB_sane : saneP lasB.length [] = true := by kernel_rfl
theorem lasB_found : Found 0 2 (bytesQ lasB []) [] := by
  rw [bytesQ_nil lasB_sane]
  exact found_of (by omega) (by rw [lasB_len]; decide) trivial (Nat.zero_le _) (nx_zero fun _ _ => by kernel_rfl)
theorem las_app {B : List UInt8} (hB : B.length = 256) (last : List UInt8) (h : Hd) (N : Nat) (hN : N ≤ 1) (ps : List WP) (hs : saneP B.length ps = true) (hp : ps.length ≤ 4) : (appendD B 0 2 N last h ps).1 = 0 := by
  unfold appendD
  have h2 : roomN 2 = 2 := by decide
  rw [if_neg (by rw [h2]; omega), if_pos]
  unfold appOk
  rw [hs, hB, Bool.true_and]
  exact decide_eq_true ⟨by unfold wrap64; omega, by unfold wrap64; omega, by omega⟩

/-- A row of a record's bytes. -/
def RowP (X : List UInt8) (W : World) (e : Ending) (w' : World) : Prop := ∃ A c, e = .returned (.slice A 128 c) ∧ Rd w' A (X.map u8v) ∧ 128 ≤ c ∧ c ≤ maxLen ∧ Keep W w'
theorem row_rec (last : List UInt8) (ls : Array Value) (seq : Int) (h : Hd) (hs : Array Value) (w : World) (hls : HashA last ls) (hll : last.length = 32) (hk : h.ok) (hhs : HdA h hs) (hS : ShaOk w) {X : List UInt8} (hX : recB last seq h = X) :
    Calls Tryd.prog 19 #[.agg ls, .int .i64 seq, .agg hs] w (RowP X w) :=
  (rec_any last ls seq h hs w hls hll hk hhs hS).mono fun e w' ⟨A, c, h1, h2, h3⟩ => by
    rw [hX] at h2
    obtain ⟨A', c', e1, hc, hm, hr⟩ := own_form h2
    injection e1 with e1 _ e2
    subst e1 e2
    exact ⟨A, c, h1, hr, hc, hm, h3⟩
theorem last_calls (A2 : Option Addr) (B : List UInt8) (c2 : Nat) (h g : Hd) (cs hv gv : Array Value) (w3 : World) (hB : B.length = 256) (hsn : saneP B.length [] = true) (hi : LogInv B [] 0 2 [])
    (hls : LogA (lgCells (.slice A2 B.length c2) (.slice none 0 0) 0 2 (([] : List Hd).length : Nat) (lastL 0 z32 [])) cs) (hk : h.ok) (hhv : HdA h hv) (gk : g.ok) (hgv : HdA g gv)
    (hd2 : ∀ W, Keep w3 W → DOk W A2 B c2 none [] 0) (hS : ShaOk w3) : ∃ L1 L2 X Y : List UInt8, L1.length = 32 ∧ L2.length = 32 ∧ X.length = 128 ∧ Y.length = 128 ∧ X.drop 96 = L1 ∧ Y.drop 96 = L2 ∧
      (∀ W sz, ShaOk W → HashA z32 sz → Calls Tryd.prog 19 #[.agg sz, .int .i64 0, .agg hv] W (RowP X W)) ∧
      (∀ W lv, ShaOk W → HashA L1 lv → Calls Tryd.prog 19 #[.agg lv, .int .i64 1, .agg gv] W (RowP Y W)) ∧
      (∀ k : Nat, k < 100000 → ∃ R S : List UInt8, R.length = 128 ∧ S.length = 128 ∧ (R.drop 4).take 92 = (S.drop 4).take 92 ∧ R.take 4 ≠ S.take 4 ∧
        (∀ W lv, ShaOk W → HashA L1 lv → Calls Tryd.prog 19 #[.agg lv, .int .i64 k, .agg hv] W (RowP R W)) ∧ (∀ W lv, ShaOk W → HashA L1 lv → Calls Tryd.prog 19 #[.agg lv, .int .i64 ((k : Int) + 1), .agg hv] W (RowP S W))) ∧
      Calls Tryd.prog 12 #[.agg cs, .agg hv] w3 fun e w' => ∃ A4 c4 PA4 n4 pc4 ds, e = .returned (.tuple #[.agg ds, .int .i64 0]) ∧
      LogA (lgCells (.slice A4 B.length c4) (.slice PA4 n4 pc4) 0 2 1 L1) ds ∧ Keep w3 w' ∧
      (∀ W, Keep w' W → Calls Tryd.prog 12 #[.agg ds, .agg gv] W fun e w'' => ∃ A5 c5 PA5 n5 pc5 es, e = .returned (.tuple #[.agg es, .int .i64 0]) ∧
        LogA (lgCells (.slice A5 B.length c5) (.slice PA5 n5 pc5) 0 2 2 L2) es ∧ Keep W w'' ∧
        (∀ V, Keep w'' V → Calls Tryd.prog 23 #[DV A5 B.length c5 PA5 n5 pc5] V fun e v' => ∃ A6 c6, e = .returned (.slice A6 (X ++ Y).length c6) ∧ Rd v' A6 ((X ++ Y).map u8v) ∧ (X ++ Y).length ≤ c6 ∧ c6 ≤ maxLen ∧ Keep V v')) := by
  obtain ⟨L1, hL1⟩ : ∃ L, lastL 0 z32 ([] ++ [h]) = L := ⟨_, rfl⟩
  obtain ⟨L2, hL2⟩ : ∃ L, lastL 0 z32 ([] ++ [h] ++ [g]) = L := ⟨_, rfl⟩
  obtain ⟨X, hX⟩ : ∃ X, recB z32 ((0 : Nat) : Int) h = X := ⟨_, rfl⟩
  obtain ⟨Y, hY⟩ : ∃ Y, recB L1 ((1 : Nat) : Int) g = Y := ⟨_, rfl⟩
  have e1 : recSum z32 ((0 : Nat) : Int) h = L1 := by rw [← hL1, lastL_snoc]; rfl
  have e2 : recSum L1 ((1 : Nat) : Int) g = L2 := by rw [← hL2, lastL_snoc, hL1]; rfl
  have hl1 : L1.length = 32 := by rw [← hL1]; exact lastL_len _ _ _ rfl
  have hl2 : L2.length = 32 := by rw [← hL2]; exact lastL_len _ _ _ rfl
  have hc := app2_w A2 B c2 0 2 [] h g cs hv gv w3 (by omega) hi hls hk hhv gk hgv (las_app hB _ h 0 (by omega) [] hsn (by simp)) (fun ps hp1 hp2 => las_app hB _ g 1 (by omega) ps hp1 (by omega)) hd2 hS (Z := X ++ Y) (fun bs hb1 hb2 => two_recs (by rw [hb1, hB]) hb2 hX e1 hY)
  rw [hL1, hL2] at hc
  refine ⟨L1, L2, X, Y, hl1, hl2, by rw [← hX]; exact recB_len _ _ hk, by rw [← hY]; exact recB_len _ _ gk, by rw [← hX, recB_sum _ _ hk]; exact e1, by rw [← hY, recB_sum _ _ gk]; exact e2,
    fun W sz hW hsz => row_rec z32 sz ((0 : Nat) : Int) h hv W hsz rfl hk hhv hW hX, fun W lv hW hlv => row_rec L1 lv ((1 : Nat) : Int) g gv W hlv hl1 gk hgv hW hY,
    fun k hk' => ⟨recB L1 k h, recB L1 ((k : Int) + 1) h, recB_len _ _ hk, recB_len _ _ hk, recB_tail _ _ _ hk, recB_head_ne _ k hk' h, fun W lv hW hlv => row_rec L1 lv k h hv W hlv hl1 hk hhv hW rfl, fun W lv hW hlv => row_rec L1 lv ((k : Int) + 1) h hv W hlv hl1 hk hhv hW rfl⟩, hc⟩
end Go.Proofs.YtielojlhdnimgaaDoor
