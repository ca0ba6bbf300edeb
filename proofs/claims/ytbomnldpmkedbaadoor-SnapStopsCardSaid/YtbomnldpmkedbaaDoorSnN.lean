/- A slot that checks by its own sum, and was not written so. -/
import Derived.Test.YtbomnldpmkedbaaDoorSnM
set_option linter.unusedSimpArgs false
set_option linter.unusedVariables false
namespace Go.Proofs.YtbomnldpmkedbaaDoor
open Go.RowKit
attribute [local go_sem ↓] Go.wp_at_zero Go.wp_at_succ

theorem supB_sum (e r : Int) : dblL ((supB e r).take 32) = (supB e r).drop 32 := by
  unfold supB
  rw [List.take_left' (supHead_len e r), List.drop_left' (supHead_len e r)]
theorem takeS_sum {x : List UInt8} (h : (takeS x).2.2 = true) : x.length = 64 ∧ dblL (x.take 32) = x.drop 32 := by
  obtain ⟨h1, h2, _⟩ := takeS_ok h
  have h3 := supB_sum (takeS x).1 (takeS x).2.1
  rw [h2] at h3
  exact ⟨h1, h3⟩

set_option maxRecDepth 100000 in
set_option maxHeartbeats 600000 in
theorem checks_yes (A : Option Addr) (C : List UInt8) (c : Nat) (k : Nat) (hk : k ≤ 1) (Aw : Option Addr) (want : List UInt8) (cw : Nat) (w : World) (h : DOk w A C c none [] 0) (hs : saneP C.length [] = true) (h128 : 128 ≤ C.length) (hS : ShaOk w) (hwl : want.length = 64) (hW : Rd w Aw (want.map u8v))
    (h1 : (takeS (slotB C k)).2.2 = true) (h2 : slotB C k ≠ want) :
    Calls Tryd.prog 27 #[DV A C.length c none 0 0, .int .i64 k, .slice Aw 64 cw] w fun e w' => e = .returned (.bool true) ∧ Keep w w' := by
  have B1 : Hid (∀ w', Keep w w' → Calls Tryd.prog 23 #[DV A C.length c none 0 0] w' fun e w'' => ∃ v, e = .returned v ∧ w''.ownsRow w'.heap.size 5 1 v C.length (C.map u8v) ∧ Keep w' w'') := fun w' hk => by
    have h1 := bytes_any A C c none [] 0 w' (h.keep hk)
    rw [bytesD_Q, List.map_nil, bytesQ_nil hs] at h1
    exact h1
  have HS := Lib.hid hS; have HW := Lib.hid hW; have Hwl := Lib.hid hwl
  have hsum := takeS_sum h1
  obtain ⟨hl64, hsum⟩ := hsum
  have HX : Hid (slotB C k = (C.drop (64 * k)).take 64) := rfl
  have Hn := Lib.hid h2
  have HT : Hid (∀ T, takeS (slotB C k) = T → T.2.2 = true) := fun T e => by subst e; exact h1
  have HT := Lib.hid (HT.out _ rfl)
  have T1 : Hid (∀ (A : Option Addr) c W, Keep w W → Rd W A ((slotB C k).map u8v) → Calls Tryd.prog 11 #[.slice A 64 c] W fun e w' => e = .returned (.tuple #[.int .i64 (takeS (slotB C k)).1, .int .i64 (takeS (slotB C k)).2.1, .bool (takeS (slotB C k)).2.2]) ∧ Keep W w') := fun A c W hW hR => by
    have h1 := takes_any A (slotB C k) c W hR (HS.out.keep hW) (by omega)
    rw [hl64] at h1; exact h1
  have H64 := Lib.hid hl64
  have Hhl : Hid ((dblL ((slotB C k).take 32)).length = 32) := dblL_len _
  have hlC : C.length ≤ 131072 := by have := ((saneP_iff _ _).1 hs).1; omega
  have Hsum := Lib.hid hsum
  clear h hs hS hW hwl hsum hl64 h1 h2
  obtain ⟨ds, hds⟩ : ∃ ds, HashA (dblL ((slotB C k).take 32)) ds := ⟨_, HashA.of (dblL_len _)⟩
  have D1 : Hid (∀ (A : Option Addr) c W, Keep w W → Rd W A (((slotB C k).take 32).map u8v) → 32 ≤ c → c ≤ maxLen → Calls Tryd.prog 28 #[.slice A 32 c] W fun e w' => e = .returned (.agg ds) ∧ Keep W w') := fun A c W hW hR hc hm => by
    have hl : ((slotB C k).take 32).length = 32 := by rw [List.length_take, H64.out]; rfl
    have h := double_any A ((slotB C k).take 32) c W (HS.out.keep hW) hR (by omega) hm (by omega)
    rw [hl] at h
    exact h.mono fun e w'' ⟨h1, h2⟩ => ⟨by rw [h1, ← hds.e], h2⟩
  have hdz := hds.z; have hdn := hds.n; have hdi := hds.i
  have Hds := Lib.hid hds
  clear hds
  generalize takeS (slotB C k) = T at *
  generalize dblL ((slotB C k).take 32) = D at *
  generalize slotB C k = X at *
  obtain ⟨te, tr, tb⟩ := T
  obtain rfl : tb = true := HT.out
  obtain ⟨zs, hz1, hz2, hz3, hz4⟩ := zhash_letter
  clear hz4 HT
  have hCl : (C.length : Int) ≤ 131072 := by omega
  go_enter Tryd.func27, Tryd.ntmps27
  go_wp2_with fail
  refine (B1.out _ (keep_new _ _)).mono ?_
  clear B1
  rintro e w1 ⟨v1, rfl, own1, k1⟩
  obtain ⟨A1, c1, rfl, hc1, hm1, hr1⟩ := own_form own1
  obtain ⟨g, off, rfl, hg, _⟩ := hr1.at (k := 0) (by simp; omega)
  have Hr1 := Lib.hid hr1
  have HK1 := Lib.hid (keep_trans (keep_new w _) k1)
  unfold maxLen at hm1
  clear own1 hr1 k1
  have hR : Hid (Rd w1 (some ⟨g, off + 64 * k, none⟩) (X.map u8v)) := by
    have h := Hr1.out.sub (64 * k) 64 (by rw [List.length_map]; omega)
    rw [← List.map_drop, ← List.map_take, ← HX.out] at h
    exact h
  have hR32 : Hid (Rd w1 (some ⟨g, off + 64 * k, none⟩) ((X.take 32).map u8v)) := by
    have h := hR.out.take 32
    rw [← List.map_take] at h; exact h
  have D2 : Calls Tryd.prog 28 #[.slice (some ⟨g, off + 64 * k, none⟩) 32 (c1 - 64 * k)] w1 fun e w' => e = .returned (.agg ds) ∧ Keep w1 w' := D1.out _ _ _ HK1.out hR32.out (by omega) (by unfold maxLen; omega)
  have h3 : (128 : Int) ≤ (C.length : Int) := by omega
  clear HX
  go_upto_region 5 with fail
  go_wp2_with fail
  refine D2.mono ?_
  clear D2 D1
  rintro e w2 ⟨rfl, k2⟩
  have hst : (storeCells ⟨w2.heap.size, 0, none⟩ ds.toList 0).run Tryd.prog (w2.alloc (.cells zs 34)) = .ok () (w2.alloc (.cells ds 34)) := run_storeCells_new (P := Tryd.prog) w2 34 zs ds hdi (hz1.trans hdz.symm) (by have := all_oneCell_toArray Hds.out.o; rwa [Array.toArray_toList] at this)
  have K2 := Lib.hid k2
  clear k2
  go_upto_region 6 with fail
  clear hst
  obtain ⟨w3, hw3⟩ : ∃ w3, w3 = w2.alloc (.cells ds 34) := ⟨_, rfl⟩
  have HS3 : Hid (Blk w3 w2.heap.size 34 (D.map u8v)) := by rw [hw3, ← Hds.out.l]; exact Blk.new w2 _ ds.toList
  have k3 : Keep w2 w3 := by rw [hw3]; exact keep_new _ _
  rw [← hw3]
  clear hw3
  have K3 := Lib.hid (keep_trans K2.out k3); have KK3 := Lib.hid (keep_trans HK1.out K3.out)
  generalize w2.heap.size = S at *
  have T2 : Calls Tryd.prog 11 #[.slice (some ⟨g, off + 64 * k, none⟩) 64 (c1 - 64 * k)] w3 fun e w' => e = .returned (.tuple #[.int .i64 te, .int .i64 tr, .bool true]) ∧ Keep w3 w' := by
    exact T1.out _ _ _ KK3.out (hR.out.keep K3.out)
  clear k3 T1
  go_wp2_with fail
  (with_reducible refine T2.mono ?_)
  clear T2
  rintro e w4 ⟨rfl, k4⟩
  have K4 := Lib.hid (keep_trans K3.out k4); have HS4 := Lib.hid (HS3.out.keep k4); have KK4 := Lib.hid (keep_trans KK3.out k4)
  clear k4
  go_upto_region 7 with fail
  have v1 : ∀ y, (convert 24 9 (.slice (some ⟨S, 0, none⟩) 32 32)).run Tryd.prog (aft w4 y) = .ok (.string (str D)) (aft w4 y) := fun y => bytes_str 32 32 Hhl.out.symm (HS4.out.rd.keep (aft_keep _ _))
  have v2 : ∀ y, (convert 24 9 (.slice (some ⟨g, off + 64 * k + 32, none⟩) 32 (c1 - 64 * k - 32))).run Tryd.prog (aft w4 y) = .ok (.string (str D)) (aft w4 y) := fun y => by
    have h1 := (hR.out.keep (keep_trans K4.out (aft_keep w4 y))).sub 32 32 (by rw [List.length_map, H64.out]; omega)
    rw [← List.map_drop, ← List.map_take, ← Hsum.out, List.take_of_length_le (by rw [Hhl.out]; omega)] at h1
    exact bytes_str _ _ (by rw [Hhl.out]) h1
  have v3 : ∀ y, (convert 24 9 (.slice (some ⟨g, off + 64 * k, none⟩) 64 (c1 - 64 * k))).run Tryd.prog (aft w4 y) = .ok (.string (str X)) (aft w4 y) := fun y =>
    bytes_str _ _ (by rw [H64.out]) (hR.out.keep (keep_trans K4.out (aft_keep w4 y)))
  have v4 : ∀ y, (convert 24 9 (.slice Aw 64 cw)).run Tryd.prog (aft w4 y) = .ok (.string (str want)) (aft w4 y) := fun y =>
    bytes_str _ _ Hwl.out.symm (HW.out.keep (keep_trans KK4.out (aft_keep w4 y)))
  have g2 : (X != want) = true := bne_iff_ne.mpr Hn.out
  have g1 : (D == D) = true := by simp
  refine wp_region_aft (by kernel_rfl) (by kernel_rfl) w4 (Below.refl _ _) ?_
  repeat (go_big_quiet_step (fail))
  refine wpQuiet_nil ?_
  rintro _ ⟨z, rfl⟩
  have k7 := aft_keep w4 z
  generalize aft w4 z = w7 at k7 ⊢
  clear v1 v2 v3 v4
  go_wp2
  exact bodyPost_ret (v := .bool true) (by simp [results, Tryd.results27, Hn.out]) rfl ⟨rfl, keep_trans KK4.out k7⟩
end Go.Proofs.YtbomnldpmkedbaaDoor
