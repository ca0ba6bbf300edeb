/- Does a record check by its own bytes? -/
import Derived.Test.YtielojlhdnimgaaDoorJrnW0
set_option linter.unusedSimpArgs false
set_option linter.unusedVariables false
namespace Go.Proofs.YtielojlhdnimgaaDoor
open Go.RowKit
attribute [local go_sem ↓] Go.wp_at_zero Go.wp_at_succ

set_option maxRecDepth 100000 in
set_option maxHeartbeats 4000000 in
theorem odd_any (A : Option Addr) (cb : List UInt8) (c : Nat) (base room : Int) (n : Nat) (Ah : Option Addr) (hs : List Hd) (ch : Nat) (w : World) (h : DOk w A cb c none [] 0) (hS : ShaOk w) (hsn : saneP cb.length [] = true) (hF : Found base room cb hs) (hn : n < hs.length) :
    Calls Tryd.prog 26 #[DV A cb.length c none 0 0, .int .i64 base, .int .i64 n, .slice Ah hs.length ch] w fun e w' => e = .returned (.bool true) ∧ Keep w w' := by
  have hb0 : ¬ (base < 0 ∨ ((cb.length / 32 : Nat) : Int) < base) := fun e => by rw [hF.none e] at hn; simp at hn
  obtain ⟨bn, rfl⟩ : ∃ bn : Nat, base = bn := ⟨base.toNat, by omega⟩
  have hsz := ((saneP_iff _ _).1 hsn).1
  have hfit := hF.fit
  have hrm : roomN room ≤ 1024 := by unfold roomN; omega
  obtain ⟨at_, hat⟩ : ∃ a, a = 32 * bn + 128 * n := ⟨_, rfl⟩
  obtain ⟨r1, r2, r3⟩ := rec_sum (at_ := at_) hF.recs hn (by rw [Int.toNat_natCast]; exact hat)
  have hcl : cb.length ≤ 131072 := by omega
  have hhl : hs.length ≤ 1024 := by omega
  have hbn : bn ≤ 4096 := by omega
  have B1 : Hid (∀ w', Keep w w' → Calls Tryd.prog 23 #[DV A cb.length c none 0 0] w' fun e w'' => ∃ v, e = .returned v ∧ w''.ownsRow w'.heap.size 5 1 v cb.length (cb.map u8v) ∧ Keep w' w'') := fun w' hk => by
    have h1 := bytes_any A cb c none [] 0 w' (h.keep hk)
    rw [bytesD_Q, show ([] : List WriteR).map WriteR.pl = [] from rfl, bytesQ_nil hsn] at h1
    exact h1
  obtain ⟨sz, hSZ, szz⟩ := zhash_A
  have szs := hSZ.z; have szn := hSZ.n; have szi := hSZ.i
  have hn0 : n ≠ 0 → 32 ≤ at_ := fun _ => by omega
  obtain ⟨L, D, hLa, hLb, hLl, hDe, hDl, hLs⟩ := odd_law r1 hn0 r2 r3
  have h96 : ((cb.drop at_).take 96).length = 96 := by rw [List.length_take, List.length_drop]; omega
  obtain ⟨T96, hT96⟩ : ∃ T, T = (cb.drop at_).take 96 := ⟨_, rfl⟩
  rw [← hT96] at h96 hLs
  have D1 : Hid (∀ w' A' c', Keep w w' → Rd w' A' ((L ++ T96).map u8v) → 128 ≤ c' → c' ≤ maxLen → Calls Tryd.prog 43 #[.slice A' 128 c'] w' fun e w'' => ∃ ds, e = .returned (.agg ds) ∧ HashA D ds ∧ Keep w' w'') := fun w' A' c' hk hr hc hm => by
    have hl : (L ++ T96).length = 128 := by rw [List.length_append, hLl, h96]
    have h1 := double_any A' (L ++ T96) c' w' (hS.keep hk) hr (by omega) hm (by omega)
    rw [hl, hLs] at h1
    exact h1.mono fun e w'' ⟨q1, q2⟩ => ⟨(D.map u8v).toArray, q1, HashA.of hDl, q2⟩
  have HT96 := Lib.hid hT96
  have HLa := Lib.hid hLa; have HLb := Lib.hid hLb; have HLl := Lib.hid hLl; have HDe := Lib.hid hDe; have HDl := Lib.hid hDl; have H96 := Lib.hid h96
  have HSZ := Lib.hid hSZ; have Hat := Lib.hid hat
  have hati : (32 : Int) * (bn : Int) + 128 * (n : Int) = (at_ : Int) := by omega
  clear hLa hLb hLl hDe hDl hLs h96 hT96 hSZ r2 r3 h hS hF hfit hrm hsz hb0 hat
  go_enter Tryd.func26, Tryd.ntmps26
  go_upto_region 1 with fail
  obtain ⟨w1, hw1⟩ : ∃ w1, w1 = w.alloc (.cells #[.slice A cb.length c, .slice none 0 0] 31) := ⟨_, rfl⟩
  have HD1 : Blk w1 w.heap.size 31 [.slice A cb.length c, .slice none 0 0] := by rw [hw1]; exact Blk.new w _ [.slice A cb.length c, .slice none 0 0]
  have HK1 : Hid (Keep w w1) := by rw [hw1]; exact keep_new _ _
  rw [← hw1]
  clear hw1
  have d0 := HD1.cell 0; have d1 := HD1.cell 1
  simp only [List.getElem?_cons_zero, List.getElem?_cons_succ] at d0 d1
  clear HD1
  go_wp2_with fail
  refine (B1.out w1 HK1.out).mono ?_
  rintro e w2 ⟨v2, rfl, own2, k2⟩
  obtain ⟨A2, c2, rfl, hc2, hm2, hr2⟩ := own_form own2
  have HK2 := Lib.hid (keep_trans HK1.out k2)
  obtain ⟨g, off, rfl, hg, -⟩ := hr2.at (k := 0) (by rw [List.length_map]; omega)
  have Hr2 := Lib.hid hr2
  unfold maxLen at hm2
  clear own2 k2 hr2 d0 d1 B1
  go_upto_region 3 with fail
  clear hati
  have g1 : ¬ (cb.length : Int) < (at_ : Int) + 128 := by omega
  have g2 : ¬ (hs.length : Int) < (n : Int) := by omega
  have g3 : ¬ (at_ : Int) < 0 := by omega
  have hm2' : c2 ≤ 9223372036854775807 := by omega
  clear hm2
  clear hsn
  have R1 := Lib.hid r1; have Hn0 := Lib.hid hn0; have Hc2 := Lib.hid hc2; have Hn := Lib.hid hn
  clear r1 hn0 hn
  go_upto_if 36 with fail
  clear g1 g2 g3
  have hr1 := R1.out
  go_cut [11] (fun v wx => ∃ A3 c3, v = .slice A3 32 c3 ∧ 32 ≤ c3 ∧ c3 ≤ 9223372036854775807 ∧ Hid (wx.ownsRow w2.heap.size 5 1 (.slice A3 32 c3) 32 (L.map u8v)) ∧ Hid (Keep w2 wx))
  case first =>
    by_cases h0 : n = 0
    · have hLa := HLa.out h0
      subst h0
      obtain ⟨vz, wz, hrun, ownz, kz⟩ := run_zeros32 w2
      obtain ⟨Az, cz, rfl, hcz, hmz, _⟩ := own_form ownz
      have Ownz : Hid (wz.ownsRow w2.heap.size 5 1 (.slice Az 32 cz) 32 (L.map u8v)) := by rw [hLa]; exact ownz
      have Kz := Lib.hid kz
      have Hrun := Lib.hid hrun
      clear ownz kz hLa hrun
      unfold maxLen at hmz
      go_wp2_with (at_builtin; refine Lib.wpList_append_run _ rfl _ _ _ _ rfl _ _ rfl rfl _ _ Hrun.out ?_)
      go_meet
      exact ⟨Az, cz, rfl, hcz, by omega, Ownz, Kz⟩
    · have he : ((n : Int) == 0) = false := by simpa using h0
      have hLb := HLb.out h0
      have hq := Hn0.out h0
      obtain ⟨q, hq2⟩ : ∃ q, at_ = q + 32 := ⟨at_ - 32, by omega⟩
      have Hrd : Hid (Rd w2 (some ⟨g, off + q, none⟩) (L.map u8v)) := by
        have h1 := Hr2.out.sub q 32 (by rw [List.length_map]; omega)
        rw [← List.map_drop, ← List.map_take] at h1
        rw [hLb, hq2, Nat.add_sub_cancel]; exact h1
      have hLl := HLl.out
      subst hq2
      clear h0 hLb hq
      have s1 : (q : Int) + 32 ≤ (cb.length : Int) := by omega
      have s2 : q + 32 ≤ c2 := by omega
      go_wp2_with (at_builtin; refine wpList_app byteT (by rfl) _ _ (by rfl) w2.heap.size _ 0 [] (by rfl) (World.ownsRow_nil _ _ _ _) _ _ _ (L.map u8v) (show _ = Value.slice (some ⟨g, off + q, none⟩) 32 (c2 - q) from by simp [Act.eval] <;> omega) (by rw [List.length_map]; have := HLl.out; omega) Hrd.out (one_bytes _) (by omega) (by unfold maxLen; omega) (by omega) ?_; intro v3 w3 own3 hg3 hat3; have Own3 := Lib.hid own3; have Hg3 := Lib.hid hg3; clear own3 hg3 hat3)
      go_meet
      obtain ⟨A3, c3, rfl, hc3, hm3, _⟩ := own_form Own3.out
      unfold maxLen at hm3
      exact ⟨A3, c3, rfl, hc3, by omega, Lib.hid (by have h1 := Own3.out; rw [List.nil_append] at h1; exact h1), Lib.hid (by have h1 := keep_grown (Below.refl w2.heap.size w2) (by omega) Hg3.out (World.ownsRow_nil w2 w2.heap.size 5 1); exact h1)⟩
  case rest =>
    obtain ⟨A3, c3, rfl, hc3, hm3, Own3, K3⟩ := hcut
    have HK3 := Lib.hid (keep_trans HK2.out K3.out)
    have hz3 : w2.heap.size ≤ wc.heap.size := K3.out.size
    have Hrd : Hid (Rd wc (some ⟨g, off + at_, none⟩) (T96.map u8v)) := by
      have h1 := (Hr2.out.keep K3.out).sub at_ 96 (by rw [List.length_map]; omega)
      rw [← List.map_drop, ← List.map_take] at h1
      rw [HT96.out]; exact h1
    have s1 : (at_ : Int) + 96 ≤ (cb.length : Int) := by omega
    have s2 : at_ + 96 ≤ c2 := by omega
    go_upto_region 10 with (at_builtin; refine wpList_app byteT (by rfl) _ _ (by rfl) w2.heap.size _ 32 _ (by rfl) Own3.out _ _ _ (T96.map u8v) (show _ = Value.slice (some ⟨g, off + at_, none⟩) 96 (c2 - at_) from by simp [Act.eval] <;> omega) (by rw [List.length_map]; have := H96.out; omega) Hrd.out (one_bytes _) (by omega) (by unfold maxLen; omega) hz3 ?_; intro v4 w4 own4 hg4 hat4; have Own4 := Lib.hid own4; have Hg4 := Lib.hid hg4; clear own4 hg4 hat4)
    obtain ⟨A4, c4, rfl, hc4, hm4, _⟩ := own_form Own4.out
    have K4 : Hid (Keep w w4) := HK3.out.grown Hg4.out HK3.out.size (fun j hj => by have h1 := (Own3.out.lt j hj).1; have h2 := HK2.out.size; omega)
    have hz4 : wc.heap.size ≤ w4.heap.size := Hg4.out.size
    have Hr4 : Hid (Rd w4 A4 ((L ++ T96).map u8v)) := by have h1 := own_rd Own4.out; rw [List.map_append]; exact h1
    have Hb4 : Hid (Rd w4 (some ⟨g, off, none⟩) (cb.map u8v)) := by
      refine .inr ⟨g, off, rfl, fun j hj => ?_⟩
      rcases (Hr2.out.keep K3.out) with h1 | ⟨g', o', e, hc⟩
      · rw [h1] at hj; simp at hj
      · injection e with e; injection e with e1 e2
        subst e1 e2
        exact (World.cell?_of_block (Hg4.out.block g (cell_lt (hc j hj)) (fun e => by have h1 := (Own3.out.lt g e.symm).1; omega))).trans (hc j hj)
    clear s1 s2 hr1 Hrd
    go_wp2_with fail
    refine (D1.out w4 A4 c4 K4.out Hr4.out hc4 hm4).mono ?_
    rintro e w5 ⟨ds, rfl, hds, k5⟩
    have hdz := hds.z; have hdn := hds.n; have hdi := hds.i
    have Hds := Lib.hid hds
    have hst : (storeCells ⟨w5.heap.size, 0, none⟩ ds.toList 0).run Tryd.prog (w5.alloc (.cells sz 33)) = .ok () (w5.alloc (.cells ds 33)) := run_storeCells_new (P := Tryd.prog) w5 33 sz ds hdi (szs.trans hdz.symm) (by have := all_oneCell_toArray Hds.out.o; rwa [Array.toArray_toList] at this)
    have K5 := Lib.hid (keep_trans K4.out k5); have Hb5 := Lib.hid (Hb4.out.keep k5)
    clear hds k5
    go_upto_region 11 with fail
    clear hst
    obtain ⟨w6, hw6⟩ : ∃ w6, w6 = w5.alloc (.cells ds 33) := ⟨_, rfl⟩
    have HS6 : Hid (Blk w6 w5.heap.size 33 (D.map u8v)) := by rw [hw6, ← Hds.out.l]; exact Blk.new w5 _ ds.toList
    have k6 : Keep w5 w6 := by rw [hw6]; exact keep_new _ _
    rw [← hw6]
    clear hw6
    have K6 := Lib.hid (keep_trans K5.out k6); have Hb6 := Lib.hid (Hb5.out.keep k6)
    generalize w5.heap.size = S at *
    clear k6
    have v1 : ∀ y, (convert 22 9 (.slice (some ⟨S, 0, none⟩) 32 32)).run Tryd.prog (aft w6 y) = .ok (.string (str D)) (aft w6 y) := fun y => bytes_str 32 32 HDl.out.symm (HS6.out.rd.keep (aft_keep _ _))
    have v2 : ∀ y, (convert 22 9 (.slice (some ⟨g, off + (at_ + 96), none⟩) 32 (c2 - (at_ + 96)))).run Tryd.prog (aft w6 y) = .ok (.string (str D)) (aft w6 y) := fun y => by
      have hr1 := R1.out
      have h1 := (Hb6.out.keep (aft_keep w6 y)).sub (at_ + 96) 32 (by rw [List.length_map]; omega)
      rw [← List.map_drop, ← List.map_take, ← HDe.out] at h1
      exact bytes_str 32 _ HDl.out.symm h1
    have s1 : (at_ : Int) + 128 ≤ (cb.length : Int) := by have := R1.out; omega
    have s2 : at_ + 128 ≤ c2 := by have := R1.out; omega
    refine wp_region_aft (by kernel_rfl) (by kernel_rfl) w6 (Below.refl _ _) ?_
    repeat (go_big_quiet_step (fail))
    refine wpQuiet_nil ?_
    rintro _ ⟨z, rfl⟩
    have k7 := aft_keep w6 z
    generalize aft w6 z = w7 at k7 ⊢
    clear v1 v2
    go_wp2
    exact bodyPost_ret (v := .bool true) (by simp [results, Tryd.results26]) rfl ⟨rfl, keep_trans K6.out k7⟩
end Go.Proofs.YtielojlhdnimgaaDoor
