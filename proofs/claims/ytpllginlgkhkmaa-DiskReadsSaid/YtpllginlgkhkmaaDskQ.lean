import Derived.Test.YtpllginlgkhkmaaDskU
import Derived.Test.YtpllginlgkhkmaaMov
set_option linter.unusedSimpArgs false
set_option linter.unusedVariables false
namespace Go.Proofs.Ytpllginlgkhkmaa
open Go.RowKit
attribute [local go_sem ↓] Go.wp_at_zero Go.wp_at_succ

set_option maxRecDepth 100000 in
set_option maxHeartbeats 4000000 in
theorem reads_walk (A : Option Addr) (b : List UInt8) (c : Nat) (PA : Option Addr) (ws : List WriteR) (pc : Nat) (at_ : Int) (D : Option Addr) (data : List UInt8) (cd : Nat) (k : Int) (w : World) (h : DOk w A b c PA ws pc)
    (hat : -9223372036854775808 ≤ at_ ∧ at_ ≤ 9223372036854775807) (hd : Rd w D (data.map u8v)) (hdc : data.length ≤ cd) (hcd : cd ≤ 9223372036854775807) (hkk : -9223372036854775808 ≤ k ∧ k ≤ 9223372036854775807) :
    Calls Try.prog 7 #[DV A b.length c PA ws.length pc, .int .i64 at_, .slice D data.length cd, .int .i64 k] w fun e w' => e = .returned (.bool true) ∧ Keep w w' := by
  have hpl0 := h.pl; have hpm := h.pm; have hbc := h.bc; have hcm := h.cm
  unfold maxLen at hpm hcm
  go_enter Try.func7, Try.ntmps7
  go_wp2_with fail
  refine (awake_any _).mono ?_
  rintro e w1 ⟨rfl, hk1⟩
  have b0 := keep_box hk1 0 _ rfl; have b1 := keep_box hk1 1 _ rfl
  have k1 := keep_trans (keep_new w _) hk1; clear hk1
  go_wp2_with fail
  refine (few_any _ _ _ _ _ _ _ (by omega) (by omega)).mono ?_
  rintro e w2 ⟨rfl, hk2⟩
  replace b0 := keep_cell hk2 b0; replace b1 := keep_cell hk2 b1
  have k2 := keep_trans k1 hk2; clear k1 hk2
  cases hf : fewD b.length ws.length with
  | false => go_wp2_with fail; go_ret; exact ⟨rfl, k2⟩
  | true =>
    have hfew := of_decide_eq_true hf; clear hf
    by_cases hq0 : 200 < data.length
    · have hq0' : (200 : Int) < (data.length : Int) := by omega
      go_wp2_with fail; go_ret; exact ⟨rfl, k2⟩
    have hq0' : (data.length : Int) ≤ 200 := by omega
    clear hq0
    go_wp2_with fail
    refine (drive_any A b c PA ws pc w2 (h.keep k2) (by omega)).mono ?_
    rintro e w5 ⟨PA5, pc5, rfl, hd5, hk5⟩
    have k5 := keep_trans k2 hk5; clear k2 hk5 b0 b1
    have Hd5 := Lib.hid hd5; clear hd5
    obtain ⟨Hp, hHp⟩ : ∃ H, H = w5.heap.size := ⟨_, rfl⟩
    obtain ⟨Wp, hWp⟩ : ∃ W, W = w5.alloc (.cells #[.slice A b.length c, .slice PA5 ws.length pc5] 31) := ⟨_, rfl⟩
    have p0 : Wp.cell? ⟨Hp, 0, none⟩ = some (.slice A b.length c) := by rw [hWp, hHp]; go_simp
    have p1 : Wp.cell? ⟨Hp, 1, none⟩ = some (.slice PA5 ws.length pc5) := by rw [hWp, hHp]; go_simp
    have Kp : Keep w5 Wp := by rw [hWp]; exact keep_new _ _
    have QWp := Lib.hid hWp; have QHp := Lib.hid hHp; clear hWp hHp
    go_upto_region 5 with fail
    rw [← QWp.out, ← QHp.out]
    go_wp2_with fail
    refine (lay_any A b c PA5 ws pc5 at_ D data cd _ w5 Kp (Hd5.out _ (Below.refl _ _)) (hd.keep k5) (by omega) hat).mono ?_
    rintro e w6 ⟨A6, c6, PA6, pc6, vs, rfl, hvs, hd6, hk6⟩
    have hlaw := reads_law (k := k) hvs
    have herr := layD_err b ws at_ data
    clear hvs
    generalize (layD b ws at_ data).2 = er at hlaw herr ⊢
    have herr2 : er = 0 ∨ er = 14 := herr.imp id fun h => h.1
    clear herr
    replace p0 := keep_cell hk6 p0; replace p1 := keep_cell hk6 p1
    have k6 := keep_trans (keep_trans k5 Kp) hk6
    have K56 := Lib.hid (keep_trans Kp hk6)
    have Hd6 := Lib.hid hd6; clear hd6 hk6 k5 Kp
    have hr2 : (readD b ws k).2 = (readD b ws k).2 := rfl
    generalize hbb : tkB b ws = bb at hlaw Hd6 ⊢
    have Hlaw := Lib.hid hlaw; clear hlaw hbb hr2
    obtain ⟨Hx, hHx⟩ : ∃ H, H = w6.heap.size := ⟨_, rfl⟩
    obtain ⟨Wx, hWx⟩ : ∃ W, W = w6.alloc (.cells #[.slice A6 bb.length c6, .slice PA6 vs.length pc6] 31) := ⟨_, rfl⟩
    have x0 : Wx.cell? ⟨Hx, 0, none⟩ = some (.slice A6 bb.length c6) := by rw [hWx, hHx]; go_simp
    have x1 : Wx.cell? ⟨Hx, 1, none⟩ = some (.slice PA6 vs.length pc6) := by rw [hWx, hHx]; go_simp
    have Kx : Keep w6 Wx := by rw [hWx]; exact keep_new _ _
    have QWx := Lib.hid hWx; have QHx := Lib.hid hHx; clear hWx hHx
    replace p0 := keep_cell Kx p0; replace p1 := keep_cell Kx p1
    go_upto_region 6 with fail
    rw [← QWx.out, ← QHx.out]
    have kx := keep_trans k6 Kx
    have hcvd := Lib.hid (hd.keep kx)
    go_wp2_with fail
    refine (read_any A b c PA5 ws pc5 k Wx (Hd5.out _ (keep_trans K56.out Kx))).mono ?_
    obtain ⟨l1, hl1⟩ : ∃ l, l = (readD b ws k).1 := ⟨_, rfl⟩
    obtain ⟨f1, hf1⟩ : ∃ f, f = (readD b ws k).2 := ⟨_, rfl⟩
    rw [← hl1, ← hf1]
    have E1 := Lib.hid hl1; have E2 := Lib.hid hf1; clear hl1 hf1
    rintro e w7 ⟨A7, c7, rfl, hrd7, hk7⟩
    replace x0 := keep_cell hk7 x0; replace x1 := keep_cell hk7 x1
    have k7 := keep_trans kx hk7
    have Kx7 := Lib.hid (keep_trans Kx hk7)
    have Hrd7 := Lib.hid hrd7; clear hrd7 p0 p1 kx Kx
    go_wp2_with fail
    refine (read_any A6 bb c6 PA6 vs pc6 k w7 (Hd6.out _ (Mid.of_keep K56.out Kx7.out))).mono ?_
    obtain ⟨l2, hl2⟩ : ∃ l, l = (readD bb vs k).1 := ⟨_, rfl⟩
    obtain ⟨f2, hf2⟩ : ∃ f, f = (readD bb vs k).2 := ⟨_, rfl⟩
    rw [← hl2, ← hf2]
    have Hlaw2 : Hid ((er = 14 → l2 = l1 ∧ f2 = f1) ∧ (er = 0 → data.length % 32 = 0 ∧ f2 = f1 ∧ (at_ ≥ 0 ∧ k ≥ at_ ∧ k - at_ < (data.length / 32 : Nat) → f2 = 0 ∧ l2 = sec data (k - at_).toNat) ∧ (¬ (at_ ≥ 0 ∧ k ≥ at_ ∧ k - at_ < (data.length / 32 : Nat)) → l2 = l1))) := by
      have h1 := Hlaw.out
      refine ⟨fun h => ?_, fun h => ?_⟩
      · have h2 := h1.1 h
        rw [h2] at hl2 hf2
        exact ⟨hl2.trans E1.out.symm, hf2.trans E2.out.symm⟩
      · have h2 := h1.2 h
        rw [← E1.out, ← E2.out, ← hl2, ← hf2] at h2
        exact h2
    clear Hlaw hl2 hf2 E1 E2
    rintro e w8 ⟨A8, c8, rfl, hrd8, hk8⟩
    have k8 := keep_trans k7 hk8
    have Kk8 := Lib.hid (keep_trans (keep_trans (Below.refl _ _) hk7) hk8)
    have hrd7' : Rd w8 A7 (l1.map u8v) := Hrd7.out.keep hk8
    have v1 := bcv c7 hrd7'; have v2 := bcv c8 hrd8
    have Hr8 := Lib.hid hrd8
    clear hk8 k7 hrd7' hrd8 x0 x1 Kx7
    rcases herr2 with rfl | rfl
    · obtain ⟨h32, hf, hin, hout⟩ := Hlaw2.out.2 rfl
      clear Hlaw2
      have h32' : ((data.length : Int) % 32 != 0) = false := by simp; omega
      have H32 := Lib.hid h32; clear h32
      by_cases hc : at_ ≥ 0 ∧ k ≥ at_ ∧ k - at_ < (data.length / 32 : Nat)
      · obtain ⟨rfl, rfl⟩ := hin hc
        subst hf
        clear hin hout
        obtain ⟨hc1, hc2, hc3⟩ := hc
        obtain ⟨a, rfl⟩ : ∃ a : Nat, at_ = a := ⟨at_.toNat, by omega⟩
        obtain ⟨j, rfl⟩ : ∃ j : Nat, k = j := ⟨k.toNat, by omega⟩
        have ht : ((j : Int) - (a : Int)).toNat = j - a := by omega
        rw [ht] at v2 Hr8 ⊢
        have Ht := Lib.hid ht; clear ht
        have hb : 32 * (j - a) + 32 ≤ data.length := by have := H32.out; omega
        have g1 : decide ((a : Int) ≤ (j : Int)) = true := decide_eq_true hc2
        have g2 : decide ((j : Int) - (a : Int) < (data.length : Int) / 32) = true := decide_eq_true (by omega)
        obtain ⟨n, rfl⟩ : ∃ n, j = a + n := ⟨j - a, by omega⟩
        rw [show a + n - a = n by omega] at v2 Hr8 hb ⊢
        clear Ht hc2 g1
        have hsl : (sec data n).length = 32 := by unfold sec; rw [List.length_take, List.length_drop]; omega
        have Hsl := Lib.hid hsl; clear hsl
        have Hsame := Lib.hid (beq_self_eq_true (sec data n))
        have v2' := fun x => bcv c8 (Hr8.out.keep (aft_keep w8 x))
        have hds : Rd w8 (D.map (·.add (32 * n))) ((sec data n).map u8v) := by
          unfold sec
          rw [List.map_take, List.map_drop]
          exact ((hcvd.out.keep (keep_trans Kk8.out (Below.refl _ _))).dropN (by rw [List.length_map]; omega)).take 32
        have vd : ∀ x, (convert 22 9 (.slice (Option.map (fun x => x.add (32 * n)) D) 32 (cd - 32 * n))).run Try.prog (aft w8 x) = .ok (.string (str (sec data n))) (aft w8 x) := fun x => by
          have e := bcv (cd - 32 * n) (hds.keep (aft_keep w8 x))
          rw [Hsl.out] at e
          exact e
        clear hds
        go_wp2
        refine wp_region_aft (by kernel_rfl) (by kernel_rfl) w8 (Below.refl _ _) ?_
        repeat (go_big_quiet_step (fail))
        refine wpQuiet_nil ?_
        rintro _ ⟨y, rfl⟩
        have hk9 := aft_keep w8 y
        generalize aft w8 y = w9 at hk9 ⊢
        clear vd v2'
        go_wp2
        go_ret
        exact ⟨rfl, keep_trans k8 hk9⟩
      · have hl := hout hc
        subst hl hf
        clear hin hout
        by_cases c1 : 0 ≤ at_
        · by_cases c2 : at_ ≤ k
          · have c3 : (data.length : Int) / 32 ≤ k - at_ := by omega
            clear hc
            go_wp2
            go_ret
            exact ⟨rfl, k8⟩
          · have c2' : decide (at_ ≤ k) = false := decide_eq_false c2
            clear hc
            go_wp2
            go_ret
            exact ⟨rfl, k8⟩
        · have c1' : decide (0 ≤ at_) = false := decide_eq_false c1
          clear hc
          go_wp2
          go_ret
          exact ⟨rfl, k8⟩
    · obtain ⟨rfl, rfl⟩ := Hlaw2.out.1 rfl
      go_wp2
      go_ret
      exact ⟨rfl, k8⟩
end Go.Proofs.Ytpllginlgkhkmaa
