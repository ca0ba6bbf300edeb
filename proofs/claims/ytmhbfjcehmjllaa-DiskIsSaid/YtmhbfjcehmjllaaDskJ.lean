import Derived.Test.YtmhbfjcehmjllaaDskI
set_option linter.unusedSimpArgs false
set_option linter.unusedVariables false
namespace Go.Proofs.Ytmhbfjcehmjllaa
open Go.RowKit
attribute [local go_sem ↓] Go.wp_at_zero Go.wp_at_succ

def awB : List UInt8 := List.replicate 64 0
def aw7 (k : Nat) : List UInt8 := List.replicate k 7
theorem aw7_succ (k : Nat) : aw7 (k + 1) = aw7 k ++ [7] := by unfold aw7; rw [List.replicate_succ']
theorem aw7_len (k : Nat) : (aw7 k).length = k := List.length_replicate ..
def awL : List UInt8 := List.replicate 32 0 ++ [7, 7, 7] ++ List.replicate 29 0
theorem aw_tk : tkB awB [] = awB ∧ tkW awB [] = [] := ⟨by kernel_rfl, by kernel_rfl⟩
theorem awB_len : awB.length = 64 := by kernel_rfl
theorem awL_len : awL.length = 64 := by kernel_rfl
theorem aw_put : putD awB [] 1 (aw7 32) = ([(1, aw7 32)], 0) := by kernel_rfl
theorem aw_crash (A : Option Addr) (c : Nat) : crashD awB [⟨1, A, c, aw7 32⟩] [3] = awL := by kernel_rfl
theorem aw_bytes : bytesD awL [] = awL := by kernel_rfl
theorem aw_bytes2 (A : Option Addr) (c : Nat) : (bytesD awB [⟨1, A, c, aw7 32⟩]).length = 64 := by kernel_rfl
theorem aw_sane (A : Option Addr) (c : Nat) : saneD awB.length [⟨1, A, c, aw7 32⟩] = true := by kernel_rfl
theorem aw_cell {w : World} {A : Option Addr} (h : Rd w A (awL.map u8v)) : ∃ b off, A = some ⟨b, off, none⟩ ∧ w.cell? ⟨b, off + 34, none⟩ = some (.int .u8 7) ∧ w.cell? ⟨b, off + 35, none⟩ = some (.int .u8 0) := by
  obtain ⟨b, off, rfl, _, hc⟩ := h.at (k := 34) (by rw [List.length_map, awL_len]; omega)
  exact ⟨b, off, rfl, hc 34 (by rw [List.length_map, awL_len]; omega), hc 35 (by rw [List.length_map, awL_len]; omega)⟩

theorem DOk.own {w : World} {base : Nat} {e : TypeId} {A : Option Addr} {n c : Nat} {b : List UInt8} (h : w.ownsRow base e 1 (.slice A n c) n (b.map u8v)) : DOk w A b c none [] 0 := by
  have hl : b.length = n := by have := h.1; simpa using this
  obtain ⟨A5, c5, h5, hc5, hm5, hrd5⟩ := own_form h
  injection h5 with h5 _ h6
  subst h5 h6
  exact ⟨hrd5, by omega, hm5, .inl rfl, Nat.le_refl _, Nat.zero_le _, by simp⟩
set_option maxRecDepth 100000 in
set_option maxHeartbeats 2000000 in
theorem awake_any (w : World) : Calls Try.prog 4 #[] w fun e w' => e = .returned (.bool true) ∧ Keep w w' := by
  go_enter Try.func4, Try.ntmps4
  go_wp2_with fail
  go_loopw [1, 2] (fun v i wr => ∃ (k : Nat) (A : Option Addr) (c : Nat), k ≤ 32 ∧ i = .int .i64 k ∧ v = .slice A k c ∧ wr.ownsRow w.heap.size 5 1 (.slice A k c) k ((aw7 k).map u8v) ∧ Keep w wr) (fun _ i _ => 32 - (intOf i).toNat)
  case atStart => exact ⟨0, none, 0, by omega, rfl, rfl, World.ownsRow_nil _ _ _ _, Below.refl _ _⟩
  case round =>
    obtain ⟨k, A, c, hk, rfl, rfl, hown, hkr⟩ := hrel
    have Hown := Lib.hid hown; clear hown
    have hsz := hkr.size
    by_cases hlt : k < 32
    · go_wp2_with (at_builtin; refine wpList_app byteT (by rfl) _ _ (by rfl) w.heap.size _ k _ (by rfl) (Hown.out.alloc _) _ 1 1 [u8v 7] (by rfl) (by rfl) (Rd.new _ _ _) (by simp [Value.oneCell']) (by omega) (by unfold maxLen; omega) (by simp; omega) ?_; intro v2 w2 own2 hg2 hat2; have k2 := keep_grown (keep_trans hkr (keep_new _ _)) (by simp; omega) hg2 (Hown.out.alloc _); obtain ⟨A2, c2, rfl, hc2, hm2, hrd2⟩ := own_form own2; have Own2 := Lib.hid own2; clear own2 hrd2)
      go_roundw
      case rel =>
        refine ⟨k + 1, A2, c2, by omega, by go_num, rfl, ?_, k2⟩
        rw [aw7_succ, List.map_append]
        exact Own2.out
      case measure => simp [intOf]; omega
    · obtain rfl : k = 32 := by omega
      go_wp2_with fail
      refine (new_any 2 2 _ (by omega)).mono ?_
      rintro e w1 ⟨A1, c1, rfl, hown1, hk1⟩
      have hd : DOk w1 A1 awB c1 none [] 0 := DOk.own hown1
      have Hd := Lib.hid hd; clear hd hown1
      have Hr := Lib.hid ((own_rd Hown.out).keep hk1)
      have k1 := keep_trans hkr hk1
      go_wp2_with fail
      refine (put_any A1 awB c1 none [] 0 1 A (aw7 32) c w1 w1 (Below.refl _ _) Hd.out Hr.out (by decide) (by omega)).mono ?_
      rw [aw_tk.1, aw_put]
      rintro e w2 ⟨A2, c2, PA2, pc2, vs, rfl, hvs, hd2, hk2⟩
      obtain ⟨PA3, ps3, rfl⟩ : ∃ PA3 ps3, vs = [⟨1, PA3, ps3, aw7 32⟩] := by
        match vs, hvs with
        | [⟨_, a, s, _⟩], hvs => simp [WriteR.pl] at hvs; obtain ⟨rfl, rfl⟩ := hvs; exact ⟨a, s, rfl⟩
      have k2 := keep_trans k1 hk2
      have Hd2 := Lib.hid hd2; clear hd2 hvs
      go_wp2_with fail
      have kA : Keep w2 ((w2.alloc (.cells #[.slice A2 awB.length c2, .slice PA2 1 pc2] 30)).alloc (.cells #[.int .u8 3] 5)) := keep_trans (keep_new _ _) (keep_new _ _)
      have hB : Rd ((w2.alloc (.cells #[.slice A2 awB.length c2, .slice PA2 1 pc2] 30)).alloc (.cells #[.int .u8 3] 5)) (some ⟨w2.heap.size + 1, 0, none⟩) ([3].map u8v) := by
        have h := Rd.new (w2.alloc (.cells #[.slice A2 awB.length c2, .slice PA2 1 pc2] 30)) [.int .u8 3] 5
        rwa [show (w2.alloc (.cells #[.slice A2 awB.length c2, .slice PA2 1 pc2] 30)).heap.size = w2.heap.size + 1 by simp] at h
      have HC := crash_any A2 awB c2 PA2 [⟨1, PA3, ps3, aw7 32⟩] pc2 (some ⟨w2.heap.size + 1, 0, none⟩) [3] 1 _ (Hd2.out _ (Mid.of_keep hk2 kA)) hB (by decide)
      rw [aw_crash] at HC
      clear hB
      refine HC.mono ?_
      clear HC
      rintro e w3 ⟨A3, c3, rfl, hown3, hk3⟩
      have k3 := keep_trans k2 (keep_trans kA hk3)
      have b3 : w3.cell? ⟨w2.heap.size, 0, none⟩ = some (.slice A2 awB.length c2) := keep_cell hk3 (by go_simp)
      have b3' : w3.cell? ⟨w2.heap.size, 1, none⟩ = some (.slice PA2 1 pc2) := keep_cell hk3 (by go_simp)
      have Hd3 := Lib.hid (DOk.own hown3); clear hown3
      go_wp2_with fail
      refine (bytes_any A3 awL c3 none [] 0 _ Hd3.out).mono ?_
      rw [aw_bytes]
      rintro e w4 ⟨v4, rfl, hown4, hk4⟩
      obtain ⟨A4, c4, rfl, hc4, hm4, hrd4⟩ := own_form hown4
      obtain ⟨gb, go, rfl, q34, q35⟩ := aw_cell hrd4
      rw [awL_len] at hc4 ⊢
      unfold maxLen at hm4
      have k4 := keep_trans k3 hk4
      have b4 := keep_cell hk4 b3
      have b4' := keep_cell hk4 b3'
      clear hown4 hrd4
      go_wp2_with fail
      refine (bytes_any A2 awB c2 PA2 [⟨1, PA3, ps3, aw7 32⟩] pc2 _ (Hd2.out _ (Mid.of_keep hk2 (keep_trans kA (keep_trans hk3 hk4))))).mono ?_
      rw [aw_bytes2]
      rintro e w5 ⟨v5, rfl, hown5, hk5⟩
      obtain ⟨A5, c5, rfl, hc5, hm5, hrd5⟩ := own_form hown5
      have b5 := keep_cell hk5 b4
      have b5' := keep_cell hk5 b4'
      clear hrd5 hown5
      go_wp2_with fail
      refine (sane_any A2 awB c2 PA2 [⟨1, PA3, ps3, aw7 32⟩] pc2 _ (Hd2.out _ (Mid.of_keep hk2 (keep_trans kA (keep_trans hk3 (keep_trans hk4 hk5)))))).mono ?_
      rw [aw_sane]
      rintro e w6 ⟨rfl, hk6⟩
      go_wp2_with fail
      go_ret
      exact ⟨rfl, keep_trans k4 (keep_trans hk5 hk6)⟩
end Go.Proofs.Ytmhbfjcehmjllaa
