/- Which error does Compact tell ahead of its operations. -/
import Derived.Test.YtbomnldpmkedbaaDoorSnE
set_option linter.unusedSimpArgs false
set_option linter.unusedVariables false
namespace Go.Proofs.YtbomnldpmkedbaaDoor
open Go.RowKit
attribute [local go_sem ↓] Go.wp_at_zero Go.wp_at_succ

/-- The error told ahead. -/
def mayS (nS : Nat) (L : Int × Int × Int) (base room ep : Int) (nk : Nat) : Int :=
  if roomS nS < nk then 12 else if L.1 ≠ ep ∨ begS L.2.1 (roomS nS) ≠ base then 15 else if room ≠ roomS nS ∨ 2147483646 < ep then 15 else if nS < 4 then 14 else 0

section
variable (A : Option Addr) (b : List UInt8) (c : Nat) (PA : Option Addr) (ws : List WriteR) (pc : Nat) (base room : Int)
set_option maxRecDepth 100000 in
set_option maxHeartbeats 4000000 in
theorem may_w (n : Int) (last : List UInt8) (hl : last.length = 32) (ep : Int) (ss : Array Value) (Ak : Option Addr) (nk ck : Nat) (w : World) (h : DOk w A b c PA ws pc) (hS : ShaOk w) (hss : StA (stCells (.slice A b.length c) (.slice PA ws.length pc) base room n last ep) ss) (hnk : nk ≤ 1000000000) :
    Calls Tryd.prog 33 #[.agg ss, .slice Ak nk ck] w fun e w' => e = .returned (.int .i64 (mayS (b.length / 32) (lookB (bytesQ b (ws.map WriteR.pl))) base room ep nk)) ∧ Keep w w' := by
  have F1 : Hid (∀ w', Keep w w' → Calls Tryd.prog 21 #[DV A b.length c PA ws.length pc] w' fun e w'' => e = .returned (.tuple #[.int .i64 (lookB (bytesQ b (ws.map WriteR.pl))).1, .int .i64 (lookB (bytesQ b (ws.map WriteR.pl))).2.1]) ∧ Keep w' w'') := fun w' hk => by
    have h1 := find_any A b c PA ws pc w' (h.keep hk) (hS.keep hk)
    rw [bytesD_Q] at h1; exact h1
  have hT := look_told (bytesQ b (ws.map WriteR.pl))
  generalize lookB (bytesQ b (ws.map WriteR.pl)) = L at *
  obtain ⟨le, lr, sl⟩ := L
  have hr : 0 ≤ lr ∧ lr ≤ 1 := by rcases hT.r with e | e <;> (simp only at e; omega)
  have hbc : b.length ≤ c ∧ c ≤ 9223372036854775807 := by have := h.bc; have := h.cm; unfold maxLen at *; omega
  obtain ⟨hbc1, hbc2⟩ := hbc
  have hrm := roomS_le ((b.length / 32 : Nat) : Int)
  have M1 : Hid (∀ w', Calls Tryd.prog 9 #[.int .i64 ((b.length / 32 : Nat) : Int)] w' fun e w'' => e = .returned (.int .i64 (roomS ((b.length / 32 : Nat) : Int))) ∧ w' = w'') := fun w' => room_any _ w' (by omega)
  have E1 : Hid (∀ w', Calls Tryd.prog 32 #[.int .i64 lr, .int .i64 (roomS ((b.length / 32 : Nat) : Int))] w' fun e w'' => e = .returned (.int .i64 (begS lr (roomS ((b.length / 32 : Nat) : Int)))) ∧ w' = w'') := fun w' => begin_any lr _ w' hr (by omega)
  have HY : Hid (∀ y, mayS (b.length / 32) (le, lr, sl) base room ep nk = y → mayS (b.length / 32) (le, lr, sl) base room ep nk = y) := fun _ h => h
  obtain ⟨Y, hY⟩ : ∃ Y, mayS (b.length / 32) (le, lr, sl) base room ep nk = Y := ⟨_, rfl⟩
  rw [hY]
  have HY : Hid ((if roomS ((b.length / 32 : Nat) : Int) < nk then (12 : Int) else if le ≠ ep ∨ begS lr (roomS ((b.length / 32 : Nat) : Int)) ≠ base then 15 else if room ≠ roomS ((b.length / 32 : Nat) : Int) ∨ 2147483646 < ep then 15 else if b.length / 32 < 4 then 14 else 0) = Y) := by rw [← hY]; rfl
  clear hY hT hr
  generalize begS lr (roomS ((b.length / 32 : Nat) : Int)) = bg at *
  generalize roomS ((b.length / 32 : Nat) : Int) = rm at *
  have hsz := hss.z; have hsn := hss.n; have hsi := hss.i
  have Hss := Lib.hid hss
  clear hss h hS
  generalize hbl : b.length = bl at *
  clear hbl
  generalize ws.length = wl at *
  go_enter Tryd.func33, Tryd.ntmps33
  go_upto_region 1 with fail
  have HB : Hid (Blk (w.alloc (.cells ss 38)) w.heap.size 38 (stCells (.slice A bl c) (.slice PA wl pc) base room n last ep)) := by rw [← Hss.out.l]; exact Blk.new w _ ss.toList
  have HK1 : Hid (Keep w (w.alloc (.cells ss 38))) := keep_new _ _
  obtain ⟨c0, c1, c2, c3, c4, c5⟩ := st_d hl HB.out
  clear c4 HB
  generalize w.alloc (.cells ss 38) = w1 at *
  go_wp2_with fail
  refine (ssectors_any A bl c (.slice PA wl pc) w1 (by omega)).mono ?_
  rintro e w2 ⟨rfl, k2⟩
  replace c0 := keep_cell k2 c0; replace c1 := keep_cell k2 c1; replace c2 := keep_cell k2 c2; replace c3 := keep_cell k2 c3; replace c5 := keep_cell k2 c5
  have HK2 := Lib.hid (keep_trans HK1.out k2)
  clear k2
  go_wp2_with fail
  refine (M1.out w2).mono ?_
  rintro e _ ⟨rfl, rfl⟩
  go_wp2_with fail
  refine (F1.out w2 HK2.out).mono ?_
  rintro e w3 ⟨rfl, k3⟩
  replace c2 := keep_cell k3 c2; replace c3 := keep_cell k3 c3; replace c5 := keep_cell k3 c5
  have HK3 := Lib.hid (keep_trans HK2.out k3)
  clear k3 c0 c1
  by_cases e1 : rm < nk
  · have hd : Hid (Y = 12) := by rw [← HY.out]; exact if_pos e1
    have e1' : (rm : Int) < (nk : Int) := by omega
    clear e1 HY
    go_wp2
    go_ret
    exact ⟨ret_int hd.out.symm, HK3.out⟩
  · have e1' : ¬ ((rm : Int) < (nk : Int)) := by omega
    have HY2 := Lib.hid ((if_neg e1).symm.trans HY.out)
    clear e1 HY
    have a2 := aft_cell c2; have a5 := aft_cell c5
    have C2 := Lib.hid c2; have C3 := Lib.hid c3; have C5 := Lib.hid c5
    have reg : ∀ g1 g2 : Bool, True := fun _ _ => trivial
    clear reg
    by_cases e2 : le = ep
    · have g1 : (le != ep) = false := by simp [e2]
      by_cases e3 : bg = base
      · have g2 : (bg != base) = false := by simp [e3]
        have HY3 := Lib.hid ((if_neg (fun h => h.elim (fun h => h e2) (fun h => h e3))).symm.trans HY2.out)
        clear e2 e3 HY2 c2 c3 c5
        go_upto_region 6 with fail
        refine wp_region_aft (by kernel_rfl) (by kernel_rfl) w3 (Below.refl _ _) ?_
        repeat (go_big_quiet_step ((go_at_call 32; exact quiet_aft_same (E1.out _))))
        refine wpQuiet_nil ?_
        rintro _ ⟨y, rfl⟩
        have j := aft_keep w3 y
        have HK4 := Lib.hid (keep_trans HK3.out j)
        have c3 := keep_cell j C3.out; have c5 := keep_cell j C5.out
        generalize aft w3 y = w4 at *
        clear a2 a5 j
        by_cases e4 : room = (rm : Int)
        · have g3 : (room != (rm : Int)) = false := by simp [e4]
          by_cases e5 : 2147483646 < ep
          · have hd : Hid (Y = 15) := by rw [← HY3.out]; exact if_pos (.inr e5)
            have g4 : decide ((2147483646 : Int) < ep) = true := decide_eq_true e5
            clear e4 e5 HY3
            go_wp2
            go_ret
            exact ⟨ret_int hd.out.symm, HK4.out⟩
          · have g4 : decide ((2147483646 : Int) < ep) = false := decide_eq_false e5
            have HY4 := Lib.hid ((if_neg (fun h => h.elim (fun h => h e4) (fun h => e5 h))).symm.trans HY3.out)
            clear e4 e5 HY3
            by_cases e6 : bl / 32 < 4
            · have hd : Hid (Y = 14) := by rw [← HY4.out]; exact if_pos e6
              have e6' : ((bl / 32 : Nat) : Int) < 4 := by omega
              clear e6 HY4
              go_wp2
              go_ret
              exact ⟨ret_int hd.out.symm, HK4.out⟩
            · have hd : Hid (Y = 0) := by rw [← HY4.out]; exact if_neg e6
              have e6' : ¬ ((bl / 32 : Nat) : Int) < 4 := by omega
              clear e6 HY4
              go_wp2
              go_ret
              exact ⟨ret_int hd.out.symm, HK4.out⟩
        · have g3 : (room != (rm : Int)) = true := by simp [e4]
          have hd : Hid (Y = 15) := by rw [← HY3.out]; exact if_pos (.inl e4)
          clear e4 HY3
          go_wp2
          go_ret
          exact ⟨ret_int hd.out.symm, HK4.out⟩
      · have g2 : (bg != base) = true := by simp [e3]
        have hd : Hid (Y = 15) := by rw [← HY2.out]; exact if_pos (.inr e3)
        clear e2 e3 HY2 c2 c3 c5
        go_upto_region 6 with fail
        refine wp_region_aft (by kernel_rfl) (by kernel_rfl) w3 (Below.refl _ _) ?_
        repeat (go_big_quiet_step ((go_at_call 32; exact quiet_aft_same (E1.out _))))
        refine wpQuiet_nil ?_
        rintro _ ⟨y, rfl⟩
        have j := aft_keep w3 y
        have HK4 := Lib.hid (keep_trans HK3.out j)
        generalize aft w3 y = w4 at *
        clear a2 a5 j
        go_wp2
        go_ret
        exact ⟨ret_int hd.out.symm, HK4.out⟩
    · have g1 : (le != ep) = true := by simp [e2]
      have hd : Hid (Y = 15) := by rw [← HY2.out]; exact if_pos (.inl e2)
      clear e2 HY2 c2 c3 c5
      go_upto_region 6 with fail
      refine wp_region_aft (by kernel_rfl) (by kernel_rfl) w3 (Below.refl _ _) ?_
      repeat (go_big_quiet_step ((go_at_call 32; exact quiet_aft_same (E1.out _))))
      refine wpQuiet_nil ?_
      rintro _ ⟨y, rfl⟩
      have j := aft_keep w3 y
      have HK4 := Lib.hid (keep_trans HK3.out j)
      generalize aft w3 y = w4 at *
      clear a2 a5 j
      go_wp2
      go_ret
      exact ⟨ret_int hd.out.symm, HK4.out⟩
end
end Go.Proofs.YtbomnldpmkedbaaDoor
