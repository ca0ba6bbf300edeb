import Derived.Test.YtielojlhdnimgaaDoorDskA
import Derived.Test.YtielojlhdnimgaaDoorRgn
set_option linter.unusedSimpArgs false
set_option linter.unusedVariables false
namespace Go.Proofs.YtielojlhdnimgaaDoor
open Go.RowKit
attribute [local go_sem ↓] Go.wp_at_zero Go.wp_at_succ

def WriteR.ok (nb : Nat) (x : WriteR) : Bool := decide (0 ≤ x.at_ ∧ x.at_ < (nb / 32 : Nat) ∧ x.d.length = 32)
def saneD (nb : Nat) (ws : List WriteR) : Bool := decide (nb % 32 = 0 ∧ nb / 32 ≤ 4096 ∧ ws.length ≤ 100000) && ws.all (·.ok nb)

abbrev DV (A : Option Addr) (n c : Nat) (PA : Option Addr) (m pc : Nat) : Value := .agg #[.slice A n c, .slice PA m pc]
structure DOk (w : World) (A : Option Addr) (b : List UInt8) (c : Nat) (PA : Option Addr) (ws : List WriteR) (pc : Nat) : Prop where
  rb : Rd w A (b.map u8v)
  bc : b.length ≤ c
  cm : c ≤ maxLen
  rp : Rd w PA (ws.flatMap WriteR.cells)
  pl : ws.length ≤ pc
  pm : pc ≤ maxLen
  ok : ∀ x ∈ ws, OkW w x
theorem DOk.keep {w w' : World} {A : Option Addr} {b : List UInt8} {c : Nat} {PA : Option Addr} {ws : List WriteR} {pc : Nat} (h : DOk w A b c PA ws pc) (hk : Keep w w') : DOk w' A b c PA ws pc :=
  ⟨h.rb.keep hk, h.bc, h.cm, h.rp.keep hk, h.pl, h.pm, fun x hx => (h.ok x hx).keep hk⟩

set_option maxRecDepth 100000 in
set_option maxHeartbeats 2000000 in
theorem sane_any (A : Option Addr) (b : List UInt8) (c : Nat) (PA : Option Addr) (ws : List WriteR) (pc : Nat) (w : World) (h : DOk w A b c PA ws pc) :
    Calls Tryd.prog 22 #[DV A b.length c PA ws.length pc] w fun e w' => e = .returned (.bool (saneD b.length ws)) ∧ Keep w w' := by
  obtain ⟨rb, bc, cm, rp, pl, pm, ok⟩ := h
  unfold maxLen at cm pm
  by_cases h1 : b.length % 32 = 0
  · by_cases h2 : b.length / 32 ≤ 4096
    · by_cases h3 : ws.length ≤ 100000
      · have t1 : ((b.length : Int) % 32 != 0) = false := by simp; omega
        have H1 := Lib.hid h1; have H2 := Lib.hid h2; clear h1
        have t2 : ((b.length / 32 : Nat) : Int) ≤ 4096 := by omega
        go_enter Tryd.func22, Tryd.ntmps22
        go_wp2_with (go_at_call 39; refine (sectors_any _ _ _ _ _ (by omega)).mono ?_; rintro e w1 ⟨rfl, hk1⟩; have b0 := keep_box hk1 0 _ rfl; have b1 := keep_box hk1 1 _ rfl; have hz1 := hk1.size; simp at hz1)
        have k1 : Keep w w1 := keep_trans ((Below.refl _ _).alloc (Nat.le_refl _) _) hk1
        have Hb0 := Lib.hid b0; have Hb1 := Lib.hid b1
        clear b0 b1 hk1
        go_loopw [24] (fun i wr => ∃ k : Nat, k ≤ ws.length ∧ i = .int .i64 k ∧ Keep w1 wr ∧ (ws.take k).all (·.ok b.length) = true) (fun i _ => ws.length - (intOf i).toNat)
        case atStart => exact ⟨0, Nat.zero_le _, rfl, Below.refl _ _, by simp⟩
        case round =>
          obtain ⟨k, hk, rfl, hkr, hall⟩ := hrel
          have Hall := Lib.hid hall; clear hall
          have hzr := hkr.size
          by_cases hlt : k < ws.length
          · obtain ⟨bp, off, rfl, hb, F⟩ := WriteR.at2 rp hlt
            have hx := ok _ (List.getElem_mem hlt)
            have hmem := List.getElem_mem hlt
            have hts : (ws.take (k + 1)).all (·.ok b.length) = ((ws.take k).all (·.ok b.length) && ws[k].ok b.length) := by
              rw [List.take_succ_eq_append_getElem hlt, List.all_append]; simp
            generalize ws[k] = x at F hx hts hmem
            have Hts := Lib.hid hts; have Hmem := Lib.hid hmem
            obtain ⟨c0, c1⟩ := F wr (keep_trans k1 hkr)
            have d0 := keep_cell hkr Hb0.out; have d1 := keep_cell hkr Hb1.out
            have hx2 := hx.2.1; have hx3 := hx.2.2
            unfold maxLen at hx3
            have hgr : w.heap.size < wr.heap.size := by omega
            clear F hts hx hmem
            have fin : x.ok b.length = false → saneD b.length ws = false := fun hf => by
              unfold saneD; rw [Bool.and_eq_false_iff]; right
              rw [List.all_eq_false]; exact ⟨x, Hmem.out, by simp [hf]⟩
            have Fin := Lib.hid fin; clear fin
            obtain ⟨wz, hwz⟩ : ∃ wz, wz = wr.alloc (.cells #[.int .i64 x.at_, .slice x.A x.d.length x.cap] 69) := ⟨_, rfl⟩
            have kz : Keep wr wz := by rw [hwz]; exact (Below.refl _ _).alloc (Nat.le_refl _) _
            have a0 := aft_cell (keep_cell kz d0); have a1 := aft_cell (keep_cell kz d1)
            have a2 := aft_cell (show wz.cell? ⟨wr.heap.size, 0, none⟩ = some (.int .i64 x.at_) by rw [hwz]; exact box_cell _ _ _ 0)
            have a3 := aft_cell (show wz.cell? ⟨wr.heap.size, 1, none⟩ = some (.slice x.A x.d.length x.cap) by rw [hwz]; exact box_cell _ _ _ 1)
            have Hwz := Lib.hid hwz; clear hwz
            by_cases e1 : x.at_ < 0
            · have E := Lib.hid (show x.ok b.length = false from decide_eq_false (by omega))
              go_wp2
              refine wp_region_aft (by kernel_rfl) (by kernel_rfl) wz (by rw [Hwz.out]; exact Below.refl _ _) ?_
              repeat (go_big_quiet_step ((go_at_call 39; exact quiet_aft (sectors_any _ _ _ _ _ (by omega)))))
              refine wpQuiet_nil ?_
              rintro _ ⟨y, rfl⟩
              have hk2 := aft_keep wz y
              generalize aft wz y = w2 at hk2 ⊢
              clear a0 a1 a2 a3
              go_wp2
              go_ret
              exact ⟨ret_bool (Fin.out E.out).symm, keep_trans k1 (keep_trans (keep_trans hkr kz) hk2)⟩
            · have g1 : decide (x.at_ < 0) = false := decide_eq_false e1
              by_cases e2 : ((b.length / 32 : Nat) : Int) ≤ x.at_
              · have E := Lib.hid (show x.ok b.length = false from decide_eq_false (by omega))
                have g2 : decide ((b.length : Int) / 32 ≤ x.at_) = true := decide_eq_true e2
                go_wp2
                refine wp_region_aft (by kernel_rfl) (by kernel_rfl) wz (by rw [Hwz.out]; exact Below.refl _ _) ?_
                repeat (go_big_quiet_step ((go_at_call 39; exact quiet_aft (sectors_any _ _ _ _ _ (by omega)))))
                refine wpQuiet_nil ?_
                rintro _ ⟨y, rfl⟩
                have hk2 := aft_keep wz y
                generalize aft wz y = w2 at hk2 ⊢
                clear a0 a1 a2 a3
                all_goals go_wp2
                all_goals go_ret
                all_goals exact ⟨ret_bool (Fin.out E.out).symm, keep_trans k1 (keep_trans (keep_trans hkr kz) hk2)⟩
              · have g2 : decide ((b.length : Int) / 32 ≤ x.at_) = false := decide_eq_false e2
                by_cases e3 : x.d.length = 32
                · have e3' : ((x.d.length : Int) != 32) = false := by simp; omega
                  have E := Lib.hid (show x.ok b.length = true from decide_eq_true (by omega))
                  clear e3
                  go_wp2
                  refine wp_region_aft (by kernel_rfl) (by kernel_rfl) wz (by rw [Hwz.out]; exact Below.refl _ _) ?_
                  repeat (go_big_quiet_step ((go_at_call 39; exact quiet_aft (sectors_any _ _ _ _ _ (by omega)))))
                  refine wpQuiet_nil ?_
                  rintro _ ⟨y, rfl⟩
                  have hk2 := aft_keep wz y
                  generalize aft wz y = w2 at hk2 ⊢
                  clear a0 a1 a2 a3
                  all_goals go_wp2
                  all_goals go_roundw
                  all_goals first
                    | exact ⟨k + 1, by omega, by go_num, (keep_trans (keep_trans hkr kz) hk2), by rw [Hts.out, Hall.out, E.out]; rfl⟩
                    | (simp [intOf]; omega)
                · have e3' : ((x.d.length : Int) != 32) = true := by simp; omega
                  have E := Lib.hid (show x.ok b.length = false from decide_eq_false (by omega))
                  clear e3
                  go_wp2
                  refine wp_region_aft (by kernel_rfl) (by kernel_rfl) wz (by rw [Hwz.out]; exact Below.refl _ _) ?_
                  repeat (go_big_quiet_step ((go_at_call 39; exact quiet_aft (sectors_any _ _ _ _ _ (by omega)))))
                  refine wpQuiet_nil ?_
                  rintro _ ⟨y, rfl⟩
                  have hk2 := aft_keep wz y
                  generalize aft wz y = w2 at hk2 ⊢
                  clear a0 a1 a2 a3
                  all_goals go_wp2
                  all_goals go_ret
                  all_goals exact ⟨ret_bool (Fin.out E.out).symm, keep_trans k1 (keep_trans (keep_trans hkr kz) hk2)⟩
          · obtain rfl : k = ws.length := by omega
            have hs : saneD b.length ws = true := by
              unfold saneD; rw [Bool.and_eq_true]
              refine ⟨decide_eq_true ⟨H1.out, H2.out, h3⟩, ?_⟩
              have := Hall.out; rwa [List.take_length] at this
            have Hs := Lib.hid hs; clear hs
            go_wp2
            go_ret
            exact ⟨ret_bool Hs.out.symm, keep_trans k1 hkr⟩
      · have hs := Lib.hid (show saneD b.length ws = false by unfold saneD; rw [Bool.and_eq_false_iff]; left; exact decide_eq_false (by omega))
        have t1 : ((b.length : Int) % 32 != 0) = false := by simp; omega
        have t2 : ((b.length / 32 : Nat) : Int) ≤ 4096 := by omega
        have t3 : (100000 : Int) < (ws.length : Int) := by omega
        clear h1 h2
        go_enter Tryd.func22, Tryd.ntmps22
        go_wp2_with (go_at_call 39; refine (sectors_any _ _ _ _ _ (by omega)).mono ?_; rintro e w1 ⟨rfl, hk1⟩; have b0 := keep_box hk1 0 _ rfl; have b1 := keep_box hk1 1 _ rfl; have hz1 := hk1.size; simp at hz1)
        go_ret
        exact ⟨ret_bool hs.out.symm, keep_trans ((Below.refl _ _).alloc (Nat.le_refl _) _) hk1⟩
    · have hs := Lib.hid (show saneD b.length ws = false by unfold saneD; rw [Bool.and_eq_false_iff]; left; exact decide_eq_false (by omega))
      have t1 : ((b.length : Int) % 32 != 0) = false := by simp; omega
      have t2 : (4096 : Int) < ((b.length / 32 : Nat) : Int) := by omega
      clear h1 h2
      go_enter Tryd.func22, Tryd.ntmps22
      go_wp2_with (go_at_call 39; refine (sectors_any _ _ _ _ _ (by omega)).mono ?_; rintro e w1 ⟨rfl, hk1⟩; have b0 := keep_box hk1 0 _ rfl; have b1 := keep_box hk1 1 _ rfl; have hz1 := hk1.size; simp at hz1)
      go_ret
      exact ⟨ret_bool hs.out.symm, keep_trans ((Below.refl _ _).alloc (Nat.le_refl _) _) hk1⟩
  · have hs := Lib.hid (show saneD b.length ws = false by unfold saneD; rw [Bool.and_eq_false_iff]; left; exact decide_eq_false (by omega))
    have t1 : ((b.length : Int) % 32 != 0) = true := by simp; omega
    clear h1
    go_enter Tryd.func22, Tryd.ntmps22
    go_wp2
    go_ret
    exact ⟨ret_bool hs.out.symm, (Below.refl _ _).alloc (Nat.le_refl _) _⟩
end Go.Proofs.YtielojlhdnimgaaDoor
