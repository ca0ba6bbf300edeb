import Derived.Test.YtielojlhdnimgaaDoorDskE
set_option linter.unusedSimpArgs false
set_option linter.unusedVariables false
namespace Go.Proofs.YtielojlhdnimgaaDoor
open Go.RowKit
attribute [local go_sem ↓] Go.wp_at_zero Go.wp_at_succ

/-- Does a row of sectors fit? -/
def layOk (nb np : Nat) (at_ : Int) (n : Nat) : Bool := decide (0 ≤ at_ ∧ at_ ≤ (nb / 32 : Nat) - (n : Int) ∧ np + n ≤ 100000)
def layWs (at_ : Int) (data : List UInt8) (n : Nat) : List (Int × List UInt8) := (List.range n).map fun (k : Nat) => (at_ + k, (data.drop (32 * k)).take 32)
/-- What Lay answers: the writes, and the error. -/
def layD (b : List UInt8) (ws : List WriteR) (at_ : Int) (data : List UInt8) : List (Int × List UInt8) × Int :=
  if data.length % 32 ≠ 0 then ((tkW b ws).map WriteR.pl, 14)
  else if data.length / 32 = 0 then ((tkW b ws).map WriteR.pl, 0)
  else if layOk (tkB b ws).length (tkW b ws).length at_ (data.length / 32) then ((tkW b ws).map WriteR.pl ++ layWs at_ data (data.length / 32), 0)
  else ((tkW b ws).map WriteR.pl, 14)

theorem one_writes (vs : List WriteR) : ∀ u ∈ vs.flatMap WriteR.cells, u.oneCell' = true := by
  intro u hu
  obtain ⟨s, _, hs⟩ := List.mem_flatMap.1 hu
  simp only [WriteR.cells, List.mem_cons, List.not_mem_nil, or_false] at hs
  rcases hs with rfl | rfl <;> rfl

def zerosW (n : Nat) : Array Value := madeCells #[.int .i64 0, .slice none 0 0] (n * 2)
theorem zerosW_len (n : Nat) : (zerosW n).toList.length = n * 2 := by simp [zerosW, madeCells]
/-- The writes that Lay makes, of which the bytes lie in block g. -/
def newW (g : Nat) (at_ : Int) (data : List UInt8) (k : Nat) : List WriteR := (List.range k).map fun (j : Nat) => ⟨at_ + j, some ⟨g, 32 * j, none⟩, 32, (data.drop (32 * j)).take 32⟩
theorem newW_succ (g : Nat) (at_ : Int) (data : List UInt8) (k : Nat) : newW g at_ data (k + 1) = newW g at_ data k ++ [⟨at_ + k, some ⟨g, 32 * k, none⟩, 32, (data.drop (32 * k)).take 32⟩] := by
  simp [newW, List.range_succ]
theorem newW_pl (g : Nat) (at_ : Int) (data : List UInt8) (k : Nat) : (newW g at_ data k).map WriteR.pl = layWs at_ data k := by simp [newW, layWs, WriteR.pl]
theorem newW_len (g : Nat) (at_ : Int) (data : List UInt8) (k : Nat) : (newW g at_ data k).length = k := by simp [newW]

set_option maxRecDepth 100000 in
set_option maxHeartbeats 4000000 in
theorem lay_anyF (A : Option Addr) (b : List UInt8) (c : Nat) (PA : Option Addr) (ws : List WriteR) (pc : Nat) (i : Int) (B : Option Addr) (data : List UInt8) (cd : Nat) (w : World) (F : World → Prop) (hF : ∀ W, Keep w W → F W) (h : ∀ W, F W → DOk W A b c PA ws pc)
    (hdr : Rd w B (data.map u8v)) (hdl : data.length ≤ 1000000) (hi : -9223372036854775808 ≤ i ∧ i ≤ 9223372036854775807) :
    Calls Tryd.prog 31 #[DV A b.length c PA ws.length pc, .int .i64 i, .slice B data.length cd] w fun e w' =>
      ∃ A' c' PA' pc' vs, e = .returned (.tuple #[DV A' (tkB b ws).length c' PA' vs.length pc', .int .i64 (layD b ws i data).2]) ∧ vs.map WriteR.pl = (layD b ws i data).1 ∧
        (∀ W, MidF F w w' W → DOk W A' (tkB b ws) c' PA' vs pc') ∧ Keep w w' := by
  obtain ⟨hi1, hi2⟩ := hi
  have hsane := tk_sane b ws
  by_cases h1 : data.length % 32 = 0
  · by_cases h2 : data.length / 32 = 0
    · have HL := Lib.hid (show layD b ws i data = ((tkW b ws).map WriteR.pl, 0) by unfold layD; rw [if_neg (by omega), if_pos h2])
      have t1 : ((data.length : Int) % 32 != 0) = false := by simp; omega
      have t2 : ((data.length : Int) / 32 == 0) = true := by simp; omega
      clear h1 h2
      go_enter Tryd.func31, Tryd.ntmps31
      go_wp2_with fail
      refine (taken_anyF _ _ _ _ _ _ _ F (fun W hW => hF W (keep_trans (((Below.refl _ _).alloc (Nat.le_refl _) _).alloc (by simp) _) hW)) h).mono ?_
      rintro e w2 ⟨A2, c2, PA2, pc2, rfl, hd, hk2⟩
      have b0 : w2.cell? ⟨w.heap.size, 0, none⟩ = some (.slice A b.length c) := keep_cell hk2 (by go_simp)
      have b1 : w2.cell? ⟨w.heap.size, 1, none⟩ = some (.slice PA ws.length pc) := keep_cell hk2 (by go_simp)
      have f0 : w2.frozen? ⟨w.heap.size, 0, none⟩ = false := keep_frozen hk2 (by simp; omega) (by go_simp)
      have f1 : w2.frozen? ⟨w.heap.size, 1, none⟩ = false := keep_frozen hk2 (by simp; omega) (by go_simp)
      have r0 : w2.cell? ⟨w.heap.size + 1, 0, none⟩ = some (.slice none 0 0) := keep_cell hk2 (by go_simp)
      have r1 : w2.cell? ⟨w.heap.size + 1, 1, none⟩ = some (.slice none 0 0) := keep_cell hk2 (by go_simp)
      have g0 : w2.frozen? ⟨w.heap.size + 1, 0, none⟩ = false := keep_frozen hk2 (by simp) (by go_simp)
      have g1 : w2.frozen? ⟨w.heap.size + 1, 1, none⟩ = false := keep_frozen hk2 (by simp) (by go_simp)
      have k2 : Keep w w2 := keep_trans (((Below.refl _ _).alloc (Nat.le_refl _) _).alloc (by simp) _) hk2
      go_wp2_with fail
      refine bodyPost_ret (v := .tuple #[DV A2 (tkB b ws).length c2 PA2 (tkW b ws).length pc2, .int .i64 0]) (by simp [results, Tryd.results31, go_sem, b0, b1, r0, r1]) rfl ⟨A2, c2, PA2, pc2, tkW b ws, by rw [HL.out], by rw [HL.out], fun W hW => hd W hW.1, (((k2.setCell (by simp) _).setCell (by simp) _).setCell (by simp) _).setCell (by simp) _⟩
    · have t1 : ((data.length : Int) % 32 != 0) = false := by simp; omega
      have t2 : ((data.length : Int) / 32 == 0) = false := by simp; omega
      have HL := Lib.hid (show layD b ws i data = if layOk (tkB b ws).length (tkW b ws).length i (data.length / 32) then ((tkW b ws).map WriteR.pl ++ layWs i data (data.length / 32), 0) else ((tkW b ws).map WriteR.pl, 14) by
        unfold layD; rw [if_neg (by omega), if_neg h2])
      have hn0 : 0 < data.length / 32 := by omega
      have Hn32 := Lib.hid (show 32 * (data.length / 32) = data.length by omega)
      clear h1 h2
      by_cases hi0 : i < 0
      · have HL2 := Lib.hid (show layD b ws i data = ((tkW b ws).map WriteR.pl, 14) by rw [HL.out, if_neg]; unfold layOk; rw [decide_eq_true_eq]; omega)
        go_enter Tryd.func31, Tryd.ntmps31
        go_wp2_with fail
        refine (taken_anyF _ _ _ _ _ _ _ F (fun W hW => hF W (keep_trans (((Below.refl _ _).alloc (Nat.le_refl _) _).alloc (by simp) _) hW)) h).mono ?_
        rintro e w2 ⟨A2, c2, PA2, pc2, rfl, hd, hk2⟩
        have b0 : w2.cell? ⟨w.heap.size, 0, none⟩ = some (.slice A b.length c) := keep_cell hk2 (by go_simp)
        have b1 : w2.cell? ⟨w.heap.size, 1, none⟩ = some (.slice PA ws.length pc) := keep_cell hk2 (by go_simp)
        have f0 : w2.frozen? ⟨w.heap.size, 0, none⟩ = false := keep_frozen hk2 (by simp; omega) (by go_simp)
        have f1 : w2.frozen? ⟨w.heap.size, 1, none⟩ = false := keep_frozen hk2 (by simp; omega) (by go_simp)
        have r0 : w2.cell? ⟨w.heap.size + 1, 0, none⟩ = some (.slice none 0 0) := keep_cell hk2 (by go_simp)
        have r1 : w2.cell? ⟨w.heap.size + 1, 1, none⟩ = some (.slice none 0 0) := keep_cell hk2 (by go_simp)
        have g0 : w2.frozen? ⟨w.heap.size + 1, 0, none⟩ = false := keep_frozen hk2 (by simp) (by go_simp)
        have g1 : w2.frozen? ⟨w.heap.size + 1, 1, none⟩ = false := keep_frozen hk2 (by simp) (by go_simp)
        have k2 : Keep w w2 := keep_trans (((Below.refl _ _).alloc (Nat.le_refl _) _).alloc (by simp) _) hk2
        go_wp2_with fail
        refine bodyPost_ret (v := .tuple #[DV A2 (tkB b ws).length c2 PA2 (tkW b ws).length pc2, .int .i64 14]) (by simp [results, Tryd.results31, go_sem, b0, b1, r0, r1]) rfl ⟨A2, c2, PA2, pc2, tkW b ws, by rw [HL2.out], by rw [HL2.out], fun W hW => hd W hW.1, (((k2.setCell (by simp) _).setCell (by simp) _).setCell (by simp) _).setCell (by simp) _⟩
      · have hi0' : 0 ≤ i := by omega
        go_enter Tryd.func31, Tryd.ntmps31
        go_wp2_with fail
        refine (taken_anyF _ _ _ _ _ _ _ F (fun W hW => hF W (keep_trans (((Below.refl _ _).alloc (Nat.le_refl _) _).alloc (by simp) _) hW)) h).mono ?_
        rintro e w2 ⟨A2, c2, PA2, pc2, rfl, hd, hk2⟩
        have b0 : w2.cell? ⟨w.heap.size, 0, none⟩ = some (.slice A b.length c) := keep_cell hk2 (by go_simp)
        have b1 : w2.cell? ⟨w.heap.size, 1, none⟩ = some (.slice PA ws.length pc) := keep_cell hk2 (by go_simp)
        have f0 : w2.frozen? ⟨w.heap.size, 0, none⟩ = false := keep_frozen hk2 (by simp; omega) (by go_simp)
        have f1 : w2.frozen? ⟨w.heap.size, 1, none⟩ = false := keep_frozen hk2 (by simp; omega) (by go_simp)
        have r0 : w2.cell? ⟨w.heap.size + 1, 0, none⟩ = some (.slice none 0 0) := keep_cell hk2 (by go_simp)
        have r1 : w2.cell? ⟨w.heap.size + 1, 1, none⟩ = some (.slice none 0 0) := keep_cell hk2 (by go_simp)
        have g0 : w2.frozen? ⟨w.heap.size + 1, 0, none⟩ = false := keep_frozen hk2 (by simp) (by go_simp)
        have g1 : w2.frozen? ⟨w.heap.size + 1, 1, none⟩ = false := keep_frozen hk2 (by simp) (by go_simp)
        have k2 : Keep w w2 := keep_trans (((Below.refl _ _).alloc (Nat.le_refl _) _).alloc (by simp) _) hk2
        go_wp2_with fail
        have k3 := (k2.setCell (p := ⟨w.heap.size, 0, none⟩) (by simp) (.slice A2 (tkB b ws).length c2)).setCell (p := ⟨w.heap.size, 1, none⟩) (by simp) (.slice PA2 (tkW b ws).length pc2)
        have hd3 := hd _ (hF _ k3)
        generalize hbb : tkB b ws = bb at hsane k3 hd3 hd HL ⊢
        generalize hwv : tkW b ws = wv at hsane k3 hd3 hd HL ⊢
        have Hbb := Lib.hid hbb; have Hwv := Lib.hid hwv; have Hd := Lib.hid hd
        clear hbb hwv
        have e0 : ((w2.setCell ⟨w.heap.size, 0, none⟩ (.slice A2 bb.length c2)).setCell ⟨w.heap.size, 1, none⟩ (.slice PA2 wv.length pc2)).cell? ⟨w.heap.size, 0, none⟩ = some (.slice A2 bb.length c2) := by go_simp
        have e1 : ((w2.setCell ⟨w.heap.size, 0, none⟩ (.slice A2 bb.length c2)).setCell ⟨w.heap.size, 1, none⟩ (.slice PA2 wv.length pc2)).cell? ⟨w.heap.size, 1, none⟩ = some (.slice PA2 wv.length pc2) := by go_simp
        have q0 : ((w2.setCell ⟨w.heap.size, 0, none⟩ (.slice A2 bb.length c2)).setCell ⟨w.heap.size, 1, none⟩ (.slice PA2 wv.length pc2)).cell? ⟨w.heap.size + 1, 0, none⟩ = some (.slice none 0 0) := by go_simp
        have q1 : ((w2.setCell ⟨w.heap.size, 0, none⟩ (.slice A2 bb.length c2)).setCell ⟨w.heap.size, 1, none⟩ (.slice PA2 wv.length pc2)).cell? ⟨w.heap.size + 1, 1, none⟩ = some (.slice none 0 0) := by go_simp
        have y0 : ((w2.setCell ⟨w.heap.size, 0, none⟩ (.slice A2 bb.length c2)).setCell ⟨w.heap.size, 1, none⟩ (.slice PA2 wv.length pc2)).frozen? ⟨w.heap.size + 1, 0, none⟩ = false := by go_simp
        have y1 : ((w2.setCell ⟨w.heap.size, 0, none⟩ (.slice A2 bb.length c2)).setCell ⟨w.heap.size, 1, none⟩ (.slice PA2 wv.length pc2)).frozen? ⟨w.heap.size + 1, 1, none⟩ = false := by go_simp
        generalize ((w2.setCell ⟨w.heap.size, 0, none⟩ (.slice A2 bb.length c2)).setCell ⟨w.heap.size, 1, none⟩ (.slice PA2 wv.length pc2)) = w3 at k3 hd3 e0 e1 q0 q1 y0 y1 ⊢
        clear b0 b1 f0 f1 hk2 hd r0 r1 g0 g1
        have hbc := hd3.bc; have hcm := hd3.cm; have hwl := hd3.pl; have hpm := hd3.pm
        unfold maxLen at hcm hpm
        have hsl := sane_len hsane
        obtain ⟨hsl1, hsl2, hsl3⟩ := hsl
        refine (sectors_any _ _ _ _ _ (by omega)).mono ?_
        rintro e w4 ⟨rfl, hk4⟩
        have Hd3 := Lib.hid hd3; clear hd3
        replace e0 := keep_cell hk4 e0
        replace e1 := keep_cell hk4 e1
        replace y0 := keep_frozen hk4 (cell_lt q0) y0
        replace y1 := keep_frozen hk4 (cell_lt q1) y1
        replace q0 := keep_cell hk4 q0
        replace q1 := keep_cell hk4 q1
        have k4 := keep_trans k3 hk4
        have Hsl1 := Lib.hid hsl1; clear hsl1
        by_cases e2 : ((bb.length / 32 : Nat) : Int) - ((data.length / 32 : Nat) : Int) < i
        · have HL2 := Lib.hid (show layD b ws i data = (wv.map WriteR.pl, 14) by rw [HL.out, if_neg]; unfold layOk; rw [decide_eq_true_eq]; omega)
          go_wp2_with fail
          refine bodyPost_ret (v := .tuple #[DV A2 bb.length c2 PA2 wv.length pc2, .int .i64 14]) (by simp [results, Tryd.results31, go_sem, e0, e1, q0, q1]) rfl ?_
          rw [Hbb.out]
          exact ⟨A2, c2, PA2, pc2, wv, by rw [HL2.out], by rw [HL2.out], fun W hW => Hd.out W hW.1, (k4.setCell (by simp) _).setCell (by simp) _⟩
        · by_cases e3 : wv.length + data.length / 32 ≤ 100000
          · have HL2 := Lib.hid (show layD b ws i data = (wv.map WriteR.pl ++ layWs i data (data.length / 32), 0) by rw [HL.out, if_pos]; unfold layOk; rw [decide_eq_true_eq]; omega)
            go_wp2_with fail
            refine (clone_any _ data _ _ (by omega) (hdr.keep k4)).mono ?_
            rintro e w5 ⟨v5, rfl, hown5, hk5⟩
            have hq4 : w.heap.size + 1 < w4.heap.size := cell_lt q0
            obtain ⟨g5, c5, rfl, hg5b, hg5l⟩ := hown5.form (by omega)
            have hb5 : data.length ≤ c5 ∧ c5 ≤ 9223372036854775807 := by
              obtain ⟨_, _, h1, h2, h3, _⟩ := own_form hown5
              injection h1 with _ _ h1
              unfold maxLen at h3
              omega
            obtain ⟨hc5, hm5⟩ := hb5
            have Hrd5 := Lib.hid (own_rd hown5); clear hown5
            replace e0 := keep_cell hk5 e0
            replace e1 := keep_cell hk5 e1
            replace y0 := keep_frozen hk5 (cell_lt q0) y0
            replace y1 := keep_frozen hk5 (cell_lt q1) y1
            replace q0 := keep_cell hk5 q0
            replace q1 := keep_cell hk5 q1
            have k5 := keep_trans k4 hk5
            have hmk : ∀ W, (Instr.makeSlice 29 (.int .i64 (wv.length : Int)) (.int .i64 ((wv.length : Int) + (data.length : Int) / 32))).run Tryd.prog W = .ok (.slice (some ⟨W.heap.size, 0, none⟩) wv.length (wv.length + data.length / 32)) (W.alloc (.cells (zerosW (wv.length + data.length / 32)) 69)) := fun W => by
              have h1 := writeT.make wv.length (wv.length + data.length / 32) (by omega) (by omega) (by omega) W
              rw [show ((wv.length + data.length / 32 : Nat) : Int) = (wv.length : Int) + (data.length : Int) / 32 by omega] at h1
              exact h1
            have hz5 := k5.size
            have hl0 : w.heap.size < w5.heap.size := cell_lt e0
            have hl1 : w.heap.size + 1 < w5.heap.size := cell_lt q0
            have Hr6 := Lib.hid (((Hd.out _ (hF _ k5)).rp).alloc (.cells (zerosW (wv.length + data.length / 32)) 69))
            go_wp2_with (refine wpL_cpyN writeT w5.heap.size 0 wv.length (wv.length + data.length / 32) (by rfl) PA2 wv.length pc2 (wv.flatMap WriteR.cells) (by rfl) (flatMap_len _ 2 (fun _ => rfl) _) Hr6.out (one_writes _) (zerosW (wv.length + data.length / 32)).toList 69 (by rw [Array.toArray_toList]; exact heap_alloc_new _ _) (by rw [zerosW_len, Nat.min_self]; omega) ?_; intro w6 hcur6 hg6)
            have k6 : Keep w5 w6 := ((Below.refl _ _).alloc (Nat.le_refl _) _).grown hg6 (by simp) (fun k hk => by injection hk with hk; omega)
            have hcur := hcur6.out
            rw [Nat.min_self, List.take_of_length_le (by rw [flatMap_len _ 2 (fun _ => rfl)]; omega)] at hcur
            have Hown6 := Lib.hid (own_fill (base := w5.heap.size) (n := wv.length) (c := wv.length + data.length / 32) (size := 2) hcur (Nat.le_refl _) (flatMap_len _ 2 (fun _ => rfl) _) (zerosW_len _) (by omega) (by unfold maxLen; omega))
            have E0 := Lib.hid e0; have E1 := Lib.hid e1; have Q0 := Lib.hid q0; have Q1 := Lib.hid q1; have Y0 := Lib.hid y0; have Y1 := Lib.hid y1
            clear hcur hcur6 hg6 e0 e1 q0 q1 y0 y1 hmk
            go_loopw [9, 59] (fun v j wr => ∃ k : Nat, k ≤ data.length / 32 ∧ j = .int .i64 k ∧ wr.ownsRow w5.heap.size 69 2 v (wv.length + k) ((wv ++ newW g5 i data k).flatMap WriteR.cells) ∧ Below w5.heap.size w5 wr)
              (fun _ j _ => data.length / 32 - (intOf j).toNat)
            case atStart => exact ⟨0, Nat.zero_le _, rfl, by simpa [newW] using Hown6.out, k6⟩
            case round =>
              obtain ⟨k, hk, rfl, hown, hkr⟩ := hrel
              have Hown := Lib.hid hown; clear hown
              have hzr := hkr.size
              by_cases hlt : k < data.length / 32
              · have hlt' : (k : Int) < (data.length : Int) / 32 := by omega
                have h32 : 32 * k + 32 ≤ data.length := by have := Hn32.out; omega
                go_wp2_with (first
                  | (go_at_call 42; refine (sector_any g5 0 data.length c5 k _ h32 hc5 hm5 _ rfl).mono ?_; rintro e w7 ⟨rfl, rfl⟩)
                  | (at_builtin; refine wpList_app writeT (by rfl) (.tmp 62) (.tmp 70) (by rfl) w5.heap.size _ (wv.length + k) _ (by rfl) (Hown.out.alloc _) _ 1 1 [.int .i64 (i + k), .slice (some ⟨g5, 32 * k, none⟩) 32 32] (by rfl) (by rfl) (Rd.new _ _ _) (by simp [Value.oneCell']) (by omega) (by unfold maxLen; omega) (by simp; omega) ?_; intro v8 w8 hown8 hg8 hat8))
                go_roundw
                case rel =>
                  refine ⟨k + 1, by omega, by go_num, ?_, keep_grown (hkr.alloc hzr _) (by simp; omega) hg8 (Hown.out.alloc _)⟩
                  refine own_eq hown8 (by omega) ?_
                  have hl : ((data.drop (32 * k)).take 32).length = 32 := by simp; omega
                  rw [newW_succ, ← List.append_assoc, List.flatMap_append (xs := wv ++ newW g5 i data k)]
                  simp only [List.flatMap_cons, List.flatMap_nil, WriteR.cells, hl, List.append_nil]
                case measure => simp [intOf]; omega
              · obtain rfl : k = data.length / 32 := by omega
                have e0 := keep_cell hkr E0.out; have e1 := keep_cell hkr E1.out; have q0 := keep_cell hkr Q0.out; have q1 := keep_cell hkr Q1.out
                have y0 := keep_frozen hkr hl1 Y0.out; have y1 := keep_frozen hkr hl1 Y1.out
                obtain ⟨A9, c9, rfl, hc9, hm9, -⟩ := own_form Hown.out
                have hlen : (wv ++ newW g5 i data (data.length / 32)).length = wv.length + data.length / 32 := by simp [newW_len]
                have Hlen := Lib.hid hlen; clear hlen
                go_wp2_with fail
                refine bodyPost_ret (v := .tuple #[DV A2 bb.length c2 A9 (wv.length + data.length / 32) c9, .int .i64 0]) (by simp [results, Tryd.results31, go_sem, e0, e1, q0, q1]) rfl ?_
                rw [Hbb.out]
                have kf : Keep w ((wr.setCell ⟨w.heap.size + 1, 0, none⟩ (.slice A2 bb.length c2)).setCell ⟨w.heap.size + 1, 1, none⟩ (.slice A9 (wv.length + data.length / 32) c9)) := ((keep_trans k5 hkr).setCell (by simp) _).setCell (by simp) _
                refine ⟨A2, c2, A9, c9, wv ++ newW g5 i data (data.length / 32), by rw [HL2.out, Hlen.out], by rw [HL2.out, List.map_append, newW_pl], fun W hW => ?_, kf⟩
                have hd9 := Hd.out W hW.1
                have ho9 := ownsRow_setCell_below (ownsRow_setCell_below Hown.out (a := ⟨w.heap.size + 1, 0, none⟩) hl1 (.slice A2 bb.length c2)) (a := ⟨w.heap.size + 1, 1, none⟩) hl1 (.slice A9 (wv.length + data.length / 32) c9)
                refine ⟨hd9.rb, hd9.bc, hd9.cm, own_mid ho9 hz5 hW, by rw [Hlen.out]; exact hc9, hm9, fun x hx => ?_⟩
                rcases List.mem_append.1 hx with hx | hx
                · exact hd9.ok x hx
                · obtain ⟨j, hj, rfl⟩ := List.mem_map.1 hx
                  have hj := List.mem_range.1 hj
                  have hgne : w.heap.size + 1 ≠ g5 := by omega
                  have h1 := ((((Hrd5.out.keep hkr).far (p := ⟨w.heap.size + 1, 0, none⟩) hgne (.slice A2 bb.length c2)).far (p := ⟨w.heap.size + 1, 1, none⟩) hgne (.slice A9 (wv.length + data.length / 32) c9)).mid (by omega) hW).sub (32 * j) 32 (by simp; have := Hn32.out; omega)
                  rw [Nat.zero_add, ← List.map_drop, ← List.map_take] at h1
                  refine ⟨h1, ?_, by unfold maxLen; simp⟩
                  exact Nat.le_trans (List.length_take_le _ _) (Nat.le_refl _)
          · have HL2 := Lib.hid (show layD b ws i data = (wv.map WriteR.pl, 14) by rw [HL.out, if_neg]; unfold layOk; rw [decide_eq_true_eq]; omega)
            go_wp2_with fail
            refine bodyPost_ret (v := .tuple #[DV A2 bb.length c2 PA2 wv.length pc2, .int .i64 14]) (by simp [results, Tryd.results31, go_sem, e0, e1, q0, q1]) rfl ?_
            rw [Hbb.out]
            exact ⟨A2, c2, PA2, pc2, wv, by rw [HL2.out], by rw [HL2.out], fun W hW => Hd.out W hW.1, (k4.setCell (by simp) _).setCell (by simp) _⟩
  · have HL := Lib.hid (show layD b ws i data = ((tkW b ws).map WriteR.pl, 14) by unfold layD; rw [if_pos h1])
    have t1 : ((data.length : Int) % 32 != 0) = true := by simp; omega
    clear h1
    go_enter Tryd.func31, Tryd.ntmps31
    go_wp2_with fail
    refine (taken_anyF _ _ _ _ _ _ _ F (fun W hW => hF W (keep_trans (((Below.refl _ _).alloc (Nat.le_refl _) _).alloc (by simp) _) hW)) h).mono ?_
    rintro e w2 ⟨A2, c2, PA2, pc2, rfl, hd, hk2⟩
    have b0 : w2.cell? ⟨w.heap.size, 0, none⟩ = some (.slice A b.length c) := keep_cell hk2 (by go_simp)
    have b1 : w2.cell? ⟨w.heap.size, 1, none⟩ = some (.slice PA ws.length pc) := keep_cell hk2 (by go_simp)
    have f0 : w2.frozen? ⟨w.heap.size, 0, none⟩ = false := keep_frozen hk2 (by simp; omega) (by go_simp)
    have f1 : w2.frozen? ⟨w.heap.size, 1, none⟩ = false := keep_frozen hk2 (by simp; omega) (by go_simp)
    have r0 : w2.cell? ⟨w.heap.size + 1, 0, none⟩ = some (.slice none 0 0) := keep_cell hk2 (by go_simp)
    have r1 : w2.cell? ⟨w.heap.size + 1, 1, none⟩ = some (.slice none 0 0) := keep_cell hk2 (by go_simp)
    have g0 : w2.frozen? ⟨w.heap.size + 1, 0, none⟩ = false := keep_frozen hk2 (by simp) (by go_simp)
    have g1 : w2.frozen? ⟨w.heap.size + 1, 1, none⟩ = false := keep_frozen hk2 (by simp) (by go_simp)
    have k2 : Keep w w2 := keep_trans (((Below.refl _ _).alloc (Nat.le_refl _) _).alloc (by simp) _) hk2
    go_wp2_with fail
    refine bodyPost_ret (v := .tuple #[DV A2 (tkB b ws).length c2 PA2 (tkW b ws).length pc2, .int .i64 14]) (by simp [results, Tryd.results31, go_sem, b0, b1, r0, r1]) rfl ⟨A2, c2, PA2, pc2, tkW b ws, by rw [HL.out], by rw [HL.out], fun W hW => hd W hW.1, (((k2.setCell (by simp) _).setCell (by simp) _).setCell (by simp) _).setCell (by simp) _⟩
theorem lay_any (A : Option Addr) (b : List UInt8) (c : Nat) (PA : Option Addr) (ws : List WriteR) (pc : Nat) (i : Int) (B : Option Addr) (data : List UInt8) (cd : Nat) (w w0 : World) (hk0 : Keep w0 w) (h : DOk w0 A b c PA ws pc)
    (hdr : Rd w0 B (data.map u8v)) (hdl : data.length ≤ 1000000) (hi : -9223372036854775808 ≤ i ∧ i ≤ 9223372036854775807) :
    Calls Tryd.prog 31 #[DV A b.length c PA ws.length pc, .int .i64 i, .slice B data.length cd] w fun e w' =>
      ∃ A' c' PA' pc' vs, e = .returned (.tuple #[DV A' (tkB b ws).length c' PA' vs.length pc', .int .i64 (layD b ws i data).2]) ∧ vs.map WriteR.pl = (layD b ws i data).1 ∧
        (∀ W, Mid w0 w w' W → DOk W A' (tkB b ws) c' PA' vs pc') ∧ Keep w w' :=
  lay_anyF A b c PA ws pc i B data cd w (fun W => Keep w0 W) (fun W hW => keep_trans hk0 hW) (fun W hW => h.keep hW) (hdr.keep hk0) hdl hi
end Go.Proofs.YtielojlhdnimgaaDoor
