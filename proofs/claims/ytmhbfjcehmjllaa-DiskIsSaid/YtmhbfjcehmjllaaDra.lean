/- florinref18.New, Sane. (printed by gen_dra.py) -/
import Derived.Test.YtmhbfjcehmjllaaDskJ
import Derived.Test.YtmhbfjcehmjllaaPlq
set_option linter.unusedSimpArgs false
set_option linter.unusedVariables false
namespace Go.Proofs.Ytmhbfjcehmjllaa
open Go.RowKit
attribute [local go_sem ↓] Go.wp_at_zero Go.wp_at_succ
set_option maxHeartbeats 400000 in
theorem rnew_any (s : Int) (m : Nat) (w : World) (hm : (m : Int) = max 0 (min s 4096)) :
    Calls Try.prog 24 #[.int .i64 s] w fun e w' => ∃ A c, e = .returned (.agg #[.slice A (32 * m) c, .slice none 0 0]) ∧ w'.ownsRow w.heap.size 5 1 (.slice A (32 * m) c) (32 * m) ((List.replicate (32 * m) 0).map u8v) ∧ Keep w w' := by
  have key : ∀ (v : Value) (k : Nat), k ≤ 4096 → (v = .int .i64 (32 * k : Nat)) → ∀ W, (Instr.makeSlice 22 v v).run Try.prog W = .ok (.slice (some ⟨W.heap.size, 0, none⟩) (32 * k) (32 * k)) (W.alloc (.cells (zeros (32 * k)) 5)) := fun v k hk hv W => by
    subst hv
    rw [byteT.make (32 * k) (32 * k) (by omega) (by omega) (by omega) W]; rfl
  have fin : ∀ (k : Nat) (W : World) (H : Nat), W.heap.size = H → k ≤ 4096 → w.heap.size ≤ W.heap.size → ((W.alloc (.cells (zeros (32 * k)) 5)).ownsRow w.heap.size 5 1 (.slice (some ⟨H, 0, none⟩) (32 * k) (32 * k)) (32 * k) ((List.replicate (32 * k) 0).map u8v)) := fun k W H hH hk hW => by
    subst hH
    have h := World.ownsRow_lit W (base := w.heap.size) (e := 5) (size := 1) (zeros (32 * k)) (32 * k) hW (by unfold maxLen; omega) (by simp [zeros, madeCells])
    rwa [zeros_list] at h
  rcases (show s < 0 ∨ 4096 < s ∨ (0 ≤ s ∧ s ≤ 4096) by omega) with h | h | h
  · obtain rfl : m = 0 := by omega
    have hmk := key (.int .i64 0) 0 (by omega) rfl
    clear key hm
    go_enter Try.func24, Try.ntmps24
    go_wp2
    exact bodyPost_ret (v := .agg #[.slice (some ⟨w.heap.size + 1, 0, none⟩) 0 0, .slice none 0 0]) (by simp [results, Try.results24, go_sem]) rfl ⟨_, _, rfl, (fin 0 _ (w.heap.size + 1) (by simp) (by omega) (by simp)), ((Below.refl _ _).alloc (Nat.le_refl _) _).alloc (by simp) _⟩
  · obtain rfl : m = 4096 := by omega
    have hmk := key (.int .i64 131072) 4096 (by omega) rfl
    clear key hm
    go_enter Try.func24, Try.ntmps24
    go_wp2
    exact bodyPost_ret (v := .agg #[.slice (some ⟨w.heap.size + 1, 0, none⟩) 131072 131072, .slice none 0 0]) (by simp [results, Try.results24, go_sem]) rfl ⟨_, _, rfl, (fin 4096 _ (w.heap.size + 1) (by simp) (by omega) (by simp)), ((Below.refl _ _).alloc (Nat.le_refl _) _).alloc (by simp) _⟩
  · obtain rfl : s = m := by omega
    by_cases h0 : m = 0
    · subst h0
      have hmk := key (.int .i64 0) 0 (by omega) rfl
      clear key hm h
      go_enter Try.func24, Try.ntmps24
      go_wp2
      exact bodyPost_ret (v := .agg #[.slice (some ⟨w.heap.size + 1, 0, none⟩) 0 0, .slice none 0 0]) (by simp [results, Try.results24, go_sem]) rfl ⟨_, _, rfl, (fin 0 _ (w.heap.size + 1) (by simp) (by omega) (by simp)), ((Below.refl _ _).alloc (Nat.le_refl _) _).alloc (by simp) _⟩
    · have h3 : (0 : Int) < m := by omega
      have h4 : ¬ (m : Int) < 0 := by omega
      have h5 : ¬ (m : Int) ≤ 0 := by omega
      have hmk := key (.int .i64 (32 * (m : Int))) m (by omega) (by rw [Int.natCast_mul]; rfl)
      obtain ⟨h1, h2⟩ := h
      clear key hm
      go_enter Try.func24, Try.ntmps24
      go_wp2
      have hfin := fin m (w.alloc (.cells #[.slice (some ⟨w.heap.size + 1, 0, none⟩) (32 * m) (32 * m), .slice none 0 0] 25)) (w.heap.size + 1) (by simp) (by omega) (by simp)
      rw [List.map_replicate] at hfin
      exact bodyPost_ret (v := .agg #[.slice (some ⟨w.heap.size + 1, 0, none⟩) (32 * m) (32 * m), .slice none 0 0]) (by simp [results, Try.results24, go_sem]) rfl ⟨_, _, rfl, hfin, ((Below.refl _ _).alloc (Nat.le_refl _) _).alloc (by simp) _⟩

theorem dra_tr : ∀ p q r : Bool, (p = false) ∨ (p = true ∧ q = true) ∨ (p = true ∧ q = false ∧ r = true) ∨ (p = true ∧ q = false ∧ r = false) := by decide
theorem sane_split {nb : Nat} {ws : List WriteR} (hok : ∀ x ∈ ws, x.ok nb = true) : saneD nb ws = (((nb : Int) % 32 == 0) && decide ((nb : Int) ≤ 131072) && decide ((ws.length : Int) ≤ 100000)) := by
  unfold saneD
  have h : ws.all (·.ok nb) = true := List.all_eq_true.2 hok
  rw [h, Bool.and_true, Bool.eq_iff_iff]
  simp only [decide_eq_true_eq, Bool.and_eq_true, beq_iff_eq]
  omega
set_option maxRecDepth 100000 in
set_option maxHeartbeats 4000000 in
theorem rdsane_any (A : Option Addr) (b : List UInt8) (c : Nat) (PA : Option Addr) (ws : List WriteR) (pc : Nat) (w : World) (h : DOk w A b c PA ws pc) :
    Calls Try.prog 16 #[DV A b.length c PA ws.length pc] w fun e w' => e = .returned (.bool (saneD b.length ws)) ∧ Keep w w' := by
  obtain ⟨rb, bc, cm, rp, pl, pm, ok⟩ := h
  unfold maxLen at cm pm
  obtain ⟨R, hR⟩ : ∃ R, saneD b.length ws = R := ⟨_, rfl⟩
  have bad : Hid (∀ x ∈ ws, x.ok b.length = false → R = false) := Lib.hid fun x hx hf => by
    rw [← hR]
    unfold saneD; rw [Bool.and_eq_false_iff]; right
    rw [List.all_eq_false]; exact ⟨x, hx, by simp [hf]⟩
  have HSP : Hid ((∀ x ∈ ws, x.ok b.length = true) → R = (((b.length : Int) % 32 == 0) && decide ((b.length : Int) ≤ 131072) && decide ((ws.length : Int) ≤ 100000))) := Lib.hid fun h => hR.symm.trans (sane_split h)
  rw [hR]
  have HF : Hid (∀ k (h : k < ws.length), ∃ bp off, ∃ x ∈ ws, PA = some ⟨bp, off, none⟩ ∧ (∀ w', Keep w w' → w'.cell? ⟨bp, off + k * 2, none⟩ = some (.int .i64 x.at_) ∧ w'.cell? ⟨bp, off + k * 2 + 1, none⟩ = some (.slice x.A x.d.length x.cap)) ∧ ws[k]? = some x) := Lib.hid fun k h => by
    obtain ⟨bp, off, h1, _, h2⟩ := WriteR.at2 rp h
    exact ⟨bp, off, _, List.getElem_mem h, h1, h2, List.getElem?_eq_getElem h⟩
  have HWL := Lib.hid (show ws.length = ws.length from rfl)
  clear hR rb ok rp
  go_enter Try.func16, Try.ntmps16
  go_upto_region 1 with fail
  obtain ⟨w1, hw1⟩ : ∃ w1, w1 = w.alloc (.cells #[.slice A b.length c, .slice PA ws.length pc] 25) := ⟨_, rfl⟩
  have b0 : w1.cell? ⟨w.heap.size, 0, none⟩ = some (.slice A b.length c) := by rw [hw1]; exact box_cell _ _ _ 0
  have b1 : w1.cell? ⟨w.heap.size, 1, none⟩ = some (.slice PA ws.length pc) := by rw [hw1]; exact box_cell _ _ _ 1
  have HK1 : Hid (Keep w w1) := by rw [hw1]; exact Lib.hid (keep_new _ _)
  rw [← hw1]
  clear hw1
  have B0 := Lib.hid b0; have B1 := Lib.hid b1
  generalize w.heap.size = g at *
  go_wp2_with fail
  clear b0 b1
  go_loopw [3] (fun i wr => ∃ k : Nat, k ≤ ws.length ∧ i = .int .i64 k ∧ Hid (∀ x ∈ ws.take k, x.ok b.length = true) ∧ Hid (Keep w1 wr)) (fun i _ => ws.length - (intOf i).toNat)
  case atStart => exact ⟨0, Nat.zero_le _, rfl, Lib.hid (by simp), Lib.hid (Below.refl _ _)⟩
  case round =>
    obtain ⟨k, hk, rfl, HA, HKr⟩ := hrel
    have b0 := keep_cell HKr.out B0.out; have b1 := keep_cell HKr.out B1.out
    by_cases hlt : k < ws.length
    · obtain ⟨bp, off, x, hmem, rfl, hc, hget⟩ := HF.out k hlt
      obtain ⟨c0, c1⟩ := hc wr (keep_trans HK1.out HKr.out)
      have HME := Lib.hid hmem; have HGE := Lib.hid hget
      have hlt2 : (k : Int) < ws.length := by omega
      clear hc hmem hget HF
      obtain ⟨p, hp⟩ : ∃ p, ((x.d.length : Int) == 32) = p := ⟨_, rfl⟩
      obtain ⟨q, hq⟩ : ∃ q, decide (x.at_ < 0) = q := ⟨_, rfl⟩
      obtain ⟨r, hr⟩ : ∃ r, decide ((b.length : Int) / 32 ≤ x.at_) = r := ⟨_, rfl⟩
      have hn : ((x.d.length : Int) != 32) = !p := by show (!((x.d.length : Int) == 32)) = _; rw [hp]
      have hok : Hid (x.ok b.length = (p && !q && !r)) := Lib.hid (by
        rw [← hp, ← hq, ← hr]
        unfold WriteR.ok
        rw [Bool.eq_iff_iff]
        simp
        omega)
      go_upto_region 4 with fail
      have a0 := aft_cell b0; have a1 := aft_cell b1; have a2 := aft_cell c0; have a3 := aft_cell c1
      clear b0 b1 c0 c1
      go_cut [40] (fun v wx => v = .bool (!(p && !q && !r)) ∧ Hid (Keep wr wx))
      case first =>
        rcases dra_tr p q r with rfl | ⟨rfl, rfl⟩ | ⟨rfl, rfl, rfl⟩ | ⟨rfl, rfl, rfl⟩
        all_goals
          try simp only [Bool.not_false, Bool.not_true] at hn
          refine wp_region_aft (by kernel_rfl) (by kernel_rfl) wr (Below.refl _ _) ?_
          try simp only [List.append_eq, List.cons_append, List.nil_append]
          repeat (go_big_quiet_step (fail))
          refine wpQuiet_nil ?_
          rintro _ ⟨y, rfl⟩
          have j := Lib.hid (aft_keep wr y)
          go_wp2
          go_meet
          exact ⟨rfl, j⟩
      obtain ⟨rfl, HKc⟩ := hcut
      rw [← hok.out]
      have HKz := Lib.hid (keep_trans HKr.out HKc.out)
      clear hp hq hr hn hok HKc a0 a1 a2 a3
      cases hx : x.ok b.length with
      | false =>
        obtain rfl := bad.out x HME.out hx
        clear bad HSP hx
        go_wp2
        exact bodyPost_ret (v := .bool false) (by simp [results, Try.results16]) rfl ⟨rfl, keep_trans HK1.out HKz.out⟩
      | true =>
        have HA2 : Hid (∀ y ∈ ws.take (k + 1), y.ok b.length = true) := Lib.hid fun y hy => by
          rw [List.take_add_one, HGE.out] at hy
          rcases List.mem_append.1 hy with q | q
          · exact HA.out y q
          · simp at q; subst q; exact hx
        clear HA bad hx
        go_wp2
        go_roundw
        case rel => exact ⟨k + 1, by omega, by go_num, HA2, HKz⟩
        case measure => simp [intOf]; omega
    · have hlt2 : ¬ (k : Int) < ws.length := by omega
      have hR := HSP.out (fun x hx => HA.out x (by rwa [List.take_of_length_le (by omega)]))
      clear HSP bad HA HF hlt
      obtain ⟨p, hp⟩ : ∃ p, ((b.length : Int) % 32 == 0) = p := ⟨_, rfl⟩
      obtain ⟨q, hq⟩ : ∃ q, decide ((b.length : Int) ≤ 131072) = q := ⟨_, rfl⟩
      obtain ⟨r, hr⟩ : ∃ r, decide ((ws.length : Int) ≤ 100000) = r := ⟨_, rfl⟩
      rw [hp, hq, hr] at hR
      go_upto_region 6 with fail
      have a0 := aft_cell b0; have a1 := aft_cell b1
      clear b0 b1
      cases p <;> cases q <;> cases r
      all_goals
        simp only [Bool.and_false, Bool.false_and, Bool.and_true] at hR
        subst hR
        refine wp_region_plainp wr (Below.refl _ _) ?_
        try simp only [List.append_eq, List.cons_append, List.nil_append]
        repeat (go_big_quiet_step (fail))
        refine wpQuiet_nil ?_
        rintro _ ⟨y, rfl⟩
        have j := aft_keep wr y
        go_wp2
        exact bodyPost_ret (v := .bool _) (by simp [results, Try.results16]) rfl ⟨rfl, keep_trans HK1.out (keep_trans HKr.out j)⟩
end Go.Proofs.Ytmhbfjcehmjllaa
