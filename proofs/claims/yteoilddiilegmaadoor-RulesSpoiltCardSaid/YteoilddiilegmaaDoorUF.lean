/- hash.Number. -/
import Derived.Test.YteoilddiilegmaaDoorUE
set_option linter.unusedSimpArgs false
set_option linter.unusedVariables false
namespace Go.Proofs.YteoilddiilegmaaDoor
open Go.RowKit
attribute [local go_sem ↓] Go.wp_at_zero Go.wp_at_succ

theorem idx_hash {l : List UInt8} {cs : Array Value} (h : HashA l cs) (hl : l.length = 32) (k : Nat) (hk : k < 32) (w : World) :
    (Instr.index 28 (.agg cs) (.int .i64 k)).run Tryd.prog w = .ok (u8v (l.getD k 0)) w := by
  have hc : cs[k]? = some (u8v (l.getD k 0)) := by
    rw [← Array.getElem?_toList, h.l, List.getElem?_map, List.getElem?_eq_getElem (show k < l.length by omega), List.getD_eq_getElem?_getD, List.getElem?_eq_getElem (show k < l.length by omega)]
    rfl
  have hp : (part 5 cs (k * 1)).run Tryd.prog w = .ok (u8v (l.getD k 0)) w := by
    simp [part, isAgg, run_underlying Tryd.underlying5, hc]
  have hi : (asIntOf (.int .i64 (k : Int))).run Tryd.prog w = .ok (.i64, (k : Int)) w := rfl
  unfold Instr.index
  simp only [Sem.run_bind, hi, Result.andThen_ok, run_underlying hash_under]
  rw [if_pos ⟨by omega, by omega⟩]
  simp only [Sem.run_bind, u8_size, Result.andThen_ok, Int.toNat_natCast, hp]

theorem uL_byte (T x k : Nat) (hT : T < 2 ^ (8 * k)) (hx : x < 256) (hk : k < 32) : (uL T).set (k / 8) (n64 (limb T (k / 8) ||| (x * 2 ^ (8 * (k % 8))))) = uL (T + 2 ^ (8 * k) * x) := by
  unfold uL
  rw [byte_limb T x k 0 hT hx, byte_limb T x k 1 hT hx, byte_limb T x k 2 hT hx, byte_limb T x k 3 hT hx]
  rcases (show k / 8 = 0 ∨ k / 8 = 1 ∨ k / 8 = 2 ∨ k / 8 = 3 by omega) with e | e | e | e <;> rw [e] <;> rfl
theorem or_byte (x y e : Nat) (hx : x < 2 ^ 64) (hy : y < 256) (he : e ≤ 56) : bits .or .u64 (x : Int) (IntKind.u64.wrap ((y : Int) * 2 ^ e)) = ((x ||| y * 2 ^ e : Nat) : Int) := by
  have h0 : y * 2 ^ e < 2 ^ 64 := by
    have h1 : 2 ^ e ≤ 2 ^ 56 := Nat.pow_le_pow_right (by decide) he
    have h2 : y * 2 ^ e ≤ 255 * 2 ^ 56 := Nat.mul_le_mul (by omega) h1
    have h3 : 255 * 2 ^ 56 < 2 ^ 64 := by decide
    omega
  have h1 : IntKind.u64.wrap ((y : Int) * 2 ^ e) = ((y * 2 ^ e : Nat) : Int) := by
    rw [IntKind.wrap_u64, show (y : Int) * 2 ^ e = ((y * 2 ^ e : Nat) : Int) by rw [Int.natCast_mul]; rfl]
    have : 2 ^ 64 = 18446744073709551616 := by decide
    omega
  rw [h1]
  exact bits_or_u64_nat _ _ hx h0

set_option maxRecDepth 100000 in
set_option maxHeartbeats 2000000 in
theorem hnum_any (l : List UInt8) (cs : Array Value) (w : World) (hl : l.length = 32) (h : HashA l cs) :
    Calls Tryd.prog 33 #[.agg cs] w fun e w' => e = .returned (uV (leN l)) ∧ Keep w w' := by
  have hz := h.z; have hn := h.n; have hi := h.i
  have hI : Hid (∀ k : Nat, k < 32 → ∀ w, (Instr.index 28 (.agg cs) (.int .i64 k)).run Tryd.prog w = .ok (u8v (l.getD k 0)) w) := Lib.hid fun k hk w => idx_hash h hl k hk w
  have HT : Hid (∀ k : Nat, k < 32 → leN (l.take k) < 2 ^ (8 * k) ∧ leN (l.take (k + 1)) = leN (l.take k) + 2 ^ (8 * k) * (l.getD k 0).toNat) := Lib.hid fun k hk => by
    have hlt : (l.take k).length = k := by rw [List.length_take]; omega
    refine ⟨by have := leN_lt (l.take k); rw [hlt] at this; exact this, ?_⟩
    rw [List.take_succ_eq_append_getElem (by omega), leN_snoc, hlt, List.getD_eq_getElem?_getD, List.getElem?_eq_getElem (show k < l.length by omega)]
    rfl
  have HE : Hid (leN (l.take 32) = leN l) := Lib.hid (by rw [List.take_of_length_le (by omega)])
  have H := Lib.hid h
  clear h hl
  generalize leN l = M at *
  go_enter Tryd.func33, Tryd.ntmps33
  go_upto_region 2 with fail
  obtain ⟨w1, hw1⟩ : ∃ w1, w1 = (((w.alloc (.cells cs 28)).alloc (.cells #[.int .u64 0, .int .u64 0, .int .u64 0, .int .u64 0] 49)).alloc (.cells #[.int .u64 0, .int .u64 0, .int .u64 0, .int .u64 0] 49)) := ⟨_, rfl⟩
  have HA1 : Hid (Blk w1 w.heap.size 28 cs.toList) := by rw [hw1]; exact ((Blk.new w 28 cs.toList).alloc _).alloc _
  have HR1 : Hid (Blk w1 (w.heap.size + 1) 49 [.int .u64 0, .int .u64 0, .int .u64 0, .int .u64 0]) := by
    rw [hw1]
    have h2 := Blk.new (w.alloc (.cells cs 28)) 49 [.int .u64 0, .int .u64 0, .int .u64 0, .int .u64 0]
    rw [World.size_alloc] at h2
    exact h2.alloc _
  have HO1 : Hid (Blk w1 (w.heap.size + 1 + 1) 49 (uL (leN (l.take 0)))) := by
    have e : uL (leN (l.take 0)) = [.int .u64 0, .int .u64 0, .int .u64 0, .int .u64 0] := by rw [List.take_zero]; simp [uL, n64, leN, limb0]
    rw [hw1, e]
    have h2 := Blk.new ((w.alloc (.cells cs 28)).alloc (.cells #[.int .u64 0, .int .u64 0, .int .u64 0, .int .u64 0] 49)) 49 [.int .u64 0, .int .u64 0, .int .u64 0, .int .u64 0]
    rw [World.size_alloc, World.size_alloc] at h2
    exact h2
  have HK1 : Hid (Keep w w1) := by rw [hw1]; exact keep_trans (keep_trans (keep_new _ _) (keep_new _ _)) (keep_new _ _)
  rw [← hw1]
  clear hw1
  go_wp2_with ((with_reducible refine load_arr w.heap.size cs (Eq.trans ?_ rfl) HA1.out (.array 32 5) hash_under (arr_row _ _) hi ?_); rfl)
  go_loopw [4, 5, 7] (fun _ _ i wr => ∃ k : Nat, k ≤ 32 ∧ i = .int .i64 (k : Int) ∧ Hid (Blk wr (w.heap.size + 1 + 1) 49 (uL (leN (l.take k)))) ∧ Hid (Blk wr (w.heap.size + 1) 49 [.int .u64 0, .int .u64 0, .int .u64 0, .int .u64 0]) ∧ Hid (Keep w wr)) (fun _ _ i _ => (32 - intOf i).toNat)
  case atStart => exact ⟨0, by omega, rfl, HO1, HR1, HK1⟩
  case round =>
    obtain ⟨k, hk, rfl, HO, HR, HK⟩ := hrel
    by_cases hlt : k < 32
    · have i1 : (k : Int) < 32 := by omega
      have ix := hI.out k hlt
      obtain ⟨hT, hS⟩ := HT.out k hlt
      have hx := (l.getD k 0).toNat_lt
      have hset := uL_byte (leN (l.take k)) (l.getD k 0).toNat k hT hx hlt
      rw [← hS] at hset
      have Hset := Lib.hid hset
      have q1 : Int.tdiv (k : Int) 8 = ((k / 8 : Nat) : Int) := by rw [Int.tdiv_eq_ediv_of_nonneg (by omega)]; omega
      have q2 : Int.tmod (k : Int) 8 = ((k % 8 : Nat) : Int) := by rw [Int.tmod_eq_emod_of_nonneg (by omega)]; omega
      generalize l.getD k 0 = x at *
      generalize hT2 : leN (l.take (k + 1)) = T2 at *
      have HT2 := Lib.hid hT2
      clear hT2
      generalize leN (l.take k) = T at *
      have hd8 : k / 8 < 4 := by omega
      have hr8 : k % 8 < 8 := by omega
      generalize hqe : k / 8 = q at *
      generalize hre : k % 8 = r at *
      clear hset hT hS hqe hre
      go_upto_region 5 with fail
      refine wp_region_tree (.take [0,1,2,3,4,5,6,7,8,9,10,11] .done) [12] (by kernel_rfl) (by kernel_rfl) (fun w9 k9 => ?_)
      have HO9 := Lib.hid (HO.out.keep k9); have HR9 := Lib.hid (HR.out.keep k9); have HK9 := Lib.hid (keep_trans HK.out k9)
      clear k9
      have p0 : w9.cell? ⟨w.heap.size + 1 + 1, q, none⟩ = some (n64 (limb T q)) := by rw [HO9.out.cell, uL_get T q hd8]
      have o0 := aft_cell p0
      have of9 : w9.frozen? ⟨w.heap.size + 1 + 1, q, none⟩ = false := HO9.out.frozen _
      refine mt_take w9 (Below.refl _ _) ?_
      simp only [pick_cons, pick_nil, nth_zero, nth_succ]
      repeat (go_big_quiet_step (fail))
      refine wpQuiet_nil ?_
      refine mt_end ?_
      clear o0
      go_wp2
      go_roundw
      case rel =>
        rw [or_byte _ _ _ (limb_lt T q) hx (by omega)]
        refine ⟨k + 1, by omega, by go_num, Lib.hid ?_, Lib.hid (HR9.out.far (by simp) _), Lib.hid (Below.setCell HK9.out (by simp; omega) _)⟩
        have h1 := HO9.out.set_ q (n64 (limb T q ||| (x.toNat * 2 ^ (8 * r))))
        rw [Hset.out, ← HT2.out] at h1
        exact h1
      case measure => simp [intOf]; omega
    · obtain rfl : k = 32 := by omega
      have hO := HO.out
      rw [HE.out] at hO
      have hR := HR.out
      have o0 := hO.cell 0; have o1 := hO.cell 1; have o2 := hO.cell 2; have o3 := hO.cell 3
      have r0 := hR.cell 0; have r1 := hR.cell 1; have r2 := hR.cell 2; have r3 := hR.cell 3
      have f0 := hR.frozen 0; have f1 := hR.frozen 1; have f2 := hR.frozen 2; have f3 := hR.frozen 3
      simp only [uL, List.getElem?_cons_zero, List.getElem?_cons_succ] at o0 o1 o2 o3 r0 r1 r2 r3
      have hb8 := (((HR.out.set_ 0 (n64 (limb M 0))).set_ 1 (n64 (limb M 1))).set_ 2 (n64 (limb M 2))).set_ 3 (n64 (limb M 3))
      have HK8 : Hid (Keep w ((((wr.setCell ⟨w.heap.size + 1, 0, none⟩ (n64 (limb M 0))).setCell ⟨w.heap.size + 1, 1, none⟩ (n64 (limb M 1))).setCell ⟨w.heap.size + 1, 2, none⟩ (n64 (limb M 2))).setCell ⟨w.heap.size + 1, 3, none⟩ (n64 (limb M 3)))) := by
        refine Lib.hid ?_
        iterate 4 (refine Below.setCell ?_ (by simp) _)
        exact HK.out
      have Hb8 := Lib.hid hb8
      clear hb8 hO hR HO HR HT HE hI HO1 HA1 HR1 HK1
      go_wp2
      exact bodyPost_ret (v := uV M) (results_cell_row Tryd.results33 _ _ (w.heap.size + 1) _ _ _ _ rfl Hb8.out Tryd.underlying49 rfl (by kernel_rfl)) rfl ⟨rfl, HK8.out⟩
end Go.Proofs.YteoilddiilegmaaDoor
