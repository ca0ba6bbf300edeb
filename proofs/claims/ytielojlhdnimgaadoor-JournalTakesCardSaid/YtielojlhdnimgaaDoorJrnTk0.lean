/- A record is taken just as it was written: plain laws. -/
import Derived.Test.YtielojlhdnimgaaDoorJrnY
set_option linter.unusedSimpArgs false
set_option linter.unusedVariables false
namespace Go.Proofs.YtielojlhdnimgaaDoor
open Go.RowKit

theorem takes_law {last : List UInt8} {n : Nat} {h : Hd} (hk : h.ok) {at_ : Nat} (ha : at_ < 128) {y : UInt8} (hy : (recB last n h)[at_]? ≠ some y) (ht : (takeD last n ((recB last n h).set at_ y)).1 = true) :
    at_ < 84 ∧ (takeD last n ((recB last n h).set at_ y)).2.2 = recSum last n h := by
  obtain ⟨h1, h2, h3, h4, h5⟩ := takeD_true ht
  have hl := recB_len last n hk
  generalize hx : (takeD last n ((recB last n h).set at_ y)).2.1 = x at h2 h3 h4 h5
  have hg : ∀ i, (recB last n x)[i]? = if at_ = i then some y else (recB last n h)[i]? := fun i => by
    rw [h2, List.getElem?_set]
    split
    · rename_i e; rw [if_pos (by omega)]
    · rfl
  have hat := hg at_
  rw [if_pos rfl] at hat
  -- the digits ahead
  have hfirst : ∀ i, i < 4 → (recB last n x)[i]? = (recB last n h)[i]? := fun i hi => by
    have e : ∀ z, (recB last n z)[i]? = ((recB last n z).take 4)[i]? := fun z => by rw [List.getElem?_take, if_pos hi]
    rw [e x, e h, recB_first, recB_first]
  have hzero : ∀ (z : Hd), z.ok → ∀ i, 84 ≤ i → i < 96 → (recB last n z)[i]? = some 0 := fun z hz i hi1 hi2 => by
    unfold recB recHead
    have e4 : (le4 (seqN n)).length = 4 := rfl
    rw [List.getElem?_append_left (by rw [List.length_append, List.length_append, hputL_len hz, List.length_replicate]; omega), List.getElem?_append_right (by omega), List.getElem?_append_right (by rw [hputL_len hz]; omega), List.getElem?_replicate, if_pos (by rw [hputL_len hz]; omega)]
  have hlow : at_ < 84 := by
    apply Nat.lt_of_not_le
    intro hge
    by_cases h96 : at_ < 96
    · rw [hzero x h4 at_ hge h96] at hat
      rw [hzero h hk at_ hge h96] at hy
      exact hy hat
    · have e : (((recB last n h).set at_ y).drop 4).take 80 = ((recB last n h).drop 4).take 80 := by
        apply List.ext_getElem?
        intro i
        rw [List.getElem?_take, List.getElem?_take]
        by_cases hi : i < 80
        · rw [if_pos hi, if_pos hi, List.getElem?_drop, List.getElem?_drop, List.getElem?_set, if_neg (by omega)]
        · rw [if_neg hi, if_neg hi]
      rw [e, recB_mid last n hk, hget_put hk] at h5
      rw [h5] at hat
      exact hy hat
  refine ⟨hlow, ?_⟩
  rw [h3, ← recB_sum last n h4, ← recB_sum last n hk]
  apply List.ext_getElem?
  intro i
  rw [List.getElem?_drop, List.getElem?_drop, hg, if_neg (by omega)]
theorem takeD_short {last : List UInt8} {n : Int} {b : List UInt8} (h : b.length ≠ 128) : takeD last n b = (false, zHd, z32) := by
  unfold takeD
  rw [if_neg (fun e => h e.1)]
theorem seqN_next (n : Nat) (hn : n < 100000) : seqN ((n : Int) + 1) ≠ seqN n := by
  intro e
  have h1 := congrArg UInt32.toNat e
  rw [show ((n : Int) + 1) = ((n + 1 : Nat) : Int) by omega, seqN_nat (by omega), seqN_nat (by omega)] at h1
  omega
theorem xor_u8 (x : UInt8) (m : Int) (hm : BitVec.ofInt 8 m ≠ 0#8) : ∃ y : UInt8, bits .xor .u8 (x.toNat : Int) m = (y.toNat : Int) ∧ y ≠ x := by
  refine ⟨⟨x.toBitVec ^^^ BitVec.ofInt 8 m⟩, ?_, fun e => hm ?_⟩
  · have e1 : BitVec.ofInt 8 (x.toNat : Int) = x.toBitVec := by
      apply BitVec.eq_of_toNat_eq
      rw [BitVec.toNat_ofInt]
      have := x.toNat_lt
      show ((x.toNat : Int) % ((2 ^ 8 : Nat) : Int)).toNat = x.toNat
      omega
    show IntKind.u8.wrap (((BitVec.ofInt 8 (x.toNat : Int)) ^^^ BitVec.ofInt 8 m).toNat : Nat) = _
    rw [e1]
    have h2 := (x.toBitVec ^^^ BitVec.ofInt 8 m).isLt
    show IntKind.u8.wrap ((x.toBitVec ^^^ BitVec.ofInt 8 m).toNat : Int) = ((x.toBitVec ^^^ BitVec.ofInt 8 m).toNat : Int)
    generalize (x.toBitVec ^^^ BitVec.ofInt 8 m).toNat = v at h2
    unfold IntKind.wrap
    simp [IntKind.signed, IntKind.bits]
    omega
  · have h1 : x.toBitVec ^^^ BitVec.ofInt 8 m = x.toBitVec := congrArg UInt8.toBitVec e
    have h2 : x.toBitVec ^^^ (x.toBitVec ^^^ BitVec.ofInt 8 m) = x.toBitVec ^^^ x.toBitVec := by rw [h1]
    rw [← BitVec.xor_assoc, BitVec.xor_self, BitVec.zero_xor] at h2
    exact h2
theorem low3 (n : Int) : bits .and .i64 n 7 = n % 8 := by
  have h127 : (BitVec.ofInt 64 7).toNat = 2 ^ 3 - 1 := by decide
  have key : (BitVec.ofInt 64 n &&& BitVec.ofInt 64 7).toNat = (n % ((2 ^ 64 : Nat) : Int)).toNat % 2 ^ 3 := by
    rw [BitVec.toNat_and, BitVec.toNat_ofInt, h127, Nat.and_two_pow_sub_one_eq_mod]
  show IntKind.i64.wrap ((BitVec.ofInt 64 n &&& BitVec.ofInt 64 7).toNat : Nat) = n % 8
  rw [key, IntKind.wrap_i64]
  omega
/-- Two boxes made and filled. -/
theorem two_boxes (w : World) (hz sz hv sv : Array Value) (h1 : hz.size = hv.size) (h2 : sz.size = sv.size) (o1 : ∀ v ∈ hv.toList, v.oneCell' = true) (o2 : ∀ v ∈ sv.toList, v.oneCell' = true) : ∃ wa wb,
    (storeCells ⟨w.heap.size, 0, none⟩ hv.toList 0).run Tryd.prog ((w.alloc (.cells hz 44)).alloc (.cells sz 33)) = .ok () wa ∧ (storeCells ⟨w.heap.size + 1, 0, none⟩ sv.toList 0).run Tryd.prog wa = .ok () wb ∧
    Blk wb w.heap.size 44 hv.toList ∧ Blk wb (w.heap.size + 1) 33 sv.toList ∧ Keep w wb := by
  have b1 : Blk ((w.alloc (.cells hz 44)).alloc (.cells sz 33)) w.heap.size 44 hz.toList := (Blk.new w _ hz.toList).alloc _
  have b2 : Blk ((w.alloc (.cells hz 44)).alloc (.cells sz 33)) (w.heap.size + 1) 33 sz.toList := by
    have h := Blk.new (w.alloc (.cells hz 44)) 33 sz.toList
    rw [World.size_alloc] at h
    exact h
  obtain ⟨wa, s1, c1, g1⟩ := run_store_blk (P := Tryd.prog) hv.toList b1 (by simp [h1]) o1
  obtain ⟨wb, s2, c2, g2⟩ := run_store_blk (P := Tryd.prog) sv.toList (b2.grown g1 (fun e => by have e2 : w.heap.size = w.heap.size + 1 := Option.some.inj e; omega)) (by simp [h2]) o2
  have k0 : Keep w ((w.alloc (.cells hz 44)).alloc (.cells sz 33)) := keep_trans (keep_new _ _) (keep_new _ _)
  have k1 : Keep w wa := k0.grown g1 k0.size (fun q hq => by injection hq with hq; omega)
  exact ⟨wa, wb, s1, s2, c1.grown g2 (fun e => by have e2 : w.heap.size + 1 = w.heap.size := Option.some.inj e; omega), c2, k1.grown g2 k1.size (fun q hq => by injection hq with hq; omega)⟩
end Go.Proofs.YtielojlhdnimgaaDoor
