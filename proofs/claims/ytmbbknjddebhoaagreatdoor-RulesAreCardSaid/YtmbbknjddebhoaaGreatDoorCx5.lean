/- Texts merged by pack.py: NSa, UB, UC, MoG, UD, UE, UF, UG, UH. -/
import Derived.Test.YtmbbknjddebhoaaGreatDoorCx4
import Derived.Test.YtmbbknjddebhoaaGreatDoorCx1
import Derived.Laws.StructEq
import Derived.Test.YtmbbknjddebhoaaGreatDoorCx2
import Derived.Deep.MidRow
import Derived.Laws.Bits64b
/- florinref02: turn, constants, words, Block. (printed by gen_nsa.py out of XSha) -/
set_option linter.unusedSimpArgs false
set_option linter.unusedVariables false
namespace Go.Proofs.YtmbbknjddebhoaaGreatDoor
open Go.RowKit
attribute [local go_sem ↓] Go.wp_at_zero Go.wp_at_succ
theorem or_comm32 (a b : Int) : bits .or .u32 a b = bits .or .u32 b a:=by
 show IntKind.u32.wrap ((BitVec.ofInt 32 a ||| BitVec.ofInt 32 b).toNat : Int) = IntKind.u32.wrap ((BitVec.ofInt 32 b ||| BitVec.ofInt 32 a).toNat : Int)
 rw [BitVec.or_comm]
set_option maxHeartbeats 1000000 in
theorem rturn_any (x : UInt32) (k : Int) (w : World) (h : k = 2 ∨ k = 6 ∨ k = 7 ∨ k = 11 ∨ k = 13 ∨ k = 17 ∨ k = 18 ∨ k = 19 ∨ k = 22 ∨ k = 25) :
  Calls Tryz.prog 113 #[u32v x,.int .u64 k] w fun e w' => e = .returned (u32v (rotR x k.toNat))∧w = w':=by
 have hx:=w32_hi x
 rcases h with rfl | rfl | rfl | rfl | rfl | rfl | rfl | rfl | rfl | rfl
 all_goals
  go_enter Tryz.func113,Tryz.ntmps113
  go_wp2
  go_ret
  exact ⟨ret_int ((or_comm32 _ _).trans (w32_of (bits_lo_u32 _ _ _) (bits_hi_u32 _ _ _))),rfl⟩
set_option maxRecDepth 100000 in
set_option maxHeartbeats 4000000 in
theorem rwords_any (A : Option Addr) (b : List UInt8) (c : Nat) (w : World) (hb : b.length = 64) (hr : Rd w A (b.map u8v)) :
  Calls Tryz.prog 111 #[.slice A 64 c] w fun e w' => e = .returned (.agg ((wordsL b).map u32v).toArray)∧Keep w w':=by
 go_enter Tryz.func111,Tryz.ntmps111
 go_wp2_with fail
 go_loopw [4] (fun i wr => ∃ k : Nat,k ≤ 16∧i = .int .i64 k∧Keep w wr∧Blk wr w.heap.size 152 (z64.map u32v)∧Blk wr (w.heap.size + 1) 152 ((wd1 b k).map u32v)) (fun i _ => 16 - (intOf i).toNat)
 case atStart => exact ⟨0,by omega,rfl,keep_trans (keep_new _ _) (keep_new _ _),(z64_blk _ _ rfl).alloc _,z64_blk _ _ (by simp)⟩
 case round =>
  obtain ⟨k,hk,rfl,hkr,hb0,hb1⟩:=hrel
  by_cases hlt : k < 16
  ·obtain ⟨g,off,rfl,hg,hc⟩:=(hr.keep hkr).at (k:=0) (by simp;omega)
   have rd : ∀ j y,b[j]? = some y → wr.cell? ⟨g,off + j,none⟩ = some (u8v y):=fun j y h => by
    obtain ⟨hj,rfl⟩:=List.getElem?_eq_some_iff.1 h
    rw [hc j (by simpa using hj)];simp
   obtain ⟨y0,h0⟩ : ∃ y,b[4 * k]? = some y:=⟨_,List.getElem?_eq_getElem (by omega)⟩
   obtain ⟨y1,h1⟩ : ∃ y,b[4 * k + 1]? = some y:=⟨_,List.getElem?_eq_getElem (by omega)⟩
   obtain ⟨y2,h2⟩ : ∃ y,b[4 * k + 2]? = some y:=⟨_,List.getElem?_eq_getElem (by omega)⟩
   obtain ⟨y3,h3⟩ : ∃ y,b[4 * k + 3]? = some y:=⟨_,List.getElem?_eq_getElem (by omega)⟩
   have e0:=rd _ _ h0;have e1:=rd _ _ h1;have e2:=rd _ _ h2;have e3:=rd _ _ h3
   have Hbe:=Lib.hid (show be32 b k = w32 (beE y0 y1 y2 y3) by unfold be32;rw [getD_of h0,getD_of h1,getD_of h2,getD_of h3])
   clear h0 h1 h2 h3
   have Hb0:=Lib.hid hb0;have Hb1:=Lib.hid hb1;clear hb0 hb1
   clear hc rd
   go_wp2
   refine wp_region_tree (.take [0,1,2,3,4,5,6,7,8,9,10,11,12,13,14,15,16,17,18,19,20,21,22,23,24,25,26,27,28,29,30,31,32,33,34] .done) [35] (by kernel_rfl) (by kernel_rfl) (fun w1 k1 => ?_)
   have a0:=aft_cell (keep_cell k1 e0);have a1:=aft_cell (keep_cell k1 e1);have a2:=aft_cell (keep_cell k1 e2);have a3:=aft_cell (keep_cell k1 e3)
   refine mt_take w1 (Below.refl _ _) ?_
   simp only [pick_cons,pick_nil,nth_zero,nth_succ]
   repeat (go_big_quiet_step (fail))
   refine wpQuiet_nil (mt_end ?_)
   have hb1 : Blk w1 (w.heap.size + 1) 152 ((wd1 b k).map u32v):=Hb1.out.keep k1
   have Hb1':=Lib.hid hb1
   have x0:=hb1.cell k;rw [List.getElem?_map,List.getElem?_eq_getElem (by rw [wd1_len];omega)] at x0
   have x1:=hb1.frozen k
   have Hb0':=Lib.hid (Hb0.out.keep k1)
   have k9:=keep_trans hkr k1
   clear a0 a1 a2 a3 e0 e1 e2 e3 hb1
   go_wp2
   go_roundw
   case rel =>
    refine ⟨k + 1,by omega,by go_num,k9.setCell (by simp) _,Hb0'.out.far (by simp) _,?_⟩
    rw [wd1,Hbe.out,set_map _ _ (beE y0 y1 y2 y3) (bits_lo_u32 _ _ _) (bits_hi_u32 _ _ _)]
    exact Hb1'.out.set_ _ _
   case measure => simp [intOf];omega
  ·have Hk:=Lib.hid (show k = 16 by omega)
   have Hb0:=Lib.hid hb0;have Hb1:=Lib.hid hb1;clear hb0 hb1
   go_wp2_with fail
   have hll : (wd1 b k).length = 64:=wd1_len b k
   generalize hl : wd1 b k = l at Hb1 hll
   have Hl:=Lib.hid hl;clear hl
   have hkw:=hkr
   go_loopw [5] (fun i wr => ∃ j : Nat,j ≤ 48∧i = .int .i64 ((j + 16 : Nat) : Int)∧Keep w wr∧Blk wr w.heap.size 152 (z64.map u32v)∧Blk wr (w.heap.size + 1) 152 ((wd2 l j).map u32v)) (fun i _ => 64 - (intOf i).toNat)
   case atStart => exact ⟨0,by omega,rfl,hkw,Hb0.out,Hb1.out⟩
   case round =>
    obtain ⟨j,hj,rfl,hkr,hb0,hb1⟩:=hrel
    by_cases hlt : j < 48
    ·have hl' : (wd2 l j).length = 64:=by rw [wd2_len,hll]
     obtain ⟨x,h0⟩ : ∃ y,(wd2 l j)[j + 1]? = some y:=⟨_,List.getElem?_eq_getElem (by omega)⟩
     obtain ⟨y,h1⟩ : ∃ y,(wd2 l j)[j + 14]? = some y:=⟨_,List.getElem?_eq_getElem (by omega)⟩
     obtain ⟨a,h2⟩ : ∃ y,(wd2 l j)[j + 9]? = some y:=⟨_,List.getElem?_eq_getElem (by omega)⟩
     obtain ⟨d,h3⟩ : ∃ y,(wd2 l j)[j]? = some y:=⟨_,List.getElem?_eq_getElem (by omega)⟩
     obtain ⟨o,h4⟩ : ∃ y,(wd2 l j)[j + 16]? = some y:=⟨_,List.getElem?_eq_getElem (by omega)⟩
     have Hwd:=Lib.hid (show wd2 l (j + 1) = (wd2 l j).set (j + 16) (w32 (wdE x y a d)) by rw [wd2,getD_of h0,getD_of h1,getD_of h2,getD_of h3])
     have c0:=hb1.cell (j + 1);rw [List.getElem?_map,h0] at c0
     have c1:=hb1.cell (j + 14);rw [List.getElem?_map,h1] at c1
     have c2:=hb1.cell (j + 9);rw [List.getElem?_map,h2] at c2
     have c3:=hb1.cell j;rw [List.getElem?_map,h3] at c3
     have c4:=hb1.cell (j + 16);rw [List.getElem?_map,h4] at c4
     have f4:=hb1.frozen (j + 16)
     simp only [Option.map_some] at c0 c1 c2 c3 c4
     have Hb0:=Lib.hid hb0;have Hb1:=Lib.hid hb1
     clear hb0 hb1 h0 h1 h2 h3 h4
     have k2 : Keep wr wr:=Below.refl _ _
     have k3:=hkr
     go_wp2_with (go_at_call 113;refine (rturn_any _ _ _ (by decide)).mono ?_;rintro e w9 ⟨rfl,rfl⟩)
     refine wp_region_tree (.take [0,1,2,3,4,5,6,7,8,9,10,11,12,13,14] .done) [15] (by kernel_rfl) (by kernel_rfl) (fun w1 k1 => ?_)
     have a2:=aft_cell (keep_cell k1 c2);have a3:=aft_cell (keep_cell k1 c3)
     refine mt_take w1 (Below.refl _ _) ?_
     simp only [pick_cons,pick_nil,nth_zero,nth_succ]
     repeat (go_big_quiet_step (fail))
     refine wpQuiet_nil (mt_end ?_)
     have k4:=keep_trans k3 k1
     have k5:=keep_trans k2 k1
     replace f4:=keep_frozen k1 (cell_lt c4) f4;replace c4:=keep_cell k1 c4
     clear a2 a3 c2 c3
     go_wp2
     go_roundw
     case rel =>
      refine ⟨j + 1,by omega,by go_num,k4.setCell (by simp) _,(Hb0.out.keep k5).far (by simp) _,?_⟩
      rw [Hwd.out,set_map _ _ (wdE x y a d) (by unfold wdE;omega) (by unfold wdE;omega)]
      exact (Hb1.out.keep k5).set_ _ _
     case measure => simp [intOf];omega
    ·have Hj:=Lib.hid (show j = 48 by omega)
     have hl' : (wd2 l j).length = 64:=by rw [wd2_len,hll]
     generalize hl2 : wd2 l j = l' at hb1 hl'
     have Hl2:=Lib.hid hl2;clear hl2
     obtain ⟨cs,hcs⟩ : ∃ cs : Array Value,cs.toList = l'.map u32v:=⟨(l'.map u32v).toArray,rfl⟩
     have hcz : cs.size = 64:=by rw [← Array.length_toList,hcs,List.length_map,hl']
     have hci : (Tryz.prog.info? 152).map (·.size) = some cs.size:=by rw [hcz];kernel_rfl
     have hcn : ¬ cs = #[]:=by intro h;rw [h] at hcz;simp at hcz
     rw [← hcs] at hb1
     obtain ⟨w8,hst,hb8,hg8⟩:=run_store_blk (P:=Tryz.prog) cs.toList hb0 (by simp [hcz];rfl) (by rw [hcs];exact one_w32 _)
     have Hb1':=Lib.hid hb1;have Hb8:=Lib.hid hb8;have Hg8:=Lib.hid hg8;have Hcs:=Lib.hid hcs;clear hb0 hb1 hb8 hg8 hcs
     go_upto_region 14 with fail
     go_wp2_with ((with_reducible refine load_arr (w.heap.size + 1) cs (Eq.trans ?_ rfl) Hb1'.out (.array 64 22) Tryz.underlying152 (arr_row _ _) hci ?_);rfl)
     have hb8:=Hb8.out
     refine bodyPost_ret (v:=.agg cs) (results_cell_row Tryz.results111 _ _ w.heap.size _ _ _ _ rfl hb8 Tryz.underlying152 rfl (by rw [List.size_toArray,Array.length_toList,hcz];kernel_rfl)) rfl ⟨?_,hkr.grown Hg8.out (by have:=hkr.size;omega) (fun q hq => by injection hq with hq;omega)⟩
     rw [show cs = (l'.map u32v).toArray from by rw [← Hcs.out,Array.toArray_toList],← Hl2.out,← Hl.out,Hj.out,Hk.out]
     rfl
end Go.Proofs.YtmbbknjddebhoaaGreatDoor
/- math/bits.Len64: how many digits (the shelf's contract, laid for this cut); u256.Len. -/
set_option linter.unusedSimpArgs false
set_option linter.unusedVariables false
namespace Go.Proofs.YtmbbknjddebhoaaGreatDoor
open Go.RowKit
attribute [local go_sem ↓] Go.wp_at_zero Go.wp_at_succ
theorem lenN_half {x : Nat} (h : x ≠ 0) : lenN x = 1 + lenN (x / 2):=by
 obtain ⟨n,h1,h2,h3⟩:=lenN_pos h
 cases n with
 | zero =>
   have : x / 2 = 0:=by simp only [Nat.zero_add,Nat.pow_one] at h3;omega
   rw [h1,this];rfl
 | succ n =>
   rw [h1]
   have : lenN (x / 2) = n + 1:=lenN_of (by rw [Nat.pow_succ] at h2;omega) (by rw [Nat.pow_succ 2 (n + 1)] at h3;omega)
   omega
theorem bitLenAux_eq : ∀ (f x : Nat),x < 2 ^ f → Lib.bitLenAux f x = lenN x
 | 0,x,h => by
   have : x = 0:=by simpa using h
   subst this;rfl
 | f + 1,x,h => by
   unfold Lib.bitLenAux
   split
   ·rename_i h0;subst h0;rfl
   ·rename_i h0
    rw [bitLenAux_eq f (x / 2) (by rw [Nat.pow_succ] at h;omega),lenN_half h0]
theorem bitLen_eq {x : Nat} (h : x < 2 ^ 64) : Lib.bitLen x = lenN x:=bitLenAux_eq 64 x h
set_option maxRecDepth 100000 in
set_option maxHeartbeats 1000000 in
theorem len_any (N : Nat) (w : World) (hN : N < 2 ^ 256) :
  Calls Tryz.prog 73 #[uV N] w fun e w' => e = .returned (.int .i64 (lenN N : Nat))∧Keep w w':=by
 have HC : Hid (∀ c,lenN N = c → ((N = 0 → c = 0)∧∀ i,i < 4 → limb N i ≠ 0 → (∀ j,i < j → j < 4 → limb N j = 0) → c = 64 * i + lenN (limb N i))):=fun c e => by
  subst e
  exact ⟨fun h => by subst h;rfl,fun i hi h0 hh => lenN_limb (lt_top hN hi hh) h0⟩
 replace HC:=Lib.hid (HC.out _ rfl)
 have hc256 : lenN N ≤ 256:=lenN_le hN
 generalize lenN N = c at *
 have HN:=Lib.hid hN
 clear hN
 go_enter Tryz.func73,Tryz.ntmps73
 go_upto_region 1 with fail
 obtain ⟨w1,hw1⟩ : ∃ w1,w1 = w.alloc (.cells #[n64 (limb N 0),n64 (limb N 1),n64 (limb N 2),n64 (limb N 3)] 62):=⟨_,rfl⟩
 have hc1 : ∀ k,k < 4 → w1.cell? ⟨w.heap.size,k,none⟩ = some (n64 (limb N k)):=fun k hk => by
  have h1 : Blk w1 w.heap.size 62 (uL N):=by rw [hw1];exact Blk.new w 62 (uL N)
  rw [h1.cell,uL_get N k hk]
 have HK1 : Hid (Keep w w1):=by rw [hw1];exact keep_new _ _
 rw [← hw1]
 have Hc1:=Lib.hid hc1
 clear hw1 hc1
 go_wp2_with fail
 go_loopw [3] (fun i wr => ∃ k : Nat,k ≤ 4∧i = .int .i64 ((k : Int) - 1)∧Hid (∀ j,k ≤ j → j < 4 → limb N j = 0)∧Hid (Keep w1 wr)) (fun i _ => (intOf i + 1).toNat)
 case atStart => exact ⟨4,by omega,rfl,Lib.hid (fun j h1 h2 => by omega),Lib.hid (Below.refl _ _)⟩
 case round =>
  obtain ⟨k,hk,rfl,he,hkr⟩:=hrel
  cases k with
  | zero =>
    have h1:=HC.out.1 (zero_top HN.out (fun i hi => he.out i (Nat.zero_le _) hi))
    subst h1
    clear HC HN
    go_wp2
    exact bodyPost_ret (v:=.int .i64 0) (by simp [results,Tryz.results73]) rfl ⟨rfl,keep_trans HK1.out hkr.out⟩
  | succ k =>
    have hi : ((k + 1 : Nat) : Int) - 1 = (k : Int):=by omega
    rw [hi]
    have a0:=keep_cell hkr.out (Hc1.out k (by omega))
    have hl:=limb_lt N k
    have hk4 : k < 4:=by omega
    have hx : Hid (limb N k ≠ 0 → c = 64 * k + lenN (limb N k)):=Lib.hid fun h => HC.out.2 k hk4 h (fun j h1 h2 => he.out j (by omega) h2)
    have heq : Hid (limb N k = 0 → ∀ j,k ≤ j → j < 4 → limb N j = 0):=Lib.hid fun h j h1 h2 => by
     by_cases e : j = k
     ·subst e;exact h
     ·exact he.out j (by omega) h2
    generalize limb N k = x at *
    clear hi he
    by_cases h1 : x = 0
    ·have He:=Lib.hid (heq.out h1)
     have d1 : (x != 0) = false:=by simp [h1]
     subst h1
     clear hx heq hl d1
     go_wp2_with fail
     go_roundw
     case rel => exact ⟨k,by omega,by go_num,He,hkr⟩
     case measure => simp [intOf]
    ·have hb:=bits_Len64 (x : Int) wr (by omega) (by simp only [Nat.reducePow] at hl;omega)
     rw [Int.toNat_natCast,bitLen_eq hl] at hb
     have hcx:=hx.out h1
     have HB:=Lib.hid hb
     generalize lenN x = m at *
     have d1 : ((x : Int) != 0) = true:=by simp [h1]
     have d2 : (x != 0) = true:=by simp [h1]
     have HX1:=Lib.hid h1;have HCX:=Lib.hid hcx
     have hm : m ≤ 256:=by omega
     clear hx heq hl HC HN hb h1 hcx
     go_wp2_with fail
     refine HB.out.mono ?_
     rintro e w2 ⟨rfl,rfl⟩
     go_wp2
     rw [HCX.out]
     exact bodyPost_ret (v:=.int .i64 ((64 * k + m : Nat) : Int)) (by simp [results,Tryz.results73]) rfl ⟨rfl,keep_trans HK1.out hkr.out⟩
end Go.Proofs.YtmbbknjddebhoaaGreatDoor
/- u256: Of; numbers compared. -/
set_option linter.unusedSimpArgs false
set_option linter.unusedVariables false
namespace Go.Proofs.YtmbbknjddebhoaaGreatDoor
open Go.RowKit
attribute [local go_sem ↓] Go.wp_at_zero Go.wp_at_succ
theorem all_range_eqN : ∀ (xs ys : List Nat),xs.length = ys.length → ((List.range xs.length).all fun i => xs.getD i 0 == ys.getD i 0) = (xs == ys)
 | [],[],_ => rfl
 | x :: xs,y :: ys,h => by
   have ih:=all_range_eqN xs ys (by simpa using h)
   rw [List.length_cons,List.range_succ_eq_map,List.all_cons,List.all_map]
   simp only [List.getD_cons_zero,Function.comp_def,List.getD_cons_succ,ih]
   simp [List.cons_beq_cons]
 | [],_ :: _,h => by simp at h
 | _ :: _,[],h => by simp at h
theorem run_equalIn_words {P : Program} (w : World) (d : Nat) (t e : TypeId) (n : Nat) (ht : P.underlying t = some (.array n e)) (he : P.underlying e = some (.int .u64)) (hsz : ∀ w,(sizeOf e).run P w = .ok 1 w)
  (xs ys : List Nat) (hx : xs.length = n) (hy : ys.length = n) :
  (Op.equalIn (d + 2) t (.agg (xs.map n64).toArray) (.agg (ys.map n64).toArray)).run P w = .ok (xs == ys) w:=by
 rw [← all_range_eqN xs ys (hx.trans hy.symm),hx,List.range_eq_range',Op.equalIn]
 simp only [Sem.run_bind,run_underlying ht,Result.andThen_ok,hsz,Std.Legacy.Range.forIn_eq_forIn_range',Std.Legacy.Range.size,Nat.sub_zero,Nat.add_sub_cancel,Nat.div_one]
 have hl : ∀ i ∈ List.range' 0 n 1,i < n:=fun i hi => by simpa using (List.mem_range'_1.1 hi).2
 generalize List.range' 0 n 1 = l at hl ⊢
 induction l with
 | nil => simp
 | cons i l ih =>
   have hi : i < n:=hl i (by simp)
   have px : (part e (xs.map n64).toArray (i * 1)).run P w = .ok (n64 (xs.getD i 0)) w:=by
    simp [part,isAgg,run_underlying he,List.getD,List.getElem?_eq_getElem (show i < xs.length by omega)]
   have py : (part e (ys.map n64).toArray (i * 1)).run P w = .ok (n64 (ys.getD i 0)) w:=by
    simp [part,isAgg,run_underlying he,List.getD,List.getElem?_eq_getElem (show i < ys.length by omega)]
   have pe : (Op.equalIn (d + 1) e (n64 (xs.getD i 0)) (n64 (ys.getD i 0))).run P w = .ok (xs.getD i 0 == ys.getD i 0) w:=by
    unfold n64
    rw [run_equalIn_int w d e .u64 .u64 _ _ he]
    congr 1
    rw [Bool.eq_iff_iff]
    simp
    omega
   simp only [List.forIn_cons,Sem.run_bind,px,py,pe,Result.andThen_ok,List.all_cons]
   cases hb : (xs.getD i 0 == ys.getD i 0)
   ·simp
   ·simp only [Bool.not_true,Bool.false_eq_true,if_false,Sem.run_pure,Result.andThen_ok,Bool.true_and]
    exact ih fun j hj => hl j (by simp [hj])
theorem u64_size (w : World) : (sizeOf 60).run Tryz.prog w = .ok 1 w:=by kernel_rfl
theorem u256_under : Tryz.prog.underlying 62 = some (.array 4 60):=by kernel_rfl
theorem u256_guard : Tryz.prog.eqGuardType Tryz.prog.depth 62 = false:=by kernel_rfl
theorem words_eq {N M : Nat} (hN : N < 2 ^ 256) (hM : M < 2 ^ 256) : ([limb N 0,limb N 1,limb N 2,limb N 3] == [limb M 0,limb M 1,limb M 2,limb M 3]) = decide (N = M):=by
 by_cases h : N = M
 ·subst h;simp
 ·rw [decide_eq_false h,beq_eq_false_iff_ne]
  intro e
  injection e with e0 e
  injection e with e1 e
  injection e with e2 e
  injection e with e3 _
  exact h (limb_ext hN hM fun i hi => by
   rcases (show i = 0 ∨ i = 1 ∨ i = 2 ∨ i = 3 by omega) with rfl | rfl | rfl | rfl <;> assumption)
theorem u_eql {N M : Nat} (hN : N < 2 ^ 256) (hM : M < 2 ^ 256) (w : World) : (Go.binOp .eql 62 (uV N) (uV M)).run Tryz.prog w = .ok (.bool (decide (N = M))) w:=by
 rw [run_eql_struct,show (10000 : Nat) = 9998 + 2 from rfl]
 have h:=run_equalIn_words (P:=Tryz.prog) w 9998 62 60 4 u256_under Tryz.underlying60 u64_size [limb N 0,limb N 1,limb N 2,limb N 3] [limb M 0,limb M 1,limb M 2,limb M 3] rfl rfl
 rw [words_eq hN hM] at h
 have h' : (Op.equalIn (9998 + 2) 62 (uV N) (uV M)).run Tryz.prog w = .ok (decide (N = M)) w:=h
 rw [h']
 rfl
theorem u_neq {N M : Nat} (hN : N < 2 ^ 256) (hM : M < 2 ^ 256) (w : World) : (Go.binOp .neq 62 (uV N) (uV M)).run Tryz.prog w = .ok (.bool (!decide (N = M))) w:=by
 rw [run_neq_struct,show (10000 : Nat) = 9998 + 2 from rfl]
 have h:=run_equalIn_words (P:=Tryz.prog) w 9998 62 60 4 u256_under Tryz.underlying60 u64_size [limb N 0,limb N 1,limb N 2,limb N 3] [limb M 0,limb M 1,limb M 2,limb M 3] rfl rfl
 rw [words_eq hN hM] at h
 have h' : (Op.equalIn (9998 + 2) 62 (uV N) (uV M)).run Tryz.prog w = .ok (decide (N = M)) w:=h
 rw [h']
 rfl
abbrev u0 : Value:=.agg #[.int .u64 0,.int .u64 0,.int .u64 0,.int .u64 0]
theorem uV_zero : uV 0 = u0:=by simp [uV,n64,limb0]
theorem uV_small {n : Nat} (h : n < 2 ^ 64) : uV n = .agg #[n64 n,.int .u64 0,.int .u64 0,.int .u64 0]:=by simp [uV,n64,limb_small h]
set_option maxHeartbeats 400000 in
theorem of_any (n : Nat) (w : World) (hn : n < 2 ^ 64) : Calls Tryz.prog 53 #[n64 n] w fun e w' => e = .returned (uV n)∧Keep w w':=by
 rw [uV_small hn]
 clear hn
 go_enter Tryz.func53,Tryz.ntmps53
 go_wp2
 have hb : Blk (w.alloc (.cells #[n64 n,.int .u64 0,.int .u64 0,.int .u64 0] 62)) w.heap.size 62 [n64 n,.int .u64 0,.int .u64 0,.int .u64 0]:=Blk.new w _ [n64 n,.int .u64 0,.int .u64 0,.int .u64 0]
 exact bodyPost_ret (v:=.agg #[n64 n,.int .u64 0,.int .u64 0,.int .u64 0]) (results_cell_row Tryz.results53 _ _ w.heap.size _ _ _ _ rfl hb Tryz.underlying62 rfl (by kernel_rfl)) rfl ⟨rfl,keep_new _ _⟩
end Go.Proofs.YtmbbknjddebhoaaGreatDoor
/- XMov's theory once more, where one block may turn: the one that is appended to. By the program gen_mog.py. -/
set_option linter.unusedSimpArgs false
set_option linter.unusedVariables false
namespace Go.Proofs.YtmbbknjddebhoaaGreatDoor.G
open Go.RowKit
class Mk where
 m : Option Nat
variable [MM : Mk]
def Gr (w w' : World) : Prop:=w.grownBy w' MM.m
theorem Gr.refl (w : World) : Gr w w:=⟨rfl,rfl,rfl,Nat.le_refl _,fun _ _ _ => rfl⟩
theorem Gr.drew (w : World) : Gr w { w with drawn:=w.drawn + 1 }:=⟨rfl,rfl,rfl,Nat.le_refl _,fun _ _ _ => rfl⟩
theorem Gr.trans {a b c : World} (h : Gr a b) (k : Gr b c) : Gr a c:=World.grownBy.trans h k
theorem Gr.of_keep {a b : World} (h : Keep a b) : Gr a b:=⟨h.os,h.tape,h.output,h.size,fun k hk _ => h.block k hk⟩
open Classical in
noncomputable def aftG (w x : World) : World:=if Gr w x then x else w
theorem aftG_keep (w x : World) : Gr w (aftG w x):=by
 unfold aftG;split
 ·assumption
 ·exact Gr.refl _
theorem aftG_of {w w' : World} (h : Gr w w') : w' = aftG w w':=by unfold aftG;rw [if_pos h]
theorem aftG_cell {w : World} {b o : Nat} {v : Value} (h : w.cell? ⟨b,o,none⟩ = some v) (hne : MM.m ≠ some b) : ∀ x,(aftG w x).cell? ⟨b,o,none⟩ = some v:=fun x => grown_cell (aftG_keep w x) h hne
section
variable {P : Program} {ops : Array Oper} {Q : Exit → Act → World → Prop} {tl : List Nat}
def wpAnyK (P : Program) (ops : Array Oper) (Q : Exit → Act → World → Prop) (tl : List Nat) : Nat → Array Bool → Act → World → Prop
 | 0,listed,a,w => Region.ready .any ops listed = []∧Q .normal a w
 | n + 1,listed,a,w => (Region.ready .any ops listed = [] → Q .normal a w) ∧
   ∀ i ∈ Region.ready .any ops listed,wpOp P ops Q i (fun a' w' => (i ∉ tl → Gr w w')∧wpAnyK P ops Q tl n (listed.setIfInBounds i true) a' w') a w
theorem wpAny_of_K : ∀ (n : Nat) (listed : Array Bool) (a : Act) (w : World),wpAnyK P ops Q tl n listed a w → wpAny P .any ops Q n listed a w
 | 0,_,_,_,h => h
 | n + 1,_,_,_,h => ⟨h.1,fun i hi => wpOp_mono (fun a' w' h' => wpAny_of_K n _ a' w' h'.2) (h.2 i hi)⟩
theorem wpAnyK_first (hs : Region.noSelect ops = true) {i : Nat} {oi : Oper} {v : Value} (hi : ops[i]? = some oi) (hQ : ∀ c a w,Q (.panic c) (a.put oi.dst v) w → Q (.panic c) a w)
  {S : World → Prop} (hk : ∀ w w',S w → Gr w w' → S w') (hr : (∀ j ∈ tl,reachB ops j i = true) ∨ ∀ w,S w) : ∀ (fuel : Nat) (listed : Array Bool) (a : Act) (w : World),Closed ops listed →
   (∀ j oj,ops[j]? = some oj → j ≠ i → listed.getD j true = false → (∀ e ∈ oj.after,Region.binds .any e = true → e.on ≠ i) → oi.apart ops oj = true) →
   i ∈ Region.ready .any ops listed → YieldsIf P ops S oi v a → S w →
   wpAnyK P ops Q tl fuel (listed.setIfInBounds i true) (a.put oi.dst v) w → wpAnyK P ops Q tl (fuel + 1) listed a w:=by
 intro fuel
 have hsel:=fun j o cs b (h : ops[j]? = some o) => Region.noSelect_spec hs j o cs b h
 induction fuel with
 | zero =>
   intro listed a w _ _ hri hy hS H
   refine ⟨fun h => absurd hri (by rw [h];simp),fun j hj => ?_⟩
   by_cases hji : j = i
   ·subst hji;exact hy.wpOp hi hS ⟨fun _ => Gr.refl _,H⟩
   ·have:=ready_mono hj hji
    rw [H.1] at this
    cases this
 | succ fuel ih =>
   intro listed a w hc hfree hri hy hS H
   refine ⟨fun h => absurd hri (by rw [h];simp),fun j hj => ?_⟩
   by_cases hji : j = i
   ·subst hji;exact hy.wpOp hi hS ⟨fun _ => Gr.refl _,H⟩
   ·have h1:=H.2 j (ready_mono hj hji)
    obtain ⟨hjun,oj,hoj,hall⟩:=mem_ready.1 hj
    have hiun:=(mem_ready.1 hri).1
    have hnot : ∀ e ∈ oj.after,Region.binds .any e = true → e.on ≠ i:=fun e he hb heq => by
     have h1:=hall e he hb
     rw [heq,getD_tf hiun] at h1
     cases h1
    have hjt : j ∉ tl ∨ ∀ w,S w:=hr.imp (fun hr hjt => by
     have:=reach_listed hc j i (fun k hk => ready_waits hj hk) (hr j hjt)
     rw [getD_tf hiun] at this
     cases this) id
    have h2:=wpOp_putIf hoj (hfree j oj hoj hji hjun hnot) (fun cs b => hsel i oi cs b hi) (fun cs b => hsel j oj cs b hoj) hQ hy h1
    have hfree' : ∀ k ok,ops[k]? = some ok → k ≠ i → (listed.setIfInBounds j true).getD k true = false →
      (∀ e ∈ ok.after,Region.binds .any e = true → e.on ≠ i) → oi.apart ops ok = true:=fun k ok hk hki hun hno => by
     refine hfree k ok hk hki ?_ hno
     by_cases hjk : j = k
     ·subst hjk;exact hjun
     ·rw [getD_set_ne true hjk] at hun;exact hun
    refine wpOp_mono (fun a' w' h3 => ⟨fun hn => h3.2.1 hn,ih (listed.setIfInBounds j true) a' w' (hc.set_ hj) hfree' (ready_mono hri (Ne.symm hji)) h3.1 (hjt.elim (fun hn => hk _ _ hS (h3.2.1 hn)) (fun h => h _)) ?_⟩) h2
    rw [Array.setIfInBounds_comm _ _ hji]
    exact h3.2.2
def freeB (o : Oper) : Bool :=
 match o.op with
 | .move _ | .assign _ | .extract .. => true
 | _ => false
def takesB (ops : Array Oper) (tl : List Nat) : List Nat → Array Bool → Bool
 | [],_ => true
 | i :: l,listed => (Region.ready .any ops listed).contains i && Region.free .any ops listed i && (match ops[i]? with | some o => plainB o | none => false) && ((match ops[i]? with | some o => freeB o | none => false) || tl.all fun j => reachB ops j i) && takesB ops tl l (listed.setIfInBounds i true)
def forceB (ops : Array Oper) : List Nat → Array Bool → Bool
 | [],_ => true
 | i :: l,listed => decide (Region.ready .any ops listed = [i]) && forceB ops l (listed.setIfInBounds i true)
def wpForce (P : Program) (ops : Array Oper) (Q : Exit → Act → World → Prop) (N : Act → World → Prop) : List Oper → Act → World → Prop
 | [],a,w => N a w
 | o :: l,a,w => if Region.wanted o (yielded ops a.tmps) then (∀ K : Act → World → Prop,(∀ a' w',Gr w w' → wpForce P ops Q N l a' w' → K a' w') → o.wp P a w K Q) else wpForce P ops Q N l (a.put o.dst undef) w
theorem wpAnyK_tail (t0 : List Nat) : ∀ (t : List Nat) (T : List Oper) (listed : Array Bool) (a : Act) (w : World),(∀ i ∈ t,i ∈ t0) → forceB ops t listed = true → Region.ready .any ops (setAll listed t) = [] →
  (∀ (k : Nat),T[k]? = (t[k]?).bind (fun (i : Nat) => ops[i]?)) → wpList P ops Q T a w → wpAnyK P ops Q t0 t.length listed a w
 | [],T,listed,a,w,_,_,he,hT,hw => by
   have : T = []:=by cases T with
    | nil => rfl
    | cons x T => have:=hT 0;simp at this
   subst this
   exact ⟨he,hw⟩
 | t :: l,T,listed,a,w,h0,hB,he,hT,hw => by
   simp only [forceB,Bool.and_eq_true,decide_eq_true_eq] at hB
   refine ⟨fun h0 => (by rw [hB.1] at h0;cases h0),fun i hi => ?_⟩
   rw [hB.1] at hi
   obtain rfl : i = t:=by simpa using hi
   have hlt : i < ops.size:=by
    have hr : i ∈ Region.ready .any ops listed:=by rw [hB.1];simp
    obtain ⟨o,ho,_⟩:=(mem_ready.1 hr).2
    exact (Array.getElem?_eq_some_iff.1 ho).1
   cases T with
   | nil => have:=hT 0;simp [hlt] at this
   | cons o T =>
     have ho : ops[i]? = some o:=by have:=hT 0;simpa using this.symm
     have hw' : wpOp P ops Q i (wpList P ops Q T) a w:=by unfold wpOp;simp only [ho];exact hw
     exact wpOp_mono (fun a' w' h' => ⟨fun hn => absurd (h0 i (by simp)) hn,wpAnyK_tail t0 l T _ a' w' (fun j hj => h0 j (by simp [hj])) hB.2 he (fun k => by have:=hT (k + 1);simpa using this) h'⟩) hw'
theorem wpAnyK_force (g : Nat) {N : Act → World → Prop} : ∀ (l : List Nat) (L : List Oper) (listed : Array Bool) (a : Act) (w : World),Closed ops listed → forceB ops l listed = true →
  (∀ (k : Nat),L[k]? = (l[k]?).bind (fun (i : Nat) => ops[i]?)) → (∀ a w,Closed ops (setAll listed l) → N a w → wpAnyK P ops Q tl g (setAll listed l) a w) → wpForce P ops Q N L a w → wpAnyK P ops Q tl (g + l.length) listed a w
 | [],L,listed,a,w,hc,_,hL,hN,h => by
   have : L = []:=by cases L with
    | nil => rfl
    | cons x T => have:=hL 0;simp at this
   subst this
   exact hN a w hc h
 | t :: l,L,listed,a,w,hc,hB,hL,hN,h => by
   simp only [forceB,Bool.and_eq_true,decide_eq_true_eq] at hB
   refine ⟨fun h0 => (by rw [hB.1] at h0;cases h0),fun i hi => ?_⟩
   have hi':=hi
   rw [hB.1] at hi
   obtain rfl : i = t:=by simpa using hi
   have hlt : i < ops.size:=by
    obtain ⟨o,ho,_⟩:=(mem_ready.1 hi').2
    exact (Array.getElem?_eq_some_iff.1 ho).1
   cases L with
   | nil => have:=hL 0;simp [hlt] at this
   | cons o L =>
     have ho : ops[i]? = some o:=by have:=hL 0;simpa using this.symm
     have go:=fun (a' : Act) (w' : World) (h' : wpForce P ops Q N L a' w') => wpAnyK_force g l L (listed.setIfInBounds i true) a' w' (hc.set_ hi') hB.2 (fun k => by have:=hL (k + 1);simpa using this) hN h'
     unfold wpOp
     simp only [ho]
     unfold wpForce at h
     split at h
     ·rename_i hwt
      rw [if_pos hwt]
      exact .inl (h _ fun a' w' hk h' => ⟨fun _ => hk,go a' w' h'⟩)
     ·rename_i hwt
      rw [if_neg hwt]
      exact ⟨fun _ => Gr.refl _,go _ _ h⟩
theorem wpAnyK_takes (hs : Region.noSelect ops = true) (hQ : ∀ c a x v w,Q (.panic c) (a.put x v) w → Q (.panic c) a w) (g : Nat) (w w0 : World) (hw : Gr w0 w) : ∀ (l : List Nat) (L : List Oper) (listed : Array Bool) (a : Act),Closed ops listed → takesB ops tl l listed = true →
  (∀ (k : Nat),L[k]? = (l[k]?).bind (fun (i : Nat) => ops[i]?)) → wpQuiet P ops (fun w' => ∃ x,w' = aftG w0 x) (fun a' => Closed ops (setAll listed l) → wpAnyK P ops Q tl g (setAll listed l) a' w) L a → wpAnyK P ops Q tl (g + l.length) listed a w
 | [],L,listed,a,hc,_,hL,h => by
   have : L = []:=by cases L with
    | nil => rfl
    | cons x T => have:=hL 0;simp at this
   subst this
   exact h hc
 | i :: l,L,listed,a,hc,hB,hL,h => by
   simp only [takesB,Bool.and_eq_true] at hB
   obtain ⟨⟨⟨⟨hr,hf⟩,hpl⟩,hre⟩,hB⟩:=hB
   have hr' : i ∈ Region.ready .any ops listed:=by simpa using hr
   have hi : i < ops.size:=by
    obtain ⟨o,ho,_⟩:=(mem_ready.1 hr').2
    exact (Array.getElem?_eq_some_iff.1 ho).1
   cases L with
   | nil => have:=hL 0;simp [hi] at this
   | cons o L =>
     have ho : ops[i]? = some o:=by have:=hL 0;simpa using this.symm
     rw [ho] at hpl
     have h1 : qOp P ops (fun w' => ∃ x,w' = aftG w0 x) i (wpQuiet P ops (fun w' => ∃ x,w' = aftG w0 x) (fun a' => Closed ops (setAll listed (i :: l)) → wpAnyK P ops Q tl g (setAll listed (i :: l)) a' w) L) a:=by unfold qOp;simp only [ho];exact h
     obtain ⟨v,hy,h⟩:=yieldsIn_of_qOp ho h1
     have hy' : YieldsIf P ops (fun w' => Gr w0 w') o v a:=by
      rcases hy with ⟨h2,h3⟩ | h2
      ·exact .inl ⟨h2,fun w hw => plain_run hpl (h3 w ⟨_,aftG_of hw⟩)⟩
      ·exact .inr h2
     have:=wpAnyK_takes hs hQ g w w0 hw l L (listed.setIfInBounds i true) (a.put o.dst v) (hc.set_ hr') hB (fun k => by have:=hL (k + 1);simpa using this) h
     rw [ho,Bool.or_eq_true] at hre
     rcases hre with hre | hre
     ·have hy2 : YieldsIf P ops (fun _ => True) o v a:=by
       rcases hy' with ⟨h2,h3⟩ | h2
       ·exact .inl ⟨h2,fun w' _ => free_run hre (h3 w hw) w'⟩
       ·exact .inr h2
      exact wpAnyK_first hs ho (fun c a w => hQ c a _ _ w) (fun _ _ _ _ => trivial) (.inr fun _ => trivial) _ listed a w hc (Region.free_spec ho hf) hr' hy2 trivial this
     ·exact wpAnyK_first hs ho (fun c a w => hQ c a _ _ w) (fun _ _ h1 h2 => Gr.trans h1 h2) (.inl fun j hj => List.all_eq_true.1 hre j hj) _ listed a w hc (Region.free_spec ho hf) hr' hy' hw this
def total : List (Bool × List Nat) → Nat
 | [] => 0
 | (_,l) :: r => total r + l.length
end
section
variable {P : Program} {ops : Array Oper} {Q : Exit → Act → World → Prop} {T l : List Oper} {r : List (Bool × List Oper)} {o : Oper} {a : Act} {w : World} {N : Act → World → Prop}
theorem fc_nil (h : N a w) : wpForce P ops Q N [] a w:=h
theorem fc_step (hw : Region.wanted o (yielded ops a.tmps) = true) (h : ∀ K : Act → World → Prop,(∀ a' w',Gr w w' → wpForce P ops Q N l a' w' → K a' w') → o.wp P a w K Q) : wpForce P ops Q N (o :: l) a w:=by
 unfold wpForce;rw [if_pos hw];exact h
theorem fc_skip (hw : Region.wanted o (yielded ops a.tmps) = false) (h : wpForce P ops Q N l (a.put o.dst undef) w) : wpForce P ops Q N (o :: l) a w:=by
 unfold wpForce;rw [if_neg (by rw [hw];exact Bool.false_ne_true)];exact h
end
inductive Mv where
 | done
 | take (l : List Nat) (r : Mv)
 | force (l : List Nat) (r : Mv)
 | fork (i : Nat) (ri : Mv) (j : Nat) (rj : Mv)
 | fork3 (i : Nat) (ri : Mv) (j : Nat) (rj : Mv) (k : Nat) (rk : Mv)
def Mv.total : Mv → Nat
 | .done => 0
 | .take l r => r.total + l.length
 | .force l r => r.total + l.length
 | .fork _ ri _ _ => ri.total + 1
 | .fork3 _ ri _ _ _ _ => ri.total + 1
def Mv.okB (ops : Array Oper) (tl : List Nat) : Mv → Array Bool → Bool
 | .done,listed => forceB ops tl listed && decide (Region.ready .any ops (setAll listed tl) = [])
 | .take l r,listed => (l.all (· < ops.size)) && takesB ops tl l listed && r.okB ops tl (setAll listed l)
 | .force l r,listed => (l.all (· < ops.size)) && forceB ops l listed && r.okB ops tl (setAll listed l)
 | .fork i ri j rj,listed => decide (i < ops.size) && decide (j < ops.size) && decide (Region.ready .any ops listed = [i,j]) && decide (ri.total = rj.total) && ri.okB ops tl (listed.setIfInBounds i true) && rj.okB ops tl (listed.setIfInBounds j true)
 | .fork3 i ri j rj k rk,listed => decide (i < ops.size) && decide (j < ops.size) && decide (k < ops.size) && decide (Region.ready .any ops listed = [i,j,k]) && decide (ri.total = rj.total) && decide (ri.total = rk.total) && ri.okB ops tl (listed.setIfInBounds i true) && rj.okB ops tl (listed.setIfInBounds j true) && rk.okB ops tl (listed.setIfInBounds k true)
def Mv.wp (P : Program) (l0 : List Oper) (Q : Exit → Act → World → Prop) (T : List Oper) : Mv → Act → World → Prop
 | .done,a,w => wpList P l0.toArray Q T a w
 | .take l r,a,w => ∃ w0,Gr w0 w∧wpQuiet P l0.toArray (fun w' => ∃ x,w' = aftG w0 x) (fun a' => r.wp P l0 Q T a' w) (pick l0 l) a
 | .force l r,a,w => wpForce P l0.toArray Q (r.wp P l0 Q T) (pick l0 l) a w
 | .fork i ri j rj,a,w => wpForce P l0.toArray Q (ri.wp P l0 Q T) [nth l0 i] a w∧wpForce P l0.toArray Q (rj.wp P l0 Q T) [nth l0 j] a w
 | .fork3 i ri j rj k rk,a,w => wpForce P l0.toArray Q (ri.wp P l0 Q T) [nth l0 i] a w∧wpForce P l0.toArray Q (rj.wp P l0 Q T) [nth l0 j] a w∧wpForce P l0.toArray Q (rk.wp P l0 Q T) [nth l0 k] a w
section
variable {P : Program} {Q : Exit → Act → World → Prop} {tl : List Nat} {l0 : List Oper}
theorem one_force {ops : Array Oper} {N : Act → World → Prop} {i : Nat} {o : Oper} (ho : ops[i]? = some o) {listed : Array Bool} {a : Act} {w : World} {g : Nat} (hN : ∀ a w,N a w → wpAnyK P ops Q tl g (listed.setIfInBounds i true) a w)
  (h : wpForce P ops Q N [o] a w) : wpOp P ops Q i (fun a' w' => (i ∉ tl → Gr w w')∧wpAnyK P ops Q tl g (listed.setIfInBounds i true) a' w') a w:=by
 unfold wpOp
 simp only [ho]
 unfold wpForce at h
 split at h
 ·rename_i hwt
  rw [if_pos hwt]
  exact .inl (h _ fun a' w' hk h' => ⟨fun _ => hk,hN _ _ h'⟩)
 ·rename_i hwt
  rw [if_neg hwt]
  exact ⟨fun _ => Gr.refl _,hN _ _ h⟩
theorem Mv.sound (hs : Region.noSelect l0.toArray = true) (hQ : ∀ c a x v w,Q (.panic c) (a.put x v) w → Q (.panic c) a w) (htl : ∀ i ∈ tl,i < l0.length) : ∀ (mv : Mv) (listed : Array Bool) (a : Act) (w : World),Closed l0.toArray listed → mv.okB l0.toArray tl listed = true →
  mv.wp P l0 Q (pick l0 tl) a w → wpAnyK P l0.toArray Q tl (mv.total + tl.length) listed a w
 | .done,listed,a,w,hc,hB,h => by
   simp only [Mv.okB,Bool.and_eq_true,decide_eq_true_eq] at hB
   rw [Mv.total,Nat.zero_add]
   exact wpAnyK_tail tl tl (pick l0 tl) listed a w (fun _ h => h) hB.1 hB.2 (filter_get tl htl).2 h
 | .take l r,listed,a,w,hc,hB,h => by
   simp only [Mv.okB,Bool.and_eq_true] at hB
   obtain ⟨⟨hin,htk⟩,hB⟩:=hB
   obtain ⟨w0,hw0,hq⟩:=h
   have hl : ∀ i ∈ l,i < l0.length:=fun i hi => by simpa using List.all_eq_true.1 hin i hi
   rw [show (Mv.take l r).total + tl.length = (r.total + tl.length) + l.length by show r.total + l.length + tl.length = _;omega]
   exact wpAnyK_takes hs hQ _ w w0 hw0 l (pick l0 l) listed a hc htk (filter_get l hl).2 (quiet_mono' (fun a' h' hc' => Mv.sound hs hQ htl r _ a' w hc' hB h') _ _ hq)
 | .force l r,listed,a,w,hc,hB,h => by
   simp only [Mv.okB,Bool.and_eq_true] at hB
   obtain ⟨⟨hin,hfo⟩,hB⟩:=hB
   have hl : ∀ i ∈ l,i < l0.length:=fun i hi => by simpa using List.all_eq_true.1 hin i hi
   rw [show (Mv.force l r).total + tl.length = (r.total + tl.length) + l.length by show r.total + l.length + tl.length = _;omega]
   exact wpAnyK_force _ l (pick l0 l) listed a w hc hfo (filter_get l hl).2 (fun a' w' hc' h' => Mv.sound hs hQ htl r _ a' w' hc' hB h') h
 | .fork i ri j rj,listed,a,w,hc,hB,h => by
   simp only [Mv.okB,Bool.and_eq_true,decide_eq_true_eq] at hB
   obtain ⟨⟨⟨⟨⟨hi,hj⟩,hr⟩,ht⟩,hBi⟩,hBj⟩:=hB
   obtain ⟨h1,h2⟩:=h
   have hoi : l0.toArray[i]? = some (nth l0 i):=by simp at hi ⊢;simp [nth,hi]
   have hoj : l0.toArray[j]? = some (nth l0 j):=by simp at hj ⊢;simp [nth,hj]
   have hri : i ∈ Region.ready .any l0.toArray listed:=by rw [hr];simp
   have hrj : j ∈ Region.ready .any l0.toArray listed:=by rw [hr];simp
   rw [show (Mv.fork i ri j rj).total + tl.length = (ri.total + tl.length) + 1 by show ri.total + 1 + tl.length = _;omega]
   refine ⟨fun h0 => (by rw [hr] at h0;cases h0),fun k hk => ?_⟩
   rw [hr] at hk
   have hk' : k = i ∨ k = j:=by simpa using hk
   by_cases hki : k = i
   ·subst hki
    exact one_force hoi (fun a' w' h' => Mv.sound hs hQ htl ri _ a' w' (hc.set_ hri) hBi h') h1
   ·obtain rfl : k = j:=hk'.resolve_left hki
    rw [ht]
    exact one_force hoj (fun a' w' h' => Mv.sound hs hQ htl rj _ a' w' (hc.set_ hrj) hBj h') h2
 | .fork3 i ri j rj k rk,listed,a,w,hc,hB,h => by
   simp only [Mv.okB,Bool.and_eq_true,decide_eq_true_eq] at hB
   obtain ⟨⟨⟨⟨⟨⟨⟨⟨hi,hj⟩,hk⟩,hr⟩,ht⟩,ht2⟩,hBi⟩,hBj⟩,hBk⟩:=hB
   obtain ⟨h1,h2,h3⟩:=h
   have hoi : l0.toArray[i]? = some (nth l0 i):=by simp at hi ⊢;simp [nth,hi]
   have hoj : l0.toArray[j]? = some (nth l0 j):=by simp at hj ⊢;simp [nth,hj]
   have hok : l0.toArray[k]? = some (nth l0 k):=by simp at hk ⊢;simp [nth,hk]
   have hri : i ∈ Region.ready .any l0.toArray listed:=by rw [hr];simp
   have hrj : j ∈ Region.ready .any l0.toArray listed:=by rw [hr];simp
   have hrk : k ∈ Region.ready .any l0.toArray listed:=by rw [hr];simp
   rw [show (Mv.fork3 i ri j rj k rk).total + tl.length = (ri.total + tl.length) + 1 by show ri.total + 1 + tl.length = _;omega]
   refine ⟨fun h0 => (by rw [hr] at h0;cases h0),fun m hm => ?_⟩
   rw [hr] at hm
   have hm' : m = i ∨ m = j ∨ m = k:=by simpa using hm
   by_cases hmi : m = i
   ·subst hmi
    exact one_force hoi (fun a' w' h' => Mv.sound hs hQ htl ri _ a' w' (hc.set_ hri) hBi h') h1
   ·by_cases hmj : m = j
    ·subst hmj
     rw [ht]
     exact one_force hoj (fun a' w' h' => Mv.sound hs hQ htl rj _ a' w' (hc.set_ hrj) hBj h') h2
    ·obtain rfl : m = k:=(hm'.resolve_left hmi).resolve_left hmj
     rw [ht2]
     exact one_force hok (fun a' w' h' => Mv.sound hs hQ htl rk _ a' w' (hc.set_ hrk) hBk h') h3
end
def mtB (ops : Array Oper) (mv : Mv) (tl : List Nat) : Bool :=
 Region.noSelect ops && (tl.all (· < ops.size)) && decide (mv.total + tl.length = ops.size) && mv.okB ops tl (Array.replicate ops.size false)
theorem wp_region_tree {P : Program} {id : Nat} {Q : Exit → Act → World → Prop} {a : Act} {w : World} {l : List Oper} (mv : Mv) (tl : List Nat) (hm : P.follows .mixedOrders = true) (hB : mtB l.toArray mv tl = true)
  (h : ∀ w1,Keep w w1 → mv.wp P l (Exit.then (fun a w => Q .normal a w) (fun _ _ _ => False)) (pick l tl) a w1) : (Code.region id l.toArray true).wp P Q a w:=by
 simp only [mtB,Bool.and_eq_true,decide_eq_true_eq] at hB
 obtain ⟨⟨⟨hs,htl⟩,hlen⟩,hB⟩:=hB
 refine wp_mono (Q:=Exit.then (fun a w => Q .normal a w) (fun _ _ _ => False)) (wp_region_any hm ?_) fun e a w h => by
  cases e with
  | normal => exact h
  | _ => exact False.elim h
 have:=Mv.sound (P:=P) (Q:=Exit.then (fun a w => Q .normal a w) (fun _ _ _ => False)) hs (fun _ _ _ _ _ h => h) (fun i hi => by simpa using List.all_eq_true.1 htl i hi) mv _ a { w with drawn:=w.drawn + 1 } (closed_none _ _) hB (h _ (((Below.refl _ _).drew)))
 rw [hlen] at this
 exact wpAny_of_K _ _ _ _ this
section
variable {P : Program} {l0 T : List Oper} {Q : Exit → Act → World → Prop} {a : Act} {w : World} {l : List Nat} {r ri rj rk : Mv} {i j k : Nat}
theorem mt_take (w0 : World) (hw : Gr w0 w) (h : wpQuiet P l0.toArray (fun w' => ∃ x,w' = aftG w0 x) (fun a' => r.wp P l0 Q T a' w) (pick l0 l) a) : (Mv.take l r).wp P l0 Q T a w:=⟨w0,hw,h⟩
theorem mt_force (h : wpForce P l0.toArray Q (r.wp P l0 Q T) (pick l0 l) a w) : (Mv.force l r).wp P l0 Q T a w:=h
theorem mt_fork (h1 : wpForce P l0.toArray Q (ri.wp P l0 Q T) [nth l0 i] a w) (h2 : wpForce P l0.toArray Q (rj.wp P l0 Q T) [nth l0 j] a w) : (Mv.fork i ri j rj).wp P l0 Q T a w:=⟨h1,h2⟩
theorem mt_end (h : wpList P l0.toArray Q T a w) : Mv.done.wp P l0 Q T a w:=h
end
end Go.Proofs.YtmbbknjddebhoaaGreatDoor.G
/- u256: Shl. -/
set_option linter.unusedSimpArgs false
set_option linter.unusedVariables false
namespace Go.Proofs.YtmbbknjddebhoaaGreatDoor
open Go.RowKit
attribute [local go_sem ↓] Go.wp_at_zero Go.wp_at_succ
def lowL (S k : Nat) : List Value:=[n64 (if 0 < k then limb S 0 else 0),n64 (if 1 < k then limb S 1 else 0),n64 (if 2 < k then limb S 2 else 0),n64 (if 3 < k then limb S 3 else 0)]
theorem lowL_four (S : Nat) : lowL S 4 = uL S:=rfl
theorem lowL_get (S k : Nat) (hk : k < 4) : (lowL S k)[k]? = some (n64 0):=by
 rcases (show k = 0 ∨ k = 1 ∨ k = 2 ∨ k = 3 by omega) with rfl | rfl | rfl | rfl <;> rfl
theorem lowL_set (S k : Nat) (hk : k < 4) : (lowL S k).set k (n64 (limb S k)) = lowL S (k + 1):=by
 rcases (show k = 0 ∨ k = 1 ∨ k = 2 ∨ k = 3 by omega) with rfl | rfl | rfl | rfl <;> rfl
theorem lowL_zero (S k : Nat) (h : ∀ j,j < k → limb S j = 0) : lowL S k = [n64 0,n64 0,n64 0,n64 0]:=by
 have e : ∀ j,(if j < k then limb S j else 0) = 0:=fun j => by split;exact h j ‹_›;rfl
 unfold lowL
 rw [e,e,e,e]
theorem or_words (x y d e : Nat) (hy : y < 2 ^ 64) : bits .or .u64 ((x : Int) * 2 ^ d % 18446744073709551616) ((y : Int) / 2 ^ e) = ((x * 2 ^ d % 2 ^ 64 ||| y / 2 ^ e : Nat) : Int):=by
 have h1 : (x : Int) * 2 ^ d % 18446744073709551616 = ((x * 2 ^ d % 2 ^ 64 : Nat) : Int):=by rw [Int.natCast_emod,Int.natCast_mul];rfl
 have h2 : (y : Int) / 2 ^ e = ((y / 2 ^ e : Nat) : Int):=by rw [Int.natCast_ediv];rfl
 rw [h1,h2]
 exact bits_or_u64_nat _ _ (Nat.mod_lt _ (by decide)) (Nat.lt_of_le_of_lt (Nat.div_le_self _ _) hy)
set_option maxRecDepth 100000 in
set_option maxHeartbeats 2000000 in
theorem shl_any (N n : Nat) (w : World) (hN : N < 2 ^ 256) (hn : n ≤ 100000) :
  Calls Tryz.prog 55 #[uV N,.int .i64 n] w fun e w' => e = .returned (.tuple #[uV (N * 2 ^ n % 2 ^ 256),.bool (decide (2 ^ 256 ≤ N * 2 ^ n))])∧Keep w w':=by
 by_cases h0 : n = 0
 ·subst h0
  have e1 : N * 2 ^ 0 % 2 ^ 256 = N:=by rw [Nat.pow_zero,Nat.mul_one];exact Nat.mod_eq_of_lt hN
  have e2 : decide (2 ^ 256 ≤ N * 2 ^ 0) = false:=decide_eq_false (by rw [Nat.pow_zero,Nat.mul_one];omega)
  rw [e1,e2]
  clear e1 e2 hN hn
  go_enter Tryz.func55,Tryz.ntmps55
  go_wp2
  have hb : Blk ((w.alloc (.cells #[n64 (limb N 0),n64 (limb N 1),n64 (limb N 2),n64 (limb N 3)] 62)).alloc (.cells #[n64 (limb N 0),n64 (limb N 1),n64 (limb N 2),n64 (limb N 3)] 62)) (w.heap.size + 1) 62 (uL N):=by
   have h2:=Blk.new (w.alloc (.cells #[n64 (limb N 0),n64 (limb N 1),n64 (limb N 2),n64 (limb N 3)] 62)) 62 (uL N)
   rw [World.size_alloc] at h2
   exact h2
  exact bodyPost_ret (v:=.tuple #[uV N,.bool false]) (results_cell_tmp_row Tryz.results55 _ _ (w.heap.size + 1) _ _ _ _ rfl hb Tryz.underlying62 rfl (by kernel_rfl)) rfl ⟨rfl,keep_trans (keep_new _ _) (keep_new _ _)⟩
 ·by_cases h1 : 256 ≤ n
  ·have e1 : N * 2 ^ n % 2 ^ 256 = 0:=by
    have : 2 ^ n = 2 ^ 256 * 2 ^ (n - 256):=by rw [← Nat.pow_add];congr 1;omega
    rw [this,Nat.mul_left_comm];exact Nat.mul_mod_right _ _
   have e2 : decide (2 ^ 256 ≤ N * 2 ^ n) = !decide (N = 0):=by
    by_cases hz : N = 0
    ·subst hz;rw [Nat.zero_mul];rfl
    ·have h3 : 2 ^ 256 ≤ 2 ^ n:=Nat.pow_le_pow_right (by decide) h1
     have h4 : 2 ^ n ≤ N * 2 ^ n:=Nat.le_mul_of_pos_left _ (by omega)
     rw [decide_eq_true (Nat.le_trans h3 h4),decide_eq_false hz];rfl
   rw [e1,e2,uV_zero]
   have he : ∀ w,(Go.binOp .neq 62 (uV N) u0).run Tryz.prog w = .ok (.bool (!decide (N = 0))) w:=fun w => by
    have:=u_neq hN (by decide : 0 < 2 ^ 256) w
    rw [uV_zero] at this;exact this
   have hgd:=u256_guard
   generalize (!decide (N = 0)) = bb at *
   have d1 : ¬ (n : Int) ≤ 0:=by omega
   have d2 : (256 : Int) ≤ (n : Int):=by omega
   clear e1 e2 hN h0 h1 hn
   go_enter Tryz.func55,Tryz.ntmps55
   go_upto_region 4 with fail
   go_region
   go_wp2
   have hb : Blk (((w.alloc (.cells #[n64 (limb N 0),n64 (limb N 1),n64 (limb N 2),n64 (limb N 3)] 62)).alloc (.cells #[.int .u64 0,.int .u64 0,.int .u64 0,.int .u64 0] 62)).drew) (w.heap.size + 1) 62 [.int .u64 0,.int .u64 0,.int .u64 0,.int .u64 0]:=by
    have h2:=Blk.new (w.alloc (.cells #[n64 (limb N 0),n64 (limb N 1),n64 (limb N 2),n64 (limb N 3)] 62)) 62 [.int .u64 0,.int .u64 0,.int .u64 0,.int .u64 0]
    rw [World.size_alloc] at h2
    exact h2.drew
   exact bodyPost_ret (v:=.tuple #[u0,.bool bb]) (results_cell_tmp_row Tryz.results55 _ _ (w.heap.size + 1) _ _ _ _ rfl hb Tryz.underlying62 rfl (by kernel_rfl)) rfl ⟨rfl,(keep_trans (keep_new _ _) (keep_new _ _)).drew⟩
  ·obtain ⟨S,hS⟩ : ∃ S,N * 2 ^ n % 2 ^ 256 = S:=⟨_,rfl⟩
   have HS : Hid (∀ i,i < 4 → limb S i = if i < n / 64 then 0 else ((limb N (i - n / 64) * 2 ^ (n % 64)) % 2 ^ 64) ||| (if n / 64 < i then limb N (i - n / 64 - 1) / 2 ^ (64 - n % 64) else 0)):=Lib.hid fun i hi => by rw [← hS];exact shl_limb N n i hi
   have ho : decide (2 ^ 256 ≤ N * 2 ^ n) = decide (256 < lenN N + n):=decide_eq_decide.2 (over_iff (by omega)).symm
   rw [hS,ho]
   have hL : lenN N ≤ 256:=lenN_le hN
   have Ln : Hid (∀ y,Calls Tryz.prog 73 #[uV N] y fun e w' => e = .returned (.int .i64 (lenN N : Nat))∧Keep y w'):=fun y => len_any N y hN
   obtain ⟨q,hq⟩ : ∃ q,n / 64 = q:=⟨_,rfl⟩
   obtain ⟨d,hd⟩ : ∃ d,n % 64 = d:=⟨_,rfl⟩
   have hq1 : Int.tdiv (n : Int) 64 = (q : Int):=by rw [Int.tdiv_eq_ediv_of_nonneg (by omega)];omega
   have hd1 : Int.tmod (n : Int) 64 = (d : Int):=by rw [Int.tmod_eq_emod_of_nonneg (by omega)];omega
   rw [hq,hd] at HS
   have hq4 : q < 4:=by omega
   have hd64 : d < 64:=by omega
   have d1 : ¬ (n : Int) ≤ 0:=by omega
   have d2 : ¬ (256 : Int) ≤ (n : Int):=by omega
   have hn1 : (n : Int) ≤ 256:=by omega
   generalize lenN N = L at *
   clear hN hn h0 h1 hS ho hq hd
   go_enter Tryz.func55,Tryz.ntmps55
   go_upto_region 8 with fail
   obtain ⟨w1,hw1⟩ : ∃ w1,w1 = (((w.alloc (.cells #[n64 (limb N 0),n64 (limb N 1),n64 (limb N 2),n64 (limb N 3)] 62)).alloc (.cells #[.int .u64 0,.int .u64 0,.int .u64 0,.int .u64 0] 62)).alloc (.cells #[.int .u64 0,.int .u64 0,.int .u64 0,.int .u64 0] 62)):=⟨_,rfl⟩
   have HA1 : Hid (Blk w1 w.heap.size 62 (uL N)):=by rw [hw1];exact ((Blk.new w 62 (uL N)).alloc _).alloc _
   have HR1 : Hid (Blk w1 (w.heap.size + 1) 62 [.int .u64 0,.int .u64 0,.int .u64 0,.int .u64 0]):=by
    rw [hw1]
    have h2:=Blk.new (w.alloc (.cells #[n64 (limb N 0),n64 (limb N 1),n64 (limb N 2),n64 (limb N 3)] 62)) 62 [.int .u64 0,.int .u64 0,.int .u64 0,.int .u64 0]
    rw [World.size_alloc] at h2
    exact h2.alloc _
   have HO1 : Hid (Blk w1 (w.heap.size + 1 + 1) 62 (lowL S q)):=by
    rw [hw1,lowL_zero S q (fun j hj => by rw [HS.out j (by omega),if_pos hj])]
    have h2:=Blk.new ((w.alloc (.cells #[n64 (limb N 0),n64 (limb N 1),n64 (limb N 2),n64 (limb N 3)] 62)).alloc (.cells #[.int .u64 0,.int .u64 0,.int .u64 0,.int .u64 0] 62)) 62 [.int .u64 0,.int .u64 0,.int .u64 0,.int .u64 0]
    rw [World.size_alloc,World.size_alloc] at h2
    exact h2
   have HK1 : Hid (Keep w w1):=by rw [hw1];exact keep_trans (keep_trans (keep_new _ _) (keep_new _ _)) (keep_new _ _)
   rw [← hw1]
   clear hw1
   go_wp2_with fail
   go_loopw [9] (fun i wr => ∃ j : Nat,q + j ≤ 4∧i = .int .i64 ((q : Int) + (j : Int))∧Hid (Blk wr (w.heap.size + 1 + 1) 62 (lowL S (q + j)))∧Hid (Blk wr w.heap.size 62 (uL N))∧Hid (Blk wr (w.heap.size + 1) 62 [.int .u64 0,.int .u64 0,.int .u64 0,.int .u64 0])∧Hid (Keep w wr)) (fun i _ => (4 - intOf i).toNat)
   case atStart => exact ⟨0,by omega,by simp,HO1,HA1,HR1,HK1⟩
   case round =>
    obtain ⟨j,hj,rfl,HO,HA,HR,HK⟩:=hrel
    by_cases hlt : q + j < 4
    ·have a0 : wr.cell? ⟨w.heap.size,j,none⟩ = some (n64 (limb N j)):=by rw [HA.out.cell,uL_get N j (by omega)]
     have o0 : wr.cell? ⟨w.heap.size + 1 + 1,q + j,none⟩ = some (n64 0):=by rw [HO.out.cell,lowL_get S (q + j) hlt]
     have of : wr.frozen? ⟨w.heap.size + 1 + 1,q + j,none⟩ = false:=HO.out.frozen _
     have i1 : (q : Int) + (j : Int) < 4:=by omega
     have hs:=HS.out (q + j) hlt
     rw [if_neg (by omega),show q + j - q = j by omega] at hs
     have Hs:=Lib.hid hs
     clear hs
     go_upto_region 11 with fail
     have hv : IntKind.u64.wrap ((limb N j : Int) * 2 ^ d) = ((limb N j * 2 ^ d % 2 ^ 64 : Nat) : Int):=by
      rw [IntKind.wrap_u64,Int.natCast_emod,Int.natCast_mul];rfl
     obtain ⟨w2,hw2⟩ : ∃ w2,w2 = wr.setCell ⟨w.heap.size + 1 + 1,q + j,none⟩ (.int .u64 (IntKind.u64.wrap ((limb N j : Int) * 2 ^ d))):=⟨_,rfl⟩
     have HO2 : Hid (Blk w2 (w.heap.size + 1 + 1) 62 ((lowL S (q + j)).set (q + j) (n64 (limb N j * 2 ^ d % 2 ^ 64)))):=by rw [hw2,hv];exact HO.out.set_ _ _
     have HA2 : Hid (Blk w2 w.heap.size 62 (uL N)):=by rw [hw2];exact HA.out.far (by simp;omega) _
     have HR2 : Hid (Blk w2 (w.heap.size + 1) 62 [.int .u64 0,.int .u64 0,.int .u64 0,.int .u64 0]):=by rw [hw2];exact HR.out.far (by simp) _
     have HK2 : Hid (Keep w w2):=by rw [hw2];exact Below.setCell HK.out (by simp;omega) _
     rw [← hw2]
     clear hw2 a0 o0 of HO HA HR HK
     cases j with
     | zero =>
       have hl:=Hs.out
       rw [if_neg (by omega),Nat.or_zero] at hl
       have HO3 : Hid (Blk w2 (w.heap.size + 1 + 1) 62 (lowL S (q + (0 + 1)))):=by
        have h1:=HO2.out
        rw [← hl,lowL_set S (q + 0) hlt] at h1;exact h1
       clear hl hv Hs
       go_wp2
       go_roundw
       case rel => exact ⟨0 + 1,by omega,by go_num,HO3,HA2,HR2,HK2⟩
       case measure => simp [intOf];omega
     | succ j =>
       have i2 : decide ((q : Int) < (q : Int) + ((j + 1 : Nat) : Int)) = true:=decide_eq_true (by omega)
       have i3 : (q : Int) + (j : Int) < 3:=by omega
       go_upto_region 12 with fail
       refine wp_region_tree (.take [0,1,2,3,4,5,6,7,8,9,10,11,12,13] .done) [14] (by kernel_rfl) (by kernel_rfl) (fun w9 k9 => ?_)
       have HO9:=Lib.hid (HO2.out.keep k9);have HA9:=Lib.hid (HA2.out.keep k9);have HR9:=Lib.hid (HR2.out.keep k9);have HK9:=Lib.hid (keep_trans HK2.out k9)
       clear k9
       have a0:=aft_cell (show w9.cell? ⟨w.heap.size,j,none⟩ = some (n64 (limb N j)) by rw [HA9.out.cell,uL_get N j (by omega)])
       have p0 : w9.cell? ⟨w.heap.size + 1 + 1,q + (j + 1),none⟩ = some (n64 (limb N (j + 1) * 2 ^ d % 2 ^ 64)):=by rw [HO9.out.cell,List.getElem?_set_self (by unfold lowL;simpa using hlt)]
       have o0:=aft_cell (show w9.cell? ⟨w.heap.size + 1 + 1,q + (j + 1),none⟩ = some (n64 (limb N (j + 1) * 2 ^ d % 2 ^ 64)) by rw [HO9.out.cell,List.getElem?_set_self (by unfold lowL;simpa using hlt)])
       have of9 : w9.frozen? ⟨w.heap.size + 1 + 1,q + (j + 1),none⟩ = false:=HO9.out.frozen _
       refine mt_take w9 (Below.refl _ _) ?_
       simp only [pick_cons,pick_nil,nth_zero,nth_succ]
       repeat (go_big_quiet_step (fail))
       refine wpQuiet_nil ?_
       refine mt_end ?_
       clear a0 o0
       have hl:=Hs.out
       rw [if_pos (by omega)] at hl
       have Hl:=Lib.hid hl
       clear hl Hs hv
       go_wp2
       go_roundw
       case rel =>
        rw [or_words _ _ _ _ (limb_lt N j)]
        refine ⟨j + 1 + 1,by omega,by go_num,Lib.hid ?_,Lib.hid (HA9.out.far (by simp;omega) _),Lib.hid (HR9.out.far (by simp) _),Lib.hid (Below.setCell HK9.out (by simp;omega) _)⟩
        have h1:=HO9.out.set_ (q + (j + 1)) (n64 (limb S (q + (j + 1))))
        rw [List.set_set,lowL_set S _ hlt,Hl.out] at h1
        exact h1
       case measure => simp [intOf];omega
    ·obtain rfl : j = 4 - q:=by omega
     have hO:=HO.out;have hA:=HA.out;have hR:=HR.out
     rw [show q + (4 - q) = 4 by omega,lowL_four] at hO
     have o0:=hO.cell 0;have o1:=hO.cell 1;have o2:=hO.cell 2;have o3:=hO.cell 3
     have a0:=hA.cell 0;have a1:=hA.cell 1;have a2:=hA.cell 2;have a3:=hA.cell 3
     have r0:=hR.cell 0;have r1:=hR.cell 1;have r2:=hR.cell 2;have r3:=hR.cell 3
     have f0:=hR.frozen 0;have f1:=hR.frozen 1;have f2:=hR.frozen 2;have f3:=hR.frozen 3
     simp only [uL,List.getElem?_cons_zero,List.getElem?_cons_succ] at o0 o1 o2 o3 a0 a1 a2 a3 r0 r1 r2 r3
     have i1 : ¬ (q : Int) + ((4 - q : Nat) : Int) < 4:=by omega
     have hOl:=hO.lt
     clear hO hA HO HA HS HO1 HA1 HR1 HK1
     go_upto_region 13 with fail
     letI iM : G.Mk:=⟨some (w.heap.size + 1)⟩
     refine G.wp_region_tree (.take [0,1,3] (.force [2] (.take [4,5] (.force [6] .done)))) [7] (by kernel_rfl) (by kernel_rfl) (fun w9 k9 => ?_)
     have hneA : G.Mk.m ≠ some w.heap.size:=fun e => by have e2 : w.heap.size + 1 = w.heap.size:=Option.some.inj e;omega
     have hneO : G.Mk.m ≠ some (w.heap.size + 1 + 1):=fun e => by have e2 : w.heap.size + 1 = w.heap.size + 1 + 1:=Option.some.inj e;omega
     have b0:=G.aftG_cell (keep_cell k9 a0) hneA;have b1:=G.aftG_cell (keep_cell k9 a1) hneA;have b2:=G.aftG_cell (keep_cell k9 a2) hneA;have b3:=G.aftG_cell (keep_cell k9 a3) hneA
     have c0:=G.aftG_cell (keep_cell k9 o0) hneO;have c1:=G.aftG_cell (keep_cell k9 o1) hneO;have c2:=G.aftG_cell (keep_cell k9 o2) hneO;have c3:=G.aftG_cell (keep_cell k9 o3) hneO
     have HK9:=Lib.hid (keep_trans HK.out k9);have HR9:=Lib.hid (HR.out.keep k9)
     clear a0 a1 a2 a3 o0 o1 o2 o3 r0 r1 r2 r3 f0 f1 f2 f3 HK k9
     refine G.mt_take w9 (G.Gr.refl _) ?_
     simp only [pick_cons,pick_nil,nth_zero,nth_succ]
     repeat (go_big_quiet_step (fail))
     refine wpQuiet_nil (G.mt_force ?_)
     simp only [pick_cons,pick_nil,nth_zero,nth_succ]
     refine G.fc_step rfl (fun K hK => ?_)
     go_simp
     (with_reducible refine (Ln.out _).mono ?_)
     rintro e wa ⟨rfl,ka⟩
     refine hK _ _ (G.Gr.of_keep ka) ?_
     have HKa:=Lib.hid (keep_trans HK9.out ka);have HRa:=Lib.hid (HR9.out.keep ka)
     clear hK K b0 b1 b2 b3 c0 c1 c2 c3 ka
     refine G.fc_nil (G.mt_take wa (G.Gr.refl _) ?_)
     simp only [pick_cons,pick_nil,nth_zero,nth_succ]
     repeat (go_big_quiet_step (fail))
     refine wpQuiet_nil (G.mt_force ?_)
     simp only [pick_cons,pick_nil,nth_zero,nth_succ]
     refine G.fc_step rfl (fun K hK => ?_)
     have r0:=HRa.out.cell 0;have r1:=HRa.out.cell 1;have r2:=HRa.out.cell 2;have r3:=HRa.out.cell 3
     have f0:=HRa.out.frozen 0;have f1:=HRa.out.frozen 1;have f2:=HRa.out.frozen 2;have f3:=HRa.out.frozen 3
     simp only [List.getElem?_cons_zero,List.getElem?_cons_succ] at r0 r1 r2 r3
     go_simp
     refine hK _ _ (show G.Gr wa _ from grown_set (grown_set (grown_set (grown_set (grown_refl wa _))))) ?_
     clear hK K r0 r1 r2 r3 f0 f1 f2 f3
     refine G.fc_nil (G.mt_end ?_)
     clear hneA hneO
     clear iM
     have hb8:=(((HRa.out.set_ 0 (n64 (limb S 0))).set_ 1 (n64 (limb S 1))).set_ 2 (n64 (limb S 2))).set_ 3 (n64 (limb S 3))
     have HK8 : Hid (Keep w ((((wa.setCell ⟨w.heap.size + 1,0,none⟩ (n64 (limb S 0))).setCell ⟨w.heap.size + 1,1,none⟩ (n64 (limb S 1))).setCell ⟨w.heap.size + 1,2,none⟩ (n64 (limb S 2))).setCell ⟨w.heap.size + 1,3,none⟩ (n64 (limb S 3)))):=by
      refine Lib.hid ?_
      iterate 4 (refine Below.setCell ?_ (by simp) _)
      exact HKa.out
     have Hb8:=Lib.hid hb8
     clear hb8
     go_wp2
     exact bodyPost_ret (v:=.tuple #[uV S,.bool (decide ((256 : Int) < (L : Int) + (n : Int)))]) (results_cell_tmp_row Tryz.results55 _ _ (w.heap.size + 1) _ _ _ _ rfl Hb8.out Tryz.underlying62 rfl (by kernel_rfl)) rfl ⟨by rw [show decide ((256 : Int) < (L : Int) + (n : Int)) = decide (256 < L + n) from decide_eq_decide.2 (by omega)],HK8.out⟩
end Go.Proofs.YtmbbknjddebhoaaGreatDoor
/- u256: Shr. -/
set_option linter.unusedSimpArgs false
set_option linter.unusedVariables false
namespace Go.Proofs.YtmbbknjddebhoaaGreatDoor
open Go.RowKit
attribute [local go_sem ↓] Go.wp_at_zero Go.wp_at_succ
theorem or_words2 (x y d e : Nat) (hx : x < 2 ^ 64) : bits .or .u64 ((x : Int) / 2 ^ d) ((y : Int) * 2 ^ e % 18446744073709551616) = ((x / 2 ^ d ||| y * 2 ^ e % 2 ^ 64 : Nat) : Int):=by
 have h1 : (y : Int) * 2 ^ e % 18446744073709551616 = ((y * 2 ^ e % 2 ^ 64 : Nat) : Int):=by rw [Int.natCast_emod,Int.natCast_mul];rfl
 have h2 : (x : Int) / 2 ^ d = ((x / 2 ^ d : Nat) : Int):=by rw [Int.natCast_ediv];rfl
 rw [h1,h2]
 exact bits_or_u64_nat _ _ (Nat.lt_of_le_of_lt (Nat.div_le_self _ _) hx) (Nat.mod_lt _ (by decide))
theorem lowL_all (S k : Nat) (h : ∀ j,k ≤ j → j < 4 → limb S j = 0) : lowL S k = uL S:=by
 have e : ∀ j,j < 4 → (if j < k then limb S j else 0) = limb S j:=fun j hj => by
  split
  ·rfl
  ·exact (h j (by omega) hj).symm
 unfold lowL uL
 rw [e 0 (by omega),e 1 (by omega),e 2 (by omega),e 3 (by omega)]
set_option maxRecDepth 100000 in
set_option maxHeartbeats 2000000 in
theorem shr_any (N n : Nat) (w : World) (hN : N < 2 ^ 256) (hn : n ≤ 100000) :
  Calls Tryz.prog 54 #[uV N,.int .i64 n] w fun e w' => e = .returned (uV (N / 2 ^ n))∧Keep w w':=by
 by_cases h0 : n = 0
 ·subst h0
  have e1 : N / 2 ^ 0 = N:=by rw [Nat.pow_zero,Nat.div_one]
  rw [e1]
  clear e1 hN hn
  go_enter Tryz.func54,Tryz.ntmps54
  go_wp2
  have hb : Blk ((w.alloc (.cells #[n64 (limb N 0),n64 (limb N 1),n64 (limb N 2),n64 (limb N 3)] 62)).alloc (.cells #[n64 (limb N 0),n64 (limb N 1),n64 (limb N 2),n64 (limb N 3)] 62)) (w.heap.size + 1) 62 (uL N):=by
   have h2:=Blk.new (w.alloc (.cells #[n64 (limb N 0),n64 (limb N 1),n64 (limb N 2),n64 (limb N 3)] 62)) 62 (uL N)
   rw [World.size_alloc] at h2
   exact h2
  exact bodyPost_ret (v:=uV N) (results_cell_row Tryz.results54 _ _ (w.heap.size + 1) _ _ _ _ rfl hb Tryz.underlying62 rfl (by kernel_rfl)) rfl ⟨rfl,keep_trans (keep_new _ _) (keep_new _ _)⟩
 ·by_cases h1 : 256 ≤ n
  ·have e1 : N / 2 ^ n = 0:=Nat.div_eq_of_lt (Nat.lt_of_lt_of_le hN (Nat.pow_le_pow_right (by decide) h1))
   rw [e1,uV_zero]
   have d1 : ¬ (n : Int) ≤ 0:=by omega
   have d2 : (256 : Int) ≤ (n : Int):=by omega
   clear e1 hN h0 h1 hn
   go_enter Tryz.func54,Tryz.ntmps54
   go_wp2
   have hb : Blk ((w.alloc (.cells #[n64 (limb N 0),n64 (limb N 1),n64 (limb N 2),n64 (limb N 3)] 62)).alloc (.cells #[.int .u64 0,.int .u64 0,.int .u64 0,.int .u64 0] 62)) (w.heap.size + 1) 62 [.int .u64 0,.int .u64 0,.int .u64 0,.int .u64 0]:=by
    have h2:=Blk.new (w.alloc (.cells #[n64 (limb N 0),n64 (limb N 1),n64 (limb N 2),n64 (limb N 3)] 62)) 62 [.int .u64 0,.int .u64 0,.int .u64 0,.int .u64 0]
    rw [World.size_alloc] at h2
    exact h2
   exact bodyPost_ret (v:=u0) (results_cell_row Tryz.results54 _ _ (w.heap.size + 1) _ _ _ _ rfl hb Tryz.underlying62 rfl (by kernel_rfl)) rfl ⟨rfl,keep_trans (keep_new _ _) (keep_new _ _)⟩
  ·obtain ⟨S,hS⟩ : ∃ S,N / 2 ^ n = S:=⟨_,rfl⟩
   have HS : Hid (∀ i,limb S i = if i + n / 64 < 4 then (limb N (i + n / 64) / 2 ^ (n % 64)) ||| (if i + n / 64 < 3 then (limb N (i + n / 64 + 1) * 2 ^ (64 - n % 64)) % 2 ^ 64 else 0) else 0):=Lib.hid fun i => by rw [← hS];exact shr_limb N n i hN
   rw [hS]
   obtain ⟨q,hq⟩ : ∃ q,n / 64 = q:=⟨_,rfl⟩
   obtain ⟨d,hd⟩ : ∃ d,n % 64 = d:=⟨_,rfl⟩
   have hq1 : Int.tdiv (n : Int) 64 = (q : Int):=by rw [Int.tdiv_eq_ediv_of_nonneg (by omega)];omega
   have hd1 : Int.tmod (n : Int) 64 = (d : Int):=by rw [Int.tmod_eq_emod_of_nonneg (by omega)];omega
   rw [hq,hd] at HS
   have hq4 : q < 4:=by omega
   have hd64 : d < 64:=by omega
   have d1 : ¬ (n : Int) ≤ 0:=by omega
   have d2 : ¬ (256 : Int) ≤ (n : Int):=by omega
   have hn1 : (n : Int) ≤ 256:=by omega
   clear hN hn h0 h1 hS hq hd
   go_enter Tryz.func54,Tryz.ntmps54
   go_upto_region 7 with fail
   obtain ⟨w1,hw1⟩ : ∃ w1,w1 = (((w.alloc (.cells #[n64 (limb N 0),n64 (limb N 1),n64 (limb N 2),n64 (limb N 3)] 62)).alloc (.cells #[.int .u64 0,.int .u64 0,.int .u64 0,.int .u64 0] 62)).alloc (.cells #[.int .u64 0,.int .u64 0,.int .u64 0,.int .u64 0] 62)):=⟨_,rfl⟩
   have HA1 : Hid (Blk w1 w.heap.size 62 (uL N)):=by rw [hw1];exact ((Blk.new w 62 (uL N)).alloc _).alloc _
   have HR1 : Hid (Blk w1 (w.heap.size + 1) 62 [.int .u64 0,.int .u64 0,.int .u64 0,.int .u64 0]):=by
    rw [hw1]
    have h2:=Blk.new (w.alloc (.cells #[n64 (limb N 0),n64 (limb N 1),n64 (limb N 2),n64 (limb N 3)] 62)) 62 [.int .u64 0,.int .u64 0,.int .u64 0,.int .u64 0]
    rw [World.size_alloc] at h2
    exact h2.alloc _
   have HO1 : Hid (Blk w1 (w.heap.size + 1 + 1) 62 (lowL S 0)):=by
    rw [hw1,lowL_zero S 0 (fun j hj => by omega)]
    have h2:=Blk.new ((w.alloc (.cells #[n64 (limb N 0),n64 (limb N 1),n64 (limb N 2),n64 (limb N 3)] 62)).alloc (.cells #[.int .u64 0,.int .u64 0,.int .u64 0,.int .u64 0] 62)) 62 [.int .u64 0,.int .u64 0,.int .u64 0,.int .u64 0]
    rw [World.size_alloc,World.size_alloc] at h2
    exact h2
   have HK1 : Hid (Keep w w1):=by rw [hw1];exact keep_trans (keep_trans (keep_new _ _) (keep_new _ _)) (keep_new _ _)
   rw [← hw1]
   clear hw1
   go_wp2_with fail
   go_loopw [8] (fun i wr => ∃ j : Nat,j + q ≤ 4∧i = .int .i64 (j : Int)∧Hid (Blk wr (w.heap.size + 1 + 1) 62 (lowL S j))∧Hid (Blk wr w.heap.size 62 (uL N))∧Hid (Blk wr (w.heap.size + 1) 62 [.int .u64 0,.int .u64 0,.int .u64 0,.int .u64 0])∧Hid (Keep w wr)) (fun i _ => (4 - intOf i).toNat)
   case atStart => exact ⟨0,by omega,rfl,HO1,HA1,HR1,HK1⟩
   case round =>
    obtain ⟨j,hj,rfl,HO,HA,HR,HK⟩:=hrel
    by_cases hlt : j + q < 4
    ·have a0 : wr.cell? ⟨w.heap.size,j + q,none⟩ = some (n64 (limb N (j + q))):=by rw [HA.out.cell,uL_get N (j + q) hlt]
     have o0 : wr.cell? ⟨w.heap.size + 1 + 1,j,none⟩ = some (n64 0):=by rw [HO.out.cell,lowL_get S j (by omega)]
     have of : wr.frozen? ⟨w.heap.size + 1 + 1,j,none⟩ = false:=HO.out.frozen _
     have i1 : (j : Int) + (q : Int) < 4:=by omega
     have hs:=HS.out j
     rw [if_pos hlt] at hs
     have Hs:=Lib.hid hs
     clear hs
     go_upto_region 11 with fail
     have hv : (limb N (j + q) : Int) / 2 ^ d = ((limb N (j + q) / 2 ^ d : Nat) : Int):=by rw [Int.natCast_ediv];rfl
     obtain ⟨w2,hw2⟩ : ∃ w2,w2 = wr.setCell ⟨w.heap.size + 1 + 1,j,none⟩ (.int .u64 ((limb N (j + q) : Int) / 2 ^ d)):=⟨_,rfl⟩
     have HO2 : Hid (Blk w2 (w.heap.size + 1 + 1) 62 ((lowL S j).set j (n64 (limb N (j + q) / 2 ^ d)))):=by rw [hw2,hv];exact HO.out.set_ _ _
     have HA2 : Hid (Blk w2 w.heap.size 62 (uL N)):=by rw [hw2];exact HA.out.far (by simp;omega) _
     have HR2 : Hid (Blk w2 (w.heap.size + 1) 62 [.int .u64 0,.int .u64 0,.int .u64 0,.int .u64 0]):=by rw [hw2];exact HR.out.far (by simp) _
     have HK2 : Hid (Keep w w2):=by rw [hw2];exact Below.setCell HK.out (by simp;omega) _
     rw [← hw2]
     clear hw2 a0 o0 of HO HA HR HK hv
     by_cases h3 : j + q < 3
     ·have i2 : decide ((j : Int) + (q : Int) < 3) = true:=decide_eq_true (by omega)
      have i3 : (j : Int) + (q : Int) + 1 < 4:=by omega
      go_upto_region 12 with fail
      refine wp_region_tree (.take [0,1,2,3,4,5,6,7,8,9,10,11,12,13] .done) [14] (by kernel_rfl) (by kernel_rfl) (fun w9 k9 => ?_)
      have HO9:=Lib.hid (HO2.out.keep k9);have HA9:=Lib.hid (HA2.out.keep k9);have HR9:=Lib.hid (HR2.out.keep k9);have HK9:=Lib.hid (keep_trans HK2.out k9)
      clear k9
      have a0:=aft_cell (show w9.cell? ⟨w.heap.size,j + q + 1,none⟩ = some (n64 (limb N (j + q + 1))) by rw [HA9.out.cell,uL_get N (j + q + 1) (by omega)])
      have p0 : w9.cell? ⟨w.heap.size + 1 + 1,j,none⟩ = some (n64 (limb N (j + q) / 2 ^ d)):=by rw [HO9.out.cell,List.getElem?_set_self (by unfold lowL;simp;omega)]
      have o0:=aft_cell p0
      have of9 : w9.frozen? ⟨w.heap.size + 1 + 1,j,none⟩ = false:=HO9.out.frozen _
      refine mt_take w9 (Below.refl _ _) ?_
      simp only [pick_cons,pick_nil,nth_zero,nth_succ]
      repeat (go_big_quiet_step (fail))
      refine wpQuiet_nil ?_
      refine mt_end ?_
      clear a0 o0
      have hl:=Hs.out
      rw [if_pos h3] at hl
      have Hl:=Lib.hid hl
      clear hl Hs
      go_wp2
      go_roundw
      case rel =>
       refine ⟨j + 1,by omega,by go_num,Lib.hid ?_,Lib.hid (HA9.out.far (by simp;omega) _),Lib.hid (HR9.out.far (by simp) _),Lib.hid (Below.setCell HK9.out (by simp;omega) _)⟩
       have h1:=HO9.out.set_ j (n64 (limb S j))
       rw [List.set_set,lowL_set S _ (by omega),Hl.out] at h1
       have h2:=or_words2 (limb N (j + q)) (limb N (j + q + 1)) d (64 - d) (limb_lt _ _)
       rw [IntKind.wrap_u64,h2]
       exact h1
      case measure => simp [intOf];omega
     ·have i2 : decide ((j : Int) + (q : Int) < 3) = false:=decide_eq_false (by omega)
      have hl:=Hs.out
      rw [if_neg h3,Nat.or_zero] at hl
      have HO3 : Hid (Blk w2 (w.heap.size + 1 + 1) 62 (lowL S (j + 1))):=by
       have h1:=HO2.out
       rw [← hl,lowL_set S j (by omega)] at h1;exact h1
      clear hl Hs
      go_wp2
      go_roundw
      case rel => exact ⟨j + 1,by omega,by go_num,HO3,HA2,HR2,HK2⟩
      case measure => simp [intOf];omega
    ·have hO:=HO.out;have hR:=HR.out
     rw [lowL_all S j (fun i h1 h2 => by rw [HS.out i,if_neg (by omega)])] at hO
     have o0:=hO.cell 0;have o1:=hO.cell 1;have o2:=hO.cell 2;have o3:=hO.cell 3
     have r0:=hR.cell 0;have r1:=hR.cell 1;have r2:=hR.cell 2;have r3:=hR.cell 3
     have f0:=hR.frozen 0;have f1:=hR.frozen 1;have f2:=hR.frozen 2;have f3:=hR.frozen 3
     simp only [uL,List.getElem?_cons_zero,List.getElem?_cons_succ] at o0 o1 o2 o3 r0 r1 r2 r3
     have i1 : ¬ (j : Int) + (q : Int) < 4:=by omega
     have hb8:=(((HR.out.set_ 0 (n64 (limb S 0))).set_ 1 (n64 (limb S 1))).set_ 2 (n64 (limb S 2))).set_ 3 (n64 (limb S 3))
     have HK8 : Hid (Keep w ((((wr.setCell ⟨w.heap.size + 1,0,none⟩ (n64 (limb S 0))).setCell ⟨w.heap.size + 1,1,none⟩ (n64 (limb S 1))).setCell ⟨w.heap.size + 1,2,none⟩ (n64 (limb S 2))).setCell ⟨w.heap.size + 1,3,none⟩ (n64 (limb S 3)))):=by
      refine Lib.hid ?_
      iterate 4 (refine Below.setCell ?_ (by simp) _)
      exact HK.out
     have Hb8:=Lib.hid hb8
     clear hb8 hO hR HO HA HS HO1 HA1 HR1 HK1 HR
     go_wp2
     exact bodyPost_ret (v:=uV S) (results_cell_row Tryz.results54 _ _ (w.heap.size + 1) _ _ _ _ rfl Hb8.out Tryz.underlying62 rfl (by kernel_rfl)) rfl ⟨rfl,HK8.out⟩
end Go.Proofs.YtmbbknjddebhoaaGreatDoor
/- hash.Number. -/
set_option linter.unusedSimpArgs false
set_option linter.unusedVariables false
namespace Go.Proofs.YtmbbknjddebhoaaGreatDoor
open Go.RowKit
attribute [local go_sem ↓] Go.wp_at_zero Go.wp_at_succ
theorem idx_hash {l : List UInt8} {cs : Array Value} (h : HashA l cs) (hl : l.length = 32) (k : Nat) (hk : k < 32) (w : World) :
  (Instr.index 28 (.agg cs) (.int .i64 k)).run Tryz.prog w = .ok (u8v (l.getD k 0)) w:=by
 have hc : cs[k]? = some (u8v (l.getD k 0)):=by
  rw [← Array.getElem?_toList,h.l,List.getElem?_map,List.getElem?_eq_getElem (show k < l.length by omega),List.getD_eq_getElem?_getD,List.getElem?_eq_getElem (show k < l.length by omega)]
  rfl
 have hp : (part 5 cs (k * 1)).run Tryz.prog w = .ok (u8v (l.getD k 0)) w:=by
  simp [part,isAgg,run_underlying Tryz.underlying5,hc]
 have hi : (asIntOf (.int .i64 (k : Int))).run Tryz.prog w = .ok (.i64,(k : Int)) w:=rfl
 unfold Instr.index
 simp only [Sem.run_bind,hi,Result.andThen_ok,run_underlying hash_under]
 rw [if_pos ⟨by omega,by omega⟩]
 simp only [Sem.run_bind,u8_size,Result.andThen_ok,Int.toNat_natCast,hp]
theorem uL_byte (T x k : Nat) (hT : T < 2 ^ (8 * k)) (hx : x < 256) (hk : k < 32) : (uL T).set (k / 8) (n64 (limb T (k / 8) ||| (x * 2 ^ (8 * (k % 8))))) = uL (T + 2 ^ (8 * k) * x):=by
 unfold uL
 rw [byte_limb T x k 0 hT hx,byte_limb T x k 1 hT hx,byte_limb T x k 2 hT hx,byte_limb T x k 3 hT hx]
 rcases (show k / 8 = 0 ∨ k / 8 = 1 ∨ k / 8 = 2 ∨ k / 8 = 3 by omega) with e | e | e | e <;> rw [e] <;> rfl
theorem or_byte (x y e : Nat) (hx : x < 2 ^ 64) (hy : y < 256) (he : e ≤ 56) : bits .or .u64 (x : Int) (IntKind.u64.wrap ((y : Int) * 2 ^ e)) = ((x ||| y * 2 ^ e : Nat) : Int):=by
 have h0 : y * 2 ^ e < 2 ^ 64:=by
  have h1 : 2 ^ e ≤ 2 ^ 56:=Nat.pow_le_pow_right (by decide) he
  have h2 : y * 2 ^ e ≤ 255 * 2 ^ 56:=Nat.mul_le_mul (by omega) h1
  have h3 : 255 * 2 ^ 56 < 2 ^ 64:=by decide
  omega
 have h1 : IntKind.u64.wrap ((y : Int) * 2 ^ e) = ((y * 2 ^ e : Nat) : Int):=by
  rw [IntKind.wrap_u64,show (y : Int) * 2 ^ e = ((y * 2 ^ e : Nat) : Int) by rw [Int.natCast_mul];rfl]
  have : 2 ^ 64 = 18446744073709551616:=by decide
  omega
 rw [h1]
 exact bits_or_u64_nat _ _ hx h0
set_option maxRecDepth 100000 in
set_option maxHeartbeats 2000000 in
theorem hnum_any (l : List UInt8) (cs : Array Value) (w : World) (hl : l.length = 32) (h : HashA l cs) :
  Calls Tryz.prog 39 #[.agg cs] w fun e w' => e = .returned (uV (leN l))∧Keep w w':=by
 have hz:=h.z;have hn:=h.n;have hi:=h.i
 have hI : Hid (∀ k : Nat,k < 32 → ∀ w,(Instr.index 28 (.agg cs) (.int .i64 k)).run Tryz.prog w = .ok (u8v (l.getD k 0)) w):=Lib.hid fun k hk w => idx_hash h hl k hk w
 have HT : Hid (∀ k : Nat,k < 32 → leN (l.take k) < 2 ^ (8 * k)∧leN (l.take (k + 1)) = leN (l.take k) + 2 ^ (8 * k) * (l.getD k 0).toNat):=Lib.hid fun k hk => by
  have hlt : (l.take k).length = k:=by rw [List.length_take];omega
  refine ⟨by have:=leN_lt (l.take k);rw [hlt] at this;exact this,?_⟩
  rw [List.take_succ_eq_append_getElem (by omega),leN_snoc,hlt,List.getD_eq_getElem?_getD,List.getElem?_eq_getElem (show k < l.length by omega)]
  rfl
 have HE : Hid (leN (l.take 32) = leN l):=Lib.hid (by rw [List.take_of_length_le (by omega)])
 have H:=Lib.hid h
 clear h hl
 generalize leN l = M at *
 go_enter Tryz.func39,Tryz.ntmps39
 go_upto_region 2 with fail
 obtain ⟨w1,hw1⟩ : ∃ w1,w1 = (((w.alloc (.cells cs 28)).alloc (.cells #[.int .u64 0,.int .u64 0,.int .u64 0,.int .u64 0] 62)).alloc (.cells #[.int .u64 0,.int .u64 0,.int .u64 0,.int .u64 0] 62)):=⟨_,rfl⟩
 have HA1 : Hid (Blk w1 w.heap.size 28 cs.toList):=by rw [hw1];exact ((Blk.new w 28 cs.toList).alloc _).alloc _
 have HR1 : Hid (Blk w1 (w.heap.size + 1) 62 [.int .u64 0,.int .u64 0,.int .u64 0,.int .u64 0]):=by
  rw [hw1]
  have h2:=Blk.new (w.alloc (.cells cs 28)) 62 [.int .u64 0,.int .u64 0,.int .u64 0,.int .u64 0]
  rw [World.size_alloc] at h2
  exact h2.alloc _
 have HO1 : Hid (Blk w1 (w.heap.size + 1 + 1) 62 (uL (leN (l.take 0)))):=by
  have e : uL (leN (l.take 0)) = [.int .u64 0,.int .u64 0,.int .u64 0,.int .u64 0]:=by rw [List.take_zero];simp [uL,n64,leN,limb0]
  rw [hw1,e]
  have h2:=Blk.new ((w.alloc (.cells cs 28)).alloc (.cells #[.int .u64 0,.int .u64 0,.int .u64 0,.int .u64 0] 62)) 62 [.int .u64 0,.int .u64 0,.int .u64 0,.int .u64 0]
  rw [World.size_alloc,World.size_alloc] at h2
  exact h2
 have HK1 : Hid (Keep w w1):=by rw [hw1];exact keep_trans (keep_trans (keep_new _ _) (keep_new _ _)) (keep_new _ _)
 rw [← hw1]
 clear hw1
 go_wp2_with ((with_reducible refine load_arr w.heap.size cs (Eq.trans ?_ rfl) HA1.out (.array 32 5) hash_under (arr_row _ _) hi ?_);rfl)
 go_loopw [4,5,7] (fun _ _ i wr => ∃ k : Nat,k ≤ 32∧i = .int .i64 (k : Int)∧Hid (Blk wr (w.heap.size + 1 + 1) 62 (uL (leN (l.take k))))∧Hid (Blk wr (w.heap.size + 1) 62 [.int .u64 0,.int .u64 0,.int .u64 0,.int .u64 0])∧Hid (Keep w wr)) (fun _ _ i _ => (32 - intOf i).toNat)
 case atStart => exact ⟨0,by omega,rfl,HO1,HR1,HK1⟩
 case round =>
  obtain ⟨k,hk,rfl,HO,HR,HK⟩:=hrel
  by_cases hlt : k < 32
  ·have i1 : (k : Int) < 32:=by omega
   have ix:=hI.out k hlt
   obtain ⟨hT,hS⟩:=HT.out k hlt
   have hx:=(l.getD k 0).toNat_lt
   have hset:=uL_byte (leN (l.take k)) (l.getD k 0).toNat k hT hx hlt
   rw [← hS] at hset
   have Hset:=Lib.hid hset
   have q1 : Int.tdiv (k : Int) 8 = ((k / 8 : Nat) : Int):=by rw [Int.tdiv_eq_ediv_of_nonneg (by omega)];omega
   have q2 : Int.tmod (k : Int) 8 = ((k % 8 : Nat) : Int):=by rw [Int.tmod_eq_emod_of_nonneg (by omega)];omega
   generalize l.getD k 0 = x at *
   generalize hT2 : leN (l.take (k + 1)) = T2 at *
   have HT2:=Lib.hid hT2
   clear hT2
   generalize leN (l.take k) = T at *
   have hd8 : k / 8 < 4:=by omega
   have hr8 : k % 8 < 8:=by omega
   generalize hqe : k / 8 = q at *
   generalize hre : k % 8 = r at *
   clear hset hT hS hqe hre
   go_upto_region 5 with fail
   refine wp_region_tree (.take [0,1,2,3,4,5,6,7,8,9,10,11] .done) [12] (by kernel_rfl) (by kernel_rfl) (fun w9 k9 => ?_)
   have HO9:=Lib.hid (HO.out.keep k9);have HR9:=Lib.hid (HR.out.keep k9);have HK9:=Lib.hid (keep_trans HK.out k9)
   clear k9
   have p0 : w9.cell? ⟨w.heap.size + 1 + 1,q,none⟩ = some (n64 (limb T q)):=by rw [HO9.out.cell,uL_get T q hd8]
   have o0:=aft_cell p0
   have of9 : w9.frozen? ⟨w.heap.size + 1 + 1,q,none⟩ = false:=HO9.out.frozen _
   refine mt_take w9 (Below.refl _ _) ?_
   simp only [pick_cons,pick_nil,nth_zero,nth_succ]
   repeat (go_big_quiet_step (fail))
   refine wpQuiet_nil ?_
   refine mt_end ?_
   clear o0
   go_wp2
   go_roundw
   case rel =>
    rw [or_byte _ _ _ (limb_lt T q) hx (by omega)]
    refine ⟨k + 1,by omega,by go_num,Lib.hid ?_,Lib.hid (HR9.out.far (by simp) _),Lib.hid (Below.setCell HK9.out (by simp;omega) _)⟩
    have h1:=HO9.out.set_ q (n64 (limb T q ||| (x.toNat * 2 ^ (8 * r))))
    rw [Hset.out,← HT2.out] at h1
    exact h1
   case measure => simp [intOf];omega
  ·obtain rfl : k = 32:=by omega
   have hO:=HO.out
   rw [HE.out] at hO
   have hR:=HR.out
   have o0:=hO.cell 0;have o1:=hO.cell 1;have o2:=hO.cell 2;have o3:=hO.cell 3
   have r0:=hR.cell 0;have r1:=hR.cell 1;have r2:=hR.cell 2;have r3:=hR.cell 3
   have f0:=hR.frozen 0;have f1:=hR.frozen 1;have f2:=hR.frozen 2;have f3:=hR.frozen 3
   simp only [uL,List.getElem?_cons_zero,List.getElem?_cons_succ] at o0 o1 o2 o3 r0 r1 r2 r3
   have hb8:=(((HR.out.set_ 0 (n64 (limb M 0))).set_ 1 (n64 (limb M 1))).set_ 2 (n64 (limb M 2))).set_ 3 (n64 (limb M 3))
   have HK8 : Hid (Keep w ((((wr.setCell ⟨w.heap.size + 1,0,none⟩ (n64 (limb M 0))).setCell ⟨w.heap.size + 1,1,none⟩ (n64 (limb M 1))).setCell ⟨w.heap.size + 1,2,none⟩ (n64 (limb M 2))).setCell ⟨w.heap.size + 1,3,none⟩ (n64 (limb M 3)))):=by
    refine Lib.hid ?_
    iterate 4 (refine Below.setCell ?_ (by simp) _)
    exact HK.out
   have Hb8:=Lib.hid hb8
   clear hb8 hO hR HO HR HT HE hI HO1 HA1 HR1 HK1
   go_wp2
   exact bodyPost_ret (v:=uV M) (results_cell_row Tryz.results39 _ _ (w.heap.size + 1) _ _ _ _ rfl Hb8.out Tryz.underlying62 rfl (by kernel_rfl)) rfl ⟨rfl,HK8.out⟩
end Go.Proofs.YtmbbknjddebhoaaGreatDoor
/- target.Expand. -/
set_option linter.unusedSimpArgs false
set_option linter.unusedVariables false
namespace Go.Proofs.YtmbbknjddebhoaaGreatDoor
open Go.RowKit
attribute [local go_sem ↓] Go.wp_at_zero Go.wp_at_succ
theorem u32_and1 (n : Nat) : bits BinOp.and IntKind.u32 (n : Int) 1 = ((n % 2 : Nat) : Int):=by
 have h1 : (BitVec.ofInt 32 1).toNat = 2 ^ 1 - 1:=by decide
 have key : (BitVec.ofInt 32 (n : Int) &&& BitVec.ofInt 32 1).toNat = ((n : Int) % ((2 ^ 32 : Nat) : Int)).toNat % 2 ^ 1:=by
  rw [BitVec.toNat_and,BitVec.toNat_ofInt,h1,Nat.and_two_pow_sub_one_eq_mod]
 show IntKind.u32.wrap ((BitVec.ofInt 32 (n : Int) &&& BitVec.ofInt 32 1).toNat : Nat) = ((n % 2 : Nat) : Int)
 rw [key,IntKind.wrap_u32]
 omega
theorem u32_and23 (n : Nat) : bits BinOp.and IntKind.u32 (n : Int) 8388607 = ((n % 8388608 : Nat) : Int):=by
 have h1 : (BitVec.ofInt 32 8388607).toNat = 2 ^ 23 - 1:=by decide
 have key : (BitVec.ofInt 32 (n : Int) &&& BitVec.ofInt 32 8388607).toNat = ((n : Int) % ((2 ^ 32 : Nat) : Int)).toNat % 2 ^ 23:=by
  rw [BitVec.toNat_and,BitVec.toNat_ofInt,h1,Nat.and_two_pow_sub_one_eq_mod]
 show IntKind.u32.wrap ((BitVec.ofInt 32 (n : Int) &&& BitVec.ofInt 32 8388607).toNat : Nat) = ((n % 8388608 : Nat) : Int)
 rw [key,IntKind.wrap_u32]
 omega
theorem small64 {m : Nat} (h : m < 8388608) : m < 2 ^ 64:=Nat.lt_trans h (by decide)
theorem small256 {m : Nat} (h : m < 8388608) : m < 2 ^ 256:=Nat.lt_trans h (by decide)
theorem expN_sign {x : UInt32} (h1 : x.toNat % 8388608 ≠ 0) (h2 : x.toNat / 8388608 % 2 = 1) : expN x = (0,7):=if_pos ⟨h1,h2⟩
theorem expN_low {x : UInt32} (h1 : ¬ (x.toNat % 8388608 ≠ 0∧x.toNat / 8388608 % 2 = 1)) (h3 : x.toNat / 16777216 < 3) {T : Nat} (hT : T = x.toNat % 8388608 / 2 ^ (8 * (3 - x.toNat / 16777216))) :
  T < 2 ^ 256∧expN x = if false = true ∨ T = 0 then (0,7) else (T,0):=by
 have e : expT x = T:=by rw [hT];exact if_pos h3
 have hlt : T < 2 ^ 256:=by
  have h4 : T ≤ x.toNat % 8388608:=by rw [hT];exact Nat.div_le_self _ _
  have h5 : (8388608 : Nat) ≤ 2 ^ 256:=by decide
  omega
 refine ⟨hlt,?_⟩
 unfold expN
 rw [if_neg h1,e]
 by_cases h0 : T = 0
 ·rw [if_pos (Or.inr h0),if_pos (Or.inr h0)]
 ·rw [if_neg (by intro h;rcases h with h | h;omega;exact h0 h),if_neg (by intro h;rcases h with h | h;cases h;exact h0 h)]
theorem expN_high {x : UInt32} (h1 : ¬ (x.toNat % 8388608 ≠ 0∧x.toNat / 8388608 % 2 = 1)) (h3 : ¬ x.toNat / 16777216 < 3) {U : Nat} (hU : U = x.toNat % 8388608 * 2 ^ (8 * (x.toNat / 16777216 - 3))) :
  U % 2 ^ 256 < 2 ^ 256∧expN x = if decide (2 ^ 256 ≤ U) = true ∨ U % 2 ^ 256 = 0 then (0,7) else (U % 2 ^ 256,0):=by
 have e : expT x = U:=by rw [hU];exact if_neg h3
 refine ⟨Nat.mod_lt _ (Nat.two_pow_pos _),?_⟩
 unfold expN
 rw [if_neg h1,e]
 by_cases h0 : 2 ^ 256 ≤ U
 ·rw [if_pos (Or.inl h0),if_pos (Or.inl (decide_eq_true h0))]
 ·have hm : U % 2 ^ 256 = U:=Nat.mod_eq_of_lt (Nat.lt_of_not_le h0)
  rw [hm,decide_eq_false h0]
  by_cases h2 : U = 0
  ·rw [if_pos (Or.inr h2),if_pos (Or.inr h2)]
  ·rw [if_neg (by intro h;rcases h with h | h;exact h0 h;exact h2 h),if_neg (by intro h;rcases h with h | h;cases h;exact h2 h)]
set_option maxRecDepth 100000 in
set_option maxHeartbeats 4000000 in
theorem expand_any (x : UInt32) (w : World) :
  Calls Tryz.prog 33 #[u32v x] w fun e w' => e = .returned (.tuple #[uV (expN x).1,.int .i64 (expN x).2])∧Keep w w':=by
 have hx:=x.toNat_lt
 have H1 : Hid (x.toNat % 8388608 ≠ 0 → x.toNat / 8388608 % 2 = 1 → expN x = (0,7)):=Lib.hid expN_sign
 have H2 : Hid (¬ (x.toNat % 8388608 ≠ 0∧x.toNat / 8388608 % 2 = 1) → x.toNat / 16777216 < 3 → ∀ T,T = x.toNat % 8388608 / 2 ^ (8 * (3 - x.toNat / 16777216)) → T < 2 ^ 256∧expN x = if false = true ∨ T = 0 then (0,7) else (T,0)):=Lib.hid fun h1 h3 T hT => expN_low h1 h3 hT
 have H3 : Hid (¬ (x.toNat % 8388608 ≠ 0∧x.toNat / 8388608 % 2 = 1) → ¬ x.toNat / 16777216 < 3 → ∀ U,U = x.toNat % 8388608 * 2 ^ (8 * (x.toNat / 16777216 - 3)) → U % 2 ^ 256 < 2 ^ 256∧expN x = if decide (2 ^ 256 ≤ U) = true ∨ U % 2 ^ 256 = 0 then (0,7) else (U % 2 ^ 256,0)):=Lib.hid fun h1 h3 U hU => expN_high h1 h3 hU
 generalize expN x = R at *
 have a1 : bits BinOp.and IntKind.u32 ((x.toNat : Int) / 8388608) 1 = ((x.toNat / 8388608 % 2 : Nat) : Int):=by
  rw [show (x.toNat : Int) / 8388608 = ((x.toNat / 8388608 : Nat) : Int) by omega];exact u32_and1 _
 have a2 : bits BinOp.and IntKind.u32 (x.toNat : Int) 8388607 = ((x.toNat % 8388608 : Nat) : Int):=u32_and23 _
 have a3 : (x.toNat : Int) / 16777216 = ((x.toNat / 16777216 : Nat) : Int):=by omega
 obtain ⟨m,hm⟩ : ∃ m,x.toNat % 8388608 = m:=⟨_,rfl⟩
 obtain ⟨s,hs⟩ : ∃ s,x.toNat / 8388608 % 2 = s:=⟨_,rfl⟩
 obtain ⟨k,hk⟩ : ∃ k,x.toNat / 16777216 = k:=⟨_,rfl⟩
 rw [hm] at a2 H1 H2 H3
 rw [hs] at a1 H1 H2 H3
 rw [hk] at a3 H2 H3
 have hm23 : m < 8388608:=by omega
 have hs2 : s < 2:=by omega
 have hk8 : k < 256:=by omega
 clear hm hs hk
 go_enter Tryz.func33,Tryz.ntmps33
 go_upto_region 2 with fail
 clear a1 a2 a3
 obtain ⟨w1,hw1⟩ : ∃ w1,w1 = w.alloc (.cells #[.int .u64 0,.int .u64 0,.int .u64 0,.int .u64 0] 62):=⟨_,rfl⟩
 have HR1 : Hid (Blk w1 w.heap.size 62 [.int .u64 0,.int .u64 0,.int .u64 0,.int .u64 0]):=by rw [hw1];exact Blk.new w 62 [.int .u64 0,.int .u64 0,.int .u64 0,.int .u64 0]
 have HK1 : Hid (Keep w w1):=by rw [hw1];exact keep_new _ _
 rw [← hw1]
 clear hw1
 have hR1:=HR1.out
 have hlt1 : w.heap.size < w1.heap.size:=hR1.lt
 -- what is told at an error
 have fin : ∀ W,Blk W w.heap.size 62 [.int .u64 0,.int .u64 0,.int .u64 0,.int .u64 0] → Blk ((((W.setCell ⟨w.heap.size,0,none⟩ (.int .u64 0)).setCell ⟨w.heap.size,1,none⟩ (.int .u64 0)).setCell ⟨w.heap.size,2,none⟩ (.int .u64 0)).setCell ⟨w.heap.size,3,none⟩ (.int .u64 0)) w.heap.size 62 [.int .u64 0,.int .u64 0,.int .u64 0,.int .u64 0]:=fun W h =>
  (((h.set_ 0 (.int .u64 0)).set_ 1 (.int .u64 0)).set_ 2 (.int .u64 0)).set_ 3 (.int .u64 0)
 have Fin:=Lib.hid fin
 have r0:=hR1.cell 0;have r1:=hR1.cell 1;have r2:=hR1.cell 2;have r3:=hR1.cell 3
 have f0:=hR1.frozen 0;have f1:=hR1.frozen 1;have f2:=hR1.frozen 2;have f3:=hR1.frozen 3
 simp only [List.getElem?_cons_zero,List.getElem?_cons_succ] at r0 r1 r2 r3
 clear fin hR1
 by_cases hsg : m ≠ 0∧s = 1
 ·have HD:=Lib.hid (H1.out hsg.1 hsg.2)
  obtain ⟨g1,g2⟩:=hsg
  subst g2
  have d1 : (m != 0) = true:=by simp [g1]
  have d2 : ((m : Int) != 0) = true:=by simp [g1]
  clear H1 H2 H3 g1
  go_wp2
  rw [HD.out,uV_zero]
  have hb8:=Fin.out w1 HR1.out
  have HK8 : Keep w ((((w1.setCell ⟨w.heap.size,0,none⟩ (.int .u64 0)).setCell ⟨w.heap.size,1,none⟩ (.int .u64 0)).setCell ⟨w.heap.size,2,none⟩ (.int .u64 0)).setCell ⟨w.heap.size,3,none⟩ (.int .u64 0)):=by
   iterate 4 (refine Below.setCell ?_ (by simp) _)
   exact HK1.out
  exact bodyPost_ret (v:=.tuple #[u0,.int .i64 7]) (results_cell_tmp_row Tryz.results33 _ _ w.heap.size _ _ _ _ rfl hb8 Tryz.underlying62 rfl (by kernel_rfl)) rfl ⟨rfl,HK8⟩
 ·have hg : ¬ (m ≠ 0∧s = 1):=hsg
  have HG:=Lib.hid hg
  have O1 : Hid (∀ y,Calls Tryz.prog 53 #[n64 m] y fun e w' => e = .returned (uV m)∧Keep y w'):=Lib.hid fun y => of_any m y (small64 hm23)
  have HM:=Lib.hid (small256 hm23)
  clear hg r0 r1 r2 r3 f0 f1 f2 f3 H1
  go_cut [22] (fun v wx => v = .bool false∧w1 = wx)
  case first =>
   by_cases h0 : m = 0
   ·subst h0
    clear hsg H2 H3
    go_wp2
    go_meet
    exact ⟨rfl,rfl⟩
   ·have h1 : s ≠ 1:=fun e => hsg ⟨h0,e⟩
    have d1 : (m != 0) = true:=by simp [h0]
    have d2 : ((m : Int) != 0) = true:=by simp [h0]
    have d3 : (s == 1) = false:=by simp [h1]
    have d4 : ((s : Int) == 1) = false:=by rw [beq_eq_false_iff_ne];omega
    clear hsg H2 H3 h0 h1
    go_wp2
    go_meet
    exact ⟨rfl,rfl⟩
  case rest =>
   obtain ⟨rfl,rfl⟩:=hcut
   clear hsg
   go_upto_region 4 with fail
   go_wp2_with fail
   refine (O1.out _).mono ?_
   rintro e w2 ⟨rfl,k2⟩
   have HR2:=Lib.hid (HR1.out.keep k2);have HK2:=Lib.hid (keep_trans HK1.out k2)
   have hz2 : w.heap.size < w2.heap.size:=HR2.out.lt
   clear k2 O1 HR1 HK1
   go_upto_region 5 with fail
   obtain ⟨w3,hw3⟩ : ∃ w3,w3 = w2.alloc (.cells #[n64 (limb m 0),n64 (limb m 1),n64 (limb m 2),n64 (limb m 3)] 62):=⟨_,rfl⟩
   have HT3 : Hid (Blk w3 w2.heap.size 62 (uL m)):=by rw [hw3];exact Blk.new w2 62 (uL m)
   have HR3 : Hid (Blk w3 w.heap.size 62 [.int .u64 0,.int .u64 0,.int .u64 0,.int .u64 0]):=by rw [hw3];exact HR2.out.alloc _
   have HK3 : Hid (Keep w w3):=by rw [hw3];exact keep_trans HK2.out (keep_new _ _)
   rw [← hw3]
   clear hw3 HR2 HK2
   generalize w2.heap.size = B at *
   go_upto_if 28 with fail
   go_cut [8] (fun v wx => ∃ (T : Nat) (ov : Bool),v = .bool ov∧Hid (T < 2 ^ 256)∧Hid (Blk wx B 62 (uL T))∧Hid (Blk wx w.heap.size 62 [.int .u64 0,.int .u64 0,.int .u64 0,.int .u64 0])∧Hid (Keep w wx)∧Hid (R = if ov = true ∨ T = 0 then (0,7) else (T,0)))
   case first =>
    by_cases h3 : k < 3
    ·obtain ⟨q1,q2⟩:=H2.out HG.out h3 _ rfl
     have C6 : Hid (∀ y,Calls Tryz.prog 54 #[uV m,.int .i64 (8 * (3 - (k : Int)))] y fun e w' => e = .returned (uV (m / 2 ^ (8 * (3 - k))))∧Keep y w'):=Lib.hid fun y => by
      have h1:=shr_any m (8 * (3 - k)) y HM.out (by omega)
      rw [show ((8 * (3 - k) : Nat) : Int) = 8 * (3 - (k : Int)) by omega] at h1
      exact h1
     have Q1:=Lib.hid q1;have Q2:=Lib.hid q2
     clear q1 q2 H2 H3
     generalize m / 2 ^ (8 * (3 - k)) = T at *
     have d1 : decide ((k : Int) < 3) = true:=decide_eq_true (by omega)
     have d2 : decide (k < 3) = true:=decide_eq_true (by omega)
     have h3' : (k : Int) < 3:=by omega
     clear h3
     have hT:=HT3.out
     have t0:=hT.cell 0;have t1:=hT.cell 1;have t2:=hT.cell 2;have t3:=hT.cell 3
     have g0:=hT.frozen 0;have g1:=hT.frozen 1;have g2:=hT.frozen 2;have g3:=hT.frozen 3
     simp only [uL,List.getElem?_cons_zero,List.getElem?_cons_succ] at t0 t1 t2 t3
     clear hT
     go_upto_region 6 with fail
     go_wp2_with fail
     refine (C6.out _).mono ?_
     rintro e w4 ⟨rfl,k4⟩
     have HT4:=Lib.hid (HT3.out.keep k4);have HR4:=Lib.hid (HR3.out.keep k4);have HK4:=Lib.hid (keep_trans HK3.out k4)
     clear t0 t1 t2 t3 g0 g1 g2 g3 k4 C6
     have hT:=HT4.out
     have t0:=hT.cell 0;have t1:=hT.cell 1;have t2:=hT.cell 2;have t3:=hT.cell 3
     have g0:=hT.frozen 0;have g1:=hT.frozen 1;have g2:=hT.frozen 2;have g3:=hT.frozen 3
     simp only [uL,List.getElem?_cons_zero,List.getElem?_cons_succ] at t0 t1 t2 t3
     clear hT
     go_wp2
     go_meet
     refine ⟨T,false,rfl,Q1,Lib.hid ((((HT4.out.set_ 0 _).set_ 1 _).set_ 2 _).set_ 3 _),Lib.hid ?_,Lib.hid ?_,Q2⟩
     ·iterate 4 (refine Blk.far ?_ (by simp;omega) _)
      exact HR4.out
     ·iterate 4 (refine Below.setCell ?_ (by simp;omega) _)
      exact HK4.out
    ·obtain ⟨q1,q2⟩:=H3.out HG.out h3 _ rfl
     have C6 : Hid (∀ y,Calls Tryz.prog 55 #[uV m,.int .i64 (8 * ((k : Int) - 3))] y fun e w' => e = .returned (.tuple #[uV (m * 2 ^ (8 * (k - 3)) % 2 ^ 256),.bool (decide (2 ^ 256 ≤ m * 2 ^ (8 * (k - 3))))])∧Keep y w'):=Lib.hid fun y => by
      have h1:=shl_any m (8 * (k - 3)) y HM.out (by omega)
      rw [show ((8 * (k - 3) : Nat) : Int) = 8 * ((k : Int) - 3) by omega] at h1
      exact h1
     have Q1:=Lib.hid q1;have Q2:=Lib.hid q2
     clear q1 q2 H2 H3
     generalize decide (2 ^ 256 ≤ m * 2 ^ (8 * (k - 3))) = ov at *
     generalize m * 2 ^ (8 * (k - 3)) % 2 ^ 256 = T at *
     have d1 : decide ((k : Int) < 3) = false:=decide_eq_false (by omega)
     have d2 : decide (k < 3) = false:=decide_eq_false (by omega)
     have h3' : 3 ≤ (k : Int):=by omega
     clear h3
     have hT:=HT3.out
     have t0:=hT.cell 0;have t1:=hT.cell 1;have t2:=hT.cell 2;have t3:=hT.cell 3
     have g0:=hT.frozen 0;have g1:=hT.frozen 1;have g2:=hT.frozen 2;have g3:=hT.frozen 3
     simp only [uL,List.getElem?_cons_zero,List.getElem?_cons_succ] at t0 t1 t2 t3
     clear hT
     go_upto_region 7 with fail
     go_wp2_with fail
     refine (C6.out _).mono ?_
     rintro e w4 ⟨rfl,k4⟩
     have HT4:=Lib.hid (HT3.out.keep k4);have HR4:=Lib.hid (HR3.out.keep k4);have HK4:=Lib.hid (keep_trans HK3.out k4)
     clear t0 t1 t2 t3 g0 g1 g2 g3 k4 C6
     have hT:=HT4.out
     have t0:=hT.cell 0;have t1:=hT.cell 1;have t2:=hT.cell 2;have t3:=hT.cell 3
     have g0:=hT.frozen 0;have g1:=hT.frozen 1;have g2:=hT.frozen 2;have g3:=hT.frozen 3
     simp only [uL,List.getElem?_cons_zero,List.getElem?_cons_succ] at t0 t1 t2 t3
     clear hT
     go_wp2
     go_meet
     refine ⟨T,ov,rfl,Q1,Lib.hid ((((HT4.out.set_ 0 _).set_ 1 _).set_ 2 _).set_ 3 _),Lib.hid ?_,Lib.hid ?_,Q2⟩
     ·iterate 4 (refine Blk.far ?_ (by simp;omega) _)
      exact HR4.out
     ·iterate 4 (refine Below.setCell ?_ (by simp;omega) _)
      exact HK4.out
   case rest =>
    obtain ⟨T,ov,rfl,HT256,HTc,HRc,HKc,HD⟩:=hcut
    have HE : Hid (∀ W,(Go.binOp .eql 62 (uV T) u0).run Tryz.prog W = .ok (.bool (decide (T = 0))) W):=Lib.hid fun W => by
     have:=u_eql HT256.out (Nat.two_pow_pos 256) W
     rw [uV_zero] at this;exact this
    have hgd:=u256_guard
    clear H2 H3 HT3 HR3 HK3
    have hT:=HTc.out
    have t0:=hT.cell 0;have t1:=hT.cell 1;have t2:=hT.cell 2;have t3:=hT.cell 3
    have g0:=hT.frozen 0;have g1:=hT.frozen 1;have g2:=hT.frozen 2;have g3:=hT.frozen 3
    simp only [uL,List.getElem?_cons_zero,List.getElem?_cons_succ] at t0 t1 t2 t3
    have hR:=HRc.out
    have r0:=hR.cell 0;have r1:=hR.cell 1;have r2:=hR.cell 2;have r3:=hR.cell 3
    have f0:=hR.frozen 0;have f1:=hR.frozen 1;have f2:=hR.frozen 2;have f3:=hR.frozen 3
    simp only [List.getElem?_cons_zero,List.getElem?_cons_succ] at r0 r1 r2 r3
    clear hT hR g0 g1 g2 g3
    have he:=HE.out
    by_cases hbad : ov = true ∨ T = 0
    ·have HD2:=HD.out
     rw [if_pos hbad] at HD2
     have HD3:=Lib.hid HD2
     clear HD2 HD
     have hb8:=Lib.hid (Fin.out wc HRc.out)
     have HK8 : Hid (Keep w ((((wc.setCell ⟨w.heap.size,0,none⟩ (.int .u64 0)).setCell ⟨w.heap.size,1,none⟩ (.int .u64 0)).setCell ⟨w.heap.size,2,none⟩ (.int .u64 0)).setCell ⟨w.heap.size,3,none⟩ (.int .u64 0))):=by
      refine Lib.hid ?_
      iterate 4 (refine Below.setCell ?_ (by simp) _)
      exact HKc.out
     cases ov with
     | true =>
       clear hbad he HE
       go_wp2
       rw [HD3.out,uV_zero]
       exact bodyPost_ret (v:=.tuple #[u0,.int .i64 7]) (results_cell_tmp_row Tryz.results33 _ _ w.heap.size _ _ _ _ rfl hb8.out Tryz.underlying62 rfl (by kernel_rfl)) rfl ⟨rfl,HK8.out⟩
     | false =>
       have h0 : decide (T = 0) = true:=decide_eq_true (hbad.resolve_left (by simp))
       rw [h0] at he
       clear hbad HE h0
       go_wp2
       rw [HD3.out,uV_zero]
       exact bodyPost_ret (v:=.tuple #[u0,.int .i64 7]) (results_cell_tmp_row Tryz.results33 _ _ w.heap.size _ _ _ _ rfl hb8.out Tryz.underlying62 rfl (by kernel_rfl)) rfl ⟨rfl,HK8.out⟩
    ·have HD2:=HD.out
     rw [if_neg hbad] at HD2
     have HD3:=Lib.hid HD2
     have hov : ov = false:=by cases ov;rfl;exact absurd (Or.inl rfl) hbad
     have h0 : decide (T = 0) = false:=decide_eq_false (fun e => hbad (Or.inr e))
     subst hov
     rw [h0] at he
     clear HD2 HD hbad HE h0
     have hb8:=Lib.hid ((((HRc.out.set_ 0 (n64 (limb T 0))).set_ 1 (n64 (limb T 1))).set_ 2 (n64 (limb T 2))).set_ 3 (n64 (limb T 3)))
     have HK8 : Hid (Keep w ((((wc.setCell ⟨w.heap.size,0,none⟩ (n64 (limb T 0))).setCell ⟨w.heap.size,1,none⟩ (n64 (limb T 1))).setCell ⟨w.heap.size,2,none⟩ (n64 (limb T 2))).setCell ⟨w.heap.size,3,none⟩ (n64 (limb T 3)))):=by
      refine Lib.hid ?_
      iterate 4 (refine Below.setCell ?_ (by simp) _)
      exact HKc.out
     go_wp2
     rw [HD3.out]
     exact bodyPost_ret (v:=.tuple #[uV T,.int .i64 0]) (results_cell_tmp_row Tryz.results33 _ _ w.heap.size _ _ _ _ rfl hb8.out Tryz.underlying62 rfl (by kernel_rfl)) rfl ⟨rfl,HK8.out⟩
end Go.Proofs.YtmbbknjddebhoaaGreatDoor
/- target.Meets. -/
set_option linter.unusedSimpArgs false
set_option linter.unusedVariables false
namespace Go.Proofs.YtmbbknjddebhoaaGreatDoor
open Go.RowKit
attribute [local go_sem ↓] Go.wp_at_zero Go.wp_at_succ
theorem cmpN_gt (a b : Nat) : decide (0 < cmpN a b) = decide (b < a):=by
 unfold cmpN
 by_cases h1 : a < b
 ·rw [if_pos h1,decide_eq_false (by decide),decide_eq_false (by omega)]
 ·rw [if_neg h1]
  by_cases h2 : b < a
  ·rw [if_pos h2,decide_eq_true h2];rfl
  ·rw [if_neg h2,decide_eq_false h2];rfl
set_option maxRecDepth 100000 in
set_option maxHeartbeats 4000000 in
theorem meets_any (l : List UInt8) (cs : Array Value) (bits limit : UInt32) (w : World) (hl : l.length = 32) (h : HashA l cs) :
  Calls Tryz.prog 19 #[.agg cs,u32v bits,u32v limit] w fun e w' => e = .returned (.int .i64 (meetN (leN l) bits limit))∧Keep w w':=by
 have hz:=h.z;have hn:=h.n;have hi:=h.i
 have hl256 : leN l < 2 ^ 256:=by have:=leN_lt l;rw [hl] at this;exact this
 have N1 : Hid (∀ y,Calls Tryz.prog 39 #[.agg cs] y fun e w' => e = .returned (uV (leN l))∧Keep y w'):=Lib.hid fun y => hnum_any l cs y hl h
 have E1 : Hid (∀ y,Calls Tryz.prog 33 #[u32v bits] y fun e w' => e = .returned (.tuple #[uV (expN bits).1,.int .i64 (expN bits).2])∧Keep y w'):=Lib.hid fun y => expand_any bits y
 have E2 : Hid (∀ y,Calls Tryz.prog 33 #[u32v limit] y fun e w' => e = .returned (.tuple #[uV (expN limit).1,.int .i64 (expN limit).2])∧Keep y w'):=Lib.hid fun y => expand_any limit y
 have b1:=expN_lt bits;have b2:=expN_lt limit
 have v1:=expN_err bits;have v2:=expN_err limit
 have HM : Hid (∀ R,meetN (leN l) bits limit = R → R = if (expN bits).2 ≠ 0 then 7 else if (expN limit).2 ≠ 0 ∨ (expN limit).1 < (expN bits).1 then 7 else if (expN bits).1 < leN l then 6 else 0):=Lib.hid fun R e => by subst e;rfl
 replace HM:=Lib.hid (HM.out _ rfl)
 generalize meetN (leN l) bits limit = R at *
 generalize expN bits = X at *
 generalize expN limit = Y at *
 obtain ⟨T,te⟩:=X
 obtain ⟨L,le⟩:=Y
 simp only at b1 b2 v1 v2
 generalize leN l = M at *
 have C1 : Hid (∀ y,Calls Tryz.prog 38 #[uV T,uV L] y fun e w' => e = .returned (.int .i64 (cmpN T L))∧Keep y w'):=Lib.hid fun y => cmp_any T L y b1 b2
 have C2 : Hid (∀ y,Calls Tryz.prog 38 #[uV M,uV T] y fun e w' => e = .returned (.int .i64 (cmpN M T))∧Keep y w'):=Lib.hid fun y => cmp_any M T y hl256 b1
 have g1:=cmpN_gt T L;have g2:=cmpN_gt M T
 generalize cmpN T L = c1 at *
 generalize cmpN M T = c2 at *
 have H:=Lib.hid h
 clear h b1 b2 hl256
 go_enter Tryz.func19,Tryz.ntmps19
 go_upto_region 1 with fail
 obtain ⟨w1,hw1⟩ : ∃ w1,w1 = w.alloc (.cells cs 28):=⟨_,rfl⟩
 have HA1 : Hid (Blk w1 w.heap.size 28 cs.toList):=by rw [hw1];exact Blk.new w 28 cs.toList
 have HK1 : Hid (Keep w w1):=by rw [hw1];exact keep_new _ _
 rw [← hw1]
 clear hw1
 go_wp2_with fail
 refine (E1.out _).mono ?_
 clear E1
 rintro e w2 ⟨rfl,k2⟩
 have HA2:=Lib.hid (HA1.out.keep k2);have HK2:=Lib.hid (keep_trans HK1.out k2)
 have hz2 : w.heap.size < w2.heap.size:=HA2.out.lt
 clear k2 HA1 HK1
 go_upto_region 2 with fail
 obtain ⟨w3,hw3⟩ : ∃ w3,w3 = w2.alloc (.cells #[n64 (limb T 0),n64 (limb T 1),n64 (limb T 2),n64 (limb T 3)] 62):=⟨_,rfl⟩
 have HT3 : Hid (Blk w3 w2.heap.size 62 (uL T)):=by rw [hw3];exact Blk.new w2 62 (uL T)
 have HA3 : Hid (Blk w3 w.heap.size 28 cs.toList):=by rw [hw3];exact HA2.out.alloc _
 have HK3 : Hid (Keep w w3):=by rw [hw3];exact keep_trans HK2.out (keep_new _ _)
 rw [← hw3]
 clear hw3 HA2 HK2
 generalize w2.heap.size = B at *
 by_cases hte : te = 0
 ·subst hte
  have hM:=HM.out
  rw [if_neg (by simp)] at hM
  replace HM:=Lib.hid hM
  clear hM v1
  go_wp2_with fail
  refine (E2.out _).mono ?_
  clear E2
  rintro e w4 ⟨rfl,k4⟩
  have HT4:=Lib.hid (HT3.out.keep k4);have HA4:=Lib.hid (HA3.out.keep k4);have HK4:=Lib.hid (keep_trans HK3.out k4)
  have hz4 : B < w4.heap.size:=HT4.out.lt
  clear k4 HT3 HA3 HK3
  go_upto_region 5 with fail
  obtain ⟨w5,hw5⟩ : ∃ w5,w5 = w4.alloc (.cells #[n64 (limb L 0),n64 (limb L 1),n64 (limb L 2),n64 (limb L 3)] 62):=⟨_,rfl⟩
  have HL5 : Hid (Blk w5 w4.heap.size 62 (uL L)):=by rw [hw5];exact Blk.new w4 62 (uL L)
  have HT5 : Hid (Blk w5 B 62 (uL T)):=by rw [hw5];exact HT4.out.alloc _
  have HA5 : Hid (Blk w5 w.heap.size 28 cs.toList):=by rw [hw5];exact HA4.out.alloc _
  have HK5 : Hid (Keep w w5):=by rw [hw5];exact keep_trans HK4.out (keep_new _ _)
  rw [← hw5]
  clear hw5 HT4 HA4 HK4
  generalize w4.heap.size = D at *
  by_cases hle : le = 0
  ·subst hle
   have hT:=HT5.out;have hL:=HL5.out
   have t0:=hT.cell 0;have t1:=hT.cell 1;have t2:=hT.cell 2;have t3:=hT.cell 3
   have l0:=hL.cell 0;have l1:=hL.cell 1;have l2:=hL.cell 2;have l3:=hL.cell 3
   simp only [uL,List.getElem?_cons_zero,List.getElem?_cons_succ] at t0 t1 t2 t3 l0 l1 l2 l3
   clear hT hL v2
   go_wp2_with fail
   refine (C1.out _).mono ?_
   clear C1
   rintro e w6 ⟨rfl,k6⟩
   have HT6:=Lib.hid (HT5.out.keep k6);have HA6:=Lib.hid (HA5.out.keep k6);have HK6:=Lib.hid (keep_trans HK5.out k6)
   clear k6 t0 t1 t2 t3 l0 l1 l2 l3 HT5 HA5 HK5 HL5
   by_cases hlt : L < T
   ·have hM:=HM.out
    rw [if_pos (Or.inr hlt)] at hM
    rw [decide_eq_true hlt] at g1
    subst hM
    clear hlt g2 C2 HM
    go_wp2
    exact bodyPost_ret (v:=.int .i64 7) (by simp [results,Tryz.results19]) rfl ⟨rfl,HK6.out⟩
   ·have hM:=HM.out
    rw [if_neg (by intro h;rcases h with h | h;exact h rfl;exact hlt h)] at hM
    rw [decide_eq_false hlt] at g1
    have HM2:=Lib.hid hM
    clear hM hlt HM
    go_upto_region 7 with fail
    refine wp_region_tree (.take [0,2] (.force [1,3] (.take [4] .done))) [] (by kernel_rfl) (by kernel_rfl) (fun w9 k9 => ?_)
    have HT9:=Lib.hid (HT6.out.keep k9);have HA9:=Lib.hid (HA6.out.keep k9);have HK9:=Lib.hid (keep_trans HK6.out k9)
    have hT:=HT9.out
    have t0:=hT.cell 0;have t1:=hT.cell 1;have t2:=hT.cell 2;have t3:=hT.cell 3
    simp only [uL,List.getElem?_cons_zero,List.getElem?_cons_succ] at t0 t1 t2 t3
    have t0':=aft_cell t0;have t1':=aft_cell t1;have t2':=aft_cell t2;have t3':=aft_cell t3
    clear k9 hT t0 t1 t2 t3 HT6 HA6 HK6 g1
    refine mt_take w9 (Below.refl _ _) ?_
    simp only [pick_cons,pick_nil,nth_zero,nth_succ]
    (with_reducible refine wpQuiet_load_partg w.heap.size 0 cs (Eq.trans ?_ rfl) (range_of HA9.out 0 cs.toList (by rw [List.drop_zero,List.take_of_length_le (Nat.le_refl _)])) (.array 32 5) hash_under (arr_row _ _) hi (Eq.trans ?_ rfl) ?_)
    rfl
    rfl
    simp only [Act.put,Array.set!_eq_setIfInBounds,List.setIfInBounds_toArray,List.set_cons_succ,List.set_cons_zero]
    repeat (go_big_quiet_step (fail))
    refine wpQuiet_nil (mt_force ?_)
    simp only [pick_cons,pick_nil,nth_zero,nth_succ]
    refine fc_step rfl (fun K hK => ?_)
    go_simp
    (with_reducible refine (N1.out _).mono ?_)
    rintro e wa ⟨rfl,ka⟩
    refine hK _ _ ka ?_
    clear hK K t0' t1' t2' t3'
    have HKa:=Lib.hid (keep_trans HK9.out ka)
    clear ka
    refine fc_step rfl (fun K hK => ?_)
    go_simp
    (with_reducible refine (C2.out _).mono ?_)
    rintro e wb ⟨rfl,kb⟩
    refine hK _ _ kb ?_
    clear hK K
    have HKb:=Lib.hid (keep_trans HKa.out kb)
    clear kb
    refine fc_nil (mt_take wb (Below.refl _ _) ?_)
    simp only [pick_cons,pick_nil,nth_zero,nth_succ]
    repeat (go_big_quiet_step (fail))
    refine wpQuiet_nil (mt_end ?_)
    by_cases hw : T < M
    ·have hM:=HM2.out
     rw [if_pos hw] at hM
     have d9 : decide (T < M) = true:=decide_eq_true hw
     subst hM
     clear HM2 g2
     go_wp2
     exact bodyPost_ret (v:=.int .i64 6) (by simp [results,Tryz.results19]) rfl ⟨rfl,HKb.out⟩
    ·have hM:=HM2.out
     rw [if_neg hw] at hM
     have d9 : decide (T < M) = false:=decide_eq_false hw
     subst hM
     clear HM2 g2
     go_wp2
     exact bodyPost_ret (v:=.int .i64 0) (by simp [results,Tryz.results19]) rfl ⟨rfl,HKb.out⟩
  ·have hM:=HM.out
   rw [if_pos (Or.inl hle)] at hM
   subst hM
   have d1 : (le != 0) = true:=by simp [hle]
   clear hle HM v2
   go_wp2
   exact bodyPost_ret (v:=.int .i64 7) (by simp [results,Tryz.results19]) rfl ⟨rfl,HK5.out⟩
 ·have hM:=HM.out
  rw [if_pos hte] at hM
  subst hM
  have d1 : (te != 0) = true:=by simp [hte]
  clear hte HM v1
  go_wp2
  exact bodyPost_ret (v:=.int .i64 7) (by simp [results,Tryz.results19]) rfl ⟨rfl,HK3.out⟩
end Go.Proofs.YtmbbknjddebhoaaGreatDoor
