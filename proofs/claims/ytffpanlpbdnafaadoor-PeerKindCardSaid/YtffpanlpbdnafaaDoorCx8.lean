/- Texts merged by pack.py: Qk, Rf, Ro, Rmk, Re, Rq4, Rpt, Rpl, Rg. -/
import Derived.Test.YtffpanlpbdnafaaDoorCx7
import Derived.Test.YtffpanlpbdnafaaDoorCx2
import Derived.Test.YtffpanlpbdnafaaDoorCx1
import Derived.RangeFuncNested
import Derived.RangeFuncLeaves
import Derived.RangeFuncBound
import Derived.RangeFuncCalls
import Derived.OwnWalkIn
import Derived.TacticsInMore
import Derived.LoopNIn
import Derived.LoopIn
import Derived.Lib.LazyBuf
/- frame.Get (printed by gen_qk.py) -/
set_option linter.unusedSimpArgs false
set_option linter.unusedVariables false
namespace Go.Proofs.YtffpanlpbdnafaaDoor
open Go.RowKit
attribute [local go_sem ↓] Go.wp_at_zero Go.wp_at_succ
def gcmd (b : List UInt8) : List UInt8:=(b.drop 4).take (trimN ((b.drop 4).take 12) 12)
def gsize (b : List UInt8) : Nat:=numN (b.drop 16) 4
def gpl (b : List UInt8) : List UInt8:=(b.drop 24).take (gsize b)
def getF (g : UInt32) (most : Int) (b : List UInt8) : (List UInt8 × List UInt8) × Nat × Int :=
 if ¬ b.take 4 = (le4 g).take b.length then (([],[]),0,5)
 else if b.length < 24 then (([],[]),0,1)
 else if cmdB (gcmd b) = false then (([],[]),0,2)
 else if bndF most < gsize b then (([],[]),0,3)
 else if b.length < 24 + gsize b then (([],[]),0,1)
 else if ¬ (dblL (gpl b)).take 4 = (b.drop 20).take 4 then (([],[]),0,4)
 else ((gcmd b,gpl b),24 + gsize b,0)
def Getd (R : (List UInt8 × List UInt8) × Nat × Int) (w : World) (e : Ending) (w' : World) : Prop :=
 ∃ P pc,e = .returned (.tuple #[.agg #[.string (str R.1.1),.slice P R.1.2.length pc],iv R.2.1,iv R.2.2])∧R.1.2.length ≤ pc∧pc ≤ maxLen∧Rd w' P (R.1.2.map u8v)∧FreshA w.heap.size P R.1.2.length∧Keep w w'
theorem elem_bytes : Tryd.prog.elem 26 = 5:=by kernel_rfl
theorem slice_tail (gb off N c S : Nat) (h : 24 + S ≤ c) : ∃ AP,(∀ y : World,(Instr.slice 26 (.slice (some ⟨gb,off,none⟩) N c) (some (.int .i64 24)) (some (.int .i64 (24 + (S : Int)))) none).run Tryd.prog y = .ok (.slice AP S (c - 24)) y)∧(AP = some ⟨gb,off + 24,none⟩ ∨ c = 24):=by
 have hh : (24 + (S : Int)).toNat = 24 + S:=by omega
 refine ⟨if c = 24 then some ⟨gb,off,none⟩ else some ⟨gb,off + 24,none⟩,fun y => ?_,?_⟩
 ·rw [run_slice_lh y 26 (some ⟨gb,off,none⟩) N c (by rw [elem_bytes];exact Tryd.underlying26) .i64 .i64 24 (24 + (S : Int)) (by omega) (by omega) (by omega),elem_bytes,u8_size,Result.andThen_ok,hh,sliced]
  have e1 : 24 + S - Int.toNat 24 = S:=by show 24 + S - 24 = S;omega
  have e2 : c - Int.toNat 24 = c - 24:=rfl
  rw [e1,e2]
  by_cases hc : c = 24
  ·rw [if_pos (show c = Int.toNat 24 from hc),if_pos hc]
  ·rw [if_neg (show ¬ c = Int.toNat 24 from hc),if_neg hc]
   rfl
 ·by_cases hc : c = 24
  ·exact Or.inr hc
  ·exact Or.inl (if_neg hc)
set_option maxRecDepth 100000 in
set_option maxHeartbeats 8000000 in
theorem fget_any (g : UInt32) (most : Int) (A : Option Addr) (b : List UInt8) (N c : Nat) (w : World) (hN : b.length = N) (hS : ShaOk w) (hc : N ≤ c∧c ≤ maxLen) (hbig : N ≤ 1000000000) (hr : Rd w A (b.map u8v)) :
  Calls Tryd.prog 18 #[u32v g,iv most,.slice A N c] w (Getd (getF g most b) w):=by
 have HT : Hid (getF g most b = _):=Lib.hid (getF.eq_1 g most b)
 have HK : Hid (Keep w w):=Lib.hid (Below.refl _ _)
 have HS:=Lib.hid hS
 have ROW : Hid (∀ k (h : k < N),∃ gb off x,A = some ⟨gb,off,none⟩∧gb < w.heap.size∧w.cell? ⟨gb,off + k,none⟩ = some (u8v x)∧b[k]? = some x):=Lib.hid fun k h => by
  obtain ⟨gb,off,rfl,hb,hcell⟩:=hr.at (k:=k) (by simp [hN];exact h)
  exact ⟨gb,off,b[k],rfl,hb,by have q:=hcell k (by simp [hN];exact h);simpa using q,List.getElem?_eq_getElem (by omega)⟩
 have HR:=Lib.hid hr
 have HN:=Lib.hid hN
 have HC:=Lib.hid hc
 clear hS hr hN hc
 generalize getF g most b = R at *
 go_enter Tryd.func18,Tryd.ntmps18
 go_upto_region 1 with fail
 obtain ⟨w1,hw1⟩ : ∃ w1,w1 = w.alloc (.cells #[.string ⟨#[]⟩,.slice none 0 0] 71):=⟨_,rfl⟩
 have HB1 : Hid (Blk w1 w.heap.size 71 [.string ⟨#[]⟩,.slice none 0 0]):=by rw [hw1];exact Lib.hid (Blk.new w _ [.string ⟨#[]⟩,.slice none 0 0])
 have HK1 : Hid (Keep w w1):=by rw [hw1];exact Lib.hid (keep_new _ _)
 try rw [← hw1]
 clear hw1
 go_cut [18,19] (fun s18 s19 wx => ∃ M : Nat,s18 = .int .i64 (M : Int)∧s19 = .int .i64 0∧Hid (M = min N 4)∧wx = w1)
 case first =>
  go_wp2
  all_goals go_meet
  ·exact ⟨4,rfl,rfl,Lib.hid (by omega),rfl⟩
  ·exact ⟨N,rfl,rfl,Lib.hid (by omega),rfl⟩
 obtain ⟨M,rfl,rfl,HM,rfl⟩:=hcut
 go_wp2_with fail
 go_loopw [19] (fun i wr => ∃ k : Nat,k ≤ M∧i = .int .i64 k∧Hid (∀ j,j < k → b[j]? = (le4 g)[j]?)∧Hid (Blk wr w.heap.size 71 [.string ⟨#[]⟩,.slice none 0 0])∧Hid (Keep w wr)) (fun i _ => M - (intOf i).toNat)
 case atStart => exact ⟨0,Nat.zero_le _,rfl,Lib.hid (fun j h => absurd h (Nat.not_lt_zero _)),HB1,HK1⟩
 case round =>
  obtain ⟨k,hk,rfl,HP,HBr,HKr⟩:=hrel
  clear HB1 HK1 HK
  by_cases hlt : k < M
  ·have hm:=HM.out
   have hk4 : k < 4:=by omega
   have hkN : k < N:=by omega
   obtain ⟨gb,off,x,rfl,hgb,hx,hlx⟩:=ROW.out k hkN
   have HXC:=Lib.hid hx
   have HLX:=Lib.hid hlx
   have l1 : (k : Int) < M:=by omega
   clear hm ROW hx hlx
   rcases (show k = 0 ∨ k = 1 ∨ k = 2 ∨ k = 3 by omega) with rfl | rfl | rfl | rfl
   ·obtain ⟨y,hy,hyE⟩ : ∃ y : UInt8,(le4 g)[0]? = some y∧(g.toNat : Int) % 256 = (y.toNat : Int):=⟨w8 (leE g 0),rfl,by
     have h1 : (g.toNat : Int) / 2 ^ (8 * 0) % 256 = ((w8 (leE g 0)).toNat : Int):=w8_of (Int.emod_nonneg _ (by decide)) (by have q:=Int.emod_lt_of_pos ((g.toNat : Int) / 2 ^ (8 * 0)) (by decide : (0 : Int) < 256);omega)
     simpa using h1⟩
    have HY:=Lib.hid hy
    have HYE:=Lib.hid hyE
    clear hyE
    go_upto_region 4 with fail
    refine wp_region_tree (.take [0,1,2,3,4,5,6,7,8,9] .done) [] (by kernel_rfl) (by kernel_rfl) (fun w2 k2 => ?_)
    have rx : ∀ u,(aft w2 u).cell? ⟨gb,off,none⟩ = some (u8v x):=aft_cell (keep_cell k2 (keep_cell HKr.out HXC.out))
    have HBs:=Lib.hid (HBr.out.keep k2)
    have HKs:=Lib.hid (keep_trans HKr.out k2)
    clear k2 HBr HKr
    refine mt_take w2 (Below.refl _ _) ?_
    simp only [pick_cons,pick_nil,nth_zero,nth_succ]
    repeat (go_big_quiet_step (fail))
    clear rx HXC hy
    by_cases hxy : x = y
    ·have e1 : ((x.toNat : Int) != (g.toNat : Int) % 256) = false:=by rw [HYE.out,hxy];simp
     have e2 : ((x.toNat : Int) == (g.toNat : Int) % 256) = true:=by rw [HYE.out,hxy];simp
     have e3 : (x.toNat : Int) = (g.toNat : Int) % 256:=by rw [HYE.out,hxy]
     have HP2 : Hid (∀ j,j < 0 + 1 → b[j]? = (le4 g)[j]?):=Lib.hid fun j hj => by
      by_cases e : j < 0
      ·exact HP.out j e
      ·obtain rfl : j = 0:=by omega
       rw [HLX.out,HY.out,hxy]
     clear HYE hxy HP HLX HY e3
     rw [e1]
     refine wpQuiet_nil (mt_end ?_)
     go_wp2
     go_roundw
     case rel => exact ⟨0 + 1,by omega,by go_num,HP2,HBs,HKs⟩
     case measure => simp [intOf];omega
    ·have e3 : ¬ (x.toNat : Int) = (g.toNat : Int) % 256:=by rw [HYE.out];exact fun q => hxy (UInt8.toNat_inj.1 (by omega))
     have e1 : ((x.toNat : Int) != (g.toNat : Int) % 256) = true:=by rw [bne_iff_ne];exact e3
     have hR : R = (([],[]),0,5):=by
      rw [HT.out,if_pos]
      intro q
      have q2 : (b.take 4)[0]? = ((le4 g).take b.length)[0]?:=by rw [q]
      rw [List.getElem?_take_of_lt (by omega),List.getElem?_take_of_lt (by rw [HN.out];omega),HLX.out,HY.out] at q2
      exact hxy (Option.some.inj q2)
     have HRE:=Lib.hid hR
     clear HYE hxy HP HLX HY e3 hR HT HR
     rw [e1]
     refine wpQuiet_nil (mt_end ?_)
     have c0:=HBs.out.cell 0;have c1:=HBs.out.cell 1
     simp only [List.getElem?_cons_succ,List.getElem?_cons_zero] at c0 c1
     have f0:=HBs.out.frozen 0;have f1:=HBs.out.frozen 1
     go_wp2
     exact bodyPost_ret (v:=.tuple #[.agg #[.string ⟨#[]⟩,.slice none 0 0],iv 0,iv 5]) (results_cell_tmp_tmp Tryd.results18 _ _ w.heap.size _ _ _ _ rfl ((HBs.out.set_ 0 (.string ⟨#[]⟩)).set_ 1 (.slice none 0 0)) Tryd.underlying71 rfl (by kernel_rfl)) rfl (by
      rw [HRE.out]
      exact ⟨none,0,rfl,Nat.le_refl _,Nat.zero_le _,Rd.nil _ _,Or.inl rfl,Below.setCell (Below.setCell HKs.out (by simp) _) (by simp) _⟩)
   ·obtain ⟨y,hy,hyE⟩ : ∃ y : UInt8,(le4 g)[1]? = some y∧(g.toNat : Int) / 256 % 256 = (y.toNat : Int):=⟨w8 (leE g 1),rfl,by
     have h1 : (g.toNat : Int) / 2 ^ (8 * 1) % 256 = ((w8 (leE g 1)).toNat : Int):=w8_of (Int.emod_nonneg _ (by decide)) (by have q:=Int.emod_lt_of_pos ((g.toNat : Int) / 2 ^ (8 * 1)) (by decide : (0 : Int) < 256);omega)
     exact h1⟩
    have HY:=Lib.hid hy
    have HYE:=Lib.hid hyE
    clear hyE
    go_upto_region 4 with fail
    refine wp_region_tree (.take [0,1,2,3,4,5,6,7,8,9] .done) [] (by kernel_rfl) (by kernel_rfl) (fun w2 k2 => ?_)
    have rx:=aft_cell (keep_cell k2 (keep_cell HKr.out HXC.out))
    have HBs:=Lib.hid (HBr.out.keep k2)
    have HKs:=Lib.hid (keep_trans HKr.out k2)
    clear k2 HBr HKr
    refine mt_take w2 (Below.refl _ _) ?_
    simp only [pick_cons,pick_nil,nth_zero,nth_succ]
    repeat (go_big_quiet_step (fail))
    clear rx HXC hy
    by_cases hxy : x = y
    ·have e1 : ((x.toNat : Int) != (g.toNat : Int) / 256 % 256) = false:=by rw [HYE.out,hxy];simp
     have e2 : ((x.toNat : Int) == (g.toNat : Int) / 256 % 256) = true:=by rw [HYE.out,hxy];simp
     have e3 : (x.toNat : Int) = (g.toNat : Int) / 256 % 256:=by rw [HYE.out,hxy]
     have HP2 : Hid (∀ j,j < 1 + 1 → b[j]? = (le4 g)[j]?):=Lib.hid fun j hj => by
      by_cases e : j < 1
      ·exact HP.out j e
      ·obtain rfl : j = 1:=by omega
       rw [HLX.out,HY.out,hxy]
     clear HYE hxy HP HLX HY e3
     rw [e1]
     refine wpQuiet_nil (mt_end ?_)
     go_wp2
     go_roundw
     case rel => exact ⟨1 + 1,by omega,by go_num,HP2,HBs,HKs⟩
     case measure => simp [intOf];omega
    ·have e3 : ¬ (x.toNat : Int) = (g.toNat : Int) / 256 % 256:=by rw [HYE.out];exact fun q => hxy (UInt8.toNat_inj.1 (by omega))
     have e1 : ((x.toNat : Int) != (g.toNat : Int) / 256 % 256) = true:=by rw [bne_iff_ne];exact e3
     have hR : R = (([],[]),0,5):=by
      rw [HT.out,if_pos]
      intro q
      have q2 : (b.take 4)[1]? = ((le4 g).take b.length)[1]?:=by rw [q]
      rw [List.getElem?_take_of_lt (by omega),List.getElem?_take_of_lt (by rw [HN.out];omega),HLX.out,HY.out] at q2
      exact hxy (Option.some.inj q2)
     have HRE:=Lib.hid hR
     clear HYE hxy HP HLX HY e3 hR HT HR
     rw [e1]
     refine wpQuiet_nil (mt_end ?_)
     have c0:=HBs.out.cell 0;have c1:=HBs.out.cell 1
     simp only [List.getElem?_cons_succ,List.getElem?_cons_zero] at c0 c1
     have f0:=HBs.out.frozen 0;have f1:=HBs.out.frozen 1
     go_wp2
     exact bodyPost_ret (v:=.tuple #[.agg #[.string ⟨#[]⟩,.slice none 0 0],iv 0,iv 5]) (results_cell_tmp_tmp Tryd.results18 _ _ w.heap.size _ _ _ _ rfl ((HBs.out.set_ 0 (.string ⟨#[]⟩)).set_ 1 (.slice none 0 0)) Tryd.underlying71 rfl (by kernel_rfl)) rfl (by
      rw [HRE.out]
      exact ⟨none,0,rfl,Nat.le_refl _,Nat.zero_le _,Rd.nil _ _,Or.inl rfl,Below.setCell (Below.setCell HKs.out (by simp) _) (by simp) _⟩)
   ·obtain ⟨y,hy,hyE⟩ : ∃ y : UInt8,(le4 g)[2]? = some y∧(g.toNat : Int) / 65536 % 256 = (y.toNat : Int):=⟨w8 (leE g 2),rfl,by
     have h1 : (g.toNat : Int) / 2 ^ (8 * 2) % 256 = ((w8 (leE g 2)).toNat : Int):=w8_of (Int.emod_nonneg _ (by decide)) (by have q:=Int.emod_lt_of_pos ((g.toNat : Int) / 2 ^ (8 * 2)) (by decide : (0 : Int) < 256);omega)
     exact h1⟩
    have HY:=Lib.hid hy
    have HYE:=Lib.hid hyE
    clear hyE
    go_upto_region 4 with fail
    refine wp_region_tree (.take [0,1,2,3,4,5,6,7,8,9] .done) [] (by kernel_rfl) (by kernel_rfl) (fun w2 k2 => ?_)
    have rx:=aft_cell (keep_cell k2 (keep_cell HKr.out HXC.out))
    have HBs:=Lib.hid (HBr.out.keep k2)
    have HKs:=Lib.hid (keep_trans HKr.out k2)
    clear k2 HBr HKr
    refine mt_take w2 (Below.refl _ _) ?_
    simp only [pick_cons,pick_nil,nth_zero,nth_succ]
    repeat (go_big_quiet_step (fail))
    clear rx HXC hy
    by_cases hxy : x = y
    ·have e1 : ((x.toNat : Int) != (g.toNat : Int) / 65536 % 256) = false:=by rw [HYE.out,hxy];simp
     have e2 : ((x.toNat : Int) == (g.toNat : Int) / 65536 % 256) = true:=by rw [HYE.out,hxy];simp
     have e3 : (x.toNat : Int) = (g.toNat : Int) / 65536 % 256:=by rw [HYE.out,hxy]
     have HP2 : Hid (∀ j,j < 2 + 1 → b[j]? = (le4 g)[j]?):=Lib.hid fun j hj => by
      by_cases e : j < 2
      ·exact HP.out j e
      ·obtain rfl : j = 2:=by omega
       rw [HLX.out,HY.out,hxy]
     clear HYE hxy HP HLX HY e3
     rw [e1]
     refine wpQuiet_nil (mt_end ?_)
     go_wp2
     go_roundw
     case rel => exact ⟨2 + 1,by omega,by go_num,HP2,HBs,HKs⟩
     case measure => simp [intOf];omega
    ·have e3 : ¬ (x.toNat : Int) = (g.toNat : Int) / 65536 % 256:=by rw [HYE.out];exact fun q => hxy (UInt8.toNat_inj.1 (by omega))
     have e1 : ((x.toNat : Int) != (g.toNat : Int) / 65536 % 256) = true:=by rw [bne_iff_ne];exact e3
     have hR : R = (([],[]),0,5):=by
      rw [HT.out,if_pos]
      intro q
      have q2 : (b.take 4)[2]? = ((le4 g).take b.length)[2]?:=by rw [q]
      rw [List.getElem?_take_of_lt (by omega),List.getElem?_take_of_lt (by rw [HN.out];omega),HLX.out,HY.out] at q2
      exact hxy (Option.some.inj q2)
     have HRE:=Lib.hid hR
     clear HYE hxy HP HLX HY e3 hR HT HR
     rw [e1]
     refine wpQuiet_nil (mt_end ?_)
     have c0:=HBs.out.cell 0;have c1:=HBs.out.cell 1
     simp only [List.getElem?_cons_succ,List.getElem?_cons_zero] at c0 c1
     have f0:=HBs.out.frozen 0;have f1:=HBs.out.frozen 1
     go_wp2
     exact bodyPost_ret (v:=.tuple #[.agg #[.string ⟨#[]⟩,.slice none 0 0],iv 0,iv 5]) (results_cell_tmp_tmp Tryd.results18 _ _ w.heap.size _ _ _ _ rfl ((HBs.out.set_ 0 (.string ⟨#[]⟩)).set_ 1 (.slice none 0 0)) Tryd.underlying71 rfl (by kernel_rfl)) rfl (by
      rw [HRE.out]
      exact ⟨none,0,rfl,Nat.le_refl _,Nat.zero_le _,Rd.nil _ _,Or.inl rfl,Below.setCell (Below.setCell HKs.out (by simp) _) (by simp) _⟩)
   ·obtain ⟨y,hy,hyE⟩ : ∃ y : UInt8,(le4 g)[3]? = some y∧(g.toNat : Int) / 16777216 % 256 = (y.toNat : Int):=⟨w8 (leE g 3),rfl,by
     have h1 : (g.toNat : Int) / 2 ^ (8 * 3) % 256 = ((w8 (leE g 3)).toNat : Int):=w8_of (Int.emod_nonneg _ (by decide)) (by have q:=Int.emod_lt_of_pos ((g.toNat : Int) / 2 ^ (8 * 3)) (by decide : (0 : Int) < 256);omega)
     exact h1⟩
    have HY:=Lib.hid hy
    have HYE:=Lib.hid hyE
    clear hyE
    go_upto_region 4 with fail
    refine wp_region_tree (.take [0,1,2,3,4,5,6,7,8,9] .done) [] (by kernel_rfl) (by kernel_rfl) (fun w2 k2 => ?_)
    have rx:=aft_cell (keep_cell k2 (keep_cell HKr.out HXC.out))
    have HBs:=Lib.hid (HBr.out.keep k2)
    have HKs:=Lib.hid (keep_trans HKr.out k2)
    clear k2 HBr HKr
    refine mt_take w2 (Below.refl _ _) ?_
    simp only [pick_cons,pick_nil,nth_zero,nth_succ]
    repeat (go_big_quiet_step (fail))
    clear rx HXC hy
    by_cases hxy : x = y
    ·have e1 : ((x.toNat : Int) != (g.toNat : Int) / 16777216 % 256) = false:=by rw [HYE.out,hxy];simp
     have e2 : ((x.toNat : Int) == (g.toNat : Int) / 16777216 % 256) = true:=by rw [HYE.out,hxy];simp
     have e3 : (x.toNat : Int) = (g.toNat : Int) / 16777216 % 256:=by rw [HYE.out,hxy]
     have HP2 : Hid (∀ j,j < 3 + 1 → b[j]? = (le4 g)[j]?):=Lib.hid fun j hj => by
      by_cases e : j < 3
      ·exact HP.out j e
      ·obtain rfl : j = 3:=by omega
       rw [HLX.out,HY.out,hxy]
     clear HYE hxy HP HLX HY e3
     rw [e1]
     refine wpQuiet_nil (mt_end ?_)
     go_wp2
     go_roundw
     case rel => exact ⟨3 + 1,by omega,by go_num,HP2,HBs,HKs⟩
     case measure => simp [intOf];omega
    ·have e3 : ¬ (x.toNat : Int) = (g.toNat : Int) / 16777216 % 256:=by rw [HYE.out];exact fun q => hxy (UInt8.toNat_inj.1 (by omega))
     have e1 : ((x.toNat : Int) != (g.toNat : Int) / 16777216 % 256) = true:=by rw [bne_iff_ne];exact e3
     have hR : R = (([],[]),0,5):=by
      rw [HT.out,if_pos]
      intro q
      have q2 : (b.take 4)[3]? = ((le4 g).take b.length)[3]?:=by rw [q]
      rw [List.getElem?_take_of_lt (by omega),List.getElem?_take_of_lt (by rw [HN.out];omega),HLX.out,HY.out] at q2
      exact hxy (Option.some.inj q2)
     have HRE:=Lib.hid hR
     clear HYE hxy HP HLX HY e3 hR HT HR
     rw [e1]
     refine wpQuiet_nil (mt_end ?_)
     have c0:=HBs.out.cell 0;have c1:=HBs.out.cell 1
     simp only [List.getElem?_cons_succ,List.getElem?_cons_zero] at c0 c1
     have f0:=HBs.out.frozen 0;have f1:=HBs.out.frozen 1
     go_wp2
     exact bodyPost_ret (v:=.tuple #[.agg #[.string ⟨#[]⟩,.slice none 0 0],iv 0,iv 5]) (results_cell_tmp_tmp Tryd.results18 _ _ w.heap.size _ _ _ _ rfl ((HBs.out.set_ 0 (.string ⟨#[]⟩)).set_ 1 (.slice none 0 0)) Tryd.underlying71 rfl (by kernel_rfl)) rfl (by
      rw [HRE.out]
      exact ⟨none,0,rfl,Nat.le_refl _,Nat.zero_le _,Rd.nil _ _,Or.inl rfl,Below.setCell (Below.setCell HKs.out (by simp) _) (by simp) _⟩)
  ·have l1 : ¬ (k : Int) < M:=by omega
   have HPRE : Hid (b.take 4 = (le4 g).take b.length):=Lib.hid (by
    have hm:=HM.out
    have hb:=HN.out
    refine List.ext_getElem? fun j => ?_
    by_cases hj : j < M
    ·rw [List.getElem?_take_of_lt (by omega),List.getElem?_take_of_lt (by omega)]
     exact HP.out j (by omega)
    ·rw [List.getElem?_eq_none (by simp;omega),List.getElem?_eq_none (by simp [le4];omega)])
   clear HP HM
   have HT1:=Lib.hid (HT.out.trans (if_neg (fun q => q HPRE.out)))
   clear HT HPRE
   by_cases h24 : N < 24
   ·have d0 : (N : Int) < 24:=by omega
    have hR : R = (([],[]),0,1):=by rw [HT1.out,if_pos (by rw [HN.out];exact h24)]
    have HRE:=Lib.hid hR
    clear HT1 hR ROW HR h24
    have c0:=HBr.out.cell 0;have c1:=HBr.out.cell 1
    simp only [List.getElem?_cons_succ,List.getElem?_cons_zero] at c0 c1
    have f0:=HBr.out.frozen 0;have f1:=HBr.out.frozen 1
    go_wp2
    exact bodyPost_ret (v:=.tuple #[.agg #[.string ⟨#[]⟩,.slice none 0 0],iv 0,iv 1]) (results_cell_tmp_tmp Tryd.results18 _ _ w.heap.size _ _ _ _ rfl ((HBr.out.set_ 0 (.string ⟨#[]⟩)).set_ 1 (.slice none 0 0)) Tryd.underlying71 rfl (by kernel_rfl)) rfl (by
     rw [HRE.out]
     exact ⟨none,0,rfl,Nat.le_refl _,Nat.zero_le _,Rd.nil _ _,Or.inl rfl,Below.setCell (Below.setCell HKr.out (by simp) _) (by simp) _⟩)
   have d0 : ¬ (N : Int) < 24:=by omega
   have HT2:=Lib.hid (HT1.out.trans (if_neg (by rw [HN.out];exact h24)))
   clear HT1
   obtain ⟨gb,off,x0,rfl,hgb,_,_⟩:=ROW.out 0 (by omega)
   have HRb : Hid (Rd w (some ⟨gb,off,none⟩) (b.map u8v)):=HR
   clear HR
   have h24' : 24 ≤ N:=by omega
   have hc1 : N ≤ c:=HC.out.1
   have hc2 : c ≤ 9223372036854775807:=HC.out.2
   have R12 : Hid (∀ y,Keep w y → Rd y (some ⟨gb,off + 4,none⟩) (((b.drop 4).take 12).map u8v)):=Lib.hid fun y hy => by
    have q:=(HRb.out.keep hy).sub 4 12 (by rw [List.length_map,HN.out];omega)
    simpa [List.map_take,List.map_drop] using q
   have TR : Hid (∀ y,Keep w y → Calls Tryd.prog 40 #[.slice (some ⟨gb,off + 4,none⟩) 12 (c - 4),.string ⟨#[0]⟩] y fun e w' => e = .returned (.slice (some ⟨gb,off + 4,none⟩) (trimN ((b.drop 4).take 12) 12) (c - 4))∧Keep y w'):=Lib.hid fun y hy => trim_any _ _ 12 (c - 4) y (by simp [HN.out];omega) (by omega) ⟨by omega,by omega⟩ (R12.out y hy)
   have CV : Hid (∀ y,Keep w y → (convert 26 9 (.slice (some ⟨gb,off + 4,none⟩) (trimN ((b.drop 4).take 12) 12) (c - 4))).run Tryd.prog y = .ok (.string (str (gcmd b))) y):=Lib.hid fun y hy => by
    have hl:=trimN_le ((b.drop 4).take 12) 12
    refine bytes_str _ _ (by unfold gcmd;simp [HN.out];omega) ?_
    have q:=(R12.out y hy).take (trimN ((b.drop 4).take 12) 12)
    have e : (((b.drop 4).take 12).map u8v).take (trimN ((b.drop 4).take 12) 12) = (gcmd b).map u8v:=by
     rw [← List.map_take,List.take_take,Nat.min_eq_left hl];rfl
    rwa [e] at q
   have CM : Hid (∀ y,Calls Tryd.prog 41 #[.string (str (gcmd b))] y fun e w' => e = .returned (.bool (cmdB (gcmd b)))∧Keep y w'):=Lib.hid fun y => command_any (gcmd b) y
   generalize trimN ((b.drop 4).take 12) 12 = K at *
   generalize gcmd b = cmd at *
   generalize cmdB cmd = cb at *
   go_upto_region 10 with (first | (go_at_call 40;refine (TR.out _ HKr.out).mono ?_;rintro e w2 ⟨rfl,k2⟩;have HB2:=Lib.hid (HBr.out.keep k2);have HK2:=Lib.hid (keep_trans HKr.out k2);have cv:=CV.out w2 HK2.out;clear k2 TR CV))
   go_wp2_with fail
   refine (CM.out _).mono ?_
   clear CM
   rintro e w3 ⟨rfl,k3⟩
   have HB3:=Lib.hid (HB2.out.keep k3)
   have HK3:=Lib.hid (keep_trans HK2.out k3)
   clear k3 HB2 HK2 cv HBr HKr ROW
   cases cb
   ·have hR : R = (([],[]),0,2):=by rw [HT2.out,if_pos rfl]
    have HRE:=Lib.hid hR
    clear HT2 hR
    have c0:=HB3.out.cell 0;have c1:=HB3.out.cell 1
    simp only [List.getElem?_cons_succ,List.getElem?_cons_zero] at c0 c1
    have f0:=HB3.out.frozen 0;have f1:=HB3.out.frozen 1
    go_wp2
    exact bodyPost_ret (v:=.tuple #[.agg #[.string ⟨#[]⟩,.slice none 0 0],iv 0,iv 2]) (results_cell_tmp_tmp Tryd.results18 _ _ w.heap.size _ _ _ _ rfl ((HB3.out.set_ 0 (.string ⟨#[]⟩)).set_ 1 (.slice none 0 0)) Tryd.underlying71 rfl (by kernel_rfl)) rfl (by
     rw [HRE.out]
     exact ⟨none,0,rfl,Nat.le_refl _,Nat.zero_le _,Rd.nil _ _,Or.inl rfl,Below.setCell (Below.setCell HK3.out (by simp) _) (by simp) _⟩)
   have HT3:=Lib.hid (HT2.out.trans (if_neg (by decide)))
   clear HT2
   have HCB : Hid (∀ k,k < 4 → w.cell? ⟨gb,off + (16 + k),none⟩ = some (u8v ((b.drop 16).getD k 0))):=Lib.hid fun k hk => by
    have q:=HRb.out.at (k:=16 + k) (by rw [List.length_map,HN.out];omega)
    obtain ⟨b',o',e,_,hcell⟩:=q
    cases e
    have q2:=hcell (16 + k) (by rw [List.length_map,HN.out];omega)
    rw [q2,List.getElem_map,List.getD_eq_getElem?_getD,List.getElem?_drop,List.getElem?_eq_getElem (by rw [HN.out];omega)]
    rfl
   have HNM : Hid (∀ k,numN (b.drop 16) k < 2 ^ (8 * k)∧numN (b.drop 16) (k + 1) = numN (b.drop 16) k + ((b.drop 16).getD k 0).toNat * 2 ^ (8 * k)):=Lib.hid fun k => ⟨numN_lt _ k,rfl⟩
   have HN0 : Hid (numN (b.drop 16) 0 = 0):=Lib.hid rfl
   have HSZ : Hid (gsize b = numN (b.drop 16) 4):=Lib.hid rfl
   obtain ⟨nt,hnt⟩ : ∃ f,numN (b.drop 16) = f:=⟨_,rfl⟩
   obtain ⟨tt,htt⟩ : ∃ f : Nat → UInt8,(fun k => (b.drop 16).getD k 0) = f:=⟨_,rfl⟩
   have htt' : ∀ k,(b.drop 16).getD k 0 = tt k:=fun k => congrFun htt k
   rw [hnt] at HNM HN0 HSZ
   simp only [htt'] at HCB HNM
   clear hnt htt htt'
   go_upto_region 12 with fail
   go_wp2_with fail
   go_loopw [11,46] (fun v i wx => ∃ k : Nat,k ≤ 4∧i = .int .i64 k∧v = .int .u64 (nt k : Nat)∧w3 = wx) (fun _ i _ => 4 - (intOf i).toNat)
   case atStart => exact ⟨0,Nat.zero_le _,rfl,by rw [HN0.out];rfl,rfl⟩
   case round =>
    obtain ⟨k,hk,rfl,rfl,rfl⟩:=hrel
    by_cases hlt : k < 4
    ·have c0:=keep_cell HK3.out (HCB.out k hlt)
     obtain ⟨h1,h2⟩:=HNM.out k
     have hy:=(tt k).toNat_lt
     have hor:=u64_or (nt k) (tt k).toNat k (by omega) h1 (by omega)
     rw [← h2] at hor
     have l2 : (k : Int) < 4:=by omega
     have l3 : 16 + k < N:=by omega
     clear h1 h2
     obtain ⟨n1,hn1⟩ : ∃ n1,nt (k + 1) = n1:=⟨_,rfl⟩
     rw [hn1] at hor
     have HNX : Hid (n1 = nt (k + 1)):=Lib.hid hn1.symm
     have hw8 : IntKind.u64.wrap ((tt k).toNat : Int) = (tt k).toNat:=by rw [IntKind.wrap_u64];omega
     clear hn1
     generalize nt k = n0 at *
     generalize tt k = y at *
     go_wp2
     go_roundw
     case rel => exact ⟨k + 1,by omega,by go_num,by rw [← HNX.out],by first | rfl | trivial⟩
     case measure => simp [intOf];omega
    ·obtain rfl : k = 4:=by omega
     rw [← HSZ.out]
     have hlt4 : gsize b < 4294967296:=by
      rw [HSZ.out]
      have q:=(HNM.out 4).1
      rw [show (2 : Nat) ^ (8 * 4) = 4294967296 from rfl] at q
      exact q
     clear HCB HNM HN0 HSZ
     have HPL : Hid (gpl b = (b.drop 24).take (gsize b)):=Lib.hid rfl
     have BN : Hid (∀ y,Calls Tryd.prog 42 #[iv most] y fun e w' => e = .returned (iv (bndF most))∧Keep y w'):=Lib.hid fun y => bounded_any most y
     have hbd : 0 ≤ bndF most∧bndF most ≤ 4000000:=by unfold bndF;omega
     generalize gsize b = S at *
     generalize bndF most = BD at *
     have l4 : ¬ ((4 : Nat) : Int) < 4:=by decide
     have HBD:=Lib.hid hbd
     have HWB : Hid (IntKind.u64.wrap BD = BD):=Lib.hid (by rw [IntKind.wrap_u64];omega)
     have HWS : Hid (IntKind.i64.wrap (S : Int) = S):=Lib.hid (IntWalk.i64_in _ (by omega))
     have HW2 : Hid (wrap64 (S : Int) = S):=Lib.hid (IntWalk.wrap64_in _ (by omega))
     have HW3 : Hid (wrap64 (24 + (S : Int)) = 24 + (S : Int)):=Lib.hid (IntWalk.wrap64_in _ (by omega))
     clear hbd hlt4
     go_wp2_with fail
     refine (BN.out _).mono ?_
     clear BN
     rintro e w4 ⟨rfl,k4⟩
     have HB4:=Lib.hid (HB3.out.keep k4)
     have HK4:=Lib.hid (keep_trans HK3.out k4)
     clear k4 HB3 HK3
     by_cases hbig2 : BD < (S : Int)
     ·have e2 : decide (BD < (S : Int)) = true:=decide_eq_true hbig2
      have hR : R = (([],[]),0,3):=by rw [HT3.out,if_pos hbig2]
      have HRE:=Lib.hid hR
      clear HT3 hR hbig2
      have hwb:=HWB.out
      have c0:=HB4.out.cell 0;have c1:=HB4.out.cell 1
      simp only [List.getElem?_cons_succ,List.getElem?_cons_zero] at c0 c1
      have f0:=HB4.out.frozen 0;have f1:=HB4.out.frozen 1
      go_wp2
      exact bodyPost_ret (v:=.tuple #[.agg #[.string ⟨#[]⟩,.slice none 0 0],iv 0,iv 3]) (results_cell_tmp_tmp Tryd.results18 _ _ w.heap.size _ _ _ _ rfl ((HB4.out.set_ 0 (.string ⟨#[]⟩)).set_ 1 (.slice none 0 0)) Tryd.underlying71 rfl (by kernel_rfl)) rfl (by
       rw [HRE.out]
       exact ⟨none,0,rfl,Nat.le_refl _,Nat.zero_le _,Rd.nil _ _,Or.inl rfl,Below.setCell (Below.setCell HK4.out (by simp) _) (by simp) _⟩)
     have HT4:=Lib.hid (HT3.out.trans (if_neg hbig2))
     have e2 : decide (BD < (S : Int)) = false:=decide_eq_false hbig2
     have HS4 : Hid (S ≤ 4000000):=Lib.hid (by have:=HBD.out;omega)
     clear HT3 hbig2
     by_cases hsh : N < 24 + S
     ·have d5 : (N : Int) < 24 + (S : Int):=by omega
      have hR : R = (([],[]),0,1):=by rw [HT4.out,if_pos (by rw [HN.out];exact hsh)]
      have HRE:=Lib.hid hR
      clear HT4 hR
      have hwb:=HWB.out;have hws:=HWS.out;have hw2:=HW2.out;have hw3:=HW3.out
      have c0:=HB4.out.cell 0;have c1:=HB4.out.cell 1
      simp only [List.getElem?_cons_succ,List.getElem?_cons_zero] at c0 c1
      have f0:=HB4.out.frozen 0;have f1:=HB4.out.frozen 1
      go_wp2
      exact bodyPost_ret (v:=.tuple #[.agg #[.string ⟨#[]⟩,.slice none 0 0],iv 0,iv 1]) (results_cell_tmp_tmp Tryd.results18 _ _ w.heap.size _ _ _ _ rfl ((HB4.out.set_ 0 (.string ⟨#[]⟩)).set_ 1 (.slice none 0 0)) Tryd.underlying71 rfl (by kernel_rfl)) rfl (by
       rw [HRE.out]
       exact ⟨none,0,rfl,Nat.le_refl _,Nat.zero_le _,Rd.nil _ _,Or.inl rfl,Below.setCell (Below.setCell HK4.out (by simp) _) (by simp) _⟩)
     have HT5:=Lib.hid (HT4.out.trans (if_neg (by rw [HN.out];exact hsh)))
     clear HT4
     have d5 : decide ((N : Int) < 24 + (S : Int)) = false:=decide_eq_false (by omega)
     have D6 : Hid (24 + S ≤ N):=Lib.hid (by omega)
     clear hsh
     have hwb:=HWB.out;have hws:=HWS.out;have hw2:=HW2.out;have hw3:=HW3.out
     go_upto_region 23 with fail
     clear hwb hws hw2 hw3 d5
     rw [HW3.out]
     have d6:=D6.out
     have d7 : 24 + S ≤ c:=by omega
     obtain ⟨AP,hsl,hap⟩:=slice_tail gb off N c S d7
     have HRP : Hid (∀ y,Keep w y → Rd y AP ((gpl b).map u8v)):=Lib.hid fun y hy => by
      rcases hap with rfl | hc24
      ·have q:=(HRb.out.keep hy).sub 24 S (by rw [List.length_map,HN.out];exact d6)
       rw [HPL.out,List.map_take,List.map_drop]
       exact q
      ·have e0 : gpl b = []:=by
        rw [HPL.out]
        refine List.eq_nil_of_length_eq_zero ?_
        rw [List.length_take]
        omega
       rw [e0]
       exact Rd.nil _ _
     have HPZ : Hid ((gpl b).length = S):=Lib.hid (by
      have hb:=HN.out
      rw [HPL.out,List.length_take,List.length_drop];omega)
     clear d6 d7 hap HPL
     go_upto_region 24 with fail
     have HDL : Hid ((dblL (gpl b)).length = 32):=Lib.hid (dblL_len _)
     obtain ⟨ds,hds⟩ : ∃ ds,HashA (dblL (gpl b)) ds:=⟨_,HashA.of (dblL_len _)⟩
     have hdn:=hds.n;have hdz:=hds.z;have hdi:=hds.i
     have HDS:=Lib.hid hds
     have DB : Hid (∀ y,Keep w y → Calls Tryd.prog 43 #[.slice AP S (c - 24)] y fun e w' => e = .returned (.agg ds)∧Keep y w'):=Lib.hid fun y hy => by
      have q:=double_any AP (gpl b) (c - 24) y (HS.out.keep hy) (HRP.out y hy) (by have:=HPZ.out;have:=D6.out;omega) (by show c - 24 ≤ 9223372036854775807;omega) (by have:=HPZ.out;have:=HS4.out;omega)
      rw [HPZ.out,show hashV (dblL (gpl b)) = .agg ds from congrArg Value.agg hds.e] at q
      exact q
     have CL : Hid (∀ y,Keep w y → Calls Tryd.prog 45 #[.slice AP S (c - 24)] y fun e w' => ∃ P pc,e = .returned (.slice P S pc)∧S ≤ pc∧pc ≤ maxLen∧(Rd w' P ((gpl b).map u8v)∧FreshA y.heap.size P S)∧Keep y w'):=Lib.hid fun y hy => by
      have q:=clone_any AP (gpl b) (c - 24) y (by have:=HPZ.out;have:=HS4.out;omega) (HRP.out y hy)
      rw [HPZ.out] at q
      refine q.mono ?_
      rintro e w' ⟨v,h1,h2,h3⟩
      obtain ⟨P,pc,rfl,h4,h5,h6⟩:=own_form h2
      exact ⟨P,pc,h1,h4,h5,⟨h6,own_fresh h2⟩,h3⟩
     clear hds
     generalize dblL (gpl b) = D at *
     obtain ⟨hz,hhz1,hhz2,hhz3,hhz4⟩:=zhash_letter
     have HDI:=Lib.hid hdi
     have HDC:=Lib.hid hdz
     have HC20:=Lib.hid hc2
     clear hc2 hhz4 l4
     go_wp2_with fail
     refine (DB.out _ HK4.out).mono ?_
     clear DB hsl
     rintro e w5 ⟨rfl,k5⟩
     have HB5:=Lib.hid (HB4.out.keep k5)
     have HK5:=Lib.hid (keep_trans HK4.out k5)
     have hst : (storeCells ⟨w5.heap.size,0,none⟩ ds.toList 0).run Tryd.prog (w5.alloc (.cells hz 39)) = .ok () (w5.alloc (.cells ds 39)):=run_storeCells_new (P:=Tryd.prog) w5 39 hz ds HDI.out (hhz1.trans HDC.out.symm) (by have:=all_oneCell_toArray HDS.out.o;simpa using this)
     clear k5 HB4 HK4
     go_upto_region 25 with fail
     obtain ⟨w6,hw⟩ : ∃ y,y = w5.alloc (.cells ds 39):=⟨_,rfl⟩
     have HH6 : Hid (Blk w6 w5.heap.size 39 (D.map u8v)):=by rw [hw,← HDS.out.l];exact Lib.hid (Blk.new w5 _ ds.toList)
     have HB6 : Hid (Blk w6 w.heap.size 71 [.string ⟨#[]⟩,.slice none 0 0]):=by rw [hw];exact Lib.hid (HB5.out.alloc _)
     have HK6 : Hid (Keep w w6):=by rw [hw];exact Lib.hid (keep_trans HK5.out (keep_new _ _))
     rw [← hw]
     clear hst hw HB5 HK5
     generalize w5.heap.size = gh at *
     have E1 : Hid (∀ y,Keep w6 y → Rd y (some ⟨gh,0,none⟩) ((D.take 4).map u8v)):=Lib.hid fun y hy => by
      have q:=((HH6.out.keep hy).rd).take 4
      rwa [← List.map_take] at q
     have E2 : Hid (∀ y,Keep w y → Rd y (some ⟨gb,off + 20,none⟩) (((b.drop 20).take 4).map u8v)):=Lib.hid fun y hy => by
      have q:=(HRb.out.keep hy).sub 20 4 (by rw [List.length_map,HN.out];omega)
      rw [List.map_take,List.map_drop]
      exact q
     have L1 : Hid (4 = (D.take 4).length):=Lib.hid (by rw [List.length_take,HDL.out];rfl)
     have L2 : Hid (4 = ((b.drop 20).take 4).length):=Lib.hid (by have hb:=HN.out;rw [List.length_take,List.length_drop];omega)
     have d20 : ¬ c = 20:=by omega
     have d21 : 24 ≤ c:=by omega
     refine wp_region_tree (.take [0,1,2] (.force [3] (.take [4] .done))) [] (by kernel_rfl) (by kernel_rfl) (fun w7 k7 => ?_)
     have F1:=Lib.hid (E1.out w7 k7)
     have HB7:=Lib.hid (HB6.out.keep k7)
     have HK7:=Lib.hid (keep_trans HK6.out k7)
     have F2:=Lib.hid (E2.out w7 HK7.out)
     clear k7 HB6 HK6 HH6 E1 E2
     refine mt_take w7 (Below.refl _ _) ?_
     simp only [pick_cons,pick_nil,nth_zero,nth_succ]
     repeat (go_big_quiet_step (fail))
     refine wpQuiet_nil (mt_force ?_)
     simp only [pick_cons,pick_nil,nth_zero,nth_succ]
     refine fc_step rfl (fun KK hKK => ?_)
     go_simp
     (with_reducible refine (equal_any _ (D.take 4) 4 _ _ ((b.drop 20).take 4) 4 _ w7 F1.out F2.out L1.out L2.out).mono ?_)
     rintro e w8 ⟨rfl,rfl⟩
     refine hKK _ _ (Below.refl _ _) ?_
     clear hKK KK
     by_cases hq : D.take 4 = (b.drop 20).take 4
     ·have dq : decide (D.take 4 = (b.drop 20).take 4) = true:=decide_eq_true hq
      have hR : R = ((cmd,gpl b),24 + S,0):=by rw [HT5.out,if_neg (fun q => q hq)]
      have HRE:=Lib.hid hR
      rw [dq]
      clear dq hR HT5 hq F1 F2 L1 L2
      refine fc_nil (mt_take w7 (Below.refl _ _) ?_)
      simp only [pick_cons,pick_nil,nth_zero,nth_succ]
      repeat (go_big_quiet_step (fail))
      refine wpQuiet_nil (mt_end ?_)
      go_wp2_with fail
      refine (CL.out _ HK7.out).mono ?_
      have HL7:=Lib.hid HB7.out.lt
      clear CL
      rintro e w8 ⟨P,pc,rfl,hp1,hp2,hp3,k8⟩
      have HB8:=Lib.hid (HB7.out.keep k8)
      have HK8:=Lib.hid (keep_trans HK7.out k8)
      have HP1:=Lib.hid hp1;have HP2:=Lib.hid hp2;have HP3:=Lib.hid hp3
      clear k8 HB7 HK7 hp1 hp2 hp3
      have c0:=HB8.out.cell 0;have c1:=HB8.out.cell 1
      simp only [List.getElem?_cons_succ,List.getElem?_cons_zero] at c0 c1
      have f0:=HB8.out.frozen 0;have f1:=HB8.out.frozen 1
      go_wp2
      have HBZ:=((HB8.out.set_ 0 (.string (str cmd))).set_ 1 (.slice P S pc))
      exact bodyPost_ret (v:=.tuple #[.agg #[.string (str cmd),.slice P S pc],iv ((24 + S : Nat) : Int),iv 0]) (results_cell_tmp_tmp Tryd.results18 _ _ w.heap.size _ _ _ _ rfl HBZ Tryd.underlying71 rfl (by kernel_rfl)) rfl (by
       rw [HRE.out]
       refine ⟨P,pc,?_,?_,HP2.out,?_,?_,Below.setCell (Below.setCell HK8.out (by simp) _) (by simp) _⟩
       ·show _ = Ending.returned (.tuple #[.agg #[.string (str cmd),.slice P (gpl b).length pc],iv ((24 + S : Nat) : Int),iv 0])
        rw [HPZ.out]
       ·show (gpl b).length ≤ pc
        rw [HPZ.out];exact HP1.out
       ·have hlt:=HL7.out
        rcases HP3.out.2 with h0 | ⟨bp,op,rfl,hbp⟩
        ·have e0 : gpl b = []:=List.eq_nil_of_length_eq_zero (by rw [HPZ.out];exact h0)
         show Rd _ P ((gpl b).map u8v)
         rw [e0];exact Rd.nil _ _
        ·have hne : (w.heap.size : Nat) ≠ bp:=by omega
         exact (HP3.out.1.far (p:=⟨w.heap.size,0,none⟩) hne _).far (p:=⟨w.heap.size,0 + 1,none⟩) hne _
       ·show FreshA w.heap.size P (gpl b).length
        rw [HPZ.out]
        exact HP3.out.2.mono (Nat.le_of_lt HL7.out))
     ·have dq : decide (D.take 4 = (b.drop 20).take 4) = false:=decide_eq_false hq
      have hR : R = (([],[]),0,4):=by rw [HT5.out,if_pos hq]
      have HRE:=Lib.hid hR
      rw [dq]
      clear dq hR HT5 hq F1 F2 L1 L2 CL
      refine fc_nil (mt_take w7 (Below.refl _ _) ?_)
      simp only [pick_cons,pick_nil,nth_zero,nth_succ]
      repeat (go_big_quiet_step (fail))
      refine wpQuiet_nil (mt_end ?_)
      have c0:=HB7.out.cell 0;have c1:=HB7.out.cell 1
      simp only [List.getElem?_cons_succ,List.getElem?_cons_zero] at c0 c1
      have f0:=HB7.out.frozen 0;have f1:=HB7.out.frozen 1
      go_wp2
      exact bodyPost_ret (v:=.tuple #[.agg #[.string ⟨#[]⟩,.slice none 0 0],iv 0,iv 4]) (results_cell_tmp_tmp Tryd.results18 _ _ w.heap.size _ _ _ _ rfl ((HB7.out.set_ 0 (.string ⟨#[]⟩)).set_ 1 (.slice none 0 0)) Tryd.underlying71 rfl (by kernel_rfl)) rfl (by
       rw [HRE.out]
       exact ⟨none,0,rfl,Nat.le_refl _,Nat.zero_le _,Rd.nil _ _,Or.inl rfl,Below.setCell (Below.setCell HK7.out (by simp) _) (by simp) _⟩)
end Go.Proofs.YtffpanlpbdnafaaDoor
/- A range over a function whose rounds are told of what they are handed; at the wide fence. General: no function of a seat. -/
set_option linter.unusedSimpArgs false
set_option linter.unusedVariables false
namespace Go.Proofs.YtffpanlpbdnafaaDoor
open Go.RowKit
section
variable {P : Program}
structure KX (B : Nat) (X : Nat → Prop) (W W' : World) : Prop where
 os : W'.os = W.os
 tape : W'.tape = W.tape
 output : W'.output = W.output
 size : W.heap.size ≤ W'.heap.size
 block : ∀ k,k < B → k < W.heap.size → ¬ X k → W'.heap[k]? = W.heap[k]?
theorem KX.refl (B : Nat) (X : Nat → Prop) (W : World) : KX B X W W:=⟨rfl,rfl,rfl,Nat.le_refl _,fun _ _ _ _ => rfl⟩
theorem KX.trans {B : Nat} {X : Nat → Prop} {A C D : World} (h : KX B X A C) (k : KX B X C D) : KX B X A D :=
 ⟨k.os.trans h.os,k.tape.trans h.tape,k.output.trans h.output,Nat.le_trans h.size k.size,fun j h1 h2 h3 => (k.block j h1 (Nat.lt_of_lt_of_le h2 h.size) h3).trans (h.block j h1 h2 h3)⟩
theorem KX.putObj {B : Nat} {X : Nat → Prop} (W : World) {l : Nat} (o : Obj) (hl : B ≤ l) : KX B X W (W.putObj l o) :=
 ⟨rfl,rfl,rfl,by simp,fun k h1 _ _ => World.putObj_heap_other (by omega)⟩
def Gi (bb : Nat) (A C : World) : Prop:=A.grownBy C (some bb)∧∀ (k : Nat) (o : Obj),A.heap[k]? = some o → o.isCells = false → C.heap[k]? = some o
theorem wp_rangeFuncM {α : Type} {g : Operand} {ps : Array Tmp} {assign body : Code} {Q : Exit → Act → World → Prop} {a : Act} {w : World} {gf : Nat} {lb : Array Value}
  (hg : a.eval g = .func (.func gf) #[] lb) (eg : ∀ args w,(callFunc gf args).run P w = .ok (.enter gf args) w)
  (encs : α → Array Value) (hps : ∀ x,(encs x).size = ps.size) (Φ : List α → α → World → World → Prop) (S : List α → Prop) (bb : Nat) (X : Nat → Prop)
  (I : List α → World → Prop)
  (hseq : ∀ (l : Nat) (J : List α → World → Prop) (W1 : World),Keep w W1 → J [] W1 → (∀ pre A C,J pre A → Gi bb A C → J pre C) →
   (∀ pre x wr W,J pre wr → Keep wr W → Φ pre x wr W → YieldAt Fence.wide 0 P l (encs x) W (fun e W' => e = .returned (.bool true)∧J (pre ++ [x]) W'∧KX w.heap.size X W W')) →
   Calls P gf (#[.func (.yield l) #[] #[]] ++ lb) W1 (fun e W' => (∃ v,e = .returned v)∧∃ xs,S xs∧J xs W'))
  (hGi : ∀ pre A C,I pre A → Gi bb A C → I pre C) (hI : OwnFrom w.heap.size I) (h0 : I [] w)
  (hround : ∀ l pre x wr W,w.heap.size ≤ l → I pre wr → Keep wr W → Φ pre x wr W →
   assign.wpIn (Fence.wide.inRound l) 0 P (Exit.then (fun a₁ w₁ => KeepsFrom w.heap.size W w₁∧KX w.heap.size X W w₁∧∀ st,(∃ r,w₁.heap[l]? = some (.loop r)) → body.wpIn (Fence.wide.inRound l) 0 P (fun e a' W' => e = .normal∧KeepsFrom w.heap.size (w₁.putObj l (.loop st)) W'∧KX w.heap.size X (w₁.putObj l (.loop st)) W'∧I (pre ++ [x]) W') a₁ (w₁.putObj l (.loop st))) (fun _ _ _ => False))
    { tmps:=(ps.zip (encs x)).foldl (fun t (p,v) => t.setIfInBounds p v) a.tmps,defers:=[] } W)
  (hdone : ∀ (D : Nat) (xs : List α) (W : World),w.heap.size ≤ D → S xs → I xs W → W.heap[D]? = some (.deferred (some [])) → Q .normal { a with defers:={ target:=.collected D,args:=#[] } :: a.defers } W) :
  (Code.rangeFunc g ps assign body).wp P Q a w:=by
 refine (wpIn_wide (n:=1)).1 (wpIn_rangeFunc ?_)
 intro fn hfn
 obtain ⟨rec,hrec⟩ : ∃ rec : LoopState → Option Code → Loop,rec = fun st pe => { state:=st,pending:=pe,fn,tmps:=a.tmps,params:=ps,assign,body,defers:=w.heap.size }:=⟨_,rfl⟩
 obtain ⟨W1,hW1⟩ : ∃ W1,(w.alloc (.deferred (some []))).alloc (.loop (rec .ready none)) = W1:=⟨_,rfl⟩
 have hL1 : W1.heap[w.heap.size + 1]? = some (.loop (rec .ready none)):=by
  rw [← hW1];have:=World.alloc_heap_new (w.alloc (.deferred (some []))) (.loop (rec .ready none));rwa [World.size_alloc] at this
 have hK1 : W1.heap[w.heap.size]? = some (.deferred (some [])):=by
  rw [← hW1];exact (Below.heap_alloc _ _ _ (by simp)).trans (World.alloc_heap_new w _)
 have hI1 : I [] W1:=by
  rw [← hW1]
  refine hI _ _ _ none (hI _ _ _ none h0 (World.grownBy_alloc w _ none) (fun r e => by cases e)) (World.grownBy_alloc _ _ none) (fun r e => by cases e)
 have hb1 : Keep w W1:=by rw [← hW1];exact keep_trans ((Below.refl _ _).alloc (Nat.le_refl _) _) ((Below.refl _ _).alloc (Nat.le_refl _) _)
 refine ⟨w.heap.size + 1,[{ target:=.collected w.heap.size,args:=#[] }],W1,{ target:=.fn (.func gf) lb,args:=#[.func (.yield (w.heap.size + 1)) #[] #[]] },W1,gf,
  #[.func (.yield (w.heap.size + 1)) #[] #[]] ++ lb,W1,?_,?_,?_,?_,fun _ => Nat.le_refl 1,?_⟩
 ·rw [← hW1,hrec];exact run_enterLoop_outer _ _ _ _ _
 ·simp only [resolve,hg]
  simp [go_sem]
 ·intro f' _;trivial
 ·simp [invoke,go_sem,eg]
 ·refine callsIn_wide.2 ((hseq (w.heap.size + 1) (fun pre W => I pre W∧W.heap[w.heap.size + 1]? = some (.loop (rec .ready none))∧W.heap[w.heap.size]? = some (.deferred (some []))) W1 hb1 ⟨hI1,hL1,hK1⟩
   (fun pre A C h hg' => ⟨hGi pre A C h.1 hg',hg'.2 _ _ h.2.1 rfl,hg'.2 _ _ h.2.2 rfl⟩) ?_).mono ?_)
  ·rintro pre x wr W ⟨hi,hl0,hk0⟩ hkw hφ
   have hl : W.heap[w.heap.size + 1]? = some (.loop (rec .ready none)):=(hkw.block _ (Array.getElem?_eq_some_iff.1 hl0).1).trans hl0
   have hk : W.heap[w.heap.size]? = some (.deferred (some [])):=(hkw.block _ (Array.getElem?_eq_some_iff.1 hk0).1).trans hk0
   have hlt : w.heap.size + 1 < W.heap.size:=(Array.getElem?_eq_some_iff.1 hl).1
   have hy:=run_yield (P:=P) (args:=encs x) hl (by rw [hrec];exact hps x)
   rw [hrec] at hy
   refine ⟨fn,_,assign,body,hy,roundIn_of_wpIn hfn (wpIn_mono (hround _ pre x wr W (by omega) hi hkw hφ) ?_)⟩
   rintro e a' Wa hp
   cases e with
   | normal =>
     obtain ⟨hkfa,hkxa,hbody⟩:=hp
     replace hl:=hkfa.same _ _ (by omega) hl rfl
     replace hk:=hkfa.same _ _ (Nat.le_refl _) hk rfl
     have hlt : w.heap.size + 1 < Wa.heap.size:=(Array.getElem?_eq_some_iff.1 hl).1
     refine ⟨_,run_beginRound hl (by rw [hrec]),?_⟩
     have hl2 : (Wa.putObj (w.heap.size + 1) (.loop { rec .ready none with state:=.busy })).heap[w.heap.size + 1]? = some (.loop { rec .ready none with state:=.busy }):=World.putObj_heap_same hlt
     have hk2 : (Wa.putObj (w.heap.size + 1) (.loop { rec .ready none with state:=.busy })).heap[w.heap.size]? = some (.deferred (some [])):=(World.putObj_heap_other (by omega)).trans hk
     refine wpIn_mono (hbody _ ⟨_,hl⟩) ?_
     rintro e a3 W3 ⟨rfl,hk3,hx3,hi3⟩
     have hl3:=hk3.same _ _ (by omega) hl2 rfl
     have hend:=run_endRound (P:=P) none hl3
     refine ⟨_,_,hend,rfl,⟨?_,?_,?_⟩,?_⟩
     ·exact hI.putObj _ hi3 (by omega) hl3 rfl
     ·rw [World.putObj_heap_same (Array.getElem?_eq_some_iff.1 hl3).1,hrec];rfl
     ·exact (World.putObj_heap_other (by omega)).trans (hk3.same _ _ (Nat.le_refl _) hk2 rfl)
     ·exact hkxa.trans ((KX.putObj _ _ (by omega)).trans (hx3.trans (KX.putObj _ _ (by omega))))
   | ret => exact hp.elim
   | exit id => exact hp.elim
   | goto t => exact hp.elim
   | panic c => exact hp.elim
   | outgrown => exact hp.elim
  ·rintro e W3 ⟨⟨v,rfl⟩,xs,hs,hi,hl,hk⟩
   have hq:=run_endLoop (P:=P) hl (by rw [hrec];exact fun h => by cases h)
   rw [show (rec .ready none).pending = none from by rw [hrec]] at hq
   refine ⟨none,_,hq,?_⟩
   exact hdone _ xs _ (Nat.le_refl _) hs (hI.putObj _ hi (by omega) hl rfl) ((World.putObj_heap_other (by omega)).trans hk)
end
end Go.Proofs.YtffpanlpbdnafaaDoor
/- frame.messages: what the iterator tells (printed by gen_ro.py) -/
set_option linter.unusedSimpArgs false
set_option linter.unusedVariables false
namespace Go.Proofs.YtffpanlpbdnafaaDoor
open Go.RowKit
attribute [local go_sem] Oper.semAt_some
attribute [local go_sem ↓] Go.wp_at_zero Go.wp_at_succ
abbrev Ev:=(List UInt8 × List UInt8) × Int
def evL (g : UInt32) (most : Int) : Nat → List UInt8 → List Ev
 | 0,_ => []
 | f + 1,b => ((getF g most b).1,(getF g most b).2.2) :: if (getF g most b).2.2 = 0 then evL g most f (b.drop (getF g most b).2.1) else []
def evs (g : UInt32) (most : Int) (b : List UInt8) : List Ev:=evL g most (b.length + 1) b
structure EvR where
 c : List UInt8
 p : List UInt8
 P : Option Addr
 pc : Nat
 e : Int
def EvR.ev (x : EvR) : Ev:=((x.c,x.p),x.e)
def EvR.vals (x : EvR) : Array Value:=#[.agg #[.string (str x.c),.slice x.P x.p.length x.pc],iv x.e]
def EvR.at_ (x : EvR) (W : World) : Prop:=x.p.length ≤ x.pc∧x.pc ≤ maxLen∧Rd W x.P (x.p.map u8v)
theorem getF_ok {g : UInt32} {most : Int} {b : List UInt8} (h : (getF g most b).2.2 = 0) : 24 ≤ (getF g most b).2.1∧(getF g most b).2.1 ≤ b.length∧getF g most b = ((gcmd b,gpl b),24 + gsize b,0):=by
 unfold getF at h ⊢
 by_cases h1 : ¬ b.take 4 = (le4 g).take b.length
 ·rw [if_pos h1] at h;cases h
 rw [if_neg h1] at h ⊢
 by_cases h2 : b.length < 24
 ·rw [if_pos h2] at h;cases h
 rw [if_neg h2] at h ⊢
 by_cases h3 : cmdB (gcmd b) = false
 ·rw [if_pos h3] at h;cases h
 rw [if_neg h3] at h ⊢
 by_cases h4 : bndF most < gsize b
 ·rw [if_pos h4] at h;cases h
 rw [if_neg h4] at h ⊢
 by_cases h5 : b.length < 24 + gsize b
 ·rw [if_pos h5] at h;cases h
 rw [if_neg h5] at h ⊢
 by_cases h6 : ¬ (dblL (gpl b)).take 4 = (b.drop 20).take 4
 ·rw [if_pos h6] at h;cases h
 rw [if_neg h6] at h ⊢
 exact ⟨Nat.le_add_right _ _,by show 24 + gsize b ≤ b.length;omega,rfl⟩
def lenAt (w : World) (bb : Nat) : Nat:=match w.cell? ⟨bb,0,none⟩ with | some (.slice _ n _) => n | _ => 0
theorem elem_b2 : Tryd.prog.elem 26 = 5:=by kernel_rfl
theorem slice_rest (A : Option Addr) (N c k : Nat) (h : k ≤ N) (hc : N ≤ c) (y : World) : (Instr.slice 26 (.slice A N c) (some (.int .i64 (k : Int))) none none).run Tryd.prog y = .ok (.slice (if c = k then A else A.map (·.add (k * 1))) (N - k) (c - k)) y:=by
 rw [run_slice_l y 26 A N c (by rw [elem_b2];exact Tryd.underlying26) .i64 (k : Int) (by omega) (by omega),elem_b2,u8_size,Result.andThen_ok,sliced]
 rfl
set_option maxRecDepth 100000 in
set_option maxHeartbeats 8000000 in
theorem msgs_any (g : UInt32) (most : Int) (b : List UInt8) (l B gb mb bb : Nat) (X : Nat → Prop) (w0 : World) (J : List EvR → World → Prop) (W : World)
  (hJ : ∀ pre A C,J pre A → Gi bb A C → J pre C)
  (hY : ∀ pre x wr W,J pre wr → Keep wr W → (EvR.at_ x W∧FreshA wr.heap.size x.P x.p.length∧∃ post,pre.map EvR.ev ++ x.ev :: post = evs g most b) → YieldAt Fence.wide 0 Tryd.prog l x.vals W (fun e W' => e = .returned (.bool true)∧J (pre ++ [x]) W'∧KX B X W W'))
  (A : Option Addr) (c : Nat) (hb : b.length ≤ 1000000000) (hc : b.length ≤ c∧c ≤ maxLen)
  (hR : ∀ y,KX B (fun k => X k ∨ k = bb) w0 y → Rd y A (b.map u8v)) (hS : ∀ y,KX B (fun k => X k ∨ k = bb) w0 y → ShaOk y)
  (hB : gb < B∧mb < B∧bb < B) (hX : ¬ X gb∧¬ X mb∧¬ X bb) (hd : gb ≠ bb∧mb ≠ bb)
  (hW : KX B (fun k => X k ∨ k = bb) w0 W) (cg : Blk W gb 22 [u32v g]) (cm : Blk W mb 3 [iv most]) (cb : Blk W bb 26 [.slice A b.length c]) (h0 : J [] W) :
  Calls Tryd.prog 68 #[.func (.yield l) #[] #[],.pointer (some ⟨gb,0,none⟩),.pointer (some ⟨mb,0,none⟩),.pointer (some ⟨bb,0,none⟩)] W fun e W' => (∃ v,e = .returned v)∧∃ xs : List EvR,xs.map EvR.ev = evs g most b∧J xs W':=by
 refine (callsIn_wide (n:=1)).1 ?_
 have HJ:=Lib.hid hJ;have HY:=Lib.hid hY;have HB:=Lib.hid hB;have HX:=Lib.hid hX;have HD:=Lib.hid hd;have HS:=Lib.hid hS
 have HW:=Lib.hid hW;have HCG:=Lib.hid cg;have HCM:=Lib.hid cm;have HCB:=Lib.hid cb;have H0:=Lib.hid h0;have HRR:=Lib.hid hR
 have HBL:=Lib.hid hb;have HCC:=Lib.hid hc
 clear hJ hY hB hX hd hS hW cg cm cb h0 hR hb hc
 refine callsIn_of_wp Tryd.func68 rfl trivial ?_
 simp only [Tryd.ntmps68,List.size_toArray,List.length_cons,List.length_nil,Nat.reduceAdd,Nat.reduceSub,Array.replicate_succ,Array.replicate_zero,List.push_toArray,List.append_toArray,List.nil_append,List.cons_append]
 apply wpIn_block
 gi_loopw [6] (fun _ wr => ∃ (pre : List EvR) (f : Nat) (r : List UInt8) (A' : Option Addr) (c' : Nat),Hid (pre.map EvR.ev ++ evL g most f r = evs g most b)∧Hid (r.length < f)∧Hid (r.length ≤ 1000000000)∧Hid (r.length ≤ c'∧c' ≤ maxLen)∧Hid (∀ y,KX B (fun k => X k ∨ k = bb) w0 y → Rd y A' (r.map u8v))∧Hid (KX B (fun k => X k ∨ k = bb) w0 wr)∧Hid (Blk wr gb 22 [u32v g])∧Hid (Blk wr mb 3 [iv most])∧Hid (Blk wr bb 26 [.slice A' r.length c'])∧Hid (J pre wr)) (fun _ wr => lenAt wr bb)
 case atStart => exact ⟨[],b.length + 1,b,A,c,Lib.hid rfl,Lib.hid (Nat.lt_succ_self _),HBL,HCC,HRR,HW,HCG,HCM,HCB,H0⟩
 case round =>
  obtain ⟨pre,f,r,A',c',HE,HF,HL,HC,HR',HWr,HGr,HMr,HBr,HJr⟩:=hrel
  have hB:=HB.out
  have hX:=HX.out
  have hd:=HD.out
  cases f with
  | zero => exact absurd HF.out (Nat.not_lt_zero _)
  | succ f =>
    have GT : Hid (Calls Tryd.prog 18 #[u32v g,iv most,.slice A' r.length c'] wr (Getd (getF g most r) wr)):=Lib.hid (fget_any g most A' r r.length c' wr rfl (HS.out wr HWr.out) HC.out HL.out (HR'.out wr HWr.out))
    have HEV : Hid (evL g most (f + 1) r = ((getF g most r).1,(getF g most r).2.2) :: if (getF g most r).2.2 = 0 then evL g most f (r.drop (getF g most r).2.1) else []):=Lib.hid rfl
    have HOK : Hid ((getF g most r).2.2 = 0 → 24 ≤ (getF g most r).2.1∧(getF g most r).2.1 ≤ r.length):=Lib.hid fun h => ⟨(getF_ok h).1,(getF_ok h).2.1⟩
    rw [HEV.out] at HE
    generalize getF g most r = RES at *
    obtain ⟨⟨cmd,pl⟩,N,code⟩:=RES
    clear HEV
    have g0 : wr.cell? ⟨gb,0,none⟩ = some (u32v g):=(HGr.out.cell 0).trans rfl
    have m0 : wr.cell? ⟨mb,0,none⟩ = some (iv most):=(HMr.out.cell 0).trans rfl
    have b0 : wr.cell? ⟨bb,0,none⟩ = some (.slice A' r.length c'):=(HBr.out.cell 0).trans rfl
    gi_wp2_with (refine ⟨trivial,?_⟩;gi_at_call 18;refine (callsIn_wide.2 GT.out).mono ?_;rintro e w1 ⟨P,pc,rfl,hp1,hp2,hp3,hpf,k1⟩)
    clear GT g0 m0 b0
    obtain ⟨W2,hw2⟩ : ∃ W2,W2 = w1.alloc (.cells #[.string (str cmd),.slice P pl.length pc] 71):=⟨_,rfl⟩
    have hk2 : Keep wr W2:=by rw [hw2];exact keep_trans k1 ((Below.refl _ _).alloc (Nat.le_refl _) _)
    have hm2 : W2.cell? ⟨w1.heap.size,0,none⟩ = some (.string (str cmd)):=by rw [hw2];exact (Blk.new w1 _ [.string (str cmd),.slice P pl.length pc]).cell 0
    have hp4 : Rd W2 P (pl.map u8v):=by rw [hw2];exact hp3.alloc _
    rw [← hw2]
    clear hw2 k1 hp3
    have hgi : Gi bb wr W2:=⟨G.grown_of_keep hk2 _,fun k o h1 _ => (hk2.block k (Array.getElem?_eq_some_iff.1 h1).1).trans h1⟩
    have hkx2 : KX B (fun k => X k ∨ k = bb) wr W2:=⟨hk2.os,hk2.tape,hk2.output,hk2.size,fun k _ h2 _ => hk2.block k h2⟩
    obtain ⟨fn,tmps,assign,body,hy,hRd⟩:=HY.out pre ⟨cmd,pl,P,pc,code⟩ wr W2 HJr.out hk2 ⟨⟨hp1,hp2,hp4⟩,hpf,_,HE.out⟩
    have HK2:=Lib.hid hkx2
    have HG2 : Hid (Blk W2 gb 22 [u32v g]):=Lib.hid (HGr.out.keep hk2)
    have HM2 : Hid (Blk W2 mb 3 [iv most]):=Lib.hid (HMr.out.keep hk2)
    have HB2 : Hid (Blk W2 bb 26 [.slice A' r.length c']):=Lib.hid (HBr.out.keep hk2)
    have HLT2:=Lib.hid (show bb < W2.heap.size from HB2.out.lt)
    clear hgi hkx2 hk2 hm2 hp1 hp2 hp4 hpf HY
    have hy2 : (Instr.yield l #[.agg #[.string (str cmd),.slice P pl.length pc],iv code]).run Tryd.prog W2 = .ok (.round l fn tmps assign body) W2:=hy
    clear hy
    rw [hy2,Oper.uponIn_round]
    refine ⟨fun h => (by cases h),hRd.mono ?_⟩
    clear hy2 hRd
    rintro e W3 ⟨rfl,hJ3,hkx3⟩
    have HJ3:=Lib.hid hJ3
    have hbk : W3.heap[bb]? = W2.heap[bb]?:=hkx3.block bb hB.2.2 HLT2.out hX.2.2
    have HB3 : Hid (Blk W3 bb 26 [.slice A' r.length c']):=Lib.hid (hbk.trans HB2.out)
    have HG3 : Hid (Blk W3 gb 22 [u32v g]):=Lib.hid ((hkx3.block gb hB.1 HG2.out.lt hX.1).trans HG2.out)
    have HM3 : Hid (Blk W3 mb 3 [iv most]):=Lib.hid ((hkx3.block mb hB.2.1 HM2.out.lt hX.2.1).trans HM2.out)
    have HK3 : Hid (KX B (fun k => X k ∨ k = bb) w0 W3):=Lib.hid (HWr.out.trans (HK2.out.trans ⟨hkx3.os,hkx3.tape,hkx3.output,hkx3.size,fun k h1 h2 h3 => hkx3.block k h1 h2 (fun q => h3 (Or.inl q))⟩))
    clear hJ3 hkx3 hbk HB2 HG2 HM2 HK2 HLT2
    by_cases hcode : code = 0
    ·have e1 : (code != 0) = false:=by rw [hcode];rfl
     obtain ⟨hN1,hN2⟩:=HOK.out hcode
     have HN1:=Lib.hid hN1;have HN2:=Lib.hid hN2
     have hsl : ∀ y,(Instr.slice 26 (.slice A' r.length c') (some (.int .i64 (N : Int))) none none).run Tryd.prog y = .ok (.slice (if c' = N then A' else A'.map (·.add (N * 1))) (r.length - N) (c' - N)) y:=fun y => slice_rest A' r.length c' N hN2 HC.out.1 y
     obtain ⟨A2,hA2⟩ : ∃ A2,A2 = (if c' = N then A' else A'.map (·.add (N * 1))):=⟨_,rfl⟩
     rw [← hA2] at hsl
     have HA2:=Lib.hid hA2
     have b3 : W3.cell? ⟨bb,0,none⟩ = some (.slice A' r.length c'):=(HB3.out.cell 0).trans rfl
     have f3:=HB3.out.frozen 0
     have HE2 : Hid ((pre ++ [(⟨cmd,pl,P,pc,code⟩ : EvR)]).map EvR.ev ++ evL g most f (r.drop N) = evs g most b):=Lib.hid (by
      have q:=HE.out
      rw [if_pos hcode] at q
      rw [List.map_append,List.append_assoc]
      exact q)
     clear hcode hN1 hN2 hA2 hB hX hd
     gi_wp2
     have hset : Blk (W3.setCell ⟨bb,0,none⟩ (.slice A2 (r.length - N) (c' - N))) bb 26 [.slice A2 (r.length - N) (c' - N)]:=HB3.out.set_ 0 _
     have hle : lenAt (W3.setCell ⟨bb,0,none⟩ (.slice A2 (r.length - N) (c' - N))) bb = r.length - N:=by
      unfold lenAt
      rw [hset.cell 0]
      rfl
     have hlw : lenAt wr bb = r.length:=by
      unfold lenAt
      rw [HBr.out.cell 0]
      rfl
     have hN1:=HN1.out;have hN2:=HN2.out;have hF:=HF.out;have hL:=HL.out;have hC:=HC.out
     have hdl : (r.drop N).length = r.length - N:=List.length_drop ..
     go_roundw
     case rel =>
      refine ⟨pre ++ [(⟨cmd,pl,P,pc,code⟩ : EvR)],f,r.drop N,A2,c' - N,?_,Lib.hid (by omega),Lib.hid (by omega),Lib.hid ⟨by omega,by omega⟩,Lib.hid (fun y hy => ?_),Lib.hid ?_,Lib.hid (HG3.out.far HD.out.1 _),Lib.hid (HM3.out.far HD.out.2 _),?_,Lib.hid (HJ.out _ _ _ HJ3.out ⟨grown_set (grown_refl _ _),fun k o h1 h2 => ?_⟩)⟩
      ·exact HE2
      ·have q:=(HR'.out y hy).drop (k:=N) (cap:=c') (by rw [List.length_map];exact hN2) (by rw [List.length_map];exact hC.1)
       rw [← HA2.out,← List.map_drop] at q
       exact q
      ·exact HK3.out.trans ⟨rfl,rfl,rfl,by rw [World.size_setCell];exact Nat.le_refl _,fun k h1 h2 h3 => Below.heap_setCell _ _ _ k (fun q => h3 (Or.inr q))⟩
      ·rw [hdl];exact Lib.hid hset
      ·by_cases hkb : k = bb
       ·subst hkb
        rw [HB3.out] at h1
        obtain rfl:=Option.some.inj h1
        cases h2
       ·exact (Below.heap_setCell _ _ _ k hkb).trans h1
     case measure => rw [hle,hlw];omega
    ·have e1 : (code != 0) = true:=by rw [bne_iff_ne];exact hcode
     have HE2 : Hid ((pre ++ [(⟨cmd,pl,P,pc,code⟩ : EvR)]).map EvR.ev = evs g most b):=Lib.hid (by
      have q:=HE.out
      rw [if_neg hcode] at q
      rw [List.map_append]
      exact q)
     clear hcode hB hX hd
     gi_wp2
     exact bodyPost_ret (results_none (by rfl) _ _ _) rfl ⟨⟨_,rfl⟩,_,HE2.out,HJ3.out⟩
end Go.Proofs.YtffpanlpbdnafaaDoor
/- frame.messages: the maker of the iterator (printed by gen_rp2.py) -/
set_option linter.unusedSimpArgs false
set_option linter.unusedVariables false
namespace Go.Proofs.YtffpanlpbdnafaaDoor
open Go.RowKit
attribute [local go_sem ↓] Go.wp_at_zero Go.wp_at_succ
theorem maker_any (g : UInt32) (most : Int) (A : Option Addr) (n c : Nat) (w : World) :
  Calls Tryd.prog 55 #[u32v g,iv most,.slice A n c] w fun e w' => e = .returned (.func (.func 68) #[] #[.pointer (some ⟨w.heap.size,0,none⟩),.pointer (some ⟨w.heap.size + 1,0,none⟩),.pointer (some ⟨w.heap.size + 2,0,none⟩)]) ∧
   (Blk w' w.heap.size 22 [u32v g]∧Blk w' (w.heap.size + 1) 3 [iv most]∧Blk w' (w.heap.size + 2) 26 [.slice A n c])∧w'.heap.size = w.heap.size + 3∧Keep w w':=by
 go_enter Tryd.func55,Tryd.ntmps55
 go_wp2
 refine bodyPost_ret (v:=.func (.func 68) #[] #[.pointer (some ⟨w.heap.size,0,none⟩),.pointer (some ⟨w.heap.size + 1,0,none⟩),.pointer (some ⟨w.heap.size + 2,0,none⟩)]) (by simp [results,Tryd.results55]) rfl ⟨rfl,⟨?_,?_,?_⟩,by simp,keep_trans (keep_new _ _) (keep_trans (keep_new _ _) (keep_new _ _))⟩
 ·exact (((Blk.new w 22 [u32v g]).alloc _).alloc _)
 ·have h2:=Blk.new (w.alloc (.cells #[u32v g] 22)) 3 [iv most]
  simp only [World.size_alloc] at h2
  exact h2.alloc _
 ·have h2:=Blk.new ((w.alloc (.cells #[u32v g] 22)).alloc (.cells #[iv most] 3)) 26 [.slice A n c]
  simp only [World.size_alloc] at h2
  exact h2
end Go.Proofs.YtffpanlpbdnafaaDoor
/- What stands in a stream, plainly. -/
set_option linter.unusedSimpArgs false
set_option linter.unusedVariables false
namespace Go.Proofs.YtffpanlpbdnafaaDoor
open Go.RowKit
def cnsE (l : List Ev) : Nat:=(l.map fun y => 24 + y.1.2.length).sum
theorem cnsE_cons (y : Ev) (l : List Ev) : cnsE (y :: l) = 24 + y.1.2.length + cnsE l:=by simp [cnsE]
theorem cnsE_app (l m : List Ev) : cnsE (l ++ m) = cnsE l + cnsE m:=by simp [cnsE]
theorem getF_len {g : UInt32} {most : Int} {b : List UInt8} (h : (getF g most b).2.2 = 0) : (getF g most b).2.1 = 24 + (getF g most b).1.2.length:=by
 have e:=(getF_ok h).2.2
 have h2:=(getF_ok h).2.1
 rw [e] at h2 ⊢
 show 24 + gsize b = 24 + (gpl b).length
 have h3 : 24 + gsize b ≤ b.length:=h2
 unfold gpl
 rw [List.length_take,List.length_drop]
 omega
theorem evL_at (g : UInt32) (most : Int) : ∀ (f : Nat) (b : List UInt8) (pre : List Ev) (x : Ev) (post : List Ev),pre ++ x :: post = evL g most f b →
  (∀ y ∈ pre,y.2 = 0)∧cnsE pre ≤ b.length∧x = ((getF g most (b.drop (cnsE pre))).1,(getF g most (b.drop (cnsE pre))).2.2)∧(x.2 = 0 → 24 + x.1.2.length ≤ (b.drop (cnsE pre)).length)∧(x.2 ≠ 0 → post = [])
 | 0,b,pre,x,post,h => by
   have : pre ++ x :: post = []:=h
   simp at this
 | f + 1,b,pre,x,post,h => by
   unfold evL at h
   cases pre with
   | nil =>
     simp only [List.nil_append,List.cons.injEq] at h
     obtain ⟨rfl,hp⟩:=h
     refine ⟨fun y hy => (by cases hy),Nat.zero_le _,rfl,fun h0 => ?_,fun h0 => ?_⟩
     ·have e1:=getF_len h0
      have e2:=(getF_ok h0).2.1
      show 24 + (getF g most (b.drop 0)).1.2.length ≤ (b.drop 0).length
      rw [List.drop_zero]
      omega
     ·rw [if_neg h0] at hp;exact hp
   | cons y pre =>
     simp only [List.cons_append,List.cons.injEq] at h
     obtain ⟨rfl,hp⟩:=h
     by_cases h0 : (getF g most b).2.2 = 0
     ·rw [if_pos h0] at hp
      obtain ⟨i1,i2,i3,i4,i5⟩:=evL_at g most f _ pre x post hp
      have e1:=getF_len h0
      have e2:=(getF_ok h0).2.1
      have ed : (b.drop (getF g most b).2.1).drop (cnsE pre) = b.drop (cnsE (((getF g most b).1,(getF g most b).2.2) :: pre)):=by
       rw [List.drop_drop,cnsE_cons]
       show b.drop ((getF g most b).2.1 + cnsE pre) = b.drop (24 + (getF g most b).1.2.length + cnsE pre)
       rw [e1]
      rw [ed] at i3 i4
      rw [List.length_drop] at i2
      refine ⟨fun z hz => ?_,?_,i3,i4,i5⟩
      ·rcases List.mem_cons.1 hz with rfl | hz
       ·exact h0
       ·exact i1 z hz
      ·rw [cnsE_cons]
       show 24 + (getF g most b).1.2.length + cnsE pre ≤ b.length
       omega
     ·rw [if_neg h0] at hp
      simp at hp
def okE (l : List Ev) : List Ev:=l.filter fun y => y.2 == 0
theorem okE_all {l : List Ev} (h : ∀ y ∈ l,y.2 = 0) : okE l = l:=by
 unfold okE
 exact List.filter_eq_self.2 fun y hy => by rw [h y hy];rfl
end Go.Proofs.YtffpanlpbdnafaaDoor
/- frame.four (printed by gen_rq.py) -/
set_option linter.unusedSimpArgs false
set_option linter.unusedVariables false
namespace Go.Proofs.YtffpanlpbdnafaaDoor
open Go.RowKit
attribute [local go_sem ↓] Go.wp_at_zero Go.wp_at_succ
set_option maxRecDepth 100000 in
set_option maxHeartbeats 4000000 in
theorem four_any (B : Nat) (v : Value) (N : Nat) (xs : List Value) (w : World) (own : w.ownsRow B 5 1 v N xs) (hB : B ≤ w.heap.size) (hN : N ≤ 900000000) (x : UInt32) :
  Calls Tryd.prog 54 #[v,u32v x] w (Apd B v (N + 4) (xs ++ (le4 x).map u8v) w):=by
 have HO:=Lib.hid own;have HB:=Lib.hid hB
 obtain ⟨a0,a1,a2,a3,hl,h0,h1,h2,h3⟩ : ∃ a0 a1 a2 a3 : UInt8,le4 x = [a0,a1,a2,a3]∧(x.toNat : Int) % 256 = (a0.toNat : Int)∧(x.toNat : Int) / 256 % 256 = (a1.toNat : Int)∧(x.toNat : Int) / 65536 % 256 = (a2.toNat : Int)∧(x.toNat : Int) / 16777216 % 256 = (a3.toNat : Int):=by
  have key : ∀ k,leE x k = ((w8 (leE x k)).toNat : Int):=fun k => w8_of (Int.emod_nonneg _ (by decide)) (by have q:=Int.emod_lt_of_pos ((x.toNat : Int) / 2 ^ (8 * k)) (by decide : (0 : Int) < 256);unfold leE;omega)
  have k0 : (x.toNat : Int) / 1 % 256 = ((w8 (leE x 0)).toNat : Int):=key 0
  rw [Int.ediv_one] at k0
  exact ⟨_,_,_,_,rfl,k0,key 1,key 2,key 3⟩
 rw [hl]
 clear own hl hB
 unfold Apd
 go_enter Tryd.func54,Tryd.ntmps54
 go_wp2_with (at_builtin;refine wpList_app byteT (by rfl) _ _ (by rfl) B _ N xs (by rfl) (HO.out.alloc _) _ 4 4 [u8v a0,u8v a1,u8v a2,u8v a3] (by rfl) (by rfl) (Rd.new _ _ _) (by simp [Value.oneCell']) (by omega) (by unfold maxLen;omega) (by have:=HB.out;simp;omega) ?_;intro v2 w2 own2 hg2 hat2;have Own2:=Lib.hid own2;have Gr2:=Lib.hid (Gr.app (Gr.of_keep (keep_new w _) v) hg2 hat2);clear own2 hg2 hat2)
 exact bodyPost_ret (v:=v2) (by simp [results,Tryd.results54]) rfl ⟨_,rfl,Own2.out,Gr2.out⟩
end Go.Proofs.YtffpanlpbdnafaaDoor
/- frame.Put (printed by gen_rpt.py) -/
set_option linter.unusedSimpArgs false
set_option linter.unusedVariables false
namespace Go.Proofs.YtffpanlpbdnafaaDoor
open Go.RowKit
attribute [local go_sem ↓] Go.wp_at_zero Go.wp_at_succ
theorem grown_setCells {b : Nat} : ∀ (vs : List Value) (o : Nat) (w w' : World),w.grownBy w' (some b) → w.grownBy (w'.setCells b o vs) (some b)
 | [],_,_,_,h => h
 | v :: r,o,w,w',h => grown_setCells r (o + 1) w _ (grown_set h)
theorem blk_setCells {b : Nat} {t : TypeId} : ∀ (vs pre cs : List Value) (w : World),Blk w b t (pre ++ cs) → vs.length ≤ cs.length → Blk (w.setCells b pre.length vs) b t (pre ++ (vs ++ cs.drop vs.length))
 | [],pre,cs,w,h,_ => by simpa [World.setCells] using h
 | v :: r,pre,[],w,h,hl => by simp at hl
 | v :: r,pre,x :: cs,w,h,hl => by
   have h1:=h.set_ pre.length v
   have e : (pre ++ x :: cs).set pre.length v = (pre ++ [v]) ++ cs:=by simp [List.set_append_right]
   rw [e] at h1
   have q:=blk_setCells r (pre ++ [v]) cs _ h1 (by simpa using hl)
   rw [List.length_append,List.length_singleton,List.append_assoc] at q
   simpa [World.setCells] using q
theorem wp_copyR {P : Program} {o : Oper} {a : Act} {w : World} {K : Act → World → Prop} {Q : Exit → Act → World → Prop} (d x : Operand) (dT sT : TypeId) (hop : o.op = Op.call { callee:=Callee.builtin Builtin.copy,args:=#[d,x],argTypes:=#[dT,sT] })
  (u v r : Value) (w' : World) (hd : a.eval d = u) (hx : a.eval x = v) (hrun : (Builtin.copy_ #[dT,sT] o.type #[u,v]).run P w = .ok r w') (hK : K (a.put o.dst r) w') : o.wp P a w K Q:=by
 unfold Oper.wp
 simp [execOp,hop,resolve,invoke,builtin,hd,hx,hrun,Result.andThen]
 exact hK
theorem Below.blk {B : Nat} {a b : World} {g : Nat} {t : TypeId} {cs : List Value} (h : Below B a b) (hb : Blk a g t cs) (hg : g < B) : Blk b g t cs:=(h.block g hg).trans hb
def putF (g : UInt32) (cmd pl : List UInt8) : List UInt8:=le4 g ++ ((cmd ++ List.replicate (12 - cmd.length) 0) ++ (le4 (UInt32.ofNat pl.length) ++ ((dblL pl).take 4 ++ pl)))
noncomputable def z12 : Array Value:=match (Tryd.prog.info? 125).bind (·.zero) with | some (.agg c) => c | _ => #[]
theorem z12_zero (w : World) : (zeroValue 125).run Tryd.prog w = .ok (.agg z12) w:=by kernel_rfl
theorem z12_list : z12.toList = (List.replicate 12 (0 : UInt8)).map u8v:=by kernel_rfl
theorem z12_letter : ∃ zs : Array Value,(∀ w,(zeroValue 125).run Tryd.prog w = .ok (.agg zs) w)∧zs.toList = (List.replicate 12 (0 : UInt8)).map u8v∧zs.size = 12∧¬ zs = #[] :=
 ⟨z12,z12_zero,z12_list,by have h:=congrArg List.length z12_list;simpa using h,fun e => by have h:=z12_list;rw [e] at h;cases h⟩
set_option maxRecDepth 100000 in
set_option maxHeartbeats 8000000 in
theorem fput_any (g : UInt32) (cmd pl : List UInt8) (A : Option Addr) (n c : Nat) (w : World) (hn : pl.length = n) (hc : n ≤ c∧c ≤ maxLen) (hbig : n ≤ 4000000) (hcmd : cmdB cmd = true) (hr : Rd w A (pl.map u8v)) (hS : ShaOk w) :
  Calls Tryd.prog 32 #[u32v g,.agg #[.string (str cmd),.slice A n c]] w fun e w' => ∃ v,e = .returned (.tuple #[v,iv 0])∧w'.ownsRow w.heap.size 5 1 v (24 + n) ((putF g cmd pl).map u8v)∧Keep w w':=by
 have CM : Hid (∀ y,Calls Tryd.prog 41 #[.string (str cmd)] y fun e w' => e = .returned (.bool true)∧Keep y w'):=Lib.hid fun y => by
  have q:=command_any cmd y
  rwa [hcmd] at q
 have hcl : 1 ≤ cmd.length∧cmd.length ≤ 12:=by
  simp only [cmdB,Bool.and_eq_true,decide_eq_true_eq] at hcmd
  exact ⟨hcmd.1.1,hcmd.1.2⟩
 have HP : Hid (putF g cmd pl = _):=Lib.hid (putF.eq_1 g cmd pl)
 generalize putF g cmd pl = BS at *
 obtain ⟨ds,hds⟩ : ∃ ds,HashA (dblL pl) ds:=⟨_,HashA.of (dblL_len _)⟩
 have HDL : Hid ((dblL pl).length = 32):=Lib.hid (dblL_len _)
 have DB : Hid (∀ y,Keep w y → Calls Tryd.prog 43 #[.slice A n c] y fun e w' => e = .returned (.agg ds)∧Keep y w'):=Lib.hid fun y hy => by
  have q:=double_any A pl c y (hS.keep hy) (hr.keep hy) (by omega) hc.2 (by omega)
  rw [hn,show hashV (dblL pl) = .agg ds from congrArg Value.agg hds.e] at q
  exact q
 have hdn:=hds.n;have hdz:=hds.z;have hdi:=hds.i
 have HDS:=Lib.hid hds
 generalize dblL pl = D at *
 obtain ⟨zs,hz0,hzl,hzz,hzn⟩:=z12_letter
 have HZL:=Lib.hid hzl;have HCL:=Lib.hid hcl;have HC:=Lib.hid hc;have HR:=Lib.hid hr;have HN:=Lib.hid hn
 have d1 : decide ((4000000 : Int) < n) = false:=decide_eq_false (by omega)
 have HB:=Lib.hid hbig
 clear hcmd hc hr hS hn hds hzl hcl hbig
 go_enter Tryd.func32,Tryd.ntmps32
 go_upto_region 1 with fail
 obtain ⟨w0,hw0⟩ : ∃ y,y = w.alloc (.cells #[.string (str cmd),.slice A n c] 71):=⟨_,rfl⟩
 have H3 : Hid (Blk w0 w.heap.size 71 [.string (str cmd),.slice A n c]):=by rw [hw0];exact Lib.hid (Blk.new w _ [.string (str cmd),.slice A n c])
 have HK0 : Hid (Keep w w0):=by rw [hw0];exact Lib.hid (keep_new _ _)
 rw [← hw0]
 clear hw0
 have r0 : w0.cell? ⟨w.heap.size,0,none⟩ = some (.string (str cmd)):=(H3.out.cell 0).trans rfl
 go_upto_region 3 with (go_at_call 41;refine (CM.out _).mono ?_;rintro e w1 ⟨rfl,k1⟩;replace H3:=Lib.hid (H3.out.keep k1);have HK1:=Lib.hid (keep_trans HK0.out k1);clear k1)
 clear r0
 have r1 : w1.cell? ⟨w.heap.size,1,none⟩ = some (.slice A n c):=(H3.out.cell 1).trans rfl
 go_upto_region 6 with fail
 obtain ⟨w2,hw2⟩ : ∃ y,y = w1.alloc (.cells zs 125):=⟨_,rfl⟩
 have hk2 : Keep w1 w2:=by rw [hw2];exact keep_new _ _
 have H6 : Hid (Blk w2 w1.heap.size 125 ((List.replicate 12 (0 : UInt8)).map u8v)):=by rw [hw2,← HZL.out];exact Lib.hid (Blk.new w1 _ zs.toList)
 rw [← hw2]
 clear hw2 r1 CM
 have hb6 : w.heap.size < w1.heap.size:=H3.out.lt
 replace H3:=Lib.hid (H3.out.keep hk2)
 have HK2:=Lib.hid (keep_trans HK1.out hk2)
 clear hk2 HK0 HK1 d1
 generalize w1.heap.size = b6 at *
 letI iM : G.Mk:=⟨some b6⟩
 refine G.wp_region_tree (.take [0,1,2] (.force [3] .done)) [] (by kernel_rfl) (by kernel_rfl) (fun wa ka => ?_)
 have hne : G.Mk.m ≠ some w.heap.size:=fun q => by have e : b6 = w.heap.size:=Option.some.inj q;omega
 have r0:=G.aftG_cell (keep_cell ka (show w2.cell? ⟨w.heap.size,0,none⟩ = some (.string (str cmd)) from (H3.out.cell 0).trans rfl)) hne
 have A3:=Lib.hid (H3.out.keep ka);have A6:=Lib.hid (H6.out.keep ka);have AK:=Lib.hid (keep_trans HK2.out ka)
 clear ka H3 H6 HK2
 refine G.mt_take wa (G.Gr.refl _) ?_
 simp only [pick_cons,pick_nil,nth_zero,nth_succ]
 repeat (go_big_quiet_step (fail))
 clear r0 hne
 refine wpQuiet_nil (G.mt_force ?_)
 simp only [pick_cons,pick_nil,nth_zero,nth_succ]
 refine G.fc_step rfl (fun K hK => ?_)
 have hcl:=HCL.out
 have hsz : (str cmd).size = cmd.length:=rfl
 have hrun:=run_copy_string (P:=Tryd.prog) wa 26 9 3 5 b6 0 12 12 (str cmd) Tryd.underlying26 u8_size (by rw [hsz];exact hcl.2) (fun j hj => by
  rw [Nat.zero_add,A6.out.cell,List.getElem?_eq_getElem (by rw [hsz] at hj;simp;omega)];rfl) (fun j hj => A6.out.frozen _)
 have hdt : ((str cmd).data.toList.map fun x => Value.int .u8 (x.toNat : Int)) = cmd.map u8v:=by
  show (cmd.toArray.toList.map fun x => Value.int .u8 (x.toNat : Int)) = cmd.map u8v
  simp
 rw [hdt] at hrun
 refine wp_copyR (.tmp 17) (.tmp 19) 26 9 rfl _ _ _ _ rfl rfl hrun ?_
 have hgr : wa.grownBy (wa.setCells b6 0 (cmd.map u8v)) (some b6):=grown_setCells _ _ _ _ (grown_refl _ _)
 have hB6 : Blk (wa.setCells b6 0 (cmd.map u8v)) b6 125 ((cmd ++ List.replicate (12 - cmd.length) 0).map u8v):=by
  have q:=blk_setCells (cmd.map u8v) [] _ wa A6.out (by simp;exact hcl.2)
  have e : cmd.map u8v ++ ((List.replicate 12 (0 : UInt8)).map u8v).drop (cmd.map u8v).length = (cmd ++ List.replicate (12 - cmd.length) 0).map u8v:=by
   rw [List.map_append,List.length_map,← List.map_drop,List.drop_replicate]
  have q2 : Blk (wa.setCells b6 0 (cmd.map u8v)) b6 125 (cmd.map u8v ++ ((List.replicate 12 (0 : UInt8)).map u8v).drop (cmd.map u8v).length):=q
  rw [e] at q2
  exact q2
 refine hK _ _ (show G.Gr wa _ from hgr) ?_
 clear hK K hrun hdt
 obtain ⟨wb,hwb⟩ : ∃ y,y = wa.setCells b6 0 (cmd.map u8v):=⟨_,rfl⟩
 rw [← hwb] at hgr hB6
 rw [← hwb]
 clear hwb
 have A3b : Hid (Blk wb w.heap.size 71 [.string (str cmd),.slice A n c]):=Lib.hid (A3.out.grown hgr (fun e => by injection e with e;omega))
 have AKb : Hid (Keep w wb):=Lib.hid (AK.out.grown hgr AK.out.size (fun q hq => by injection hq with hq;omega))
 have A6b:=Lib.hid hB6
 clear hgr hB6 A3 A6 AK hcl hsz
 refine G.fc_nil (G.mt_end ?_)
 clear iM
 have r1 : wb.cell? ⟨w.heap.size,1,none⟩ = some (.slice A n c):=(A3b.out.cell 1).trans rfl
 go_wp2_with fail
 refine (DB.out _ AKb.out).mono ?_
 clear DB r1
 rintro e w5 ⟨rfl,k5⟩
 replace A3b:=Lib.hid (A3b.out.keep k5);replace A6b:=Lib.hid (A6b.out.keep k5)
 have AK5:=Lib.hid (keep_trans AKb.out k5)
 obtain ⟨hz,hhz1,hhz2,hhz3,hhz4⟩:=zhash_letter
 have HDI:=Lib.hid hdi;have HDC:=Lib.hid hdz
 have hst : (storeCells ⟨w5.heap.size,0,none⟩ ds.toList 0).run Tryd.prog (w5.alloc (.cells hz 39)) = .ok () (w5.alloc (.cells ds 39)):=run_storeCells_new (P:=Tryd.prog) w5 39 hz ds HDI.out (hhz1.trans HDC.out.symm) (by have:=all_oneCell_toArray HDS.out.o;simpa using this)
 clear k5 AKb hhz4
 go_upto_region 8 with fail
 obtain ⟨w6,hw⟩ : ∃ y,y = w5.alloc (.cells ds 39):=⟨_,rfl⟩
 have hk6 : Keep w5 w6:=by rw [hw];exact keep_new _ _
 have A7 : Hid (Blk w6 w5.heap.size 39 (D.map u8v)):=by rw [hw,← HDS.out.l];exact Lib.hid (Blk.new w5 _ ds.toList)
 rw [← hw]
 clear hst hw
 have hb7 : b6 < w5.heap.size:=A6b.out.lt
 replace A3b:=Lib.hid (A3b.out.keep hk6);replace A6b:=Lib.hid (A6b.out.keep hk6)
 have AK6:=Lib.hid (keep_trans AK5.out hk6)
 clear hk6 AK5
 generalize w5.heap.size = b7 at *
 have r1 : w6.cell? ⟨w.heap.size,1,none⟩ = some (.slice A n c):=(A3b.out.cell 1).trans rfl
 obtain ⟨w8,hmk,own8,k8,hs8⟩:=mk_bytes0 (24 + n) (by have:=HB.out;omega) w6
 have hmk2:=hmk (24 + (n : Int)) (by omega)
 have hn63 : n ≤ 4000000:=HB.out
 clear hmk
 go_upto_region 9 with fail
 obtain ⟨B,hB⟩ : ∃ B,B = w6.heap.size:=⟨_,rfl⟩
 rw [← hB] at own8 hs8
 rw [← hB]
 have hbl8 : Below B w6 w8:=by rw [hB];exact k8
 have hbB : w.heap.size < B∧b6 < B∧b7 < B:=⟨by rw [hB];exact A3b.out.lt,by rw [hB];exact A6b.out.lt,by rw [hB];exact A7.out.lt⟩
 have BB:=Lib.hid hbB
 have OW8:=Lib.hid own8;have BL8:=Lib.hid hbl8;have HS8:=Lib.hid hs8
 have hcv : IntKind.u32.wrap (n : Int) = ((UInt32.ofNat n).toNat : Int):=by
  rw [IntKind.wrap_u32,UInt32.toNat_ofNat']
  omega
 have HCV:=Lib.hid hcv
 have BLW : Hid (∀ y,Below B w6 y → Keep w y):=Lib.hid fun y hy => AK6.out.trans (hy.mono (by have:=BB.out.1;omega))
 have HSB : Hid (B ≤ w6.heap.size):=Lib.hid (Nat.le_of_eq hB)
 clear hmk2 hcv own8 hbl8 hbB hs8 k8 r1 hb7 hB
 have LNN10 : Hid (((cmd ++ List.replicate (12 - cmd.length) 0).map u8v).length = 12 * 1):=Lib.hid (by have:=HCL.out;simp;omega)
 have LNN12 : Hid (((D.take 4).map u8v).length = 4 * 1):=Lib.hid (by have:=HDL.out;simp [this])
 have LNN13 : Hid ((pl.map u8v).length = n * 1):=Lib.hid (by have:=HN.out;simp [this])
 go_upto_region 10 with (go_at_call 54;refine (four_any B _ 0 [] w8 OW8.out (by have:=BL8.out.size;have:=HSB.out;omega) (by have:=HB.out;omega) g).mono ?_;rintro e w9 ⟨v9,rfl,ow,gr⟩;have OW9:=Lib.hid ow;have BL9:=Lib.hid (BL8.out.trans (gr.below OW8.out (by have:=BL8.out.size;have:=HSB.out;omega)));clear ow gr)
 have RS10:=Lib.hid ((Below.blk BL9.out A6b.out BB.out.2.1).rd)
 go_upto_region 11 with (at_builtin;refine wpList_app byteT (by rfl) _ _ (by rfl) B _ (0 + 4) _ (by rfl) OW9.out (some ⟨b6,0,none⟩) 12 12 ((cmd ++ List.replicate (12 - cmd.length) 0).map u8v) (by rfl) LNN10.out RS10.out (one_w8 _) (by have:=HB.out;omega) (by unfold maxLen;have:=HB.out;omega) (by have:=BL9.out.size;have:=HSB.out;omega) ?_;intro v10 w10 ow hg hat;have OW10:=Lib.hid ow;have BL10:=Lib.hid (BL9.out.trans ((Gr.app (Gr.refl w9 _) hg hat).below OW9.out (by have:=BL9.out.size;have:=HSB.out;omega)));clear ow hg hat)
 have r1 : w10.cell? ⟨w.heap.size,1,none⟩ = some (.slice A n c):=((Below.blk BL10.out A3b.out BB.out.1).cell 1).trans rfl
 have hcv:=HCV.out
 have hu : u32v (UInt32.ofNat n) = .int .u32 (n : Int):=by
  unfold u32v
  rw [← HCV.out,IntWalk.u32_in _ (by have:=HB.out;omega)]
 have F11 : Hid (Calls Tryd.prog 54 #[v10,.int .u32 (n : Int)] w10 (Apd B v10 (0 + 4 + 12 + 4) (([] ++ (le4 g).map u8v) ++ (cmd ++ List.replicate (12 - cmd.length) 0).map u8v ++ (le4 (UInt32.ofNat n)).map u8v) w10)):=Lib.hid (by
  have q:=four_any B v10 (0 + 4 + 12) _ w10 OW10.out (by have:=BL10.out.size;have:=HSB.out;omega) (by have:=HB.out;omega) (UInt32.ofNat n)
  rwa [hu] at q)
 clear hcv hu
 go_upto_region 12 with (go_at_call 54;refine F11.out.mono ?_;rintro e w11 ⟨v11,rfl,ow,gr⟩;have OW11:=Lib.hid ow;have BL11:=Lib.hid (BL10.out.trans (gr.below OW10.out (by have:=BL10.out.size;have:=HSB.out;omega)));clear ow gr)
 clear r1 F11
 have RS12:=Lib.hid ((show Rd w11 (some ⟨b7,0,none⟩) ((D.take 4).map u8v) from by rw [List.map_take];exact (Below.blk BL11.out A7.out BB.out.2.2).rd.take 4))
 go_upto_region 13 with (at_builtin;refine wpList_app byteT (by rfl) _ _ (by rfl) B _ (0 + 4 + 12 + 4) _ (by rfl) OW11.out (some ⟨b7,0,none⟩) 4 32 ((D.take 4).map u8v) (by rfl) LNN12.out RS12.out (one_w8 _) (by have:=HB.out;omega) (by unfold maxLen;have:=HB.out;omega) (by have:=BL11.out.size;have:=HSB.out;omega) ?_;intro v12 w12 ow hg hat;have OW12:=Lib.hid ow;have BL12:=Lib.hid (BL11.out.trans ((Gr.app (Gr.refl w11 _) hg hat).below OW11.out (by have:=BL11.out.size;have:=HSB.out;omega)));clear ow hg hat)
 have r1 : w12.cell? ⟨w.heap.size,1,none⟩ = some (.slice A n c):=((Below.blk BL12.out A3b.out BB.out.1).cell 1).trans rfl
 have RS13:=Lib.hid ((HR.out.keep (BLW.out _ BL12.out)))
 go_wp2_with (at_builtin;refine wpList_app byteT (by rfl) _ _ (by rfl) B _ (0 + 4 + 12 + 4 + 4) _ (by rfl) OW12.out A n c (pl.map u8v) (by rfl) LNN13.out RS13.out (one_w8 _) (by have:=HB.out;omega) (by unfold maxLen;have:=HB.out;omega) (by have:=BL12.out.size;have:=HSB.out;omega) ?_;intro v13 w13 ow hg hat;have OW13:=Lib.hid ow;have BL13:=Lib.hid (BL12.out.trans ((Gr.app (Gr.refl w12 _) hg hat).below OW12.out (by have:=BL12.out.size;have:=HSB.out;omega)));clear ow hg hat)
 have hfin : (((([] ++ (le4 g).map u8v) ++ (cmd ++ List.replicate (12 - cmd.length) 0).map u8v) ++ (le4 (UInt32.ofNat n)).map u8v) ++ (D.take 4).map u8v) ++ pl.map u8v = BS.map u8v:=by
  rw [HP.out,HN.out]
  simp
 exact bodyPost_ret (v:=.tuple #[v13,iv 0]) (by simp [results,Tryd.results32]) rfl ⟨v13,rfl,own_eq (own_base OW13.out (by have:=BB.out.1;omega)) (by omega) hfin,BLW.out _ BL13.out⟩
end Go.Proofs.YtffpanlpbdnafaaDoor
/- A frame that is put is got again, plainly. -/
set_option linter.unusedSimpArgs false
set_option linter.unusedVariables false
namespace Go.Proofs.YtffpanlpbdnafaaDoor
open Go.RowKit
theorem trimN_end (l : List UInt8) (k : Nat) : ∀ j,(∀ i,k ≤ i → i < k + j → l[i]? = some 0) → (k = 0 ∨ ∃ x,l[k - 1]? = some x∧x ≠ 0) → trimN l (k + j) = k
 | 0,_,hk => by
   rcases hk with rfl | ⟨x,h1,h2⟩
   ·rfl
   ·cases k with
    | zero => rfl
    | succ k =>
      show trimN l (k + 1) = k + 1
      unfold trimN
      rw [if_neg]
      rw [show k + 1 - 1 = k from rfl] at h1
      rw [h1]
      intro e
      exact h2 (Option.some.inj e)
 | j + 1,hz,hk => by
   show trimN l (k + j + 1) = k
   unfold trimN
   rw [if_pos (hz (k + j) (by omega) (by omega))]
   exact trimN_end l k j (fun i h1 h2 => hz i h1 (by omega)) hk
theorem putF_len {g : UInt32} {cmd pl : List UInt8} (hc : cmd.length ≤ 12) : (putF g cmd pl).length = 24 + pl.length:=by
 have h1 : (le4 g).length = 4:=rfl
 have h2 : (le4 (UInt32.ofNat pl.length)).length = 4:=rfl
 have h3:=dblL_len pl
 simp [putF,h1,h2,h3]
 omega
theorem le4_lo (n : Nat) (h : n < 4294967296) : le4 (UInt32.ofNat n) = loN n 4:=by
 have ht : (UInt32.ofNat n).toNat = n:=by rw [UInt32.toNat_ofNat'];omega
 have key : ∀ k,w8 (leE (UInt32.ofNat n) k) = UInt8.ofNat (n / 2 ^ (8 * k)):=fun k => by
  unfold w8 leE
  rw [ht]
  have e : ((n : Int) / 2 ^ (8 * k) % 256).toNat = n / 2 ^ (8 * k) % 256:=by
   have : ((n : Int) / 2 ^ (8 * k) % 256) = ((n / 2 ^ (8 * k) % 256 : Nat) : Int):=by
    rw [Int.natCast_emod,Int.natCast_ediv,Int.natCast_pow]
    exact rfl
   rw [this,Int.toNat_natCast]
  rw [e]
  apply UInt8.toNat_inj.1
  rw [UInt8.toNat_ofNat',UInt8.toNat_ofNat']
  omega
 unfold le4
 rw [key,key,key,key]
 rfl
theorem getF_put (g : UInt32) (most : Int) (cmd pl : List UInt8) (hc : cmdB cmd = true) (hp : pl.length ≤ 4000000) (hm : (pl.length : Int) ≤ bndF most) : getF g most (putF g cmd pl) = ((cmd,pl),24 + pl.length,0):=by
 have hcl : 1 ≤ cmd.length∧cmd.length ≤ 12:=by
  simp only [cmdB,Bool.and_eq_true,decide_eq_true_eq] at hc
  exact ⟨hc.1.1,hc.1.2⟩
 have hl:=putF_len (g:=g) (pl:=pl) hcl.2
 obtain ⟨pad,hpad⟩ : ∃ pad,pad = cmd ++ List.replicate (12 - cmd.length) (0 : UInt8):=⟨_,rfl⟩
 have hpl : pad.length = 12:=by rw [hpad];simp;omega
 obtain ⟨sz,hsz⟩ : ∃ sz,sz = le4 (UInt32.ofNat pl.length):=⟨_,rfl⟩
 have hsl : sz.length = 4:=by rw [hsz];rfl
 obtain ⟨sm,hsm⟩ : ∃ sm,sm = (dblL pl).take 4:=⟨_,rfl⟩
 have hml : sm.length = 4:=by rw [hsm,List.length_take,dblL_len];rfl
 have hgl : (le4 g).length = 4:=rfl
 have e0 : putF g cmd pl = le4 g ++ (pad ++ (sz ++ (sm ++ pl))):=by rw [hpad,hsz,hsm];rfl
 have d4 : (putF g cmd pl).drop 4 = pad ++ (sz ++ (sm ++ pl)):=by rw [e0,List.drop_left' hgl]
 have d16 : (putF g cmd pl).drop 16 = sz ++ (sm ++ pl):=by
  have : (putF g cmd pl).drop 16 = ((putF g cmd pl).drop 4).drop 12:=by rw [List.drop_drop]
  rw [this,d4,List.drop_left' hpl]
 have d20 : (putF g cmd pl).drop 20 = sm ++ pl:=by
  have : (putF g cmd pl).drop 20 = ((putF g cmd pl).drop 16).drop 4:=by rw [List.drop_drop]
  rw [this,d16,List.drop_left' hsl]
 have d24 : (putF g cmd pl).drop 24 = pl:=by
  have : (putF g cmd pl).drop 24 = ((putF g cmd pl).drop 20).drop 4:=by rw [List.drop_drop]
  rw [this,d20,List.drop_left' hml]
 have hcmd : gcmd (putF g cmd pl) = cmd:=by
  unfold gcmd
  rw [d4,List.take_left' hpl]
  have ht : trimN pad 12 = cmd.length:=by
   have q:=trimN_end pad cmd.length (12 - cmd.length) (fun i h1 h2 => by rw [hpad,List.getElem?_append_right h1,List.getElem?_replicate,if_pos (by omega)]) (Or.inr (by
    have hlt : cmd.length - 1 < cmd.length:=by omega
    refine ⟨cmd[cmd.length - 1],by rw [hpad,List.getElem?_append_left hlt,List.getElem?_eq_getElem hlt],fun e => ?_⟩
    simp only [cmdB,Bool.and_eq_true,List.all_eq_true,decide_eq_true_eq] at hc
    have:=(hc.2 _ (List.getElem_mem hlt)).1
    rw [e] at this
    exact absurd this (by decide)))
   rw [show cmd.length + (12 - cmd.length) = 12 from by omega] at q
   exact q
  rw [ht,hpad,List.append_assoc,List.take_left' rfl]
 have hsize : gsize (putF g cmd pl) = pl.length:=by
  unfold gsize
  rw [d16,hsz,le4_lo _ (by omega),numN_lo _ _ 4 4 (Nat.le_refl _)]
  exact Nat.mod_eq_of_lt (by omega)
 have hgpl : gpl (putF g cmd pl) = pl:=by
  unfold gpl
  rw [hsize,d24,List.take_of_length_le (Nat.le_refl _)]
 unfold getF
 rw [if_neg,if_neg (by rw [hl];omega),if_neg (by rw [hcmd,hc];decide),if_neg (by rw [hsize];omega),if_neg (by rw [hl,hsize];omega),if_neg,hcmd,hgpl,hsize]
 ·rw [hgpl,d20,List.take_left' hml,hsm]
  exact fun h => h rfl
 ·rw [e0,List.take_left' hgl,List.take_of_length_le (by rw [← e0,hl,hgl];omega)]
  exact fun h => h rfl
theorem evs_put (g : UInt32) (most : Int) (cmd pl : List UInt8) (hc : cmdB cmd = true) (hp : pl.length ≤ 4000000) (hm : (pl.length : Int) ≤ bndF most) : evs g most (putF g cmd pl) = [((cmd,pl),0),(([],[]),1)]:=by
 have hcl : cmd.length ≤ 12:=by
  simp only [cmdB,Bool.and_eq_true,decide_eq_true_eq] at hc
  exact hc.1.2
 have hl:=putF_len (g:=g) (pl:=pl) hcl
 have hg:=getF_put g most cmd pl hc hp hm
 unfold evs
 rw [hl,show 24 + pl.length + 1 = (23 + pl.length) + 1 + 1 from by omega]
 rw [evL,hg]
 simp only [if_true]
 rw [← hl,List.drop_length,evL]
 have hn : getF g most [] = (([],[]),0,1):=by
  unfold getF
  rw [if_neg (by simp),if_pos (by simp)]
 rw [hn]
 rfl
end Go.Proofs.YtffpanlpbdnafaaDoor
/- What frame.Feed's own variables hold between two rounds. -/
set_option linter.unusedSimpArgs false
set_option linter.unusedVariables false
namespace Go.Proofs.YtffpanlpbdnafaaDoor
open Go.RowKit
def EvR.mcells (x : EvR) : List Value:=[.string (str x.c),.slice x.P x.p.length x.pc]
def outE (all : List UInt8) (E : List Ev) : List UInt8 × Int:=match E.getLast? with
 | some y => if y.2 = 0 then ([],0) else if y.2 = 1 then (all.drop (cnsE (okE E)),0) else ([],y.2)
 | none => ([],0)
def okR (l : List EvR) : List EvR:=l.filter fun x => x.e == 0
def rstE (all : List UInt8) (pre : List EvR) : List UInt8:=all.drop (cnsE (okE (pre.map EvR.ev)))
def Stp (B bb : Nat) (W W' : World) : Prop:=∃ row,W.grownBy W' row∧∀ r,row = some r → r = bb ∨ (B ≤ r∧∃ o : Obj,W.heap[r]? = some o∧o.isCells = false)
section
variable {B bb : Nat} {W W' : World}
theorem Stp.blk (h : Stp B bb W W') {k : Nat} {o : Obj} (ho : W.heap[k]? = some o) (hc : o.isCells = true) (hk : k ≠ bb) : W'.heap[k]? = W.heap[k]?:=by
 obtain ⟨row,hg,hr⟩:=h
 refine hg.block k (Array.getElem?_eq_some_iff.1 ho).1 (fun e => ?_)
 rcases hr k e.symm with rfl | ⟨_,o',h1,h2⟩
 ·exact hk rfl
 ·rw [ho] at h1;cases h1;rw [hc] at h2;cases h2
theorem Stp.cell (h : Stp B bb W W') {b o : Nat} {v : Value} (hc : W.cell? ⟨b,o,none⟩ = some v) (hb : b ≠ bb) : W'.cell? ⟨b,o,none⟩ = some v:=by
 obtain ⟨ob,h1,h2⟩:=cells_of_cell hc
 exact (World.cell?_of_block (h.blk h1 h2 hb)).trans hc
theorem Stp.Blk (h : Stp B bb W W') {k : Nat} {t : TypeId} {cs : List Value} (hb : Blk W k t cs) (hk : k ≠ bb) : Blk W' k t cs:=(h.blk hb rfl hk).trans hb
theorem Stp.kx (h : Stp B bb W W') {X : Nat → Prop} (hX : X bb) {w0 : World} (hk : KX B X w0 W) : KX B X w0 W':=by
 obtain ⟨row,hg,hr⟩:=h
 refine ⟨hg.os.trans hk.os,hg.tape.trans hk.tape,hg.output.trans hk.output,Nat.le_trans hk.size hg.size,fun k h1 h2 h3 => (hg.block k (Nat.lt_of_lt_of_le h2 hk.size) (fun e => ?_)).trans (hk.block k h1 h2 h3)⟩
 rcases hr k e.symm with rfl | ⟨h4,_⟩
 ·exact h3 hX
 ·omega
theorem Stp.rdx (h : Stp B bb W W') (hB : bb < B) {row : Option Nat} {A : Option Addr} {xs : List Value} {n : Nat} (hr : RdX row W A xs) (hf : FreshA B A n) (hn : n = 0 → xs = []) : RdX row W' A xs:=by
 rcases hr with rfl | ⟨b,off,rfl,h2,h3⟩
 ·exact .inl rfl
 ·rcases hf with h0 | ⟨b',off',e,hb⟩
  ·exact .inl (hn h0)
  ·cases e
   exact .inr ⟨b,off,rfl,h2,fun j hj => h.cell (h3 j hj) (by omega)⟩
theorem Stp.own (h : Stp B bb W W') (hB : bb < B) {e : TypeId} {size : Nat} {v : Value} {n : Nat} {xs : List Value} (ho : W.ownsRow B e size v n xs) : W'.ownsRow B e size v n xs:=by
 refine ⟨ho.1,?_⟩
 rcases ho.2 with h1 | ⟨g,cap,cur,rfl,hb,hg,h4⟩
 ·exact .inl h1
 ·exact .inr ⟨g,cap,cur,rfl,hb,(h.blk hg rfl (by omega)).trans hg,h4⟩
end
def FdI (g : UInt32) (n : Int) (cl : List UInt8) (B b6 b7 b8 bb : Nat) (w7 : World) (pre : List EvR) (W : World) : Prop :=
 ∃ (A' : Option Addr) (c' : Nat) (L : Option Addr) (lc : Nat) (RA : Option Addr) (rc : Nat),
   KX B (fun k => (k = b6 ∨ k = b7 ∨ k = b8) ∨ k = bb) w7 W ∧
   (((rstE cl pre).length ≤ c'∧c' ≤ maxLen)∧Blk W b6 26 [.slice A' (rstE cl pre).length c']∧∀ y,KX B (fun k => (k = b6 ∨ k = b7 ∨ k = b8) ∨ k = bb) w7 y → Rd y A' ((rstE cl pre).map u8v)) ∧
   (Blk W b8 101 [.slice L (okR pre).length lc]∧W.ownsRow B 71 2 (.slice L (okR pre).length lc) (okR pre).length ((okR pre).flatMap EvR.mcells)) ∧
   (∀ x ∈ okR pre,(x.p.length ≤ x.pc∧x.pc ≤ maxLen)∧RdX (Value.slice L (okR pre).length lc).ownBlock W x.P (x.p.map u8v)∧FreshA B x.P x.p.length) ∧
   (Blk W b7 29 (bufL g n RA (outE cl (pre.map EvR.ev)).1.length rc (outE cl (pre.map EvR.ev)).2)∧((outE cl (pre.map EvR.ev)).1.length ≤ rc∧rc ≤ maxLen)∧RdX none W RA ((outE cl (pre.map EvR.ev)).1.map u8v)∧FreshA B RA (outE cl (pre.map EvR.ev)).1.length)
theorem FdI.stp {g : UInt32} {n : Int} {cl : List UInt8} {B b6 b7 b8 bb : Nat} {w7 : World} {pre : List EvR} {W W' : World} (hB : bb < B) (hb : b6 ≠ bb∧b7 ≠ bb∧b8 ≠ bb) (h : FdI g n cl B b6 b7 b8 bb w7 pre W) (hs : Stp B bb W W') : FdI g n cl B b6 b7 b8 bb w7 pre W':=by
 obtain ⟨A',c',L,lc,RA,rc,h1,⟨h2,h3,h4⟩,⟨h5,h6⟩,h7,h8,h9,h10,h11⟩:=h
 refine ⟨A',c',L,lc,RA,rc,hs.kx (Or.inr rfl) h1,⟨h2,hs.Blk h3 hb.1,h4⟩,⟨hs.Blk h5 hb.2.2,hs.own hB h6⟩,fun x hx => ?_,hs.Blk h8 hb.2.1,h9,?_,h11⟩
 ·obtain ⟨q1,q2,q3⟩:=h7 x hx
  exact ⟨q1,hs.rdx hB q2 q3 (fun e => by rw [List.eq_nil_of_length_eq_zero e];rfl),q3⟩
 ·exact hs.rdx hB h10 h11 (fun e => by rw [List.eq_nil_of_length_eq_zero e];rfl)
end Go.Proofs.YtffpanlpbdnafaaDoor
