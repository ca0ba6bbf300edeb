/- Texts merged by pack.py: Qb, Qc, Qd, Qe, Qf, Pa, Hgp, Pb, Pd. -/
import Derived.Test.YtffpanlpbdnafaaDoorCx7
import Derived.Test.YtffpanlpbdnafaaDoorCx3
import Derived.Test.YtffpanlpbdnafaaDoorCx4
import Derived.Test.YtffpanlpbdnafaaDoorCx6
import Derived.Test.YtffpanlpbdnafaaDoorCx2
import Derived.Deep.CutBlock
/- frame.Get of nothing, frame.Sane where nothing is left; peer.Sane, taken. -/
set_option linter.unusedSimpArgs false
set_option linter.unusedVariables false
namespace Go.Proofs.YtffpanlpbdnafaaDoor
open Go.RowKit
attribute [local go_sem ↓] Go.wp_at_zero Go.wp_at_succ
theorem fmsg_info : (Tryd.prog.info? 71).map (·.size) = some 2:=by kernel_rfl
noncomputable def zfmsg : Array Value:=match (Tryd.prog.info? 71).bind (·.zero) with | some (.agg c) => c | _ => #[]
theorem zfmsg_zero (w : World) : (zeroValue 71).run Tryd.prog w = .ok (.agg zfmsg) w:=by kernel_rfl
theorem zfmsg_size : zfmsg.size = 2:=by kernel_rfl
theorem zfmsg_one : ∀ v ∈ zfmsg.toList,v.oneCell' = true:=by
 have h : (zfmsg.toList.all fun v => v.oneCell') = true:=by kernel_rfl
 exact fun v hv => List.all_eq_true.1 h v hv
theorem zfmsg_letter : ∃ zs : Array Value,(∀ w,(zeroValue 71).run Tryd.prog w = .ok (.agg zs) w)∧zs.size = 2∧¬ zs = #[]∧(∀ v ∈ zs.toList,v.oneCell' = true) :=
 ⟨zfmsg,zfmsg_zero,zfmsg_size,(fun h => by have:=zfmsg_size;rw [h] at this;cases this),zfmsg_one⟩
set_option maxRecDepth 100000 in
set_option maxHeartbeats 4000000 in
theorem get_nil (g : UInt32) (n : Int) (A : Option Addr) (c : Nat) (w : World) :
  Calls Tryd.prog 18 #[u32v g,iv n,.slice A 0 c] w fun e w' => ∃ v,e = .returned (.tuple #[v,iv 0,iv 1])∧(∃ zs : Array Value,v = .agg zs∧zs.size = 2∧¬ zs = #[]∧(∀ u ∈ zs.toList,u.oneCell' = true))∧Keep w w':=by
 obtain ⟨zs,hz0,hzz,hzn,hzo⟩:=zfmsg_letter
 have HZO:=Lib.hid hzo
 clear hzo
 go_enter Tryd.func18,Tryd.ntmps18
 go_wp2_with fail
 go_loopw [19] (fun i wr => i = .int .i64 0∧Blk wr w.heap.size 71 zs.toList∧Keep w wr) (fun i _ => 0)
 case atStart => exact ⟨rfl,Blk.new w 71 zs.toList,keep_new w _⟩
 case round =>
  obtain ⟨rfl,hb,hkr⟩:=hrel
  have HB:=Lib.hid hb
  have HK:=Lib.hid hkr
  obtain ⟨w8,hst8,hb8,hg8⟩:=run_store_blk (P:=Tryd.prog) zs.toList hb rfl HZO.out
  have Hb8:=Lib.hid hb8;have Hg8:=Lib.hid hg8
  clear hb8 hg8 hb hkr
  go_wp2
  exact bodyPost_ret (v:=.tuple #[.agg zs,iv 0,iv 1]) (results_cell_tmp_tmp Tryd.results18 _ _ w.heap.size _ _ _ _ rfl Hb8.out Tryd.underlying71 rfl (by rw [List.size_toArray,Array.length_toList,hzz];exact fmsg_info)) rfl ⟨_,rfl,⟨zs,rfl,hzz,hzn,HZO.out⟩,HK.out.grown Hg8.out HK.out.size (fun q hq => by injection hq with hq;omega)⟩
def fsaneB (c : Int) : Bool:=decide (c = bndF c)
set_option maxRecDepth 100000 in
set_option maxHeartbeats 4000000 in
theorem fsane_nil (g : UInt32) (n : Int) (A : Option Addr) (c : Nat) (b : Int) (bs : Array Value) (h : BuA (bufL g n A 0 c b) bs) (w : World) :
  Calls Tryd.prog 29 #[.agg bs] w fun e w' => e = .returned (.bool (fsaneB n))∧Keep w w':=by
 have BN : Hid (∀ y,Calls Tryd.prog 42 #[iv n] y fun e w' => e = .returned (iv (bndF n))∧Keep y w'):=Lib.hid fun y => bounded_any n y
 have GN : Hid (∀ y,Calls Tryd.prog 18 #[u32v g,iv n,.slice A 0 c] y fun e w' => ∃ v,e = .returned (.tuple #[v,iv 0,iv 1])∧(∃ zs : Array Value,v = .agg zs∧zs.size = 2∧¬ zs = #[]∧(∀ u ∈ zs.toList,u.oneCell' = true))∧Keep y w'):=Lib.hid fun y => get_nil g n A c y
 obtain ⟨zm,hz0,hzz,hzn,hzo⟩:=zfmsg_letter
 have hbn:=h.n;have hbz:=h.z;have hbi:=h.i
 have HA:=Lib.hid h
 have HF : Hid (fsaneB n = decide (n = bndF n)):=Lib.hid rfl
 generalize fsaneB n = F at *
 generalize bndF n = B at *
 clear h hzo
 obtain ⟨d,hd⟩ : ∃ d,(n != B) = d:=⟨_,rfl⟩
 have hF : F = !d:=by rw [HF.out,← hd];simp [bne];by_cases e : n = B <;> simp [e]
 obtain ⟨p,hp⟩ : ∃ p,(b != 0) = p:=⟨_,rfl⟩
 clear HF
 go_enter Tryd.func29,Tryd.ntmps29
 go_upto_region 1 with fail
 obtain ⟨w1,hw1⟩ : ∃ w1,w1 = w.alloc (.cells bs 29):=⟨_,rfl⟩
 have HB1 : Hid (Blk w1 w.heap.size 29 (bufL g n A 0 c b)):=by rw [hw1,← HA.out.l];exact Lib.hid (Blk.new w _ bs.toList)
 have HK1 : Hid (Keep w w1):=by rw [hw1];exact Lib.hid (keep_new _ _)
 rw [← hw1]
 clear hw1
 refine wp_region_tree (.take [0,1,2,3] (.force [4] (.take [5] .done))) [] (by kernel_rfl) (by kernel_rfl) (fun w9 k9 => ?_)
 have HB9:=Lib.hid (HB1.out.keep k9)
 have HK9:=Lib.hid (keep_trans HK1.out k9)
 have q1:=aft_cell (HB9.out.cell 1)
 clear HB1 HK1 k9
 refine mt_take w9 (Below.refl _ _) ?_
 simp only [pick_cons,pick_nil,nth_zero,nth_succ]
 repeat (go_big_quiet_step (fail))
 refine wpQuiet_nil (mt_force ?_)
 simp only [pick_cons,pick_nil,nth_zero,nth_succ]
 refine fc_step rfl (fun K hK => ?_)
 go_simp
 (with_reducible refine (BN.out _).mono ?_)
 rintro e w2 ⟨rfl,k2⟩
 refine hK _ _ k2 ?_
 clear hK K BN
 have HB2:=Lib.hid (HB9.out.keep k2)
 have HK2:=Lib.hid (keep_trans HK9.out k2)
 clear HB9 HK9 k2 q1
 refine fc_nil (mt_take w2 (Below.refl _ _) ?_)
 simp only [pick_cons,pick_nil,nth_zero,nth_succ]
 repeat (go_big_quiet_step (fail))
 refine wpQuiet_nil (mt_end ?_)
 have r0 : w2.cell? ⟨w.heap.size,0,none⟩ = some (u32v g):=(HB2.out.cell 0).trans rfl
 have r1 : w2.cell? ⟨w.heap.size,1,none⟩ = some (iv n):=(HB2.out.cell 1).trans rfl
 have r2 : w2.cell? ⟨w.heap.size,2,none⟩ = some (.slice A 0 c):=(HB2.out.cell 2).trans rfl
 have r3 : w2.cell? ⟨w.heap.size,3,none⟩ = some (iv b):=(HB2.out.cell 3).trans rfl
 cases d
 ·cases p
  ·go_wp2_with fail
   refine (GN.out _).mono ?_
   clear GN r0 r1 r2 r3
   rintro e w3 ⟨v,rfl,⟨zs,rfl,hvz,hvn,hvo⟩,k3⟩
   have HK3:=Lib.hid (keep_trans HK2.out k3)
   clear HK2 k3 HB2
   have hst : ∀ ww : World,(storeCells ⟨ww.heap.size,0,none⟩ zs.toList 0).run Tryd.prog (ww.alloc (.cells zm 71)) = .ok () (ww.alloc (.cells zs 71)):=fun ww =>
    run_storeCells_new (P:=Tryd.prog) ww 71 zm zs (by rw [hvz];exact fmsg_info) (by rw [hzz,hvz]) (by have:=all_oneCell_toArray hvo;rwa [Array.toArray_toList] at this)
   clear hvo
   go_wp2
   exact bodyPost_ret (v:=.bool F) (by simp [results,Tryd.results29,hF]) rfl ⟨rfl,keep_trans HK3.out (keep_new _ _)⟩
  ·go_wp2
   exact bodyPost_ret (v:=.bool F) (by simp [results,Tryd.results29,hF]) rfl ⟨rfl,HK2.out⟩
 ·go_wp2
  exact bodyPost_ret (v:=.bool F) (by simp [results,Tryd.results29,hF]) rfl ⟨rfl,HK2.out⟩
end Go.Proofs.YtffpanlpbdnafaaDoor
/- peer.Sane, taken (where nothing is left of a stream). -/
set_option linter.unusedSimpArgs false
set_option linter.unusedVariables false
namespace Go.Proofs.YtffpanlpbdnafaaDoor
open Go.RowKit
attribute [local go_sem ↓] Go.wp_at_zero Go.wp_at_succ
def saneP (p : PeR) : Bool:=decide (0 ≤ p.stage∧p.stage ≤ 3) && decide (0 ≤ p.misses∧p.misses ≤ 3) && (decide (0 ≤ p.until_) && !decide (1099511627776 < p.until_)) && (!p.asked || p.stage == 2) && fsaneB p.cap
set_option maxRecDepth 100000 in
set_option maxHeartbeats 4000000 in
theorem psane_any (p : PeR) (cs : Array Value) (hA : PeA p cs) (hr : p.rs = []) (w : World) :
  Calls Tryd.prog 12 #[.agg cs] w fun e w' => e = .returned (.bool (saneP p))∧Keep w w':=by
 obtain ⟨bs,hbs⟩ : ∃ bs,BuA (bufL p.magic p.cap p.rA 0 p.rc p.bad) bs:=⟨_,BuA.of ..⟩
 have FS : Hid (∀ y,Calls Tryd.prog 29 #[.agg bs] y fun e w' => e = .returned (.bool (fsaneB p.cap))∧Keep y w'):=Lib.hid fun y => fsane_nil _ _ _ _ _ bs hbs y
 have hcn:=hA.n;have hcz:=hA.z;have hci:=hA.i
 have hbn:=hbs.n;have hbz:=hbs.z;have hbi:=hbs.i
 have HS : Hid (saneP p = (decide (0 ≤ p.stage∧p.stage ≤ 3) && decide (0 ≤ p.misses∧p.misses ≤ 3) && (decide (0 ≤ p.until_) && !decide (1099511627776 < p.until_)) && (!p.asked || p.stage == 2) && fsaneB p.cap)):=Lib.hid rfl
 have HA:=Lib.hid hA
 have HBC : Hid (p.cells = [iv p.stage,u64v p.nonce,u32v p.height,.bool p.asked,iv p.until_,iv p.misses] ++ bs.toList):=by
  rw [hbs.l];unfold PeR.cells bufL;rw [hr];exact Lib.hid rfl
 clear hA hbs hr
 generalize saneP p = S at *
 generalize fsaneB p.cap = F at *
 go_enter Tryd.func12,Tryd.ntmps12
 go_upto_region 1 with fail
 obtain ⟨w1,hw1⟩ : ∃ w1,w1 = w.alloc (.cells cs 31):=⟨_,rfl⟩
 have HB1 : Hid (Blk w1 w.heap.size 31 p.cells):=by rw [hw1,← HA.out.l];exact Lib.hid (Blk.new w _ cs.toList)
 have HK1 : Hid (Keep w w1):=by rw [hw1];exact Lib.hid (keep_new _ _)
 rw [← hw1]
 clear hw1
 have r0 : w1.cell? ⟨w.heap.size,0,none⟩ = some (iv p.stage):=(HB1.out.cell 0).trans rfl
 have r3 : w1.cell? ⟨w.heap.size,3,none⟩ = some (.bool p.asked):=(HB1.out.cell 3).trans rfl
 have r4 : w1.cell? ⟨w.heap.size,4,none⟩ = some (iv p.until_):=(HB1.out.cell 4).trans rfl
 have r5 : w1.cell? ⟨w.heap.size,5,none⟩ = some (iv p.misses):=(HB1.out.cell 5).trans rfl
 have RB : Hid (w1.rangeAt w.heap.size 6 bs.toList):=Lib.hid (range_of HB1.out 6 bs.toList (by rw [HBC.out];simp [List.take_of_length_le]))
 clear HB1 HBC
 generalize p.stage = st at *
 generalize p.asked = ak at *
 generalize p.until_ = un at *
 generalize p.misses = mi at *
 by_cases h0 : st < 0
 ·have hS : S = false:=by rw [HS.out,show decide (0 ≤ st∧st ≤ 3) = false from by simp;omega];rfl
  go_wp2
  exact bodyPost_ret (v:=.bool false) (by simp [results,Tryd.results12]) rfl ⟨by first | rfl | rw [hS],HK1.out⟩
 by_cases h1 : 3 < st
 ·have hS : S = false:=by rw [HS.out,show decide (0 ≤ st∧st ≤ 3) = false from by simp;omega];rfl
  go_wp2
  exact bodyPost_ret (v:=.bool false) (by simp [results,Tryd.results12]) rfl ⟨by first | rfl | rw [hS],HK1.out⟩
 have e1 : decide (0 ≤ st∧st ≤ 3) = true:=by rw [decide_eq_true_eq];omega
 by_cases h2 : mi < 0
 ·have hS : S = false:=by rw [HS.out,e1,show decide (0 ≤ mi∧mi ≤ 3) = false from by simp;omega];rfl
  go_wp2
  exact bodyPost_ret (v:=.bool false) (by simp [results,Tryd.results12]) rfl ⟨by first | rfl | rw [hS],HK1.out⟩
 by_cases h3 : 3 < mi
 ·have hS : S = false:=by rw [HS.out,e1,show decide (0 ≤ mi∧mi ≤ 3) = false from by simp;omega];rfl
  go_wp2
  exact bodyPost_ret (v:=.bool false) (by simp [results,Tryd.results12]) rfl ⟨by first | rfl | rw [hS],HK1.out⟩
 have e2 : decide (0 ≤ mi∧mi ≤ 3) = true:=by rw [decide_eq_true_eq];omega
 by_cases h4 : un < 0
 ·have hS : S = false:=by rw [HS.out,e1,e2,show decide (0 ≤ un) = false from by simp;omega];rfl
  go_wp2
  exact bodyPost_ret (v:=.bool false) (by simp [results,Tryd.results12]) rfl ⟨by first | rfl | rw [hS],HK1.out⟩
 have e4 : decide (0 ≤ un) = true:=by rw [decide_eq_true_eq];omega
 obtain ⟨u,hu⟩ : ∃ u,decide (1099511627776 < un) = u:=⟨_,rfl⟩
 have HS2 : Hid (S = (!u && (!ak || st == 2) && F)):=by rw [HS.out,e1,e2,e4,hu];exact Lib.hid (by simp)
 clear HS e1 e2 e4
 cases u
 ·by_cases hk : ak = true
  ·subst hk
   by_cases h6 : st = 2
   ·subst h6
    go_wp2_with ((with_reducible refine load_partg w.heap.size 6 bs (Eq.trans ?_ rfl) RB.out _ Tryd.underlying29 rfl hbi rfl ?_);rfl)
    refine (FS.out _).mono ?_
    clear FS r0 r3 r4 r5
    rintro e w3 ⟨rfl,k3⟩
    have HK3:=Lib.hid (keep_trans HK1.out k3)
    clear k3
    go_wp2
    exact bodyPost_ret (v:=.bool F) (by simp [results,Tryd.results12]) rfl ⟨by rw [HS2.out];simp,HK3.out⟩
   ·have d6 : (st != 2) = true:=by simpa [bne_iff_ne] using h6
    have hS : S = false:=by rw [HS2.out];simp [h6]
    clear h6
    go_wp2
    exact bodyPost_ret (v:=.bool false) (by simp [results,Tryd.results12]) rfl ⟨by first | rfl | rw [hS],HK1.out⟩
  ·have hk : ak = false:=by simpa using hk
   subst hk
   go_wp2_with ((with_reducible refine load_partg w.heap.size 6 bs (Eq.trans ?_ rfl) RB.out _ Tryd.underlying29 rfl hbi rfl ?_);rfl)
   refine (FS.out _).mono ?_
   clear FS r0 r3 r4 r5
   rintro e w3 ⟨rfl,k3⟩
   have HK3:=Lib.hid (keep_trans HK1.out k3)
   clear k3
   go_wp2
   exact bodyPost_ret (v:=.bool F) (by simp [results,Tryd.results12]) rfl ⟨by rw [HS2.out];simp,HK3.out⟩
 ·have hS : S = false:=by rw [HS2.out];rfl
  go_wp2
  exact bodyPost_ret (v:=.bool false) (by simp [results,Tryd.results12]) rfl ⟨by first | rfl | rw [hS],HK1.out⟩
end Go.Proofs.YtffpanlpbdnafaaDoor
/- peer.taken (where nothing is left of a stream). -/
set_option linter.unusedSimpArgs false
set_option linter.unusedVariables false
namespace Go.Proofs.YtffpanlpbdnafaaDoor
open Go.RowKit
attribute [local go_sem ↓] Go.wp_at_zero Go.wp_at_succ
def takenP (p : PeR) : PeR:=if saneP p then p else newP p.magic p.cap
set_option maxRecDepth 100000 in
set_option maxHeartbeats 4000000 in
theorem ptaken_any (p : PeR) (cs : Array Value) (hA : PeA p cs) (hr : p.rs = []) (w : World) :
  Calls Tryd.prog 26 #[.agg cs] w fun e w' => ∃ ds,e = .returned (.agg ds)∧PeA (takenP p) ds∧Keep w w':=by
 obtain ⟨zs,hz0,hzA⟩:=zpeer_letter
 have PS : Hid (∀ y,Calls Tryd.prog 12 #[.agg cs] y fun e w' => e = .returned (.bool (saneP p))∧Keep y w'):=Lib.hid fun y => psane_any p cs hA hr y
 have PN : Hid (∀ y,Calls Tryd.prog 9 #[u32v p.magic,iv p.cap] y fun e w' => ∃ ps,e = .returned (.agg ps)∧PeA (newP p.magic p.cap) ps∧Keep y w'):=Lib.hid fun y => pnew_any _ _ y
 have HT : Hid (takenP p = if saneP p then p else newP p.magic p.cap):=Lib.hid rfl
 have hcn:=hA.n;have hcz:=hA.z;have hci:=hA.i
 have hzn:=hzA.n;have hzz:=hzA.z
 have HA:=Lib.hid hA;have HZ:=Lib.hid hzA
 clear hA hzA hr
 generalize takenP p = T at *
 generalize saneP p = S at *
 generalize newP p.magic p.cap = N at *
 go_enter Tryd.func26,Tryd.ntmps26
 go_upto_region 1 with fail
 obtain ⟨w1,hw1⟩ : ∃ w1,w1 = (w.alloc (.cells cs 31)).alloc (.cells zs 31):=⟨_,rfl⟩
 have HB1 : Hid (Blk w1 w.heap.size 31 cs.toList):=by rw [hw1];exact Lib.hid ((Blk.new w _ cs.toList).alloc _)
 have HR1 : Hid (Blk w1 (w.heap.size + 1) 31 zs.toList):=by
  rw [hw1]
  have h2:=Blk.new (w.alloc (.cells cs 31)) 31 zs.toList
  rw [World.size_alloc] at h2
  exact Lib.hid h2
 have HK1 : Hid (Keep w w1):=by rw [hw1];exact Lib.hid (keep_trans (keep_new _ _) (keep_new _ _))
 rw [← hw1]
 clear hw1
 go_wp2_with ((with_reducible refine load_arr w.heap.size cs (Eq.trans ?_ rfl) HB1.out _ Tryd.underlying31 rfl hci ?_);rfl)
 refine (PS.out _).mono ?_
 clear PS
 rintro e w2 ⟨rfl,k2⟩
 have HB2:=Lib.hid (HB1.out.keep k2)
 have HR2:=Lib.hid (HR1.out.keep k2)
 have HK2:=Lib.hid (keep_trans HK1.out k2)
 clear k2 HB1 HR1 HK1
 have HBp : Hid (Blk w2 w.heap.size 31 p.cells):=by rw [← HA.out.l];exact HB2
 cases S
 ·have r6 : w2.cell? ⟨w.heap.size,6,none⟩ = some (u32v p.magic):=(HBp.out.cell 6).trans rfl
  have r7 : w2.cell? ⟨w.heap.size,7,none⟩ = some (iv p.cap):=(HBp.out.cell 7).trans rfl
  go_wp2_with fail
  refine (PN.out _).mono ?_
  clear PN r6 r7
  rintro e w3 ⟨ps,rfl,hpA,k3⟩
  have hpn:=hpA.n;have hpz:=hpA.z;have hpi:=hpA.i
  have HP:=Lib.hid hpA
  have HK3:=Lib.hid (keep_trans HK2.out k3)
  obtain ⟨w8,hst8,hb8,hg8⟩:=run_store_blk (P:=Tryd.prog) ps.toList (HR2.out.keep k3) (by rw [Array.length_toList,Array.length_toList,hzz,hpz]) hpA.o
  have Hb8:=Lib.hid hb8;have Hg8:=Lib.hid hg8
  clear hb8 hg8 hpA k3 HB2 HR2 HK2 HBp
  go_wp2
  exact bodyPost_ret (v:=.agg ps) (results_cell_row Tryd.results26 _ _ (w.heap.size + 1) _ _ _ _ rfl Hb8.out Tryd.underlying31 rfl (by rw [List.size_toArray,Array.length_toList];exact hpi)) rfl ⟨ps,rfl,by rw [HT.out];exact HP.out,HK3.out.grown Hg8.out HK3.out.size (fun q hq => by injection hq with hq;omega)⟩
 ·obtain ⟨w8,hst8,hb8,hg8⟩:=run_store_blk (P:=Tryd.prog) cs.toList HR2.out (by rw [Array.length_toList,Array.length_toList,hzz,hcz]) HA.out.o
  have Hb8:=Lib.hid hb8;have Hg8:=Lib.hid hg8
  clear hb8 hg8 HR2 HBp
  go_wp2_with ((with_reducible refine load_arr w.heap.size cs (Eq.trans ?_ rfl) HB2.out _ Tryd.underlying31 rfl hci ?_);rfl)
  exact bodyPost_ret (v:=.agg cs) (results_cell_row Tryd.results26 _ _ (w.heap.size + 1) _ _ _ _ rfl Hb8.out Tryd.underlying31 rfl (by rw [List.size_toArray,Array.length_toList];exact hci)) rfl ⟨cs,rfl,by rw [HT.out];exact HA.out,HK2.out.grown Hg8.out HK2.out.size (fun q hq => by injection hq with hq;omega)⟩
end Go.Proofs.YtffpanlpbdnafaaDoor
/- peer.Ask (printed by gen_qe.py) -/
set_option linter.unusedSimpArgs false
set_option linter.unusedVariables false
namespace Go.Proofs.YtffpanlpbdnafaaDoor
open Go.RowKit
attribute [local go_sem ↓] Go.wp_at_zero Go.wp_at_succ
def askP (p : PeR) (now wait : Int) : PeR × Bool:=if (takenP p).stage = 2∧(takenP p).asked = false then ({ takenP p with asked:=true,until_:=now + wait },true) else (takenP p,false)
set_option maxRecDepth 100000 in
set_option maxHeartbeats 4000000 in
theorem ask_any (p : PeR) (cs : Array Value) (hA : PeA p cs) (hr : p.rs = []) (now wait : Int) (h1 : 0 ≤ now∧now ≤ 549755813888) (h2 : 0 ≤ wait∧wait ≤ 549755813888) (w : World) :
  Calls Tryd.prog 10 #[.agg cs,iv now,iv wait] w fun e w' => ∃ ds,e = .returned (.tuple #[.agg ds,.bool (askP p now wait).2])∧PeA (askP p now wait).1 ds∧Keep w w':=by
 have HT : Hid (askP p now wait = if (takenP p).stage = 2∧(takenP p).asked = false then ({ takenP p with asked:=true,until_:=now + wait },true) else (takenP p,false)):=Lib.hid rfl
 have a1 : ¬ now < 0:=by omega
 have b1 : ¬ wait < 0:=by omega
 have a2 : decide (549755813888 < now) = false:=by rw [decide_eq_false_iff_not];omega
 have b2 : decide (549755813888 < wait) = false:=by rw [decide_eq_false_iff_not];omega
 have hs : (now + wait) % 18446744073709551616 = now + wait:=by omega
 have E1 : Hid ((if 549755813888 < now then 549755813888 else now) = now):=Lib.hid (if_neg (by omega))
 have E2 : Hid ((if 549755813888 < wait then 549755813888 else wait) = wait):=Lib.hid (if_neg (by omega))
 clear h1 h2 hs a2 b2
 generalize askP p now wait = R at *
 obtain ⟨zs,hz0,hzA⟩:=zpeer_letter
 have TK : Hid (∀ y,Calls Tryd.prog 26 #[.agg cs] y fun e w' => ∃ ds,e = .returned (.agg ds)∧PeA (takenP p) ds∧Keep y w'):=Lib.hid fun y => ptaken_any p cs hA hr y
 have hcn:=hA.n;have hcz:=hA.z;have hci:=hA.i
 have hzn:=hzA.n;have hzz:=hzA.z
 have HA:=Lib.hid hA;have HZ:=Lib.hid hzA
 clear hA hzA hr
 generalize takenP p = q at *
 go_enter Tryd.func10,Tryd.ntmps10
 go_upto_region 1 with fail
 obtain ⟨w1,hw1⟩ : ∃ w1,w1 = (w.alloc (.cells cs 31)).alloc (.cells zs 31):=⟨_,rfl⟩
 have HB1 : Hid (Blk w1 w.heap.size 31 cs.toList):=by rw [hw1];exact Lib.hid ((Blk.new w _ cs.toList).alloc _)
 have HR1 : Hid (Blk w1 (w.heap.size + 1) 31 zs.toList):=by
  rw [hw1]
  have h2:=Blk.new (w.alloc (.cells cs 31)) 31 zs.toList
  rw [World.size_alloc] at h2
  exact Lib.hid h2
 have HK1 : Hid (Keep w w1):=by rw [hw1];exact Lib.hid (keep_trans (keep_new _ _) (keep_new _ _))
 rw [← hw1]
 clear hw1
 go_wp2_with ((with_reducible refine load_arr w.heap.size cs (Eq.trans ?_ rfl) HB1.out _ Tryd.underlying31 rfl hci ?_);rfl)
 refine (TK.out _).mono ?_
 clear TK
 rintro e w2 ⟨qs,rfl,hqA,k2⟩
 have hqn:=hqA.n;have hqz:=hqA.z;have hqi:=hqA.i
 have HQ:=Lib.hid hqA
 have HR2:=Lib.hid (HR1.out.keep k2)
 have HK2:=Lib.hid (keep_trans HK1.out k2)
 obtain ⟨w3,hst3,hb3,hg3⟩:=run_store_blk (P:=Tryd.prog) qs.toList (HB1.out.keep k2) (by rw [Array.length_toList,Array.length_toList,hcz,hqz]) HQ.out.o
 have HB3 : Hid (Blk w3 w.heap.size 31 q.cells):=by rw [← HQ.out.l];exact Lib.hid hb3
 have HBc3 : Hid (Blk w3 w.heap.size 31 qs.toList):=Lib.hid hb3
 have HR3 : Hid (Blk w3 (w.heap.size + 1) 31 zs.toList):=Lib.hid (HR2.out.grown hg3 (fun e => by injection e with e;omega))
 have HK3 : Hid (Keep w w3):=Lib.hid (HK2.out.grown hg3 HK2.out.size (fun q hq => by injection hq with hq;omega))
 clear k2 HB1 HR1 HK1 HR2 HK2 hqA hb3 hg3
 go_upto_region 2 with fail
 clear hst3
 have r0 : w3.cell? ⟨w.heap.size,0,none⟩ = some (iv q.stage):=(HB3.out.cell 0).trans rfl
 have r3 : w3.cell? ⟨w.heap.size,3,none⟩ = some (.bool q.asked):=(HB3.out.cell 3).trans rfl
 by_cases h0 : q.stage = 2
 ·have d0 : (q.stage != 2) = false:=by rw [h0];rfl
  by_cases hk : q.asked = true
  ·have hR : R = (q,false):=by rw [HT.out];simp [hk]
   rw [hk] at r3
   clear h0
   obtain ⟨w8,hst8,hb8,hg8⟩:=run_store_blk (P:=Tryd.prog) qs.toList HR3.out (by rw [Array.length_toList,Array.length_toList,hzz,HQ.out.z]) HQ.out.o
   have Hb8:=Lib.hid hb8;have Hg8:=Lib.hid hg8
   have hdi8:=HQ.out.i
   have hdn8:=HQ.out.n
   have hdz8:=HQ.out.z
   clear hb8 hg8 HT
   go_wp2_with ((with_reducible refine load_arr w.heap.size qs (Eq.trans ?_ rfl) HBc3.out _ Tryd.underlying31 rfl hdi8 ?_);rfl)
   exact bodyPost_ret (v:=.tuple #[.agg qs,.bool false]) (results_cell_tmp_row Tryd.results10 _ _ (w.heap.size + 1) _ _ _ _ rfl Hb8.out Tryd.underlying31 rfl (by rw [List.size_toArray,Array.length_toList];exact hdi8)) rfl ⟨qs,by rw [hR],by rw [hR];exact HQ.out,HK3.out.grown Hg8.out HK3.out.size (fun q hq => by injection hq with hq;omega)⟩
  ·have hk : q.asked = false:=by simpa using hk
   have hR : R = ({ q with asked:=true,until_:=now + wait },true):=by rw [HT.out];simp [hk,h0]
   have HRR:=Lib.hid hR
   rw [hk] at r3
   clear h0 HT hR
   have r4 : w3.cell? ⟨w.heap.size,4,none⟩ = some (iv q.until_):=(HB3.out.cell 4).trans rfl
   have f3:=HB3.out.frozen 3
   have f4:=HB3.out.frozen 4
   go_upto_region 6 with fail
   rw [E1.out,E2.out]
   obtain ⟨wx,hwx⟩ : ∃ wx,wx = ((w3.setCell ⟨w.heap.size,3,none⟩ (.bool true)).setCell ⟨w.heap.size,4,none⟩ (.int .i64 (now + wait))):=⟨_,rfl⟩
   have HX : Blk wx w.heap.size 31 ({ q with asked:=true,until_:=now + wait }).cells:=by rw [hwx];exact ((HB3.out.set_ 3 (.bool true)).set_ 4 (.int .i64 (now + wait)))
   have HRX : Hid (Blk wx (w.heap.size + 1) 31 zs.toList):=by rw [hwx];exact Lib.hid ((HR3.out.far (by simp <;> omega) _).far (by simp <;> omega) _)
   have HKX : Hid (Keep w wx):=by rw [hwx];exact Lib.hid (Below.setCell (Below.setCell HK3.out (by simp <;> omega) _) (by simp <;> omega) _)
   rw [← hwx]
   clear hwx r0 r3 r4 f3 f4
   obtain ⟨ds,hds⟩ : ∃ ds,PeA ({ q with asked:=true,until_:=now + wait }) ds:=⟨_,PeA.of _⟩
   have HDS:=Lib.hid hds
   have HBx : Hid (Blk wx w.heap.size 31 ds.toList):=by rw [HDS.out.l];exact Lib.hid HX
   clear hds HX HR3 HK3 HB3 HBc3
   obtain ⟨w8,hst8,hb8,hg8⟩:=run_store_blk (P:=Tryd.prog) ds.toList HRX.out (by rw [Array.length_toList,Array.length_toList,hzz,HDS.out.z]) HDS.out.o
   have Hb8:=Lib.hid hb8;have Hg8:=Lib.hid hg8
   have hdi8:=HDS.out.i
   have hdn8:=HDS.out.n
   have hdz8:=HDS.out.z
   clear hb8 hg8
   go_wp2_with ((with_reducible refine load_arr w.heap.size ds (Eq.trans ?_ rfl) HBx.out _ Tryd.underlying31 rfl hdi8 ?_);rfl)
   exact bodyPost_ret (v:=.tuple #[.agg ds,.bool true]) (results_cell_tmp_row Tryd.results10 _ _ (w.heap.size + 1) _ _ _ _ rfl Hb8.out Tryd.underlying31 rfl (by rw [List.size_toArray,Array.length_toList];exact hdi8)) rfl ⟨ds,by rw [HRR.out],by rw [HRR.out];exact HDS.out,HKX.out.grown Hg8.out HKX.out.size (fun q hq => by injection hq with hq;omega)⟩
 ·have d0 : (q.stage != 2) = true:=by simpa [bne_iff_ne] using h0
  have hR : R = (q,false):=by rw [HT.out];simp [h0]
  clear h0
  obtain ⟨w8,hst8,hb8,hg8⟩:=run_store_blk (P:=Tryd.prog) qs.toList HR3.out (by rw [Array.length_toList,Array.length_toList,hzz,HQ.out.z]) HQ.out.o
  have Hb8:=Lib.hid hb8;have Hg8:=Lib.hid hg8
  have hdi8:=HQ.out.i
  have hdn8:=HQ.out.n
  have hdz8:=HQ.out.z
  clear hb8 hg8 HT
  go_wp2_with ((with_reducible refine load_arr w.heap.size qs (Eq.trans ?_ rfl) HBc3.out _ Tryd.underlying31 rfl hdi8 ?_);rfl)
  exact bodyPost_ret (v:=.tuple #[.agg qs,.bool false]) (results_cell_tmp_row Tryd.results10 _ _ (w.heap.size + 1) _ _ _ _ rfl Hb8.out Tryd.underlying31 rfl (by rw [List.size_toArray,Array.length_toList];exact hdi8)) rfl ⟨qs,by rw [hR],by rw [hR];exact HQ.out,HK3.out.grown Hg8.out HK3.out.size (fun q hq => by injection hq with hq;omega)⟩
end Go.Proofs.YtffpanlpbdnafaaDoor
/- peer.Tick (printed by gen_qe.py) -/
set_option linter.unusedSimpArgs false
set_option linter.unusedVariables false
namespace Go.Proofs.YtffpanlpbdnafaaDoor
open Go.RowKit
attribute [local go_sem ↓] Go.wp_at_zero Go.wp_at_succ
def tickP (p : PeR) (now : Int) : PeR × Bool :=
 if (takenP p).asked = true∧(takenP p).until_ < now then
  if 2 ≤ (takenP p).misses then ({ takenP p with asked:=false,misses:=3 }.ban,true) else ({ takenP p with asked:=false,misses:=(takenP p).misses + 1 },true)
 else (takenP p,false)
theorem taken_miss (p : PeR) : 0 ≤ (takenP p).misses∧(takenP p).misses ≤ 3:=by
 unfold takenP
 split
 ·rename_i h
  simp only [saneP,Bool.and_eq_true,decide_eq_true_eq] at h
  exact h.1.1.1.2
 ·exact ⟨by show (0:Int) ≤ 0;decide,by show (0:Int) ≤ 3;decide⟩
set_option maxRecDepth 100000 in
set_option maxHeartbeats 4000000 in
theorem tick_any (p : PeR) (cs : Array Value) (hA : PeA p cs) (hr : p.rs = []) (now : Int) (w : World) :
  Calls Tryd.prog 11 #[.agg cs,iv now] w fun e w' => ∃ ds,e = .returned (.tuple #[.agg ds,.bool (tickP p now).2])∧PeA (tickP p now).1 ds∧Keep w w':=by
 have HT : Hid (tickP p now = if (takenP p).asked = true∧(takenP p).until_ < now then
  if 2 ≤ (takenP p).misses then ({ takenP p with asked:=false,misses:=3 }.ban,true) else ({ takenP p with asked:=false,misses:=(takenP p).misses + 1 },true)
 else (takenP p,false)):=Lib.hid rfl
 have HM:=Lib.hid (taken_miss p)
 generalize tickP p now = R at *
 obtain ⟨zs,hz0,hzA⟩:=zpeer_letter
 have TK : Hid (∀ y,Calls Tryd.prog 26 #[.agg cs] y fun e w' => ∃ ds,e = .returned (.agg ds)∧PeA (takenP p) ds∧Keep y w'):=Lib.hid fun y => ptaken_any p cs hA hr y
 have hcn:=hA.n;have hcz:=hA.z;have hci:=hA.i
 have hzn:=hzA.n;have hzz:=hzA.z
 have HA:=Lib.hid hA;have HZ:=Lib.hid hzA
 clear hA hzA hr
 generalize takenP p = q at *
 go_enter Tryd.func11,Tryd.ntmps11
 go_upto_region 1 with fail
 obtain ⟨w1,hw1⟩ : ∃ w1,w1 = (w.alloc (.cells cs 31)).alloc (.cells zs 31):=⟨_,rfl⟩
 have HB1 : Hid (Blk w1 w.heap.size 31 cs.toList):=by rw [hw1];exact Lib.hid ((Blk.new w _ cs.toList).alloc _)
 have HR1 : Hid (Blk w1 (w.heap.size + 1) 31 zs.toList):=by
  rw [hw1]
  have h2:=Blk.new (w.alloc (.cells cs 31)) 31 zs.toList
  rw [World.size_alloc] at h2
  exact Lib.hid h2
 have HK1 : Hid (Keep w w1):=by rw [hw1];exact Lib.hid (keep_trans (keep_new _ _) (keep_new _ _))
 rw [← hw1]
 clear hw1
 go_wp2_with ((with_reducible refine load_arr w.heap.size cs (Eq.trans ?_ rfl) HB1.out _ Tryd.underlying31 rfl hci ?_);rfl)
 refine (TK.out _).mono ?_
 clear TK
 rintro e w2 ⟨qs,rfl,hqA,k2⟩
 have hqn:=hqA.n;have hqz:=hqA.z;have hqi:=hqA.i
 have HQ:=Lib.hid hqA
 have HR2:=Lib.hid (HR1.out.keep k2)
 have HK2:=Lib.hid (keep_trans HK1.out k2)
 obtain ⟨w3,hst3,hb3,hg3⟩:=run_store_blk (P:=Tryd.prog) qs.toList (HB1.out.keep k2) (by rw [Array.length_toList,Array.length_toList,hcz,hqz]) HQ.out.o
 have HB3 : Hid (Blk w3 w.heap.size 31 q.cells):=by rw [← HQ.out.l];exact Lib.hid hb3
 have HBc3 : Hid (Blk w3 w.heap.size 31 qs.toList):=Lib.hid hb3
 have HR3 : Hid (Blk w3 (w.heap.size + 1) 31 zs.toList):=Lib.hid (HR2.out.grown hg3 (fun e => by injection e with e;omega))
 have HK3 : Hid (Keep w w3):=Lib.hid (HK2.out.grown hg3 HK2.out.size (fun q hq => by injection hq with hq;omega))
 clear k2 HB1 HR1 HK1 HR2 HK2 hqA hb3 hg3
 go_upto_region 2 with fail
 clear hst3
 have r3 : w3.cell? ⟨w.heap.size,3,none⟩ = some (.bool q.asked):=(HB3.out.cell 3).trans rfl
 have r4 : w3.cell? ⟨w.heap.size,4,none⟩ = some (iv q.until_):=(HB3.out.cell 4).trans rfl
 have r5 : w3.cell? ⟨w.heap.size,5,none⟩ = some (iv q.misses):=(HB3.out.cell 5).trans rfl
 by_cases hk : q.asked = true
 ·by_cases hn : q.until_ < now
  ·rw [hk] at r3
   have hn' : ¬ now ≤ q.until_:=by omega
   have f3:=HB3.out.frozen 3
   have f5:=HB3.out.frozen 5
   by_cases hm : 2 ≤ q.misses
   ·have hR : R = ({ q with asked:=false,misses:=3 }.ban,true):=by rw [HT.out];simp [hk,hn,hm]
    have HRR:=Lib.hid hR
    have hm3:=HM.out
    have E0 : Hid (wrap64 (q.misses + 1) = q.misses + 1):=Lib.hid (by unfold wrap64;omega)
    have E1 : Hid ((if 3 < q.misses + 1 then 3 else q.misses + 1) = 3):=Lib.hid (by split <;> omega)
    clear hR HT hk hn hm HM hm3
    go_upto_region 6 with fail
    rw [E0.out,E1.out]
    obtain ⟨wx,hwx⟩ : ∃ wx,wx = ((w3.setCell ⟨w.heap.size,3,none⟩ (.bool false)).setCell ⟨w.heap.size,5,none⟩ (.int .i64 3)):=⟨_,rfl⟩
    have HX : Blk wx w.heap.size 31 ({ q with asked:=false,misses:=3 }).cells:=by rw [hwx];exact ((HB3.out.set_ 3 (.bool false)).set_ 5 (.int .i64 3))
    have HRX : Hid (Blk wx (w.heap.size + 1) 31 zs.toList):=by rw [hwx];exact Lib.hid ((HR3.out.far (by simp <;> omega) _).far (by simp <;> omega) _)
    have HKX : Hid (Keep w wx):=by rw [hwx];exact Lib.hid (Below.setCell (Below.setCell HK3.out (by simp <;> omega) _) (by simp <;> omega) _)
    rw [← hwx]
    clear hwx r3 r4 r5 f3 f5
    obtain ⟨ds,hds⟩ : ∃ ds,PeA ({ q with asked:=false,misses:=3 }) ds:=⟨_,PeA.of _⟩
    have HDS:=Lib.hid hds
    have HBx : Hid (Blk wx w.heap.size 31 ds.toList):=by rw [HDS.out.l];exact Lib.hid HX
    have rx : wx.cell? ⟨w.heap.size,5,none⟩ = some (iv 3):=(HX.cell 5).trans rfl
    have hdi:=hds.i;have hdn:=hds.n;have hdz:=hds.z
    clear hds HX HR3 HK3 HB3 HBc3
    go_wp2_with ((with_reducible refine load_arr w.heap.size ds (Eq.trans ?_ rfl) HBx.out _ Tryd.underlying31 rfl hdi ?_);rfl)
    refine (banned_any _ ds HDS.out _).mono ?_
    clear rx
    rintro e w5 ⟨bs,rfl,hbA,k5⟩
    have hbn:=hbA.n;have hbz:=hbA.z
    have HBA:=Lib.hid hbA
    obtain ⟨w6,hst6,hb6,hg6⟩:=run_store_blk (P:=Tryd.prog) bs.toList (HBx.out.keep k5) (by rw [Array.length_toList,Array.length_toList,hdz,hbz]) hbA.o
    have HB6:=Lib.hid hb6
    have HR6 : Hid (Blk w6 (w.heap.size + 1) 31 zs.toList):=Lib.hid ((HRX.out.keep k5).grown hg6 (fun e => by injection e with e;omega))
    have HK6 : Hid (Keep w w6):=Lib.hid ((keep_trans HKX.out k5).grown hg6 (keep_trans HKX.out k5).size (fun q hq => by injection hq with hq;omega))
    clear hbA k5 hb6 hg6 HRX HKX HBx
    obtain ⟨w8,hst8,hb8,hg8⟩:=run_store_blk (P:=Tryd.prog) bs.toList HR6.out (by rw [Array.length_toList,Array.length_toList,hzz,HBA.out.z]) HBA.out.o
    have Hb8:=Lib.hid hb8;have Hg8:=Lib.hid hg8
    have hdi8:=HBA.out.i
    have hdn8:=HBA.out.n
    have hdz8:=HBA.out.z
    clear hb8 hg8
    go_wp2_with ((with_reducible refine load_arr w.heap.size bs (Eq.trans ?_ rfl) HB6.out _ Tryd.underlying31 rfl hdi8 ?_);rfl)
    exact bodyPost_ret (v:=.tuple #[.agg bs,.bool true]) (results_cell_tmp_row Tryd.results11 _ _ (w.heap.size + 1) _ _ _ _ rfl Hb8.out Tryd.underlying31 rfl (by rw [List.size_toArray,Array.length_toList];exact hdi8)) rfl ⟨bs,by rw [HRR.out],by rw [HRR.out];exact HBA.out,HK6.out.grown Hg8.out HK6.out.size (fun q hq => by injection hq with hq;omega)⟩
   ·have hR : R = ({ q with asked:=false,misses:=q.misses + 1 },true):=by rw [HT.out];simp [hk,hn,hm]
    have HRR:=Lib.hid hR
    have hm3:=HM.out
    have E0 : Hid (wrap64 (q.misses + 1) = q.misses + 1):=Lib.hid (by unfold wrap64;omega)
    have E1 : Hid ((if 3 < q.misses + 1 then 3 else q.misses + 1) = q.misses + 1):=Lib.hid (if_neg (by omega))
    have d3 : (q.misses + 1 == 3) = false:=by rw [beq_eq_false_iff_ne];omega
    have D3:=Lib.hid d3
    clear hR HT hk hn hm HM hm3 d3
    go_upto_region 6 with fail
    rw [E0.out,E1.out]
    obtain ⟨wx,hwx⟩ : ∃ wx,wx = ((w3.setCell ⟨w.heap.size,3,none⟩ (.bool false)).setCell ⟨w.heap.size,5,none⟩ (.int .i64 (q.misses + 1))):=⟨_,rfl⟩
    have HX : Blk wx w.heap.size 31 ({ q with asked:=false,misses:=q.misses + 1 }).cells:=by rw [hwx];exact ((HB3.out.set_ 3 (.bool false)).set_ 5 (.int .i64 (q.misses + 1)))
    have HRX : Hid (Blk wx (w.heap.size + 1) 31 zs.toList):=by rw [hwx];exact Lib.hid ((HR3.out.far (by simp <;> omega) _).far (by simp <;> omega) _)
    have HKX : Hid (Keep w wx):=by rw [hwx];exact Lib.hid (Below.setCell (Below.setCell HK3.out (by simp <;> omega) _) (by simp <;> omega) _)
    rw [← hwx]
    clear hwx r3 r4 r5 f3 f5
    obtain ⟨ds,hds⟩ : ∃ ds,PeA ({ q with asked:=false,misses:=q.misses + 1 }) ds:=⟨_,PeA.of _⟩
    have HDS:=Lib.hid hds
    have HBx : Hid (Blk wx w.heap.size 31 ds.toList):=by rw [HDS.out.l];exact Lib.hid HX
    have rx : wx.cell? ⟨w.heap.size,5,none⟩ = some (iv (q.misses + 1)):=(HX.cell 5).trans rfl
    have d3:=D3.out
    clear hds HX HR3 HK3 HB3 HBc3
    obtain ⟨w8,hst8,hb8,hg8⟩:=run_store_blk (P:=Tryd.prog) ds.toList HRX.out (by rw [Array.length_toList,Array.length_toList,hzz,HDS.out.z]) HDS.out.o
    have Hb8:=Lib.hid hb8;have Hg8:=Lib.hid hg8
    have hdi8:=HDS.out.i
    have hdn8:=HDS.out.n
    have hdz8:=HDS.out.z
    clear hb8 hg8
    go_wp2_with ((with_reducible refine load_arr w.heap.size ds (Eq.trans ?_ rfl) HBx.out _ Tryd.underlying31 rfl hdi8 ?_);rfl)
    exact bodyPost_ret (v:=.tuple #[.agg ds,.bool true]) (results_cell_tmp_row Tryd.results11 _ _ (w.heap.size + 1) _ _ _ _ rfl Hb8.out Tryd.underlying31 rfl (by rw [List.size_toArray,Array.length_toList];exact hdi8)) rfl ⟨ds,by rw [HRR.out],by rw [HRR.out];exact HDS.out,HKX.out.grown Hg8.out HKX.out.size (fun q hq => by injection hq with hq;omega)⟩
  ·have hR : R = (q,false):=by rw [HT.out];simp [hn]
   rw [hk] at r3
   have hn' : now ≤ q.until_:=by omega
   clear hk hn
   obtain ⟨w8,hst8,hb8,hg8⟩:=run_store_blk (P:=Tryd.prog) qs.toList HR3.out (by rw [Array.length_toList,Array.length_toList,hzz,HQ.out.z]) HQ.out.o
   have Hb8:=Lib.hid hb8;have Hg8:=Lib.hid hg8
   have hdi8:=HQ.out.i
   have hdn8:=HQ.out.n
   have hdz8:=HQ.out.z
   clear hb8 hg8 HT HM
   go_wp2_with ((with_reducible refine load_arr w.heap.size qs (Eq.trans ?_ rfl) HBc3.out _ Tryd.underlying31 rfl hdi8 ?_);rfl)
   exact bodyPost_ret (v:=.tuple #[.agg qs,.bool false]) (results_cell_tmp_row Tryd.results11 _ _ (w.heap.size + 1) _ _ _ _ rfl Hb8.out Tryd.underlying31 rfl (by rw [List.size_toArray,Array.length_toList];exact hdi8)) rfl ⟨qs,by rw [hR],by rw [hR];exact HQ.out,HK3.out.grown Hg8.out HK3.out.size (fun q hq => by injection hq with hq;omega)⟩
 ·have hk : q.asked = false:=by simpa using hk
  have hR : R = (q,false):=by rw [HT.out];simp [hk]
  rw [hk] at r3
  obtain ⟨w8,hst8,hb8,hg8⟩:=run_store_blk (P:=Tryd.prog) qs.toList HR3.out (by rw [Array.length_toList,Array.length_toList,hzz,HQ.out.z]) HQ.out.o
  have Hb8:=Lib.hid hb8;have Hg8:=Lib.hid hg8
  have hdi8:=HQ.out.i
  have hdn8:=HQ.out.n
  have hdz8:=HQ.out.z
  clear hb8 hg8 HT HM
  go_wp2_with ((with_reducible refine load_arr w.heap.size qs (Eq.trans ?_ rfl) HBc3.out _ Tryd.underlying31 rfl hdi8 ?_);rfl)
  exact bodyPost_ret (v:=.tuple #[.agg qs,.bool false]) (results_cell_tmp_row Tryd.results11 _ _ (w.heap.size + 1) _ _ _ _ rfl Hb8.out Tryd.underlying31 rfl (by rw [List.size_toArray,Array.length_toList];exact hdi8)) rfl ⟨qs,by rw [hR],by rw [hR];exact HQ.out,HK3.out.grown Hg8.out HK3.out.size (fun q hq => by injection hq with hq;omega)⟩
end Go.Proofs.YtffpanlpbdnafaaDoor
/- What is got was put so: plain laws of reading a transaction. -/
set_option linter.unusedSimpArgs false
set_option linter.unusedVariables false
namespace Go.Proofs.YtffpanlpbdnafaaDoor
open Go.RowKit
end Go.Proofs.YtffpanlpbdnafaaDoor
/- A header's bytes are a header: plain. -/
set_option linter.unusedSimpArgs false
set_option linter.unusedVariables false
namespace Go.Proofs.YtffpanlpbdnafaaDoor
open Go.RowKit
theorem w8_nat {n : Int} (h0 : 0 ≤ n) (h1 : n ≤ 255) : ((w8 n).toNat : Int) = n:=(w8_of h0 h1).symm
theorem num32_le4 (x : UInt32) (l : List UInt8) : num32 (le4 x ++ l) = x:=by
 have hx:=w32_hi x
 have e : numE (le4 x ++ l) 4 = x.toNat:=by
  simp only [numE,le4,List.cons_append,List.nil_append,List.getD_cons_succ,List.getD_cons_zero]
  have g : ∀ k,((w8 (leE x k)).toNat : Int) = leE x k:=fun k => w8_nat (by unfold leE;omega) (by unfold leE;omega)
  simp only [g]
  unfold leE
  omega
 unfold num32 w32
 rw [e]
 simp
theorem hget_put {h : Hd} (hk : h.ok) : hgetL (hputL h) = h:=by
 unfold hgetL hputL
 have l4 : ∀ x,(le4 x).length = 4:=fun _ => rfl
 have d4 : (le4 h.ver ++ (h.prev ++ (h.root ++ (le4 h.time ++ (le4 h.bits ++ le4 h.nonce))))).drop 4 = h.prev ++ (h.root ++ (le4 h.time ++ (le4 h.bits ++ le4 h.nonce))):=List.drop_left' (l4 _)
 have dn : ∀ k,(le4 h.ver ++ (h.prev ++ (h.root ++ (le4 h.time ++ (le4 h.bits ++ le4 h.nonce))))).drop (4 + k) = (h.prev ++ (h.root ++ (le4 h.time ++ (le4 h.bits ++ le4 h.nonce)))).drop k:=fun k => by rw [← List.drop_drop,d4]
 have dn2 : ∀ k,(le4 h.ver ++ (h.prev ++ (h.root ++ (le4 h.time ++ (le4 h.bits ++ le4 h.nonce))))).drop (36 + k) = (h.root ++ (le4 h.time ++ (le4 h.bits ++ le4 h.nonce))).drop k:=fun k => by
  rw [show 36 + k = 4 + (32 + k) by omega,dn,← List.drop_drop,List.drop_left' hk.1]
 have dn3 : ∀ k,(le4 h.ver ++ (h.prev ++ (h.root ++ (le4 h.time ++ (le4 h.bits ++ le4 h.nonce))))).drop (68 + k) = (le4 h.time ++ (le4 h.bits ++ le4 h.nonce)).drop k:=fun k => by
  rw [show 68 + k = 36 + (32 + k) by omega,dn2,← List.drop_drop,List.drop_left' hk.2]
 have e36:=dn2 0;have e68:=dn3 0;have e72:=dn3 4;have e76:=dn3 8
 rw [List.drop_zero] at e36 e68
 rw [List.drop_left' (l4 _)] at e72
 have e8 : (le4 h.time ++ (le4 h.bits ++ le4 h.nonce)).drop (4 + 4) = le4 h.nonce:=by rw [← List.drop_drop,List.drop_left' (l4 _),List.drop_left' (l4 _)]
 have e76':=e76.trans e8
 rw [d4,e36,e68,e72,e76',num32_le4,num32_le4,num32_le4,List.take_left' hk.1,List.take_left' hk.2]
 have:=num32_le4 h.nonce []
 rw [List.append_nil] at this
 rw [this]
end Go.Proofs.YtffpanlpbdnafaaDoor
/- What is got was put so: parts and messages. -/
set_option linter.unusedSimpArgs false
set_option linter.unusedVariables false
namespace Go.Proofs.YtffpanlpbdnafaaDoor
open Go.RowKit
def PV.mst : PV → Nat
 | .hsh _ _ _ most => most
 | _ => 0
theorem put_mk {m : MsgR} (h : fitsB m = true) {l : List UInt8} (e : (partsM m).flatMap layL = l) : putL m = l:=by unfold putL;rw [if_pos h,e]
theorem txL_pl (t : TxR) : txL t.pl = txL t:=by
 unfold txL TxR.pl
 simp only [List.length_map,List.flatMap_map]
 rfl
theorem saneT_pl (t : TxR) : saneT t.pl = saneT t:=by
 unfold saneT TxR.pl
 simp only [List.length_map,List.mem_map,forall_exists_index,and_imp,forall_apply_eq_imp_iff₂]
 rfl
theorem others_pl (m : MsgR) : othersM m.pl = (othersM m).pl:=by
 unfold othersM
 rw [show m.pl.kind = m.kind from rfl]
 by_cases h : m.kind = 0
 ·rw [if_pos h,if_pos h];rfl
 rw [if_neg h,if_neg h];clear h
 by_cases h : m.kind = 2 ∨ m.kind = 3
 ·rw [if_pos h,if_pos h];rfl
 rw [if_neg h,if_neg h];clear h
 by_cases h : m.kind = 4
 ·rw [if_pos h,if_pos h];rfl
 rw [if_neg h,if_neg h];clear h
 by_cases h : m.kind = 5
 ·rw [if_pos h,if_pos h];rfl
 rw [if_neg h,if_neg h];clear h
 by_cases h : m.kind = 6 ∨ m.kind = 7 ∨ m.kind = 8
 ·rw [if_pos h,if_pos h];rfl
 rw [if_neg h,if_neg h];clear h
 by_cases h : m.kind = 9
 ·rw [if_pos h,if_pos h];rfl
 rw [if_neg h,if_neg h];clear h
 by_cases h : m.kind = 10
 ·rw [if_pos h,if_pos h];rfl
 rw [if_neg h,if_neg h]
theorem nothing_pl (m : MsgR) : nothingB m.pl = nothingB m:=by
 unfold nothingB MsgR.pl TxR.pl
 simp only [List.length_map]
theorem fits_pl (m : MsgR) : fitsB m.pl = fitsB m:=by
 have e1 : nothingB (othersM m.pl) = nothingB (othersM m):=by rw [others_pl,nothing_pl]
 have e2 : saneT m.pl.t = saneT m.t:=saneT_pl m.t
 unfold fitsB
 rw [e1,e2]
 rfl
theorem lay_tx_pl (t : TxR) : layL (.tx t.pl) = layL (.tx t):=by
 show (if saneT t.pl = true then txL t.pl else []) = if saneT t = true then txL t else []
 rw [saneT_pl,txL_pl]
theorem parts_pl (m : MsgR) : (partsM m.pl).flatMap layL = (partsM m).flatMap layL:=by
 unfold partsM
 rw [show m.pl.kind = m.kind from rfl]
 by_cases h : m.kind = 0
 ·rw [if_pos h,if_pos h];rfl
 rw [if_neg h,if_neg h];clear h
 by_cases h : m.kind = 2 ∨ m.kind = 3
 ·rw [if_pos h,if_pos h];rfl
 rw [if_neg h,if_neg h];clear h
 by_cases h : m.kind = 4
 ·rw [if_pos h,if_pos h];rfl
 rw [if_neg h,if_neg h];clear h
 by_cases h : m.kind = 5
 ·rw [if_pos h,if_pos h];rfl
 rw [if_neg h,if_neg h];clear h
 by_cases h : m.kind = 6 ∨ m.kind = 7 ∨ m.kind = 8
 ·rw [if_pos h,if_pos h];rfl
 rw [if_neg h,if_neg h];clear h
 by_cases h : m.kind = 9
 ·rw [if_pos h,if_pos h];rfl
 rw [if_neg h,if_neg h];clear h
 by_cases h : m.kind = 10
 ·rw [if_pos h,if_pos h]
  rw [List.flatMap_cons,List.flatMap_cons]
  rw [show m.pl.t = m.t.pl from rfl,lay_tx_pl]
 ·rw [if_neg h,if_neg h]
theorem put_pl (m : MsgR) : putL m.pl = putL m:=by
 unfold putL
 rw [fits_pl,parts_pl]
end Go.Proofs.YtffpanlpbdnafaaDoor
/- ours, theirs: a transaction of one type as one of the other. (printed by gen_pd.py) -/
set_option linter.unusedSimpArgs false
set_option linter.unusedVariables false
namespace Go.Proofs.YtffpanlpbdnafaaDoor
open Go.RowKit
attribute [local go_sem ↓] Go.wp_at_zero Go.wp_at_succ
theorem rin_info : (Tryd.prog.info? 119).map (·.size) = some 35:=by kernel_rfl
structure InB (x : InR) (cs : Array Value) : Prop where
 l : cs.toList = x.cells
 z : cs.size = 35
 i : (Tryd.prog.info? 119).map (·.size) = some cs.size
 n : ¬ cs = #[]
 o : ∀ v ∈ cs.toList,v.oneCell' = true
theorem InB.of {x : InR} (h : x.prev.length = 32) : InB x x.cells.toArray:=by
 have hz : x.cells.toArray.size = 35:=by simpa using InR.len h
 exact ⟨rfl,hz,by rw [hz];exact rin_info,fun e => by rw [e] at hz;simp at hz,by simpa using x.one⟩
noncomputable def zrin : Array Value:=match (Tryd.prog.info? 119).bind (·.zero) with | some (.agg c) => c | _ => #[]
theorem zrin_size : zrin.size = 35:=by kernel_rfl
theorem zrin_zero (w : World) : (zeroValue 119).run Tryd.prog w = .ok (.agg zrin) w:=by kernel_rfl
theorem zrin_letter : ∃ zs : Array Value,zs.size = 35∧(∀ w,(zeroValue 119).run Tryd.prog w = .ok (.agg zs) w)∧¬ zs = #[] :=
 ⟨zrin,zrin_size,zrin_zero,fun h => by have:=zrin_size;rw [h] at this;cases this⟩
theorem zin_letter0 : ∃ zs : Array Value,zs.size = 35∧(∀ w,(zeroValue 127).run Tryd.prog w = .ok (.agg zs) w)∧¬ zs = #[]:=by
 obtain ⟨zs,a,b,c,-⟩:=zin_letter
 exact ⟨zs,a,b,c⟩
set_option maxRecDepth 100000 in
theorem rinT : ElT Tryd.prog 58 119 (Value.agg zrin) 35 72:=ElT.mk' Tryd.underlying58 (by kernel_rfl) zrin_size (by omega)
theorem routT : ElT Tryd.prog 59 121 (.agg #[.int .u64 0,.slice none 0 0]) 2 32:=ElT.mk' Tryd.underlying59 (by kernel_rfl) rfl (by omega)
theorem in_built (p : List UInt8) (ix : UInt32) (A : Option Addr) (n c : Nat) (sq : UInt32) (ds : Array Value) (hl : p.length = 32) (hd : HashA p ds) : Tryd.prog.built 127 [(0,.agg ds),(1,u32v ix),(2,.slice A n c),(3,u32v sq)] = some (p.map u8v ++ [u32v ix,.slice A n c,u32v sq]).toArray:=by
 obtain rfl:=hd.e
 obtain ⟨a0,a1,a2,a3,a4,a5,a6,a7,a8,a9,b0,b1,b2,b3,b4,b5,b6,b7,b8,b9,c0,c1,c2,c3,c4,c5,c6,c7,c8,c9,d0,d1,rfl⟩:=list32b hl
 show _ = _
 kernel_rfl
theorem rin_built (p : List UInt8) (ix : UInt32) (A : Option Addr) (n c : Nat) (sq : UInt32) (ds : Array Value) (hl : p.length = 32) (hd : HashA p ds) : Tryd.prog.built 119 [(0,.agg ds),(1,u32v ix),(2,.slice A n c),(3,u32v sq)] = some (p.map u8v ++ [u32v ix,.slice A n c,u32v sq]).toArray:=by
 obtain rfl:=hd.e
 obtain ⟨a0,a1,a2,a3,a4,a5,a6,a7,a8,a9,b0,b1,b2,b3,b4,b5,b6,b7,b8,b9,c0,c1,c2,c3,c4,c5,c6,c7,c8,c9,d0,d1,rfl⟩:=list32b hl
 show _ = _
 kernel_rfl
set_option maxRecDepth 100000 in
set_option maxHeartbeats 4000000 in
theorem ours_any (t : TxR) (w0 w : World) (h0 : t.at w0) (hk0 : Keep w0 w) (hi : t.ins.length ≤ 1000000) (ho : t.outs.length ≤ 1000000) :
  Calls Tryd.prog 33 #[.agg #[u32v t.ver,.slice t.iA t.ins.length t.ic,.slice t.oA t.outs.length t.oc,u32v t.lock]] w fun e w' => ∃ iA ic oA oc,e = .returned (.agg #[u32v t.ver,.slice iA t.ins.length ic,.slice oA t.outs.length oc,u32v t.lock])∧(∀ W,Mid w0 w w' W → TxR.at ⟨t.ver,iA,t.ins,ic,oA,t.outs,oc,t.lock⟩ W)∧Keep w w':=by
 have h:=h0.keep hk0
 have HI : Hid (∀ k (h : k < t.ins.length),∃ (b off : Nat) (xs : Array Value) (x : InR),t.iA = some ⟨b,off,none⟩∧InB x xs∧x.prev.length = 32∧w.rangeAt b (off + k * 35) xs.toList∧t.ins[k]? = some x):=Lib.hid fun k hk => by
  have hp:=(h.is _ (List.getElem_mem hk)).p
  obtain ⟨b,off,h1,-,h2⟩:=in_at h.i (fun x hx => (h.is x hx).p) hk
  have hA:=InB.of hp
  exact ⟨b,off,_,_,h1,hA,hp,by rw [hA.l];exact h2,List.getElem?_eq_getElem hk⟩
 have HO : Hid (∀ k (h : k < t.outs.length),∃ (b off : Nat) (x : OutR),t.oA = some ⟨b,off,none⟩∧w.cell? ⟨b,off + k * 2,none⟩ = some (u64v x.val)∧w.cell? ⟨b,off + k * 2 + 1,none⟩ = some (.slice x.A x.sc.length x.cap)∧t.outs[k]? = some x):=Lib.hid fun k hk => by
  obtain ⟨b,off,h1,-,h2,h3⟩:=out_at h.o hk
  exact ⟨b,off,_,h1,h2,h3,List.getElem?_eq_getElem hk⟩
 have HIS:=Lib.hid h0.is;have HOS:=Lib.hid h0.os;have HK0:=Lib.hid hk0
 obtain ⟨ver,iA,ins,ic,oA,outs,oc,lock⟩:=t
 simp only at *
 clear h h0 hk0
 obtain ⟨n,hn⟩ : ∃ n,ins.length = n:=⟨_,rfl⟩
 obtain ⟨m,hm⟩ : ∃ m,outs.length = m:=⟨_,rfl⟩
 rw [hn] at HI hi ⊢
 rw [hm] at HO ho ⊢
 have HNN:=Lib.hid hn;have HMM:=Lib.hid hm
 clear hn hm
 obtain ⟨zs,hz1,hz2,hz3⟩:=zrin_letter
 go_enter Tryd.func33,Tryd.ntmps33
 go_upto_region 2 with fail
 obtain ⟨w1,hw1⟩ : ∃ w1,w1 = ((w.alloc (.cells #[u32v ver,.slice iA n ic,.slice oA m oc,u32v lock] 61)).alloc (.cells #[.int .u32 0,.slice none 0 0,.slice none 0 0,.int .u32 0] 48)).alloc (.cells #[u32v ver,.slice none 0 0,.slice none 0 0,u32v lock] 48):=⟨_,rfl⟩
 have HT1 : Hid (Blk w1 w.heap.size 61 [u32v ver,.slice iA n ic,.slice oA m oc,u32v lock]):=by rw [hw1];exact Lib.hid (((Blk.new w 61 [u32v ver,.slice iA n ic,.slice oA m oc,u32v lock]).alloc _).alloc _)
 have HR1 : Hid (Blk w1 (w.heap.size + 1) 48 [.int .u32 0,.slice none 0 0,.slice none 0 0,.int .u32 0]):=by
  rw [hw1]
  have q:=(Blk.new (w.alloc (.cells #[u32v ver,.slice iA n ic,.slice oA m oc,u32v lock] 61)) 48 [.int .u32 0,.slice none 0 0,.slice none 0 0,.int .u32 0]).alloc (.cells #[u32v ver,.slice none 0 0,.slice none 0 0,u32v lock] 48)
  rw [World.size_alloc] at q
  exact Lib.hid q
 have HX1 : Hid (Blk w1 (w.heap.size + 1 + 1) 48 [u32v ver,.slice none 0 0,.slice none 0 0,u32v lock]):=by
  rw [hw1]
  have q:=Blk.new ((w.alloc (.cells #[u32v ver,.slice iA n ic,.slice oA m oc,u32v lock] 61)).alloc (.cells #[.int .u32 0,.slice none 0 0,.slice none 0 0,.int .u32 0] 48)) 48 [u32v ver,.slice none 0 0,.slice none 0 0,u32v lock]
  rw [World.size_alloc,World.size_alloc] at q
  exact Lib.hid q
 have HK1 : Hid (Keep w w1):=by rw [hw1];exact Lib.hid (keep_trans (keep_new _ _) (keep_trans (keep_new _ _) (keep_new _ _)))
 rw [← hw1]
 clear hw1
 have C1 : Hid (([u32v ver,.slice iA n ic,.slice oA m oc,u32v lock] : List Value)[1]? = some (.slice iA n ic)):=Lib.hid rfl
 have C2 : Hid (([u32v ver,.slice iA n ic,.slice oA m oc,u32v lock] : List Value)[2]? = some (.slice oA m oc)):=Lib.hid rfl
 generalize ([u32v ver,.slice iA n ic,.slice oA m oc,u32v lock] : List Value) = TB at HT1 C1 C2
 have hgt : w.heap.size + 1 + 1 < w1.heap.size:=HX1.out.lt
 go_upto_block 0 with fail
 have HB1:=Lib.hid (Nat.le_refl w1.heap.size)
 obtain ⟨wb,hwb⟩ : ∃ wb,w1 = wb:=⟨_,rfl⟩
 have Own0 : Hid (w1.ownsRow wb.heap.size 127 35 (.slice none 0 0) 0 ((ins.take 0).flatMap InR.cells)):=Lib.hid (World.ownsRow_nil _ _ _ _)
 rw [hwb] at HT1 HR1 HX1 HK1 Own0 hgt ⊢
 clear hwb HB1
 go_cut [] (fun wx => ∃ vi : Value,Hid (Blk wx (w.heap.size + 1 + 1) 48 [u32v ver,vi,.slice none 0 0,u32v lock])∧Hid (wx.ownsRow wb.heap.size 127 35 vi n (ins.flatMap InR.cells))∧Hid (Blk wx w.heap.size 61 TB)∧Hid (Blk wx (w.heap.size + 1) 48 [.int .u32 0,.slice none 0 0,.slice none 0 0,.int .u32 0])∧Hid (Keep w wx)∧Hid (wb.heap.size ≤ wx.heap.size))
 case first =>
  go_wp2_with fail
  go_loopw [4] (fun x wr => ∃ (k : Nat) (vi : Value),k ≤ n∧x = .int .i64 k∧Hid (Blk wr (w.heap.size + 1 + 1) 48 [u32v ver,vi,.slice none 0 0,u32v lock])∧Hid (wr.ownsRow wb.heap.size 127 35 vi k ((ins.take k).flatMap InR.cells))∧Hid (Blk wr w.heap.size 61 TB)∧Hid (Blk wr (w.heap.size + 1) 48 [.int .u32 0,.slice none 0 0,.slice none 0 0,.int .u32 0])∧Hid (Keep w wr)∧Hid (wb.heap.size ≤ wr.heap.size)) (fun x _ => n - (intOf x).toNat)
  case atStart => exact ⟨0,.slice none 0 0,Nat.zero_le _,rfl,HX1,Own0,HT1,HR1,HK1,Lib.hid (Nat.le_refl _)⟩
  case round =>
   obtain ⟨k,vi,hk,rfl,HX,Own,HT,HR,HK,HS⟩:=hrel
   clear Own0 HX1 HT1 HR1 HK1
   have t1:=(HT.out.cell 1).trans C1.out
   by_cases hlt : k < n
   ·obtain ⟨b,off,xs,x,rfl,hxs,hp,hrg,hget⟩:=HI.out k hlt
    have hxz:=hxs.z;have hxn:=hxs.n;have hxi:=hxs.i
    have RX : Hid (wr.rangeAt b (off + k * 35) xs.toList):=Lib.hid fun j v hv => keep_cell HK.out (hrg j v hv)
    have hst : (storeCells ⟨wr.heap.size,0,none⟩ xs.toList 0).run Tryd.prog (wr.alloc (.cells zs 119)) = .ok () (wr.alloc (.cells xs 119)):=run_storeCells_new (P:=Tryd.prog) wr 119 zs xs hxi (hz1.trans hxz.symm) (by have:=all_oneCell_toArray hxs.o;rwa [Array.toArray_toList] at this)
    have d4 : (k : Int) < n:=by omega
    have HXS:=Lib.hid hxs;have HP:=Lib.hid hp
    have HGE:=Lib.hid hget
    clear hxs hrg hget hp HI
    go_upto_region 6 with ((with_reducible refine load_partg b (off + k * 35) xs (Eq.trans ?_ rfl) RX.out _ Tryd.underlying119 rfl hxi rfl ?_);rfl)
    obtain ⟨w2,hw2⟩ : ∃ w2,w2 = wr.alloc (.cells xs 119):=⟨_,rfl⟩
    have HG2 : Hid (Blk w2 wr.heap.size 119 xs.toList):=by rw [hw2];exact Lib.hid (Blk.new wr _ xs.toList)
    have HX2 : Hid (Blk w2 (w.heap.size + 1 + 1) 48 [u32v ver,vi,.slice none 0 0,u32v lock]):=by rw [hw2];exact Lib.hid (HX.out.alloc _)
    have HT2 : Hid (Blk w2 w.heap.size 61 TB):=by rw [hw2];exact Lib.hid (HT.out.alloc _)
    have HR2 : Hid (Blk w2 (w.heap.size + 1) 48 [.int .u32 0,.slice none 0 0,.slice none 0 0,.int .u32 0]):=by rw [hw2];exact Lib.hid (HR.out.alloc _)
    have Own2 : Hid (w2.ownsRow wb.heap.size 127 35 vi k ((ins.take k).flatMap InR.cells)):=by rw [hw2];exact Lib.hid (Own.out.alloc _)
    have HK2 : Hid (Keep w w2):=by rw [hw2];exact Lib.hid (keep_trans HK.out (keep_new _ _))
    have HS2 : Hid (wb.heap.size ≤ w2.heap.size):=by rw [hw2];exact Lib.hid (by have:=HS.out;simp;omega)
    rw [← hw2]
    clear hw2 hst RX HX HT HR Own HK HS t1
    generalize wr.heap.size = gx at *
    obtain ⟨ss,hss⟩ : ∃ ss,HashA x.prev ss:=⟨_,HashA.of HP.out⟩
    have hsn:=hss.n;have hsz:=hss.z;have hsi:=hss.i
    have HSS:=Lib.hid hss
    have hsl : xs.toList = ss.toList ++ [u32v x.ix,.slice x.A x.sc.length x.cap,u32v x.seq]:=by rw [HXS.out.l,HSS.out.l];rfl
    have hsll : ss.toList.length = 32:=by rw [Array.length_toList];exact hsz
    have RS : Hid (w2.rangeAt gx 0 ss.toList):=Lib.hid (range_of HG2.out 0 ss.toList (by rw [hsl,List.drop_zero,List.take_left' rfl]))
    have x32 : w2.cell? ⟨gx,32,none⟩ = some (u32v x.ix):=by rw [HG2.out.cell,hsl,List.getElem?_append_right (by omega),hsll];rfl
    have x33 : w2.cell? ⟨gx,33,none⟩ = some (.slice x.A x.sc.length x.cap):=by rw [HG2.out.cell,hsl,List.getElem?_append_right (by omega),hsll];rfl
    have x34 : w2.cell? ⟨gx,34,none⟩ = some (u32v x.seq):=by rw [HG2.out.cell,hsl,List.getElem?_append_right (by omega),hsll];rfl
    obtain ⟨es,hes⟩ : ∃ es : Array Value,es = (x.prev.map u8v ++ [u32v x.ix,.slice x.A x.sc.length x.cap,u32v x.seq]).toArray:=⟨_,rfl⟩
    have HBu : Hid (Tryd.prog.built 127 [(0,.agg ss),(1,u32v x.ix),(2,.slice x.A x.sc.length x.cap),(3,u32v x.seq)] = some es):=Lib.hid (by rw [hes];exact in_built _ _ _ _ _ _ _ HP.out HSS.out)
    have hel : es.toList = x.cells:=by rw [hes];rfl
    have hez : es.size = 35:=by rw [hes];simp [HP.out]
    have HEO : Hid (∀ v ∈ es.toList,v.oneCell' = true):=Lib.hid (by rw [hel];exact x.one)
    have HEL:=Lib.hid hel
    have y1:=HX2.out.cell 1
    simp only [List.getElem?_cons_succ,List.getElem?_cons_zero] at y1
    clear hss hes hel hsl hsll HXS HG2
    obtain ⟨Av,cv,rfl,-,-,-⟩:=own_form Own2.out
    go_wp2_with (first
     | ((with_reducible refine load_partg gx 0 ss (Eq.trans ?_ rfl) RS.out _ hash_under rfl hsi rfl ?_);rfl)
     | ((with_reducible refine list_bldg [(0,.agg ss),(1,u32v x.ix),(2,.slice x.A x.sc.length x.cap),(3,u32v x.seq)] es (Eq.trans ?_ rfl) HBu.out (Eq.trans ?_ rfl) ?_);rfl;rfl)
     | ((with_reducible refine list_build1h inT es hez (by omega) (Eq.trans ?_ rfl) ?_);rfl)
     | (at_builtin;refine wpList_app inT (by rfl) _ _ (by rfl) wb.heap.size _ k _ (by rfl) (Own2.out.alloc _) _ 1 1 es.toList (by rfl) (by rw [Array.length_toList,hez]) (by simpa using Rd.new w2 es.toList 127) HEO.out (by omega) (by unfold maxLen;omega) (by have:=HS2.out;simp;omega) ?_;intro v3 w3 own3 hg3 hat3;obtain ⟨Aw,cw,rfl,-,-,-⟩:=own_form own3;have HX3:=Lib.hid ((HX2.out.alloc (.cells es 127)).grown hg3 (fun q => by have:=(Own2.out.lt _ q).1;omega));have HT3:=Lib.hid ((HT2.out.alloc (.cells es 127)).grown hg3 (fun q => by have:=(Own2.out.lt _ q).1;omega));have HR3:=Lib.hid ((HR2.out.alloc (.cells es 127)).grown hg3 (fun q => by have:=(Own2.out.lt _ q).1;omega));have y3:=HX3.out.cell 1;have f3:=HX3.out.frozen 1;simp only [List.getElem?_cons_succ,List.getElem?_cons_zero] at y3;have Own3:=Lib.hid own3;have HK3 : Hid (Keep w w3):=Lib.hid (keep_grown (keep_trans HK2.out (keep_new _ _)) (by have:=HK2.out.size;simp;omega) hg3 (own_base (Own2.out.alloc (.cells es 127)) (by omega)));have HS3 : Hid (wb.heap.size ≤ w3.heap.size):=Lib.hid (by have:=HS2.out;have:=hg3.size;simp at this;omega);clear own3 hg3 hat3))
    obtain ⟨w4,hw4⟩ : ∃ w4,w4 = w3.setCell ⟨w.heap.size + 1 + 1,1,none⟩ (.slice Aw (k + 1) cw):=⟨_,rfl⟩
    have HX4 : Hid (Blk w4 (w.heap.size + 1 + 1) 48 [u32v ver,.slice Aw (k + 1) cw,.slice none 0 0,u32v lock]):=by rw [hw4];exact Lib.hid (HX3.out.set_ 1 (.slice Aw (k + 1) cw))
    have HT4 : Hid (Blk w4 w.heap.size 61 TB):=by rw [hw4];exact Lib.hid (HT3.out.far (by simp <;> omega) _)
    have HR4 : Hid (Blk w4 (w.heap.size + 1) 48 [.int .u32 0,.slice none 0 0,.slice none 0 0,.int .u32 0]):=by rw [hw4];exact Lib.hid (HR3.out.far (by simp) _)
    have Own4 : Hid (w4.ownsRow wb.heap.size 127 35 (.slice Aw (k + 1) cw) (k + 1) ((ins.take (k + 1)).flatMap InR.cells)):=by
     rw [hw4]
     refine Lib.hid (own_eq (ownsRow_setCell_below Own3.out (a:=⟨w.heap.size + 1 + 1,1,none⟩) (by omega) _) rfl ?_)
     rw [HEL.out,List.take_add_one,HGE.out,List.flatMap_append];simp
    have HK4 : Hid (Keep w w4):=by rw [hw4];exact Lib.hid (Below.setCell HK3.out (by simp <;> omega) _)
    have HS4 : Hid (wb.heap.size ≤ w4.heap.size):=by rw [hw4];exact Lib.hid (by have:=HS3.out;simpa using this)
    rw [← hw4]
    clear hw4 HX3 HT3 HR3 Own3 HK3 HS3 y3 f3 HX2 HT2 HR2 Own2 HK2 HS2 RS x32 x33 x34 y1 HBu HEO HEL HGE HSS HP
    go_roundw
    case rel => exact ⟨k + 1,_,by omega,by go_num,HX4,Own4,HT4,HR4,HK4,HS4⟩
    case measure => simp [intOf];omega
   ·obtain rfl : k = n:=by omega
    have d4 : ¬ (k : Int) < k:=by omega
    have OwnF : Hid (wr.ownsRow wb.heap.size 127 35 vi k (ins.flatMap InR.cells)):=Lib.hid (own_eq Own.out rfl (by rw [List.take_of_length_le (by rw [HNN.out];omega)]))
    clear HI Own
    go_wp2
    go_meet
    exact ⟨vi,HX,OwnF,HT,HR,HK,HS⟩
 case rest =>
  obtain ⟨vi,HX5,OwnI,HT5,HR5,HK5,HS5⟩:=hcut
  clear HX1 HT1 HR1 HK1 Own0 C1 HI
  obtain ⟨Avi,cvi,rfl,hcv1,hcv2,-⟩:=own_form OwnI.out
  have hg5:=HX5.out.lt
  go_wp2_with fail
  have OwnO : Hid (wc.ownsRow wc.heap.size 128 2 (.slice none 0 0) 0 ((outs.take 0).flatMap OutR.cells)):=Lib.hid (World.ownsRow_nil _ _ _ _)
  have KX5 : Hid (KeepX (fun k => k = w.heap.size + 1 + 1) wc wc):=Lib.hid (KeepX.of (Below.refl _ _))
  go_loopw [6] (fun x wr => ∃ (j : Nat) (vo : Value),j ≤ m∧x = .int .i64 j∧Hid (Blk wr (w.heap.size + 1 + 1) 48 [u32v ver,.slice Avi n cvi,vo,u32v lock])∧Hid (wr.ownsRow wc.heap.size 128 2 vo j ((outs.take j).flatMap OutR.cells))∧Hid (Blk wr w.heap.size 61 TB)∧Hid (Blk wr (w.heap.size + 1) 48 [.int .u32 0,.slice none 0 0,.slice none 0 0,.int .u32 0])∧Hid (Keep w wr)∧Hid (KeepX (fun k => k = w.heap.size + 1 + 1) wc wr)) (fun x _ => m - (intOf x).toNat)
  case atStart => exact ⟨0,.slice none 0 0,Nat.zero_le _,rfl,HX5,OwnO,HT5,HR5,HK5,KX5⟩
  case round =>
   obtain ⟨j,vo,hj,rfl,HX,Own,HT,HR,HK,KX⟩:=hrel
   clear OwnO KX5 HX5 HT5 HR5 HK5
   have t2:=(HT.out.cell 2).trans C2.out
   by_cases hlt : j < m
   ·obtain ⟨b,off,x,rfl,c0,c1,hget⟩:=HO.out j hlt
    have hbl : b < w.heap.size:=cell_lt c0
    have c0:=keep_cell HK.out c0;have c1:=keep_cell HK.out c1
    have d4 : (j : Int) < m:=by omega
    have HGE:=Lib.hid hget
    clear hget HO
    obtain ⟨Av,cv,rfl,-,-,-⟩:=own_form Own.out
    go_upto_region 10 with fail
    letI iM : G.Mk:=⟨(Value.slice Av j cv).ownBlock⟩
    refine G.wp_region_tree (.take [0,1,2,3,4,5,6,7,8,9,10,11,12,13,14] (.force [15,16] .done)) [17,18] (by kernel_rfl) (by kernel_rfl) (fun w8 k8 => ?_)
    have HX8:=Lib.hid (HX.out.keep k8);have Own8:=Lib.hid (own_keep Own.out k8);have HT8:=Lib.hid (HT.out.keep k8);have HR8:=Lib.hid (HR.out.keep k8);have HK8:=Lib.hid (keep_trans HK.out k8)
    have KX8 : Hid (KeepX (fun k => k = w.heap.size + 1 + 1) wc w8):=Lib.hid (KX.out.trans (KeepX.of k8) fun _ _ q => q)
    have c0:=keep_cell k8 c0;have c1:=keep_cell k8 c1
    clear k8 HX Own HT HR HK KX t2
    have hneX : G.Mk.m ≠ some (w.heap.size + 1 + 1):=fun q => by have:=(Own8.out.lt _ q).1;omega
    have hneT : G.Mk.m ≠ some w.heap.size:=fun q => by have:=(Own8.out.lt _ q).1;omega
    have hneB : G.Mk.m ≠ some b:=fun q => by have:=(Own8.out.lt _ q).1;omega
    have b0:=G.aftG_cell (HX8.out.cell 2) hneX
    have b1:=G.aftG_cell ((HT8.out.cell 2).trans C2.out) hneT
    have b2:=G.aftG_cell c0 hneB;have b3:=G.aftG_cell c1 hneB
    try simp only [List.getElem?_cons_succ,List.getElem?_cons_zero] at b0
    refine G.mt_take w8 (G.Gr.refl _) ?_
    simp only [pick_cons,pick_nil,nth_zero,nth_succ]
    repeat (go_big_quiet_step (fail))
    refine wpQuiet_nil (G.mt_force ?_)
    clear b0 b1 b2 b3 hneX hneT hneB c0 c1
    simp only [pick_cons,pick_nil,nth_zero,nth_succ]
    refine G.fc_step rfl (fun K hK => ?_)
    go_simp
    refine hK _ _ (G.Gr.of_keep (keep_new _ _)) ?_
    clear hK K
    obtain ⟨w9,hw9⟩ : ∃ w9,w9 = w8.alloc (.cells #[u64v x.val,.slice x.A x.sc.length x.cap] 128):=⟨_,rfl⟩
    have HL9 : Hid (Rd w9 (some ⟨w8.heap.size,0,none⟩) [u64v x.val,.slice x.A x.sc.length x.cap]):=by rw [hw9];exact Lib.hid (Rd.new w8 [u64v x.val,.slice x.A x.sc.length x.cap] 128)
    have k9 : Keep w8 w9:=by rw [hw9];exact keep_new _ _
    rw [← hw9]
    have HX9:=Lib.hid (HX8.out.keep k9);have Own9:=Lib.hid (own_keep Own8.out k9);have HT9:=Lib.hid (HT8.out.keep k9);have HR9:=Lib.hid (HR8.out.keep k9);have HK9:=Lib.hid (keep_trans HK8.out k9)
    have KX9 : Hid (KeepX (fun k => k = w.heap.size + 1 + 1) wc w9):=Lib.hid (KX8.out.trans (KeepX.of k9) fun _ _ q => q)
    clear hw9 k9 HX8 Own8 HT8 HR8 HK8 KX8
    have hs9:=KX9.out.2.2.2.1
    refine G.fc_step rfl (fun K hK => ?_)
    refine wp_app outT _ _ (by rfl) wc.heap.size _ j _ (by rfl) Own9.out _ 1 1 [u64v x.val,.slice x.A x.sc.length x.cap] (by rfl) (by rfl) HL9.out (by intro u hu;simp at hu;rcases hu with rfl | rfl <;> rfl) (by omega) (by unfold maxLen;omega) hs9 ?_
    intro v' wq ownq hgq hatq
    refine hK _ _ hgq ?_
    clear hK K HL9
    simp only [Act.put,Array.set!_eq_setIfInBounds,List.setIfInBounds_toArray,List.set_cons_succ,List.set_cons_zero]
    have HXq:=Lib.hid (HX9.out.grown hgq (fun q => by have:=(Own9.out.lt _ q).1;omega))
    have HTq:=Lib.hid (HT9.out.grown hgq (fun q => by have:=(Own9.out.lt _ q).1;omega))
    have HRq:=Lib.hid (HR9.out.grown hgq (fun q => by have:=(Own9.out.lt _ q).1;omega))
    have HKq : Hid (Keep w wq):=Lib.hid (keep_grown HK9.out HK9.out.size hgq (own_base Own9.out (by omega)))
    have KXq : Hid (KeepX (fun k => k = w.heap.size + 1 + 1) wc wq):=Lib.hid (KX9.out.grown hgq (fun i hi q => by have:=(Own9.out.lt _ q).1;omega))
    have Ownq:=Lib.hid ownq
    clear ownq hgq hatq HX9 HT9 HR9 HK9 KX9 Own9 hs9
    obtain ⟨Aw,cw,rfl,-,-,-⟩:=own_form Ownq.out
    have y3:=HXq.out.cell 2;have f3:=HXq.out.frozen 2
    simp only [List.getElem?_cons_succ,List.getElem?_cons_zero] at y3
    refine G.fc_nil (G.mt_end ?_)
    clear iM
    go_wp2
    obtain ⟨w4,hw4⟩ : ∃ w4,w4 = wq.setCell ⟨w.heap.size + 1 + 1,2,none⟩ (.slice Aw (j + 1) cw):=⟨_,rfl⟩
    have HX4 : Hid (Blk w4 (w.heap.size + 1 + 1) 48 [u32v ver,.slice Avi n cvi,.slice Aw (j + 1) cw,u32v lock]):=by rw [hw4];exact Lib.hid (HXq.out.set_ 2 (.slice Aw (j + 1) cw))
    have HT4 : Hid (Blk w4 w.heap.size 61 TB):=by rw [hw4];exact Lib.hid (HTq.out.far (by simp <;> omega) _)
    have HR4 : Hid (Blk w4 (w.heap.size + 1) 48 [.int .u32 0,.slice none 0 0,.slice none 0 0,.int .u32 0]):=by rw [hw4];exact Lib.hid (HRq.out.far (by simp) _)
    have Own4 : Hid (w4.ownsRow wc.heap.size 128 2 (.slice Aw (j + 1) cw) (j + 1) ((outs.take (j + 1)).flatMap OutR.cells)):=by
     rw [hw4]
     refine Lib.hid (own_eq (ownsRow_setCell_below Ownq.out (a:=⟨w.heap.size + 1 + 1,2,none⟩) (by omega) _) rfl ?_)
     rw [List.take_add_one,HGE.out,List.flatMap_append];simp [OutR.cells]
    have HK4 : Hid (Keep w w4):=by rw [hw4];exact Lib.hid (Below.setCell HKq.out (by simp <;> omega) _)
    have KX4 : Hid (KeepX (fun k => k = w.heap.size + 1 + 1) wc w4):=by rw [hw4];exact Lib.hid (KeepB.set KXq.out 2 _)
    rw [← hw4]
    clear hw4 HXq HTq HRq Ownq HKq KXq y3 f3 HGE
    go_roundw
    case rel => exact ⟨j + 1,_,by omega,by go_num,HX4,Own4,HT4,HR4,HK4,KX4⟩
    case measure => simp [intOf];omega
   ·obtain rfl : j = m:=by omega
    have d4 : ¬ (j : Int) < j:=by omega
    have OwnF : Hid (wr.ownsRow wc.heap.size 128 2 vo j (outs.flatMap OutR.cells)):=Lib.hid (own_eq Own.out rfl (by rw [List.take_of_length_le (by rw [HMM.out];omega)]))
    clear HO Own
    obtain ⟨Avo,cvo,rfl,hco1,hco2,-⟩:=own_form OwnF.out
    have OwnJ:=Lib.hid (own_kx OwnI.out KX.out (fun g q e => by have:=(OwnI.out.lt g q).1;omega))
    have x0:=HX.out.cell 0;have x1:=HX.out.cell 1;have x2:=HX.out.cell 2;have x3:=HX.out.cell 3
    have z0:=HR.out.cell 0;have z1:=HR.out.cell 1;have z2:=HR.out.cell 2;have z3:=HR.out.cell 3
    have f0:=HR.out.frozen 0;have f1:=HR.out.frozen 1;have f2:=HR.out.frozen 2;have f3:=HR.out.frozen 3
    simp only [List.getElem?_cons_succ,List.getElem?_cons_zero] at x0 x1 x2 x3 z0 z1 z2 z3
    go_wp2
    have HRF:=((((HR.out.set_ 0 (u32v ver)).set_ 1 (.slice Avi n cvi)).set_ 2 (.slice Avo j cvo)).set_ 3 (u32v lock))
    have KF:=KeepB.set (KeepB.set (KeepB.set (KeepB.set (S:=w.heap.size + 1) (KeepX.of (Below.refl wr.heap.size wr)) 0 (u32v ver)) 1 (.slice Avi n cvi)) 2 (.slice Avo j cvo)) 3 (u32v lock)
    have KW:=Below.setCell (Below.setCell (Below.setCell (Below.setCell HK.out (p:=⟨w.heap.size + 1,0,none⟩) (by simp) (u32v ver)) (p:=⟨w.heap.size + 1,1,none⟩) (by simp) (.slice Avi n cvi)) (p:=⟨w.heap.size + 1,2,none⟩) (by simp) (.slice Avo j cvo)) (p:=⟨w.heap.size + 1,3,none⟩) (by simp) (u32v lock)
    have o1:=own_kx OwnJ.out KF (fun g q e => by have:=(OwnJ.out.lt g q).1;omega)
    have o2:=own_kx OwnF.out KF (fun g q e => by have:=(OwnF.out.lt g q).1;omega)
    exact bodyPost_ret (v:=.agg #[u32v ver,.slice Avi n cvi,.slice Avo j cvo,u32v lock]) (results_cell_row Tryd.results33 _ _ (w.heap.size + 1) _ _ _ _ rfl HRF Tryd.underlying48 rfl (by kernel_rfl)) rfl
     ⟨Avi,cvi,Avo,cvo,rfl,fun W hm => ⟨own_mid o1 (by omega) hm,own_mid o2 (by omega) hm,⟨by rw [HNN.out];exact hcv1,hcv2⟩,⟨by rw [HMM.out];exact hco1,hco2⟩,fun x hx => (HIS.out x hx).keep hm.1,fun x hx => (HOS.out x hx).keep hm.1⟩,KW⟩
set_option maxRecDepth 100000 in
set_option maxHeartbeats 4000000 in
theorem theirs_any (t : TxR) (w0 w : World) (h0 : t.at w0) (hk0 : Keep w0 w) (hi : t.ins.length ≤ 1000000) (ho : t.outs.length ≤ 1000000) :
  Calls Tryd.prog 49 #[.agg #[u32v t.ver,.slice t.iA t.ins.length t.ic,.slice t.oA t.outs.length t.oc,u32v t.lock]] w fun e w' => ∃ iA ic oA oc,e = .returned (.agg #[u32v t.ver,.slice iA t.ins.length ic,.slice oA t.outs.length oc,u32v t.lock])∧(∀ W,Mid w0 w w' W → TxR.at ⟨t.ver,iA,t.ins,ic,oA,t.outs,oc,t.lock⟩ W)∧Keep w w':=by
 have h:=h0.keep hk0
 have HI : Hid (∀ k (h : k < t.ins.length),∃ (b off : Nat) (xs : Array Value) (x : InR),t.iA = some ⟨b,off,none⟩∧InA x xs∧x.prev.length = 32∧w.rangeAt b (off + k * 35) xs.toList∧t.ins[k]? = some x):=Lib.hid fun k hk => by
  have hp:=(h.is _ (List.getElem_mem hk)).p
  obtain ⟨b,off,h1,-,h2⟩:=in_at h.i (fun x hx => (h.is x hx).p) hk
  have hA:=InA.of hp
  exact ⟨b,off,_,_,h1,hA,hp,by rw [hA.l];exact h2,List.getElem?_eq_getElem hk⟩
 have HO : Hid (∀ k (h : k < t.outs.length),∃ (b off : Nat) (x : OutR),t.oA = some ⟨b,off,none⟩∧w.cell? ⟨b,off + k * 2,none⟩ = some (u64v x.val)∧w.cell? ⟨b,off + k * 2 + 1,none⟩ = some (.slice x.A x.sc.length x.cap)∧t.outs[k]? = some x):=Lib.hid fun k hk => by
  obtain ⟨b,off,h1,-,h2,h3⟩:=out_at h.o hk
  exact ⟨b,off,_,h1,h2,h3,List.getElem?_eq_getElem hk⟩
 have HIS:=Lib.hid h0.is;have HOS:=Lib.hid h0.os;have HK0:=Lib.hid hk0
 obtain ⟨ver,iA,ins,ic,oA,outs,oc,lock⟩:=t
 simp only at *
 clear h h0 hk0
 obtain ⟨n,hn⟩ : ∃ n,ins.length = n:=⟨_,rfl⟩
 obtain ⟨m,hm⟩ : ∃ m,outs.length = m:=⟨_,rfl⟩
 rw [hn] at HI hi ⊢
 rw [hm] at HO ho ⊢
 have HNN:=Lib.hid hn;have HMM:=Lib.hid hm
 clear hn hm
 obtain ⟨zs,hz1,hz2,hz3⟩:=zin_letter0
 go_enter Tryd.func49,Tryd.ntmps49
 go_upto_region 2 with fail
 obtain ⟨w1,hw1⟩ : ∃ w1,w1 = ((w.alloc (.cells #[u32v ver,.slice iA n ic,.slice oA m oc,u32v lock] 48)).alloc (.cells #[.int .u32 0,.slice none 0 0,.slice none 0 0,.int .u32 0] 61)).alloc (.cells #[u32v ver,.slice none 0 0,.slice none 0 0,u32v lock] 61):=⟨_,rfl⟩
 have HT1 : Hid (Blk w1 w.heap.size 48 [u32v ver,.slice iA n ic,.slice oA m oc,u32v lock]):=by rw [hw1];exact Lib.hid (((Blk.new w 48 [u32v ver,.slice iA n ic,.slice oA m oc,u32v lock]).alloc _).alloc _)
 have HR1 : Hid (Blk w1 (w.heap.size + 1) 61 [.int .u32 0,.slice none 0 0,.slice none 0 0,.int .u32 0]):=by
  rw [hw1]
  have q:=(Blk.new (w.alloc (.cells #[u32v ver,.slice iA n ic,.slice oA m oc,u32v lock] 48)) 61 [.int .u32 0,.slice none 0 0,.slice none 0 0,.int .u32 0]).alloc (.cells #[u32v ver,.slice none 0 0,.slice none 0 0,u32v lock] 61)
  rw [World.size_alloc] at q
  exact Lib.hid q
 have HX1 : Hid (Blk w1 (w.heap.size + 1 + 1) 61 [u32v ver,.slice none 0 0,.slice none 0 0,u32v lock]):=by
  rw [hw1]
  have q:=Blk.new ((w.alloc (.cells #[u32v ver,.slice iA n ic,.slice oA m oc,u32v lock] 48)).alloc (.cells #[.int .u32 0,.slice none 0 0,.slice none 0 0,.int .u32 0] 61)) 61 [u32v ver,.slice none 0 0,.slice none 0 0,u32v lock]
  rw [World.size_alloc,World.size_alloc] at q
  exact Lib.hid q
 have HK1 : Hid (Keep w w1):=by rw [hw1];exact Lib.hid (keep_trans (keep_new _ _) (keep_trans (keep_new _ _) (keep_new _ _)))
 rw [← hw1]
 clear hw1
 have C1 : Hid (([u32v ver,.slice iA n ic,.slice oA m oc,u32v lock] : List Value)[1]? = some (.slice iA n ic)):=Lib.hid rfl
 have C2 : Hid (([u32v ver,.slice iA n ic,.slice oA m oc,u32v lock] : List Value)[2]? = some (.slice oA m oc)):=Lib.hid rfl
 generalize ([u32v ver,.slice iA n ic,.slice oA m oc,u32v lock] : List Value) = TB at HT1 C1 C2
 have hgt : w.heap.size + 1 + 1 < w1.heap.size:=HX1.out.lt
 go_upto_block 0 with fail
 have HB1:=Lib.hid (Nat.le_refl w1.heap.size)
 obtain ⟨wb,hwb⟩ : ∃ wb,w1 = wb:=⟨_,rfl⟩
 have Own0 : Hid (w1.ownsRow wb.heap.size 119 35 (.slice none 0 0) 0 ((ins.take 0).flatMap InR.cells)):=Lib.hid (World.ownsRow_nil _ _ _ _)
 rw [hwb] at HT1 HR1 HX1 HK1 Own0 hgt ⊢
 clear hwb HB1
 go_cut [] (fun wx => ∃ vi : Value,Hid (Blk wx (w.heap.size + 1 + 1) 61 [u32v ver,vi,.slice none 0 0,u32v lock])∧Hid (wx.ownsRow wb.heap.size 119 35 vi n (ins.flatMap InR.cells))∧Hid (Blk wx w.heap.size 48 TB)∧Hid (Blk wx (w.heap.size + 1) 61 [.int .u32 0,.slice none 0 0,.slice none 0 0,.int .u32 0])∧Hid (Keep w wx)∧Hid (wb.heap.size ≤ wx.heap.size))
 case first =>
  go_wp2_with fail
  go_loopw [4] (fun x wr => ∃ (k : Nat) (vi : Value),k ≤ n∧x = .int .i64 k∧Hid (Blk wr (w.heap.size + 1 + 1) 61 [u32v ver,vi,.slice none 0 0,u32v lock])∧Hid (wr.ownsRow wb.heap.size 119 35 vi k ((ins.take k).flatMap InR.cells))∧Hid (Blk wr w.heap.size 48 TB)∧Hid (Blk wr (w.heap.size + 1) 61 [.int .u32 0,.slice none 0 0,.slice none 0 0,.int .u32 0])∧Hid (Keep w wr)∧Hid (wb.heap.size ≤ wr.heap.size)) (fun x _ => n - (intOf x).toNat)
  case atStart => exact ⟨0,.slice none 0 0,Nat.zero_le _,rfl,HX1,Own0,HT1,HR1,HK1,Lib.hid (Nat.le_refl _)⟩
  case round =>
   obtain ⟨k,vi,hk,rfl,HX,Own,HT,HR,HK,HS⟩:=hrel
   clear Own0 HX1 HT1 HR1 HK1
   have t1:=(HT.out.cell 1).trans C1.out
   by_cases hlt : k < n
   ·obtain ⟨b,off,xs,x,rfl,hxs,hp,hrg,hget⟩:=HI.out k hlt
    have hxz:=hxs.z;have hxn:=hxs.n;have hxi:=hxs.i
    have RX : Hid (wr.rangeAt b (off + k * 35) xs.toList):=Lib.hid fun j v hv => keep_cell HK.out (hrg j v hv)
    have hst : (storeCells ⟨wr.heap.size,0,none⟩ xs.toList 0).run Tryd.prog (wr.alloc (.cells zs 127)) = .ok () (wr.alloc (.cells xs 127)):=run_storeCells_new (P:=Tryd.prog) wr 127 zs xs hxi (hz1.trans hxz.symm) (by have:=all_oneCell_toArray hxs.o;rwa [Array.toArray_toList] at this)
    have d4 : (k : Int) < n:=by omega
    have HXS:=Lib.hid hxs;have HP:=Lib.hid hp
    have HGE:=Lib.hid hget
    clear hxs hrg hget hp HI
    go_upto_region 6 with ((with_reducible refine load_partg b (off + k * 35) xs (Eq.trans ?_ rfl) RX.out _ Tryd.underlying127 rfl hxi rfl ?_);rfl)
    obtain ⟨w2,hw2⟩ : ∃ w2,w2 = wr.alloc (.cells xs 127):=⟨_,rfl⟩
    have HG2 : Hid (Blk w2 wr.heap.size 127 xs.toList):=by rw [hw2];exact Lib.hid (Blk.new wr _ xs.toList)
    have HX2 : Hid (Blk w2 (w.heap.size + 1 + 1) 61 [u32v ver,vi,.slice none 0 0,u32v lock]):=by rw [hw2];exact Lib.hid (HX.out.alloc _)
    have HT2 : Hid (Blk w2 w.heap.size 48 TB):=by rw [hw2];exact Lib.hid (HT.out.alloc _)
    have HR2 : Hid (Blk w2 (w.heap.size + 1) 61 [.int .u32 0,.slice none 0 0,.slice none 0 0,.int .u32 0]):=by rw [hw2];exact Lib.hid (HR.out.alloc _)
    have Own2 : Hid (w2.ownsRow wb.heap.size 119 35 vi k ((ins.take k).flatMap InR.cells)):=by rw [hw2];exact Lib.hid (Own.out.alloc _)
    have HK2 : Hid (Keep w w2):=by rw [hw2];exact Lib.hid (keep_trans HK.out (keep_new _ _))
    have HS2 : Hid (wb.heap.size ≤ w2.heap.size):=by rw [hw2];exact Lib.hid (by have:=HS.out;simp;omega)
    rw [← hw2]
    clear hw2 hst RX HX HT HR Own HK HS t1
    generalize wr.heap.size = gx at *
    obtain ⟨ss,hss⟩ : ∃ ss,HashA x.prev ss:=⟨_,HashA.of HP.out⟩
    have hsn:=hss.n;have hsz:=hss.z;have hsi:=hss.i
    have HSS:=Lib.hid hss
    have hsl : xs.toList = ss.toList ++ [u32v x.ix,.slice x.A x.sc.length x.cap,u32v x.seq]:=by rw [HXS.out.l,HSS.out.l];rfl
    have hsll : ss.toList.length = 32:=by rw [Array.length_toList];exact hsz
    have RS : Hid (w2.rangeAt gx 0 ss.toList):=Lib.hid (range_of HG2.out 0 ss.toList (by rw [hsl,List.drop_zero,List.take_left' rfl]))
    have x32 : w2.cell? ⟨gx,32,none⟩ = some (u32v x.ix):=by rw [HG2.out.cell,hsl,List.getElem?_append_right (by omega),hsll];rfl
    have x33 : w2.cell? ⟨gx,33,none⟩ = some (.slice x.A x.sc.length x.cap):=by rw [HG2.out.cell,hsl,List.getElem?_append_right (by omega),hsll];rfl
    have x34 : w2.cell? ⟨gx,34,none⟩ = some (u32v x.seq):=by rw [HG2.out.cell,hsl,List.getElem?_append_right (by omega),hsll];rfl
    obtain ⟨es,hes⟩ : ∃ es : Array Value,es = (x.prev.map u8v ++ [u32v x.ix,.slice x.A x.sc.length x.cap,u32v x.seq]).toArray:=⟨_,rfl⟩
    have HBu : Hid (Tryd.prog.built 119 [(0,.agg ss),(1,u32v x.ix),(2,.slice x.A x.sc.length x.cap),(3,u32v x.seq)] = some es):=Lib.hid (by rw [hes];exact rin_built _ _ _ _ _ _ _ HP.out HSS.out)
    have hel : es.toList = x.cells:=by rw [hes];rfl
    have hez : es.size = 35:=by rw [hes];simp [HP.out]
    have HEO : Hid (∀ v ∈ es.toList,v.oneCell' = true):=Lib.hid (by rw [hel];exact x.one)
    have HEL:=Lib.hid hel
    have y1:=HX2.out.cell 1
    simp only [List.getElem?_cons_succ,List.getElem?_cons_zero] at y1
    clear hss hes hel hsl hsll HXS HG2
    obtain ⟨Av,cv,rfl,-,-,-⟩:=own_form Own2.out
    go_wp2_with (first
     | ((with_reducible refine load_partg gx 0 ss (Eq.trans ?_ rfl) RS.out _ hash_under rfl hsi rfl ?_);rfl)
     | ((with_reducible refine list_bldg [(0,.agg ss),(1,u32v x.ix),(2,.slice x.A x.sc.length x.cap),(3,u32v x.seq)] es (Eq.trans ?_ rfl) HBu.out (Eq.trans ?_ rfl) ?_);rfl;rfl)
     | ((with_reducible refine list_build1h rinT es hez (by omega) (Eq.trans ?_ rfl) ?_);rfl)
     | (at_builtin;refine wpList_app rinT (by rfl) _ _ (by rfl) wb.heap.size _ k _ (by rfl) (Own2.out.alloc _) _ 1 1 es.toList (by rfl) (by rw [Array.length_toList,hez]) (by simpa using Rd.new w2 es.toList 119) HEO.out (by omega) (by unfold maxLen;omega) (by have:=HS2.out;simp;omega) ?_;intro v3 w3 own3 hg3 hat3;obtain ⟨Aw,cw,rfl,-,-,-⟩:=own_form own3;have HX3:=Lib.hid ((HX2.out.alloc (.cells es 119)).grown hg3 (fun q => by have:=(Own2.out.lt _ q).1;omega));have HT3:=Lib.hid ((HT2.out.alloc (.cells es 119)).grown hg3 (fun q => by have:=(Own2.out.lt _ q).1;omega));have HR3:=Lib.hid ((HR2.out.alloc (.cells es 119)).grown hg3 (fun q => by have:=(Own2.out.lt _ q).1;omega));have y3:=HX3.out.cell 1;have f3:=HX3.out.frozen 1;simp only [List.getElem?_cons_succ,List.getElem?_cons_zero] at y3;have Own3:=Lib.hid own3;have HK3 : Hid (Keep w w3):=Lib.hid (keep_grown (keep_trans HK2.out (keep_new _ _)) (by have:=HK2.out.size;simp;omega) hg3 (own_base (Own2.out.alloc (.cells es 119)) (by omega)));have HS3 : Hid (wb.heap.size ≤ w3.heap.size):=Lib.hid (by have:=HS2.out;have:=hg3.size;simp at this;omega);clear own3 hg3 hat3))
    obtain ⟨w4,hw4⟩ : ∃ w4,w4 = w3.setCell ⟨w.heap.size + 1 + 1,1,none⟩ (.slice Aw (k + 1) cw):=⟨_,rfl⟩
    have HX4 : Hid (Blk w4 (w.heap.size + 1 + 1) 61 [u32v ver,.slice Aw (k + 1) cw,.slice none 0 0,u32v lock]):=by rw [hw4];exact Lib.hid (HX3.out.set_ 1 (.slice Aw (k + 1) cw))
    have HT4 : Hid (Blk w4 w.heap.size 48 TB):=by rw [hw4];exact Lib.hid (HT3.out.far (by simp <;> omega) _)
    have HR4 : Hid (Blk w4 (w.heap.size + 1) 61 [.int .u32 0,.slice none 0 0,.slice none 0 0,.int .u32 0]):=by rw [hw4];exact Lib.hid (HR3.out.far (by simp) _)
    have Own4 : Hid (w4.ownsRow wb.heap.size 119 35 (.slice Aw (k + 1) cw) (k + 1) ((ins.take (k + 1)).flatMap InR.cells)):=by
     rw [hw4]
     refine Lib.hid (own_eq (ownsRow_setCell_below Own3.out (a:=⟨w.heap.size + 1 + 1,1,none⟩) (by omega) _) rfl ?_)
     rw [HEL.out,List.take_add_one,HGE.out,List.flatMap_append];simp
    have HK4 : Hid (Keep w w4):=by rw [hw4];exact Lib.hid (Below.setCell HK3.out (by simp <;> omega) _)
    have HS4 : Hid (wb.heap.size ≤ w4.heap.size):=by rw [hw4];exact Lib.hid (by have:=HS3.out;simpa using this)
    rw [← hw4]
    clear hw4 HX3 HT3 HR3 Own3 HK3 HS3 y3 f3 HX2 HT2 HR2 Own2 HK2 HS2 RS x32 x33 x34 y1 HBu HEO HEL HGE HSS HP
    go_roundw
    case rel => exact ⟨k + 1,_,by omega,by go_num,HX4,Own4,HT4,HR4,HK4,HS4⟩
    case measure => simp [intOf];omega
   ·obtain rfl : k = n:=by omega
    have d4 : ¬ (k : Int) < k:=by omega
    have OwnF : Hid (wr.ownsRow wb.heap.size 119 35 vi k (ins.flatMap InR.cells)):=Lib.hid (own_eq Own.out rfl (by rw [List.take_of_length_le (by rw [HNN.out];omega)]))
    clear HI Own
    go_wp2
    go_meet
    exact ⟨vi,HX,OwnF,HT,HR,HK,HS⟩
 case rest =>
  obtain ⟨vi,HX5,OwnI,HT5,HR5,HK5,HS5⟩:=hcut
  clear HX1 HT1 HR1 HK1 Own0 C1 HI
  obtain ⟨Avi,cvi,rfl,hcv1,hcv2,-⟩:=own_form OwnI.out
  have hg5:=HX5.out.lt
  go_wp2_with fail
  have OwnO : Hid (wc.ownsRow wc.heap.size 121 2 (.slice none 0 0) 0 ((outs.take 0).flatMap OutR.cells)):=Lib.hid (World.ownsRow_nil _ _ _ _)
  have KX5 : Hid (KeepX (fun k => k = w.heap.size + 1 + 1) wc wc):=Lib.hid (KeepX.of (Below.refl _ _))
  go_loopw [6] (fun x wr => ∃ (j : Nat) (vo : Value),j ≤ m∧x = .int .i64 j∧Hid (Blk wr (w.heap.size + 1 + 1) 61 [u32v ver,.slice Avi n cvi,vo,u32v lock])∧Hid (wr.ownsRow wc.heap.size 121 2 vo j ((outs.take j).flatMap OutR.cells))∧Hid (Blk wr w.heap.size 48 TB)∧Hid (Blk wr (w.heap.size + 1) 61 [.int .u32 0,.slice none 0 0,.slice none 0 0,.int .u32 0])∧Hid (Keep w wr)∧Hid (KeepX (fun k => k = w.heap.size + 1 + 1) wc wr)) (fun x _ => m - (intOf x).toNat)
  case atStart => exact ⟨0,.slice none 0 0,Nat.zero_le _,rfl,HX5,OwnO,HT5,HR5,HK5,KX5⟩
  case round =>
   obtain ⟨j,vo,hj,rfl,HX,Own,HT,HR,HK,KX⟩:=hrel
   clear OwnO KX5 HX5 HT5 HR5 HK5
   have t2:=(HT.out.cell 2).trans C2.out
   by_cases hlt : j < m
   ·obtain ⟨b,off,x,rfl,c0,c1,hget⟩:=HO.out j hlt
    have hbl : b < w.heap.size:=cell_lt c0
    have c0:=keep_cell HK.out c0;have c1:=keep_cell HK.out c1
    have d4 : (j : Int) < m:=by omega
    have HGE:=Lib.hid hget
    clear hget HO
    obtain ⟨Av,cv,rfl,-,-,-⟩:=own_form Own.out
    go_upto_region 10 with fail
    letI iM : G.Mk:=⟨(Value.slice Av j cv).ownBlock⟩
    refine G.wp_region_tree (.take [0,1,2,3,4,5,6,7,8,9,10,11,12,13,14] (.force [15,16] .done)) [17,18] (by kernel_rfl) (by kernel_rfl) (fun w8 k8 => ?_)
    have HX8:=Lib.hid (HX.out.keep k8);have Own8:=Lib.hid (own_keep Own.out k8);have HT8:=Lib.hid (HT.out.keep k8);have HR8:=Lib.hid (HR.out.keep k8);have HK8:=Lib.hid (keep_trans HK.out k8)
    have KX8 : Hid (KeepX (fun k => k = w.heap.size + 1 + 1) wc w8):=Lib.hid (KX.out.trans (KeepX.of k8) fun _ _ q => q)
    have c0:=keep_cell k8 c0;have c1:=keep_cell k8 c1
    clear k8 HX Own HT HR HK KX t2
    have hneX : G.Mk.m ≠ some (w.heap.size + 1 + 1):=fun q => by have:=(Own8.out.lt _ q).1;omega
    have hneT : G.Mk.m ≠ some w.heap.size:=fun q => by have:=(Own8.out.lt _ q).1;omega
    have hneB : G.Mk.m ≠ some b:=fun q => by have:=(Own8.out.lt _ q).1;omega
    have b0:=G.aftG_cell (HX8.out.cell 2) hneX
    have b1:=G.aftG_cell ((HT8.out.cell 2).trans C2.out) hneT
    have b2:=G.aftG_cell c0 hneB;have b3:=G.aftG_cell c1 hneB
    try simp only [List.getElem?_cons_succ,List.getElem?_cons_zero] at b0
    refine G.mt_take w8 (G.Gr.refl _) ?_
    simp only [pick_cons,pick_nil,nth_zero,nth_succ]
    repeat (go_big_quiet_step (fail))
    refine wpQuiet_nil (G.mt_force ?_)
    clear b0 b1 b2 b3 hneX hneT hneB c0 c1
    simp only [pick_cons,pick_nil,nth_zero,nth_succ]
    refine G.fc_step rfl (fun K hK => ?_)
    go_simp
    refine hK _ _ (G.Gr.of_keep (keep_new _ _)) ?_
    clear hK K
    obtain ⟨w9,hw9⟩ : ∃ w9,w9 = w8.alloc (.cells #[u64v x.val,.slice x.A x.sc.length x.cap] 121):=⟨_,rfl⟩
    have HL9 : Hid (Rd w9 (some ⟨w8.heap.size,0,none⟩) [u64v x.val,.slice x.A x.sc.length x.cap]):=by rw [hw9];exact Lib.hid (Rd.new w8 [u64v x.val,.slice x.A x.sc.length x.cap] 121)
    have k9 : Keep w8 w9:=by rw [hw9];exact keep_new _ _
    rw [← hw9]
    have HX9:=Lib.hid (HX8.out.keep k9);have Own9:=Lib.hid (own_keep Own8.out k9);have HT9:=Lib.hid (HT8.out.keep k9);have HR9:=Lib.hid (HR8.out.keep k9);have HK9:=Lib.hid (keep_trans HK8.out k9)
    have KX9 : Hid (KeepX (fun k => k = w.heap.size + 1 + 1) wc w9):=Lib.hid (KX8.out.trans (KeepX.of k9) fun _ _ q => q)
    clear hw9 k9 HX8 Own8 HT8 HR8 HK8 KX8
    have hs9:=KX9.out.2.2.2.1
    refine G.fc_step rfl (fun K hK => ?_)
    refine wp_app routT _ _ (by rfl) wc.heap.size _ j _ (by rfl) Own9.out _ 1 1 [u64v x.val,.slice x.A x.sc.length x.cap] (by rfl) (by rfl) HL9.out (by intro u hu;simp at hu;rcases hu with rfl | rfl <;> rfl) (by omega) (by unfold maxLen;omega) hs9 ?_
    intro v' wq ownq hgq hatq
    refine hK _ _ hgq ?_
    clear hK K HL9
    simp only [Act.put,Array.set!_eq_setIfInBounds,List.setIfInBounds_toArray,List.set_cons_succ,List.set_cons_zero]
    have HXq:=Lib.hid (HX9.out.grown hgq (fun q => by have:=(Own9.out.lt _ q).1;omega))
    have HTq:=Lib.hid (HT9.out.grown hgq (fun q => by have:=(Own9.out.lt _ q).1;omega))
    have HRq:=Lib.hid (HR9.out.grown hgq (fun q => by have:=(Own9.out.lt _ q).1;omega))
    have HKq : Hid (Keep w wq):=Lib.hid (keep_grown HK9.out HK9.out.size hgq (own_base Own9.out (by omega)))
    have KXq : Hid (KeepX (fun k => k = w.heap.size + 1 + 1) wc wq):=Lib.hid (KX9.out.grown hgq (fun i hi q => by have:=(Own9.out.lt _ q).1;omega))
    have Ownq:=Lib.hid ownq
    clear ownq hgq hatq HX9 HT9 HR9 HK9 KX9 Own9 hs9
    obtain ⟨Aw,cw,rfl,-,-,-⟩:=own_form Ownq.out
    have y3:=HXq.out.cell 2;have f3:=HXq.out.frozen 2
    simp only [List.getElem?_cons_succ,List.getElem?_cons_zero] at y3
    refine G.fc_nil (G.mt_end ?_)
    clear iM
    go_wp2
    obtain ⟨w4,hw4⟩ : ∃ w4,w4 = wq.setCell ⟨w.heap.size + 1 + 1,2,none⟩ (.slice Aw (j + 1) cw):=⟨_,rfl⟩
    have HX4 : Hid (Blk w4 (w.heap.size + 1 + 1) 61 [u32v ver,.slice Avi n cvi,.slice Aw (j + 1) cw,u32v lock]):=by rw [hw4];exact Lib.hid (HXq.out.set_ 2 (.slice Aw (j + 1) cw))
    have HT4 : Hid (Blk w4 w.heap.size 48 TB):=by rw [hw4];exact Lib.hid (HTq.out.far (by simp <;> omega) _)
    have HR4 : Hid (Blk w4 (w.heap.size + 1) 61 [.int .u32 0,.slice none 0 0,.slice none 0 0,.int .u32 0]):=by rw [hw4];exact Lib.hid (HRq.out.far (by simp) _)
    have Own4 : Hid (w4.ownsRow wc.heap.size 121 2 (.slice Aw (j + 1) cw) (j + 1) ((outs.take (j + 1)).flatMap OutR.cells)):=by
     rw [hw4]
     refine Lib.hid (own_eq (ownsRow_setCell_below Ownq.out (a:=⟨w.heap.size + 1 + 1,2,none⟩) (by omega) _) rfl ?_)
     rw [List.take_add_one,HGE.out,List.flatMap_append];simp [OutR.cells]
    have HK4 : Hid (Keep w w4):=by rw [hw4];exact Lib.hid (Below.setCell HKq.out (by simp <;> omega) _)
    have KX4 : Hid (KeepX (fun k => k = w.heap.size + 1 + 1) wc w4):=by rw [hw4];exact Lib.hid (KeepB.set KXq.out 2 _)
    rw [← hw4]
    clear hw4 HXq HTq HRq Ownq HKq KXq y3 f3 HGE
    go_roundw
    case rel => exact ⟨j + 1,_,by omega,by go_num,HX4,Own4,HT4,HR4,HK4,KX4⟩
    case measure => simp [intOf];omega
   ·obtain rfl : j = m:=by omega
    have d4 : ¬ (j : Int) < j:=by omega
    have OwnF : Hid (wr.ownsRow wc.heap.size 121 2 vo j (outs.flatMap OutR.cells)):=Lib.hid (own_eq Own.out rfl (by rw [List.take_of_length_le (by rw [HMM.out];omega)]))
    clear HO Own
    obtain ⟨Avo,cvo,rfl,hco1,hco2,-⟩:=own_form OwnF.out
    have OwnJ:=Lib.hid (own_kx OwnI.out KX.out (fun g q e => by have:=(OwnI.out.lt g q).1;omega))
    have x0:=HX.out.cell 0;have x1:=HX.out.cell 1;have x2:=HX.out.cell 2;have x3:=HX.out.cell 3
    have z0:=HR.out.cell 0;have z1:=HR.out.cell 1;have z2:=HR.out.cell 2;have z3:=HR.out.cell 3
    have f0:=HR.out.frozen 0;have f1:=HR.out.frozen 1;have f2:=HR.out.frozen 2;have f3:=HR.out.frozen 3
    simp only [List.getElem?_cons_succ,List.getElem?_cons_zero] at x0 x1 x2 x3 z0 z1 z2 z3
    go_wp2
    have HRF:=((((HR.out.set_ 0 (u32v ver)).set_ 1 (.slice Avi n cvi)).set_ 2 (.slice Avo j cvo)).set_ 3 (u32v lock))
    have KF:=KeepB.set (KeepB.set (KeepB.set (KeepB.set (S:=w.heap.size + 1) (KeepX.of (Below.refl wr.heap.size wr)) 0 (u32v ver)) 1 (.slice Avi n cvi)) 2 (.slice Avo j cvo)) 3 (u32v lock)
    have KW:=Below.setCell (Below.setCell (Below.setCell (Below.setCell HK.out (p:=⟨w.heap.size + 1,0,none⟩) (by simp) (u32v ver)) (p:=⟨w.heap.size + 1,1,none⟩) (by simp) (.slice Avi n cvi)) (p:=⟨w.heap.size + 1,2,none⟩) (by simp) (.slice Avo j cvo)) (p:=⟨w.heap.size + 1,3,none⟩) (by simp) (u32v lock)
    have o1:=own_kx OwnJ.out KF (fun g q e => by have:=(OwnJ.out.lt g q).1;omega)
    have o2:=own_kx OwnF.out KF (fun g q e => by have:=(OwnF.out.lt g q).1;omega)
    exact bodyPost_ret (v:=.agg #[u32v ver,.slice Avi n cvi,.slice Avo j cvo,u32v lock]) (results_cell_row Tryd.results49 _ _ (w.heap.size + 1) _ _ _ _ rfl HRF Tryd.underlying61 rfl (by kernel_rfl)) rfl
     ⟨Avi,cvi,Avo,cvo,rfl,fun W hm => ⟨own_mid o1 (by omega) hm,own_mid o2 (by omega) hm,⟨by rw [HNN.out];exact hcv1,hcv2⟩,⟨by rw [HMM.out];exact hco1,hco2⟩,fun x hx => (HIS.out x hx).keep hm.1,fun x hx => (HOS.out x hx).keep hm.1⟩,KW⟩
end Go.Proofs.YtffpanlpbdnafaaDoor
