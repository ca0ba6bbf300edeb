/- Texts merged by pack.py: Hdr, Vg, Vh, Vs, Vt, Vu, Vv, Qa, Qb, Qc. -/
import Derived.Test.YtiagcenlnekdeaaGreatDoorCx6
import Derived.Test.YtiagcenlnekdeaaGreatDoorCx8
set_option maxRecDepth 1000000
set_option maxHeartbeats 16000000
open Go.Proofs.Tryz
open Go.Lib (hid)
set_option linter.unusedSimpArgs false
set_option linter.unusedVariables false
namespace Go.Proofs.YtiagcenlnekdeaaGreatDoor
open Go.RowKit
attribute [local go_sem ↓] Go.wp_at_zero Go.wp_at_succ
theorem a3F (h:Hd) (cs:Array Value) (w:World) (hk:h.ok) (hcs:bF h cs) :
  Calls prog 141 #[.agg cs] w fun e w' => ∃ A,e = .returned (.slice A 80 80)∧Rd w' A ((ji h).map ah)∧Keep w w':=by
 have hpl:=DW hk;have A1:Hid (∀ w',Calls prog 33 #[.agg cs] w' fun e w''=>e = .returned (.agg ((ji h).map ah).toArray)∧Keep w' w''):=fun w'=>a0V h cs w' hk hcs;generalize ji h=p at *;obtain⟨ps,hps⟩ : ∃ ps:Array Value,ps.toList=p.map ah:=⟨(p.map ah).toArray,rfl⟩
 have hpz:ps.size=80:=by rw[←Array.length_toList,hps,List.length_map,hpl]
 have hpn : ¬ ps = #[]:=by intro h;rw[h]at hpz;simp at hpz
 have hpi:(prog.info? 120).map (·.size)=some ps.size:=by rw[hpz];kernel_rfl
 rw[show(p.map ah).toArray=ps by rw[←hps,Array.toArray_toList]]at A1;obtain⟨zs,hz1,hz2,hz3⟩:=a7p
 have hst : ∀ ww:World,(storeCells ⟨ww.heap.size,0,none⟩ ps.toList 0).run prog (ww.alloc (.cells zs 120)) = .ok () (ww.alloc (.cells ps 120)):=fun ww =>
  run_storeCells_new (P:=prog) ww 120 zs ps hpi (hz1.trans hpz.symm) (by have:=all_oneCell_toArray (show ∀ v∈ps.toList,v.oneCell'=true by rw[hps];exact jL _);rwa[Array.toArray_toList]at this)
 have vS:=hid hps;have hcz:=hcs.z;have hcn:=hcs.n;have hci:=hcs.i
 clear hps hpi hcs hpl;go_enter func141,ntmps141
 have vM:Hid (ae (w.alloc (.cells cs 29)) w.heap.size 29 cs.toList):=ae.new w _ cs.toList;go_upto_region 1 with fail
 go_wp2_with ((with_reducible refine bY w.heap.size cs (Eq.trans ?_ rfl) vM.out _ underlying29 rfl hci ?_);rfl)
 refine(A1.out _).mono ?_;rintro e w1 ⟨rfl,k1⟩;have jK:=af (aB w _) k1;go_wp2
 go_ret
 refine⟨_,rfl,?_,af jK (aB _ _)⟩;rw[←vS.out];exact(show ae _ w1.heap.size 120 ps.toList from ae.new w1 _ ps.toList).rd
theorem b7Q (k:Nat) (hk:k<4) (n y:Int) (h0:0≤n) (h1:n<2^(8*k)) (h2:0≤y) (h3:y<256):bits .or .u32 n (y*2^(8*k)%4294967296)=n+y*2^(8*k):=by
 rcases(show k=0∨k=1∨k=2∨k=3 by omega)with rfl | rfl | rfl | rfl
 ·obtain rfl:n=0:=by simp at h1;omega
  have e:=u32_or 0 (y*2^(8*0)%4294967296) (by omega) (by omega) (by omega) (by omega);rw[e];simp;omega
 ·simp only[show(8*1:Nat)=8 from rfl,show((2:Int)^8)=256 from rfl]at *
  rw[u32_or8 _ _ h0 h1 (by omega) (by omega) (by omega)];omega
 ·simp only[show(8*2:Nat)=16 from rfl,show((2:Int)^16)=65536 from rfl]at *
  rw[u32_or16 _ _ h0 h1 (by omega) (by omega) (by omega)];omega
 ·simp only[show(8*3:Nat)=24 from rfl,show((2:Int)^24)=16777216 from rfl]at *
  rw[u32_or24 _ _ h0 h1 (by omega) (by omega) (by omega)];omega
def rP (b:List UInt8):Nat→Int
 | 0=>0
 | k+1=>rP b k+(b.getD k 0).toNat*2^(8*k)
theorem a5d (b:List UInt8) (k:Nat):0≤rP b k∧rP b k<2^(8*k):=by
 induction k with
 | zero=>simp[rP]
 | succ k ih =>
   have hy:=(b.getD k 0).toNat_lt;have hp:(0:Int)<2^(8*k):=Int.pow_pos (by omega);have e:(2:Int)^(8*(k+1))=256*2^(8*k):=by rw[Nat.mul_succ,Int.pow_add];omega
   rw[rP,e];have h1:((b.getD k 0).toNat:Int)*2^(8*k)≤255*2^(8*k):=Int.mul_le_mul_of_nonneg_right (by omega) (by omega);have h2:(0:Int)≤((b.getD k 0).toNat:Int)*2^(8*k):=Int.mul_nonneg (by omega) (by omega);omega
def iO (b:List UInt8):UInt32:=w32 (rP b 4)
theorem P9 (A:Option Addr) (b:List UInt8) (n c:Nat) (w:World) (hn:n=b.length) (hl:4≤b.length) (hr:Rd w A (b.map ah)) :
  Calls prog 209 #[.slice A n c] w fun e w'=>e = .returned (ag (iO b))∧w=w':=by
 obtain⟨g,off,rfl,hg,hc⟩:=hr.at (k:=0) (by simp;omega);have hn4:4≤n:=by omega
 clear hn;go_enter func209,ntmps209
 go_wp2_with fail
 go_loopw [3,5] (fun v i wr => ∃ k:Nat,k≤4∧i = .int .i64 k∧v = .int .u32 (rP b k)∧w=wr) (fun _ i _=>4 - (intOf i).toNat)
 case atStart=>exact⟨0,by omega,rfl,rfl,rfl⟩
 case round =>
  obtain⟨k,hk,rfl,rfl,rfl⟩:=hrel;by_cases hlt:k<4
  ·obtain⟨y,hy⟩ : ∃ y,b[k]?=some y:=⟨_,List.getElem?_eq_getElem (by omega)⟩
   have c0:=hc k (by simp;omega)
   rw[show(b.map ah)[k]'(by simp;omega)=ah y by
    obtain⟨_,h⟩:=List.getElem?_eq_some_iff.1 hy
    simp[h]]at c0
   have hy2:=y.toNat_lt;have hr1:=a5d b k;have hor:=b7Q k hlt (rP b k) y.toNat hr1.1 hr1.2 (by omega) (by omega);have a97:=hid (show rP b (k+1)=rP b k+y.toNat*2^(8*k) by rw[rP,qJ hy]);generalize rP b k=e at *;clear hy hr1 hc hr;go_wp2
   go_roundw
   case rel=>exact⟨k+1,by omega,by go_num,by rw[a97.out],by trivial⟩
   case measure=>simp[intOf];omega
  ·have Hk:=hid (show k=4 by omega)
   have hr1:=a5d b 4;go_wp2
   go_ret
   refine⟨?_,rfl⟩;rw[Hk.out];exact Gz (BB hr1.1 (by have:=hr1.2;omega))
end Go.Proofs.YtiagcenlnekdeaaGreatDoor
namespace Go.Proofs.YtiagcenlnekdeaaGreatDoor
open Go.RowKit
attribute [local go_sem ↓] Go.wp_at_zero Go.wp_at_succ
def jJ (b:List UInt8):Hd:=⟨iO b,(b.drop 4).take 32,(b.drop 36).take 32,iO (b.drop 68),iO (b.drop 72),iO (b.drop 76)⟩
theorem VD {b:List UInt8} (hb:b.length=80):(jJ b).ok:=by
 unfold jJ Hd.ok;simp[hb]
theorem b4A (a t b n:UInt32):((((Hd.cells ⟨0,z32,z32,0,0,0⟩).set 0 (ag a)).set 65 (ag t)).set 66 (ag b)).set 67 (ag n)=Hd.cells ⟨a,z32,z32,t,b,n⟩:=by kernel_rfl
theorem a3g (A:Option Addr) (b:List UInt8) (c:Nat) (w:World) (hb:b.length=80) (hc:80≤c) (hcm:c≤maxLen) (hr:Rd w A (b.map ah)) :
  Calls prog 185 #[.slice A 80 c] w fun e w' => ∃ cs,e = .returned (.tuple #[.agg cs,.int .i64 0])∧bF (jJ b) cs∧Keep w w':=by
 obtain⟨g,off,rfl,hg,_⟩:=hr.at (k:=0) (by simp;omega);unfold maxLen at hcm;obtain⟨zs,hz1,hz2,hz3,jb⟩:=Eu;obtain⟨bs,hbs⟩ : ∃ bs:Array Value,bs.toList=(Hd.cells ⟨iO b,z32,z32,iO (b.drop 68),iO (b.drop 72),iO (b.drop 76)⟩):=⟨_,rfl⟩
 have hset:(((zs.toList.set 0 (ag (iO b))).set 65 (ag (iO (b.drop 68)))).set 66 (ag (iO (b.drop 72)))).set 67 (ag (iO (b.drop 76)))=bs.toList:=by rw[jb,hbs,b4A]
 have hbz:bs.size=68:=by rw[←Array.length_toList,hbs];exact Hd.len ⟨rfl,rfl⟩
 have hbn : ¬ bs = #[]:=by intro h;rw[h]at hbz;simp at hbz
 have vT:Hid (∀ ww:World,(storeCells ⟨ww.heap.size,0,none⟩ ((((zs.toList.set 0 (ag (iO b))).set 65 (ag (iO (b.drop 68)))).set 66 (ag (iO (b.drop 72)))).set 67 (ag (iO (b.drop 76)))) 0).run prog (ww.alloc (.cells zs 29)) = .ok () (ww.alloc (.cells bs 29))):=fun ww=>by
  rw[hset];exact run_storeCells_new (P:=prog) ww 29 zs bs (by rw[hbz];kernel_rfl) (hz1.trans hbz.symm) (by have:=all_oneCell_toArray (show ∀ v∈bs.toList,v.oneCell'=true by rw[hbs];exact Hd.one _);rwa[Array.toArray_toList]at this)
 have hsub : ∀ (w':World),Keep w w' → ∀ k,k≤80→Rd w' (some ⟨g,off+k,none⟩) ((b.drop k).map ah):=fun w' h k hk=>by
  have h1:=(hr.keep h).sub k (80 - k) (by simp[hb];omega);rw[List.take_of_length_le (by simp[hb])]at h1
  rwa[List.map_drop]
 have N1:Hid (∀ w',Keep w w'→Calls prog 209 #[.slice (some ⟨g,off,none⟩) 80 c] w' fun e w''=>e = .returned (ag (iO b))∧w'=w''):=fun w' h=>P9 _ b 80 c w' hb.symm (by omega) (hr.keep h);have N4:Hid (∀ w',Keep w w'→Calls prog 209 #[.slice (some ⟨g,off+68,none⟩) 12 (c - 68)] w' fun e w''=>e = .returned (ag (iO (b.drop 68)))∧w'=w''):=fun w' h=>P9 _ (b.drop 68) 12 _ w' (by simp[hb]) (by simp[hb]) (hsub w' h 68 (by omega));have Jw:Hid (∀ w',Keep w w'→Calls prog 209 #[.slice (some ⟨g,off+72,none⟩) 8 (c - 72)] w' fun e w''=>e = .returned (ag (iO (b.drop 72)))∧w'=w''):=fun w' h=>P9 _ (b.drop 72) 8 _ w' (by simp[hb]) (by simp[hb]) (hsub w' h 72 (by omega));have Fz:Hid (∀ w',Keep w w'→Calls prog 209 #[.slice (some ⟨g,off+76,none⟩) 4 (c - 76)] w' fun e w''=>e = .returned (ag (iO (b.drop 76)))∧w'=w''):=fun w' h=>P9 _ (b.drop 76) 4 _ w' (by simp[hb]) (by simp[hb]) (hsub w' h 76 (by omega))
 have rD:Hid (∀ w',Keep w w'→Rd w' (some ⟨g,off+4,none⟩) (((b.drop 4).take 32).map ah)):=fun w' h=>by
  have h1:=(hr.keep h).sub 4 32 (by simp[hb])
  rwa[←List.map_drop,←List.map_take]at h1
 have HS2:Hid (∀ w',Keep w w'→Rd w' (some ⟨g,off+36,none⟩) (((b.drop 36).take 32).map ah)):=fun w' h=>by
  have h1:=(hr.keep h).sub 36 32 (by simp[hb])
  rwa[←List.map_drop,←List.map_take]at h1
 have a9P:=hid hbs;have Hb:=hid hb
 have ht1:Hid (((b.drop 4).take 32).length=32):=by simp[Hid,hb]
 have ht2:Hid (((b.drop 36).take 32).length=32):=by simp[Hid,hb]
 have HG:Hid (jJ b=⟨iO b,(b.drop 4).take 32,(b.drop 36).take 32,iO (b.drop 68),iO (b.drop 72),iO (b.drop 76)⟩):=rfl;generalize jJ b=H at HG ⊢;generalize iO b=na at *;generalize iO (b.drop 68)=nt at *;generalize iO (b.drop 72)=nb at *;generalize iO (b.drop 76)=nn at *;generalize (b.drop 4).take 32=p1 at *;generalize (b.drop 36).take 32=p2 at *;clear hbs hb hsub hr hset jb;go_enter func185,ntmps185
 go_upto_region 5 with fail
 have HR1:Hid (ae (w.alloc (.cells zs 29)) w.heap.size 29 zs.toList):=ae.new w _ zs.toList;have jK:=aB w (.cells zs 29);have hz0:w.heap.size<(w.alloc (.cells zs 29)).heap.size:=by simp
 generalize w.alloc (.cells zs 29)=w1 at HR1 jK hz0 ⊢
 go_cut [4] (fun p wx => ∃ w9:World,p = .pointer (some ⟨w9.heap.size,0,none⟩)∧ae wx w9.heap.size 29 bs.toList∧Keep w1 wx∧w1.heap.size≤w9.heap.size)
 case first =>
  refine bu (.take [0,2,3,5,6,8,9] (.fork 1 (.fork 4 (.fork 7 (.fork 10 (.take [11] (.force [12] .done)) 12 (.force [10] (.take [11] .done))) 12 (.force [7,10] (.take [11] .done))) 12 (.force [4,7,10] (.take [11] .done))) 12 (.force [1,4,7,10] (.take [11] .done)))) [13] (by kernel_rfl) (by kernel_rfl) (fun w9 k9=>?_);have k8:=k9;replace k9:=af jK k9;refine aN w9 (Below.refl _ _) ?_;simp only[au,ax,ak,aj];repeat(go_big_quiet_step (fail))
  refine wpQuiet_nil ?_;refine ny ?_ ?_
  ·simp only[au,ax,ak,aj]
   refine aI rfl (fun K hK=>?_);go_simp
   (with_reducible refine(N1.out _ k9).mono ?_)
   rintro e sZ ⟨rfl,rfl⟩;refine hK _ _ (Below.refl _ _) ?_;clear hK K;refine aS ?_;refine ny ?_ ?_
   ·simp only[au,ax,ak,aj]
    refine aI rfl (fun K hK=>?_);go_simp
    (with_reducible refine(N4.out _ k9).mono ?_)
    rintro e sZ ⟨rfl,rfl⟩;refine hK _ _ (Below.refl _ _) ?_;clear hK K;refine aS ?_;refine ny ?_ ?_
    ·simp only[au,ax,ak,aj]
     refine aI rfl (fun K hK=>?_);go_simp
     (with_reducible refine(Jw.out _ k9).mono ?_)
     rintro e sZ ⟨rfl,rfl⟩;refine hK _ _ (Below.refl _ _) ?_;clear hK K;refine aS ?_;refine ny ?_ ?_
     ·simp only[au,ax,ak,aj]
      refine aI rfl (fun K hK=>?_);go_simp
      (with_reducible refine(Fz.out _ k9).mono ?_)
      rintro e sZ ⟨rfl,rfl⟩;refine hK _ _ (Below.refl _ _) ?_;clear hK K;refine aS ?_;refine aN w9 (Below.refl _ _) ?_;simp only[au,ax,ak,aj];repeat(go_big_quiet_step (fail))
      refine wpQuiet_nil ?_;refine bI ?_;simp only[au,ax,ak,aj];refine aI rfl (fun K hK=>?_);go_simp;refine hK _ _ (aB _ _) ?_;clear hK K;refine aS ?_;refine aT ?_;have hst:=vT.out w9;go_wp2
      go_meet
      exact⟨w9,rfl,ae.new w9 _ bs.toList,af k8 (aB _ _),k8.size⟩
     ·simp only[au,ax,ak,aj]
      refine aI rfl (fun K hK=>?_);go_simp;refine hK _ _ (aB _ _) ?_;clear hK K;refine aS ?_;refine bI ?_;simp only[au,ax,ak,aj];refine aI rfl (fun K hK=>?_);go_simp
      (with_reducible refine(Fz.out _ (af k9 (aB _ _))).mono ?_)
      rintro e sZ ⟨rfl,rfl⟩;refine hK _ _ (Below.refl _ _) ?_;clear hK K;refine aS ?_;refine aN (w9.alloc (.cells zs 29)) (Below.refl _ _) ?_;simp only[au,ax,ak,aj];repeat(go_big_quiet_step (fail))
      refine wpQuiet_nil ?_;refine aT ?_;have hst:=vT.out w9;go_wp2
      go_meet
      exact⟨w9,rfl,ae.new w9 _ bs.toList,af k8 (aB _ _),k8.size⟩
    ·simp only[au,ax,ak,aj]
     refine aI rfl (fun K hK=>?_);go_simp;refine hK _ _ (aB _ _) ?_;clear hK K;refine aS ?_;refine bI ?_;simp only[au,ax,ak,aj];refine aI rfl (fun K hK=>?_);go_simp
     (with_reducible refine(Jw.out _ (af k9 (aB _ _))).mono ?_)
     rintro e sZ ⟨rfl,rfl⟩;refine hK _ _ (Below.refl _ _) ?_;clear hK K;refine aI rfl (fun K hK=>?_);go_simp
     (with_reducible refine(Fz.out _ (af k9 (aB _ _))).mono ?_)
     rintro e sZ ⟨rfl,rfl⟩;refine hK _ _ (Below.refl _ _) ?_;clear hK K;refine aS ?_;refine aN (w9.alloc (.cells zs 29)) (Below.refl _ _) ?_;simp only[au,ax,ak,aj];repeat(go_big_quiet_step (fail))
     refine wpQuiet_nil ?_;refine aT ?_;have hst:=vT.out w9;go_wp2
     go_meet
     exact⟨w9,rfl,ae.new w9 _ bs.toList,af k8 (aB _ _),k8.size⟩
   ·simp only[au,ax,ak,aj]
    refine aI rfl (fun K hK=>?_);go_simp;refine hK _ _ (aB _ _) ?_;clear hK K;refine aS ?_;refine bI ?_;simp only[au,ax,ak,aj];refine aI rfl (fun K hK=>?_);go_simp
    (with_reducible refine(N4.out _ (af k9 (aB _ _))).mono ?_)
    rintro e sZ ⟨rfl,rfl⟩;refine hK _ _ (Below.refl _ _) ?_;clear hK K;refine aI rfl (fun K hK=>?_);go_simp
    (with_reducible refine(Jw.out _ (af k9 (aB _ _))).mono ?_)
    rintro e sZ ⟨rfl,rfl⟩;refine hK _ _ (Below.refl _ _) ?_;clear hK K;refine aI rfl (fun K hK=>?_);go_simp
    (with_reducible refine(Fz.out _ (af k9 (aB _ _))).mono ?_)
    rintro e sZ ⟨rfl,rfl⟩;refine hK _ _ (Below.refl _ _) ?_;clear hK K;refine aS ?_;refine aN (w9.alloc (.cells zs 29)) (Below.refl _ _) ?_;simp only[au,ax,ak,aj];repeat(go_big_quiet_step (fail))
    refine wpQuiet_nil ?_;refine aT ?_;have hst:=vT.out w9;go_wp2
    go_meet
    exact⟨w9,rfl,ae.new w9 _ bs.toList,af k8 (aB _ _),k8.size⟩
  ·simp only[au,ax,ak,aj]
   refine aI rfl (fun K hK=>?_);go_simp;refine hK _ _ (aB _ _) ?_;clear hK K;refine aS ?_;refine bI ?_;simp only[au,ax,ak,aj];refine aI rfl (fun K hK=>?_);go_simp
   (with_reducible refine(N1.out _ (af k9 (aB _ _))).mono ?_)
   rintro e sZ ⟨rfl,rfl⟩;refine hK _ _ (Below.refl _ _) ?_;clear hK K;refine aI rfl (fun K hK=>?_);go_simp
   (with_reducible refine(N4.out _ (af k9 (aB _ _))).mono ?_)
   rintro e sZ ⟨rfl,rfl⟩;refine hK _ _ (Below.refl _ _) ?_;clear hK K;refine aI rfl (fun K hK=>?_);go_simp
   (with_reducible refine(Jw.out _ (af k9 (aB _ _))).mono ?_)
   rintro e sZ ⟨rfl,rfl⟩;refine hK _ _ (Below.refl _ _) ?_;clear hK K;refine aI rfl (fun K hK=>?_);go_simp
   (with_reducible refine(Fz.out _ (af k9 (aB _ _))).mono ?_)
   rintro e sZ ⟨rfl,rfl⟩;refine hK _ _ (Below.refl _ _) ?_;clear hK K;refine aS ?_;refine aN (w9.alloc (.cells zs 29)) (Below.refl _ _) ?_;simp only[au,ax,ak,aj];repeat(go_big_quiet_step (fail))
   refine wpQuiet_nil ?_;refine aT ?_;have hst:=vT.out w9;go_wp2
   go_meet
   exact⟨w9,rfl,ae.new w9 _ bs.toList,af k8 (aB _ _),k8.size⟩
 case rest =>
  obtain⟨w9,rfl,Ko,k9,VV⟩:=hcut;have HB1:=hid Ko;have ZG:=hid (HR1.out.keep k9);have ai:=hid k9
  generalize w9.heap.size=G at HB1 VV ⊢;clear Ko k9 HR1;have HR1:=ZG;have yU:Hid (bs.toList.length=68):=(Array.length_toList).trans hbz;clear ZG N1 N4 Jw Fz vT;go_upto_region 6 with fail
  refine bu (.take [0,1,2,3] .done) [4] (by kernel_rfl) (by kernel_rfl) (fun v2 k2=>?_);have b2:=hid (HB1.out.keep k2);have r2:=hid (HR1.out.keep k2);have q2:=hid (af ai.out k2)
  refine aN v2 (Below.refl _ _) ?_;simp only[au,ax,ak,aj];repeat(go_big_quiet_step (fail))
  refine wpQuiet_nil (aT ?_);refine ML vY (by rfl) _ _ (by rfl) G 1 32 32 (by rfl) (some ⟨g,off+4,none⟩) 32 (c - 4) (p1.map ah) (by rfl) (by rw[List.length_map];exact ht1) (rD.out v2 (af jK q2.out)) (jL _) bs.toList _ b2.out (by rw[Array.length_toList,hbz];omega) ?_;intro w2 ho2 hg2;simp only[Act.put,Array.set!_eq_setIfInBounds,List.setIfInBounds_toArray,List.set_cons_succ,List.set_cons_zero]
  have HB2:Hid (ae w2 G 29 (splice bs.toList 1 (p1.map ah))):=by
   have h:=ho2.out
   rwa[List.take_of_length_le (by rw[List.length_map];have:p1.length=32:=ht1;omega)]at h
  have HR2:=hid (r2.out.grown hg2 (fun e=>by injection e with e;omega));have ay:Hid (Keep w1 w2):=aK q2.out hg2 (by omega);clear ho2 hg2 b2 r2 q2 k2 HB1 HR1 ai;have Hl2:Hid ((splice bs.toList 1 (p1.map ah)).length=68):=(length_splice _ _ _ (by rw[yU.out,List.length_map];have:p1.length=32:=ht1;omega)).trans yU.out;generalize hx2:splice bs.toList 1 (p1.map ah)=x2 at HB2 Hl2;have Ot:=hid hx2;clear hx2;go_upto_region 7 with fail
  refine bu (.take [0,1,2,3] .done) [4] (by kernel_rfl) (by kernel_rfl) (fun v3 k3=>?_);have b3:=hid (HB2.out.keep k3);have r3:=hid (HR2.out.keep k3);have q3:=hid (af ay.out k3)
  refine aN v3 (Below.refl _ _) ?_;simp only[au,ax,ak,aj];repeat(go_big_quiet_step (fail))
  refine wpQuiet_nil (aT ?_);refine ML vY (by rfl) _ _ (by rfl) G 33 32 32 (by rfl) (some ⟨g,off+36,none⟩) 32 (c - 36) (p2.map ah) (by rfl) (by rw[List.length_map];exact ht2) (HS2.out v3 (af jK q3.out)) (jL _) x2 _ b3.out (by rw[Hl2.out];omega) ?_;intro w3 ho3 hg3;simp only[Act.put,Array.set!_eq_setIfInBounds,List.setIfInBounds_toArray,List.set_cons_succ,List.set_cons_zero]
  have HB3:Hid (ae w3 G 29 (splice x2 33 (p2.map ah))):=by
   have h:=ho3.out
   rwa[List.take_of_length_le (by rw[List.length_map];have:p2.length=32:=ht2;omega)]at h
  have HR3:=hid (r3.out.grown hg3 (fun e=>by injection e with e;omega));have aA:Hid (Keep w1 w3):=aK q3.out hg3 (by omega);clear ho3 hg3 b3 r3 q3 k3 HB2 HR2 ay
  have hfin:splice x2 33 (p2.map ah)=H.cells:=by
   rw[←Ot.out,a9P.out,HG.out];have e1:Hd.cells ⟨na,z32,z32,nt,nb,nn⟩=[ag na]++(z32.map ah++(z32.map ah++[ag nt,ag nb,ag nn])):=rfl
   rw[e1,GL [ag na] _ _ (p1.map ah) 1 rfl (by rw[List.length_map,List.length_map];exact Eq.symm ht1),←List.append_assoc,
    GL ([ag na]++p1.map ah) _ _ (p2.map ah) 33 (by have:p1.length=32:=ht1;simp[this]) (by rw[List.length_map,List.length_map];exact Eq.symm ht2)]
   simp[Hd.cells]
  have hok:H.ok:=by rw[HG.out];exact⟨ht1,ht2⟩
  rw[hfin]at HB3;clear hfin Ot;obtain⟨cs,hcs⟩ : ∃ cs,bF H cs:=⟨_,bF.of hok⟩
  have hcz:=hcs.z;have hcn:=hcs.n;have hci:=hcs.i
  have HB4:Hid (ae w3 G 29 cs.toList):=by rw[hcs.l];exact HB3.out
  obtain⟨w8,hst,hb8,aZ⟩:=bn (P:=prog) cs.toList HR3.out (by simp[hz1,hcz]) hcs.o;have aY:=hid hb8;have bf:=hid aZ;have dh:=hid hcs
  clear hb8 aZ hcs hok;go_upto_region 8 with fail
  go_wp2_with ((with_reducible refine bY G cs (Eq.trans ?_ rfl) HB4.out _ underlying29 rfl hci ?_);rfl)
  have hk8:Keep w w3:=af jK aA.out;exact bodyPost_ret (v:=.tuple #[.agg cs,.int .i64 0]) (lq results185 aY.out underlying29 hci rfl rfl) rfl ⟨cs,rfl,dh.out,aK hk8 bf.out (by omega)⟩
def hpa (l:List Hd):List UInt8:=l.flatMap fun h=>ji h++[0]
def qM (l:List Hd):List UInt8:=mi l.length++hpa l
theorem VM (l:List Hd) (hk : ∀ h∈l,h.ok):(hpa l).length=l.length*81:=by
 unfold hpa;exact rF _ 81 l fun h hh=>by rw[List.length_append,DW (hk h hh)];rfl
theorem b5k (A:Option Addr) (l:List Hd) (c:Nat) (w:World) (hl:l.length≤2000) (hk : ∀ h∈l,h.ok) (hr:Rd w A (l.flatMap Hd.cells)) :
  Calls prog 142 #[.slice A l.length c] w fun e w' => ∃ v,e = .returned (.tuple #[v,iv 0])∧w'.ownsRow w.heap.size 5 1 v (qM l).length ((qM l).map ah)∧Keep w w':=by
 have C1:Hid (∀ y,Calls prog 177 #[.slice none 0 0,dA l.length] y fun e w' => ∃ v,e = .returned v∧w'.ownsRow y.heap.size 5 1 v (iP l.length) ((mi l.length).map ah)∧Keep y w'):=hid fun y=>b2R l.length (by omega) y;have hs:=Md l.length;have HLEN:Hid ((qM l).length=iP l.length+l.length*81):=hid (by unfold qM;rw[List.length_append,JP,VM l hk])
 have HAT:Hid (∀ k (h:k<l.length),∃ (x:Hd) (xs:Array Value),x.ok∧bF x xs∧(l.take (k+1))=l.take k++[x]∧∃ b off,A=some ⟨b,off,none⟩∧w.rangeAt b (off+k*68) xs.toList):=hid fun k h=>by
  obtain⟨b,off,h1,-,h2⟩:=PE hr hk h;have hx:=bF.of (hk _ (List.getElem_mem h));exact⟨l[k],_,hk _ (List.getElem_mem h),hx,List.take_succ_eq_append_getElem h,b,off,h1,by rw[hx.l];exact h2⟩
 have Y2:Hid ((mi l.length++hpa (l.take l.length))=qM l):=hid (by rw[List.take_length];rfl);have H0:Hid (∀ C:List UInt8,C++hpa (l.take 0)=C):=hid fun C=>by simp[hpa]
 have H1:Hid (∀ (C:List UInt8) k x,l.take (k+1)=l.take k++[x]→C++hpa (l.take (k+1))=(C++hpa (l.take k))++(ji x++[0])):=hid fun C k x h=>by rw[h];simp[hpa]
 clear hr hk;generalize qM l=R at *;generalize mi l.length=C at *;generalize iP l.length=s at *;obtain⟨n,hn⟩ : ∃ n,l.length=n:=⟨_,rfl⟩
 rw[hn]at C1 HLEN HAT Y2 hl ⊢;clear hn;have d1 : ¬ (2000:Int)<n:=by omega
 have hw:IntKind.u64.wrap (n:Int)=n:=by rw[IntKind.wrap_u64];omega
 obtain⟨zs,hz1,hz2,hz3,jb⟩:=Eu;clear jb;go_enter func142,ntmps142
 go_wp2_with fail
 refine(C1.out _).mono ?_;clear C1;rintro e w1 ⟨v1,rfl,hown,k1⟩;have nP:Hid (w1.ownsRow w.heap.size 5 1 v1 (s+0*81) ((C++hpa (l.take 0)).map ah)):=hid (jm hown (by omega) (by rw[H0.out]));have ai:=hid k1;clear k1 hown H0;go_wp2_with fail
 clear d1 hw
 go_loopw [4,16] (fun v x wr => ∃ k:Nat,k≤n∧x = .int .i64 k∧Hid (wr.ownsRow w.heap.size 5 1 v (s+k*81) ((C++hpa (l.take k)).map ah))∧Hid (Keep w wr)) (fun _ x _=>n - (intOf x).toNat)
 case atStart=>exact⟨0,Nat.zero_le _,rfl,nP,ai⟩
 case round =>
  obtain⟨k,hk,rfl,kD,bg⟩:=hrel;by_cases hlt:k<n
  ·obtain⟨x,xs,hxo,hxs,htk,b,off,rfl,hrg⟩:=HAT.out k hlt
   have jZ:=hid (H1.out C k x htk);have P1:Hid (∀ y,Calls prog 141 #[.agg xs] y fun e w' => ∃ A,e = .returned (.slice A 80 80)∧Rd w' A ((ji x).map ah)∧Keep y w'):=hid fun y=>a3F x xs y hxo hxs;have iJ:=hid (DW hxo);have hxz:=hxs.z;have zA:=hxs.n;have hxi:=hxs.i
   have um:Hid (wr.rangeAt b (off+k*68) xs.toList):=hid fun j v hv=>aC bg.out (hrg j v hv);have hst:=fK wr 29 hxi (hz1.trans hxz.symm) hxs.o;have d2:(k:Int)<n:=by omega
   clear hxo hxs htk hrg HAT H1;obtain⟨Av,cv,rfl,-,-,-⟩:=dD kD.out;go_upto_region 7 with((with_reducible refine dw b (off+k*68) xs (Eq.trans ?_ rfl) um.out _ underlying29 rfl hxi rfl ?_);rfl)
   obtain⟨w2,hw2,HB2,-,-⟩:=di wr 29 xs;have ay:Hid (Keep w w2):=by rw[hw2];exact hid (af bg.out (aB _ _))
   have Own2:Hid (w2.ownsRow w.heap.size 5 1 (.slice Av (s+k*81) cv) (s+k*81) ((C++hpa (l.take k)).map ah)):=by rw[hw2];exact hid (kD.out.alloc _)
   rw[←hw2];clear hw2 hst um bg kD;generalize wr.heap.size=gb at *;have RB:Hid (w2.rangeAt gb 0 xs.toList):=hid (cu HB2.out 0 xs.toList (by simp[List.take_of_length_le]));clear HB2;go_wp2_with ((with_reducible refine dw gb 0 xs (Eq.trans ?_ rfl) RB.out _ underlying29 rfl hxi rfl ?_);rfl)
   refine(P1.out _).mono ?_;clear P1 RB;rintro e w3 ⟨c2b,rfl,a3I,k3⟩;have aA:=hid (af ay.out k3);have Own3:=hid (jM Own2.out k3);have iG:=hid a3I;clear k3 a3I ay Own2;go_upto_region 8 with(at_builtin;refine iF jU (by rfl) _ _ (by rfl) w.heap.size _ (s+k*81) _ (by rfl) Own3.out _ 80 80 ((ji x).map ah) (by rfl) (by rw[List.length_map,iJ.out]) iG.out (Qa _) (by omega) (by unfold maxLen;omega) (by have:=aA.out.size;omega) ?_;intro v4 w4 own4 hg4 zo;have Own4:=hid own4;have aQ:=hid (lQ aA.out (by have:=aA.out.size;omega) hg4 Own3.out);clear own4 hg4 zo Own3 aA)
   go_wp2_with (at_builtin;refine iF jU (by rfl) _ _ (by rfl) w.heap.size _ (s+k*81+80) _ (by rfl) (Own4.out.alloc _) _ 1 1 [.int .u8 0] (by rfl) (by rfl) (Rd.new _ _ _) (by simp[Value.oneCell']) (by omega) (by unfold maxLen;omega) (by have:=aQ.out.size;simp;omega) ?_;intro v5 w5 qQ hg5 b4g;have Own5:=hid qQ;have aJ:=hid (lQ (aQ.out.alloc (aQ.out.size) _) (by have:=aQ.out.size;simp;omega) hg5 (Own4.out.alloc _));clear qQ hg5 b4g Own4 aQ)
   go_roundw
   case rel=>exact⟨k+1,by omega,by go_num,hid (jm Own5.out (by omega) (by rw[jZ.out];simp)),aJ⟩
   case measure=>simp[intOf];omega
  ·obtain rfl:k=n:=by omega
   have d2 : ¬ (k:Int)<k:=by omega
   obtain⟨Ao,co,rfl,-,-,-⟩:=dD kD.out;go_wp2
   exact bodyPost_ret (v:=.tuple #[.slice Ao (s+k*81) co,iv 0]) (by simp[results,results142]) rfl ⟨_,rfl,jm kD.out HLEN.out.symm (by rw[Y2.out]),bg.out⟩
def jV (b:List UInt8):Nat→Nat→List Hd × Int
 | 0,a=>if b.length≤a then([],0)else([],2)
 | n+1,a=>if b.length≤a+80 then([],1)else if b.getD (a+80) 0=0 then
     if(jV b n (a+81)).2=0 then(jJ ((b.drop a).take 80)::(jV b n (a+81)).1,0)else([],(jV b n (a+81)).2)
   else([],2)
def qL (b:List UInt8):List Hd × Int:=if(dR b 2000).2.2=0 then jV b (dR b 2000).1 (dR b 2000).2.1 else([],(dR b 2000).2.2)
def qf (ds:List Hd) (r:List Hd × Int):List Hd × Int:=if r.2=0 then(ds++r.1,0)else([],r.2)
theorem b4O (r:List Hd × Int) (h:r.2=0∨r.1=[]):qf [] r=r:=by
 unfold qf
 split
 ·rename_i q;rw[List.nil_append,←q]
 ·rename_i q
  rcases h with h | h
  ·exact absurd h q
  ·rw[←h]
theorem b4R (b:List UInt8) : ∀ n a,(jV b n a).2=0∨(jV b n a).1=[]
 | 0,a=>by unfold jV;split <;> simp
 | n+1,a=>by unfold jV;split;· exact .inr rfl
             ·split
              ·split
               ·exact .inl rfl
               ·exact .inr rfl
              ·exact .inr rfl
theorem b4Q (b:List UInt8) (ds:List Hd) (n a:Nat) (h1 : ¬ b.length≤a+80) (h2:b.getD (a+80) 0=0):qf ds (jV b (n+1) a)=qf (ds++[jJ ((b.drop a).take 80)]) (jV b n (a+81)):=by
 rw[jV,if_neg h1,if_pos h2];unfold qf;by_cases h:(jV b n (a+81)).2=0
 ·rw[if_pos h,if_pos rfl,if_pos h];simp
 ·rw[if_neg h,if_neg h,if_neg h]
theorem b4P (b:List UInt8) (ds:List Hd) (n a:Nat) (h1:b.length≤a+80):qf ds (jV b (n+1) a)=([],1):=by
 rw[jV,if_pos h1];rfl
theorem b4N (b:List UInt8) (ds:List Hd) (n a:Nat) (h1 : ¬ b.length≤a+80) (h2:b.getD (a+80) 0≠0):qf ds (jV b (n+1) a)=([],2):=by
 rw[jV,if_neg h1,if_neg h2];rfl
theorem b4M (b:List UInt8) (ds:List Hd) (a:Nat):qf ds (jV b 0 a)=if b.length≤a then(ds,0)else([],2):=by
 unfold jV
 split
 ·unfold qf;rw[if_pos rfl,List.append_nil]
 ·rfl
theorem b4S (A:Option Addr) (b:List UInt8) (c:Nat) (w:World) (hl:b.length≤1000000000) (hc:b.length≤c) (hcm:c≤maxLen) (hr:Rd w A (b.map ah)) :
  Calls prog 194 #[.slice A b.length c] w fun e w' => ∃ v,e = .returned (.tuple #[v,iv (qL b).2])∧w'.ownsRow w.heap.size 29 68 v (qL b).1.length ((qL b).1.flatMap Hd.cells)∧Keep w w':=by
 have G1:Hid (Calls prog 211 #[.slice A b.length c,dA 2000] w fun e w'=>e = .returned (.tuple #[iv (dR b 2000).1,iv (dR b 2000).2.1,iv (dR b 2000).2.2])∧Keep w w'):=hid (b1t A b c 2000 w (by omega) hr);have I9:=hid (b1v b 2000)
 have HB:Hid (∀ R,qL b=R→R=if(dR b 2000).2.2=0 then qf [] (jV b (dR b 2000).1 (dR b 2000).2.1)else([],(dR b 2000).2.2)):=hid fun R h=>by
  subst h;unfold qL;rw[b4O _ (b4R _ _ _)]
 replace HB:=hid (HB.out _ rfl);have RB:=hid hr
 have HG:Hid (∀ y A' c' a,Keep w y→a+80≤b.length→80≤c'→c'≤maxLen→Rd y A' ((b.drop a).map ah)→Calls prog 185 #[.slice A' 80 c'] y fun e w' => ∃ cs,e = .returned (.tuple #[.agg cs,.int .i64 0])∧bF (jJ ((b.drop a).take 80)) cs∧Keep y w'):=hid fun y A' c' a hy h1 h2 h3 h4=>by
  have h5:=h4.take 80;rw[←List.map_take]at h5;exact a3g A' ((b.drop a).take 80) c' y (by rw[List.length_take,List.length_drop];omega) h2 h3 h5
 have S1:Hid (∀ ds n a,¬ b.length≤a+80→b.getD (a+80) 0=0→qf ds (jV b (n+1) a)=qf (ds++[jJ ((b.drop a).take 80)]) (jV b n (a+81))):=hid fun ds n a=>b4Q b ds n a;have S2:Hid (∀ ds n a,b.length≤a+80→qf ds (jV b (n+1) a)=([],1)):=hid fun ds n a=>b4P b ds n a;have S3:Hid (∀ ds n a,¬ b.length≤a+80→b.getD (a+80) 0≠0→qf ds (jV b (n+1) a)=([],2)):=hid fun ds n a=>b4N b ds n a;have S4:Hid (∀ ds a,qf ds (jV b 0 a)=if b.length≤a then(ds,0)else([],2)):=hid fun ds a=>b4M b ds a;clear hr;generalize qL b=R at *;generalize dR b 2000=G at *;obtain⟨n,k,e0⟩:=G;obtain⟨L,hL⟩ : ∃ L,b.length=L:=⟨_,rfl⟩
 have lG:=hid hL;rw[hL]at G1 I9 HG S1 S2 S3 S4 hl hc ⊢;clear hL;unfold maxLen at hcm;simp only at G1 HB I9;obtain⟨zs,hz1,hz2,hz3,jb⟩:=Eu;clear jb;go_enter func194,ntmps194
 go_wp2_with fail
 refine G1.out.mono ?_;clear G1;rintro e w1 ⟨rfl,k1⟩;have ai:=hid k1;clear k1;have hv:=HB.out;by_cases h0:e0=0
 case neg =>
  rw[if_neg h0]at hv;subst hv;have d1:(e0 != 0)=true:=by rw[bne_iff_ne];exact h0
  clear HB I9 HG S1 S2 S3 S4;go_wp2
  exact bodyPost_ret (v:=.tuple #[.slice none 0 0,iv e0]) (by simp[results,results194]) rfl ⟨_,rfl,World.ownsRow_nil _ _ _ _,ai.out⟩
 subst h0;rw[if_pos rfl]at hv;obtain⟨q1,q2,q3,q4⟩:=I9.out rfl;have HV:=hid hv;clear hv HB I9;obtain⟨g0,a5l,rfl,-,-⟩:=RB.out.at (k:=0) (by rw[List.length_map,lG.out];omega);have hsub:IntKind.i64.wrap ((L:Int) - k)=(L:Int) - k:=IntWalk.i64_in _ (by omega);go_upto_region 4 with fail
 go_cut [0] (fun s0 wx => ∃ A',s0 = .slice A' (L - k) (c - k)∧Hid (Rd w A' ((b.drop k).map ah))∧wx=w1)
 case first =>
  go_wp2_with fail
  all_goals go_meet
  all_goals
   first
    | (refine⟨some ⟨g0,a5l+k,none⟩,rfl,hid ?_,rfl⟩
       have:=RB.out.JR (k:=k) (by rw[List.length_map,lG.out];omega)
       rw[Option.map_some,qE]at this
       rw[List.map_drop];exact this)
    | (refine⟨some ⟨g0,a5l,none⟩,by congr 1;omega,hid ?_,rfl⟩
       have:b.drop k=[]:=List.drop_eq_nil_of_le (by rw[lG.out];omega)
       rw[this];exact Rd.nil _ _)
 case rest =>
  obtain⟨A1,rfl,b0N,rfl⟩:=hcut;go_wp2_with fail
  clear hsub
  go_loopw [0,7,23] (fun s0 v x wr => ∃ (i a:Nat) (A':Option Addr) (ds:List Hd),i≤n∧a≤L∧x = .int .i64 i∧s0 = .slice A' (L - a) (c - a)∧ds.length=i∧Hid (Rd w A' ((b.drop a).map ah))∧Hid (wr.ownsRow w.heap.size 29 68 v i (ds.flatMap Hd.cells))∧Hid (R=qf ds (jV b (n - i) a))∧Hid (Keep w wr)) (fun _ _ x _=>n - (intOf x).toNat)
  case atStart=>exact⟨0,k,A1,[],Nat.zero_le _,q3,rfl,rfl,rfl,b0N,hid (World.ownsRow_nil _ _ _ _),hid (by rw[Nat.sub_zero];exact HV.out),ai⟩
  case round =>
   obtain⟨i,a,A',ds,hi,ha,rfl,rfl,hdl,Ui,kD,Ja,bg⟩:=hrel;have yJ:=hid hdl;clear hdl;by_cases hlt:i<n
   ·have d1:(i:Int)<n:=by omega
    have hr:=Ja.out;rw[show n - i=(n - (i+1))+1 by omega]at hr;by_cases h80:L≤a+80
    ·rw[S2.out _ _ _ h80]at hr
     subst hr;have d2:((L - a:Nat):Int)≤80:=by omega
     have d3:L - a≤80:=by omega
     clear Ja S1 S2 S3 S4 HG;go_wp2
     exact bodyPost_ret (v:=.tuple #[.slice none 0 0,iv 1]) (by simp[results,results194]) rfl ⟨_,rfl,World.ownsRow_nil _ _ _ _,bg.out⟩
    obtain⟨g,off,rfl,hg,hcell⟩:=Ui.out.at (k:=80) (by rw[List.length_map,List.length_drop,lG.out];omega);have c80:=hcell 80 (by rw[List.length_map,List.length_drop,lG.out];omega);have b3T:(b.map ah).drop a=(b.drop a).map ah:=List.map_drop.symm;obtain⟨y,hy⟩ : ∃ y,b.getD (a+80) 0=y:=⟨_,rfl⟩
    have hcy:wr.cell? ⟨g,off+80,none⟩=some (ah y):=by
     rw[aC bg.out c80,←hy];simp[List.getD_eq_getElem?_getD,List.getElem?_eq_getElem (show a+80<b.length by rw[lG.out];omega)]
    have a8F:=hid hcy;have gQ:=hid hy
    have HG2:Hid (∀ y m c',Keep w y→m=80→c'=c - a→Calls prog 185 #[.slice (some ⟨g,off,none⟩) m c'] y fun e w' => ∃ cs,e = .returned (.tuple #[.agg cs,.int .i64 0])∧bF (jJ ((b.drop a).take 80)) cs∧Keep y w'):=hid fun y m c' h1 h3 h4=>by
     subst h3;subst h4;exact HG.out y _ _ a h1 (by omega) (by omega) (by unfold maxLen;omega) (Ui.out.keep h1)
    have d2 : ¬ ((L - a:Nat):Int)≤80:=by omega
    have d3 : ¬ (L - a≤80):=by omega
    have d4:80≤c - a:=by omega
    have HR2:=hid hr;clear hr Ja c80 b3T hy hcy hcell HG S2;go_wp2_with fail
    (with_reducible refine(HG2.out _ _ _ bg.out rfl rfl).mono ?_)
    clear HG2;rintro e w2 ⟨cs,rfl,hcs,k2⟩;have hcz:=hcs.z;have hcn:=hcs.n;have hci:=hcs.i
    have hst:=fK w2 29 hci (hz1.trans hcz.symm) hcs.o;have dh:=hid hcs;obtain⟨Av,cv,rfl,-,-,-⟩:=dD kD.out;have Own2:=hid (jM kD.out k2);have ay:=hid (af bg.out k2);have HRW:=hid k2;clear hcs k2 kD bg;go_upto_region 11 with fail
    obtain⟨w3,hw3,HB3,-,-⟩:=di w2 29 cs;have aA:Hid (Keep w w3):=by rw[hw3];exact hid (af ay.out (aB _ _))
    have HR3:Hid (Keep wr w3):=by rw[hw3];exact hid (af HRW.out (aB _ _))
    have Own3:Hid (w3.ownsRow w.heap.size 29 68 (.slice Av i cv) i (ds.flatMap Hd.cells)):=by rw[hw3];exact hid (Own2.out.alloc _)
    rw[←hw3];clear hw3 hst ay HRW Own2;generalize w2.heap.size=gb at *;have c80:=aC HR3.out a8F.out;have RB:Hid (w3.rangeAt gb 0 cs.toList):=hid (cu HB3.out 0 cs.toList (by simp[List.take_of_length_le]));clear HB3;have d5:((80:Nat):Int)<((L - a:Nat):Int):=by omega
    by_cases hy0:y=0
    ·have d6:((y.toNat:Int)!=0)=false:=by rw[hy0];rfl
     have hr:=HR2.out;rw[S1.out _ _ _ h80 (gQ.out.trans hy0)]at hr;have HR4:=hid hr;clear hr HR2 S1 S3 hy0 gQ;have hs3:=aA.out.size;have b0L:=hid RB.out
     go_upto_region 16 with(first
      | ((with_reducible refine dw gb 0 cs (Eq.trans ?_ rfl) RB.out _ underlying29 rfl hci rfl ?_);rfl)
      | ((with_reducible refine a4G PD cs hcz (by omega) (Eq.trans ?_ rfl) ?_);rfl)
      | (at_builtin;refine iF PD (by rfl) _ _ (by rfl) w.heap.size _ i _ (by rfl) (Own3.out.alloc _) _ 1 1 cs.toList (by rfl) (by rw[Array.length_toList,hcz]) (by simpa using Rd.new w3 cs.toList 29) dh.out.o (by omega) (by unfold maxLen;omega) (by simp;omega) ?_;intro v4 w4 own4 hg4 zo;have k4:=lQ (aA.out.alloc aA.out.size _) (by simp;omega) hg4 (Own3.out.alloc _)))
     have Own4:=hid own4;have aQ:=hid k4
     clear own4 k4 hg4 zo RB b0L c80 d5 d6 Own3;have d7:((81:Nat):Int)≤((L - a:Nat):Int):=by omega
     have d8:81≤L - a:=by omega
     have EY:Hid (Rd w (if c - a=81 then some ⟨g,off,none⟩else some ⟨g,off+81,none⟩) ((b.drop (a+81)).map ah)):=hid (by
      split
      ·have:b.drop (a+81)=[]:=List.drop_eq_nil_of_le (by rw[lG.out];omega)
       rw[this];exact Rd.nil _ _
      ·have q:=Ui.out.JR (k:=81) (by rw[List.length_map,List.length_drop,lG.out];omega)
       rw[Option.map_some,qE,←List.map_drop,List.drop_drop]at q
       exact q)
     go_wp2
     go_roundw
     case rel=>exact⟨i+1,a+81,(if c - a=81 then some ⟨g,off,none⟩else some ⟨g,off+81,none⟩),ds++[jJ ((b.drop a).take 80)],by omega,by omega,by go_num,by rw[Nat.sub_sub,Nat.sub_sub],by rw[List.length_append,yJ.out];rfl,EY,hid (jm Own4.out rfl (by rw[List.flatMap_append,dh.out.l];simp)),HR4,aQ⟩
     case measure=>simp[intOf];omega
    ·have hyn:y.toNat≠0:=fun q=>hy0 (UInt8.toNat_inj.1 (q.trans rfl))
     have d6:((y.toNat:Int)!=0)=true:=by rw[bne_iff_ne];omega
     have hr:=HR2.out;rw[S3.out _ _ _ h80 (fun q=>hy0 (gQ.out.symm.trans q))]at hr;subst hr;clear HR2 S1 S3 gQ RB;go_wp2
     exact bodyPost_ret (v:=.tuple #[.slice none 0 0,iv 2]) (by simp[results,results194]) rfl ⟨_,rfl,World.ownsRow_nil _ _ _ _,aA.out⟩
   ·obtain rfl:i=n:=by omega
    have d1 : ¬ (i:Int)<i:=by omega
    have hr:=Ja.out;rw[Nat.sub_self,S4.out]at hr;clear Ja S1 S2 S3 S4 HG;obtain⟨Av,cv,rfl,-,-,-⟩:=dD kD.out;by_cases hLa:L≤a
    ·rw[if_pos hLa]at hr
     subst hr;have d2 : ¬ (0:Int)<((L - a:Nat):Int):=by omega
     have d3 : ¬ 0<L - a:=by omega
     go_wp2
     exact bodyPost_ret (v:=.tuple #[.slice Av i cv,iv 0]) (by simp[results,results194]) rfl ⟨_,rfl,jm kD.out yJ.out.symm rfl,bg.out⟩
    ·rw[if_neg hLa]at hr
     subst hr;have d2:(0:Int)<((L - a:Nat):Int):=by omega
     have d3:0<L - a:=by omega
     go_wp2
     exact bodyPost_ret (v:=.tuple #[.slice none 0 0,iv 2]) (by simp[results,results194]) rfl ⟨_,rfl,World.ownsRow_nil _ _ _ _,bg.out⟩
structure fO where
 kind:Int
 proto:UInt32
 dO:Nat
 height:UInt32
 hA:Option Addr
 hs:List Hd
 hc:Nat
 lA:Option Addr
 ls:List (List UInt8)
 lc:Nat
 stop:List UInt8
 iA:Option Addr
 is:List lJ
 ic:Nat
 bh:Hd
 total:UInt32
 sA:Option Addr
 GI:List (List UInt8)
 sc:Nat
 JV:Option Addr
 fs:List UInt8
 fc:Nat
 t:lg
def MN:Hd:=⟨0,z32,z32,0,0,0⟩
def qO (k:Int):fO:=⟨k,0,0,0,none,[],0,none,[],0,z32,none,[],0,MN,0,none,[],0,none,[],0,a6X⟩
namespace fO
def blk (m:fO):List Value:=m.bh.cells++[ag m.total,.slice m.sA m.GI.length m.sc,.slice m.JV m.fs.length m.fc]
def cells (m:fO):List Value :=
 [.int .i64 m.kind,ag m.proto,dA m.dO,ag m.height,.slice m.hA m.hs.length m.hc,.slice m.lA m.ls.length m.lc]++(m.stop.map ah++(.slice m.iA m.is.length m.ic::(m.blk++m.t.cells)))
structure ok (m:fO):Prop where
 k : -9223372036854775808≤m.kind∧m.kind≤9223372036854775807
 n:m.dO<2^64
 s:m.stop.length=32
 b:m.bh.ok
 h : ∀ x∈m.hs,x.ok
 l : ∀ x∈m.ls,x.length=32
 i : ∀ x∈m.is,x.ok
 z : ∀ x∈m.GI,x.length=32
structure at_ (m:fO) (w:World):Prop where
 o:m.ok
 h:Rd w m.hA (m.hs.flatMap Hd.cells)
 hc:m.hs.length≤m.hc∧m.hc≤maxLen
 l:Rd w m.lA (hsL m.ls)
 lc:m.ls.length≤m.lc∧m.lc≤maxLen
 i:Rd w m.iA (m.is.flatMap lJ.cells)
 ic:m.is.length≤m.ic∧m.ic≤maxLen
 s:Rd w m.sA (hsL m.GI)
 sc:m.GI.length≤m.sc∧m.sc≤maxLen
 f:Rd w m.JV (m.fs.map ah)
 fc:m.fs.length≤m.fc∧m.fc≤maxLen
 t:m.t.at w
theorem at_.keep {m:fO} {w w':World} (h:m.at_ w) (k:Keep w w'):m.at_ w':=⟨h.o,h.h.keep k,h.hc,h.l.keep k,h.lc,h.i.keep k,h.ic,h.s.keep k,h.sc,h.f.keep k,h.fc,h.t.keep k⟩
theorem b1s {m:fO} (h:m.bh.ok):m.blk.length=71:=by
 unfold blk;rw[List.length_append,Hd.len h];rfl
theorem len {m:fO} (h:m.ok):m.cells.length=114:=by
 unfold cells;simp[h.s,b1s h.b,lg.cells]
theorem one (m:fO) : ∀ u∈m.cells,u.oneCell'=true:=by
 intro u hu;unfold cells blk lg.cells at hu;simp only[List.mem_append,List.mem_cons,List.not_mem_nil,or_false,List.mem_map]at hu;rcases hu with(rfl | rfl | rfl | rfl | rfl | rfl) | ⟨y,_,rfl⟩ | rfl | (hu | rfl | rfl | rfl) | rfl | rfl | rfl | rfl
 all_goals first | rfl | exact Hd.one _ _ hu
end fO
theorem b7j:(prog.info? 118).map (·.size)=some 114:=by kernel_rfl
structure a0u (m:fO) (cs:Array Value):Prop where
 l:cs.toList=m.cells
 z:cs.size=114
 i:(prog.info? 118).map (·.size)=some cs.size
 n : ¬ cs = #[]
 o : ∀ v∈cs.toList,v.oneCell'=true
theorem a0u.of {m:fO} (h:m.ok):a0u m m.cells.toArray:=by
 have hz:m.cells.toArray.size=114:=by simpa using fO.len h
 exact⟨rfl,hz,by rw[hz];exact b7j,fun e=>by rw[e]at hz;simp at hz,by simpa using m.one⟩
noncomputable def a7A:Array Value:=match(prog.info? 118).bind (·.zero)with | some (.agg c)=>c | _ => #[]
theorem c1M:a7A.size=114:=by kernel_rfl
namespace fO
end fO
namespace fO
theorem Qy (m:fO) (A:Option Addr) (l:List Hd) (c:Nat):m.cells.set 4 (.slice A l.length c)=cells { m with hA:=A,hs:=l,hc:=c}:=rfl
end fO
structure aW where
 stage:Int
 dO:Nat
 height:UInt32
 asked:Bool
 qY:Int
 misses:Int
 magic:UInt32
 cap:Int
 rA:Option Addr
 rs:List UInt8
 rc:Nat
 bad:Int
namespace aW
def cells (p:aW):List Value:=[iv p.stage,dA p.dO,ag p.height,.bool p.asked,iv p.qY,iv p.misses,ag p.magic,iv p.cap,.slice p.rA p.rs.length p.rc,iv p.bad]
theorem one (p:aW) : ∀ u∈p.cells,u.oneCell'=true:=by
 intro u hu;unfold cells at hu;simp only[List.mem_cons,List.not_mem_nil,or_false]at hu;rcases hu with rfl | rfl | rfl | rfl | rfl | rfl | rfl | rfl | rfl | rfl <;> rfl
end aW
theorem b8c:(prog.info? 52).map (·.size)=some 10:=by kernel_rfl
structure bZ (p:aW) (cs:Array Value):Prop where
 l:cs.toList=p.cells
 z:cs.size=10
 i:(prog.info? 52).map (·.size)=some cs.size
 n : ¬ cs = #[]
 o : ∀ v∈cs.toList,v.oneCell'=true
theorem bZ.of (p:aW):bZ p p.cells.toArray :=
 ⟨rfl,rfl,b8c,(fun e=>by cases e),by simpa using p.one⟩
def rQ:aW:=⟨0,0,0,false,0,0,0,0,none,[],0,0⟩
noncomputable def QQ:Array Value:=match(prog.info? 52).bind (·.zero)with | some (.agg c)=>c | _ => #[]
theorem a7C (w:World):(zeroValue 52).run prog w = .ok (.agg QQ) w:=by kernel_rfl
theorem a7B:QQ.toList=rQ.cells:=by kernel_rfl
theorem yD : ∃ zs:Array Value,(∀ w,(zeroValue 52).run prog w = .ok (.agg zs) w)∧bZ rQ zs :=
 ⟨QQ,a7C,by
  have h:=bZ.of rQ
  rwa[←a7B,Array.toArray_toList]at h⟩
def iC (n:Int):Int:=min (max n 0) 4000000
def pg (magic:UInt32) (most:Int):aW:={ rQ with magic:=magic,cap:=iC most}
def aW.JI (p:aW):aW:={ p with stage:=3,asked:=false,rA:=none,rs:=[],rc:=0}
theorem OJ (n:Int) (w:World):Calls prog 153 #[iv n] w fun e w'=>e = .returned (iv (iC n))∧Keep w w':=by
 have HK:Hid (Keep w w):=hid (Below.refl _ _);have HB:Hid (iC n=min (max n 0) 4000000):=hid rfl;generalize iC n=B at *;go_enter func153,ntmps153
 go_wp2
 all_goals
  rename_i h1
  have e:B=_:=HB.out
  first
  | (have e3:B=4000000:=by rw[e];split at h1 <;> omega
     rw[e3]
     exact bodyPost_ret (v:=iv 4000000) (by simp[results,results153]) rfl ⟨rfl,HK.out⟩)
  | (have e3:B=0:=by rw[e];omega
     rw[e3]
     exact bodyPost_ret (v:=iv 0) (by simp[results,results153]) rfl ⟨rfl,HK.out⟩)
  | (have e3:B=n:=by rw[e];split at h1 <;> omega
     rw[e3]
     exact bodyPost_ret (v:=iv n) (by simp[results,results153]) rfl ⟨rfl,HK.out⟩)
def ik (g:UInt32) (c:Int) (A:Option Addr) (n rc:Nat) (b:Int):List Value:=[ag g,iv c,.slice A n rc,iv b]
theorem b1D:(prog.info? 50).map (·.size)=some 4:=by kernel_rfl
structure jD (l:List Value) (cs:Array Value):Prop where
 l:cs.toList=l
 z:cs.size=4
 i:(prog.info? 50).map (·.size)=some cs.size
 n : ¬ cs = #[]
 o : ∀ v∈cs.toList,v.oneCell'=true
theorem jD.of (g:UInt32) (c:Int) (A:Option Addr) (n rc:Nat) (b:Int):jD (ik g c A n rc b) (ik g c A n rc b).toArray :=
 ⟨rfl,rfl,b1D,(fun e=>by cases e),by
  intro v hv;have hv:v∈ik g c A n rc b:=by simpa using hv
  simp only[ik,List.mem_cons,List.not_mem_nil,or_false]at hv
  rcases hv with rfl | rfl | rfl | rfl <;> rfl⟩
theorem b1C (g:UInt32) (c:Int) : ∃ bs,jD (ik g c none 0 0 0) bs∧prog.built 50 [(0,ag g),(1,iv c)]=some bs:=⟨_,jD.of ..,by kernel_rfl⟩
theorem b8b (g:UInt32) (c:Int) (bs:Array Value) (h:jD (ik g c none 0 0 0) bs) : ∃ ps,bZ { rQ with magic:=g,cap:=c} ps∧prog.built 52 [(6,.agg bs)]=some ps:=by
 have e:bs=(ik g c none 0 0 0).toArray:=by rw[←h.l,Array.toArray_toList]
 subst e;exact⟨_,bZ.of _,by kernel_rfl⟩
noncomputable def XD:Array Value:=match(prog.info? 50).bind (·.zero)with | some (.agg c)=>c | _ => #[]
theorem c1w (w:World):(zeroValue 50).run prog w = .ok (.agg XD) w:=by kernel_rfl
theorem c1u:XD.toList=ik 0 0 none 0 0 0:=by kernel_rfl
theorem XE : ∃ zs:Array Value,(∀ w,(zeroValue 50).run prog w = .ok (.agg zs) w)∧jD (ik 0 0 none 0 0 0) zs :=
 ⟨XD,c1w,by
  have h:=jD.of 0 0 none 0 0 0
  rwa[←c1u,Array.toArray_toList]at h⟩
theorem a14 (g:UInt32) (n:Int) (w:World):Calls prog 107 #[ag g,iv n] w fun e w' => ∃ bs,e = .returned (.agg bs)∧jD (ik g (iC n) none 0 0 0) bs∧Keep w w':=by
 have gz:Hid (∀ y,Calls prog 153 #[iv n] y fun e w'=>e = .returned (iv (iC n))∧Keep y w'):=hid fun y=>OJ n y;generalize iC n=B at *;obtain⟨zs,hz0,aU⟩:=XE;obtain⟨bs,bC,hbl⟩:=b1C g B;have hzn:=aU.n;have hzz:=aU.z
 have hbn:=bC.n;have hbz:=bC.z;have hbi:=bC.i
 have HZ:=hid aU;have dG:=hid bC
 have RQ:=hid hbl;clear aU bC hbl;go_enter func107,ntmps107
 go_wp2_with fail
 refine(gz.out _).mono ?_;clear gz;rintro e w2 ⟨rfl,k2⟩;have ay:Hid (Keep w w2):=hid (af (aB w _) k2);have HR2:Hid (ae w2 w.heap.size 50 zs.toList):=hid ((ae.new w 50 zs.toList).keep k2);clear k2;obtain⟨w8,fQ,aY,bf⟩:=jo bs.toList HR2.out (by rw[Array.length_toList,Array.length_toList,hzz,hbz]) dG.out.o;go_wp2_with ((with_reducible refine La [(0,ag g),(1,iv B)] bs (Eq.trans ?_ rfl) RQ.out (Eq.trans ?_ rfl) ?_);rfl;rfl)
 exact bodyPost_ret (v:=.agg bs) (gJ results107 aY.out underlying50 hbi rfl rfl) rfl ⟨bs,rfl,dG.out,aK ay.out bf.out (by omega)⟩
theorem WU (g:UInt32) (n:Int) (w:World):Calls prog 75 #[ag g,iv n] w fun e w' => ∃ ps,e = .returned (.agg ps)∧bZ (pg g n) ps∧Keep w w':=by
 have Hy:Hid (∀ y,Calls prog 107 #[ag g,iv n] y fun e w' => ∃ bs,e = .returned (.agg bs)∧jD (ik g (iC n) none 0 0 0) bs∧Keep y w'):=hid fun y=>a14 g n y;unfold pg;generalize iC n=B at *;obtain⟨zs,hz0,aU⟩:=yD;have hzn:=aU.n;have hzz:=aU.z
 have HZ:=hid aU;clear aU;go_enter func75,ntmps75
 go_wp2_with fail
 refine(Hy.out _).mono ?_;clear Hy;rintro e w2 ⟨bs,rfl,bC,k2⟩;have hbn:=bC.n;have hbz:=bC.z
 obtain⟨ps,hpA,hpl⟩:=b8b g B bs bC;have hpn:=hpA.n;have hpz:=hpA.z;have hpi:=hpA.i
 have HP:=hid hpA;have RQ:=hid hpl
 clear hpl;have ay:Hid (Keep w w2):=hid (af (aB w _) k2);have HR2:Hid (ae w2 w.heap.size 52 zs.toList):=hid ((ae.new w 52 zs.toList).keep k2);clear k2 bC hpA;obtain⟨w8,fQ,aY,bf⟩:=jo ps.toList HR2.out (by rw[Array.length_toList,Array.length_toList,hzz,hpz]) HP.out.o;go_wp2_with ((with_reducible refine La [(6,.agg bs)] ps (Eq.trans ?_ rfl) RQ.out (Eq.trans ?_ rfl) ?_);rfl;rfl)
 exact bodyPost_ret (v:=.agg ps) (gJ results75 aY.out underlying52 hpi rfl rfl) rfl ⟨ps,rfl,HP.out,aK ay.out bf.out (by omega)⟩
theorem AQ (p:aW) (cs:Array Value) (hA:bZ p cs) (w:World):Calls prog 112 #[.agg cs] w fun e w' => ∃ ds,e = .returned (.agg ds)∧bZ p.JI ds∧Keep w w':=by
 obtain⟨zs,hz0,aU⟩:=yD;have hzn:=aU.n;have hzz:=aU.z
 have hcn:=hA.n;have hcz:=hA.z;have hci:=hA.i
 have HA:=hid hA;have HZ:=hid aU
 clear aU hA;go_enter func112,ntmps112
 go_upto_region 1 with fail
 obtain⟨w1,hw1,-,HR1,ai,-⟩:=qF w 52 52 cs zs;have HB1:Hid (ae w1 w.heap.size 52 p.cells):=by rw[hw1,←HA.out.l];exact(ae.new w _ cs.toList).alloc _
 rw[←hw1];clear hw1;have r0:w1.cell? ⟨w.heap.size,0,none⟩=some (iv p.stage):=(HB1.out.cell 0).trans rfl;have r3:w1.cell? ⟨w.heap.size,3,none⟩=some (.bool p.asked):=(HB1.out.cell 3).trans rfl;have r8:w1.cell? ⟨w.heap.size,8,none⟩=some (.slice p.rA p.rs.length p.rc):=(HB1.out.cell 8).trans rfl;have f0:=HB1.out.frozen 0;have f3:=HB1.out.frozen 3;have f8:=HB1.out.frozen 8
 go_upto_region 4 with fail
 obtain⟨wx,hwx⟩ : ∃ wx,wx=(((w1.setCell ⟨w.heap.size,0,none⟩ (.int .i64 3)).setCell ⟨w.heap.size,3,none⟩ (.bool false)).setCell ⟨w.heap.size,8,none⟩ (.slice none 0 0)):=⟨_,rfl⟩
 have HX:ae wx w.heap.size 52 p.JI.cells:=by
  rw[hwx];exact(((HB1.out.az 0 (.int .i64 3)).az 3 (.bool false)).az 8 (.slice none 0 0))
 have Am:Hid (ae wx (w.heap.size+1) 52 zs.toList):=by rw[hwx];exact hid (((HR1.out.far (by simp <;> omega) _).far (by simp <;> omega) _).far (by simp <;> omega) _)
 have jF:Hid (Keep w wx):=by rw[hwx];exact hid (Below.setCell (Below.setCell (Below.setCell ai.out (by simp <;> omega) _) (by simp <;> omega) _) (by simp <;> omega) _)
 rw[←hwx];clear hwx r0 f0 r3 f3 r8 f8;obtain⟨ds,hds⟩ : ∃ ds,bZ p.JI ds:=⟨_,bZ.of _⟩
 have hdz:=hds.z;have hdn:=hds.n;have hdi:=hds.i
 have gZ:=hid hds;have oI:Hid (ae wx w.heap.size 52 ds.toList):=by rw[gZ.out.l];exact HX
 obtain⟨w8,fQ,hb8,aZ⟩:=bn (P:=prog) ds.toList Am.out (by rw[Array.length_toList,Array.length_toList,hdz,hzz]) gZ.out.o;have aY:=hid hb8;have bf:=hid aZ
 clear hds hb8 aZ HX Am HB1 HR1;go_wp2_with ((with_reducible refine bY w.heap.size ds (Eq.trans ?_ rfl) oI.out _ underlying52 rfl hdi ?_);rfl)
 exact bodyPost_ret (v:=.agg ds) (gJ results112 aY.out underlying52 hdi rfl rfl) rfl ⟨ds,rfl,gZ.out,aK jF.out bf.out (by omega)⟩
theorem O7:(prog.info? 150).map (·.size)=some 2:=by kernel_rfl
noncomputable def MQ:Array Value:=match(prog.info? 150).bind (·.zero)with | some (.agg c)=>c | _ => #[]
theorem c1G (w:World):(zeroValue 150).run prog w = .ok (.agg MQ) w:=by kernel_rfl
theorem a7v:MQ.size=2:=by kernel_rfl
theorem c1F : ∀ v∈MQ.toList,v.oneCell'=true:=by
 have h:(MQ.toList.all fun v=>v.oneCell')=true:=by kernel_rfl
 exact fun v hv=>List.all_eq_true.1 h v hv
theorem QN : ∃ zs:Array Value,(∀ w,(zeroValue 150).run prog w = .ok (.agg zs) w)∧zs.size=2∧¬ zs = #[]∧(∀ v∈zs.toList,v.oneCell'=true) :=
 ⟨MQ,c1G,a7v,(fun h=>by have:=a7v;rw[h]at this;cases this),c1F⟩
theorem get_nil (g:UInt32) (n:Int) (A:Option Addr) (c:Nat) (w:World) :
  Calls prog 188 #[ag g,iv n,.slice A 0 c] w fun e w' => ∃ v,e = .returned (.tuple #[v,iv 0,iv 1])∧(∃ zs:Array Value,v = .agg zs∧zs.size=2∧¬ zs = #[]∧(∀ u∈zs.toList,u.oneCell'=true))∧Keep w w':=by
 obtain⟨zs,hz0,hzz,hzn,uA⟩:=QN;have ZW:=hid uA;clear uA;go_enter func188,ntmps188
 go_wp2_with fail
 go_loopw [19] (fun i wr=>i = .int .i64 0∧ae wr w.heap.size 150 zs.toList∧Keep w wr) (fun i _=>0)
 case atStart=>exact⟨rfl,ae.new w 150 zs.toList,aB w _⟩
 case round =>
  obtain⟨rfl,hb,hkr⟩:=hrel;have HB:=hid hb;have HK:=hid hkr;obtain⟨w8,fQ,aY,bf⟩:=jo zs.toList hb rfl ZW.out;clear hb hkr;go_wp2
  exact bodyPost_ret (v:=.tuple #[.agg zs,iv 0,iv 1]) (rU results188 _ _ w.heap.size _ _ _ _ rfl aY.out underlying150 rfl (by rw[List.size_toArray,Array.length_toList,hzz];exact O7)) rfl ⟨_,rfl,⟨zs,rfl,hzz,hzn,ZW.out⟩,aK HK.out bf.out (by omega)⟩
def zi (c:Int):Bool:=decide (c=iC c)
theorem a2d (g:UInt32) (n:Int) (A:Option Addr) (c:Nat) (b:Int) (bs:Array Value) (h:jD (ik g n A 0 c b) bs) (w:World) :
  Calls prog 155 #[.agg bs] w fun e w'=>e = .returned (.bool (zi n))∧Keep w w':=by
 have gz:Hid (∀ y,Calls prog 153 #[iv n] y fun e w'=>e = .returned (iv (iC n))∧Keep y w'):=hid fun y=>OJ n y;have BK:Hid (∀ y,Calls prog 188 #[ag g,iv n,.slice A 0 c] y fun e w' => ∃ v,e = .returned (.tuple #[v,iv 0,iv 1])∧(∃ zs:Array Value,v = .agg zs∧zs.size=2∧¬ zs = #[]∧(∀ u∈zs.toList,u.oneCell'=true))∧Keep y w'):=hid fun y=>get_nil g n A c y;obtain⟨zm,hz0,hzz,hzn,uA⟩:=QN;have hbn:=h.n;have hbz:=h.z;have hbi:=h.i
 have HA:=hid h;have HF:Hid (zi n=decide (n=iC n)):=hid rfl;generalize zi n=F at *;generalize iC n=B at *;clear h uA;obtain⟨d,hd⟩ : ∃ d,(n != B)=d:=⟨_,rfl⟩
 have hF:F=!d:=by rw[HF.out,←hd];simp[bne];by_cases e:n=B <;> simp[e]
 obtain⟨p,hp⟩ : ∃ p,(b != 0)=p:=⟨_,rfl⟩
 clear HF;go_enter func155,ntmps155
 go_upto_region 1 with fail
 obtain⟨w1,hw1,-,ai,-⟩:=di w 50 bs;have HB1:Hid (ae w1 w.heap.size 50 (ik g n A 0 c b)):=by rw[hw1,←HA.out.l];exact hid (ae.new w _ bs.toList)
 rw[←hw1];clear hw1;refine bu (.take [0,1,2,3] (.force [4] (.take [5] .done))) [] (by kernel_rfl) (by kernel_rfl) (fun w9 k9=>?_);have eY:=hid (HB1.out.keep k9);have bP:=hid (af ai.out k9);have q1:=aF (eY.out.cell 1);clear HB1 ai k9;refine aN w9 (Below.refl _ _) ?_;simp only[au,ax,ak,aj];repeat(go_big_quiet_step (fail))
 refine wpQuiet_nil (bI ?_);simp only[au,ax,ak,aj];refine aI rfl (fun K hK=>?_);go_simp
 (with_reducible refine(gz.out _).mono ?_)
 rintro e w2 ⟨rfl,k2⟩;refine hK _ _ k2 ?_;clear hK K gz;have HB2:=hid (eY.out.keep k2);have ay:=hid (af bP.out k2);clear eY bP k2 q1;refine aS (aN w2 (Below.refl _ _) ?_);simp only[au,ax,ak,aj];repeat(go_big_quiet_step (fail))
 refine wpQuiet_nil (aT ?_);have r0:w2.cell? ⟨w.heap.size,0,none⟩=some (ag g):=(HB2.out.cell 0).trans rfl;have r1:w2.cell? ⟨w.heap.size,1,none⟩=some (iv n):=(HB2.out.cell 1).trans rfl;have r2:w2.cell? ⟨w.heap.size,2,none⟩=some (.slice A 0 c):=(HB2.out.cell 2).trans rfl;have r3:w2.cell? ⟨w.heap.size,3,none⟩=some (iv b):=(HB2.out.cell 3).trans rfl
 cases d
 ·cases p
  ·go_wp2_with fail
   refine(BK.out _).mono ?_;clear BK r0 r1 r2 r3;rintro e w3 ⟨v,rfl,⟨zs,rfl,fF,hvn,a3R⟩,k3⟩;have aA:=hid (af ay.out k3);clear ay k3 HB2
   have hst : ∀ ww:World,(storeCells ⟨ww.heap.size,0,none⟩ zs.toList 0).run prog (ww.alloc (.cells zm 150)) = .ok () (ww.alloc (.cells zs 150)):=fun ww =>
    run_storeCells_new (P:=prog) ww 150 zm zs (by rw[fF];exact O7) (by rw[hzz,fF]) (by have:=all_oneCell_toArray a3R;rwa[Array.toArray_toList]at this)
   clear a3R;go_wp2
   exact bodyPost_ret (v:=.bool F) (by simp[results,results155,hF]) rfl ⟨rfl,af aA.out (aB _ _)⟩
  ·go_wp2
   exact bodyPost_ret (v:=.bool F) (by simp[results,results155,hF]) rfl ⟨rfl,ay.out⟩
 ·go_wp2
  exact bodyPost_ret (v:=.bool F) (by simp[results,results155,hF]) rfl ⟨rfl,ay.out⟩
def zM (p:aW):Bool:=decide (0≤p.stage∧p.stage≤3)&&decide (0≤p.misses∧p.misses≤3)&&(decide (0≤p.qY)&&!decide (1099511627776<p.qY))&&(!p.asked || p.stage==2)&&zi p.cap
theorem b8p (p:aW) (cs:Array Value) (hA:bZ p cs) (hr:p.rs=[]) (w:World) :
  Calls prog 154 #[.agg cs] w fun e w'=>e = .returned (.bool (zM p))∧Keep w w':=by
 obtain⟨bs,hbs⟩ : ∃ bs,jD (ik p.magic p.cap p.rA 0 p.rc p.bad) bs:=⟨_,jD.of ..⟩
 have FS:Hid (∀ y,Calls prog 155 #[.agg bs] y fun e w'=>e = .returned (.bool (zi p.cap))∧Keep y w'):=hid fun y=>a2d _ _ _ _ _ bs hbs y;have hcn:=hA.n;have hcz:=hA.z;have hci:=hA.i
 have hbn:=hbs.n;have hbz:=hbs.z;have hbi:=hbs.i
 have HS:Hid (zM p=(decide (0≤p.stage∧p.stage≤3)&&decide (0≤p.misses∧p.misses≤3)&&(decide (0≤p.qY)&&!decide (1099511627776<p.qY))&&(!p.asked || p.stage==2)&&zi p.cap)):=hid rfl;have HA:=hid hA
 have Ii:Hid (p.cells=[iv p.stage,dA p.dO,ag p.height,.bool p.asked,iv p.qY,iv p.misses]++bs.toList):=by
  rw[hbs.l];unfold aW.cells ik;rw[hr];exact hid rfl
 clear hA hbs hr;generalize zM p=S at *;generalize zi p.cap=F at *;go_enter func154,ntmps154
 go_upto_region 1 with fail
 obtain⟨w1,hw1,-,ai,-⟩:=di w 52 cs;have HB1:Hid (ae w1 w.heap.size 52 p.cells):=by rw[hw1,←HA.out.l];exact hid (ae.new w _ cs.toList)
 rw[←hw1];clear hw1;have r0:w1.cell? ⟨w.heap.size,0,none⟩=some (iv p.stage):=(HB1.out.cell 0).trans rfl;have r3:w1.cell? ⟨w.heap.size,3,none⟩=some (.bool p.asked):=(HB1.out.cell 3).trans rfl;have r4:w1.cell? ⟨w.heap.size,4,none⟩=some (iv p.qY):=(HB1.out.cell 4).trans rfl;have r5:w1.cell? ⟨w.heap.size,5,none⟩=some (iv p.misses):=(HB1.out.cell 5).trans rfl;have RB:Hid (w1.rangeAt w.heap.size 6 bs.toList):=hid (cu HB1.out 6 bs.toList (by rw[Ii.out];simp[List.take_of_length_le]));clear HB1 Ii;generalize p.stage=st at *;generalize p.asked=Dc at *;generalize p.qY=un at *;generalize p.misses=o9 at *;by_cases h0:st<0
 ·have hS:S=false:=by rw[HS.out,show decide (0≤st∧st≤3)=false from by simp;omega];rfl
  go_wp2
  exact bodyPost_ret (v:=.bool false) (by simp[results,results154]) rfl ⟨by first | rfl | rw[hS],ai.out⟩
 by_cases h1:3<st
 ·have hS:S=false:=by rw[HS.out,show decide (0≤st∧st≤3)=false from by simp;omega];rfl
  go_wp2
  exact bodyPost_ret (v:=.bool false) (by simp[results,results154]) rfl ⟨by first | rfl | rw[hS],ai.out⟩
 have e1:decide (0≤st∧st≤3)=true:=by rw[decide_eq_true_eq];omega
 by_cases h2:o9<0
 ·have hS:S=false:=by rw[HS.out,e1,show decide (0≤o9∧o9≤3)=false from by simp;omega];rfl
  go_wp2
  exact bodyPost_ret (v:=.bool false) (by simp[results,results154]) rfl ⟨by first | rfl | rw[hS],ai.out⟩
 by_cases h3:3<o9
 ·have hS:S=false:=by rw[HS.out,e1,show decide (0≤o9∧o9≤3)=false from by simp;omega];rfl
  go_wp2
  exact bodyPost_ret (v:=.bool false) (by simp[results,results154]) rfl ⟨by first | rfl | rw[hS],ai.out⟩
 have e2:decide (0≤o9∧o9≤3)=true:=by rw[decide_eq_true_eq];omega
 by_cases h4:un<0
 ·have hS:S=false:=by rw[HS.out,e1,e2,show decide (0≤un)=false from by simp;omega];rfl
  go_wp2
  exact bodyPost_ret (v:=.bool false) (by simp[results,results154]) rfl ⟨by first | rfl | rw[hS],ai.out⟩
 have e4:decide (0≤un)=true:=by rw[decide_eq_true_eq];omega
 obtain⟨u,hu⟩ : ∃ u,decide (1099511627776<un)=u:=⟨_,rfl⟩
 have HS2:Hid (S=(!u&&(!Dc || st==2)&&F)):=by rw[HS.out,e1,e2,e4,hu];exact hid (by simp)
 clear HS e1 e2 e4
 cases u
 ·by_cases hk:Dc=true
  ·subst hk
   by_cases h6:st=2
   ·subst h6
    go_wp2_with ((with_reducible refine dw w.heap.size 6 bs (Eq.trans ?_ rfl) RB.out _ underlying50 rfl hbi rfl ?_);rfl)
    refine(FS.out _).mono ?_;clear FS r0 r3 r4 r5;rintro e w3 ⟨rfl,k3⟩;have aA:=hid (af ai.out k3);clear k3;go_wp2
    exact bodyPost_ret (v:=.bool F) (by simp[results,results154]) rfl ⟨by rw[HS2.out];simp,aA.out⟩
   ·have d6:(st != 2)=true:=by simpa[bne_iff_ne]using h6
    have hS:S=false:=by rw[HS2.out];simp[h6]
    clear h6;go_wp2
    exact bodyPost_ret (v:=.bool false) (by simp[results,results154]) rfl ⟨by first | rfl | rw[hS],ai.out⟩
  ·have hk:Dc=false:=by simpa using hk
   subst hk;go_wp2_with ((with_reducible refine dw w.heap.size 6 bs (Eq.trans ?_ rfl) RB.out _ underlying50 rfl hbi rfl ?_);rfl)
   refine(FS.out _).mono ?_;clear FS r0 r3 r4 r5;rintro e w3 ⟨rfl,k3⟩;have aA:=hid (af ai.out k3);clear k3;go_wp2
   exact bodyPost_ret (v:=.bool F) (by simp[results,results154]) rfl ⟨by rw[HS2.out];simp,aA.out⟩
 ·have hS:S=false:=by rw[HS2.out];rfl
  go_wp2
  exact bodyPost_ret (v:=.bool false) (by simp[results,results154]) rfl ⟨by first | rfl | rw[hS],ai.out⟩
end Go.Proofs.YtiagcenlnekdeaaGreatDoor
