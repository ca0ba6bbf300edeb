/- Texts merged by pack.py: JoB. -/
import Derived.Test.YtiagcenlnekdeaaGreatDoorCx10
import Derived.Test.YtiagcenlnekdeaaGreatDoorCx11
set_option maxRecDepth 1000000
set_option maxHeartbeats 16000000
open Go.Proofs.Tryz
open Go.Lib (hid)
set_option linter.unusedSimpArgs false
set_option linter.unusedVariables false
namespace Go.Proofs.YtiagcenlnekdeaaGreatDoor
open Go.RowKit
attribute [local go_sem ↓] Go.wp_at_zero Go.wp_at_succ
theorem a2m {a b c:World} {row:Option Nat} (h:a.grownBy b row) (g:b.grownBy c row):a.grownBy c row:=World.grownBy.trans h g
def b0B (w0:World) (G:Nat) (d0 d1:Value) (aH:Nat) (room:Int) (k:Nat) (last:List UInt8) (A:Option Addr) (bs:List UInt8) (c:Nat) (hs:List Hd) (NX:Bool × Hd × List UInt8) (e:Ending) (w':World):Prop :=
 e = .returned (.bool NX.1)∧(NX.1=false → ∃ hv',yY w0 w' G d0 d1 aH room k last A bs c hv' hs)∧(NX.1=true → ∃ hv',yY w0 w' G d0 d1 aH room (k+1) NX.2.2 A bs c hv' (hs++[NX.2.1])∧NX.2.1.ok∧NX.2.2.length=32)
theorem yY.cells {w0 w:World} {G:Nat} {d0 d1:Value} {aH:Nat} {room:Int} {k:Nat} {last:List UInt8} {A:Option Addr} {bs:List UInt8} {c:Nat} {hv:Value} {hs:List Hd} (h:yY w0 w G d0 d1 aH room k last A bs c hv hs) (hl:last.length=32) :
  w.cell? ⟨G,2,none⟩=some (.int .i64 aH)∧w.cell? ⟨G,3,none⟩=some (.int .i64 room)∧w.cell? ⟨G,4,none⟩=some (.int .i64 k)∧w.cell? ⟨G,37,none⟩=some (.slice A bs.length c)∧w.cell? ⟨G,38,none⟩=some hv :=
 ⟨(h.blk.cell 2).trans rfl,(h.blk.cell 3).trans rfl,(h.blk.cell 4).trans rfl,(h.blk.cell 37).trans (a5R hl),(h.blk.cell 38).trans (WX hl)⟩
theorem a6Q (last:List UInt8) (seq:Int) (b:List UInt8) {ok:Bool} {H:Hd} {S:List UInt8} (h:takeD last seq b=(ok,H,S)):H.ok∧S.length=32:=by
 unfold takeD at h
 split at h
 ·rename_i hb
  injection h with h1 h2;injection h2 with h2 h3;subst h2 h3;exact⟨VD (by rw[List.length_take,List.length_drop];omega),by rw[List.length_drop];omega⟩
 ·injection h with h1 h2;injection h2 with h2 h3
  subst h2 h3;exact⟨⟨rfl,rfl⟩,rfl⟩
theorem b6d (w0 w:World) (G:Nat) (d0 d1:Value) (aH:Nat) (room:Int) (k:Nat) (last:List UInt8) (A:Option Addr) (bs:List UInt8) (c:Nat) (hv:Value) (hs:List Hd) (st:yY w0 w G d0 d1 aH room k last A bs c hv hs)
  (hll:last.length=32) (hbn:aH≤5000) (hk:k≤1024) (hbl:bs.length≤1000000) (hbc:bs.length≤c) (hcm:c≤maxLen) (bH:hs.length≤2000) (hS:bV w0) :
  Calls prog 102 #[.pointer (some ⟨G,0,none⟩)] w (b0B w0 G d0 d1 aH room k last A bs c hs (iI aH room k last bs)):=by
 unfold maxLen at hcm;have St:=hid st;have HS:=hid hS
 obtain⟨B,hBn⟩ : ∃ B,(aH+4*k)*32=B:=⟨_,rfl⟩
 have hB:((aH:Int)+4*(k:Int))*32=(B:Int):=by omega
 have lI:Hid (iI aH room k last bs=if k<dB room∧B+128≤bs.length then takeD last k ((bs.drop B).take 128)else(false,zY,z32)):=by rw[←hBn];rfl
 have hB2:B≤400000:=by omega
 clear st hS hBn;obtain⟨NX,x9⟩ : ∃ NX,iI aH room k last bs=NX:=⟨_,rfl⟩
 rw[x9]at lI ⊢;clear x9;by_cases q1:k<dB room
 ·by_cases q2:B+128≤bs.length
  ·have HX:Hid (NX=takeD last k ((bs.drop B).take 128)):=lI.out.trans (if_pos ⟨q1,q2⟩)
   have r1 : ¬ ((dB room:Nat):Int)≤(k:Int):=by omega
   have r2 : ¬ (bs.length:Int)<(B:Int)+128:=by omega
   go_enter func102,ntmps102
   go_upto_region 1 with fail
   obtain⟨c2,c3,c4,c37,l9⟩:=St.out.cells hll;have a2:=aF c2;have a4:=aF c4
   refine lC (by kernel_rfl) (by kernel_rfl) w (Below.refl _ _) ?_;repeat(go_big_quiet_step (fail))
   refine wpQuiet_nil ?_;rintro _ ⟨z,rfl⟩;have j1:=jg w z;generalize dn w z=w1 at j1 ⊢;have AA:=hid (St.out.keep j1);clear a2 a4 c2 c3 c4 c37 l9 j1;obtain⟨c2,c3,c4,c37,l9⟩:=AA.out.cells hll;go_upto_region 3 with fail
   have a3:=aF c3;have a4:=aF c4;have a37:=aF c37
   refine lC (by kernel_rfl) (by kernel_rfl) w1 (Below.refl _ _) ?_;repeat(go_big_quiet_step ((go_at_call 105;exact Eh (Gy _ _))))
   refine wpQuiet_nil ?_;rintro _ ⟨z2,rfl⟩;have j2:=jg w1 z2;generalize dn w1 z2=w2 at j2 ⊢;have uo:=hid (AA.out.keep j2);clear a3 a4 a37 c2 c3 c4 c37 l9 j2;go_upto_region 5 with fail
   obtain⟨ls,hls⟩ : ∃ ls,aX last ls:=⟨_,aX.of hll⟩
   have hlz:=hls.z;have hln:=hls.n;have nX:=hls.i
   obtain⟨sz,hSZ,a6K⟩:=XH;obtain⟨hz,wE,hzz⟩:=a7x;have xm:=hSZ.z;have a6I:=hSZ.n
   have hzs:=wE.z;have hzn:=wE.n
   have HZ:=hid wE;have nN:=hid hls;obtain⟨b,off,rfl,hb,_⟩:=uo.out.Qr.rd.at (k:=0) (by simp;omega)
   have T1:Hid (∀ w',Keep w2 w'→Calls prog 151 #[.agg ls,.int .i64 k,.slice (some ⟨b,off+B,none⟩) 128 (c - B)] w' fun e w'' => ∃ hv sv,e = .returned (.tuple #[.agg hv,.agg sv,.bool (takeD last k ((bs.drop B).take 128)).1])∧bF (takeD last k ((bs.drop B).take 128)).2.1 hv∧aX (takeD last k ((bs.drop B).take 128)).2.2 sv∧Keep w' w''):=fun w' hk'=>by
    have h1:=(uo.out.Qr.rd.keep hk').sub B 128 (by rw[List.length_map];omega);rw[←List.map_drop,←List.map_take]at h1;have hl:((bs.drop B).take 128).length=128:=by rw[List.length_take,List.length_drop];omega
    have h2:=b6g last ls k _ ((bs.drop B).take 128) (c - B) w' nN.out hll h1 (by omega) (by unfold maxLen;omega) (HS.out.keep (af uo.out.kp hk'));rw[hl]at h2;exact h2
   have HT:Hid (∀ ok H S,takeD last k ((bs.drop B).take 128)=(ok,H,S)→NX=(ok,H,S)):=fun ok H S e=>by rw[HX.out,e]
   have ZO:Hid (∀ ok H S,takeD last k ((bs.drop B).take 128)=(ok,H,S)→H.ok∧S.length=32):=fun ok H S e=>a6Q last k _ e;obtain⟨ok,H,S,Pn⟩ : ∃ ok H S,takeD last k ((bs.drop B).take 128)=(ok,H,S):=⟨_,_,_,rfl⟩
   have HT2:=hid (HT.out _ _ _ Pn);have HT3:=hid (ZO.out _ _ _ Pn)
   rw[Pn]at T1;simp only at T1;clear hls hSZ wE HX HT ZO Pn lI;obtain⟨c2,c3,c4,c37,l9⟩:=uo.out.cells hll;have hrg:w2.rangeAt G 5 ls.toList:=cu uo.out.blk 5 ls.toList (by rw[nN.out.l,List.length_map,hll];exact b8E hll);have uj:=hid hrg;clear hrg;generalize hwr:w2=wr at *
   go_cut [5,6,7] (fun s5 s6 s7 wx => ∃ p5 p6 tv sv,s5 = .pointer (some ⟨p5,0,none⟩)∧s6 = .pointer (some ⟨p6,0,none⟩)∧s7 = .bool ok∧wr.heap.size≤p5∧wr.heap.size≤p6∧Hid (ae wx p5 29 tv.toList)∧Hid (ae wx p6 27 sv.toList)∧Hid (bF H tv)∧Hid (aX S sv)∧Keep wr wx)
   case first =>
    refine bu (.take [0,1,2,3,4,5,6,7,8,9,10,11,12,13,14,15,16] (.qc 17 (.take [18,19,20,21] (.fork 22 (.force [23] .done) 23 (.force [22] .done))) 22 (.fork 17 (.take [18,19,20,21] (.force [23] .done)) 23 (.force [17] (.take [18,19,20,21] .done))) 23 (.fork 17 (.take [18,19,20,21] (.force [22] .done)) 22 (.force [17] (.take [18,19,20,21] .done))))) [24,25,26] (by kernel_rfl) (by kernel_rfl) (fun x0 q0'=>?_);have q0:=hid q0';have a4:=aF (aC q0' c4);have a37:=aF (aC q0' c37)
    have hrg0:Hid (x0.rangeAt G 5 ls.toList):=fun j v hv=>aC q0' (uj.out j v hv);clear q0';refine aN x0 (Below.refl _ _) ?_;simp only[au,ax,ak,aj];iterate 4 (go_big_quiet_step (fail))
    (with_reducible refine c1b G 5 ls (Eq.trans ?_ rfl) hrg0.out (.array 32 5) kG (uq _ _) nX ?_)
    rfl;simp only[Act.put,Array.set!_eq_setIfInBounds,List.setIfInBounds_toArray,List.set_cons_succ,List.set_cons_zero];repeat(go_big_quiet_step (fail))
    refine wpQuiet_nil ?_;clear a4 a37;refine Wv ?_ ?_ ?_
    ·simp only[au,ax,ak,aj]
     refine aI rfl (fun K hK=>?_);go_simp
     (with_reducible refine(T1.out x0 q0.out).mono ?_)
     rintro e x1 ⟨hv,sv,rfl,dW,hsv,hk⟩;refine hK _ _ hk ?_;clear hK K;have q1:=hid (af q0.out hk);have iW:=hid dW;have kZ:=hid hsv
     have fF:=dW.z;have hvn:=dW.n;have yA:=hsv.z;have QD:=hsv.n
     clear hk dW hsv;refine aS ?_;refine aN x1 (Below.refl _ _) ?_;simp only[au,ax,ak,aj];repeat(go_big_quiet_step (fail))
     refine wpQuiet_nil ?_;refine ny ?_ ?_
     ·simp only[au,ax,ak,aj]
      refine aI rfl (fun K hK=>?_);go_simp;refine hK _ _ (aB _ _) ?_;clear hK K;obtain⟨x2,hx2,y8,hk,-⟩:=di x1 29 hz;replace hk:=hk.out;have q2:=hid (af q1.out hk);rw[←hx2];clear hx2 hk;have wO:wr.heap.size≤x1.heap.size:=q1.out.size;have Eb:x1.heap.size<x2.heap.size:=y8.out.lt;generalize x1.heap.size=p5 at *;refine aS ?_;refine bI ?_;simp only[au,ax,ak,aj];refine aI rfl (fun K hK=>?_);go_simp;refine hK _ _ (aB _ _) ?_;clear hK K;obtain⟨x3,hx3,sQ,hk,-⟩:=di x2 27 sz;replace hk:=hk.out;have q3:=hid (af q2.out hk);have sO:=hid (y8.out.keep hk);have Lh:=Nat.lt_of_lt_of_le Eb hk.size;rw[←hx3];clear hx3 hk;have wP:wr.heap.size≤x2.heap.size:=q2.out.size;have Lj:x2.heap.size<x3.heap.size:=sQ.out.lt;generalize x2.heap.size=p6 at *;refine aS ?_;refine aT ?_;obtain⟨wa,lN,hba,hga⟩:=bn (P:=prog) hv.toList sO.out (by simp[hzs,fF]) iW.out.o;obtain⟨wb,yg,hbb,hgb⟩:=bn (P:=prog) sv.toList (sQ.out.grown hga (iw (by omega))) (by simp[xm,yA]) kZ.out.o;have oV:=hid (hba.grown hgb (iw (by omega)));have oW:=hid hbb;have nV:=hid hga;have oZ:=hid hgb
      clear hba hbb hga hgb;go_wp2
      go_meet
      exact⟨p5,p6,hv,sv,rfl,rfl,rfl,wO,wP,oV,oW,iW,kZ,aK (aK q3.out nV.out (by omega)) oZ.out (by omega)⟩
     ·simp only[au,ax,ak,aj]
      refine aI rfl (fun K hK=>?_);go_simp;refine hK _ _ (aB _ _) ?_;clear hK K;obtain⟨x2,hx2,y9,hk,-⟩:=di x1 27 sz;replace hk:=hk.out;have q2:=hid (af q1.out hk);rw[←hx2];clear hx2 hk;have wP:wr.heap.size≤x1.heap.size:=q1.out.size;have Ec:x1.heap.size<x2.heap.size:=y9.out.lt;generalize x1.heap.size=p6 at *;refine aS ?_;refine bI ?_;simp only[au,ax,ak,aj];refine aI rfl (fun K hK=>?_);go_simp;refine hK _ _ (aB _ _) ?_;clear hK K;obtain⟨x3,hx3,sO,hk,-⟩:=di x2 29 hz;replace hk:=hk.out;have q3:=hid (af q2.out hk);have sQ:=hid (y9.out.keep hk);have Lj:=Nat.lt_of_lt_of_le Ec hk.size;rw[←hx3];clear hx3 hk;have wO:wr.heap.size≤x2.heap.size:=q2.out.size;have Lh:x2.heap.size<x3.heap.size:=sO.out.lt;generalize x2.heap.size=p5 at *;refine aS ?_;refine aT ?_;obtain⟨wa,lN,hba,hga⟩:=bn (P:=prog) hv.toList sO.out (by simp[hzs,fF]) iW.out.o;obtain⟨wb,yg,hbb,hgb⟩:=bn (P:=prog) sv.toList (sQ.out.grown hga (iw (by omega))) (by simp[xm,yA]) kZ.out.o;have oV:=hid (hba.grown hgb (iw (by omega)));have oW:=hid hbb;have nV:=hid hga;have oZ:=hid hgb
      clear hba hbb hga hgb;go_wp2
      go_meet
      exact⟨p5,p6,hv,sv,rfl,rfl,rfl,wO,wP,oV,oW,iW,kZ,aK (aK q3.out nV.out (by omega)) oZ.out (by omega)⟩
    ·simp only[au,ax,ak,aj]
     refine aI rfl (fun K hK=>?_);go_simp;refine hK _ _ (aB _ _) ?_;clear hK K;obtain⟨x1,hx1,Ux,hk,-⟩:=di x0 29 hz;replace hk:=hk.out;have q1:=hid (af q0.out hk);rw[←hx1];clear hx1 hk;have wO:wr.heap.size≤x0.heap.size:=q0.out.size;have a4J:x0.heap.size<x1.heap.size:=Ux.out.lt;generalize x0.heap.size=p5 at *;refine aS ?_;refine ny ?_ ?_
     ·simp only[au,ax,ak,aj]
      refine aI rfl (fun K hK=>?_);go_simp
      (with_reducible refine(T1.out x1 q1.out).mono ?_)
      rintro e x2 ⟨hv,sv,rfl,dW,hsv,hk⟩;refine hK _ _ hk ?_;clear hK K;have q2:=hid (af q1.out hk);have y8:=hid (Ux.out.keep hk);have iW:=hid dW;have kZ:=hid hsv
      have fF:=dW.z;have hvn:=dW.n;have yA:=hsv.z;have QD:=hsv.n
      have Eb:=Nat.lt_of_lt_of_le a4J hk.size;clear hk dW hsv;refine aS ?_;refine aN x2 (Below.refl _ _) ?_;simp only[au,ax,ak,aj];repeat(go_big_quiet_step (fail))
      refine wpQuiet_nil ?_;refine bI ?_;simp only[au,ax,ak,aj];refine aI rfl (fun K hK=>?_);go_simp;refine hK _ _ (aB _ _) ?_;clear hK K;obtain⟨x3,hx3,sQ,hk,-⟩:=di x2 27 sz;replace hk:=hk.out;have q3:=hid (af q2.out hk);have sO:=hid (y8.out.keep hk);have Lh:=Nat.lt_of_lt_of_le Eb hk.size;rw[←hx3];clear hx3 hk;have wP:wr.heap.size≤x2.heap.size:=q2.out.size;have Lj:x2.heap.size<x3.heap.size:=sQ.out.lt;generalize x2.heap.size=p6 at *;refine aS ?_;refine aT ?_;obtain⟨wa,lN,hba,hga⟩:=bn (P:=prog) hv.toList sO.out (by simp[hzs,fF]) iW.out.o;obtain⟨wb,yg,hbb,hgb⟩:=bn (P:=prog) sv.toList (sQ.out.grown hga (iw (by omega))) (by simp[xm,yA]) kZ.out.o;have oV:=hid (hba.grown hgb (iw (by omega)));have oW:=hid hbb;have nV:=hid hga;have oZ:=hid hgb
      clear hba hbb hga hgb;go_wp2
      go_meet
      exact⟨p5,p6,hv,sv,rfl,rfl,rfl,wO,wP,oV,oW,iW,kZ,aK (aK q3.out nV.out (by omega)) oZ.out (by omega)⟩
     ·simp only[au,ax,ak,aj]
      refine aI rfl (fun K hK=>?_);go_simp;refine hK _ _ (aB _ _) ?_;clear hK K;obtain⟨x2,hx2,y9,hk,-⟩:=di x1 27 sz;replace hk:=hk.out;have q2:=hid (af q1.out hk);have y8:=hid (Ux.out.keep hk);have Eb:=Nat.lt_of_lt_of_le a4J hk.size;rw[←hx2];clear hx2 hk;have wP:wr.heap.size≤x1.heap.size:=q1.out.size;have Ec:x1.heap.size<x2.heap.size:=y9.out.lt;generalize x1.heap.size=p6 at *;refine aS ?_;refine bI ?_;simp only[au,ax,ak,aj];refine aI rfl (fun K hK=>?_);go_simp
      (with_reducible refine(T1.out x2 q2.out).mono ?_)
      rintro e x3 ⟨hv,sv,rfl,dW,hsv,hk⟩;refine hK _ _ hk ?_;clear hK K;have q3:=hid (af q2.out hk);have sO:=hid (y8.out.keep hk);have sQ:=hid (y9.out.keep hk);have iW:=hid dW;have kZ:=hid hsv
      have fF:=dW.z;have hvn:=dW.n;have yA:=hsv.z;have QD:=hsv.n
      have Lh:=Nat.lt_of_lt_of_le Eb hk.size;have Lj:=Nat.lt_of_lt_of_le Ec hk.size;clear hk dW hsv;refine aS ?_;refine aN x3 (Below.refl _ _) ?_;simp only[au,ax,ak,aj];repeat(go_big_quiet_step (fail))
      refine wpQuiet_nil ?_;refine aT ?_;obtain⟨wa,lN,hba,hga⟩:=bn (P:=prog) hv.toList sO.out (by simp[hzs,fF]) iW.out.o;obtain⟨wb,yg,hbb,hgb⟩:=bn (P:=prog) sv.toList (sQ.out.grown hga (iw (by omega))) (by simp[xm,yA]) kZ.out.o;have oV:=hid (hba.grown hgb (iw (by omega)));have oW:=hid hbb;have nV:=hid hga;have oZ:=hid hgb
      clear hba hbb hga hgb;go_wp2
      go_meet
      exact⟨p5,p6,hv,sv,rfl,rfl,rfl,wO,wP,oV,oW,iW,kZ,aK (aK q3.out nV.out (by omega)) oZ.out (by omega)⟩
    ·simp only[au,ax,ak,aj]
     refine aI rfl (fun K hK=>?_);go_simp;refine hK _ _ (aB _ _) ?_;clear hK K;obtain⟨x1,hx1,Uy,hk,-⟩:=di x0 27 sz;replace hk:=hk.out;have q1:=hid (af q0.out hk);rw[←hx1];clear hx1 hk;have wP:wr.heap.size≤x0.heap.size:=q0.out.size;have a4K:x0.heap.size<x1.heap.size:=Uy.out.lt;generalize x0.heap.size=p6 at *;refine aS ?_;refine ny ?_ ?_
     ·simp only[au,ax,ak,aj]
      refine aI rfl (fun K hK=>?_);go_simp
      (with_reducible refine(T1.out x1 q1.out).mono ?_)
      rintro e x2 ⟨hv,sv,rfl,dW,hsv,hk⟩;refine hK _ _ hk ?_;clear hK K;have q2:=hid (af q1.out hk);have y9:=hid (Uy.out.keep hk);have iW:=hid dW;have kZ:=hid hsv
      have fF:=dW.z;have hvn:=dW.n;have yA:=hsv.z;have QD:=hsv.n
      have Ec:=Nat.lt_of_lt_of_le a4K hk.size;clear hk dW hsv;refine aS ?_;refine aN x2 (Below.refl _ _) ?_;simp only[au,ax,ak,aj];repeat(go_big_quiet_step (fail))
      refine wpQuiet_nil ?_;refine bI ?_;simp only[au,ax,ak,aj];refine aI rfl (fun K hK=>?_);go_simp;refine hK _ _ (aB _ _) ?_;clear hK K;obtain⟨x3,hx3,sO,hk,-⟩:=di x2 29 hz;replace hk:=hk.out;have q3:=hid (af q2.out hk);have sQ:=hid (y9.out.keep hk);have Lj:=Nat.lt_of_lt_of_le Ec hk.size;rw[←hx3];clear hx3 hk;have wO:wr.heap.size≤x2.heap.size:=q2.out.size;have Lh:x2.heap.size<x3.heap.size:=sO.out.lt;generalize x2.heap.size=p5 at *;refine aS ?_;refine aT ?_;obtain⟨wa,lN,hba,hga⟩:=bn (P:=prog) hv.toList sO.out (by simp[hzs,fF]) iW.out.o;obtain⟨wb,yg,hbb,hgb⟩:=bn (P:=prog) sv.toList (sQ.out.grown hga (iw (by omega))) (by simp[xm,yA]) kZ.out.o;have oV:=hid (hba.grown hgb (iw (by omega)));have oW:=hid hbb;have nV:=hid hga;have oZ:=hid hgb
      clear hba hbb hga hgb;go_wp2
      go_meet
      exact⟨p5,p6,hv,sv,rfl,rfl,rfl,wO,wP,oV,oW,iW,kZ,aK (aK q3.out nV.out (by omega)) oZ.out (by omega)⟩
     ·simp only[au,ax,ak,aj]
      refine aI rfl (fun K hK=>?_);go_simp;refine hK _ _ (aB _ _) ?_;clear hK K;obtain⟨x2,hx2,y8,hk,-⟩:=di x1 29 hz;replace hk:=hk.out;have q2:=hid (af q1.out hk);have y9:=hid (Uy.out.keep hk);have Ec:=Nat.lt_of_lt_of_le a4K hk.size;rw[←hx2];clear hx2 hk;have wO:wr.heap.size≤x1.heap.size:=q1.out.size;have Eb:x1.heap.size<x2.heap.size:=y8.out.lt;generalize x1.heap.size=p5 at *;refine aS ?_;refine bI ?_;simp only[au,ax,ak,aj];refine aI rfl (fun K hK=>?_);go_simp
      (with_reducible refine(T1.out x2 q2.out).mono ?_)
      rintro e x3 ⟨hv,sv,rfl,dW,hsv,hk⟩;refine hK _ _ hk ?_;clear hK K;have q3:=hid (af q2.out hk);have sO:=hid (y8.out.keep hk);have sQ:=hid (y9.out.keep hk);have iW:=hid dW;have kZ:=hid hsv
      have fF:=dW.z;have hvn:=dW.n;have yA:=hsv.z;have QD:=hsv.n
      have Lh:=Nat.lt_of_lt_of_le Eb hk.size;have Lj:=Nat.lt_of_lt_of_le Ec hk.size;clear hk dW hsv;refine aS ?_;refine aN x3 (Below.refl _ _) ?_;simp only[au,ax,ak,aj];repeat(go_big_quiet_step (fail))
      refine wpQuiet_nil ?_;refine aT ?_;obtain⟨wa,lN,hba,hga⟩:=bn (P:=prog) hv.toList sO.out (by simp[hzs,fF]) iW.out.o;obtain⟨wb,yg,hbb,hgb⟩:=bn (P:=prog) sv.toList (sQ.out.grown hga (iw (by omega))) (by simp[xm,yA]) kZ.out.o;have oV:=hid (hba.grown hgb (iw (by omega)));have oW:=hid hbb;have nV:=hid hga;have oZ:=hid hgb
      clear hba hbb hga hgb;go_wp2
      go_meet
      exact⟨p5,p6,hv,sv,rfl,rfl,rfl,wO,wP,oV,oW,iW,kZ,aK (aK q3.out nV.out (by omega)) oZ.out (by omega)⟩
   case rest =>
    obtain⟨p5,p6,tv,sv,rfl,rfl,rfl,wO,wP,Hb5,Oe,Jp,kZ,b6n⟩:=hcut;have pR:=hid (uo.out.keep b6n);have htz:=Jp.out.z;have htn:=Jp.out.n;have hti:=Jp.out.i
    have hsz2:=kZ.out.z;have c3V:=kZ.out.n;have b5D:=kZ.out.i
    clear c2 c3 c4 c37 l9;have c2V:G<wr.heap.size:=uo.out.blk.lt
    cases ok with
    | false =>
      go_wp2
      go_ret
      rw[HT2.out];exact⟨rfl,fun _=>⟨hv,pR.out⟩,fun h=>by cases h⟩
    | true =>
      obtain⟨c2,c3,c4,c37,l9⟩:=pR.out.cells hll;have f4:=pR.out.blk.frozen 4;go_upto_region 9 with fail
      obtain⟨wd,hwd⟩ : ∃ wd,wd=wc.setCell ⟨G,4,none⟩ (.int .i64 ((k:Int)+1)):=⟨_,rfl⟩
      have a8z:Hid (ae wd G 213 (jd d0 d1 aH room ((k:Int)+1) last (.slice (some ⟨b,off,none⟩) bs.length c) hv)):=by
       rw[hwd,←b8H (n:=(k:Int))];exact pR.out.blk.az 4 _
      have CS:Hid (wc.grownBy wd (some G)):=by rw[hwd];exact eH (iH _ _)
      rw[←hwd];clear hwd c2 c3 c4 c37 l9 f4;have a8d:=hid (Hb5.out.grown CS.out (iw (by omega)));have a8l:=hid (Oe.out.grown CS.out (iw (by omega)));obtain⟨we,hst,hbe,hge⟩:=Xf (P:=prog) 5 sv.toList a8z.out (by rw[WY hll,Array.length_toList,hsz2];omega) kZ.out.o;rw[kZ.out.l,b8G hll HT3.out.2]at hbe;have ND:=hid hbe;have Jj:=hid (a2m CS.out hge)
      have a8e:=hid (a8d.out.grown hge (iw (by omega)));clear hbe hge;go_upto_region 10 with((with_reducible refine bY p6 sv (Eq.trans ?_ rfl) a8l.out (.array 32 5) kG (uq _ _) b5D ?_);rfl)
      have a5A:we.ownsRow w0.heap.size 29 68 hv hs.length (hs.flatMap Hd.cells):=pR.out.own.kept Jj.out (.inr pR.out.LG);have b47:hv.ownBlock≠some p5:=fun e=>by have h1:=(uo.out.own.lt _ e).2;omega
      have b0G:=hid a5A;clear a5A;have f38:=ND.out.frozen 38;have l9:=(ND.out.cell 38).trans (WX HT3.out.2);letI jc:_root_.Go.Proofs.YtiagcenlnekdeaaGreatDoor.G.Mk:=⟨hv.ownBlock⟩
      refine _root_.Go.Proofs.YtiagcenlnekdeaaGreatDoor.G.bu (.take [0,1,2,3,4,5] (.force [6,7] (.take [8,9] .done))) [10] (by kernel_rfl) (by kernel_rfl) (fun wf kf=>?_);have yf:_root_.Go.Proofs.YtiagcenlnekdeaaGreatDoor.G.Mk.m≠some G:=pR.out.LG;have hne5:_root_.Go.Proofs.YtiagcenlnekdeaaGreatDoor.G.Mk.m≠some p5:=b47;have a8f:Hid (ae wf p5 29 tv.toList):=a8e.out.keep kf;have Uw:=_root_.Go.Proofs.YtiagcenlnekdeaaGreatDoor.G.ja (aC kf l9) yf;refine _root_.Go.Proofs.YtiagcenlnekdeaaGreatDoor.G.aN wf (_root_.Go.Proofs.YtiagcenlnekdeaaGreatDoor.G.Gr.refl _) ?_;simp only[au,ax,ak,aj];iterate 5 (go_big_quiet_step (fail))
      (with_reducible refine _root_.Go.Proofs.YtiagcenlnekdeaaGreatDoor.G.zV p5 tv (Eq.trans ?_ rfl) a8f.out hne5 _ underlying29 rfl hti ?_)
      rfl;simp only[Act.put,Array.set!_eq_setIfInBounds,List.setIfInBounds_toArray,List.set_cons_succ,List.set_cons_zero];refine wpQuiet_nil (_root_.Go.Proofs.YtiagcenlnekdeaaGreatDoor.G.bI ?_);simp only[au,ax,ak,aj];refine _root_.Go.Proofs.YtiagcenlnekdeaaGreatDoor.G.aI rfl (fun K hK=>?_);refine c1d a3d _ (by rfl) tv htz (by omega) (by rfl) ?_;refine hK _ _ (_root_.Go.Proofs.YtiagcenlnekdeaaGreatDoor.G.Gr.oz (aB _ _)) ?_;clear hK K;simp only[Act.put,Array.set!_eq_setIfInBounds,List.setIfInBounds_toArray,List.set_cons_succ,List.set_cons_zero];obtain⟨wg,hwg,ZF,-,-⟩:=di wf 29 tv;have D7:Hid (Keep we wg):=by rw[hwg];exact af kf (aB _ _)
      have hzg:wf.heap.size<wg.heap.size:=ZF.out.lt;rw[←hwg];clear hwg;have Qc:wg.ownsRow w0.heap.size 29 68 hv hs.length (hs.flatMap Hd.cells):=jM b0G.out D7.out;have b6k:Hid (Keep w0 we):=pR.out.kp.grown Jj.out pR.out.kp.size (fun q hq=>by injection hq with hq;have:=pR.out.O8;omega);have V5:Hid (Keep w0 wg):=af b6k.out D7.out;refine _root_.Go.Proofs.YtiagcenlnekdeaaGreatDoor.G.aI rfl (fun K hK=>?_);refine Es a3d _ _ (by rfl) w0.heap.size hv hs.length _ (by rfl) Qc (some ⟨wf.heap.size,0,none⟩) 1 1 tv.toList (by rfl) (by rw[Array.length_toList,htz]) ZF.out.rd Jp.out.o (by omega) (by unfold maxLen;omega) V5.out.size (fun vn wn own' hg' hat'=>hK _ _ hg' ?_);clear hK K;have b3V:G<we.heap.size:=ND.out.lt;have Pj:G<wg.heap.size:=Nat.lt_of_lt_of_le b3V D7.out.size
      have a3w:vn.ownBlock≠some G:=fun e=>by
       rcases hat' with h1 | h1
       ·exact pR.out.LG (h1.symm.trans e)
       ·have e2:wg.heap.size=G:=Option.some.inj (h1.symm.trans e);omega
      have RP:Hid (ae wn G 213 (jd d0 d1 aH room ((k:Int)+1) S (.slice (some ⟨b,off,none⟩) bs.length c) hv)):=(ND.out.keep D7.out).grown hg' pR.out.LG;have b6l:Hid (Keep w0 wn):=V5.out.grown hg' V5.out.size (fun q hq=>(Qc.lt q hq).1)
      have a2O:Hid (∃ b2 yx,(some (⟨b,off,none⟩:Addr))=some ⟨b2,yx,none⟩∧(some G≠some b2)∧hv.ownBlock≠some b2∧b2<wc.heap.size∧∀ j (h:j<(bs.map ah).length),wc.cell? ⟨b2,yx+j,none⟩=some (bs.map ah)[j]):=by
       have hne0:bs.map ah≠[]:=fun e=>by have:=congrArg List.length e;simp at this;rw[this]at q2;simp at q2
       rcases pR.out.Qr with h0 | ⟨b2,yx,e2,n2,hc2⟩
       ·exact absurd h0 hne0
       ·rcases pR.out.a5S with h0 | ⟨b3,c4o,e3,n3,hc3⟩
        ·exact absurd h0 hne0
        ·have e4:b3=b2:=by rw[e2]at e3;injection e3 with e3;injection e3 with e3 _;exact e3.symm
         rw[e4]at n3;exact⟨b2,yx,e2,n2,n3,cell_lt (hc2 0 (List.length_pos_iff.2 hne0)),hc2⟩
      obtain⟨An,cn,rfl,hcn,hmn,hrn⟩:=dD own';clear hrn hmn hcn;have Own':=hid own';have Z5:=hid hg';have a9C:=hid hat';have c2x:=hid Qc
      clear own' hg' hat' Qc Uw;refine _root_.Go.Proofs.YtiagcenlnekdeaaGreatDoor.G.aS (_root_.Go.Proofs.YtiagcenlnekdeaaGreatDoor.G.aN wn (_root_.Go.Proofs.YtiagcenlnekdeaaGreatDoor.G.Gr.refl _) ?_);simp only[au,ax,ak,aj,Act.put,Array.set!_eq_setIfInBounds,List.setIfInBounds_toArray,List.set_cons_succ,List.set_cons_zero];repeat(go_big_quiet_step (fail))
      refine wpQuiet_nil (_root_.Go.Proofs.YtiagcenlnekdeaaGreatDoor.G.aT ?_);have d38:=(RP.out.cell 38).trans (WX HT3.out.2);have c2Q:=RP.out.frozen 38;clear yf hne5;clear jc;go_wp2
      go_ret
      rw[HT2.out];refine⟨rfl,(fun h=>by cases h),(fun _=>⟨.slice An (hs.length+1) cn,⟨?_,?_,?_,?_,?_,?_,?_⟩,HT3.out⟩)⟩
      ·exact b6l.out.setCell (by have:=pR.out.O8;simpa using this) _
      ·exact pR.out.O8
      ·have h:=RP.out.az 38 (.slice An (hs.length+1) cn)
       rw[b8F HT3.out.2]at h;exact h
      ·have h:=Own'.out.kept (eH (o:=38) (u:=.slice An (hs.length+1) cn) (iH wn (some G))) (.inr a3w)
       rw[show(hs++[H]).length=hs.length+1 by simp,List.flatMap_append,show[H].flatMap Hd.cells=tv.toList by rw[Jp.out.l];simp];exact h
      ·exact a3w
      ·obtain⟨b2,yx,e2,n2,n3,hlt,hc⟩:=a2O.out
       refine .inr ⟨b2,yx,e2,n2,fun j hj=>?_⟩;rw[World.cell?_setCell_other _ _ _ _ (fun e=>n2 (congrArg (fun x:Addr=>some x.block) e))];exact qK Z5.out (aC D7.out (qK Jj.out (hc j hj) n2)) n3
      ·obtain⟨b2,yx,e2,n2,n3,hlt,hc⟩:=a2O.out
       refine .inr ⟨b2,yx,e2,fun e=>?_,fun j hj=>?_⟩
       ·rcases a9C.out with h1 | h1
        ·exact n3 (h1.symm.trans e)
        ·have e3:wg.heap.size=b2:=Option.some.inj (h1.symm.trans e)
         have h4:=Jj.out.size;have h5:=D7.out.size;omega
       ·rw[World.cell?_setCell_other _ _ _ _ (fun e=>n2 (congrArg (fun x:Addr=>some x.block) e))]
        exact qK Z5.out (aC D7.out (qK Jj.out (hc j hj) n2)) n3
  ·have HX:Hid (NX=(false,zY,z32)):=lI.out.trans (if_neg fun h=>q2 h.2)
   have r1 : ¬ ((dB room:Nat):Int)≤(k:Int):=by omega
   have r2:(bs.length:Int)<(B:Int)+128:=by omega
   go_enter func102,ntmps102
   go_upto_region 1 with fail
   obtain⟨c2,c3,c4,c37,l9⟩:=St.out.cells hll;have a2:=aF c2;have a4:=aF c4
   refine lC (by kernel_rfl) (by kernel_rfl) w (Below.refl _ _) ?_;repeat(go_big_quiet_step (fail))
   refine wpQuiet_nil ?_;rintro _ ⟨z,rfl⟩;have j1:=jg w z;generalize dn w z=w1 at j1 ⊢;have AA:=hid (St.out.keep j1);clear a2 a4 c2 c3 c4 c37 l9 j1;obtain⟨c2,c3,c4,c37,l9⟩:=AA.out.cells hll;go_upto_region 3 with fail
   have a3:=aF c3;have a4:=aF c4;have a37:=aF c37
   refine lC (by kernel_rfl) (by kernel_rfl) w1 (Below.refl _ _) ?_;repeat(go_big_quiet_step ((go_at_call 105;exact Eh (Gy _ _))))
   refine wpQuiet_nil ?_;rintro _ ⟨z2,rfl⟩;have j2:=jg w1 z2;generalize dn w1 z2=w2 at j2 ⊢;have uo:=hid (AA.out.keep j2);clear a3 a4 a37 c2 c3 c4 c37 l9 j2;go_wp2
   go_ret
   rw[HX.out];exact⟨rfl,fun _=>⟨hv,uo.out⟩,fun h=>by cases h⟩
 ·have HX:Hid (NX=(false,zY,z32)):=lI.out.trans (if_neg fun h=>q1 h.1)
  have r1:((dB room:Nat):Int)≤(k:Int):=by omega
  go_enter func102,ntmps102
  go_upto_region 1 with fail
  obtain⟨c2,c3,c4,c37,l9⟩:=St.out.cells hll;have a2:=aF c2;have a4:=aF c4
  refine lC (by kernel_rfl) (by kernel_rfl) w (Below.refl _ _) ?_;repeat(go_big_quiet_step (fail))
  refine wpQuiet_nil ?_;rintro _ ⟨z,rfl⟩;have j1:=jg w z;generalize dn w z=w1 at j1 ⊢;have AA:=hid (St.out.keep j1);clear a2 a4 c2 c3 c4 c37 l9 j1;obtain⟨c2,c3,c4,c37,l9⟩:=AA.out.cells hll;go_upto_region 3 with fail
  have a3:=aF c3;have a4:=aF c4;have a37:=aF c37
  refine lC (by kernel_rfl) (by kernel_rfl) w1 (Below.refl _ _) ?_;repeat(go_big_quiet_step ((go_at_call 105;exact Eh (Gy _ _))))
  refine wpQuiet_nil ?_;rintro _ ⟨z2,rfl⟩;have j2:=jg w1 z2;generalize dn w1 z2=w2 at j2 ⊢;have uo:=hid (AA.out.keep j2);clear a3 a4 a37 c2 c3 c4 c37 l9 j2;go_wp2
  go_ret
  rw[HX.out];exact⟨rfl,fun _=>⟨hv,uo.out⟩,fun h=>by cases h⟩
end Go.Proofs.YtiagcenlnekdeaaGreatDoor
namespace Go.Proofs.YtiagcenlnekdeaaGreatDoor
open Go.RowKit
attribute [local go_sem ↓] Go.wp_at_zero Go.wp_at_succ
theorem a06 (nb:Nat) : ∀ (ws:List aG) (b:List UInt8),b.length=nb→(∀ x∈ws,x.ok nb=true)→(ws.foldl yu b).length=nb
 | [],b,h,_=>h
 | x::ws,b,h,hx=>by
   rw[List.foldl_cons];exact a06 nb ws _ ((a4A b x (by rw[h];exact hx x (List.mem_cons_self ..))).trans h) (fun y hy=>hx y (List.mem_cons_of_mem _ hy))
theorem a04 (b:List UInt8) (ws:List aG):(bytesD b ws).length=(gB b ws).length:=a06 _ _ _ rfl (a5o (Me b ws))
def mr (aH:Nat) (room:Int) (bs:List UInt8):Nat→Nat→List UInt8→List Hd→Nat × List UInt8 × List Hd
 | 0,k,last,hs=>(k,last,hs)
 | f+1,k,last,hs=>if(iI aH room k last bs).1 then mr aH room bs f (k+1) (iI aH room k last bs).2.2 (hs++[(iI aH room k last bs).2.1])else(k,last,hs)
def dF (base room:Int) (bs:List UInt8):Nat × List UInt8 × List Hd :=
 if base<0∨((bs.length/32:Nat):Int)<base then(0,z32,[])else mr base.toNat room bs 1025 0 z32 []
def bW (d0 d1:Value) (base room n:Int) (last:List UInt8):List Value:=[d0,d1,.int .i64 base,.int .i64 room,.int .i64 n]++last.map ah
theorem WZ {d0 d1 bs hv:Value} {base room n:Int} {last:List UInt8}:jd d0 d1 base room n last bs hv=bW d0 d1 base room n last++[bs,hv]:=by
 unfold jd bW;rw[List.append_assoc]
theorem oq {d0 d1:Value} {base room n:Int} {last:List UInt8} (hl:last.length=32):(bW d0 d1 base room n last).length=37:=by simp[bW,hl]
theorem a5f {aH:Nat} {room:Int} {k:Nat} {last bs:List UInt8} (h:(iI aH room k last bs).1=true):k<1024:=by
 unfold iI at h
 split at h
 ·rename_i h1
  have:dB room≤1024:=by unfold dB;omega
  omega
 ·cases h
theorem a5p (d0 d1 bs hv:Value) (base room n:Int) (last:List UInt8) (h0:d0.oneCell'=true) (h1:d1.oneCell'=true) (h2:bs.oneCell'=true) (h3:hv.oneCell'=true) : ∀ v∈jd d0 d1 base room n last bs hv,v.oneCell'=true:=by
 intro v hv';unfold jd at hv';simp only[List.mem_append,List.mem_cons,List.not_mem_nil,or_false]at hv';rcases hv' with(rfl | rfl | rfl | rfl | rfl) | hv' | rfl | rfl <;> first | assumption | rfl | exact jL _ _ hv'
theorem LK (d0 d1:Value) (base room n:Int) (last:List UInt8) (h0:d0.oneCell'=true) (h1:d1.oneCell'=true) : ∀ v∈bW d0 d1 base room n last,v.oneCell'=true:=by
 intro v hv';unfold bW at hv';simp only[List.mem_append,List.mem_cons,List.not_mem_nil,or_false]at hv';rcases hv' with(rfl | rfl | rfl | rfl | rfl) | hv' <;> first | assumption | rfl | exact jL _ _ hv'
theorem b8J {w:World} {row:Option Nat} {A:Option Addr} {xs:List Value} (h:dQ row w A xs):dQ none w A xs:=by
 rcases h with h | ⟨b,off,e,_,hc⟩
 ·exact .inl h
 ·exact .inr ⟨b,off,e,(fun e=>by cases e),hc⟩
theorem c1c [Fv:_root_.Go.Proofs.YtiagcenlnekdeaaGreatDoor.G.Mk] {P:Program} {w0:World} {ops:Array Oper} {rest:List Oper} {a:Act} {Q:Act→Prop} {x:Operand} {dst:Option Tmp} {ty ty':TypeId} {pos:String} {eG:Array Edge}
  (g off:Nat) (cs:Array Value) (hx:a.eval x = .pointer (some ⟨g,off,none⟩)) (hr:w0.rangeAt g off cs.toList) (hne:Fv.m≠some g) (d:TypeDesc) (hu:P.underlying ty=some d) (hd:d.isRow=true) (hi:(P.info? ty).map (·.size)=some cs.size)
  (h:wpQuiet P ops (fun w' => ∃ x,w'=_root_.Go.Proofs.YtiagcenlnekdeaaGreatDoor.G.oO w0 x) Q rest (a.put dst (.agg cs))) :
  wpQuiet P ops (fun w' => ∃ x,w'=_root_.Go.Proofs.YtiagcenlnekdeaaGreatDoor.G.oO w0 x) Q ({ dst:=dst,op:=.load ty x,type:=ty',pos:=pos,after:=eG,guard:=none}::rest) a:=by
 refine BigFrame.wpQuiet_want (by simp[Region.wanted]) fun K hK=>⟨.agg cs,fun w hw=>?_,hK _ h⟩
 obtain⟨y,rfl⟩:=hw;unfold Oper.quietAt execOp;have hl:=run_loadVar_mid (P:=P) (_root_.Go.Proofs.YtiagcenlnekdeaaGreatDoor.G.oO w0 y) g off ty cs.toList d (fun j v hv=>qK (_root_.Go.Proofs.YtiagcenlnekdeaaGreatDoor.G.Ut w0 y) (hr j v hv) hne) hu hd (by simpa using hi);simp only[hx,Instr.loadAt,Instr.sureAddr,Sem.run_bind,Sem.run_pure,Result.andThen_ok,hl,Array.toArray_toList];exact⟨rfl,rfl⟩
theorem open_any (A:Option Addr) (b:List UInt8) (c:Nat) (PA:Option Addr) (ws:List aG) (pc:Nat) (base room:Int) (w:World) (h:dJ w A b c PA ws pc) (hS:bV w) (hb1 : -9223372036854775808≤base∧base≤9223372036854775807) :
  Calls prog 72 #[dP A b.length c PA ws.length pc,.int .i64 base,.int .i64 room] w fun e w' => ∃ cs hv,e = .returned (.tuple #[.agg cs,hv]) ∧
   cs.toList=bW (.slice A b.length c) (.slice PA ws.length pc) base room ((dF base room (bytesD b ws)).1:Nat) (dF base room (bytesD b ws)).2.1 ∧
   w'.ownsRow w.heap.size 29 68 hv (dF base room (bytesD b ws)).2.2.length ((dF base room (bytesD b ws)).2.2.flatMap Hd.cells)∧Keep w w':=by
 have hlb:(bytesD b ws).length≤131072:=by
  have h1:=Qv (Me b ws);have h2:(bytesD b ws).length=(gB b ws).length:=a04 b ws;omega
 have B1:Hid (∀ w',Keep w w'→Calls prog 100 #[dP A b.length c PA ws.length pc] w' fun e w'' => ∃ v,e = .returned v∧w''.ownsRow w'.heap.size 5 1 v (bytesD b ws).length ((bytesD b ws).map ah)∧Keep w' w''):=fun w' hk=>UF A b c PA ws pc w' (h.keep hk);have hbc:=h.bc;have hcm:=h.cm;have hpl:=h.pl;have hpm:=h.pm
 unfold maxLen at hcm hpm;have HS:=hid hS;clear h hS;generalize bytesD b ws=bs at *;obtain⟨OP,Vg⟩ : ∃ OP,dF base room bs=OP:=⟨_,rfl⟩
 rw[Vg];have SG:=hid Vg;clear Vg;generalize b.length=bl at *;generalize ws.length=wl at *;go_enter func72,ntmps72
 go_upto_region 1 with fail
 obtain⟨w1,hw1,HD1,-,ai,-⟩:=FN w 43 45 [.slice A bl c,.slice PA wl pc] [.slice none 0 0,.slice none 0 0,.int .i64 0,.int .i64 0,.int .i64 0,.int .u8 0,.int .u8 0,.int .u8 0,.int .u8 0,.int .u8 0,.int .u8 0,.int .u8 0,.int .u8 0,.int .u8 0,.int .u8 0,.int .u8 0,.int .u8 0,.int .u8 0,.int .u8 0,.int .u8 0,.int .u8 0,.int .u8 0,.int .u8 0,.int .u8 0,.int .u8 0,.int .u8 0,.int .u8 0,.int .u8 0,.int .u8 0,.int .u8 0,.int .u8 0,.int .u8 0,.int .u8 0,.int .u8 0,.int .u8 0,.int .u8 0,.int .u8 0]
 have HR1:Hid (ae w1 (w.heap.size+1) 45 (bW (.slice none 0 0) (.slice none 0 0) 0 0 0 z32)):=by
  rw[hw1];have h1:=ae.new (w.alloc (.cells #[.slice A bl c,.slice PA wl pc] 43)) 45 (bW (.slice none 0 0) (.slice none 0 0) 0 0 0 z32);rw[World.size_alloc]at h1;exact h1
 have hz1:w.heap.size+2=w1.heap.size:=by rw[hw1];simp
 rw[←hw1];clear hw1;have hz2:w.heap.size+2≤w1.heap.size:=by omega
 clear hz1;have e0:=HD1.out.cell 0;have e1:=HD1.out.cell 1
 simp only[List.getElem?_cons_zero,List.getElem?_cons_succ]at e0 e1
 go_cut [8] (fun p wx => ∃ G A2 c2,p = .pointer (some ⟨G,0,none⟩)∧w1.heap.size≤G∧Hid (ae wx G 213 (jd (.slice A bl c) (.slice PA wl pc) base room 0 z32 (.slice A2 bs.length c2) (.slice none 0 0)))∧Hid (dQ (some G) wx A2 (bs.map ah))∧bs.length≤c2∧c2≤9223372036854775807∧Keep w1 wx)
 case first =>
  refine bu (.take [0,1,2,3,4] (.fork 5 (.take [6] (.force [7] .done)) 7 (.force [5] (.take [6] .done)))) [8] (by kernel_rfl) (by kernel_rfl) (fun w2 k2=>?_);have a0:=aF (aC k2 e0);have a1:=aF (aC k2 e1)
  refine aN w2 (Below.refl _ _) ?_;simp only[au,ax,ak,aj];repeat(go_big_quiet_step (fail))
  refine wpQuiet_nil ?_;clear a0 a1;refine ny ?_ ?_
  ·simp only[au,ax,ak,aj]
   refine aI rfl (fun K hK=>?_);go_simp
   (with_reducible refine(B1.out _ (af ai.out k2)).mono ?_)
   rintro e w3 ⟨v3,rfl,qi,hk⟩;refine hK _ _ hk ?_;clear hK K;obtain⟨A2,c2,rfl,hc2,hm2,hr2⟩:=dD qi;have Fj:=hid hr2;unfold maxLen at hm2;have k3:=hid (af k2 hk);clear qi hr2 hk;refine aS (aN w3 (Below.refl _ _) ?_);simp only[au,ax,ak,aj];repeat(go_big_quiet_step (fail))
   refine wpQuiet_nil (bI ?_);simp only[au,ax,ak,aj];refine aI rfl (fun K hK=>?_);go_simp;refine hK _ _ (aB _ _) ?_;clear hK K;obtain⟨w4,hw4,-,k34,-⟩:=mW w3 213 [.slice none 0 0,.slice none 0 0,.int .i64 0,.int .i64 0,.int .i64 0,.int .u8 0,.int .u8 0,.int .u8 0,.int .u8 0,.int .u8 0,.int .u8 0,.int .u8 0,.int .u8 0,.int .u8 0,.int .u8 0,.int .u8 0,.int .u8 0,.int .u8 0,.int .u8 0,.int .u8 0,.int .u8 0,.int .u8 0,.int .u8 0,.int .u8 0,.int .u8 0,.int .u8 0,.int .u8 0,.int .u8 0,.int .u8 0,.int .u8 0,.int .u8 0,.int .u8 0,.int .u8 0,.int .u8 0,.int .u8 0,.int .u8 0,.int .u8 0,.slice none 0 0,.slice none 0 0];have hb4:ae w4 w3.heap.size 213 (jd (.slice none 0 0) (.slice none 0 0) 0 0 0 z32 (.slice none 0 0) (.slice none 0 0)):=by rw[hw4];exact ae.new w3 _ (jd (.slice none 0 0) (.slice none 0 0) 0 0 0 z32 (.slice none 0 0) (.slice none 0 0))
   have hz3:w1.heap.size≤w3.heap.size:=k3.out.size;rw[←hw4];clear hw4;obtain⟨cs,hcs⟩ : ∃ cs:Array Value,(#[.slice A bl c,.slice PA wl pc,.int .i64 base,.int .i64 room,.int .i64 0,.int .u8 0,.int .u8 0,.int .u8 0,.int .u8 0,.int .u8 0,.int .u8 0,.int .u8 0,.int .u8 0,.int .u8 0,.int .u8 0,.int .u8 0,.int .u8 0,.int .u8 0,.int .u8 0,.int .u8 0,.int .u8 0,.int .u8 0,.int .u8 0,.int .u8 0,.int .u8 0,.int .u8 0,.int .u8 0,.int .u8 0,.int .u8 0,.int .u8 0,.int .u8 0,.int .u8 0,.int .u8 0,.int .u8 0,.int .u8 0,.int .u8 0,.int .u8 0,.slice A2 bs.length c2,.slice none 0 0]:Array Value)=cs:=⟨_,rfl⟩
   have hcl:Hid (cs.toList=jd (.slice A bl c) (.slice PA wl pc) base room 0 z32 (.slice A2 bs.length c2) (.slice none 0 0)):=by rw[←hcs];rfl
   have hcz:cs.size=39:=by rw[←hcs];rfl
   have hcn : ¬ cs = #[]:=by intro h;rw[h]at hcz;simp at hcz
   have hco:Hid (∀ v∈cs.toList,v.oneCell'=true):=by rw[hcl.out];exact a5p _ _ _ _ _ _ _ _ (by rfl) (by rfl) (by rfl) (by rfl)
   rw[hcs];clear hcs;obtain⟨w5,hst,hb5,hg5⟩:=bn (P:=prog) cs.toList hb4 (by rw[WY rfl,Array.length_toList,hcz]) hco.out;have Hb5:=hid hb5;have vP:=hid hg5
   have hlt3:=hb4.lt;have HX:Hid (dQ (some w3.heap.size) w4 A2 (bs.map ah)):=(dQ.b7H Fj.out (fun k hk=>by injection hk with hk;omega)).keep k34.out;clear hb4 hb5 hg5;refine aS (aT ?_);go_wp2
   go_meet
   refine⟨w3.heap.size,A2,c2,rfl,hz3,by rw[←hcl.out];exact Hb5.out,HX.out.grown vP.out (.inl rfl),hc2,by omega,aK (af k3.out k34.out) vP.out (by omega)⟩
  ·simp only[au,ax,ak,aj]
   refine aI rfl (fun K hK=>?_);go_simp;refine hK _ _ (aB _ _) ?_;clear hK K;obtain⟨w3,hw3,-,k23,-⟩:=mW w2 213 [.slice none 0 0,.slice none 0 0,.int .i64 0,.int .i64 0,.int .i64 0,.int .u8 0,.int .u8 0,.int .u8 0,.int .u8 0,.int .u8 0,.int .u8 0,.int .u8 0,.int .u8 0,.int .u8 0,.int .u8 0,.int .u8 0,.int .u8 0,.int .u8 0,.int .u8 0,.int .u8 0,.int .u8 0,.int .u8 0,.int .u8 0,.int .u8 0,.int .u8 0,.int .u8 0,.int .u8 0,.int .u8 0,.int .u8 0,.int .u8 0,.int .u8 0,.int .u8 0,.int .u8 0,.int .u8 0,.int .u8 0,.int .u8 0,.int .u8 0,.slice none 0 0,.slice none 0 0];have hb3:Hid (ae w3 w2.heap.size 213 (jd (.slice none 0 0) (.slice none 0 0) 0 0 0 z32 (.slice none 0 0) (.slice none 0 0))):=by rw[hw3];exact ae.new w2 _ (jd (.slice none 0 0) (.slice none 0 0) 0 0 0 z32 (.slice none 0 0) (.slice none 0 0))
   have hz3:w1.heap.size≤w2.heap.size:=k2.size;have hlt3:w2.heap.size<w3.heap.size:=hb3.out.lt;rw[←hw3];clear hw3;generalize w2.heap.size=G at hb3 hz3 hlt3 ⊢;refine aS (bI ?_);simp only[au,ax,ak,aj];refine aI rfl (fun K hK=>?_);go_simp
   (with_reducible refine(B1.out _ (af ai.out (af k2 k23.out))).mono ?_)
   rintro e w4 ⟨v4,rfl,own4,hk⟩;refine hK _ _ hk ?_;clear hK K;obtain⟨A2,c2,rfl,hc2,hm2,hr2⟩:=dD own4;have HX:Hid (dQ (some G) w4 A2 (bs.map ah)):=dQ.a5k own4 (fun k hk=>by injection hk with hk;omega);unfold maxLen at hm2;have k4:=hid (af (af k2 k23.out) hk);have hb4:=hid (hb3.out.keep hk);clear own4 hr2 hk;refine aS (aN w4 (Below.refl _ _) ?_);simp only[au,ax,ak,aj];repeat(go_big_quiet_step (fail))
   refine wpQuiet_nil (aT ?_);obtain⟨cs,hcs⟩ : ∃ cs:Array Value,(#[.slice A bl c,.slice PA wl pc,.int .i64 base,.int .i64 room,.int .i64 0,.int .u8 0,.int .u8 0,.int .u8 0,.int .u8 0,.int .u8 0,.int .u8 0,.int .u8 0,.int .u8 0,.int .u8 0,.int .u8 0,.int .u8 0,.int .u8 0,.int .u8 0,.int .u8 0,.int .u8 0,.int .u8 0,.int .u8 0,.int .u8 0,.int .u8 0,.int .u8 0,.int .u8 0,.int .u8 0,.int .u8 0,.int .u8 0,.int .u8 0,.int .u8 0,.int .u8 0,.int .u8 0,.int .u8 0,.int .u8 0,.int .u8 0,.int .u8 0,.slice A2 bs.length c2,.slice none 0 0]:Array Value)=cs:=⟨_,rfl⟩
   have hcl:Hid (cs.toList=jd (.slice A bl c) (.slice PA wl pc) base room 0 z32 (.slice A2 bs.length c2) (.slice none 0 0)):=by rw[←hcs];rfl
   have hcz:cs.size=39:=by rw[←hcs];rfl
   have hcn : ¬ cs = #[]:=by intro h;rw[h]at hcz;simp at hcz
   have hco:Hid (∀ v∈cs.toList,v.oneCell'=true):=by rw[hcl.out];exact a5p _ _ _ _ _ _ _ _ (by rfl) (by rfl) (by rfl) (by rfl)
   rw[hcs];clear hcs;obtain⟨w5,hst,Hb5,vP⟩:=jo cs.toList hb4.out (by rw[WY rfl,Array.length_toList,hcz]) hco.out;go_wp2
   go_meet
   refine⟨G,A2,c2,rfl,hz3,by rw[←hcl.out];exact Hb5.out,HX.out.grown vP.out (.inl rfl),hc2,by omega,aK k4.out vP.out (by omega)⟩
 case rest =>
  obtain⟨G,A2,c2,rfl,b5M,HB,HX,hc2,hm2,kc⟩:=hcut;have d2:=(HB.out.cell 37).trans (a5R (by rfl));by_cases p1:base<0
  ·have SH:OP=(0,z32,[]):=by rw[←SG.out];exact if_pos (.inl p1)
   obtain⟨ls,hls⟩ : ∃ ls:Array Value,ls.toList=bW (.slice A bl c) (.slice PA wl pc) base room 0 z32:=⟨_,rfl⟩
   have hlz:ls.size=37:=by rw[←Array.length_toList,hls];exact oq rfl
   have hln : ¬ ls = #[]:=by intro h;rw[h]at hlz;simp at hlz
   have nX:(prog.info? 45).map (·.size)=some ls.size:=by rw[hlz];kernel_rfl
   have hrg:wc.rangeAt G 0 ls.toList:=cu HB.out 0 ls.toList (by rw[hls,oq rfl,List.drop_zero,WZ,List.take_left' (oq rfl)]);have vI:Hid (ae wc (w.heap.size+1) 45 (bW (.slice none 0 0) (.slice none 0 0) 0 0 0 z32)):=HR1.out.keep kc;obtain⟨w8,hst,hb8,aZ⟩:=bn (P:=prog) ls.toList vI.out (by rw[oq rfl,Array.length_toList,hlz]) (by rw[hls];exact LK _ _ _ _ _ _ (by rfl) (by rfl));have aY:=hid hb8;have bf:=hid aZ;have nN:=hid hls;have uj:=hid hrg
   clear hb8 aZ hls hrg;go_upto_region 3 with fail
   go_wp2_with ((with_reducible refine PY G 0 ls (Eq.trans ?_ rfl) uj.out _ underlying45 rfl nX ?_);rfl)
   have hkc:Keep w wc:=af ai.out kc
   (try rw[SH])
   exact bodyPost_ret (v:=.tuple #[.agg ls,.slice none 0 0]) (lq results72 aY.out underlying45 nX rfl rfl) rfl ⟨ls,_,rfl,nN.out,World.ownsRow_nil _ _ _ _,aK hkc bf.out (by omega)⟩
  ·by_cases p2:((bs.length/32:Nat):Int)<base
   ·have SH:OP=(0,z32,[]):=by rw[←SG.out];exact if_pos (.inr p2)
    obtain⟨ls,hls⟩ : ∃ ls:Array Value,ls.toList=bW (.slice A bl c) (.slice PA wl pc) base room 0 z32:=⟨_,rfl⟩
    have hlz:ls.size=37:=by rw[←Array.length_toList,hls];exact oq rfl
    have hln : ¬ ls = #[]:=by intro h;rw[h]at hlz;simp at hlz
    have nX:(prog.info? 45).map (·.size)=some ls.size:=by rw[hlz];kernel_rfl
    have hrg:wc.rangeAt G 0 ls.toList:=cu HB.out 0 ls.toList (by rw[hls,oq rfl,List.drop_zero,WZ,List.take_left' (oq rfl)]);have vI:Hid (ae wc (w.heap.size+1) 45 (bW (.slice none 0 0) (.slice none 0 0) 0 0 0 z32)):=HR1.out.keep kc;obtain⟨w8,hst,hb8,aZ⟩:=bn (P:=prog) ls.toList vI.out (by rw[oq rfl,Array.length_toList,hlz]) (by rw[hls];exact LK _ _ _ _ _ _ (by rfl) (by rfl));have aY:=hid hb8;have bf:=hid aZ;have nN:=hid hls;have uj:=hid hrg
    clear hb8 aZ hls hrg;go_upto_region 3 with fail
    go_wp2_with ((with_reducible refine PY G 0 ls (Eq.trans ?_ rfl) uj.out _ underlying45 rfl nX ?_);rfl)
    have hkc:Keep w wc:=af ai.out kc
    (try rw[SH])
    exact bodyPost_ret (v:=.tuple #[.agg ls,.slice none 0 0]) (lq results72 aY.out underlying45 nX rfl rfl) rfl ⟨ls,_,rfl,nN.out,World.ownsRow_nil _ _ _ _,aK hkc bf.out (by omega)⟩
   ·obtain⟨aH,hbn⟩ : ∃ aH:Nat,base=aH:=⟨base.toNat,by omega⟩
    subst hbn
    have a88:Hid (mr aH room bs 1025 0 z32 []=OP):=by
     rw[←SG.out];exact(if_neg (by omega)).symm
    have b4m:aH≤5000:=by omega
    go_upto_region 4 with fail
    have gK:=hid kc;have rD:=hid (HS.out.keep ai.out);clear d2 kc
    go_loopw [] (fun wr => ∃ (k:Nat) (last:List UInt8) (hv:Value) (hs:List Hd),k≤1024∧last.length=32∧hs.length=k∧Hid (yY w1 wr G (.slice A bl c) (.slice PA wl pc) aH room k last A2 bs c2 hv hs)∧Hid (mr aH room bs (1025 - k) k last hs=OP)) (fun wr=>match wr.cell? ⟨G,4,none⟩with | some (.int _ n)=>1024 - n.toNat | _=>0)
    case atStart =>
     exact⟨0,z32,.slice none 0 0,[],by omega,rfl,rfl,⟨gK.out,b5M,HB.out,World.ownsRow_nil _ _ _ _,(fun e=>by cases e),HX.out,b8J HX.out⟩,a88⟩
    case round =>
     obtain⟨k,last,hv,hs,hk,hll,bH,ZK,HO⟩:=hrel;have C4:=hid (ZK.out.cells hll).2.2.1;have Ap:=hid bH;have b4X:hs.length≤2000:=by omega
     clear bH;go_wp2_with fail
     refine(b6d w1 wr G _ _ aH room k last A2 bs c2 hv hs ZK.out hll b4m hk (by omega) hc2 (by unfold maxLen;omega) b4X rD.out).mono ?_;rintro e w2 ⟨rfl,hF,hT⟩
     have Zt:Hid (∀ NX,iI aH room k last bs=NX→(NX.1=true→k<1024∧mr aH room bs (1025 - (k+1)) (k+1) NX.2.2 (hs++[NX.2.1])=OP)∧(NX.1=false→(k,last,hs)=OP)):=fun NX e=>by
      subst e;have h1:1025 - k=(1024 - k)+1:=by omega
      have h2:=HO.out;rw[h1,mr]at h2;refine⟨fun e=>⟨a5f e,?_⟩,fun e=>?_⟩
      ·rw[if_pos e]at h2
       rw[show 1025 - (k+1)=1024 - k by omega];exact h2
      ·rw[if_neg (by rw[e];exact Bool.false_ne_true)]at h2;exact h2
     obtain⟨NX,x9⟩ : ∃ NX,iI aH room k last bs=NX:=⟨_,rfl⟩
     have HN:=hid (Zt.out NX x9);rw[x9]at hF hT ⊢;clear x9 Zt;obtain⟨b9,a8s,b0T⟩:=NX
     cases b9 with
     | true =>
       obtain⟨hv',hst',hok',a3L⟩:=hT rfl;have yS:=hid hst';have hlt:k<1024:=(HN.out.1 rfl).1;have nJ:=hid (HN.out.1 rfl).2;clear hF hT hst' hok';go_wp2
       go_roundw
       case rel=>exact⟨k+1,b0T,hv',hs++[a8s],by omega,a3L,by rw[List.length_append,Ap.out];rfl,yS,nJ⟩
       case measure =>
        have AU:=(yS.out.cells a3L).2.2.1;rw[AU,C4.out];simp;omega
     | false =>
       obtain⟨hv',hst'⟩:=hF rfl;have yS:=hid hst';have HE:Hid (OP=(k,last,hs)):=(HN.out.2 rfl).symm;clear hF hT hst';obtain⟨ls,hls⟩ : ∃ ls:Array Value,ls.toList=bW (.slice A bl c) (.slice PA wl pc) aH room k last:=⟨_,rfl⟩
       have hlz:ls.size=37:=by rw[←Array.length_toList,hls];exact oq hll
       have hln : ¬ ls = #[]:=by intro h;rw[h]at hlz;simp at hlz
       have nX:(prog.info? 45).map (·.size)=some ls.size:=by rw[hlz];kernel_rfl
       have nN:=hid hls;have HR2:Hid (ae w2 (w.heap.size+1) 45 (bW (.slice none 0 0) (.slice none 0 0) 0 0 0 z32)):=HR1.out.keep yS.out.kp;have hrg:Hid (w2.rangeAt G 0 ls.toList):=cu yS.out.blk 0 ls.toList (by rw[hls,oq hll,List.drop_zero,WZ,List.take_left' (oq hll)]);have l9:=(yS.out.cells hll).2.2.2.2;obtain⟨fM,ch,rfl,hch,b5f,b5v⟩:=dD yS.out.own;clear hls b5v hch b5f;go_upto_region 5 with fail
       letI jc:_root_.Go.Proofs.YtiagcenlnekdeaaGreatDoor.G.Mk:=⟨some (w.heap.size+1)⟩
       refine _root_.Go.Proofs.YtiagcenlnekdeaaGreatDoor.G.bu (.take [0,1,2,3] (.force [4] .done)) [5] (by kernel_rfl) (by kernel_rfl) (fun w5 k5=>?_);have yf:_root_.Go.Proofs.YtiagcenlnekdeaaGreatDoor.G.Mk.m≠some G:=fun e=>by have e2:w.heap.size+1=G:=Option.some.inj e;omega
       have Uw:=_root_.Go.Proofs.YtiagcenlnekdeaaGreatDoor.G.ja (aC k5 l9) yf;have b5u:Hid (w5.rangeAt G 0 ls.toList):=fun j v hv=>aC k5 (hrg.out j v hv);have aJ:=hid (af yS.out.kp k5);have Own5:=hid (jM yS.out.own k5);obtain⟨w8,hst,aY,bf⟩:=jo ls.toList (HR2.out.keep k5) (by rw[oq rfl,Array.length_toList,hlz]) (by rw[nN.out];exact LK _ _ _ _ _ _ (by rfl) (by rfl));clear k5 l9;refine _root_.Go.Proofs.YtiagcenlnekdeaaGreatDoor.G.aN w5 (_root_.Go.Proofs.YtiagcenlnekdeaaGreatDoor.G.Gr.refl _) ?_;simp only[au,ax,ak,aj];go_big_quiet_step (fail)
       (with_reducible refine c1c G 0 ls (Eq.trans ?_ rfl) b5u.out yf _ underlying45 rfl nX ?_)
       rfl;simp only[Act.put,Array.set!_eq_setIfInBounds,List.setIfInBounds_toArray,List.set_cons_succ,List.set_cons_zero];repeat(go_big_quiet_step (fail))
       refine wpQuiet_nil (_root_.Go.Proofs.YtiagcenlnekdeaaGreatDoor.G.bI ?_);simp only[au,ax,ak,aj];refine _root_.Go.Proofs.YtiagcenlnekdeaaGreatDoor.G.aI rfl (fun K hK=>?_);go_simp;refine hK _ _ (show _root_.Go.Proofs.YtiagcenlnekdeaaGreatDoor.G.Gr w5 w8 from bf.out) ?_;clear hK K;refine _root_.Go.Proofs.YtiagcenlnekdeaaGreatDoor.G.aS (_root_.Go.Proofs.YtiagcenlnekdeaaGreatDoor.G.aT ?_);clear Uw yf;clear jc;go_wp2
       have hkc:Keep w w5:=af ai.out aJ.out;rw[HE.out];refine bodyPost_ret (v:=.tuple #[.agg ls,.slice fM hs.length ch]) (lq results72 aY.out underlying45 nX rfl rfl) rfl ⟨ls,_,rfl,nN.out,?_,aK hkc bf.out (by omega)⟩;exact wU (Own5.out.kept bf.out (.inr (fun e=>by have h1:=(Own5.out.lt _ e).1;omega))) (by omega)
end Go.Proofs.YtiagcenlnekdeaaGreatDoor
namespace Go.Proofs.YtiagcenlnekdeaaGreatDoor
open Go.RowKit
attribute [local go_sem ↓] Go.wp_at_zero Go.wp_at_succ
theorem sS {d0 d1:Value} {base room n:Int} {last:List UInt8} {w:World} {g:Nat} {t:TypeId} (hb:ae w g t (bW d0 d1 base room n last)) :
  w.cell? ⟨g,0,none⟩=some d0∧w.cell? ⟨g,1,none⟩=some d1∧w.cell? ⟨g,2,none⟩=some (.int .i64 base)∧w.cell? ⟨g,3,none⟩=some (.int .i64 room)∧w.cell? ⟨g,4,none⟩=some (.int .i64 n) :=
 ⟨(hb.cell 0).trans rfl,(hb.cell 1).trans rfl,(hb.cell 2).trans rfl,(hb.cell 3).trans rfl,(hb.cell 4).trans rfl⟩
structure gV (l:List Value) (cs:Array Value):Prop where
 l:cs.toList=l
 z:cs.size=37
 i:(prog.info? 45).map (·.size)=some cs.size
 n : ¬ cs = #[]
 o : ∀ v∈cs.toList,v.oneCell'=true
theorem gV.of {A:Option Addr} {n c:Nat} {PA:Option Addr} {m pc:Nat} {base room k:Int} {last:List UInt8} {cs:Array Value} (hl:last.length=32) (h:cs.toList=bW (.slice A n c) (.slice PA m pc) base room k last):gV (bW (.slice A n c) (.slice PA m pc) base room k last) cs:=by
 have hz:cs.size=37:=by rw[←Array.length_toList,h];exact oq hl
 exact⟨h,hz,by rw[hz];kernel_rfl,(fun e=>by rw[e]at hz;simp at hz),by rw[h];exact LK _ _ _ _ _ _ rfl rfl⟩
noncomputable def XK:Array Value:=match(prog.info? 45).bind (·.zero)with | some (.agg c)=>c | _ => #[]
theorem a7y:XK.size=37:=by kernel_rfl
theorem c1J (w:World):(zeroValue 45).run prog w = .ok (.agg XK) w:=by kernel_rfl
theorem Ey : ∃ zs:Array Value,zs.size=37∧(∀ w,(zeroValue 45).run prog w = .ok (.agg zs) w)∧¬ zs = #[] :=
 ⟨XK,a7y,c1J,fun h=>by have:=a7y;rw[h]at this;cases this⟩
theorem a5t (aH:Nat) (room:Int) (bs:List UInt8) : ∀ (f k:Nat) (last:List UInt8) (hs:List Hd),last.length=32→(mr aH room bs f k last hs).2.1.length=32
 | 0,k,last,hs,h=>h
 | f+1,k,last,hs,h=>by
   rw[mr]
   split
   ·rename_i h1
    refine a5t aH room bs f _ _ _ ?_;unfold iI at h1 ⊢
    split
    ·exact(a6Q last k _ rfl).2
    ·rename_i h2;rw[if_neg h2]at h1;cases h1
   ·exact h
theorem LM (base room:Int) (bs:List UInt8):(dF base room bs).2.1.length=32:=by
 unfold dF;split
 ·rfl
 ·exact a5t _ _ _ _ _ _ _ rfl
theorem V4 (A:Option Addr) (b:List UInt8) (c:Nat) (PA:Option Addr) (ws:List aG) (pc:Nat) (base room n:Int) (last:List UInt8) (ls:Array Value) (w:World) (h:dJ w A b c PA ws pc) (hS:bV w) (hb1 : -9223372036854775808≤base∧base≤9223372036854775807)
  (hls:gV (bW (.slice A b.length c) (.slice PA ws.length pc) base room n last) ls) :
  Calls prog 103 #[.agg ls] w fun e w' => ∃ cs,e = .returned (.agg cs)∧gV (bW (.slice A b.length c) (.slice PA ws.length pc) base room ((dF base room (bytesD b ws)).1:Nat) (dF base room (bytesD b ws)).2.1) cs∧Keep w w':=by
 have FB:Hid (∀ w',Keep w w'→Calls prog 72 #[dP A b.length c PA ws.length pc,.int .i64 base,.int .i64 room] w' fun e w'' => ∃ cs hv,e = .returned (.tuple #[.agg cs,hv]) ∧
   gV (bW (.slice A b.length c) (.slice PA ws.length pc) base room ((dF base room (bytesD b ws)).1:Nat) (dF base room (bytesD b ws)).2.1) cs∧(∃ fM nh ch,hv = .slice fM nh ch)∧Keep w' w''):=fun w' hk =>
  (open_any A b c PA ws pc base room w' (h.keep hk) (hS.keep hk) hb1).mono fun e w'' ⟨cs,hv,h1,h2,h3,h4⟩=>⟨cs,hv,h1,gV.of (LM _ _ _) h2,(by obtain⟨fM,ch,h5,_⟩:=dD h3;exact⟨fM,_,ch,h5⟩),h4⟩
 generalize dF base room (bytesD b ws)=OP at *;obtain⟨zs,hz1,hz2,hz3⟩:=Ey;have hlz:=hls.z;have hln:=hls.n
 have nN:=hid hls;clear hls h hS;generalize b.length=bl at *;generalize ws.length=wl at *;go_enter func103,ntmps103
 go_upto_region 1 with fail
 obtain⟨w1,hw1,-,HR1,ai,-⟩:=qF w 45 45 ls zs;have ku:Hid (ae w1 w.heap.size 45 (bW (.slice A bl c) (.slice PA wl pc) base room n last)):=by rw[hw1,←nN.out.l];exact(ae.new w _ ls.toList).alloc _
 rw[←hw1];clear hw1;obtain⟨c0,c1,c2,c3,c4⟩:=sS ku.out;go_wp2_with fail
 refine(FB.out w1 ai.out).mono ?_;rintro e w2 ⟨cs,hv,rfl,hcs,⟨fM,nh,ch,rfl⟩,k2⟩;have hcz:=hcs.z;have hcn:=hcs.n;have hci:=hcs.i
 have dh:=hid hcs;have HR2:=hid (HR1.out.keep k2);have ay:=hid (af ai.out k2);have hst2:=fK w2 45 hci (hz1.trans hcz.symm) dh.out.o;clear hcs k2 c0 c1 c2 c3 c4;go_upto_region 2 with fail
 have HB3:Hid (ae (w2.alloc (.cells cs 45)) w2.heap.size 45 cs.toList):=ae.new w2 _ cs.toList;have HR3:Hid (ae (w2.alloc (.cells cs 45)) (w.heap.size+1) 45 zs.toList):=HR2.out.alloc _;have aA:Hid (Keep w (w2.alloc (.cells cs 45))):=af ay.out (aB _ _);generalize w2.alloc (.cells cs 45)=w3 at HB3 HR3 aA ⊢;clear hst2;obtain⟨w8,hst,aY,bf⟩:=jo cs.toList HR3.out (by simp[hz1,hcz]) dh.out.o;generalize w2.heap.size=X at HB3 ⊢;go_wp2_with ((with_reducible refine bY X cs (Eq.trans ?_ rfl) HB3.out _ underlying45 rfl hci ?_);rfl)
 exact bodyPost_ret (v:=.agg cs) (gJ results103 aY.out underlying45 hci rfl rfl) rfl ⟨cs,rfl,dh.out,aK aA.out bf.out (by omega)⟩
end Go.Proofs.YtiagcenlnekdeaaGreatDoor
namespace Go.Proofs.YtiagcenlnekdeaaGreatDoor
open Go.RowKit
attribute [local go_sem ↓] Go.wp_at_zero Go.wp_at_succ
theorem b96 (A:Option Addr) (b:List UInt8) (c:Nat) (PA:Option Addr) (ws:List aG) (pc:Nat) (w:World) (h:dJ w A b c PA ws pc) :
  Calls prog 104 #[dP A b.length c PA ws.length pc] w fun e w' => ∃ A' c',e = .returned (dP A' (bytesD b ws).length c' none 0 0)∧w'.ownsRow w.heap.size 5 1 (.slice A' (bytesD b ws).length c') (bytesD b ws).length ((bytesD b ws).map ah)∧Keep w w':=by
 go_enter func104,ntmps104
 go_wp2_with fail
 refine(UF _ _ _ _ _ _ _ (h.keep (((Below.refl _ _).alloc (Nat.le_refl _) _).alloc (by simp) _))).mono ?_;rintro e w2 ⟨v,rfl,hown,hk2⟩;have r0:w2.cell? ⟨w.heap.size+1,0,none⟩=some (.slice none 0 0):=aC hk2 (by go_simp);have r1:w2.cell? ⟨w.heap.size+1,1,none⟩=some (.slice none 0 0):=aC hk2 (by go_simp);have g0:w2.frozen? ⟨w.heap.size+1,0,none⟩=false:=fU hk2 (by simp) (by go_simp);have g1:w2.frozen? ⟨w.heap.size+1,1,none⟩=false:=fU hk2 (by simp) (by go_simp);have k2:Keep w w2:=af (((Below.refl _ _).alloc (Nat.le_refl _) _).alloc (by simp) _) hk2;obtain⟨A2,c2,rfl,hc2,hm2,c3K⟩:=dD hown;go_wp2_with fail
 unfold maxLen at hm2;refine bodyPost_ret (v:=dP A2 (bytesD b ws).length c2 none 0 0) (by simp[results,results104,go_sem,r0,r1,g0,g1]) rfl ⟨A2,c2,rfl,?_,?_⟩
 ·have VL:=ownsRow_setCell_below (ownsRow_setCell_below hown (a:=⟨w.heap.size+1,0,none⟩) (by simp) (.slice A2 (bytesD b ws).length c2)) (a:=⟨w.heap.size+1,1,none⟩) (by simp) (.slice none 0 0)
  exact wU VL (by simp;omega)
 ·exact(k2.setCell (by simp) _).setCell (by simp) _
theorem We (d0 d1 e0 e1:Value) (base room n:Int) (last:List UInt8):((bW d0 d1 base room n last).set 0 e0).set 1 e1=bW e0 e1 base room n last:=rfl
theorem b6f (A:Option Addr) (b:List UInt8) (c:Nat) (PA:Option Addr) (ws:List aG) (pc:Nat) (base room n:Int) (last:List UInt8) (ls:Array Value) (w:World) (h:dJ w A b c PA ws pc) (hS:bV w) (hb1 : -9223372036854775808≤base∧base≤9223372036854775807)
  (hls:gV (bW (.slice A b.length c) (.slice PA ws.length pc) base room n last) ls) :
  Calls prog 73 #[.agg ls] w fun e w' => ∃ A' c' cs,e = .returned (.agg cs)∧gV (bW (.slice A' (bytesD b ws).length c') (.slice none 0 0) base room ((dF base room (bytesD b ws)).1:Nat) (dF base room (bytesD b ws)).2.1) cs ∧
   w'.ownsRow w.heap.size 5 1 (.slice A' (bytesD b ws).length c') (bytesD b ws).length ((bytesD b ws).map ah)∧Keep w w':=by
 have T1:Hid (∀ w',Keep w w'→Calls prog 103 #[.agg ls] w' fun e w'' => ∃ cs,e = .returned (.agg cs)∧gV (bW (.slice A b.length c) (.slice PA ws.length pc) base room ((dF base room (bytesD b ws)).1:Nat) (dF base room (bytesD b ws)).2.1) cs∧Keep w' w''):=fun w' hk=>V4 A b c PA ws pc base room n last ls w' (h.keep hk) (hS.keep hk) hb1 hls;have D1:Hid (∀ w',Keep w w'→Calls prog 104 #[dP A b.length c PA ws.length pc] w' fun e w'' => ∃ A' c',e = .returned (dP A' (bytesD b ws).length c' none 0 0)∧w''.ownsRow w'.heap.size 5 1 (.slice A' (bytesD b ws).length c') (bytesD b ws).length ((bytesD b ws).map ah)∧Keep w' w''):=fun w' hk=>b96 A b c PA ws pc w' (h.keep hk);have hll:Hid ((dF base room (bytesD b ws)).2.1.length=32):=LM _ _ _;generalize dF base room (bytesD b ws)=OP at *;generalize bytesD b ws=bs at *;obtain⟨zs,hz1,hz2,hz3⟩:=Ey;have hlz:=hls.z;have hln:=hls.n;have nX:=hls.i
 have nN:=hid hls;clear hls h hS;generalize b.length=bl at *;generalize ws.length=wl at *;go_enter func73,ntmps73
 go_upto_region 1 with fail
 obtain⟨w1,hw1,ku,HR1,ai,Gf⟩:=qF w 45 45 ls zs;rw[←hw1];clear hw1;go_wp2_with ((with_reducible refine bY w.heap.size ls (Eq.trans ?_ rfl) ku.out _ underlying45 rfl nX ?_);rfl)
 refine(T1.out w1 ai.out).mono ?_;rintro e w2 ⟨cs,rfl,hcs,k2⟩;have hcz:=hcs.z;have hcn:=hcs.n;have hci:=hcs.i
 have dh:=hid hcs;have HR2:=hid (HR1.out.keep k2);have ay:=hid (af ai.out k2);obtain⟨w3,hst,hb3,hg3⟩:=bn (P:=prog) cs.toList (ku.out.keep k2) (by simp[hlz,hcz]) dh.out.o;rw[dh.out.l]at hb3;have HB3:=hid hb3;have HR3:=hid (HR2.out.grown hg3 (iw (by omega)))
 have aA:Hid (Keep w w3):=aK ay.out hg3 (by omega);have PL:w1.heap.size≤w3.heap.size:=Nat.le_trans k2.size hg3.size;clear hcs k2 hb3 hg3;go_upto_region 2 with fail
 obtain⟨c0,c1,c2,c3,c4⟩:=sS HB3.out;go_wp2_with fail
 refine(D1.out w3 aA.out).mono ?_;rintro e w4 ⟨A4,AU,rfl,own4,k4⟩;have HB4:=hid (HB3.out.keep k4);have HR4:=hid (HR3.out.keep k4)
 have aQ:=hid (af aA.out k4);have Own4:=hid own4;clear c0 c1 c2 c3 c4 own4 k4;obtain⟨c0,c1,c2,c3,c4⟩:=sS HB4.out;have f0:=HB4.out.frozen 0;have f1:=HB4.out.frozen 1
 go_upto_region 3 with fail
 obtain⟨w5,hw5⟩ : ∃ w5,w5=(w4.setCell ⟨w.heap.size,0,none⟩ (.slice A4 bs.length AU)).setCell ⟨w.heap.size,1,none⟩ (.slice none 0 0):=⟨_,rfl⟩
 have jE:Hid (ae w5 w.heap.size 45 (bW (.slice A4 bs.length AU) (.slice none 0 0) base room (OP.1:Nat) OP.2.1)):=by
  rw[hw5,←We (.slice A bl c) (.slice PA wl pc)];exact(HB4.out.az 0 _).az 1 _
 have kX:Hid (ae w5 (w.heap.size+1) 45 zs.toList):=by rw[hw5];exact(HR4.out.far (by simp) _).far (by simp) _
 have aJ:Hid (Keep w w5):=by rw[hw5];exact(aQ.out.setCell (by simp) _).setCell (by simp) _
 have hg5:w4.grownBy w5 (some w.heap.size):=by rw[hw5];exact eH (eH (iH _ _))
 have Own5:=hid (Own4.out.kept hg5 (.inr (fun e=>by have h1:=(Own4.out.lt _ e).1;omega)));rw[←hw5];clear hw5 hg5 c0 c1 c2 c3 c4 f0 f1;obtain⟨fs,hfs⟩ : ∃ fs:Array Value,fs.toList=bW (.slice A4 bs.length AU) (.slice none 0 0) base room (OP.1:Nat) OP.2.1:=⟨_,rfl⟩
 have hfA:=gV.of hll.out hfs;have hfz:=hfA.z;have hfn:=hfA.n;have hfi:=hfA.i
 have vO:=hid hfA;have jr:Hid (ae w5 w.heap.size 45 fs.toList):=by rw[hfs];exact jE.out
 clear hfA hfs;obtain⟨w8,fQ,aY,bf⟩:=jo fs.toList kX.out (by simp[hz1,hfz]) vO.out.o;clear hst;go_wp2_with ((with_reducible refine bY w.heap.size fs (Eq.trans ?_ rfl) jr.out _ underlying45 rfl hfi ?_);rfl)
 exact bodyPost_ret (v:=.agg fs) (gJ results73 aY.out underlying45 hfi rfl rfl) rfl ⟨A4,AU,fs,rfl,vO.out,wU (Own5.out.kept bf.out (.inr (fun e=>by have h1:=(Own5.out.lt _ e).1;omega))) (by omega),aK aJ.out bf.out (by omega)⟩
end Go.Proofs.YtiagcenlnekdeaaGreatDoor
