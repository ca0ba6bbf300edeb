/- Texts merged by pack.py: Rk, Td, Te. -/
import Derived.Test.YtiagcenlnekdeaaGreatDoorCx24
import Derived.Test.YtiagcenlnekdeaaGreatDoorCx25
import Derived.Test.YtiagcenlnekdeaaGreatDoorCx26
import Derived.Test.YtiagcenlnekdeaaGreatDoorCx7
import Derived.Test.YtiagcenlnekdeaaGreatDoorCx8
set_option maxRecDepth 1000000
set_option maxHeartbeats 16000000
open Go.Proofs.Tryz
open Go.Lib (hid)
set_option linter.unusedSimpArgs false
set_option linter.unusedVariables false
namespace Go.Proofs.YtiagcenlnekdeaaGreatDoor
open Go.RowKit
attribute [local go_sem ↓] Go.wp_at_zero Go.wp_at_succ
def lastH (l:List Hd):Hd:=l.getD (l.length - 1) hd0
def xY (p:eF) (l:List Hd) (h:Hd) (now:Int):Int :=
 if pF p=false∨l.length=0 then 15
 else if(h.prev==df (lastH l))=false then 9
 else if(h.bits.toNat==(vZ p l).toNat)=false then 7
 else if o8 (fC (df h)) h.bits p.limit≠0 then o8 (fC (df h)) h.bits p.limit
 else if zg h.time (l.map Hd.time) now p.dm≠0 then zg h.time (l.map Hd.time) now p.dm
 else uJ p l.length (df h)
theorem Vz {h:Hd} (hk:h.ok) {pv:Array Value} (hp:aX h.prev pv) {w:World} {g:Nat} {t:TypeId} {cs:Array Value} (hb:ae w g t cs.toList) (hcs:bF h cs):w.rangeAt g 1 pv.toList:=by
 refine cu hb 1 pv.toList ?_;rw[hp.l,hcs.l];simp[Hd.cells,hk.1]
theorem a4q {l:List Hd} (h:l.length - 1<l.length):lastH l=l[l.length - 1]:=by
 unfold lastH;simp[List.getD_eq_getElem?_getD,List.getElem?_eq_getElem h]
theorem b2k (p:eF) (A:Option Addr) (c:Nat) (B:Option Addr) (l:List Hd) (d:Nat) (h:Hd) (cs:Array Value) (now:Int) (w:World) (hS:bV w) (hC:pG p A w)
  (hl:l.length≤100) (hd:l.length≤d) (hdm:d≤maxLen) (hr:Rd w B (l.flatMap Hd.cells)) (hk : ∀ h∈l,h.ok) (ho:h.ok) (hcs:bF h cs) :
  Calls prog 231 #[gI p A c,.slice B l.length d,.agg cs,iv now] w fun e w'=>e = .returned (iv (xY p l h now))∧Keep w w':=by
 have S1:Hid (∀ y,Calls prog 21 #[gI p A c] y fun e w'=>e = .returned (.bool (pF p))∧Keep y w'):=hid fun y=>Xg p A c y;have HR:Hid (∀ r,xY p l h now=r→r=if pF p=false∨l.length=0 then 15 else if(h.prev==df (lastH l))=false then 9 else if(h.bits.toNat==(vZ p l).toNat)=false then 7 else if o8 (fC (df h)) h.bits p.limit≠0 then o8 (fC (df h)) h.bits p.limit else if zg h.time (l.map Hd.time) now p.dm≠0 then zg h.time (l.map Hd.time) now p.dm else uJ p l.length (df h)):=hid fun r e=>by subst e;rfl
 replace HR:=hid (HR.out _ rfl);have I1:Hid (∀ y,Keep w y → ∀ xs,bF (lastH l) xs→l.length≠0→Calls prog 19 #[.agg xs] y fun e w' => ∃ ds,e = .returned (.agg ds)∧aX (df (lastH l)) ds∧Keep y w'):=hid fun y hy xs hx h0=>D5 _ xs y (hS.keep hy) (by rw[a4q (by omega)];exact hk _ (List.getElem_mem _)) hx
 have HAT:Hid (l.length≠0 → ∃ b off,B=some ⟨b,off,none⟩∧∃ xs,bF (lastH l) xs∧w.rangeAt b (off+(l.length - 1)*68) xs.toList):=hid fun h0=>by
  have hlt:l.length - 1<l.length:=by omega
  obtain⟨b,off,h1,-,h2⟩:=PE hr hk hlt;have hx:=bF.of (hk _ (List.getElem_mem hlt));refine⟨b,off,h1,_,by rw[a4q hlt];exact hx,?_⟩;exact h2
 have C1:Hid (∀ y,Keep w y→Calls prog 239 #[gI p A c,.slice B l.length d] y fun e w'=>e = .returned (ag (vZ p l))∧Keep y w'):=hid fun y hy=>b2i p A c B l d y (by omega) hd (hr.keep hy) hk;have I2:Hid (∀ y,Keep w y→Calls prog 19 #[.agg cs] y fun e w' => ∃ ds,e = .returned (.agg ds)∧aX (df h) ds∧Keep y w'):=hid fun y hy=>D5 h cs y (hS.keep hy) ho hcs;have M1:Hid (∀ y ds,aX (df h) ds→Calls prog 32 #[.agg ds,ag h.bits,ag p.limit] y fun e w'=>e = .returned (iv (o8 (fC (df h)) h.bits p.limit))∧Keep y w'):=hid fun y ds hds=>a4M (df h) ds h.bits p.limit y (uB _) hds;have T1:Hid (∀ y,Keep w y→Calls prog 242 #[.slice B l.length d] y (Ov y.heap.size (l.map Hd.time) y)):=hid fun y hy=>c0j B l d y hl (hr.keep hy) hk;have hml:(l.map Hd.time).length≤100:=by simpa using hl
 have K1:Hid (∀ y base v,y.ownsRow base 22 1 v (l.map Hd.time).length ((l.map Hd.time).map ag)→Calls prog 241 #[ag h.time,v,iv now,iv p.dm] y fun e w'=>e = .returned (iv (zg h.time (l.map Hd.time) now p.dm))∧Keep y w'):=hid fun y base v hv=>by
  obtain⟨Av,cv,rfl,hcv,hmv,wL⟩:=dD hv;exact check_any h.time Av _ cv now p.dm y hcv hmv (wV hv)
 have P1:Hid (∀ y,Keep w y → ∀ ds,aX (df h) ds→Calls prog 22 #[gI p A c,iv l.length,.agg ds] y fun e w'=>e = .returned (iv (uJ p l.length (df h)))∧Keep y w'):=hid fun y hy ds hds=>a5L p A c l.length (df h) ds y (hC.keep hy) (uB _) hds;obtain⟨pv,hpv⟩ : ∃ pv,aX h.prev pv:=⟨_,aX.of ho.1⟩
 have HT:=hid (VA ho);have EI:=hid (Vy ho)
 have mQ:Hid (∀ y g t,ae y g t cs.toList→y.rangeAt g 1 pv.toList):=hid fun y g t hb=>Vz ho hpv hb hcs;have ku:=hid ho.1;have HL2:Hid ((df (lastH l)).length=32):=hid (uB _);have hcz:=hcs.z;have hcn:=hcs.n;have hci:=hcs.i
 have hpz:=hpv.z;have hpn:=hpv.n;have hpi:=hpv.i
 rw[←hcs.l]at HT EI;have Jn:=hid hpv;have vC:Hid ((df h).length=32):=hid (uB _);clear hpv hcs ho hk hr hC hS hml hdm;generalize xY p l h now=R at *;generalize df h=HI at *;generalize h.prev=fA at *;generalize o8 (fC HI) h.bits p.limit=M at *;generalize uJ p l.length HI=Au at *;generalize vZ p l=CR at *;generalize df (lastH l)=LI at *;generalize lastH l=c2u at *;generalize zg h.time (l.map Hd.time) now p.dm=CI at *;generalize l.map Hd.time=ts at *;generalize l.length=n at *;generalize h.bits=bits at *;generalize h.time=tm at *;generalize pF p=S at *;unfold gI at *;generalize p.limit=limit at *;generalize p.bQ=bQ at *;generalize p.span=span at *;generalize p.dm=dm at *;generalize p.idx=idx at *;generalize p.dK=dK at *;generalize hm:p.dH.length=m at *;clear hm;clear p;go_enter func231,ntmps231
 go_upto_region 1 with fail
 obtain⟨w1,hw1,cZ,jZ,ai,-⟩:=vX w 25 29 [ag limit,iv bQ,iv span,iv dm,iv idx,iv dK,.slice A m c] cs;rw[←hw1];clear hw1;have p0:=cZ.out.cell 0;have p1:=cZ.out.cell 1;have p2:=cZ.out.cell 2;have p3:=cZ.out.cell 3;have p4:=cZ.out.cell 4;have p5:=cZ.out.cell 5;have p6:=cZ.out.cell 6;simp only[List.getElem?_cons_succ,List.getElem?_cons_zero]at p0 p1 p2 p3 p4 p5 p6;go_wp2_with fail
 refine(S1.out _).mono ?_;clear S1 p0 p1 p2 p3 p4 p5 p6;rintro e w2 ⟨rfl,k2⟩;have HP2:=hid (cZ.out.keep k2);have oL:=hid (jZ.out.keep k2);have ay:=hid (af ai.out k2);clear cZ jZ ai k2;by_cases hs0:S=false∨n=0
 ·have hR:=HR.out
  rw[if_pos hs0]at hR;subst hR;clear HR HP2 oL
  cases S with
  | false =>
    go_wp2
    exact bodyPost_ret (v:=iv 15) (by simp[results,results231]) rfl ⟨rfl,ay.out⟩
  | true =>
    have h0:n=0:=hs0.resolve_left (by simp);subst h0;go_wp2
    exact bodyPost_ret (v:=iv 15) (by simp[results,results231]) rfl ⟨rfl,ay.out⟩
 have hR:=HR.out;rw[if_neg hs0]at hR;replace HR:=hid hR;have hS:S=true:=by cases S with | true=>rfl | false=>exact absurd (Or.inl rfl) hs0
 have h0:n≠0:=fun e=>hs0 (Or.inr e);obtain⟨b,off,rfl,xs,hxs,hrx⟩:=HAT.out h0;have Hxs:=hid hxs;have hxz:=hxs.z;have zA:=hxs.n;have hxi:=hxs.i
 have a0g:Hid (∀ y,Keep w y→Calls prog 19 #[.agg xs] y fun e w' => ∃ ds,e = .returned (.agg ds)∧aX LI ds∧Keep y w'):=hid fun y hy=>I1.out y hy xs Hxs.out h0;obtain⟨j,hj⟩ : ∃ j,n - 1=j:=⟨_,rfl⟩
 have hj2:(n:Int) - 1=j:=by omega
 have hjn:j<n:=by omega
 rw[hj]at hrx;have HX:=hid hrx;have g1:(n==0)=false:=by simp[h0]
 have g2:((n:Int)==0)=false:=by rw[beq_eq_false_iff_ne];omega
 subst hS;clear hR hs0 hj hrx hxs HAT I1 Hxs;go_upto_region 3 with fail
 clear g1 g2;refine bu (.take [0,1,2,3,4,5,6,7] (.force [8] (.take [9] .done))) [] (by kernel_rfl) (by kernel_rfl) (fun w3 k3=>?_);have fZ:=hid (HP2.out.keep k3);have jR:=hid (oL.out.keep k3);have aA:=hid (af ay.out k3);have um:Hid (w3.rangeAt b (off+j*68) xs.toList):=hid fun i v hv=>aC aA.out (HX.out i v hv);have iG:Hid (w3.rangeAt (w.heap.size+1) 1 pv.toList):=hid (mQ.out _ _ _ jR.out);clear HP2 oL ay k3 HX mQ;refine aN w3 (Below.refl _ _) ?_;simp only[au,ax,ak,aj]
 repeat(first
  | ((with_reducible refine jY (w.heap.size+1) 1 pv (Eq.trans ?_ rfl) iG.out _ underlying27 rfl hpi rfl ?_);rfl;simp only[Act.put,Array.set!_eq_setIfInBounds,List.setIfInBounds_toArray,List.set_cons_succ,List.set_cons_zero])
  | ((with_reducible refine jY b (off+j*68) xs (Eq.trans ?_ rfl) um.out _ underlying29 rfl hxi rfl ?_);rfl;simp only[Act.put,Array.set!_eq_setIfInBounds,List.setIfInBounds_toArray,List.set_cons_succ,List.set_cons_zero])
  | go_big_quiet_step (fail))
 refine wpQuiet_nil (bI ?_);simp only[au,ax,ak,aj];refine aI rfl (fun K hK=>?_);go_simp
 (with_reducible refine(a0g.out _ aA.out).mono ?_)
 rintro e w4 ⟨ds,rfl,hds,k4⟩;refine hK _ _ k4 ?_;have heq : ∀ x,(Op.equalIn 10000 27 (.agg pv) (.agg ds)).run prog (dn w4 x) = .ok (fA==LI) (dn w4 x):=fun x=>Vq Jn.out hds ku.out HL2.out _;have heq2 : ∀ x,(Go.binOp .neq 27 (.agg pv) (.agg ds)).run prog (dn w4 x) = .ok (.bool (!(fA==LI))) (dn w4 x):=fun x=>b4e Jn.out hds ku.out HL2.out _;have hdz:=hds.z;have hdn:=hds.n;have hdi:=hds.i
 have pK:=hid (fZ.out.keep k4);have qp:=hid (jR.out.keep k4);have aQ:=hid (af aA.out k4);clear hK K hds k4 fZ jR aA um iG a0g Jn ku HL2;obtain⟨b1,hb1⟩ : ∃ b,(fA==LI)=b:=⟨_,rfl⟩
 rw[hb1]at HR heq heq2;clear hb1;refine aS (aN w4 (Below.refl _ _) ?_);simp only[au,ax,ak,aj];repeat(go_big_quiet_step (fail))
 refine wpQuiet_nil (aT ?_);clear heq heq2
 cases b1 with
 | false =>
   have hR:=HR.out;rw[if_pos rfl]at hR;subst hR;clear HR pK qp;go_wp2
   exact bodyPost_ret (v:=iv 9) (by simp[results,results231]) rfl ⟨rfl,aQ.out⟩
 | true =>
 have hR:=HR.out;rw[if_neg (by simp)]at hR;replace HR:=hid hR;clear hR;go_upto_region 5 with fail
 refine bu (.take [0,1,2,3] (.force [4] (.take [5] .done))) [] (by kernel_rfl) (by kernel_rfl) (fun w5 k5=>?_);have nK:=hid (pK.out.keep k5);have tN:=hid (qp.out.keep k5);have aJ:=hid (af aQ.out k5);have q0:=aF (nK.out.cell 0);have q1:=aF (nK.out.cell 1);have q2:=aF (nK.out.cell 2);have q3:=aF (nK.out.cell 3);have q4:=aF (nK.out.cell 4);have q5:=aF (nK.out.cell 5);have q6:=aF (nK.out.cell 6);have WW:=aF ((tN.out.cell 66).trans EI.out);clear pK qp aQ k5;refine aN w5 (Below.refl _ _) ?_;simp only[au,ax,ak,aj];repeat(go_big_quiet_step (fail))
 refine wpQuiet_nil (bI ?_);clear WW q0 q1 q2 q3 q4 q5 q6;simp only[au,ax,ak,aj];refine aI rfl (fun K hK=>?_);go_simp
 (with_reducible refine(C1.out _ aJ.out).mono ?_)
 rintro e w6 ⟨rfl,k6⟩;refine hK _ _ k6 ?_;have yO:=hid (nK.out.keep k6);have ry:=hid (tN.out.keep k6);have bD:=hid (af aJ.out k6);clear hK K k6 nK tN aJ C1;refine aS (aN w6 (Below.refl _ _) ?_);simp only[au,ax,ak,aj];repeat(go_big_quiet_step (fail))
 refine wpQuiet_nil (aT ?_);obtain⟨b2,hb2⟩ : ∃ b,(bits.toNat==CR.toNat)=b:=⟨_,rfl⟩
 rw[hb2]at HR
 have hbn:((bits.toNat:Int)!=(CR.toNat:Int))=!b2:=by
  rw[←hb2,Bool.eq_iff_iff];simp;omega
 rw[hbn];clear hb2 hbn
 cases b2 with
 | false =>
   have hR:=HR.out;rw[if_pos rfl]at hR;subst hR;clear HR yO ry;go_wp2
   exact bodyPost_ret (v:=iv 7) (by simp[results,results231]) rfl ⟨rfl,bD.out⟩
 | true =>
 have hR:=HR.out;rw[if_neg (by simp)]at hR;replace HR:=hid hR;clear hR;have rh:Hid (w6.rangeAt (w.heap.size+1) 0 cs.toList):=hid (cu ry.out 0 cs.toList (by simp[List.take_of_length_le]));go_upto_region 7 with fail
 go_wp2_with ((with_reducible refine dw (w.heap.size+1) 0 cs (Eq.trans ?_ rfl) rh.out _ underlying29 rfl hci rfl ?_);rfl)
 refine(I2.out _ bD.out).mono ?_;clear I2 rh;rintro e w7 ⟨es,rfl,hes,k7⟩;have nM:=hid (yO.out.keep k7);have tV:=hid (ry.out.keep k7);have bT:=hid (af bD.out k7);have b4I:=hes.z;have hen:=hes.n;have Bc:=hes.i
 obtain⟨zs,hz1,hz2,hz3,-⟩:=BD;have hst:=fK w7 27 Bc (hz1.trans b4I.symm) hes.o;have Z4:=hid hes;clear k7 yO ry bD hes;go_upto_region 8 with fail
 obtain⟨w8,hw8,RX,-,-⟩:=di w7 27 es;have EW:Hid (ae w8 w.heap.size 25 [ag limit,iv bQ,iv span,iv dm,iv idx,iv dK,.slice A m c]):=by rw[hw8];exact hid (nM.out.alloc _)
 have yL:Hid (ae w8 (w.heap.size+1) 29 cs.toList):=by rw[hw8];exact hid (tV.out.alloc _)
 have bK:Hid (Keep w w8):=by rw[hw8];exact hid (af bT.out (aB _ _))
 rw[←hw8];clear hw8 hst nM tV bT hz1 hz2 hz3 zs;generalize w7.heap.size=g at *;have re:Hid (w8.rangeAt g 0 es.toList):=hid (cu RX.out 0 es.toList (by simp[List.take_of_length_le]));have p0:=EW.out.cell 0;have WW:=(yL.out.cell 66).trans EI.out;simp only[List.getElem?_cons_succ,List.getElem?_cons_zero]at p0;go_wp2_with ((with_reducible refine dw g 0 es (Eq.trans ?_ rfl) re.out _ underlying27 rfl Bc rfl ?_);rfl)
 refine(M1.out _ es Z4.out).mono ?_;clear M1 re p0 WW;rintro e w9 ⟨rfl,k9⟩;have kW:=hid (EW.out.keep k9);have BQ:=hid (yL.out.keep k9);have NK:=hid (RX.out.keep k9);have bP:=hid (af bK.out k9);clear k9 EW yL RX bK;go_wp2_with fail
 refine(a7l M _).mono ?_;rintro e wy ⟨rfl,rfl⟩;by_cases hM0:M≠0
 ·have hR:=HR.out
  rw[if_pos hM0]at hR;subst hR;have d1:(R != 0)=true:=by simp[hM0]
  clear HR kW BQ NK hM0;go_wp2
  exact bodyPost_ret (v:=iv R) (by simp[results,results231]) rfl ⟨rfl,bP.out⟩
 have hR:=HR.out;rw[if_neg (by simp[hM0])]at hR;replace HR:=hid hR;obtain rfl:M=0:=by omega
 have rh:Hid (wy.rangeAt g 0 es.toList):=hid (cu NK.out 0 es.toList (by simp[List.take_of_length_le]));clear hR hM0;go_upto_region 11 with fail
 refine bu (.take [0,1,2,4,5,6] (.force [3,7] (.take [8] .done))) [] (by kernel_rfl) (by kernel_rfl) (fun wa ka=>?_);have SI:=hid (kW.out.keep ka);have IB:=hid (BQ.out.keep ka);have YZ:=hid (NK.out.keep ka);have fV:=hid (af bP.out ka);have q3:=aF (SI.out.cell 3);have b8A:=aF ((IB.out.cell 65).trans HT.out);clear kW NK bP rh ka;refine aN wa (Below.refl _ _) ?_;simp only[au,ax,ak,aj];repeat(go_big_quiet_step (fail))
 refine wpQuiet_nil (bI ?_);clear q3 b8A IB;simp only[au,ax,ak,aj];refine aI rfl (fun K hK=>?_);go_simp
 (with_reducible refine(T1.out _ fV.out).mono ?_)
 rintro e wb ⟨tv,rfl,a3O,kb⟩;refine hK _ _ kb ?_;have ZN:=hid a3O;have ZA:=hid (SI.out.keep kb);have Y0:=hid (YZ.out.keep kb);have lW:=hid (af fV.out kb);clear hK K T1 a3O kb SI YZ fV;refine aI rfl (fun K hK=>?_);go_simp
 (with_reducible refine(K1.out _ _ _ ZN.out).mono ?_)
 rintro e wc ⟨rfl,kc⟩;refine hK _ _ kc ?_;have Aj:=hid (ZA.out.keep kc);have Y1:=hid (Y0.out.keep kc);have gK:=hid (af lW.out kc);clear hK K K1 ZN kc ZA Y0 lW;refine aS (aN wc (Below.refl _ _) ?_);simp only[au,ax,ak,aj];repeat(go_big_quiet_step (fail))
 refine wpQuiet_nil (aT ?_);go_wp2_with fail
 refine(a7l CI _).mono ?_;rintro e wd ⟨rfl,rfl⟩;by_cases hC0:CI≠0
 ·have hR:=HR.out
  rw[if_pos hC0]at hR;subst hR;have d1:(R != 0)=true:=by simp[hC0]
  clear HR Aj Y1 hC0;go_wp2
  exact bodyPost_ret (v:=iv R) (by simp[results,results231]) rfl ⟨rfl,gK.out⟩
 have hR:=HR.out;rw[if_neg hC0]at hR;subst hR;obtain rfl:CI=0:=by omega
 clear HR hC0;have re:Hid (wd.rangeAt g 0 es.toList):=hid (cu Y1.out 0 es.toList (by simp[List.take_of_length_le]));go_upto_region 14 with fail
 have p0:=Aj.out.cell 0;have p1:=Aj.out.cell 1;have p2:=Aj.out.cell 2;have p3:=Aj.out.cell 3;have p4:=Aj.out.cell 4;have p5:=Aj.out.cell 5;have p6:=Aj.out.cell 6;simp only[List.getElem?_cons_succ,List.getElem?_cons_zero]at p0 p1 p2 p3 p4 p5 p6;go_wp2_with ((with_reducible refine dw g 0 es (Eq.trans ?_ rfl) re.out _ underlying27 rfl Bc rfl ?_);rfl)
 refine(P1.out _ gK.out es Z4.out).mono ?_;clear P1 re p0 p1 p2 p3 p4 p5 p6;rintro e we ⟨rfl,ke⟩;go_wp2
 exact bodyPost_ret (v:=iv R) (by simp[results,results231]) rfl ⟨rfl,af gK.out ke⟩
theorem a2j (w:World) (g o:Nat) (u:Value):w.grownBy (w.setCell ⟨g,o,none⟩ u) (some g):=eH (iH w _)
def gy (T M:Nat) (v:Value) (k:Nat):Prop:=k=T∨k=M∨v.ownBlock=some k
theorem gm.x {w:World} {base T M:Nat} {v:Value} {most:Int} {ns:List Nd} (h:gm w base T M v most ns) : ∀ k,gy T M v k→base≤k:=fun k hk=>by
 rcases hk with rfl | rfl | hk
 ·exact h.AP
 ·exact h.AO
 ·exact(h.o.lt k hk).1
theorem c0o (x:Int) (M:Nat):prog.built 142 [(0,.int .i64 x),(2,.map (some M))]=some #[.int .i64 x,.slice none 0 0,.map (some M)]:=by kernel_rfl
theorem new_any (m:Int) (w:World):Calls prog 39 #[iv m] w fun e w' => ∃ T M,e = .returned (pT T)∧gm w' w.heap.size T M (.slice none 0 0) (min (max m 0) 1048576) []∧Keep w w':=by
 obtain⟨x,hx⟩ : ∃ x,min (max m 0) 1048576=x:=⟨_,rfl⟩
 rw[hx];have hmm:=@run_makeMap prog;have hB:=c0o x w.heap.size;go_enter func39,ntmps39
 go_wp2
 refine bodyPost_ret (v:=pT (w.heap.size+1)) (by simp[results,results39]) rfl ⟨w.heap.size+1,w.heap.size,rfl,⟨?_,World.ownsRow_nil _ _ _ _,(MapAt.new w).keep (aB _ _),by omega,Nat.le_refl _,by omega,by simp[Value.ownBlock],by simp[Value.ownBlock]⟩,af (aB _ _) (aB _ _)⟩;have h2:=ae.new (w.alloc (.map #[] 0)) 142 [.int .i64 x,.slice none 0 0,.map (some w.heap.size)];rw[World.size_alloc]at h2;exact h2
theorem b7x {I:List UInt8} {h:Hd} {ds cs:Array Value} (hI:I.length=32) (hd:aX I ds) (hk:h.ok) (hc:bF h cs) (W:Nat) :
  prog.built 81 [(0,.agg ds),(1,.agg cs),(2,.int .i64 (-1)),(4,aO W)]=some (Nd.cells ⟨I,h,-1,0,W⟩).toArray:=by
 obtain rfl:=hd.e;have hcs:cs=h.cells.toArray:=by rw[←hc.l,Array.toArray_toList]
 subst hcs;obtain⟨bz,prev,root,tm,bt,nc⟩:=h;obtain⟨h1,h2⟩:=hk;simp only at h1 h2;unfold aO Nd.cells uL Hd.cells;simp only;clear hc hd;generalize n64 (limb W 0)=l0;generalize n64 (limb W 1)=l1;generalize n64 (limb W 2)=l2;generalize n64 (limb W 3)=l3;generalize ag bz=x0;generalize ag tm=x1;generalize ag bt=x2;generalize ag nc=x3;obtain⟨a0,a1,a2,a3,a4,a5,a6,a7,a8,a9,b0,b1,b2,b3,b4,b5,b6,b7,b8,b9,c0,c1,c2,c3,c4,c5,c6,c7,c8,c9,d0,d1,rfl⟩:=Gl hI;obtain⟨e0,e1,e2,e3,e4,e5,e6,e7,e8,e9,f0,f1,f2,f3,f4,f5,f6,f7,f8,f9,g0,g1,g2,g3,g4,g5,g6,g7,g8,g9,k0,k1,rfl⟩:=Gl h1;obtain⟨m0,m1,m2,m3,m4,m5,m6,m7,m8,m9,n0,n1,n2,n3,n4,n5,n6,n7,n8,n9,o0,o1,o2,o3,o4,WC,WE,WG,c4m,c4n,p0,p1,rfl⟩:=Gl h2;clear h1 h2 hI
 show _=_
 first | kernel_rfl | (with_unfolding_all rfl)
theorem QK {P:Program} {S:World→Prop} {ops:Array Oper} {rest:List Oper} {a:Act} {Q:Act→Prop} {parts:Array (Nat × Operand)} {dst:Option Tmp} {t ty':TypeId} {pos:String} {eG:Array Edge}
  (ps:List (Nat × Value)) (cells:Array Value) (hx:(parts.toList.map fun p=>(p.1,a.eval p.2))=ps) (hb:P.built t ps=some cells)
  (h:wpQuiet P ops S Q rest (a.put dst (.agg cells))):wpQuiet P ops S Q ({ dst:=dst,op:=.build t parts,type:=ty',pos:=pos,after:=eG,guard:=none}::rest) a:=by
 refine BigFrame.wpQuiet_want (by simp[Region.wanted]) fun K hK=>⟨.agg cells,fun w hw=>?_,hK _ h⟩
 have e:(parts.map fun(i,x)=>(i,a.eval x)).toList=ps:=by rw[Array.toList_map];exact hx
 have hb2:P.built t (parts.map fun(i,x)=>(i,a.eval x)).toList=some cells:=by rw[e];exact hb
 unfold Oper.quietAt execOp;simp only[Sem.run_bind,run_build w t _ cells hb2,Result.andThen_ok];exact⟨rfl,rfl⟩
theorem a4Z {n:Nd}:n.cells=(n.id.map ah++n.head.cells)++(Value.int .i64 n.par::Value.int .i64 n.hgt::uL n.work):=by simp[Nd.cells]
theorem b7o {n:Nd} (h:n.ok) (p:Int) (g:Nat):(n.cells.set 100 (.int .i64 p)).set 101 (.int .i64 g)=Nd.cells { n with par:=p,hgt:=g}:=by
 have hl:(n.id.map ah++n.head.cells).length=100:=by simp[h.1,Hd.len h.2.1]
 rw[a4Z,List.set_append_right _ _ (by omega),List.set_append_right _ _ (by omega),hl];simp[Nd.cells]
theorem b7p {n:Nd} (h:n.ok) (S:Nat):(((n.cells.set 102 (n64 (limb S 0))).set 103 (n64 (limb S 1))).set 104 (n64 (limb S 2))).set 105 (n64 (limb S 3))=Nd.cells { n with work:=S}:=by
 have hl:(n.id.map ah++n.head.cells).length=100:=by simp[h.1,Hd.len h.2.1]
 rw[a4Z,List.set_append_right _ _ (by omega),List.set_append_right _ _ (by omega),List.set_append_right _ _ (by omega),List.set_append_right _ _ (by omega),hl];simp[Nd.cells,uL]
theorem a5a {n:Nd} (h:n.ok):n.cells[102]?=some (n64 (limb n.work 0))∧n.cells[103]?=some (n64 (limb n.work 1))∧n.cells[104]?=some (n64 (limb n.work 2))∧n.cells[105]?=some (n64 (limb n.work 3)):=⟨Ed h 2,Ed h 3,Ed h 4,Ed h 5⟩
theorem add_any (base T M:Nat) (v:Value) (most:Int) (ns:List Nd) (h:Hd) (cs:Array Value) (w:World) (hS:bV w) (dV:Tr ns) (hO:gm w base T M v most ns) (hl:ns.length≤100000) (ho:h.ok) (hcs:bF h cs) (hbase:base≤w.heap.size) :
  Calls prog 40 #[pT T,.agg cs] w fun e w'=>e = .returned (.tuple #[iv (jf most ns h).2.1,iv (jf most ns h).2.2])∧∃ v',gm w' base T M v' most (jf most ns h).1∧aP (gy T M v) w w'∧(v'.ownBlock=v.ownBlock ∨ ∀ b,v'.ownBlock=some b→w.heap.size≤b):=by
 have ID:Hid (∀ y,Keep w y→Calls prog 19 #[.agg cs] y fun e w' => ∃ ds,e = .returned (.agg ds)∧aX (df h) ds∧Keep y w'):=hid fun y hy=>D5 h cs y (hS.keep hy) ho hcs;have mM:Hid (∀ y id xs,Keep w y→id.length=32→aX id xs→Calls prog 68 #[pT T,.agg xs] y fun e w'=>e = .returned (.tuple #[iv ((fB ns id).getD 0:Nat),.bool (fB ns id).isSome])∧Keep y w'):=hid fun y id xs hy h1 h2=>U3 T ns id xs y (hO.r.keep hy) h1 h2;obtain⟨N,hN⟩ : ∃ N,ns.length=N:=⟨_,rfl⟩
 have LN:Hid (∀ y,Keep w y→Calls prog 30 #[pT T] y fun e w'=>e = .returned (iv N)∧Keep y w'):=hid fun y hy=>by rw[←hN];exact MB T ns y (hO.r.keep hy)
 have ES:=hid hN;clear hN;have WK:Hid (∀ y,Calls prog 69 #[ag h.bits] y fun e w'=>e = .returned (aO (uS h.bits))∧Keep y w'):=hid fun y=>c04 _ y;obtain⟨I,hI⟩ : ∃ I,df h=I:=⟨_,rfl⟩
 have hI2:I.length=32:=by rw[←hI];exact uB _
 obtain⟨gu,Px⟩ : ∃ W,uS h.bits=W:=⟨_,rfl⟩
 have hW2:gu<2^256:=by rw[←Px];exact Xz _
 have hadd:jf most ns h=pU most ns I h gu:=by unfold jf;rw[hI,Px]
 rw[hadd];rw[hI]at ID;rw[Px]at WK;have c2f:=hid hI;have HI2:=hid hI2;have HW2:=hid hW2
 obtain⟨pv,hpv⟩ : ∃ pv,aX h.prev pv:=⟨_,aX.of ho.1⟩
 have EI:=hid (Vy ho);rw[←hcs.l]at EI;have mQ:Hid (∀ y g t,ae y g t cs.toList→y.rangeAt g 1 pv.toList):=hid fun y g t hb=>Vz ho hpv hb hcs;have iJ:Hid (h.prev.length=32):=hid ho.1;have Jn:=hid hpv;have NB:Hid (∀ ds,aX I ds→prog.built 81 [(0,.agg ds),(1,.agg cs),(2,.int .i64 (-1)),(4,aO gu)]=some (Nd.cells ⟨I,h,-1,0,gu⟩).toArray):=hid fun ds hd=>b7x hI2 hd ho hcs gu;have N0:iY ⟨I,h,-1,0,gu⟩ (Nd.cells ⟨I,h,-1,0,gu⟩).toArray:=iY.of ⟨hI2,ho,hW2⟩;have EU:Hid ((⟨I,h,-1,0,gu⟩:Nd).ok):=hid ⟨hI2,ho,hW2⟩;have hcz:=hcs.z;have hcn:=hcs.n;have hci:=hcs.i
 have hpz:=hpv.z;have hpn:=hpv.n;have hpi:=hpv.i
 have HO:=hid hO;have Z9:=hid ho;clear hadd hI Px hpv hcs hS hO hI2 hW2 ho;obtain⟨c2a,U9⟩ : ∃ A,pU most ns I h gu=A:=⟨_,rfl⟩
 rw[U9];have tC:=hid U9;clear U9;obtain⟨zs,hz1,hz2,hz3,-⟩:=BD;obtain⟨QP,hn1,hn2,hn3,-,-⟩:=yC;obtain⟨n0,hn0⟩ : ∃ n0,(Nd.cells ⟨I,h,-1,0,gu⟩).toArray=n0:=⟨_,rfl⟩
 rw[hn0]at NB N0;have kV:=hid N0;have h0z:=N0.z;have h0n:=N0.n;have h0i:=N0.i
 clear N0 hn0;have HK:Hid (Keep w w):=hid (Below.refl _ _);go_enter func40,ntmps40
 go_upto_region 1 with fail
 obtain⟨w1,hw1,jZ,ai,-⟩:=di w 29 cs;rw[←hw1];clear hw1 HK;have rh:Hid (w1.rangeAt w.heap.size 0 cs.toList):=hid (cu jZ.out 0 cs.toList (by simp[List.take_of_length_le]));go_wp2_with ((with_reducible refine dw w.heap.size 0 cs (Eq.trans ?_ rfl) rh.out _ underlying29 rfl hci rfl ?_);rfl)
 refine(ID.out _ ai.out).mono ?_;clear ID rh;rintro e w2 ⟨ds,rfl,hds,k2⟩;have oL:=hid (jZ.out.keep k2);have ay:=hid (af ai.out k2);clear k2 jZ ai;have hdz:=hds.z;have hdn:=hds.n;have hdi:=hds.i
 have hst:=fK w2 27 hdi (hz1.trans hdz.symm) hds.o;have dZ:=hid hds;have Ah:=hid (NB.out ds hds);clear hds NB;go_upto_region 2 with fail
 obtain⟨w3,hw3,BO,-,-⟩:=di w2 27 ds;have jR:Hid (ae w3 w.heap.size 29 cs.toList):=by rw[hw3];exact hid (oL.out.alloc _)
 have aA:Hid (Keep w w3):=by rw[hw3];exact hid (af ay.out (aB _ _))
 rw[←hw3];have b4V:w.heap.size≤w2.heap.size:=ay.out.size;have c3E:=oL.out.lt;clear hw3 oL ay;generalize w2.heap.size=gh at *;clear hst;have rg:Hid (w3.rangeAt gh 0 ds.toList):=hid (cu BO.out 0 ds.toList (by simp[List.take_of_length_le]));have F1:Hid (∀ y,Keep w y→Calls prog 68 #[pT T,.agg ds] y fun e w'=>e = .returned (.tuple #[iv ((fB ns I).getD 0:Nat),.bool (fB ns I).isSome])∧Keep y w'):=hid fun y hy=>mM.out y I ds hy HI2.out dZ.out;go_wp2_with ((with_reducible refine dw gh 0 ds (Eq.trans ?_ rfl) rg.out _ underlying27 rfl hdi rfl ?_);rfl)
 refine(F1.out _ aA.out).mono ?_;clear F1 rg;rintro e w4 ⟨rfl,k4⟩;have qp:=hid (jR.out.keep k4);have BP:=hid (BO.out.keep k4);have aQ:=hid (af aA.out k4);clear k4 jR BO aA;obtain⟨Rn,F5⟩ : ∃ f,fB ns I=f:=⟨_,rfl⟩
 rw[F5];have ru:=hid F5;clear F5
 cases Rn with
 | some i =>
   have hA:=tC.out;unfold pU at hA;rw[ru.out]at hA;simp only at hA;subst hA;have hO4:=hid (HO.out.keep aQ.out);have kx:=hid (aP.of (X:=gy T M v) aQ.out);clear tC ru Ah kV EU LN WK mM mQ;go_wp2
   exact bodyPost_ret (v:=.tuple #[iv (i:Int),iv 10]) (by simp[results,results40]) rfl ⟨rfl,v,hO4.out,kx.out,Or.inl rfl⟩
 | none =>
 have hg4:w.heap.size≤w4.heap.size:=aQ.out.size;go_upto_region 5 with fail
 go_cut [9] (fun s9 wx => ∃ gn,s9 = .pointer (some ⟨gn,0,none⟩)∧w.heap.size<gn∧gh<gn∧Hid (ae wx gn 81 n0.toList)∧Hid (Keep w4 wx))
 case first =>
  refine bu (.take [0,1,2,3] (.fork 4 (.take [5] (.force [6] .done)) 6 (.force [4] (.take [5] .done)))) [7] (by kernel_rfl) (by kernel_rfl) (fun y0 hk=>?_);have Q:=hid hk;have xC:=hid (qp.out.keep hk);have FG:=hid (BP.out.keep hk);clear hk;refine aN y0 (Below.refl _ _) ?_;simp only[au,ax,ak,aj];have Aw:Hid (y0.rangeAt gh 0 ds.toList):=hid (cu FG.out 0 ds.toList (by simp[List.take_of_length_le]));have bU:Hid (y0.rangeAt w.heap.size 0 cs.toList):=hid (cu xC.out 0 cs.toList (by simp[List.take_of_length_le]));have UI:=aF ((xC.out.cell 66).trans EI.out)
  repeat(first
   | ((with_reducible refine jY gh 0 ds (Eq.trans ?_ rfl) Aw.out _ underlying27 rfl hdi (Eq.trans ?_ rfl) ?_);rfl;rfl;simp only[Act.put,Array.set!_eq_setIfInBounds,List.setIfInBounds_toArray,List.set_cons_succ,List.set_cons_zero])
   | ((with_reducible refine jY w.heap.size 0 cs (Eq.trans ?_ rfl) bU.out _ underlying29 rfl hci (Eq.trans ?_ rfl) ?_);rfl;rfl;simp only[Act.put,Array.set!_eq_setIfInBounds,List.setIfInBounds_toArray,List.set_cons_succ,List.set_cons_zero])
   | go_big_quiet_step (fail))
  clear Aw bU UI;refine wpQuiet_nil (ny ?_ ?_)
  ·simp only[au,ax,ak,aj]
   refine aI rfl (fun K hK=>?_);go_simp
   (with_reducible refine(WK.out _).mono ?_)
   rintro e y1 ⟨rfl,hk⟩;refine hK _ _ hk ?_;clear hK K;have I4:w4.heap.size≤y0.heap.size:=Q.out.size;have b0e:=Q;replace Q:=hid (af Q.out hk);have b5y:y0.heap.size≤y1.heap.size:=hk.size;replace xC:=hid (xC.out.keep hk);replace FG:=hid (FG.out.keep hk);clear hk;refine aS (aN y1 (Below.refl _ _) ?_);simp only[au,ax,ak,aj]
   (with_reducible refine QK [(0,.agg ds),(1,.agg cs),(2,.int .i64 (-1)),(4,aO gu)] n0 (Eq.trans ?_ rfl) Ah.out ?_)
   ·rfl
   simp only[Act.put,Array.set!_eq_setIfInBounds,List.setIfInBounds_toArray,List.set_cons_succ,List.set_cons_zero];refine wpQuiet_nil (bI ?_);simp only[au,ax,ak,aj];refine aI rfl (fun K hK=>?_);go_simp;refine hK _ _ (aB _ _) ?_;clear hK K;obtain⟨y2,hy,BH,hk,-⟩:=di y1 81 QP;replace hk:=hk.out;rw[←hy];clear hy;have a7R:y1.heap.size<y2.heap.size:=BH.out.lt;have a7Q:=Q.out.size;replace Q:=hid (af Q.out hk);have b5z:y1.heap.size≤y2.heap.size:=hk.size;replace xC:=hid (xC.out.keep hk);replace FG:=hid (FG.out.keep hk);clear hk;generalize hp:y1.heap.size=gn at *;have a7O:y1.heap.size≤gn:=Nat.le_of_eq hp;have a7P:gn≤y1.heap.size:=Nat.le_of_eq hp.symm;clear hp;refine aS (aT ?_);have wH:=Q.out.size;have b48:=BP.out.lt;have b49:=qp.out.lt;obtain⟨w8,fQ,aY,bf⟩:=jo n0.toList BH.out (by simp[hn1,h0z]) kV.out.o;go_wp2_with fail
   go_meet
   exact⟨gn,rfl,by omega,by omega,aY,hid (aK Q.out bf.out (by omega))⟩
  ·simp only[au,ax,ak,aj]
   refine aI rfl (fun K hK=>?_);go_simp;refine hK _ _ (aB _ _) ?_;clear hK K;obtain⟨y3,hy,BH,hk,-⟩:=di y0 81 QP;replace hk:=hk.out;rw[←hy];clear hy;have a7R:y0.heap.size<y3.heap.size:=BH.out.lt;have a7Q:=Q.out.size;replace Q:=hid (af Q.out hk);have b5A:y0.heap.size≤y3.heap.size:=hk.size;replace xC:=hid (xC.out.keep hk);replace FG:=hid (FG.out.keep hk);clear hk;generalize hp:y0.heap.size=gn at *;have a7O:y0.heap.size≤gn:=Nat.le_of_eq hp;have a7P:gn≤y0.heap.size:=Nat.le_of_eq hp.symm;clear hp;refine aS (bI ?_);simp only[au,ax,ak,aj];refine aI rfl (fun K hK=>?_);go_simp
   (with_reducible refine(WK.out _).mono ?_)
   rintro e y4 ⟨rfl,hk⟩;refine hK _ _ hk ?_;clear hK K;have I4:w4.heap.size≤y3.heap.size:=Q.out.size;have b0e:=Q;replace Q:=hid (af Q.out hk);have b5B:y3.heap.size≤y4.heap.size:=hk.size;replace xC:=hid (xC.out.keep hk);replace FG:=hid (FG.out.keep hk);replace BH:=hid (BH.out.keep hk);clear hk;refine aS (aN y4 (Below.refl _ _) ?_);simp only[au,ax,ak,aj]
   (with_reducible refine QK [(0,.agg ds),(1,.agg cs),(2,.int .i64 (-1)),(4,aO gu)] n0 (Eq.trans ?_ rfl) Ah.out ?_)
   ·rfl
   simp only[Act.put,Array.set!_eq_setIfInBounds,List.setIfInBounds_toArray,List.set_cons_succ,List.set_cons_zero];refine wpQuiet_nil (aT ?_);have wH:=Q.out.size;have b48:=BP.out.lt;have b49:=qp.out.lt;obtain⟨w8,fQ,aY,bf⟩:=jo n0.toList BH.out (by simp[hn1,h0z]) kV.out.o;go_wp2_with fail
   go_meet
   exact⟨gn,rfl,by omega,by omega,aY,hid (aK Q.out bf.out (by omega))⟩
 case rest =>
  obtain⟨gn,rfl,hgn1,hgn2,Zp,K5⟩:=hcut
  rename World=>w5
  have tN:=hid (qp.out.keep K5.out);have Y4:=hid (BP.out.keep K5.out);have aJ:=hid (af aQ.out K5.out);clear qp BP aQ K5 WK Ah;go_wp2_with fail
  refine(LN.out _ aJ.out).mono ?_;clear LN;rintro e w6 ⟨rfl,k6⟩;have ry:=hid (tN.out.keep k6);have tK:=hid (Y4.out.keep k6);have NU:=hid (Zp.out.keep k6);have bD:=hid (af aJ.out k6);clear k6 tN Y4 Zp aJ;by_cases hns:ns=[]
  ·have hlen0:N=0:=by rw[←ES.out,hns];rfl
   have HX:Hid (kH ns I h gu=⟨I,h,-1,0,gu⟩):=hid (if_pos hns);have ig:Hid (iY (kH ns I h gu) n0):=hid (by rw[HX.out];exact kV.out);have CJ:Hid ((kH ns I h gu).id=I):=hid (Wy _ _ _ _);have hxz:=h0z;have hxi:=h0i
   have kY:=hid kV.out.o;have hl0 : ¬ (0:Int)<N:=by omega
   clear HX;obtain⟨X,hX⟩ : ∃ X,kH ns I h gu=X:=⟨_,rfl⟩
   have lI:=hid hX;rw[hX]at ig CJ;clear hX;go_upto_region 13 with fail
   have IY:=hid hns;clear hns hlen0 hl0;have wF:=HO.out.keep bD.out;obtain⟨Av,cv,yh,hcv,hmv,wL⟩:=dD wF.o;have wG:=wF.b.cell 0;have oU:=wF.b.cell 1
   simp only[List.getElem?_cons_succ,List.getElem?_cons_zero]at wG oU;have vH:=hid wF;clear wF wL;by_cases hfull:most≤ns.length
   ·have hA:=tC.out
    unfold pU at hA;rw[ru.out]at hA;simp only at hA;rw[if_neg (fun q=>q.1 IY.out),if_pos hfull]at hA;subst hA;have kx:=hid (aP.of (X:=gy T M v) bD.out);subst yh;have hfl:most≤(ns.length:Int):=hfull;clear tC ru kV EU mM mQ;refine bu (.take [0,1,2,3,4,5,6,7,8,9,10,11,12,13] .done) [] (by kernel_rfl) (by kernel_rfl) (fun w7 k7=>?_);have c0:=aF (aC k7 wG);have c1:=aF (aC k7 oU)
    have lX:=hid (vH.out.keep k7);have TW:=hid (kx.out.trans (aP.of (X:=gy T M (.slice Av ns.length cv)) k7) (fun _ _ h=>h));clear k7;refine aN w7 (Below.refl _ _) ?_;simp only[au,ax,ak,aj];repeat(go_big_quiet_step (fail))
    refine wpQuiet_nil (aT ?_);clear c0 c1 wG oU;go_wp2
    exact bodyPost_ret (v:=.tuple #[iv (-1),iv 12]) (by simp[results,results40]) rfl ⟨rfl,_,lX.out,TW.out,Or.inl rfl⟩
   have hA:=tC.out;unfold pU at hA;rw[ru.out]at hA;simp only at hA;rw[if_neg (fun q=>q.1 IY.out),if_neg hfull]at hA;subst hA;have hfl : ¬ most≤(ns.length:Int):=hfull;have hvv:=yh;subst yh;clear tC hvv;refine bu (.take [0,1,2,3,4,5,6,7,8,9,10,11,12,13] .done) [] (by kernel_rfl) (by kernel_rfl) (fun w7 k7=>?_);have c0:=aF (aC k7 wG);have c1:=aF (aC k7 oU)
   have lX:=hid (vH.out.keep k7);have bT:=hid (af bD.out k7);have yN:=hid (NU.out.keep k7);have yK:=hid (tK.out.keep k7);clear k7 vH bD NU tK;refine aN w7 (Below.refl _ _) ?_;simp only[au,ax,ak,aj];repeat(go_big_quiet_step (fail))
   refine wpQuiet_nil (aT ?_);clear c0 c1 wG oU;have oU:=lX.out.b.cell 1;simp only[List.getElem?_cons_succ,List.getElem?_cons_zero]at oU;go_upto_region 16 with fail
   clear oU;letI jc:G.Mk:=⟨(Value.slice Av ns.length cv).ownBlock⟩
   refine G.bu (.take [0,1,2,3,4,5] (.force [6,7,8,9] .done)) [10] (by kernel_rfl) (by kernel_rfl) (fun w8 k8=>?_);have rC:=hid (lX.out.keep k8);have bK:=hid (af bT.out k8);have uf:=hid (yN.out.keep k8);have mP:=hid (yK.out.keep k8);clear k8 lX bT yN yK;have b5c:=uf.out.lt;have hlth:=mP.out.lt;have b5b:=rC.out.b.lt;have hwk:w.heap.size≤w8.heap.size:=bK.out.size;have b35:T<w.heap.size:=HO.out.b.lt;have KE:G.Mk.m≠some T:=rC.out.xq;have KD:G.Mk.m≠some gn:=fun q=>by have:=(HO.out.o.lt gn q).2;omega
   have b1:=G.ja (rC.out.b.cell 1) KE;refine G.aN w8 (G.Gr.refl _) ?_;simp only[au,ax,ak,aj]
   repeat(first
    | ((with_reducible refine G.zV gn n0 (Eq.trans ?_ rfl) uf.out KD _ underlying81 rfl hxi ?_);rfl;simp only[Act.put,Array.set!_eq_setIfInBounds,List.setIfInBounds_toArray,List.set_cons_succ,List.set_cons_zero])
    | go_big_quiet_step (fail))
   refine wpQuiet_nil (G.bI ?_);clear b1;simp only[au,ax,ak,aj];refine G.aI rfl (fun K hK=>?_);refine Ha P6 _ (by rfl) n0 hxz (by omega) (by rfl) ?_;refine hK _ _ (G.Gr.oz (aB _ _)) ?_;clear hK K;simp only[Act.put,Array.set!_eq_setIfInBounds,List.setIfInBounds_toArray,List.set_cons_succ,List.set_cons_zero];have tZ:Hid (Rd (w8.alloc (.cells n0 81)) (some ⟨w8.heap.size,0,none⟩) n0.toList):=hid (by simpa using Rd.new w8 n0.toList 81);obtain⟨w9,iD⟩ : ∃ w9,w9=w8.alloc (.cells n0 81):=⟨_,rfl⟩
   have k9:Keep w8 w9:=by rw[iD];exact aB _ _
   rw[←iD]at tZ ⊢;clear iD;have fJ:=hid (rC.out.keep k9);have bP:=hid (af bK.out k9);have Ag:=hid (uf.out.keep k9);have oK:=hid (mP.out.keep k9);have b5w:w8.heap.size≤w9.heap.size:=k9.size;clear k9 rC bK uf mP;refine G.aI rfl (fun K hK=>?_);refine Es P6 _ _ (by rfl) base _ ns.length _ (by rfl) fJ.out.o _ 1 1 n0.toList (by rfl) (by rw[Array.length_toList,hxz]) tZ.out kY.out (by omega) (by unfold maxLen;omega) (by omega) ?_;intro v' w10 pz kQ rJ;obtain⟨lV,c10,VS,-,-,-⟩:=dD pz;subst VS;refine hK _ _ kQ ?_;clear hK K tZ;simp only[Act.put,Array.set!_eq_setIfInBounds,List.setIfInBounds_toArray,List.set_cons_succ,List.set_cons_zero];have rZ:=hid (fJ.out.b.grown kQ fJ.out.xq);have BV:=hid (fJ.out.m.of_eq (kQ.block M fJ.out.m.lt fJ.out.zS.symm));have Ir:=hid (oK.out.grown kQ (fun q=>by have:=(HO.out.o.lt gh q).2;omega));have Jt:Hid (aP (gy T M (.slice Av ns.length cv)) w w10):=hid ((aP.of bP.out).grown kQ (fun j _ q=>Or.inr (Or.inr q)))
   have KQ:(Value.slice lV (ns.length+1) c10).ownBlock≠some T:=by
    rcases rJ with q | q
    ·rw[q];exact fJ.out.xq
    ·rw[q];intro q2;injection q2 with q2;omega
   have b30:M<w.heap.size:=HO.out.m.lt
   have hvM:(Value.slice lV (ns.length+1) c10).ownBlock≠some M:=by
    rcases rJ with q | q
    ·rw[q];exact fJ.out.zS
    ·rw[q];intro q2;injection q2 with q2;omega
   have HAT:Hid ((Value.slice lV (ns.length+1) c10).ownBlock=(Value.slice Av ns.length cv).ownBlock ∨ ∀ b,(Value.slice lV (ns.length+1) c10).ownBlock=some b→w.heap.size≤b):=hid (rJ.imp id (fun q b q2=>by rw[q]at q2;injection q2 with q2;omega));have Jy:=hid pz;clear pz kQ rJ Ag oK bP;refine G.aI rfl (fun K hK=>?_);go_simp;refine hK _ _ (G.Gr.refl _) ?_;clear hK K;refine G.aI rfl (fun K hK=>?_);go_simp;refine hK _ _ (G.Gr.refl _) ?_;clear hK K;refine G.aS (G.aT ?_);clear KE KD;clear jc;have f1:w10.frozen? ⟨T,1,none⟩=false:=rZ.out.frozen 1;have c1:w10.cell? ⟨T,1,none⟩=some (.slice Av ns.length cv):=rZ.out.cell 1;go_upto_region 17 with fail
   obtain⟨mJ,zy⟩ : ∃ mJ,mJ=w10.setCell ⟨T,1,none⟩ (.slice lV (ns.length+1) c10):=⟨_,rfl⟩
   have Ig:Hid (ae mJ T 142 [.int .i64 most,.slice lV (ns.length+1) c10,.map (some M)]):=by rw[zy];exact hid (rZ.out.az 1 _)
   have rM:w10.grownBy mJ (some T):=by rw[zy];exact a2j _ _ _ _
   have IM:=hid (BV.out.of_eq (rM.block M BV.out.lt (fun q=>HO.out.ne (Option.some.inj q).symm)));have Jz:=hid (Jy.out.kept rM (Or.inr KQ));have Ju:Hid (aP (gy T M (.slice Av ns.length cv)) w mJ):=hid (Jt.out.grown rM (fun j _ q=>Or.inl (Option.some.inj q).symm));have Iu:=hid (Ir.out.grown rM (fun q=>by injection q with q;omega));rw[←zy];clear zy c1 f1 rM rZ BV Jy Jt Ir;refine bu (.take [0,1,2,3,4,5] .done) [6] (by kernel_rfl) (by kernel_rfl) (fun w12 k12=>?_);have BM:=hid (Ig.out.keep k12);have IP:=hid (IM.out.keep k12);have JA:=hid (jM Jz.out k12);have Jv:=hid (Ju.out.trans (aP.of (X:=gy T M (.slice Av ns.length cv)) k12) (fun _ _ h=>h));have Iw:=hid (Iu.out.keep k12);clear k12 Ig IM Jz Ju Iu;have c2:=aF (BM.out.cell 2);have Aw:Hid (w12.rangeAt gh 0 ds.toList):=hid (cu Iw.out 0 ds.toList (by simp[List.take_of_length_le]));refine aN w12 (Below.refl _ _) ?_;simp only[au,ax,ak,aj]
   repeat(first
    | ((with_reducible refine jY gh 0 ds (Eq.trans ?_ rfl) Aw.out _ underlying27 rfl hdi (Eq.trans ?_ rfl) ?_);rfl;rfl;simp only[Act.put,Array.set!_eq_setIfInBounds,List.setIfInBounds_toArray,List.set_cons_succ,List.set_cons_zero])
    | go_big_quiet_step (fail))
   refine wpQuiet_nil (aT ?_);clear c2 Aw;have IC:Hid (lh (ns.map Nd.id) I=none):=hid (by have:=ru.out;unfold fB at this;unfold lh;rw[List.findIdx?_map];exact this);have hml:(ns.map Nd.id).length=ns.length:=List.length_map _;refine a7j M (ns.map Nd.id) I ds (by rfl) (by rfl) (by rw[hml];rfl) IP.out dZ.out HI2.out IC.out ?_;intro xu Kw zq;simp only[Act.put,Array.set!_eq_setIfInBounds,List.setIfInBounds_toArray,List.set_cons_succ,List.set_cons_zero]
   have FIN:Hid (gm xu base T M (.slice lV (ns.length+1) c10) most (ns++[X])):=hid ⟨BM.out.grown zq (fun q=>HO.out.ne (Option.some.inj q).symm),by
    have q:=JA.out.kept zq (Or.inr hvM);rw[List.length_append,List.flatMap_append,List.flatMap_cons,List.flatMap_nil,List.append_nil,←ig.out.l]
    exact q,by rw[List.map_append,List.map_cons,List.map_nil,CJ.out];exact Kw,HO.out.AP,HO.out.AO,HO.out.ne,KQ,hvM⟩
   have Rk:Hid (gm xu base T M (.slice lV (ns.length+1) c10) most (ns++[kH ns I h gu])):=hid (by rw[lI.out];exact FIN.out);have TY:Hid (aP (gy T M (.slice Av ns.length cv)) w xu):=hid (Jv.out.grown zq (fun j _ q=>Or.inr (Or.inl (Option.some.inj q).symm)));clear Kw zq BM IP JA Jv Iw IC ig CJ kY ru mM mQ;go_wp2
   exact bodyPost_ret (v:=.tuple #[iv (ns.length:Int),iv 0]) (by simp[results,results40]) rfl ⟨rfl,_,Rk.out,TY.out,HAT.out⟩
  have hl0:0<N:=by
   have q:0<ns.length:=List.length_pos_iff.2 hns;have q2:=ES.out;omega
  have IY:=hid hns;clear hns;have F2:Hid (∀ y,Keep w y→Calls prog 68 #[pT T,.agg pv] y fun e w'=>e = .returned (.tuple #[iv ((fB ns h.prev).getD 0:Nat),.bool (fB ns h.prev).isSome])∧Keep y w'):=hid fun y hy=>mM.out y h.prev pv hy iJ.out Jn.out;have iG:Hid (w6.rangeAt w.heap.size 1 pv.toList):=hid (mQ.out _ _ _ ry.out);go_wp2_with ((with_reducible refine dw w.heap.size 1 pv (Eq.trans ?_ rfl) iG.out _ underlying27 rfl hpi rfl ?_);rfl)
  refine(F2.out _ bD.out).mono ?_;clear F2 iG;rintro e w7 ⟨rfl,k7⟩;have tV:=hid (ry.out.keep k7);have yK:=hid (tK.out.keep k7);have yN:=hid (NU.out.keep k7);have bT:=hid (af bD.out k7);clear k7 ry tK NU bD;obtain⟨xG,Dx⟩ : ∃ f,fB ns h.prev=f:=⟨_,rfl⟩
  rw[Dx];have EK:=hid Dx;clear Dx
  cases xG with
  | none =>
    have hA:=tC.out;unfold pU at hA;rw[ru.out]at hA;simp only at hA;rw[if_pos ⟨IY.out,EK.out⟩]at hA;subst hA;have J5:=hid (HO.out.keep bT.out);have kx:=hid (aP.of (X:=gy T M v) bT.out);clear tC ru EK kV EU mM mQ hl0;go_wp2
    exact bodyPost_ret (v:=.tuple #[iv (-1),iv 9]) (by simp[results,results40]) rfl ⟨rfl,v,J5.out,kx.out,Or.inl rfl⟩
  | some i =>
  obtain⟨nd,hnd,b5i⟩:=U4 EK.out;have hin:=(List.getElem?_eq_some_iff.1 hnd).1;have Ky:=dV.ok nd (List.mem_of_getElem? hnd);have J5:=HO.out.keep bT.out;obtain⟨Av,cv,yh,hcv,hmv,wL⟩:=dD J5.o;obtain⟨b,off,a2r,-,hrx⟩:=P7 wL dV.ok hin;have hge:ns[i]=nd:=(List.getElem?_eq_some_iff.1 hnd).2;rw[hge]at hrx;obtain⟨xs,hxs⟩ : ∃ xs,iY nd xs:=⟨_,iY.of Ky⟩
  rw[←hxs.l]at hrx;have Am:=hid hrx;have b5F:=hxs.z;have c36:=hxs.n;have a3X:=hxs.i
  have Hxs:=hid hxs;have c1:=J5.b.cell 1;rw[yh,a2r]at c1;simp only[List.getElem?_cons_succ,List.getElem?_cons_zero]at c1;have hle:=dV.le i hin;rw[Bd hnd]at hle;have d3:(i:Int)<ns.length:=by omega
  have hst:=fK w7 81 a3X (hn1.trans b5F.symm) hxs.o;have HX:Hid (kH ns I h gu=⟨I,h,i,nd.hgt+1,iU nd.work gu⟩):=hid (by unfold kH;rw[if_neg IY.out,EK.out];simp only;rw[Bd hnd,hnd];rfl);have CJ:Hid ((kH ns I h gu).id=I):=hid (Wy _ _ _ _);have a2G:(kH ns I h gu).ok:=by rw[HX.out];exact⟨HI2.out,Z9.out,a6F _ _⟩
  obtain⟨x1,hx1⟩ : ∃ x1,(kH ns I h gu).cells.toArray=x1:=⟨_,rfl⟩
  have DF:=iY.of a2G;rw[hx1]at DF;have ig:=hid DF;have hxz:=DF.z;have hxi:=DF.i
  have kY:=hid DF.o
  have Iq:Hid ((((((n0.toList.set 100 (.int .i64 (i:Int))).set 101 (.int .i64 ((nd.hgt:Int)+1))).set 102 (n64 (limb (iU nd.work gu) 0))).set 103 (n64 (limb (iU nd.work gu) 1))).set 104 (n64 (limb (iU nd.work gu) 2))).set 105 (n64 (limb (iU nd.work gu) 3))=x1.toList):=hid (by
   rw[show((nd.hgt:Int)+1)=((nd.hgt+1:Nat):Int) by omega,DF.l,HX.out,kV.out.l,b7o EU.out]
   exact b7p (n:=⟨I,h,(i:Int),nd.hgt+1,gu⟩) ⟨HI2.out,Z9.out,HW2.out⟩ _)
  have AD:Hid (∀ y,Calls prog 70 #[aO nd.work,aO gu] y fun e w' => ∃ bb,e = .returned (.tuple #[aO (iU nd.work gu),.bool bb])∧Keep y w'):=hid fun y=>(OG _ _ y Ky.2.2 HW2.out).mono fun e w' ⟨h1,h2⟩=>⟨_,h1,h2⟩
  have YV:Hid (xs.toList[101]?=some (iv (nd.hgt:Int))):=hid (by rw[hxs.l];exact Ls Ky);have vK:=hid (a5a Ky);rw[←hxs.l]at vK;have c2k:Hid (x1.toList.length=106):=hid (by rw[Array.length_toList];exact hxz);obtain⟨S,hS⟩ : ∃ S,iU nd.work gu=S:=⟨_,rfl⟩
  obtain⟨c2y,Pv⟩ : ∃ S,nd.work=S:=⟨_,rfl⟩
  obtain⟨hh,hhh⟩ : ∃ S,nd.hgt=S:=⟨_,rfl⟩
  rw[hS]at AD Iq;rw[Pv]at AD vK;rw[hhh]at YV Iq hle;obtain⟨X,hX⟩ : ∃ X,kH ns I h gu=X:=⟨_,rfl⟩
  have lI:=hid hX;rw[hX]at ig CJ;clear hX hS Pv hhh hxs DF hx1 a2G HX hge hrx wL J5 b5i Ky hnd a2r;clear hcv hmv;go_upto_region 11 with((with_reducible refine dw b (off+i*106) xs (Eq.trans ?_ rfl) Am.out _ underlying81 rfl a3X rfl ?_);rfl)
  clear c1 hst;obtain⟨w8,hw8,gq,-,-⟩:=di w7 81 xs;have yL:Hid (ae w8 w.heap.size 29 cs.toList):=by rw[hw8];exact hid (tV.out.alloc _)
  have mP:Hid (ae w8 gh 27 ds.toList):=by rw[hw8];exact hid (yK.out.alloc _)
  have uf:Hid (ae w8 gn 81 n0.toList):=by rw[hw8];exact hid (yN.out.alloc _)
  have bK:Hid (Keep w w8):=by rw[hw8];exact hid (af bT.out (aB _ _))
  rw[←hw8];have c3u:w.heap.size≤w7.heap.size:=bT.out.size;have c3F:=tV.out.lt;have c3C:=yK.out.lt;have b5a:=yN.out.lt;clear hw8 tV yK yN bT;generalize w7.heap.size=gb at *;have c3t:gn<gb:=b5a;have c4x:IntKind.i64.wrap ((hh:Int)+1)=(hh:Int)+1:=IntWalk.i64_in _ (by omega);letI jc:G.Mk:=⟨some gn⟩
  refine G.bu (.take [0,1,2,3,4] (.force [5] (.take [6] .done))) [7] (by kernel_rfl) (by kernel_rfl) (fun w9 k9=>?_);have KA:G.Mk.m≠some gb:=fun q=>by have e2:gn=gb:=Option.some.inj q;omega
  have BQ:=hid (yL.out.keep k9);have oK:=hid (mP.out.keep k9);have Ag:=hid (uf.out.keep k9);have eY:=hid (gq.out.keep k9);have bP:=hid (af bK.out k9);clear k9 yL mP uf gq bK;have b0:=G.ja ((eY.out.cell 101).trans YV.out) KA;refine G.aN w9 (G.Gr.refl _) ?_;simp only[au,ax,ak,aj];repeat(go_big_quiet_step (fail))
  refine wpQuiet_nil (G.bI ?_);clear b0;simp only[au,ax,ak,aj];refine G.aI rfl (fun K hK=>?_);have b5g : ∃ u,n0.toList[100]?=some u:=⟨_,List.getElem?_eq_getElem (by rw[Array.length_toList,h0z];omega)⟩
  obtain⟨c4s,a3P⟩:=b5g;have r0:=(Ag.out.cell 100).trans a3P;have f0:=Ag.out.frozen 100
  go_simp;refine hK _ _ (show G.Gr w9 _ from eH (iH w9 _)) ?_;clear hK K;obtain⟨wa,nY⟩ : ∃ wa,wa=w9.setCell ⟨gn,100,none⟩ (.int .i64 (i:Int)):=⟨_,rfl⟩
  have NV:Hid (ae wa gn 81 (n0.toList.set 100 (.int .i64 (i:Int)))):=by rw[nY];exact hid (Ag.out.az 100 _)
  have IB:Hid (ae wa w.heap.size 29 cs.toList):=by rw[nY];exact hid (BQ.out.far (by simp <;> omega) _)
  have Iy:Hid (ae wa gh 27 ds.toList):=by rw[nY];exact hid (oK.out.far (by simp <;> omega) _)
  have NC:Hid (ae wa gb 81 xs.toList):=by rw[nY];exact hid (eY.out.far (by simp <;> omega) _)
  have fV:Hid (Keep w wa):=by rw[nY];exact hid (Below.setCell bP.out (by simp <;> omega) _)
  rw[←nY];clear nY r0 f0 a3P BQ oK Ag eY bP;refine G.aS (G.aN _ (G.Gr.refl _) ?_);simp only[au,ax,ak,aj];repeat(go_big_quiet_step (fail))
  refine wpQuiet_nil (G.aT ?_);clear KA;clear jc;have b5h : ∃ u,(n0.toList.set 100 (.int .i64 (i:Int)))[101]?=some u:=⟨_,List.getElem?_eq_getElem (by rw[List.length_set,Array.length_toList,h0z];omega)⟩
  obtain⟨c4t,a3Q⟩:=b5h;have r0:=(NV.out.cell 101).trans a3Q;have f0:=NV.out.frozen 101
  go_upto_region 12 with fail
  obtain⟨wb,hwb⟩ : ∃ wb,wb=wa.setCell ⟨gn,101,none⟩ (.int .i64 ((hh:Int)+1)):=⟨_,rfl⟩
  obtain⟨L2,hL2⟩ : ∃ L2,(n0.toList.set 100 (.int .i64 (i:Int))).set 101 (.int .i64 ((hh:Int)+1))=L2:=⟨_,rfl⟩
  have ET:Hid (ae wb gn 81 L2):=by rw[hwb,←hL2];exact hid (NV.out.az 101 _)
  have Zc:Hid (ae wb w.heap.size 29 cs.toList):=by rw[hwb];exact hid (IB.out.far (by simp <;> omega) _)
  have Y7:Hid (ae wb gh 27 ds.toList):=by rw[hwb];exact hid (Iy.out.far (by simp <;> omega) _)
  have tH:Hid (ae wb gb 81 xs.toList):=by rw[hwb];exact hid (NC.out.far (by simp <;> omega) _)
  have lW:Hid (Keep w wb):=by rw[hwb];exact hid (Below.setCell fV.out (by simp <;> omega) _)
  rw[←hwb];clear hwb r0 f0 a3Q IB Iy NV NC fV
  have yT:Hid (L2[102]?=some (n64 (limb gu 0))∧L2[103]?=some (n64 (limb gu 1))∧L2[104]?=some (n64 (limb gu 2))∧L2[105]?=some (n64 (limb gu 3))):=hid (by
   have q:=a5a EU.out;rw[←kV.out.l]at q;rw[←hL2];simp only[List.getElem?_set]
   simpa using q)
  rw[hL2]at Iq;clear hL2;have a0:=(tH.out.cell 102).trans vK.out.1;have a1:=(tH.out.cell 103).trans vK.out.2.1;have a2:=(tH.out.cell 104).trans vK.out.2.2.1;have a3:=(tH.out.cell 105).trans vK.out.2.2.2
  have b0:=(ET.out.cell 102).trans yT.out.1;have b1:=(ET.out.cell 103).trans yT.out.2.1;have b2:=(ET.out.cell 104).trans yT.out.2.2.1;have b3:=(ET.out.cell 105).trans yT.out.2.2.2
  go_wp2_with fail
  refine(AD.out _).mono ?_;clear AD a0 a1 a2 a3 b0 b1 b2 b3;rintro e wc ⟨bb,rfl,kc⟩;have a8L:=hid (Zc.out.keep kc);have EL:=hid (Y7.out.keep kc);have xJ:=hid (ET.out.keep kc);have gK:=hid (af lW.out kc);clear kc Zc Y7 ET lW;have b0:=(xJ.out.cell 102).trans yT.out.1;have b1:=(xJ.out.cell 103).trans yT.out.2.1;have b2:=(xJ.out.cell 104).trans yT.out.2.2.1;have b3:=(xJ.out.cell 105).trans yT.out.2.2.2
  have f0:=xJ.out.frozen 102;have f1:=xJ.out.frozen 103;have f2:=xJ.out.frozen 104;have f3:=xJ.out.frozen 105
  go_upto_region 13 with fail
  obtain⟨wd,hwd⟩ : ∃ wd,wd=((((wc.setCell ⟨gn,102,none⟩ (n64 (limb S 0))).setCell ⟨gn,103,none⟩ (n64 (limb S 1))).setCell ⟨gn,104,none⟩ (n64 (limb S 2))).setCell ⟨gn,105,none⟩ (n64 (limb S 3))):=⟨_,rfl⟩
  have Zq:Hid (ae wd gn 81 x1.toList):=by
   rw[hwd,←Iq.out];exact hid ((((xJ.out.az 102 _).az 103 _).az 104 _).az 105 _)
  have NM:Hid (ae wd gh 27 ds.toList):=by rw[hwd];exact hid ((((EL.out.far (by simp <;> omega) _).far (by simp <;> omega) _).far (by simp <;> omega) _).far (by simp <;> omega) _)
  have EO:Hid (Keep w wd):=by
   rw[hwd];refine hid ?_;iterate 4 (refine Below.setCell ?_ (by simp <;> omega) _)
   exact gK.out
  rw[←hwd];clear hwd b0 b1 b2 b3 f0 f1 f2 f3 a8L EL xJ gK Iq yT vK hl0;clear yh;have wF:=HO.out.keep EO.out;obtain⟨Av,cv,yh,hcv,hmv,wL⟩:=dD wF.o;have wG:=wF.b.cell 0;have oU:=wF.b.cell 1
  simp only[List.getElem?_cons_succ,List.getElem?_cons_zero]at wG oU;have vH:=hid wF;clear wF wL;by_cases hfull:most≤ns.length
  ·have hA:=tC.out
   unfold pU at hA;rw[ru.out]at hA;simp only at hA;rw[if_neg (fun q=>by have:=EK.out;rw[q.2]at this;cases this),if_pos hfull]at hA;subst hA;have kx:=hid (aP.of (X:=gy T M v) EO.out);subst yh;have hfl:most≤(ns.length:Int):=hfull;clear tC ru kV EU mM mQ;refine bu (.take [0,1,2,3,4,5,6,7,8,9,10,11,12,13] .done) [] (by kernel_rfl) (by kernel_rfl) (fun w7 k7=>?_);have c0:=aF (aC k7 wG);have c1:=aF (aC k7 oU)
   have lX:=hid (vH.out.keep k7);have TW:=hid (kx.out.trans (aP.of (X:=gy T M (.slice Av ns.length cv)) k7) (fun _ _ h=>h));clear k7;refine aN w7 (Below.refl _ _) ?_;simp only[au,ax,ak,aj];repeat(go_big_quiet_step (fail))
   refine wpQuiet_nil (aT ?_);clear c0 c1 wG oU;go_wp2
   exact bodyPost_ret (v:=.tuple #[iv (-1),iv 12]) (by simp[results,results40]) rfl ⟨rfl,_,lX.out,TW.out,Or.inl rfl⟩
  have hA:=tC.out;unfold pU at hA;rw[ru.out]at hA;simp only at hA;rw[if_neg (fun q=>by have:=EK.out;rw[q.2]at this;cases this),if_neg hfull]at hA;subst hA;have hfl : ¬ most≤(ns.length:Int):=hfull;have hvv:=yh;subst yh;clear tC hvv;refine bu (.take [0,1,2,3,4,5,6,7,8,9,10,11,12,13] .done) [] (by kernel_rfl) (by kernel_rfl) (fun w7 k7=>?_);have c0:=aF (aC k7 wG);have c1:=aF (aC k7 oU)
  have lX:=hid (vH.out.keep k7);have bT:=hid (af EO.out k7);have yN:=hid (Zq.out.keep k7);have yK:=hid (NM.out.keep k7);clear k7 vH EO Zq NM;refine aN w7 (Below.refl _ _) ?_;simp only[au,ax,ak,aj];repeat(go_big_quiet_step (fail))
  refine wpQuiet_nil (aT ?_);clear c0 c1 wG oU;have oU:=lX.out.b.cell 1;simp only[List.getElem?_cons_succ,List.getElem?_cons_zero]at oU;go_upto_region 16 with fail
  clear oU;letI jc:G.Mk:=⟨(Value.slice Av ns.length cv).ownBlock⟩
  refine G.bu (.take [0,1,2,3,4,5] (.force [6,7,8,9] .done)) [10] (by kernel_rfl) (by kernel_rfl) (fun w8 k8=>?_);have rC:=hid (lX.out.keep k8);have bK:=hid (af bT.out k8);have uf:=hid (yN.out.keep k8);have mP:=hid (yK.out.keep k8);clear k8 lX bT yN yK;have b5c:=uf.out.lt;have hlth:=mP.out.lt;have b5b:=rC.out.b.lt;have hwk:w.heap.size≤w8.heap.size:=bK.out.size;have b35:T<w.heap.size:=HO.out.b.lt;have KE:G.Mk.m≠some T:=rC.out.xq;have KD:G.Mk.m≠some gn:=fun q=>by have:=(HO.out.o.lt gn q).2;omega
  have b1:=G.ja (rC.out.b.cell 1) KE;refine G.aN w8 (G.Gr.refl _) ?_;simp only[au,ax,ak,aj]
  repeat(first
   | ((with_reducible refine G.zV gn x1 (Eq.trans ?_ rfl) uf.out KD _ underlying81 rfl hxi ?_);rfl;simp only[Act.put,Array.set!_eq_setIfInBounds,List.setIfInBounds_toArray,List.set_cons_succ,List.set_cons_zero])
   | go_big_quiet_step (fail))
  refine wpQuiet_nil (G.bI ?_);clear b1;simp only[au,ax,ak,aj];refine G.aI rfl (fun K hK=>?_);refine Ha P6 _ (by rfl) x1 hxz (by omega) (by rfl) ?_;refine hK _ _ (G.Gr.oz (aB _ _)) ?_;clear hK K;simp only[Act.put,Array.set!_eq_setIfInBounds,List.setIfInBounds_toArray,List.set_cons_succ,List.set_cons_zero];have tZ:Hid (Rd (w8.alloc (.cells x1 81)) (some ⟨w8.heap.size,0,none⟩) x1.toList):=hid (by simpa using Rd.new w8 x1.toList 81);obtain⟨w9,iD⟩ : ∃ w9,w9=w8.alloc (.cells x1 81):=⟨_,rfl⟩
  have k9:Keep w8 w9:=by rw[iD];exact aB _ _
  rw[←iD]at tZ ⊢;clear iD;have fJ:=hid (rC.out.keep k9);have bP:=hid (af bK.out k9);have Ag:=hid (uf.out.keep k9);have oK:=hid (mP.out.keep k9);have b5w:w8.heap.size≤w9.heap.size:=k9.size;clear k9 rC bK uf mP;refine G.aI rfl (fun K hK=>?_);refine Es P6 _ _ (by rfl) base _ ns.length _ (by rfl) fJ.out.o _ 1 1 x1.toList (by rfl) (by rw[Array.length_toList,hxz]) tZ.out kY.out (by omega) (by unfold maxLen;omega) (by omega) ?_;intro v' w10 pz kQ rJ;obtain⟨lV,c10,VS,-,-,-⟩:=dD pz;subst VS;refine hK _ _ kQ ?_;clear hK K tZ;simp only[Act.put,Array.set!_eq_setIfInBounds,List.setIfInBounds_toArray,List.set_cons_succ,List.set_cons_zero];have rZ:=hid (fJ.out.b.grown kQ fJ.out.xq);have BV:=hid (fJ.out.m.of_eq (kQ.block M fJ.out.m.lt fJ.out.zS.symm));have Ir:=hid (oK.out.grown kQ (fun q=>by have:=(HO.out.o.lt gh q).2;omega));have Jt:Hid (aP (gy T M (.slice Av ns.length cv)) w w10):=hid ((aP.of bP.out).grown kQ (fun j _ q=>Or.inr (Or.inr q)))
  have KQ:(Value.slice lV (ns.length+1) c10).ownBlock≠some T:=by
   rcases rJ with q | q
   ·rw[q];exact fJ.out.xq
   ·rw[q];intro q2;injection q2 with q2;omega
  have b30:M<w.heap.size:=HO.out.m.lt
  have hvM:(Value.slice lV (ns.length+1) c10).ownBlock≠some M:=by
   rcases rJ with q | q
   ·rw[q];exact fJ.out.zS
   ·rw[q];intro q2;injection q2 with q2;omega
  have HAT:Hid ((Value.slice lV (ns.length+1) c10).ownBlock=(Value.slice Av ns.length cv).ownBlock ∨ ∀ b,(Value.slice lV (ns.length+1) c10).ownBlock=some b→w.heap.size≤b):=hid (rJ.imp id (fun q b q2=>by rw[q]at q2;injection q2 with q2;omega));have Jy:=hid pz;clear pz kQ rJ Ag oK bP;refine G.aI rfl (fun K hK=>?_);go_simp;refine hK _ _ (G.Gr.refl _) ?_;clear hK K;refine G.aI rfl (fun K hK=>?_);go_simp;refine hK _ _ (G.Gr.refl _) ?_;clear hK K;refine G.aS (G.aT ?_);clear KE KD;clear jc;have f1:w10.frozen? ⟨T,1,none⟩=false:=rZ.out.frozen 1;have c1:w10.cell? ⟨T,1,none⟩=some (.slice Av ns.length cv):=rZ.out.cell 1;go_upto_region 17 with fail
  obtain⟨mJ,zy⟩ : ∃ mJ,mJ=w10.setCell ⟨T,1,none⟩ (.slice lV (ns.length+1) c10):=⟨_,rfl⟩
  have Ig:Hid (ae mJ T 142 [.int .i64 most,.slice lV (ns.length+1) c10,.map (some M)]):=by rw[zy];exact hid (rZ.out.az 1 _)
  have rM:w10.grownBy mJ (some T):=by rw[zy];exact a2j _ _ _ _
  have IM:=hid (BV.out.of_eq (rM.block M BV.out.lt (fun q=>HO.out.ne (Option.some.inj q).symm)));have Jz:=hid (Jy.out.kept rM (Or.inr KQ));have Ju:Hid (aP (gy T M (.slice Av ns.length cv)) w mJ):=hid (Jt.out.grown rM (fun j _ q=>Or.inl (Option.some.inj q).symm));have Iu:=hid (Ir.out.grown rM (fun q=>by injection q with q;omega));rw[←zy];clear zy c1 f1 rM rZ BV Jy Jt Ir;refine bu (.take [0,1,2,3,4,5] .done) [6] (by kernel_rfl) (by kernel_rfl) (fun w12 k12=>?_);have BM:=hid (Ig.out.keep k12);have IP:=hid (IM.out.keep k12);have JA:=hid (jM Jz.out k12);have Jv:=hid (Ju.out.trans (aP.of (X:=gy T M (.slice Av ns.length cv)) k12) (fun _ _ h=>h));have Iw:=hid (Iu.out.keep k12);clear k12 Ig IM Jz Ju Iu;have c2:=aF (BM.out.cell 2);have Aw:Hid (w12.rangeAt gh 0 ds.toList):=hid (cu Iw.out 0 ds.toList (by simp[List.take_of_length_le]));refine aN w12 (Below.refl _ _) ?_;simp only[au,ax,ak,aj]
  repeat(first
   | ((with_reducible refine jY gh 0 ds (Eq.trans ?_ rfl) Aw.out _ underlying27 rfl hdi (Eq.trans ?_ rfl) ?_);rfl;rfl;simp only[Act.put,Array.set!_eq_setIfInBounds,List.setIfInBounds_toArray,List.set_cons_succ,List.set_cons_zero])
   | go_big_quiet_step (fail))
  refine wpQuiet_nil (aT ?_);clear c2 Aw;have IC:Hid (lh (ns.map Nd.id) I=none):=hid (by have:=ru.out;unfold fB at this;unfold lh;rw[List.findIdx?_map];exact this);have hml:(ns.map Nd.id).length=ns.length:=List.length_map _;refine a7j M (ns.map Nd.id) I ds (by rfl) (by rfl) (by rw[hml];rfl) IP.out dZ.out HI2.out IC.out ?_;intro xu Kw zq;simp only[Act.put,Array.set!_eq_setIfInBounds,List.setIfInBounds_toArray,List.set_cons_succ,List.set_cons_zero]
  have FIN:Hid (gm xu base T M (.slice lV (ns.length+1) c10) most (ns++[X])):=hid ⟨BM.out.grown zq (fun q=>HO.out.ne (Option.some.inj q).symm),by
   have q:=JA.out.kept zq (Or.inr hvM);rw[List.length_append,List.flatMap_append,List.flatMap_cons,List.flatMap_nil,List.append_nil,←ig.out.l]
   exact q,by rw[List.map_append,List.map_cons,List.map_nil,CJ.out];exact Kw,HO.out.AP,HO.out.AO,HO.out.ne,KQ,hvM⟩
  have Rk:Hid (gm xu base T M (.slice lV (ns.length+1) c10) most (ns++[kH ns I h gu])):=hid (by rw[lI.out];exact FIN.out);have TY:Hid (aP (gy T M (.slice Av ns.length cv)) w xu):=hid (Jv.out.grown zq (fun j _ q=>Or.inr (Or.inl (Option.some.inj q).symm)));clear Kw zq BM IP JA Jv Iw IC ig CJ kY ru mM mQ;go_wp2
  exact bodyPost_ret (v:=.tuple #[iv (ns.length:Int),iv 0]) (by simp[results,results40]) rfl ⟨rfl,_,Rk.out,TY.out,HAT.out⟩
end Go.Proofs.YtiagcenlnekdeaaGreatDoor
