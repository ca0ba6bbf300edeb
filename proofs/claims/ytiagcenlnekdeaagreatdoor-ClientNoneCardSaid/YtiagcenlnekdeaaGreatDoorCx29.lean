/- Texts merged by pack.py: Clg, Clo, Clh, Cli, Clj, Clk. -/
import Derived.Test.YtiagcenlnekdeaaGreatDoorCx28
import Derived.Test.YtiagcenlnekdeaaGreatDoorCx15
import Derived.Test.YtiagcenlnekdeaaGreatDoorCx7
import Derived.Test.YtiagcenlnekdeaaGreatDoorCx16
import Derived.Test.YtiagcenlnekdeaaGreatDoorCx18
set_option maxRecDepth 1000000
set_option maxHeartbeats 16000000
open Go.Proofs.Tryz
open Go.Lib (hid)
set_option linter.unusedSimpArgs false
set_option linter.unusedVariables false
namespace Go.Proofs.YtiagcenlnekdeaaGreatDoor
open Go.RowKit
attribute [local go_sem ↓] Go.wp_at_zero Go.wp_at_succ
theorem QA (a b c b':List Value) (hb:b'.length=b.length):splice (a++(b++c)) a.length b'=a++(b'++c):=by
 unfold splice;rw[List.take_left' rfl,hb,←List.drop_drop,List.drop_left' rfl,List.drop_left' rfl]
theorem gm.grown {w w':World} {base T M X:Nat} {v:Value} {most:Int} {ns:List Nd} (h:gm w base T M v most ns) (hg:w.grownBy w' (some X)) (hx : ¬ gy T M v X):gm w' base T M v most ns :=
 ⟨h.b.grown hg (fun e=>by injection e with e;exact hx (.inl e)),h.o.kept hg (.inr fun e=>hx (.inr (.inr e))),h.m.of_eq (hg.block M h.m.lt (fun e=>by injection e with e;exact hx (.inr (.inl e.symm)))),h.AP,h.AO,h.ne,h.xq,h.zS⟩
section
variable {w0 w w':World} {X T M:Nat} {v:Value} {ns:List Nd} {cf sl:List Value} {b:Bool} {q:aW} {d:Int}
def Ug (b:Bool) (q:aW) (w:World) (e:Ending) (w':World):Prop:=∃ vs,e = .returned (.tuple #[.agg vs,.bool b])∧bZ (if b then q else rQ) vs∧Keep w w'
theorem a1r (h:bG w0 w X T M v ns cf sl b q d):Calls prog 11 #[pT X,iv 0] w (Ug b q w):=by
 have uX:Hid (∀ y,Keep w y→Calls prog 26 #[pT X] y fun e w'=>e = .returned (.bool false)∧Keep y w'):=hid fun y hy=>OW X T y (h.keep hy).mf;have H:=hid h;clear h;obtain⟨zs,hz0,aU,hzb⟩:=XM;have hzn:=aU.n;have hzz:=aU.z;have hzi:=aU.i
 have HZ:=hid aU;obtain⟨qs,eP⟩ : ∃ qs,bZ q qs:=⟨_,bZ.of q⟩
 have DX:=eP.n;have hqz:=eP.z;have hqi:=eP.i
 have HQ:=hid eP;clear aU eP;go_enter func11,ntmps11
 go_upto_region 1 with fail
 obtain⟨w1,hw1,HB1,ai,-⟩:=di w 52 zs;rw[←hw1];clear hw1;go_wp2_with fail
 refine(uX.out _ ai.out).mono ?_;clear uX;rintro e w2 ⟨rfl,k2⟩;have HB2:=hid (HB1.out.keep k2);have ay:=hid (af ai.out k2);have H2:=hid (H.out.keep ay.out);clear k2 HB1 ai H;have c119:=H2.out.c119
 cases b with
 | false =>
   obtain⟨w3,hst,hb,hg⟩:=bn (P:=prog) zs.toList HB2.out rfl HZ.out.o;have aA:Hid (Keep w w3):=hid (aK ay.out hg (by omega));have HB3:=hid hb;clear hb hg HB2 ay H2;go_wp2_with ((with_reducible refine kT [] zs (Eq.trans ?_ rfl) hzb ?_);rfl)
   exact bodyPost_ret (v:=.tuple #[.agg zs,.bool false]) (lq results11 HB3.out underlying52 hzi rfl rfl) rfl ⟨zs,rfl,HZ.out,aA.out⟩
 | true =>
   have b0P:Hid (w2.rangeAt X 120 qs.toList):=hid (H2.out.b8z HQ.out);obtain⟨w3,hst,hb,hg⟩:=bn (P:=prog) qs.toList HB2.out (by simp[hzz,hqz]) HQ.out.o;have aA:Hid (Keep w w3):=hid (aK ay.out hg (by omega));have HB3:=hid hb;clear hb hg HB2 ay H2;go_wp2_with ((with_reducible refine dw X 120 qs (Eq.trans ?_ rfl) b0P.out _ underlying52 rfl hqi rfl ?_);rfl)
   exact bodyPost_ret (v:=.tuple #[.agg qs,.bool true]) (lq results11 HB3.out underlying52 hqi rfl rfl) rfl ⟨qs,rfl,HQ.out,aA.out⟩
theorem bG.turn {sl':List Value} {b':Bool} {q':aW} {d':Int} (h:bG w0 w X T M v ns cf sl b q d) (hg:w.grownBy w' (some X)) (hB:ae w' X 63 (gW cf T sl' b' q' d')) (hs:sl'.length=38):bG w0 w' X T M v ns cf sl' b' q' d' :=
 ⟨h.k.grown hg h.k.size (fun q hq=>by injection hq with hq;have:=h.x;omega),hB,h.t.grown hg h.n,h.lc,hs,h.n,h.x⟩
theorem bG.He (h:bG w0 w X T M v ns cf sl b q d) : ∀ k,gy T M v k→k<w.heap.size:=fun k hk=>by
 rcases hk with rfl | rfl | hk
 ·exact h.t.b.lt
 ·exact h.t.m.lt
 ·exact(h.t.o.lt k hk).2
theorem bG.far {g:Nat} (h:bG w0 w X T M v ns cf sl b q d) (hg:w.grownBy w' (some g)) (hX:g≠X) (h0:w0.heap.size≤g) (hn : ¬ gy T M v g):bG w0 w' X T M v ns cf sl b q d :=
 ⟨aK h.k hg (by omega),h.B.grown hg (fun e=>by injection e with e;exact hX e),h.t.grown hg hn,h.lc,h.ls,h.n,h.x⟩
theorem b2v (lc:cf.length=79) (ls:sl.length=38) (b':Bool) (q':aW):splice (gW cf T sl b q d) 119 (.bool b'::q'.cells)=gW cf T sl b' q' d:=by
 have h:=QA (cf++(pT T::(sl++[iv 0]))) (.bool b::q.cells) (wo++(ns0::(wu++[iv d]))) (.bool b'::q'.cells) rfl;have e:(cf++(pT T::(sl++[iv 0]))).length=119:=by simp[lc,ls]
 rw[e]at h;simpa[gW]using h
theorem b2u (lc:cf.length=79) (ls:sl.length=38) (q':aW):splice (gW cf T sl b q d) 120 q'.cells=gW cf T sl b q' d:=by
 have h:=QA (cf++(pT T::(sl++[iv 0,.bool b]))) q.cells (wo++(ns0::(wu++[iv d]))) q'.cells rfl;have e:(cf++(pT T::(sl++[iv 0,.bool b]))).length=120:=by simp[lc,ls]
 rw[e]at h;simpa[gW]using h
theorem b9c (q:aW) : ∃ vs,Bx 54 11 (.bool true::q.cells) vs∧∀ qs,bZ q qs→prog.built 54 [(0,.bool true),(1,.agg qs)]=some vs:=by
 refine⟨_,Bx.of (by kernel_rfl) rfl (by omega) (fun v hv=>?_),fun qs hq=>?_⟩
 ·rcases List.mem_cons.1 hv with rfl | hv
  ·rfl
  ·exact q.one v hv
 ·obtain rfl:qs=q.cells.toArray:=by rw[←hq.l,Array.toArray_toList]
  kernel_rfl
def Turned (X:Nat) (w w':World):Prop:=aP (fun k=>k=X) w w'
def Done (E:Int) (P:World→Prop) (w:World) (e:Ending) (w':World):Prop:=∃ vs,e = .returned (.agg vs)∧(∃ S L:Value,Bx 72 101 (mX E S L) vs)∧P w'
theorem b2P (dE:UInt32) (cp:Int) (A:Option Addr) (k N:Int) (m c:Nat) (h:bG w0 w X T M v ns cf sl false q d) (xZ:cf[75]?=some (ag dE)) (x8:cf[76]?=some (iv cp)) :
  Calls prog 46 #[pT X,qV k 0 N A m c] w (Done 0 (fun w'=>bG w0 w' X T M v ns cf sl true (pg dE cp) d∧Turned X w w') w):=by
 have Au:Hid (∀ y,Keep w y→Calls prog 11 #[pT X,iv 0] y (Ug false q y)):=hid fun y hy=>a1r (h.keep hy);have Ar:Hid (∀ y,Calls prog 75 #[ag dE,iv cp] y fun e w' => ∃ ds,e = .returned (.agg ds)∧bZ (pg dE cp) ds∧Keep y w'):=hid fun y=>WU dE cp y;have a7I:Hid (w.cell? ⟨X,75,none⟩=some (ag dE)):=hid ((h.B.cell 75).trans (by unfold gW;rw[List.getElem?_append_left (by rw[h.lc];omega)];exact xZ));have a7J:Hid (w.cell? ⟨X,76,none⟩=some (iv cp)):=hid ((h.B.cell 76).trans (by unfold gW;rw[List.getElem?_append_left (by rw[h.lc];omega)];exact x8));have H:=hid h;have a9x:=hid h.B.lt;have Ff:=hid h.He;have HZ0:=hid h.k.size;clear h xZ x8;unfold Ug at Au;obtain⟨zs,hz0,aU⟩:=Dj;have hzn:=aU.n;have hzz:=aU.z;have hzi:=aU.i
 have HZ:=hid aU;obtain⟨zp,hp0,hpA⟩:=yD;have hpn:=hpA.n;have hpz:=hpA.z
 obtain⟨vs,hvA,hvb⟩ : ∃ vs,Bx 72 101 (mX 0 ns0 ns0) vs∧prog.built 72 []=some vs:=⟨_,OV ..,b2H⟩
 have hvn:=hvA.n;have fF:=hvA.z;have jk:=hvA.i
 have HV:=hid hvA;obtain⟨se,hsA,hsb⟩:=b9c (pg dE cp);have hsn:=hsA.n;have hsz:=hsA.z;have hsi:=hsA.i
 have HS:=hid hsA;have sD:=hid hsb;clear aU hpA hvA hsA hsb;generalize pg dE cp=np at *;go_enter func46,ntmps46
 go_upto_region 1 with fail
 obtain⟨w1,hw1,HA1,HB1,ai,-⟩:=vX w 74 72 [iv k,iv 0,iv N,.slice A m c] zs;rw[←hw1];clear hw1;have a1:=HA1.out.cell 1;simp only[List.getElem?_cons_succ,List.getElem?_cons_zero]at a1;go_wp2_with fail
 refine(Au.out _ ai.out).mono ?_;clear Au;rintro e w2 ⟨ps,rfl,eP,k2⟩;have DX:=eP.n;have hqz:=eP.z;have hqi:=eP.i
 have HQ:=hid eP;have HA2:=hid (HA1.out.keep k2);have HB2:=hid (HB1.out.keep k2);have ay:=hid (af ai.out k2);have hst:=fK w2 52 hqi (hpz.trans hqz.symm) HQ.out.o;clear eP k2 HA1 HB1 ai a1;go_upto_region 8 with fail
 clear hst;obtain⟨w3,hw3⟩ : ∃ y,y=w2.alloc (.cells ps 52):=⟨_,rfl⟩
 have uY:Hid (ae w3 w.heap.size 74 [iv k,iv 0,iv N,.slice A m c]):=by rw[hw3];exact hid (HA2.out.alloc _)
 have HB3:Hid (ae w3 (w.heap.size+1) 72 zs.toList):=by rw[hw3];exact hid (HB2.out.alloc _)
 have aA:Hid (Keep w w3):=by rw[hw3];exact hid (af ay.out (aB _ _))
 rw[←hw3];clear hw3 HA2 HB2 ay;refine bu (.take [0,1,2,3,4,5,6,7,8,9,10,11,12,15,16] (.force [13] (.take [14,17] .done))) [18] (by kernel_rfl) (by kernel_rfl) (fun w4 k4=>?_);have uZ:=hid (uY.out.keep k4);have HB4:=hid (HB3.out.keep k4);have aQ:=hid (af aA.out k4);have a1:=aF (show w4.cell? ⟨w.heap.size,1,none⟩=some (iv 0) from(uZ.out.cell 1).trans rfl);have c75:=aF (aC aQ.out a7I.out);have c76:=aF (aC aQ.out a7J.out);clear k4 uY HB3 aA uZ;refine aN w4 (Below.refl _ _) ?_;simp only[au,ax,ak,aj];repeat(go_big_quiet_step (fail))
 refine wpQuiet_nil (bI ?_);simp only[au,ax,ak,aj];refine aI rfl (fun K hK=>?_);go_simp;refine(Ar.out _).mono ?_;clear Ar;rintro e w5 ⟨ds,rfl,hdA,k5⟩;have jE:=hid (HB4.out.keep k5);have aJ:=hid (af aQ.out k5);refine hK _ _ k5 ?_;have hsb:=sD.out ds hdA;have nI:=hid (H.out.keep aJ.out);clear hK K k5 HB4 aQ a1 c75 c76 hdA sD H;refine aS (aN w5 (Below.refl _ _) ?_);simp only[au,ax,ak,aj];repeat(first | ((with_reducible refine QK [(0,.bool true),(1,.agg ds)] se (Eq.trans ?_ rfl) hsb ?_);rfl;simp only[Act.put,Array.set!_eq_setIfInBounds,List.setIfInBounds_toArray,List.set_cons_succ,List.set_cons_zero]) | go_big_quiet_step (fail))
 refine wpQuiet_nil (aT ?_);obtain⟨w6,PK,hb6,jh⟩:=Bz (P:=prog) 119 se.toList nI.out.B (by rw[OU nI.out.lc nI.out.ls,Array.length_toList,hsz];omega) HS.out.o;have a2E:ae w6 X 63 (gW cf T sl true np d):=by rw[←b2v (b:=false) (q:=q) nI.out.lc nI.out.ls true np,←HS.out.l];exact hb6
 have oH:=hid (nI.out.turn jh a2E nI.out.ls);have a2H:X<w.heap.size:=a9x.out;have jr:Hid (ae w6 (w.heap.size+1) 72 zs.toList):=hid (jE.out.grown jh (fun e=>by injection e with e;omega));have bD:Hid (Turned X w w6):=hid ((aP.of aJ.out).grown jh (fun j _ e=>by injection e with e;exact e.symm));clear hb6 jh a2E nI jE aJ;obtain⟨w7,c3X,hb7,uy⟩:=bn (P:=prog) vs.toList jr.out (by simp[hzz,fF]) HV.out.o;have kL:=hid hb7;have Ad:Hid (bG w0 w7 X T M v ns cf sl true np d):=hid (oH.out.far uy (fun e=>by omega) (by have:=HZ0.out;omega) (fun q=>by have:=Ff.out _ q;omega));have bT:Hid (Turned X w w7):=hid (bD.out.grown uy (fun j hj e=>by injection e with e;omega));clear hb7 uy jr bD oH;go_wp2_with ((with_reducible refine kT [] vs (Eq.trans ?_ rfl) hvb ?_);rfl)
 exact bodyPost_ret (v:=.agg vs) (gJ results46 kL.out underlying72 jk rfl rfl) rfl ⟨vs,rfl,⟨ns0,ns0,HV.out⟩,Ad.out,bT.out⟩
end
abbrev dv (f:Nat):Value:=.func (.func f) #[] #[]
def AV:List Value:=[dv 46,dv 47,dv 48,dv 49,dv 50,dv 51,dv 52,dv 53,dv 54,dv 55]
theorem b2T : ¬ nG 106 = #[]:=fun e=>by
 have h:(nG 106).size=10:=by kernel_rfl
 rw[e]at h;simp at h
theorem a1A : ∃ ds zs:Array Value,Bx 106 10 AV ds∧zs.size=10∧(∀ w,(zeroValue 106).run prog w = .ok (.agg zs) w)∧¬ zs = #[]∧prog.built 106 (AV.zipIdx.map fun x=>(x.2,x.1))=some ds :=
 ⟨AV.toArray,nG 106,Bx.of (by kernel_rfl) rfl (by omega) (fun v hv=>by
  simp only[AV,List.mem_cons,List.not_mem_nil,or_false]at hv
  rcases hv with rfl | rfl | rfl | rfl | rfl | rfl | rfl | rfl | rfl | rfl <;> rfl),by kernel_rfl,fun w=>by kernel_rfl,b2T,by kernel_rfl⟩
theorem b3i (args:Array Value) (w:World):Sem.run prog (callFunc 46 args) w = .ok (.enter 46 args) w:=by go_simp
theorem b3j (args:Array Value) (w:World):Sem.run prog (callFunc 47 args) w = .ok (.enter 47 args) w:=by go_simp
theorem b2U (w:World):Calls prog 27 #[] w fun e w' => ∃ ds,e = .returned (.agg ds)∧Bx 106 10 AV ds∧Keep w w':=by
 obtain⟨ds,zs,hd,hz,hz0,hzn,hb⟩:=a1A;have HD:=hid hd;have hdn:=hd.n;have hdz:=hd.z;have hdi:=hd.i
 simp only[AV,List.zipIdx_cons,List.zipIdx_nil,List.map_cons,List.map_nil,Nat.zero_add]at hb;clear hd;go_enter func27,ntmps27
 go_upto_region 1 with fail
 obtain⟨w1,hw1,HB,HK⟩:=l7 w 106 zs;rw[hw1];clear hw1;obtain⟨w2,hst,hb2,hg⟩:=bn (P:=prog) ds.toList HB.out (by rw[Array.length_toList,Array.length_toList,hz,hdz]) HD.out.o;have HB2:=hid hb2;replace HK:=hid (aK HK.out hg (by omega));clear hb2 hg HB;go_wp2_with ((with_reducible refine kT _ ds (Eq.trans ?_ rfl) hb ?_);rfl)
 exact bodyPost_ret (v:=.agg ds) (gJ results27 HB2.out underlying106 hdi rfl rfl) rfl ⟨ds,rfl,HD.out,HK.out⟩
theorem step_up {X T F:Nat} {P:World→World→Prop} {R:World→Prop} {k N:Int} {A:Option Addr} {m c:Nat} {w:World} (hk:0≤k∧k<10) (hF:AV[k.toNat]?=some (dv F)) (hen : ∀ args w,Sem.run prog (callFunc F args) w = .ok (.enter F args) w) (hT:w.cell? ⟨X,79,none⟩=some (pT T))
  (Nk : ∀ y,Keep w y→Calls prog F #[pT X,qV k 0 N A m c] y (Done 0 (P y) y))
  (hB : ∀ y y',Keep w y→P y y' → ∀ g,w.heap.size≤g→g<y.heap.size→y'.heap[g]?=y.heap[g]?)
  (hR : ∀ y y' w' g,Keep w y→P y y'→y'.grownBy w' (some g)→w.heap.size≤g→g<y.heap.size→R w') :
  Calls prog 8 #[pT X,qV k 0 N A m c] w (Done 0 R w):=by
 have uX:Hid (∀ y,Keep w y→Calls prog 26 #[pT X] y fun e w'=>e = .returned (.bool false)∧Keep y w'):=hid fun y hy=>OW X T y (aC hy hT);have DE:Hid (∀ y,Calls prog 27 #[] y fun e w' => ∃ ds,e = .returned (.agg ds)∧Bx 106 10 AV ds∧Keep y w'):=hid fun y=>b2U y;have RU:=hid Nk;have Y8:=hid hB;have Y9:=hid hR;have HF:=hid hF
 clear Nk hB hR hT hF;obtain⟨qZ,ho0,mZ⟩:=Dj;have hon:=mZ.n;have DV:=mZ.z
 obtain⟨-,c4E,-,hfz,hf0,hfn,-⟩:=a1A;clear mZ;obtain⟨hk0,hk1⟩:=hk;have d0 : ¬ k<0:=by omega
 have d1 : ¬ 10≤k:=by omega
 unfold Done at RU;go_enter func8,ntmps8
 go_upto_region 1 with fail
 obtain⟨w1,hw1,HA,HB,HK,-⟩:=vX w 74 72 [iv k,iv 0,iv N,.slice A m c] qZ;rw[←hw1];clear hw1;go_wp2_with fail
 refine(uX.out _ HK.out).mono ?_;clear uX;rintro e w2 ⟨rfl,k2⟩;replace HA:=hid (HA.out.keep k2);replace HB:=hid (HB.out.keep k2);replace HK:=hid (af HK.out k2);clear k2;go_wp2_with fail
 refine(DE.out _).mono ?_;clear DE;rintro e w3 ⟨ds,rfl,hdA,k3⟩;have hdn:=hdA.n;have hdz:=hdA.z;have hdi:=hdA.i
 have HD:=hid hdA;replace HA:=hid (HA.out.keep k3);replace HB:=hid (HB.out.keep k3);replace HK:=hid (af HK.out k3);have hst:=fK w3 106 hdi (hfz.trans hdz.symm) HD.out.o;clear hdA k3;go_upto_region 4 with fail
 clear hst;have hBl:=HB.out.lt;obtain⟨gd,w4,hg,hw,hl,HE,k4⟩:=oQ w3 106 ds;replace HA:=hid (HA.out.keep k4);replace HB:=hid (HB.out.keep k4);replace HK:=hid (af HK.out k4);simp only[hw,hg];clear hw hg k4;have a0:=HA.out.cell 0;simp only[List.getElem?_cons_succ,List.getElem?_cons_zero]at a0;go_upto_region 6 with fail
 clear a0;refine MM (.take [0,1,2,3,4,5] (.call 6 (.call 7 .done))) [6,7] (by kernel_rfl) (by kernel_rfl) (fun w5 k5=>?_);replace HA:=hid (HA.out.keep k5);replace HB:=hid (HB.out.keep k5);replace HK:=hid (af HK.out k5);replace HE:=hid (HE.out.keep k5);have a0:=aF (show w5.cell? ⟨w.heap.size,0,none⟩=some (iv k) from(HA.out.cell 0).trans rfl);have a1:=aF (show w5.cell? ⟨w.heap.size,1,none⟩=some (iv 0) from(HA.out.cell 1).trans rfl);have a2:=aF (show w5.cell? ⟨w.heap.size,2,none⟩=some (iv N) from(HA.out.cell 2).trans rfl);have a3:=aF (show w5.cell? ⟨w.heap.size,3,none⟩=some (.slice A m c) from(HA.out.cell 3).trans rfl);have e0:=aF (show w5.cell? ⟨gd,k.toNat,none⟩=some (dv F) from(HE.out.cell k.toNat).trans (by rw[HD.out.l];exact HF.out));refine Bj w5 (Below.refl _ _) ?_;simp only[au,ax,ak,aj];repeat(go_big_quiet_step (fail))
 clear a0 a1 a2 a3 e0;refine wpQuiet_nil (zI rfl (fun K hK=>?_));simp only[ak,aj];go_simp;refine(RU.out _ HK.out).mono ?_;rintro e w6 ⟨vs,rfl,⟨S,L,hvA⟩,hp⟩;refine hK _ _ ?_;clear hK K;have fF:=hvA.z;have hvn:=hvA.n;have jk:=hvA.i
 have EH:=HB.out.lt;replace HB:Hid (ae w6 (w.heap.size+1) 72 qZ.toList):=hid ((Y8.out w5 w6 HK.out hp _ (by omega) EH).trans HB.out);obtain⟨w7,hst,hb,hg⟩:=bn (P:=prog) vs.toList HB.out (by rw[Array.length_toList,Array.length_toList,fF,DV]) hvA.o;have kL:=hid hb;have yR:=hid (Y9.out w5 w6 w7 _ HK.out hp hg (by omega) EH);have Fe:=hid hvA;clear hb hg hp hvA HB HA HE Y8 Y9 RU;refine zI rfl (fun K hK=>?_);simp only[ak,aj];go_simp;refine hK _ _ (Lr ?_);clear hK K hst;go_wp2
 exact bodyPost_ret (v:=.agg vs) (gJ results8 kL.out underlying72 jk rfl rfl) rfl ⟨vs,rfl,⟨S,L,Fe.out⟩,yR.out⟩
def jT (X T M:Nat) (v:Value) (k:Nat):Prop:=k=X∨gy T M v k
structure CA (w:World) (lo hi X T M:Nat) (v:Value) (w6:World) (sl:List Value) (ss:Array Value):Prop where
 s:oN sl ss
 a:QV lo hi w6 ss
 o : ∀ k,lo≤k→k<hi→w.heap[k]?=w6.heap[k]?
 x : ∀ k,jT X T M v k→k<lo∨hi≤k
section
variable {w0 w w' w6:World} {X T M lo hi:Nat} {v:Value} {ns:List Nd} {cf sl:List Value} {ss:Array Value} {b:Bool} {q:aW} {d:Int}
theorem CA.keep {k:Nat} (h:CA w lo hi X T M v w6 sl ss) (hk:aP (jT X T M v) w w') (hz:hi≤w.heap.size):CA w' lo hi X T M v w6 sl ss :=
 ⟨h.s,h.a,fun j h1 h2=>(hk.2.2.2.2 j (by omega) (fun e=>by rcases h.x j e with h | h <;> omega)).trans (h.o j h1 h2),h.x⟩
theorem bG.tree {v':Value} {ns':List Nd} (h:bG w0 w X T M v ns cf sl b q d) (hO:gm w' w0.heap.size T M v' 9 ns') (hk:aP (gy T M v) w w') (hv:v'.ownBlock=v.ownBlock ∨ ∀ b,v'.ownBlock=some b→w.heap.size≤b):bG w0 w' X T M v' ns' cf sl b q d :=
 ⟨hk.keep h.k h.t.x,(hk.2.2.2.2 X h.B.lt h.n).trans h.B,hO,h.lc,h.ls,fun e=>by
  have hl:=h.B.lt;rcases e with e | e | e
  ·exact h.n (.inl e)
  ·exact h.n (.inr (.inl e))
  ·rcases hv with q | q
   ·exact h.n (.inr (.inr (q ▸ e)))
   ·have:=q X e;omega,h.x⟩
theorem b2w {sl':List Value} (lc:cf.length=79) (ls:sl.length=38) (ls':sl'.length=38):splice (gW cf T sl b q d) 80 sl'=gW cf T sl' b q d:=by
 have h:=QA (cf++[pT T]) sl (iv 0::(.bool b::(q.cells++(wo++(ns0::(wu++[iv d])))))) sl' (ls'.trans ls.symm);have e:(cf++[pT T]).length=80:=by simp[lc]
 rw[e]at h;simpa[gW]using h
theorem b2t (lc:cf.length=79) (ls:sl.length=38) (d':Int):(gW cf T sl b q d).set 299 (iv d')=gW cf T sl b q d':=by
 have e:gW cf T sl b q d=(cf++(pT T::(sl++(iv 0::(.bool b::(q.cells++(wo++(ns0::wu))))))))++[iv d]:=by simp[gW]
 have e':gW cf T sl b q d'=(cf++(pT T::(sl++(iv 0::(.bool b::(q.cells++(wo++(ns0::wu))))))))++[iv d']:=by simp[gW]
 rw[e,e',List.set_append_right _ _ (by simp[lc,ls,uK,zh,JM])]
 congr 1
 simp[lc,ls,uK,zh,JM]
def Az (R:Int × Int) (w0:World) (X T M:Nat) (v:Value) (ns:List Nd) (cf:List Value) (b:Bool) (q:aW) (w:World) (e:Ending) (w':World):Prop:=∃ (v':Value) (sl':List Value) (d':Int),e = .returned (.tuple #[iv R.1,iv R.2])∧bG w0 w' X T M v' ns cf sl' b q d'∧aP (jT X T M v) w w'∧(v'.ownBlock=v.ownBlock ∨ ∀ b,v'.ownBlock=some b→w.heap.size≤b)
theorem b9o (p:eF) (A:Option Addr) (c:Nat) (h:Hd) (hs:Array Value) (i:Int) (ns':List Nd) (H:bG w0 w X T M v ns cf sl b q d) (G:CA w lo hi X T M v w6 sl ss) (hz:hi≤w.heap.size) (hS:bV w0) (hC:pG p A w0) (hcf : ∃ t,cf=[ag p.limit,iv p.bQ,iv p.span,iv p.dm,iv p.idx,iv p.dK,.slice A p.dH.length c]++t)
  (dV:Tr ns) (hl:ns.length≤100) (ho:h.ok) (bH:bF h hs) (hR:sN p 9 ns h 0=(ns',i,0)) :
  Calls prog 196 #[pT X,.agg hs,iv 0] w (Az (i,0) w0 X T M v ns' cf b q w):=by
 obtain⟨ps,hps⟩ : ∃ ps:Array Value,gI p A c = .agg ps:=⟨_,rfl⟩
 have AC:Hid (∀ y,Keep w y→Calls prog 216 #[.agg ps,pT T,.agg hs,iv 0] y fun e w'=>e = .returned (.tuple #[iv i,iv 0])∧∃ v',gm w' w0.heap.size T M v' 9 ns'∧aP (gy T M v) y w'∧(v'.ownBlock=v.ownBlock ∨ ∀ b,v'.ownBlock=some b→y.heap.size≤b)):=hid fun y hy=>by
  have t:=b03 p A c w0.heap.size T M v 9 ns h hs 0 y (hS.keep (H.keep hy).k) (hC.keep (H.keep hy).k) dV (H.keep hy).t hl ho bH (H.keep hy).k.size;rw[hR,hps]at t;exact t
 have dY:Hid (∀ y,(∀ k,lo≤k→k<hi→y.heap[k]?=w6.heap[k]?)→Keep w0 y→Calls prog 217 #[.agg ss,.agg hs] y fun e w' => ∃ (ss':Array Value) (sl':List Value) (er:Int),e = .returned (.tuple #[.agg ss',iv er])∧oN sl' ss'∧Keep y w'):=hid fun y h1 h2=>G.a y h1 (hS.keep h2) h hs ho bH;have hhz:=bH.z;have hhn:=bH.n;have hhi:=bH.i
 obtain⟨b8r,iJ⟩ : ∃ l,Hid (ps.toList=l∧l=[ag p.limit,iv p.bQ,iv p.span,iv p.dm,iv p.idx,iv p.dK,.slice A p.dH.length c]):=⟨_,hid ⟨rfl,by unfold gI at hps;injection hps with e;rw[←e]⟩⟩
 have hpz:ps.size=7:=by rw[←Array.length_toList,iJ.out.1,iJ.out.2];rfl
 have hpn : ¬ ps = #[]:=fun e=>by rw[e]at hpz;simp at hpz
 have hpi:(prog.info? 25).map (·.size)=some ps.size:=by rw[hpz];kernel_rfl
 have Af:Hid ((cf.drop 0).take 7=ps.toList):=hid (by
  obtain⟨t,rfl⟩:=hcf
  rw[iJ.out.1,iJ.out.2];rfl)
 have hsz:=G.s.z;have hsn:=G.s.n;have hsi:=G.s.i
 have HG:=hid G;have HH:=hid H
 have Zb:=hid hz;obtain⟨zs,zs0,zs1,zs2⟩:=QR;clear hps hR hcf dV hl ho bH hS hC G H hz iJ;go_enter func196,ntmps196
 go_upto_region 1 with fail
 obtain⟨w1,hw1,HB1,ai,-⟩:=di w 29 hs;rw[←hw1];clear hw1;refine MM (.take [0,1,2,3,4,5,6,7,8,9,10] (.call 11 (.take [12,13,14,15,16] .done))) [11] (by kernel_rfl) (by kernel_rfl) (fun w2 k2=>?_);have HB2:=hid (HB1.out.keep k2);have ay:=hid (af ai.out k2);have H2:=hid (HH.out.keep ay.out);clear k2 HB1 ai;have mf:=aF H2.out.mf;have iG:Hid (w2.rangeAt X 0 ps.toList):=hid (H2.out.b8C 0 7 Af.out (by rw[Array.length_toList,hpz]) (by omega));have bU:Hid (w2.rangeAt w.heap.size 0 hs.toList):=hid (cu HB2.out 0 hs.toList (by simp[List.take_of_length_le]));refine Bj w2 (Below.refl _ _) ?_;simp only[au,ax,ak,aj]
 repeat(first
  | ((with_reducible refine jY X 0 ps (Eq.trans ?_ rfl) iG.out _ underlying25 rfl hpi (Eq.trans ?_ rfl) ?_);rfl;rfl;simp only[Act.put,Array.set!_eq_setIfInBounds,List.setIfInBounds_toArray,List.set_cons_succ,List.set_cons_zero])
  | ((with_reducible refine jY w.heap.size 0 hs (Eq.trans ?_ rfl) bU.out _ underlying29 rfl hhi (Eq.trans ?_ rfl) ?_);rfl;rfl;simp only[Act.put,Array.set!_eq_setIfInBounds,List.setIfInBounds_toArray,List.set_cons_succ,List.set_cons_zero])
  | go_big_quiet_step (fail))
 refine wpQuiet_nil (zI rfl (fun K hK=>?_));simp only[ak,aj];clear iG bU mf;go_simp;refine(AC.out _ ay.out).mono ?_;clear AC;rintro e w3 ⟨rfl,v',hO3,qN,hv3⟩;refine hK _ _ ?_;have hz2:=ay.out.size;have HB3:Hid (ae w3 w.heap.size 29 hs.toList):=hid ((qN.2.2.2.2 _ HB2.out.lt (fun e=>by have:=HH.out.He _ e;omega)).trans HB2.out);have vJ:Hid (v'.ownBlock=v.ownBlock ∨ ∀ b,v'.ownBlock=some b→w.heap.size≤b):=hid (hv3.imp id fun q b hb=>Nat.le_trans hz2 (q b hb));have H3:=hid (H2.out.tree hO3 qN hv3);have aA:Hid (aP (gy T M v) w w3):=hid ((aP.of ay.out).trans qN (fun _ _ q=>q));clear hO3 qN hv3 HB2 ay H2 hK K;refine Bj w3 (Below.refl _ _) ?_;simp only[au,ax,ak,aj];repeat(go_big_quiet_step (fail))
 refine wpQuiet_nil (Lr ?_)
 have QU:Hid (∀ y,Keep w3 y→Calls prog 217 #[.agg ss,.agg hs] y fun e w' => ∃ (ss':Array Value) (sl':List Value) (er:Int),e = .returned (.tuple #[.agg ss',iv er])∧oN sl' ss'∧Keep y w'):=hid fun y hy=>dY.out y (fun k h1 h2=>by
  have q1:=HG.out.o k h1 h2;have q2:=aA.out.2.2.2.2 k (by have:=Zb.out;omega) (fun e=>by rcases HG.out.x k (.inr e)with h | h <;> omega);have q3:=hy.block k (by have:=aA.out.2.2.2.1;have:=Zb.out;omega)
  exact q3.trans (q2.trans q1)) (af H3.out.k hy)
 clear dY;go_upto_region 4 with fail
 go_cut [10,11] (fun s10 s11 wx => ∃ (p:Nat) (ss':Array Value) (sl':List Value) (er:Int),s10 = .pointer (some ⟨p,0,none⟩)∧s11=iv er∧Hid (Keep w3 wx)∧Hid (oN sl' ss')∧Hid (ae wx p 47 ss'.toList))
 case first =>
  refine bu (.take [0,1,2,3,4] (.fork 5 (.take [6,7,8] (.force [9] .done)) 9 (.force [5] (.take [6,7,8] .done)))) [10,11] (by kernel_rfl) (by kernel_rfl) (fun w4 k4=>?_);have c4:=H3.out.keep k4;have iZ:Hid (w4.rangeAt X 80 ss.toList):=hid (c4.b8B HG.out.s.l);have bU:Hid (w4.rangeAt w.heap.size 0 hs.toList):=hid (cu (HB3.out.keep k4) 0 hs.toList (by simp[List.take_of_length_le]));have aQ:=hid k4;clear c4 k4;refine aN w4 (Below.refl _ _) ?_;simp only[au,ax,ak,aj]
  repeat(first
   | ((with_reducible refine jY X 80 ss (Eq.trans ?_ rfl) iZ.out _ underlying47 rfl hsi (Eq.trans ?_ rfl) ?_);rfl;rfl;simp only[Act.put,Array.set!_eq_setIfInBounds,List.setIfInBounds_toArray,List.set_cons_succ,List.set_cons_zero])
   | ((with_reducible refine jY w.heap.size 0 hs (Eq.trans ?_ rfl) bU.out _ underlying29 rfl hhi (Eq.trans ?_ rfl) ?_);rfl;rfl;simp only[Act.put,Array.set!_eq_setIfInBounds,List.setIfInBounds_toArray,List.set_cons_succ,List.set_cons_zero])
   | go_big_quiet_step (fail))
  clear iZ bU;refine wpQuiet_nil (ny ?_ ?_)
  ·simp only[au,ax,ak,aj]
   refine aI rfl (fun K hK=>?_);go_simp;refine(QU.out _ aQ.out).mono ?_;rintro e w5 ⟨ss',sl',er,rfl,hsA,k5⟩;refine hK _ _ k5 ?_;clear hK K;have hz':=hsA.z;have hn':=hsA.n;have hi':=hsA.i
   have Jb:=hid hsA;have aJ:=hid (af aQ.out k5);clear hsA k5 aQ;refine aS (aN w5 (Below.refl _ _) ?_);simp only[au,ax,ak,aj];repeat(go_big_quiet_step (fail))
   refine wpQuiet_nil (bI ?_);simp only[au,ax,ak,aj];refine aI rfl (fun K hK=>?_);go_simp;refine hK _ _ (aB _ _) ?_;clear hK K;obtain⟨w7,hw7,HP,-,-⟩:=di w5 47 zs;have bT:Hid (Keep w3 w7):=by rw[hw7];exact hid (af aJ.out (aB _ _))
   have nZ:w3.heap.size≤w5.heap.size:=aJ.out.size;rw[←hw7];clear hw7 aJ;refine aS (aT ?_);obtain⟨wa,lN,hba,hga⟩:=bn (P:=prog) ss'.toList HP.out (by simp[zs0,hz']) Jb.out.o;have dG:=hid hba;have vw:Hid (Keep w3 wa):=hid (aK bT.out hga (by omega));clear hba hga HP bT;go_wp2
   go_meet
   exact⟨_,ss',sl',er,rfl,rfl,vw,Jb,dG⟩
  ·simp only[au,ax,ak,aj]
   refine aI rfl (fun K hK=>?_);go_simp;refine hK _ _ (aB _ _) ?_;clear hK K;obtain⟨w5,hw5,HP,-,-⟩:=di w4 47 zs;have aJ:Hid (Keep w3 w5):=by rw[hw5];exact hid (af aQ.out (aB _ _))
   have nZ:w3.heap.size≤w4.heap.size:=aQ.out.size;rw[←hw5];clear hw5 aQ;refine aS (bI ?_);simp only[au,ax,ak,aj];refine aI rfl (fun K hK=>?_);go_simp;refine(QU.out _ aJ.out).mono ?_;rintro e w7 ⟨ss',sl',er,rfl,hsA,k7⟩;refine hK _ _ k7 ?_;clear hK K;have hz':=hsA.z;have hn':=hsA.n;have hi':=hsA.i
   have Jb:=hid hsA;have bT:=hid (af aJ.out k7);have nM:=hid (HP.out.keep k7);clear hsA k7 aJ HP;refine aS (aN w7 (Below.refl _ _) ?_);simp only[au,ax,ak,aj];repeat(go_big_quiet_step (fail))
   refine wpQuiet_nil (aT ?_);obtain⟨wa,lN,hba,hga⟩:=bn (P:=prog) ss'.toList nM.out (by simp[zs0,hz']) Jb.out.o;have dG:=hid hba;have vw:Hid (Keep w3 wa):=hid (aK bT.out hga (by omega));clear hba hga nM bT;go_wp2
   go_meet
   exact⟨_,ss',sl',er,rfl,rfl,vw,Jb,dG⟩
 obtain⟨g,ss',sl',er,rfl,rfl,EP,E8,oI⟩:=hcut;have hz':=E8.out.z;have hn':=E8.out.n;have hi':=E8.out.i
 have Hx:=hid (H3.out.keep EP.out);have jF:Hid (aP (jT X T M v) w wc):=hid ((aA.out.trans (aP.of EP.out (X:=fun _=>False)) (fun _ _ q=>q.elim)).wide (fun k q=>Or.inr q));clear EP H3 aA QU HG HB3;have FIN:Hid (∀ (wy:World) (sl2:List Value) (d2:Int),wc.grownBy wy (some X)→ae wy X 63 (gW cf T sl2 b q d2)→sl2.length=38→Az (i,0) w0 X T M v ns' cf b q w (.returned (.tuple #[iv i,iv 0])) wy):=hid fun wy sl2 d2 hg hB hs2=>⟨v',sl2,d2,rfl,Hx.out.turn hg hB hs2,jF.out.grown hg (fun j _ e=>by injection e with e;exact .inl e.symm),vJ.out⟩
 by_cases he:er=0
 ·subst he
  have iZ:Hid (wc.rangeAt g 0 ss'.toList):=hid (cu oI.out 0 ss'.toList (by simp[List.take_of_length_le]));obtain⟨wa,lN,hba,hga⟩:=Bz (P:=prog) 80 ss'.toList Hx.out.B (by rw[OU Hx.out.lc Hx.out.ls,Array.length_toList,hz'];omega) E8.out.o;have hl':sl'.length=38:=by rw[←E8.out.l,Array.length_toList,hz']
  have F:=hid (FIN.out wa sl' d hga (by rw[←b2w (sl:=sl) Hx.out.lc Hx.out.ls hl',←E8.out.l];exact hba) hl');clear hba hga Hx jF FIN oI;go_wp2_with ((with_reducible refine dw g 0 ss' (Eq.trans ?_ rfl) iZ.out _ underlying47 rfl hi' rfl ?_);rfl)
  exact bodyPost_ret (v:=.tuple #[iv i,iv 0]) (by simp[results,results196]) rfl F.out
 ·have d0:(er==0)=false:=by rw[beq_eq_false_iff_ne];exact he
  have a1a:=Hx.out.a1a;have f299:=Hx.out.B.frozen 299;have F:Hid (∀ d2,Az (i,0) w0 X T M v ns' cf b q w (.returned (.tuple #[iv i,iv 0])) (wc.setCell ⟨X,299,none⟩ (iv d2))):=hid fun d2=>FIN.out _ sl d2 (eH (iH _ _)) (by rw[←b2t (d:=d) Hx.out.lc Hx.out.ls d2];exact Hx.out.B.az 299 _) Hx.out.ls;clear FIN Hx jF oI;go_wp2
  exact bodyPost_ret (v:=.tuple #[iv i,iv 0]) (by simp[results,results196]) rfl (F.out _)
end
section
variable {w0 w w' w6:World} {X T M lo hi:Nat} {v:Value} {ns:List Nd} {cf sl:List Value} {ss:Array Value} {b:Bool} {q:aW} {d:Int}
theorem b2r (lc:cf.length=79) (ls:sl.length=38):(gW cf T sl b q d).set 295 ns0=gW cf T sl b q d:=by
 have e:(gW cf T sl b q d)[295]?=some ns0:=(JL lc ls 177).trans (by
  rw[List.getElem?_cons_succ,List.getElem?_cons_succ,List.getElem?_append_right (by rw[uK];omega),uK,List.getElem?_append_right (by rw[zh];omega),zh];rfl)
 apply List.ext_getElem?
 intro j;rw[List.getElem?_set]
 split
 ·rename_i h
  subst h;rw[e,if_pos (by rw[OU lc ls];omega)]
 ·rfl
theorem b1V (H:bG w0 w X T M v ns cf sl b q d) (n:Nd) (xs:Array Value) (hx:iY n xs) :
  Calls prog 197 #[pT X,.agg xs] w fun e w'=>e = .returned ns0∧bG w0 w' X T M v ns cf sl b q d∧Turned X w w':=by
 have HH:=hid H;have hxz:=hx.z;have zA:=hx.n;have hxi:=hx.i
 clear H hx;go_enter func197,ntmps197
 go_upto_region 1 with fail
 obtain⟨w1,hw1,-,ai,-⟩:=di w 81 xs;rw[←hw1];clear hw1;have H1:=hid (HH.out.keep ai.out);have a09:=H1.out.a09;have f295:=H1.out.B.frozen 295;have H2:Hid (bG w0 (w1.setCell ⟨X,295,none⟩ ns0) X T M v ns cf sl b q d):=hid (H1.out.turn (eH (iH _ _)) (by have t:=H1.out.B.az 295 ns0;rwa[b2r H1.out.lc H1.out.ls]at t) H1.out.ls);have ay:Hid (Turned X w (w1.setCell ⟨X,295,none⟩ ns0)):=hid ((aP.of ai.out).grown (eH (iH _ _)) (fun j _ e=>by injection e with e;exact e.symm));clear HH H1 ai;go_wp2
 go_loopw [5,6,14] (fun c s i wr=>c=ns0∧s=ns0∧i=iv 0∧wr=w1) (fun _ _ _ _=>0)
 case atStart=>exact⟨rfl,rfl,rfl,rfl⟩
 case round =>
  obtain⟨rfl,rfl,rfl,rfl⟩:=hrel;have d1 : ¬ ((0:Int)<0):=by omega
  go_wp2
  exact bodyPost_ret (v:=ns0) (by simp[results,results197]) rfl ⟨rfl,H2.out,ay.out⟩
theorem b2V (p:eF) (A:Option Addr) (c:Nat) (h:Hd) (hs:Array Value) (i:Nat) (ns':List Nd) (H:bG w0 w X T M v ns cf sl b q d) (G:CA w lo hi X T M v w6 sl ss) (hz:hi≤w.heap.size) (hS:bV w0) (hC:pG p A w0) (hcf : ∃ t,cf=[ag p.limit,iv p.bQ,iv p.span,iv p.dm,iv p.idx,iv p.dK,.slice A p.dH.length c]++t)
  (dV:Tr ns) (hl:ns.length≤100) (ho:h.ok) (bH:bF h hs) (hR:sN p 9 ns h 0=(ns',((i:Nat):Int),0)) (hk' : ∀ n∈ns',n.ok) (hi':i<ns'.length∧ns'.length≤1000) :
  Calls prog 159 #[pT X,.agg hs] w (Az (1,0) w0 X T M v ns' cf b q w):=by
 have ST:Hid (∀ y,Keep w y→Calls prog 196 #[pT X,.agg hs,iv 0] y (Az ((i:Nat),0) w0 X T M v ns' cf b q y)):=hid fun y hy=>b9o p A c h hs i ns' (H.keep hy) (G.keep (k:=0) (aP.of hy) hz) (Nat.le_trans hz hy.size) hS hC hcf dV hl ho bH hR
 have Oy:Hid (∀ (y:World) v',gm y w0.heap.size T M v' 9 ns'→Calls prog 28 #[pT T,iv (i:Nat)] y fun e w' => ∃ (ds:Array Value) (n:Nd),e = .returned (.tuple #[.agg ds,.bool true])∧iY n ds∧Keep y w'):=hid fun y v' hy=>by
  have t:=LD T ns' (i:Nat) y hy.r hk' (by omega) (by omega);rw[show(fD ns' (i:Nat)).isSome=true from by rw[LC,List.getElem?_eq_getElem hi'.1];rfl]at t;exact t.mono fun e w' ⟨ds,h1,h2,h3⟩=>⟨ds,_,h1,h2,h3⟩
 have HH:=hid H;have hhz:=bH.z;have hhn:=bH.n;have hhi:=bH.i
 obtain⟨zs,hz1,hz2,hzn,-,-⟩:=yC;clear H G hz hS hC hcf dV hl ho bH hR hk' hi';unfold Az at ST;go_enter func159,ntmps159
 go_upto_region 1 with fail
 obtain⟨w1,hw1,HB1,ai,-⟩:=di w 29 hs;rw[←hw1];clear hw1;refine MM (.take [0,1,2,3,4,5] (.call 6 (.take [7,8,9,10,11] .done))) [6] (by kernel_rfl) (by kernel_rfl) (fun w2 k2=>?_);have HB2:=hid (HB1.out.keep k2);have ay:=hid (af ai.out k2);have UH:=aF (HH.out.keep ay.out).UH;have bU:Hid (w2.rangeAt w.heap.size 0 hs.toList):=hid (cu HB2.out 0 hs.toList (by simp[List.take_of_length_le]));clear k2 HB1 ai;refine Bj w2 (Below.refl _ _) ?_;simp only[au,ax,ak,aj]
 repeat(first
  | ((with_reducible refine jY w.heap.size 0 hs (Eq.trans ?_ rfl) bU.out _ underlying29 rfl hhi (Eq.trans ?_ rfl) ?_);rfl;rfl;simp only[Act.put,Array.set!_eq_setIfInBounds,List.setIfInBounds_toArray,List.set_cons_succ,List.set_cons_zero])
  | go_big_quiet_step (fail))
 refine wpQuiet_nil (zI rfl (fun K hK=>?_));simp only[ak,aj];go_simp;refine(ST.out _ ay.out).mono ?_;rintro e w3 ⟨v',sl',d',rfl,h3,qN,hv3⟩;refine hK _ _ ?_;have H3:=hid h3;have vJ:Hid (v'.ownBlock=v.ownBlock ∨ ∀ b,v'.ownBlock=some b→w.heap.size≤b):=hid (hv3.imp id fun q b hb=>Nat.le_trans ay.out.size (q b hb));have aA:Hid (aP (jT X T M v) w w3):=hid ((aP.of ay.out).trans qN (fun _ _ q=>q));clear h3 qN hv3 hK K HB2 ay bU UH ST;refine Bj w3 (Below.refl _ _) ?_;simp only[au,ax,ak,aj];repeat(go_big_quiet_step (fail))
 refine wpQuiet_nil (Lr ?_);have c27:X<w3.heap.size:=H3.out.B.lt;go_upto_region 5 with fail
 obtain⟨w4,hw4,BP,-,-⟩:=mW w3 3 [iv (i:Nat)];have H4:Hid (bG w0 w4 X T M v' ns' cf sl' b q d'):=by rw[hw4];exact hid (H3.out.keep (aB _ _))
 have aQ:Hid (aP (jT X T M v) w w4):=by rw[hw4];exact hid (aA.out.trans (aP.of (X:=fun _=>False) (aB _ _)) (fun _ _ q=>q.elim))
 rw[←hw4];clear hw4 H3 aA;generalize w3.heap.size=g at *;go_wp2_with fail
 go_loopw [8,9] (fun cm kv wr => ∃ k:Nat,k≤1∧cm = .slice (some ⟨g,0,none⟩) 1 1∧kv = .int .i64 k∧Hid (ae wr g 3 [iv (i:Nat)])∧Hid (bG w0 wr X T M v' ns' cf sl' b q d')∧Hid (aP (jT X T M v) w wr)) (fun _ kv _=>1 - (intOf kv).toNat)
 case atStart=>exact⟨0,by omega,rfl,rfl,BP,H4,aQ⟩
 case round =>
  obtain⟨k,hk1,rfl,rfl,EM,eU,bg⟩:=hrel;by_cases hlt:k<1
  ·obtain rfl:k=0:=by omega
   have d1:((0:Nat):Int)<1:=by omega
   have mf:=hid eU.out.mf;have Ub:Hid (∀ y,Keep wr y→Calls prog 28 #[pT T,iv (i:Nat)] y fun e w' => ∃ (ds:Array Value) (n:Nd),e = .returned (.tuple #[.agg ds,.bool true])∧iY n ds∧Keep y w'):=hid fun y hy=>Oy.out y v' (eU.out.t.keep hy);go_upto_region 8 with fail
   go_cut [10,11] (fun s10 s11 wx => ∃ (p:Nat) (xs:Array Value) (n:Nd),s10 = .pointer (some ⟨p,0,none⟩)∧s11 = .bool true∧Hid (Keep wr wx)∧Hid (iY n xs)∧Hid (ae wx p 81 xs.toList))
   case first =>
    refine bu (.take [0,1,2,3,4,5,6,7] (.fork 8 (.take [9,10,11] (.force [12] .done)) 12 (.force [8] (.take [9,10,11] .done)))) [13,14] (by kernel_rfl) (by kernel_rfl) (fun w5 k5=>?_);have a79:=aF (aC k5 mf.out);have g0:=aF (show w5.cell? ⟨g,0,none⟩=some (iv (i:Nat)) from((EM.out.keep k5).cell 0).trans rfl);have aJ:=hid k5;clear k5;refine aN w5 (Below.refl _ _) ?_;simp only[au,ax,ak,aj];repeat(go_big_quiet_step (fail))
    clear a79 g0;refine wpQuiet_nil (ny ?_ ?_)
    ·simp only[au,ax,ak,aj]
     refine aI rfl (fun K hK=>?_);go_simp;refine(Ub.out _ aJ.out).mono ?_;rintro e w6' ⟨xs,n,rfl,o5,k6⟩;refine hK _ _ k6 ?_;clear hK K;have hxz:=o5.z;have zA:=o5.n;have hxi:=o5.i
     have ig:=hid o5;have bD:=hid (af aJ.out k6);clear o5 k6 aJ;refine aS (aN w6' (Below.refl _ _) ?_);simp only[au,ax,ak,aj];repeat(go_big_quiet_step (fail))
     refine wpQuiet_nil (bI ?_);simp only[au,ax,ak,aj];refine aI rfl (fun K hK=>?_);go_simp;refine hK _ _ (aB _ _) ?_;clear hK K;obtain⟨w7,hw7,HP,-,-⟩:=di w6' 81 zs;have bT:Hid (Keep wr w7):=by rw[hw7];exact hid (af bD.out (aB _ _))
     have nZ:wr.heap.size≤w6'.heap.size:=bD.out.size;rw[←hw7];clear hw7 bD;refine aS (aT ?_);obtain⟨wa,lN,hba,hga⟩:=bn (P:=prog) xs.toList HP.out (by simp[hz1,hxz]) ig.out.o;have dG:=hid hba;have vw:Hid (Keep wr wa):=hid (aK bT.out hga (by omega));clear hba hga HP bT;go_wp2
     go_meet
     exact⟨_,xs,n,rfl,rfl,vw,ig,dG⟩
    ·simp only[au,ax,ak,aj]
     refine aI rfl (fun K hK=>?_);go_simp;refine hK _ _ (aB _ _) ?_;clear hK K;obtain⟨w6',hw6⟩ : ∃ y,y=w5.alloc (.cells zs 81):=⟨_,rfl⟩
     have HP:Hid (ae w6' w5.heap.size 81 zs.toList):=by rw[hw6];exact hid (ae.new w5 _ zs.toList)
     have bD:Hid (Keep wr w6'):=by rw[hw6];exact hid (af aJ.out (aB _ _))
     have nZ:wr.heap.size≤w5.heap.size:=aJ.out.size;rw[←hw6];clear hw6 aJ;refine aS (bI ?_);simp only[au,ax,ak,aj];refine aI rfl (fun K hK=>?_);go_simp;refine(Ub.out _ bD.out).mono ?_;rintro e w7 ⟨xs,n,rfl,o5,k7⟩;refine hK _ _ k7 ?_;clear hK K;have hxz:=o5.z;have zA:=o5.n;have hxi:=o5.i
     have ig:=hid o5;have bT:=hid (af bD.out k7);have nM:=hid (HP.out.keep k7);clear o5 k7 bD HP;refine aS (aN w7 (Below.refl _ _) ?_);simp only[au,ax,ak,aj];repeat(go_big_quiet_step (fail))
     refine wpQuiet_nil (aT ?_);obtain⟨wa,lN,hba,hga⟩:=bn (P:=prog) xs.toList nM.out (by simp[hz1,hxz]) ig.out.o;have dG:=hid hba;have vw:Hid (Keep wr wa):=hid (aK bT.out hga (by omega));clear hba hga nM bT;go_wp2
     go_meet
     exact⟨_,xs,n,rfl,rfl,vw,ig,dG⟩
   case rest =>
    obtain⟨p',xs,n,rfl,rfl,gK,ig,HBc⟩:=hcut;have hxz:=ig.out.z;have zA:=ig.out.n;have hxi:=ig.out.i
    have a0L:Hid (wc.rangeAt p' 0 xs.toList):=hid (cu HBc.out 0 xs.toList (by simp[List.take_of_length_le]));have CL:Hid (Calls prog 197 #[pT X,.agg xs] wc fun e w'=>e = .returned ns0∧bG w0 w' X T M v' ns' cf sl' b q d'∧Turned X wc w'):=hid (b1V (eU.out.keep gK.out) n xs ig.out);have EL:=hid (EM.out.keep gK.out);have EP:Hid (aP (jT X T M v) w wc):=hid (bg.out.trans (aP.of (X:=fun _=>False) gK.out) (fun _ _ q=>q.elim));have b4K:g≠X:=by omega
    clear EM eU bg gK Ub mf;go_wp2_with ((with_reducible refine dw p' 0 xs (Eq.trans ?_ rfl) a0L.out _ underlying81 rfl hxi rfl ?_);rfl)
    refine CL.out.mono ?_;rintro e wd ⟨rfl,hd,kd⟩;have Hd:=hid hd;have NM:Hid (ae wd g 3 [iv (i:Nat)]):=hid ((kd.2.2.2.2 g EL.out.lt (fun e=>b4K e)).trans EL.out);have EO:Hid (aP (jT X T M v) w wd):=hid (EP.out.trans kd (fun _ _ q => .inl q));clear hd kd CL a0L HBc EL EP;go_wp2_with fail
    go_loopw [8,53] (fun cm j wr'=>cm = .slice (some ⟨g,0,none⟩) 1 1∧j=iv 0∧wr'=wd) (fun _ _ _=>0)
    case atStart=>exact⟨rfl,rfl,rfl⟩
    case round =>
     obtain⟨rfl,rfl,rfl⟩:=hrel;go_wp2
     go_roundw
     case rel=>exact⟨1,by omega,rfl,by go_num,NM,Hd,EO⟩
     case measure=>simp[intOf]
  ·obtain rfl:k=1:=by omega
   have d1 : ¬ ((1:Nat):Int)<1:=by omega
   go_wp2
   exact bodyPost_ret (v:=.tuple #[iv 1,iv 0]) (by simp[results,results159]) rfl ⟨v',sl',d',rfl,eU.out,bg.out,vJ.out⟩
end
def jX (X:Nat) (q:aW) (e:Int) (s:Value) (cm:Int):List Value:=pT X::iv 0::(q.cells++[iv e,s,iv cm,iv 0,iv 0])
theorem G5 (X:Nat) (q:aW) (e:Int) (s:Value) (cm:Int):(jX X q e s cm).length=17:=rfl
theorem a7d (X:Nat) (q q':aW) (e:Int) (s:Value) (cm:Int):splice (jX X q e s cm) 2 q'.cells=jX X q' e s cm:=by
 have h:=QA [pT X,iv 0] q.cells [iv e,s,iv cm,iv 0,iv 0] q'.cells rfl;simpa[jX]using h
theorem QI {w:World} {V X:Nat} {q:aW} {e cm:Int} {s:Value} (h:ae w V 175 (jX X q e s cm)) {qs:Array Value} (hq:bZ q qs):w.rangeAt V 2 qs.toList :=
 cu h 2 qs.toList (by rw[hq.l];rfl)
theorem b74 {w w':World} {base size n:Nat} {e:TypeId} {v:Value} {xs:List Value} {Y:Nat→Prop} (h:w.ownsRow base e size v n xs) (k:aP Y w w') (hn : ∀ j,v.ownBlock=some j → ¬ Y j):w'.ownsRow base e size v n xs :=
 ⟨h.1,h.2.imp id fun⟨g,cap,cur,e1,e2,e3,e4⟩=>⟨g,cap,cur,e1,e2,(k.2.2.2.2 g (Array.getElem?_eq_some_iff.1 e3).1 (hn g (by rw[e1];rfl))).trans e3,e4⟩⟩
theorem gm.KU {w w':World} {base T M:Nat} {v:Value} {most:Int} {ns:List Nd} {Y:Nat→Prop} (h:gm w base T M v most ns) (k:aP Y w w') (hn : ∀ j,gy T M v j → ¬ Y j):gm w' base T M v most ns :=
 ⟨(k.2.2.2.2 T h.b.lt (hn T (.inl rfl))).trans h.b,b74 h.o k (fun j e=>hn j (.inr (.inr e))),h.m.of_eq (k.2.2.2.2 M h.m.lt (hn M (.inr (.inl rfl)))),h.AP,h.AO,h.ne,h.xq,h.zS⟩
theorem bG.KU {w0 w w':World} {X T M:Nat} {v:Value} {ns:List Nd} {cf sl:List Value} {b:Bool} {q:aW} {d:Int} {Y:Nat→Prop} (h:bG w0 w X T M v ns cf sl b q d) (k:aP Y w w') (hn : ∀ j,jT X T M v j → ¬ Y j) (h0 : ∀ j,Y j→w0.heap.size≤j):bG w0 w' X T M v ns cf sl b q d :=
 ⟨k.keep h.k h0,(k.2.2.2.2 X h.B.lt (hn X (.inl rfl))).trans h.B,h.t.KU k (fun j e=>hn j (.inr e)),h.lc,h.ls,h.n,h.x⟩
section
variable {w0 w w' w6:World} {X T M lo hi V:Nat} {v s:Value} {ns:List Nd} {cf sl:List Value} {ss:Array Value} {b:Bool} {q p q':aW} {d e cm:Int}
theorem c0I (H:ae w V 175 (jX X p e s cm)) (hS:bV w) (hp:p.at_ w) (hq:D6 p 0=q') (h3:q'.stage≠3) :
  Calls prog 117 #[pT V,iv 0] w fun e' w'=>e' = .returned (.tuple #[])∧ae w' V 175 (jX X q' e s cm)∧Turned V w w':=by
 obtain⟨ps,hpA⟩ : ∃ ps,bZ p ps:=⟨_,bZ.of p⟩
 have Ou:Hid (Calls prog 78 #[.agg ps,iv 0] w fun e w' => ∃ ds,e = .returned (.agg ds)∧bZ q' ds∧Keep w w'):=hid (by rw[←hq];exact b6i p ps hpA 0 w hp hS);have hpz:=hpA.z;have hpn:=hpA.n;have hpi:=hpA.i
 have iG:Hid (w.rangeAt V 2 ps.toList):=hid (QI H hpA);have HH:=hid H;have H3:=hid h3;clear H hS hp hq h3 hpA;go_enter func117,ntmps117
 go_wp2_with ((with_reducible refine dw V 2 ps (Eq.trans ?_ rfl) iG.out _ underlying52 rfl hpi rfl ?_);rfl)
 refine Ou.out.mono ?_;rintro e1 w1 ⟨ds,rfl,hdA,k1⟩;have hdz:=hdA.z;have hdn:=hdA.n;have hdi:=hdA.i
 obtain⟨w2,hst,hb,hg⟩:=Bz (P:=prog) 2 ds.toList (HH.out.keep k1) (by rw[G5,Array.length_toList,hdz];omega) hdA.o;rw[hdA.l,a7d]at hb;have HB:=hid hb;have HT:Hid (Turned V w w2):=hid ((aP.of k1).grown hg (fun j _ e=>by injection e with e;exact e.symm));have c2:w2.cell? ⟨V,2,none⟩=some (iv q'.stage):=(hb.cell 2).trans rfl;have d0:(q'.stage==3)=false:=by rw[beq_eq_false_iff_ne];exact H3.out
 clear hdA hb hg k1 HH iG Ou;go_wp2
 exact bodyPost_end (v:=.tuple #[]) (by simp[results,results117]) rfl ⟨rfl,HB.out,HT.out⟩
def JH (X T M V:Nat) (v:Value) (k:Nat):Prop:=jT X T M v k∨k=V
def QZ (w0:World) (X T M V:Nat) (v s:Value) (ns:List Nd) (cf:List Value) (b:Bool) (q p:aW) (e cm:Int) (w:World) (e':Ending) (w':World):Prop:=∃ (v':Value) (sl':List Value) (d':Int),e' = .returned (.tuple #[])∧bG w0 w' X T M v' ns cf sl' b q d'∧ae w' V 175 (jX X p e s cm)∧aP (JH X T M V v) w w'∧(v'.ownBlock=v.ownBlock ∨ ∀ b,v'.ownBlock=some b→w.heap.size≤b)
theorem c0G (P:eF) (A:Option Addr) (c:Nat) (h:Hd) (i:Nat) (ns':List Nd) (LA:Option Addr) (lc:Nat) (H:bG w0 w X T M v ns cf sl b q d) (G:CA w lo hi X T M v w6 sl ss) (hz:hi≤w.heap.size) (hS:bV w0) (hC:pG P A w0) (hcf : ∃ t,cf=[ag P.limit,iv P.bQ,iv P.span,iv P.dm,iv P.idx,iv P.dK,.slice A P.dH.length c]++t)
  (dV:Tr ns) (hl:ns.length≤100) (ho:h.ok) (hR:sN P 9 ns h 0=(ns',((i:Nat):Int),0)) (hk' : ∀ n∈ns',n.ok) (hi':i<ns'.length∧ns'.length≤1000)
  (HV:ae w V 175 (jX X p e s 0)) (a2D : ¬ jT X T M v V) (hV0:w0.heap.size≤V) (hp:p.rs=[]∧p.rc≤maxLen) (hq:D6 p 0=q') (h3:q'.stage≠3) (hlc:1≤lc∧lc≤maxLen) (hr:Rd w LA h.cells) :
  Calls prog 115 #[pT V,.slice LA 1 lc] w (QZ w0 X T M V v s ns' cf b q q' e 1 w):=by
 obtain⟨hs,bH⟩ : ∃ hs,bF h hs:=⟨_,bF.of ho⟩
 have Q4:Hid (∀ y,Keep w y→Calls prog 159 #[pT X,.agg hs] y (Az (1,0) w0 X T M v ns' cf b q y)):=hid fun y hy=>b2V P A c h hs i ns' (H.keep hy) (G.keep (k:=0) (aP.of hy) hz) (Nat.le_trans hz hy.size) hS hC hcf dV hl ho bH hR hk' hi';have Ou:Hid (∀ y,Keep w0 y→ae y V 175 (jX X p e s 1)→Calls prog 117 #[pT V,iv 0] y fun e' w'=>e' = .returned (.tuple #[])∧ae w' V 175 (jX X q' e s 1)∧Turned V y w'):=hid fun y hy hb=>c0I hb (hS.keep hy) ⟨.inl (by rw[hp.1];rfl),⟨by rw[hp.1];exact Nat.zero_le _,hp.2⟩,by rw[hp.1];exact Nat.zero_le _⟩ hq h3;obtain⟨g,off,rfl,hgl,hrc⟩:=hr.at (k:=0) (by rw[Hd.len ho];omega)
 have RE:Hid (w.rangeAt g off hs.toList):=hid (fun j u hu=>by
  rw[bH.l]at hu;have hj:j<h.cells.length:=(List.getElem?_eq_some_iff.1 hu).1;have t:=hrc j hj
  rw[←hu,List.getElem?_eq_getElem hj];exact t)
 have HH:=hid H;have HVV:=hid HV;have HX:=hid a2D;have H3:=hid h3;have hhz:=bH.z;have hhn:=bH.n;have hhi:=bH.i
 have IA:=hid bH;obtain⟨zs,hz1,hz2,hzn,hzl⟩:=Eu;have hmx:=hlc.1;have Pq:V<w.heap.size:=HV.lt;clear H G hz hS hC hcf dV hl ho hR hk' hi' HV a2D hp hq h3 hr hrc bH hzl;unfold Az at Q4;go_enter func115,ntmps115
 go_wp2_with fail
 go_loopw [10] (fun kv wr => ∃ k:Nat,k≤1∧kv = .int .i64 k∧Hid (k=0→wr=w)∧Hid (k=1→QZ w0 X T M V v s ns' cf b q q' e 1 w (.returned (.tuple #[])) wr)) (fun kv _=>1 - (intOf kv).toNat)
 case atStart=>exact⟨0,by omega,rfl,hid fun _=>rfl,hid fun e=>absurd e (by omega)⟩
 case round =>
  obtain⟨k,hk1,rfl,Jk,Hk1⟩:=hrel;by_cases hlt:k<1
  ·obtain rfl:k=0:=by omega
   obtain rfl:=Jk.out rfl;have d1:((0:Nat):Int)<1:=by omega
   have hst:=fK wr 29 hhi (hz1.trans hhz.symm) IA.out.o;go_upto_region 3 with((with_reducible refine dw g off hs (Eq.trans ?_ rfl) RE.out _ underlying29 rfl hhi rfl ?_);rfl)
   clear hst Jk Hk1;obtain⟨w1,hw1,HB1,ai,-⟩:=di wr 29 hs;rw[←hw1];clear hw1;refine MM (.take [0,1,2,3,4] (.call 5 (.take [6,7,8,9,10] .done))) [5] (by kernel_rfl) (by kernel_rfl) (fun w2 k2=>?_);have HB2:=hid (HB1.out.keep k2);have ay:=hid (af ai.out k2);have v0:=aF (show w2.cell? ⟨V,0,none⟩=some (pT X) from((HVV.out.keep ay.out).cell 0).trans rfl);have bU:Hid (w2.rangeAt wr.heap.size 0 hs.toList):=hid (cu HB2.out 0 hs.toList (by simp[List.take_of_length_le]));clear k2 HB1 ai;refine Bj w2 (Below.refl _ _) ?_;simp only[au,ax,ak,aj]
   repeat(first
    | ((with_reducible refine jY wr.heap.size 0 hs (Eq.trans ?_ rfl) bU.out _ underlying29 rfl hhi (Eq.trans ?_ rfl) ?_);rfl;rfl;simp only[Act.put,Array.set!_eq_setIfInBounds,List.setIfInBounds_toArray,List.set_cons_succ,List.set_cons_zero])
    | go_big_quiet_step (fail))
   refine wpQuiet_nil (zI rfl (fun K hK=>?_));simp only[ak,aj];go_simp;refine(Q4.out _ ay.out).mono ?_;rintro e1 w3 ⟨v',sl',d',rfl,h3c,qN,hv3⟩;refine hK _ _ ?_;have rq:=hid h3c;have vJ:Hid (v'.ownBlock=v.ownBlock ∨ ∀ b,v'.ownBlock=some b→wr.heap.size≤b):=hid (hv3.imp id fun q b hb=>Nat.le_trans ay.out.size (q b hb));have Oa:Hid (ae w3 V 175 (jX X p e s 0)):=hid ((qN.2.2.2.2 V (Nat.lt_of_lt_of_le Pq ay.out.size) HX.out).trans (HVV.out.keep ay.out));have aA:Hid (aP (jT X T M v) wr w3):=hid ((aP.of ay.out).trans qN (fun _ _ q=>q));clear h3c qN hv3 hK K HB2 ay bU v0 Q4;refine Bj w3 (Below.refl _ _) ?_;simp only[au,ax,ak,aj];repeat(go_big_quiet_step (fail))
   refine wpQuiet_nil (Lr ?_);have v14:w3.cell? ⟨V,14,none⟩=some (iv 0):=(Oa.out.cell 14).trans rfl;have f14:=Oa.out.frozen 14;have ZQ:Hid (ae (w3.setCell ⟨V,14,none⟩ (iv 1)) V 175 (jX X p e s 1)):=hid (Oa.out.az 14 (iv 1));have hg4:w3.grownBy (w3.setCell ⟨V,14,none⟩ (iv 1)) (some V):=eH (iH _ _)
   have a2C : ¬ gy T M v' V:=fun q=>by
    rcases q with q | q | q
    ·exact HX.out (.inr (.inl q))
    ·exact HX.out (.inr (.inr (.inl q)))
    ·rcases vJ.out with t | t
     ·exact HX.out (.inr (.inr (.inr (t ▸ q))))
     ·have:=t V q;omega
   have Il:Hid (bG w0 (w3.setCell ⟨V,14,none⟩ (iv 1)) X T M v' ns' cf sl' b q d'):=hid (rq.out.far hg4 (fun e=>by subst e;exact HX.out (.inl rfl)) hV0 a2C);have aQ:Hid (aP (JH X T M V v) wr (w3.setCell ⟨V,14,none⟩ (iv 1))):=hid ((aA.out.wide fun _ q => .inl q).grown hg4 (fun j _ e=>by injection e with e;exact .inr e.symm));have a0j:=hid (Ou.out _ Il.out.k ZQ.out);clear rq Oa aA hg4 ZQ;go_wp2_with fail
   refine a0j.out.mono ?_;rintro e1 w5 ⟨rfl,hv5,k5⟩;have HV5:=hid hv5;have NH:=hid (Il.out.KU k5 (fun j e1 e2=>by subst e2;exact e1.elim (fun e=>HX.out (.inl e)) a2C) (fun j e2=>by rw[e2];exact hV0));have aJ:Hid (aP (JH X T M V v) wr w5):=hid (aQ.out.trans k5 (fun _ _ q => .inr q));have v2:w5.cell? ⟨V,2,none⟩=some (iv q'.stage):=(hv5.cell 2).trans rfl;have d0:(q'.stage==3)=false:=by rw[beq_eq_false_iff_ne];exact H3.out
   have F:Hid (QZ w0 X T M V v s ns' cf b q q' e 1 wr (.returned (.tuple #[])) w5):=hid ⟨v',sl',d',rfl,NH.out,HV5.out,aJ.out,vJ.out⟩;clear hv5 k5 Il aQ a0j HV5 NH aJ;go_wp2
   go_roundw
   case rel=>exact⟨1,by omega,by go_num,hid fun q=>absurd q (by omega),hid fun _=>F.out⟩
   case measure=>simp[intOf]
  ·obtain rfl:k=1:=by omega
   have d1 : ¬ ((1:Nat):Int)<1:=by omega
   have HF:=hid (Hk1.out rfl);clear Hk1;go_wp2
   exact bodyPost_end (v:=.tuple #[]) (by simp[results,results115]) rfl HF.out
end
theorem Xj:dL prog 67 243 (.agg #[iv 0,ns0]) 2 32:=dL.mk' underlying67 (by kernel_rfl) rfl (by omega)
theorem b1F (v0:Int) (A:Option Addr) (n c:Nat) (y:World):(Instr.buildSlice 67 1 #[(0,.agg #[iv v0,.slice A n c])]).run prog y = .ok (.slice (some ⟨y.heap.size,0,none⟩) 1 1) (y.alloc (.cells #[iv v0,.slice A n c] 243)):=by
 obtain⟨i,hi,hiz,his,_⟩:=Xj.info;refine run_buildSlice y 67 243 1 _ #[iv v0,.slice A n c] i _ Xj.und hi hiz (by rw[his];decide) (by rw[his];decide) ?_;rw[his];rw[Dn (off:=0*2) (size:=2) rfl rfl (by simp)];rw[Instr.fill];simp[Value.cells]
def OC (B:Nat) (n:Nat) (sv:Value) (w:World) (e:Ending) (w':World):Prop:=∃ (v:Value) (xs:List Value),e = .returned v∧w'.ownsRow B 243 2 v (n+1) xs∧aP (fun k=>sv.ownBlock=some k) w w'∧(v.ownBlock=sv.ownBlock ∨ ∀ k,v.ownBlock=some k→w.heap.size≤k)
theorem b9k (B n:Nat) (sv:Value) (xs:List Value) (p:aW) (cs:Array Value) (hA:bZ p cs) (hr:p.rs=[]) (hT:qW p=p) (hst3:p.stage≠3) (m:aV) (hs:m.small) (ms:Array Value) (hM:Bx 118 114 m.cells ms) (w:World) (hm : ∀ x∈m.parts,∀ y,x.fit y) (hS:bV w)
  (hown:w.ownsRow B 243 2 sv n xs) (hn:n≤1000) (hB:B≤w.heap.size) :
  Calls prog 83 #[sv,iv 0,.agg cs,.agg ms] w (OC B n sv w):=by
 have SD:Hid (∀ y,Keep w y→Calls prog 128 #[.agg cs,.agg ms] y fun e w' => ∃ (A:Option Addr) (k c:Nat),e = .returned (.tuple #[.slice A k c,iv 0])∧Keep y w'):=hid fun y hy=>b9j p cs hA hr hT hst3 m hs ms hM y (fun x hx=>hm x hx y) (hS.keep hy);have hcn:=hA.n;have hcz:=hA.z;have hci:=hA.i
 have hmn:=hM.n;have hmz:=hM.z;have kR:=hM.i
 have HO:=hid hown;clear hA hr hT hst3 hM hm hS hs hown;go_enter func83,ntmps83
 go_upto_region 1 with fail
 obtain⟨w1,hw1,HB1,IL,ai,-⟩:=qF w 52 118 cs ms;rw[←hw1];clear hw1;go_wp2_with (first | ((with_reducible refine bY w.heap.size cs (Eq.trans ?_ rfl) HB1.out _ underlying52 rfl hci ?_);rfl) | ((with_reducible refine bY (w.heap.size+1) ms (Eq.trans ?_ rfl) IL.out _ underlying118 rfl kR ?_);rfl))
 refine(SD.out _ ai.out).mono ?_;clear SD;rintro e w2 ⟨A,k,c,rfl,k2⟩;have ay:=hid (af ai.out k2);have kC:=hid (jM HO.out ay.out);have hz2:=ay.out.size;have RN:Hid (∀ y,(Instr.buildSlice 67 1 #[(0,.agg #[iv 0,.slice A k c])]).run prog y = .ok (.slice (some ⟨y.heap.size,0,none⟩) 1 1) (y.alloc (.cells #[iv 0,.slice A k c] 243))):=hid fun y=>b1F 0 A k c y;clear k2 HB1 IL ai HO;have hbs:=RN.out;go_wp2_with (at_builtin;refine iF Xj (by rfl) _ _ (by rfl) B _ _ _ (by rfl) (kC.out.alloc _) _ 1 1 [iv 0,.slice A k c] (by rfl) (by rfl) (Rd.new _ _ _) (by simp[Value.oneCell']) (by omega) (by unfold maxLen;omega) (by simp;omega) ?_;intro v3 w3 qi hg3 DI;have b0F:=hid qi;have BO:=hid hg3;have a8u:=hid DI;clear qi hg3 DI)
 have F:Hid (OC B n sv w (.returned v3) w3):=hid ⟨v3,_,rfl,b0F.out,((aP.of (af ay.out (aB _ _))).grown BO.out (fun j _ e=>e)),a8u.out.imp id fun e j hj=>by rw[e]at hj;injection hj with hj;simp at hj;omega⟩;exact bodyPost_ret (v:=v3) (by simp[results,results83]) rfl F.out
def OB (X V B n:Nat) (p:aW) (e cm:Int) (sv:Value) (w:World) (e':Ending) (w':World):Prop:=∃ (v:Value) (xs:List Value),e' = .returned (.tuple #[])∧ae w' V 175 (jX X p e v cm)∧w'.ownsRow B 243 2 v (n+1) xs∧aP (fun k=>k=V∨sv.ownBlock=some k) w w'∧(v.ownBlock=sv.ownBlock ∨ ∀ k,v.ownBlock=some k→w.heap.size≤k)
theorem c0K (X V B n:Nat) (sv:Value) (xs:List Value) (p:aW) (e cm:Int) (hr:p.rs=[]) (hT:qW p=p) (hst3:p.stage≠3) (m:aV) (hs:m.small) (ms:Array Value) (hM:Bx 118 114 m.cells ms) (w:World) (hm : ∀ x∈m.parts,∀ y,x.fit y) (hS:bV w)
  (HV:ae w V 175 (jX X p e sv cm)) (hown:w.ownsRow B 243 2 sv n xs) (hn:n≤1000) (hB:B≤w.heap.size) (a2B:V<B) :
  Calls prog 114 #[pT V,.agg ms] w (OB X V B n p e cm sv w):=by
 obtain⟨ps,hpA⟩ : ∃ ps,bZ p ps:=⟨_,bZ.of p⟩
 have SD:Hid (∀ y,Keep w y→Calls prog 83 #[sv,iv 0,.agg ps,.agg ms] y (OC B n sv y)):=hid fun y hy=>b9k B n sv xs p ps hpA hr hT hst3 m hs ms hM y hm (hS.keep hy) (jM hown hy) hn (Nat.le_trans hB hy.size);unfold OC at SD;have hpn:=hpA.n;have hpz:=hpA.z;have hpi:=hpA.i
 have hmn:=hM.n;have hmz:=hM.z;have kR:=hM.i
 have HVV:=hid HV;have xK:=hid hpA;have b5x:sv.ownBlock≠some V:=fun e=>by have:=(hown.lt V e).1;omega
 clear hpA hr hT hst3 hM hm hS hs HV hown;go_enter func114,ntmps114
 go_upto_region 1 with fail
 obtain⟨w1,hw1,HB1,ai,-⟩:=di w 118 ms;rw[←hw1];clear hw1;refine MM (.take [0,1,2,3,4,5,6,7,8,9,10,11,12,13] (.call 14 (.call 15 (.call 16 (.call 17 .done))))) [14,15,16,17] (by kernel_rfl) (by kernel_rfl) (fun w2 k2=>?_);have HB2:=hid (HB1.out.keep k2);have ay:=hid (af ai.out k2);have Fa:=hid (HVV.out.keep ay.out);have v1:=aF (show w2.cell? ⟨V,1,none⟩=some (iv 0) from(Fa.out.cell 1).trans rfl);have v13:=aF (show w2.cell? ⟨V,13,none⟩=some sv from(Fa.out.cell 13).trans rfl);have iG:Hid (w2.rangeAt V 2 ps.toList):=hid (QI Fa.out xK.out);have RM:Hid (w2.rangeAt w.heap.size 0 ms.toList):=hid (cu HB2.out 0 ms.toList (by simp[List.take_of_length_le]));clear k2 HB1 ai;refine Bj w2 (Below.refl _ _) ?_;simp only[au,ax,ak,aj]
 repeat(first
  | ((with_reducible refine jY V 2 ps (Eq.trans ?_ rfl) iG.out _ underlying52 rfl hpi (Eq.trans ?_ rfl) ?_);rfl;rfl;simp only[Act.put,Array.set!_eq_setIfInBounds,List.setIfInBounds_toArray,List.set_cons_succ,List.set_cons_zero])
  | ((with_reducible refine jY w.heap.size 0 ms (Eq.trans ?_ rfl) RM.out _ underlying118 rfl kR (Eq.trans ?_ rfl) ?_);rfl;rfl;simp only[Act.put,Array.set!_eq_setIfInBounds,List.setIfInBounds_toArray,List.set_cons_succ,List.set_cons_zero])
  | go_big_quiet_step (fail))
 refine wpQuiet_nil (zI rfl (fun K hK=>?_));simp only[ak,aj];go_simp;refine(SD.out _ ay.out).mono ?_;rintro e1 w3 ⟨v3,c1o,rfl,o3,qN,hv3⟩;refine hK _ _ ?_;obtain⟨A3,c3,rfl,-⟩:=dD o3;have nJ:=hid o3;have uY:Hid ((Value.slice A3 (n+1) c3).ownBlock=sv.ownBlock ∨ ∀ k,(Value.slice A3 (n+1) c3).ownBlock=some k→w.heap.size≤k):=hid (hv3.imp id fun q b hb=>Nat.le_trans ay.out.size (q b hb));have vJ:Hid (ae w3 V 175 (jX X p e sv cm)):=hid ((qN.2.2.2.2 V Fa.out.lt b5x).trans Fa.out);have aA:Hid (aP (fun k=>k=V∨sv.ownBlock=some k) w w3):=hid (((aP.of ay.out).trans qN (fun _ _ q=>q)).wide fun _ q => .inr q);clear o3 qN hv3 hK K HB2 ay Fa iG RM v1 v13 SD;refine zI rfl (fun K hK=>?_);simp only[ak,aj];go_simp;refine hK _ _ ?_;clear hK K;refine zI rfl (fun K hK=>?_);simp only[ak,aj];go_simp;refine hK _ _ ?_;clear hK K;obtain⟨c13,hc13⟩ : ∃ u,w3.cell? ⟨V,13,none⟩=some u:=⟨_,(vJ.out.cell 13).trans rfl⟩
 have f13:=vJ.out.frozen 13;have hg:w3.grownBy (w3.setCell ⟨V,13,none⟩ (.slice A3 (n+1) c3)) (some V):=eH (iH _ _);have hne:(Value.slice A3 (n+1) c3).ownBlock≠some V:=fun e=>by have:=(nJ.out.lt V e).1;omega
 have F:Hid (OB X V B n p e cm sv w (.returned (.tuple #[])) (w3.setCell ⟨V,13,none⟩ (.slice A3 (n+1) c3))):=hid ⟨_,c1o,rfl,vJ.out.az 13 _,nJ.out.kept hg (.inr hne),aA.out.grown hg (fun j _ e=>by injection e with e;exact .inl e.symm),uY.out⟩;clear hg vJ aA nJ;refine zI rfl (fun K hK=>?_);simp only[ak,aj];go_simp;refine hK _ _ (Lr ?_);clear hK K;go_wp2
 exact bodyPost_end (v:=.tuple #[]) (by simp[results,results114]) rfl F.out
end Go.Proofs.YtiagcenlnekdeaaGreatDoor
