/- Texts merged by pack.py: Wc, Wd. -/
import Derived.Test.YtiagcenlnekdeaaGreatDoorCx25
import Derived.Test.YtiagcenlnekdeaaGreatDoorCx22
import Derived.Test.YtiagcenlnekdeaaGreatDoorCx7
set_option maxRecDepth 1000000
set_option maxHeartbeats 16000000
open Go.Proofs.Tryz
open Go.Lib (hid)
set_option linter.unusedSimpArgs false
set_option linter.unusedVariables false
namespace Go.Proofs.YtiagcenlnekdeaaGreatDoor
open Go.RowKit
attribute [local go_sem ↓] Go.wp_at_zero Go.wp_at_succ
theorem u64_and1 (n:Nat) (h:n<2^64):bits .and .u64 (n:Int) 1=((n%2:Nat):Int):=by
 have h1:=bits_and_u64_nat n 1 h (by decide);rw[Nat.and_one_is_mod]at h1;exact h1
theorem b6M (a j:Nat):limb a (j/64)/2^(j%64)%2=a/2^j%2:=by
 have h:(limb a (j/64)).testBit (j%64)=a.testBit j:=by
  rw[o7,show 64*(j/64)+j%64=j by omega]
  have:j%64<64:=Nat.mod_lt _ (by decide)
  simp[this]
 have g : ∀ x i:Nat,x/2^i%2=(x.testBit i).toNat:=fun x i=>by rw[Nat.testBit_eq_decide_div_mod_eq];rcases Nat.mod_two_eq_zero_or_one (x/2^i)with e | e <;> simp[e]
 rw[g,g,h]
theorem b3s {E c:Nat} (hE:E%2=0) (hE2:E<2^256) (hc:c<2):E+c<2^256∧limb (E+c) 0=limb E 0+c∧limb (E+c) 1=limb E 1∧limb (E+c) 2=limb E 2∧limb (E+c) 3=limb E 3∧limb E 0%2=0:=by
 unfold limb;simp only[Nat.reduceMul,Nat.reducePow,Nat.div_one]at *;omega
theorem left_step {L b c:Nat} (hL:L<b) (hb:b<2^256) (hc:c<2):iU L L%2=0∧iU L L<2^256∧(2^256≤L+L→iU L L+c<b∧nU (iU L L+c) b=2*L+c - b∧b≤2*L+c)∧(¬ 2^256≤L+L→iU L L+c=2*L+c∧(b≤2*L+c→nU (iU L L+c) b=2*L+c - b)):=by
 unfold iU nU;simp only[Nat.reducePow]at *;omega
theorem a7b {O i:Nat} (hd:i/64<4):(uL O).set (i/64) (n64 (limb O (i/64) ||| 2^(i%64)))=uL (O ||| 2^i):=by
 have h : ∀ k,limb (O ||| 2^i) k=limb O k ||| (if k=i/64 then 2^(i%64)else 0):=fun k=>by rw[b6O,b6P]
 unfold uL;rw[h 0,h 1,h 2,h 3];rcases(show i/64=0∨i/64=1∨i/64=2∨i/64=3 by omega)with e | e | e | e <;> rw[e] <;> simp
theorem Qn {d:Nat} (h:d<64):2^d<2^64:=Nat.pow_lt_pow_right (by decide) h
theorem b7J {a b l:Nat} (h:a/2^l=0):jl a b l=0:=by unfold jl;rw[h];simp
theorem QF:uL 0=[.int .u64 0,.int .u64 0,.int .u64 0,.int .u64 0]:=by simp[uL,n64,Ea]
theorem b8Q {P:Program} {fn:Func} {p q u:Tmp} {ty:TypeId} (h:fn.results = #[.cell p ty,.cell q ty,.tmp u]) (tmps:Array Value) (w:World) (g k:Nat) (t t':TypeId) (cs ds:Array Value) (fr fr':Nat × Nat) (d:TypeDesc)
  (hp:tmps.getD p undef = .pointer (some ⟨g,0,none⟩)) (hg:w.heap[g]?=some (.cells cs t fr))
  (hq:tmps.getD q undef = .pointer (some ⟨k,0,none⟩)) (hk:w.heap[k]?=some (.cells ds t' fr'))
  (hu:P.underlying ty=some d) (hd:(match d with | .struct _ | .array _ _=>true | _=>false)=true) (hi:(P.info? ty).map (·.size)=some cs.size) (hj:(P.info? ty).map (·.size)=some ds.size) :
  (results fn tmps).run P w = .ok (.tuple #[.agg cs,.agg ds,tmps.getD u undef]) w:=by
 have l1:=run_loadVar_row (P:=P) w g t ty cs fr d hg hu hd hi;have l2:=run_loadVar_row (P:=P) w k t' ty ds fr' d hk hu hd hj;simp only[results,h];simp only[Array.getD_eq_getD_getElem?]at hp hq;simp[Sem.run_bind,Result.andThen,asAddr,hp,hq,l1,l2]
theorem b2Z (a b:Nat) (w:World) (ha:a<2^256) (hb:b<2^256) (hb0:0<b) :
  Calls prog 97 #[aO a,aO b] w fun e w'=>e = .returned (.tuple #[aO (a/b),aO (a%b),.bool true])∧Keep w w':=by
 have LN:Hid (∀ y,Calls prog 96 #[aO a] y fun e w'=>e = .returned (.int .i64 (dU a:Nat))∧Keep y w'):=hid fun y=>len_any a y ha;have hL:dU a≤256:=Gi ha;have hL0:a/2^dU a=0:=Nat.div_eq_of_lt (b6G a);have IG:=hid hL0;have AD:Hid (∀ N y,N<2^256→Calls prog 70 #[aO N,aO N] y fun e w'=>e = .returned (.tuple #[aO (iU N N),.bool (decide (2^256≤N+N))])∧Keep y w'):=hid fun N y h=>OG N N y h h;have xW:Hid (∀ N y,N<2^256→Calls prog 149 #[aO N,aO b] y fun e w'=>e = .returned (.tuple #[aO (nU N b),.bool (decide (N<b))])∧Keep y w'):=hid fun N y h=>b9Y N b y h hb;have Hm:Hid (∀ N y,N<2^256→Calls prog 60 #[aO N,aO b] y fun e w'=>e = .returned (.int .i64 (kF N b))∧Keep y w'):=hid fun N y h=>JO N b y h hb
 have HE:Hid (∀ W,(Go.binOp .eql 79 (aO b) u0).run prog W = .ok (.bool false) W):=hid fun W=>by
  have:=QG hb (Nat.two_pow_pos 256) W
  rw[xn,decide_eq_false (by omega)]at this;exact this
 have hgd:=MC;have HA:=hid ha;have tH:=hid hb;have HB0:=hid hb0
 have HQ:Hid (jl a b 0=a/b):=hid (b7K a b);have HM:Hid (a/2^0%b=a%b):=hid (by rw[Nat.pow_zero,Nat.div_one]);clear ha hb hb0 hL0;obtain⟨CZ,a2x⟩ : ∃ q,a/b=q:=⟨_,rfl⟩
 obtain⟨RR,hRR⟩ : ∃ q,a%b=q:=⟨_,rfl⟩
 rw[a2x]at HQ ⊢;rw[hRR]at HM ⊢;clear a2x hRR;generalize hl:dU a=l at *;clear hl;go_enter func97,ntmps97
 have he:=HE.out;go_upto_region 4 with fail
 clear he;obtain⟨w1,hw1⟩ : ∃ w1,w1=(((((w.alloc (.cells #[n64 (limb a 0),n64 (limb a 1),n64 (limb a 2),n64 (limb a 3)] 79)).alloc (.cells #[n64 (limb b 0),n64 (limb b 1),n64 (limb b 2),n64 (limb b 3)] 79)).alloc (.cells #[.int .u64 0,.int .u64 0,.int .u64 0,.int .u64 0] 79)).alloc (.cells #[.int .u64 0,.int .u64 0,.int .u64 0,.int .u64 0] 79)).alloc (.cells #[.int .u64 0,.int .u64 0,.int .u64 0,.int .u64 0] 79)).alloc (.cells #[.int .u64 0,.int .u64 0,.int .u64 0,.int .u64 0] 79):=⟨_,rfl⟩
 have EE:Hid (ae w1 w.heap.size 79 (uL a)):=by rw[hw1];exact(((((ae.new w 79 (uL a)).alloc _).alloc _).alloc _).alloc _).alloc _
 have Ym:Hid (ae w1 (w.heap.size+1) 79 (uL b)):=by
  rw[hw1];have h2:=ae.new (w.alloc (.cells #[n64 (limb a 0),n64 (limb a 1),n64 (limb a 2),n64 (limb a 3)] 79)) 79 (uL b);rw[World.size_alloc]at h2;exact((((h2.alloc _).alloc _).alloc _).alloc _)
 have YB:Hid (ae w1 (w.heap.size+1+1) 79 [.int .u64 0,.int .u64 0,.int .u64 0,.int .u64 0]):=by
  rw[hw1];have h2:=ae.new ((w.alloc (.cells #[n64 (limb a 0),n64 (limb a 1),n64 (limb a 2),n64 (limb a 3)] 79)).alloc (.cells #[n64 (limb b 0),n64 (limb b 1),n64 (limb b 2),n64 (limb b 3)] 79)) 79 [.int .u64 0,.int .u64 0,.int .u64 0,.int .u64 0];rw[World.size_alloc,World.size_alloc]at h2;exact(((h2.alloc _).alloc _).alloc _)
 have YG:Hid (ae w1 (w.heap.size+1+1+1) 79 [.int .u64 0,.int .u64 0,.int .u64 0,.int .u64 0]):=by
  rw[hw1];have h2:=ae.new (((w.alloc (.cells #[n64 (limb a 0),n64 (limb a 1),n64 (limb a 2),n64 (limb a 3)] 79)).alloc (.cells #[n64 (limb b 0),n64 (limb b 1),n64 (limb b 2),n64 (limb b 3)] 79)).alloc (.cells #[.int .u64 0,.int .u64 0,.int .u64 0,.int .u64 0] 79)) 79 [.int .u64 0,.int .u64 0,.int .u64 0,.int .u64 0];rw[World.size_alloc,World.size_alloc,World.size_alloc]at h2;exact((h2.alloc _).alloc _)
 have Yw:Hid (ae w1 (w.heap.size+1+1+1+1) 79 [.int .u64 0,.int .u64 0,.int .u64 0,.int .u64 0]):=by
  rw[hw1];have h2:=ae.new ((((w.alloc (.cells #[n64 (limb a 0),n64 (limb a 1),n64 (limb a 2),n64 (limb a 3)] 79)).alloc (.cells #[n64 (limb b 0),n64 (limb b 1),n64 (limb b 2),n64 (limb b 3)] 79)).alloc (.cells #[.int .u64 0,.int .u64 0,.int .u64 0,.int .u64 0] 79)).alloc (.cells #[.int .u64 0,.int .u64 0,.int .u64 0,.int .u64 0] 79)) 79 [.int .u64 0,.int .u64 0,.int .u64 0,.int .u64 0];rw[World.size_alloc,World.size_alloc,World.size_alloc,World.size_alloc]at h2;exact(h2.alloc _)
 have Yt:Hid (ae w1 (w.heap.size+1+1+1+1+1) 79 [.int .u64 0,.int .u64 0,.int .u64 0,.int .u64 0]):=by
  rw[hw1];have h2:=ae.new (((((w.alloc (.cells #[n64 (limb a 0),n64 (limb a 1),n64 (limb a 2),n64 (limb a 3)] 79)).alloc (.cells #[n64 (limb b 0),n64 (limb b 1),n64 (limb b 2),n64 (limb b 3)] 79)).alloc (.cells #[.int .u64 0,.int .u64 0,.int .u64 0,.int .u64 0] 79)).alloc (.cells #[.int .u64 0,.int .u64 0,.int .u64 0,.int .u64 0] 79)).alloc (.cells #[.int .u64 0,.int .u64 0,.int .u64 0,.int .u64 0] 79)) 79 [.int .u64 0,.int .u64 0,.int .u64 0,.int .u64 0];rw[World.size_alloc,World.size_alloc,World.size_alloc,World.size_alloc,World.size_alloc]at h2;exact h2
 have ai:Hid (Keep w w1):=by rw[hw1];exact af (af (af (af (af (aB _ _) (aB _ _)) (aB _ _)) (aB _ _)) (aB _ _)) (aB _ _)
 rw[←hw1];clear hw1;have a0:=EE.out.cell 0;have a1:=EE.out.cell 1;have a2:=EE.out.cell 2;have a3:=EE.out.cell 3
 simp only[uL,List.getElem?_cons_zero,List.getElem?_cons_succ]at a0 a1 a2 a3;go_wp2_with fail
 refine(LN.out _).mono ?_;clear LN a0 a1 a2 a3;rintro e w2 ⟨rfl,k2⟩;have Yj:=hid (EE.out.keep k2);have Yn:=hid (Ym.out.keep k2);have YC:=hid (YB.out.keep k2);have YH:=hid (YG.out.keep k2);have Yx:=hid (Yw.out.keep k2);have Yu:=hid (Yt.out.keep k2);have ay:=hid (af ai.out k2);clear k2 EE Ym YB YG Yw Yt ai;go_wp2_with fail
 go_loopw [9] (fun i wr => ∃ j:Nat,j≤256∧i = .int .i64 ((j:Int) - 1)∧Hid (ae wr (w.heap.size) 79 (uL a))∧Hid (ae wr (w.heap.size+1) 79 (uL b))∧Hid (ae wr (w.heap.size+1+1) 79 [.int .u64 0,.int .u64 0,.int .u64 0,.int .u64 0])∧Hid (ae wr (w.heap.size+1+1+1) 79 [.int .u64 0,.int .u64 0,.int .u64 0,.int .u64 0])∧Hid (ae wr (w.heap.size+1+1+1+1) 79 (uL (jl a b j)))∧Hid (ae wr (w.heap.size+1+1+1+1+1) 79 (uL (a/2^j%b)))∧Hid (Keep w wr)) (fun i _=>(intOf i+1).toNat)
 case atStart=>exact⟨l,hL,by go_num,Yj,Yn,YC,YH,hid (by rw[b7J IG.out,QF];exact Yx.out),hid (by rw[IG.out,Nat.zero_mod,QF];exact Yu.out),ay⟩
 case round =>
  obtain⟨j,hj,rfl,Q7,Rh,Nq,Ns,Ac,rX,aA⟩:=hrel;by_cases h0:j=0
  ·subst h0
   have hQ:=HQ.out;have hM:=HM.out
   rw[hQ]at Ac;rw[hM]at rX;have d0 : ¬ (0:Int)≤((0:Nat):Int) - 1:=by omega
   clear hQ hM HQ HM AD xW Hm Yj Yn YC YH Yx Yu ay Q7 Rh;have o0:=Ac.out.cell 0;have o1:=Ac.out.cell 1;have o2:=Ac.out.cell 2;have o3:=Ac.out.cell 3
   have l0:=rX.out.cell 0;have l1:=rX.out.cell 1;have l2:=rX.out.cell 2;have l3:=rX.out.cell 3
   simp only[uL,List.getElem?_cons_zero,List.getElem?_cons_succ]at o0 o1 o2 o3 l0 l1 l2 l3;go_upto_region 13 with fail
   letI jc:G.Mk:=⟨some (w.heap.size+1+1)⟩
   refine G.bu (.take [0,1] (.force [2] .done)) [3,4] (by kernel_rfl) (by kernel_rfl) (fun w9 k9=>?_);have wK:G.Mk.m≠some (w.heap.size+1+1+1+1):=fun e=>by have e2:w.heap.size+1+1=w.heap.size+1+1+1+1:=Option.some.inj e;omega
   have KC:G.Mk.m≠some (w.heap.size+1+1+1+1+1):=fun e=>by have e2:w.heap.size+1+1=w.heap.size+1+1+1+1+1:=Option.some.inj e;omega
   have b0:=G.ja (aC k9 o0) wK;have b1:=G.ja (aC k9 o1) wK;have b2:=G.ja (aC k9 o2) wK;have b3:=G.ja (aC k9 o3) wK
   have c0:=G.ja (aC k9 l0) KC;have c1:=G.ja (aC k9 l1) KC;have c2:=G.ja (aC k9 l2) KC;have c3:=G.ja (aC k9 l3) KC
   have bP:=hid (af aA.out k9);have iy:=hid (Nq.out.keep k9);have Cm:=hid (Ns.out.keep k9)
   clear o0 o1 o2 o3 l0 l1 l2 l3 aA k9 Ac rX Nq Ns;refine G.aN w9 (G.Gr.refl _) ?_;simp only[au,ax,ak,aj];repeat(go_big_quiet_step (fail))
   refine wpQuiet_nil (G.bI ?_);simp only[au,ax,ak,aj];refine G.aI rfl (fun K hK=>?_);have r0:=iy.out.cell 0;have r1:=iy.out.cell 1;have r2:=iy.out.cell 2;have r3:=iy.out.cell 3
   have f0:=iy.out.frozen 0;have f1:=iy.out.frozen 1;have f2:=iy.out.frozen 2;have f3:=iy.out.frozen 3
   simp only[List.getElem?_cons_zero,List.getElem?_cons_succ]at r0 r1 r2 r3;go_simp;refine hK _ _ (show G.Gr w9 _ from eH (eH (eH (eH (iH w9 _))))) ?_;clear hK K r0 r1 r2 r3 f0 f1 f2 f3 b0 b1 b2 b3 c0 c1 c2 c3;refine G.aS (G.aT ?_);clear wK KC;clear jc;obtain⟨wa,nY⟩ : ∃ wa,wa=((((w9.setCell ⟨w.heap.size+1+1,0,none⟩ (n64 (limb CZ 0))).setCell ⟨w.heap.size+1+1,1,none⟩ (n64 (limb CZ 1))).setCell ⟨w.heap.size+1+1,2,none⟩ (n64 (limb CZ 2))).setCell ⟨w.heap.size+1+1,3,none⟩ (n64 (limb CZ 3))):=⟨_,rfl⟩
   have oM:Hid (ae wa (w.heap.size+1+1) 79 (uL CZ)):=by rw[nY];exact hid ((((iy.out.az 0 _).az 1 _).az 2 _).az 3 _)
   have xN:Hid (ae wa (w.heap.size+1+1+1) 79 [.int .u64 0,.int .u64 0,.int .u64 0,.int .u64 0]):=by rw[nY];exact hid ((((Cm.out.far (by simp <;> omega) _).far (by simp <;> omega) _).far (by simp <;> omega) _).far (by simp <;> omega) _)
   have fV:Hid (Keep w wa):=by
    rw[nY];refine hid ?_;iterate 4 (refine Below.setCell ?_ (by simp <;> omega) _)
    exact bP.out
   rw[←nY];clear nY iy Cm bP;have r0:=xN.out.cell 0;have r1:=xN.out.cell 1;have r2:=xN.out.cell 2;have r3:=xN.out.cell 3
   have f0:=xN.out.frozen 0;have f1:=xN.out.frozen 1;have f2:=xN.out.frozen 2;have f3:=xN.out.frozen 3
   simp only[List.getElem?_cons_zero,List.getElem?_cons_succ]at r0 r1 r2 r3;have hb8:=(((xN.out.az 0 (n64 (limb RR 0))).az 1 (n64 (limb RR 1))).az 2 (n64 (limb RR 2))).az 3 (n64 (limb RR 3));have I7:Hid (ae ((((wa.setCell ⟨w.heap.size+1+1+1,0,none⟩ (n64 (limb RR 0))).setCell ⟨w.heap.size+1+1+1,1,none⟩ (n64 (limb RR 1))).setCell ⟨w.heap.size+1+1+1,2,none⟩ (n64 (limb RR 2))).setCell ⟨w.heap.size+1+1+1,3,none⟩ (n64 (limb RR 3))) (w.heap.size+1+1) 79 (uL CZ)):=hid ((((oM.out.far (by simp) _).far (by simp) _).far (by simp) _).far (by simp) _)
   have bK:Hid (Keep w ((((wa.setCell ⟨w.heap.size+1+1+1,0,none⟩ (n64 (limb RR 0))).setCell ⟨w.heap.size+1+1+1,1,none⟩ (n64 (limb RR 1))).setCell ⟨w.heap.size+1+1+1,2,none⟩ (n64 (limb RR 2))).setCell ⟨w.heap.size+1+1+1,3,none⟩ (n64 (limb RR 3)))):=by
    refine hid ?_;iterate 4 (refine Below.setCell ?_ (by simp <;> omega) _)
    exact fV.out
   have aY:=hid hb8;clear hb8 xN oM fV;go_wp2
   exact bodyPost_ret (v:=.tuple #[aO CZ,aO RR,.bool true]) (b8Q results97 _ _ (w.heap.size+1+1) (w.heap.size+1+1+1) _ _ _ _ _ _ _ rfl I7.out rfl aY.out underlying79 rfl (by kernel_rfl) (by kernel_rfl)) rfl ⟨rfl,bK.out⟩
  ·obtain⟨j,rfl⟩ : ∃ j',j=j'+1:=⟨j - 1,by omega⟩
   have hlt:=Nat.mod_lt (a/2^(j+1)) HB0.out;obtain⟨b21,OY,OZ⟩:=b2Y (a:=a) (i:=j) HB0.out;have LIMB:=b6M a j;obtain⟨L,Pm⟩ : ∃ L,a/2^(j+1)%b=L:=⟨_,rfl⟩
   rw[Pm]at hlt OY OZ rX;obtain⟨c,hce⟩ : ∃ c,a/2^j%2=c:=⟨_,rfl⟩
   rw[hce]at OY OZ LIMB;have hc2:c<2:=by rw[←hce];exact Nat.mod_lt _ (by decide)
   obtain⟨Wj,Wl,ls3,Wn⟩:=left_step hlt tH.out hc2;have hb256:=tH.out;have a8S:Hid (L<2^256):=hid (by omega);obtain⟨E,hE⟩ : ∃ E,iU L L=E:=⟨_,rfl⟩
   rw[hE]at Wj Wl ls3 Wn;obtain⟨a1K,UY,UZ,U0,U1,a1L⟩:=b3s Wj Wl hc2;have MV:=AD.out L;rw[hE]at MV;obtain⟨ov,hov⟩ : ∃ ov,decide (2^256≤L+L)=ov:=⟨_,rfl⟩
   rw[hov]at MV;have Cc:=hid hov;clear hov;have XQ:Hid (∀ y,Calls prog 70 #[aO L,aO L] y fun e w'=>e = .returned (.tuple #[aO E,.bool ov])∧Keep y w'):=hid fun y=>MV y a8S.out;have HD2:=hid OY;have HD3:=hid OZ;have EZ:=hid ls3;have Cj:=hid Wn
   have HF:Hid (E+c<2^256):=hid a1K;have d0:(0:Int)≤((j+1:Nat):Int) - 1:=by omega
   clear b21 OY OZ Wj Wl ls3 Wn a1K MV hb256 hlt hE Pm hce AD;have l0:=rX.out.cell 0;have l1:=rX.out.cell 1;have l2:=rX.out.cell 2;have l3:=rX.out.cell 3
   simp only[uL,List.getElem?_cons_zero,List.getElem?_cons_succ]at l0 l1 l2 l3;go_wp2_with fail
   refine(XQ.out _).mono ?_;clear XQ l0 l1 l2 l3;rintro e w4 ⟨rfl,k4⟩;have Yk:=hid (Q7.out.keep k4);have Yo:=hid (Rh.out.keep k4);have YD:=hid (Nq.out.keep k4);have YI:=hid (Ns.out.keep k4);have Yy:=hid (Ac.out.keep k4);have xE:=hid (rX.out.keep k4);have aQ:=hid (af aA.out k4);clear k4 Q7 Rh Nq Ns Ac rX aA;have r0:=xE.out.cell 0;have r1:=xE.out.cell 1;have r2:=xE.out.cell 2;have r3:=xE.out.cell 3
   simp only[uL,List.getElem?_cons_zero,List.getElem?_cons_succ]at r0 r1 r2 r3;have f0:=xE.out.frozen 0;have f1:=xE.out.frozen 1;have f2:=xE.out.frozen 2;have f3:=xE.out.frozen 3
   go_upto_region 9 with fail
   obtain⟨w5,hw5⟩ : ∃ w5,w5=((((w4.setCell ⟨w.heap.size+1+1+1+1+1,0,none⟩ (n64 (limb E 0))).setCell ⟨w.heap.size+1+1+1+1+1,1,none⟩ (n64 (limb E 1))).setCell ⟨w.heap.size+1+1+1+1+1,2,none⟩ (n64 (limb E 2))).setCell ⟨w.heap.size+1+1+1+1+1,3,none⟩ (n64 (limb E 3))):=⟨_,rfl⟩
   have Yl:Hid (ae w5 (w.heap.size) 79 (uL a)):=by rw[hw5];exact hid ((((Yk.out.far (by simp <;> omega) _).far (by simp <;> omega) _).far (by simp <;> omega) _).far (by simp <;> omega) _)
   have Yp:Hid (ae w5 (w.heap.size+1) 79 (uL b)):=by rw[hw5];exact hid ((((Yo.out.far (by simp <;> omega) _).far (by simp <;> omega) _).far (by simp <;> omega) _).far (by simp <;> omega) _)
   have YE:Hid (ae w5 (w.heap.size+1+1) 79 [.int .u64 0,.int .u64 0,.int .u64 0,.int .u64 0]):=by rw[hw5];exact hid ((((YD.out.far (by simp <;> omega) _).far (by simp <;> omega) _).far (by simp <;> omega) _).far (by simp <;> omega) _)
   have YJ:Hid (ae w5 (w.heap.size+1+1+1) 79 [.int .u64 0,.int .u64 0,.int .u64 0,.int .u64 0]):=by rw[hw5];exact hid ((((YI.out.far (by simp <;> omega) _).far (by simp <;> omega) _).far (by simp <;> omega) _).far (by simp <;> omega) _)
   have Yz:Hid (ae w5 (w.heap.size+1+1+1+1) 79 (uL (jl a b (j+1)))):=by rw[hw5];exact hid ((((Yy.out.far (by simp <;> omega) _).far (by simp <;> omega) _).far (by simp <;> omega) _).far (by simp <;> omega) _)
   have Yv:Hid (ae w5 (w.heap.size+1+1+1+1+1) 79 (uL E)):=by rw[hw5];exact hid ((((xE.out.az 0 _).az 1 _).az 2 _).az 3 _)
   have aJ:Hid (Keep w w5):=by
    rw[hw5];refine hid ?_;iterate 4 (refine Below.setCell ?_ (by simp <;> omega) _)
    exact aQ.out
   rw[←hw5];clear hw5 r0 r1 r2 r3 f0 f1 f2 f3 Yk Yo YD YI Yy xE aQ;have hq1:Int.tdiv (((j+1:Nat):Int) - 1) 64=((j/64:Nat):Int):=by rw[Int.tdiv_eq_ediv_of_nonneg (by omega)];omega
   have hd1:Int.tmod (((j+1:Nat):Int) - 1) 64=((j%64:Nat):Int):=by rw[Int.tmod_eq_emod_of_nonneg (by omega)];omega
   have hq4:j/64<4:=by omega
   have DL:j%64<64:=by omega
   obtain⟨q,hq⟩ : ∃ q,j/64=q:=⟨_,rfl⟩
   obtain⟨d,hd⟩ : ∃ d,j%64=d:=⟨_,rfl⟩
   rw[hq]at hq1 hq4 LIMB;rw[hd]at hd1 DL LIMB;have hsh:((limb a q:Nat):Int)/2^d=((limb a q/2^d:Nat):Int):=by rw[Int.natCast_ediv];rfl
   have hand:bits .and .u64 (((limb a q:Nat):Int)/2^d) 1=(c:Int):=by rw[hsh,u64_and1 _ (Nat.lt_of_le_of_lt (Nat.div_le_self _ _) (gX _ _)),LIMB]
   have hor:bits .or .u64 ((limb E 0:Nat):Int) (c:Int)=((limb (E+c) 0:Nat):Int):=by
    rw[bits_or_u64_nat _ _ (gX _ _) (by omega),or_one a1L hc2,UY]
   have hj1:((j+1:Nat):Int) - 1=(j:Int):=by omega
   clear hsh LIMB;obtain⟨F,hF⟩ : ∃ F,E+c=F:=⟨_,rfl⟩
   rw[hF]at HF EZ Cj UY UZ U0 U1 hor;have ZH:Hid ((uL E).set 0 (n64 (limb F 0))=uL F):=hid (by unfold uL;rw[UZ,U0,U1];rfl);clear UY UZ U0 U1 a1L hF;go_upto_region 9 with fail
   refine bu (.take [0,1,2,3,4,5,6,7,8,9,10,11] .done) [12] (by kernel_rfl) (by kernel_rfl) (fun w6 k6=>?_);have Q8:=hid (Yl.out.keep k6);have Yq:=hid (Yp.out.keep k6);have YF:=hid (YE.out.keep k6);have YK:=hid (YJ.out.keep k6);have YA:=hid (Yz.out.keep k6);have Hu:=hid (Yv.out.keep k6);have bD:=hid (af aJ.out k6);clear k6 Yl Yp YE YJ Yz Yv aJ;have l0:=aF (Hu.out.cell 0);have a0:=aF (show w6.cell? ⟨w.heap.size,q,none⟩=some (n64 (limb a q)) by rw[Q8.out.cell,oG a q hq4]);refine aN w6 (Below.refl _ _) ?_;simp only[au,ax,ak,aj];repeat(go_big_quiet_step (fail))
   refine wpQuiet_nil (aT ?_);clear l0 a0 hand;have l0:=Hu.out.cell 0;have f0:=Hu.out.frozen 0
   have b6p:w6.cell? ⟨w.heap.size+1+1+1+1+1,0,none⟩=some (n64 (limb E 0)):=l0;go_upto_region 10 with fail
   obtain⟨w7,hw7⟩ : ∃ w7,w7=w6.setCell ⟨w.heap.size+1+1+1+1+1,0,none⟩ (n64 (limb F 0)):=⟨_,rfl⟩
   have tu:Hid (ae w7 (w.heap.size+1+1+1+1+1) 79 (uL F)):=by
    rw[hw7];have h1:=Hu.out.az 0 (n64 (limb F 0));rw[ZH.out]at h1;exact h1
   have bT:Hid (Keep w w7):=by rw[hw7];exact hid (Below.setCell bD.out (by simp <;> omega) _)
   have Nl:Hid (ae w7 (w.heap.size) 79 (uL a)):=by rw[hw7];exact hid (Q8.out.far (by simp <;> omega) _)
   have tq:Hid (ae w7 (w.heap.size+1) 79 (uL b)):=by rw[hw7];exact hid (Yq.out.far (by simp <;> omega) _)
   have Nr:Hid (ae w7 (w.heap.size+1+1) 79 [.int .u64 0,.int .u64 0,.int .u64 0,.int .u64 0]):=by rw[hw7];exact hid (YF.out.far (by simp <;> omega) _)
   have Nu:Hid (ae w7 (w.heap.size+1+1+1) 79 [.int .u64 0,.int .u64 0,.int .u64 0,.int .u64 0]):=by rw[hw7];exact hid (YK.out.far (by simp <;> omega) _)
   have Np:Hid (ae w7 (w.heap.size+1+1+1+1) 79 (uL (jl a b (j+1)))):=by rw[hw7];exact hid (YA.out.far (by simp <;> omega) _)
   rw[←hw7];clear hw7 l0 b6p f0 Q8 Yq YF YK YA Hu bD ZH hor
   cases ov with
   | true =>
     have hov:2^256≤L+L:=of_decide_eq_true Cc.out;obtain⟨z1,z2,z3⟩:=EZ.out hov;obtain⟨t1,t2⟩:=HD2.out z3;obtain⟨R2,hR2⟩ : ∃ R2,nU F b=R2:=⟨_,rfl⟩
     have HR2:=hid hR2;have I8:Hid (a/2^j%b=R2):=hid (by rw[t1,←z2,hR2]);have IZ:=hid t2;clear hov z1 z2 z3 t1 t2 hR2 EZ Cj HD2 HD3;have l0:=tu.out.cell 0;have l1:=tu.out.cell 1;have l2:=tu.out.cell 2;have l3:=tu.out.cell 3
     simp only[uL,List.getElem?_cons_zero,List.getElem?_cons_succ]at l0 l1 l2 l3;have b0:=tq.out.cell 0;have b1:=tq.out.cell 1;have b2:=tq.out.cell 2;have b3:=tq.out.cell 3
     simp only[uL,List.getElem?_cons_zero,List.getElem?_cons_succ]at b0 b1 b2 b3
     have JG:Hid (∀ y,Calls prog 149 #[aO F,aO b] y fun e w'=>e = .returned (.tuple #[aO R2,.bool (decide (F<b))])∧Keep y w'):=hid fun y=>by
      have q:=xW.out F y HF.out;rw[HR2.out]at q;exact q
     go_wp2_with fail
     refine(JG.out _).mono ?_;clear JG l0 l1 l2 l3 b0 b1 b2 b3;rintro e wa ⟨rfl,ka⟩;have Ho:=hid (Nl.out.keep ka);have Hr:=hid (tq.out.keep ka);have H5:=hid (Nr.out.keep ka);have H7:=hid (Nu.out.keep ka);have Hz:=hid (Np.out.keep ka);have lD:=hid (tu.out.keep ka);have fV:=hid (af bT.out ka);clear ka Nl tq Nr Nu Np tu bT;have r0:=lD.out.cell 0;have r1:=lD.out.cell 1;have r2:=lD.out.cell 2;have r3:=lD.out.cell 3
     simp only[uL,List.getElem?_cons_zero,List.getElem?_cons_succ]at r0 r1 r2 r3;have f0:=lD.out.frozen 0;have f1:=lD.out.frozen 1;have f2:=lD.out.frozen 2;have f3:=lD.out.frozen 3
     go_upto_region 12 with fail
     obtain⟨wb,hwb⟩ : ∃ wb,wb=((((wa.setCell ⟨w.heap.size+1+1+1+1+1,0,none⟩ (n64 (limb R2 0))).setCell ⟨w.heap.size+1+1+1+1+1,1,none⟩ (n64 (limb R2 1))).setCell ⟨w.heap.size+1+1+1+1+1,2,none⟩ (n64 (limb R2 2))).setCell ⟨w.heap.size+1+1+1+1+1,3,none⟩ (n64 (limb R2 3))):=⟨_,rfl⟩
     have Hq:Hid (ae wb (w.heap.size) 79 (uL a)):=by rw[hwb];exact hid ((((Ho.out.far (by simp <;> omega) _).far (by simp <;> omega) _).far (by simp <;> omega) _).far (by simp <;> omega) _)
     have Ht:Hid (ae wb (w.heap.size+1) 79 (uL b)):=by rw[hwb];exact hid ((((Hr.out.far (by simp <;> omega) _).far (by simp <;> omega) _).far (by simp <;> omega) _).far (by simp <;> omega) _)
     have H6:Hid (ae wb (w.heap.size+1+1) 79 [.int .u64 0,.int .u64 0,.int .u64 0,.int .u64 0]):=by rw[hwb];exact hid ((((H5.out.far (by simp <;> omega) _).far (by simp <;> omega) _).far (by simp <;> omega) _).far (by simp <;> omega) _)
     have H8:Hid (ae wb (w.heap.size+1+1+1) 79 [.int .u64 0,.int .u64 0,.int .u64 0,.int .u64 0]):=by rw[hwb];exact hid ((((H7.out.far (by simp <;> omega) _).far (by simp <;> omega) _).far (by simp <;> omega) _).far (by simp <;> omega) _)
     have HY:Hid (ae wb (w.heap.size+1+1+1+1) 79 (uL (jl a b (j+1)))):=by rw[hwb];exact hid ((((Hz.out.far (by simp <;> omega) _).far (by simp <;> omega) _).far (by simp <;> omega) _).far (by simp <;> omega) _)
     have Hw:Hid (ae wb (w.heap.size+1+1+1+1+1) 79 (uL R2)):=by rw[hwb];exact hid ((((lD.out.az 0 _).az 1 _).az 2 _).az 3 _)
     have lW:Hid (Keep w wb):=by
      rw[hwb];refine hid ?_;iterate 4 (refine Below.setCell ?_ (by simp <;> omega) _)
      exact fV.out
     rw[←hwb];clear hwb r0 r1 r2 r3 f0 f1 f2 f3 Ho Hr H5 H7 Hz lD fV;have hpi:((2:Int)^d)=((2^d:Nat):Int):=by rw[Int.natCast_pow];rfl
     have hpw:IntKind.u64.wrap ((2:Int)^d)=(2:Int)^d:=by
      have h1:(2:Nat)^d<18446744073709551616:=Qn DL;rw[hpi];generalize (2:Nat)^d=P at *;rw[IntKind.wrap_u64];omega
     obtain⟨X,hX⟩ : ∃ X,limb (jl a b (j+1)) q ||| 2^d=X:=⟨_,rfl⟩
     have hor:bits .or .u64 ((limb (jl a b (j+1)) q:Nat):Int) ((2:Int)^d)=(X:Int):=by rw[hpi,bits_or_u64_nat _ _ (gX _ _) (Qn DL),hX]
     have SX:Hid ((uL (jl a b (j+1))).set q (n64 X)=uL (jl a b (j+1) ||| 2^j)):=hid (by rw[←hX,←hq,←hd];exact a7b (by rw[hq];exact hq4));clear hX hpi;refine bu (.take [0,1,2,3,4,5,6,7,8] .done) [9] (by kernel_rfl) (by kernel_rfl) (fun wc kc=>?_);have Rf:=hid (Hq.out.keep kc);have Ri:=hid (Ht.out.keep kc);have Rt:=hid (H6.out.keep kc);have Rw:=hid (H8.out.keep kc);have yG:=hid (HY.out.keep kc);have Rl:=hid (Hw.out.keep kc);have gK:=hid (af lW.out kc);clear kc Hq Ht H6 H8 HY Hw lW;have o0:=aF (show wc.cell? ⟨w.heap.size+1+1+1+1,q,none⟩=some (n64 (limb (jl a b (j+1)) q)) by rw[yG.out.cell,oG _ q hq4]);refine aN wc (Below.refl _ _) ?_;simp only[au,ax,ak,aj];repeat(go_big_quiet_step (fail))
     refine wpQuiet_nil (aT ?_);clear o0;have o0:wc.cell? ⟨w.heap.size+1+1+1+1,q,none⟩=some (n64 (limb (jl a b (j+1)) q)):=by rw[yG.out.cell,oG _ q hq4]
     have fo:=yG.out.frozen q;go_wp2
     go_roundw
     case rel =>
      refine⟨j,by omega,by go_num,hid (Rf.out.far (by simp <;> omega) _),hid (Ri.out.far (by simp <;> omega) _),hid (Rt.out.far (by simp <;> omega) _),hid (Rw.out.far (by simp <;> omega) _),hid ?_,hid ?_,hid (Below.setCell gK.out (by simp <;> omega) _)⟩
      ·have h1:=yG.out.az q (n64 X)
       rw[SX.out,←a5m IZ.out]at h1;exact h1
      ·rw[I8.out];exact Rl.out.far (by simp <;> omega) _
     case measure=>simp[intOf] <;> omega
   | false =>
     have hov : ¬ 2^256≤L+L:=of_decide_eq_false Cc.out;obtain⟨z1,z2⟩:=Cj.out hov;have X5:Hid (∀ y,Calls prog 60 #[aO F,aO b] y fun e w'=>e = .returned (.int .i64 (kF F b))∧Keep y w'):=hid fun y=>Hm.out F y HF.out
     have HCM:Hid (∀ x,kF F b=x→(b≤F→0≤x)∧(F<b→x = -1)):=hid fun x e=>by
      subst e;unfold kF;constructor <;> intro h <;> (repeat split) <;> omega
     replace HCM:=hid (HCM.out _ rfl);have Z1:=hid z1;have Z2:=hid z2
     clear hov z1 z2 EZ Cj;generalize kF F b=cm at *;have l0:=tu.out.cell 0;have l1:=tu.out.cell 1;have l2:=tu.out.cell 2;have l3:=tu.out.cell 3
     simp only[uL,List.getElem?_cons_zero,List.getElem?_cons_succ]at l0 l1 l2 l3;have b0:=tq.out.cell 0;have b1:=tq.out.cell 1;have b2:=tq.out.cell 2;have b3:=tq.out.cell 3
     simp only[uL,List.getElem?_cons_zero,List.getElem?_cons_succ]at b0 b1 b2 b3;go_wp2_with fail
     refine(X5.out _).mono ?_;clear X5 l0 l1 l2 l3 b0 b1 b2 b3;rintro e w8 ⟨rfl,k8⟩;have Q9:=hid (Nl.out.keep k8);have BI:=hid (tq.out.keep k8);have Rq:=hid (Nr.out.keep k8);have Ru:=hid (Nu.out.keep k8);have Ro:=hid (Np.out.keep k8);have BJ:=hid (tu.out.keep k8);have bK:=hid (af bT.out k8);clear k8 Nl tq Nr Nu Np tu bT;by_cases hge:b≤F
     ·have hcm:=HCM.out.1 hge
      have hcm2 : ¬ cm<0:=by omega
      have z:=Z1.out;obtain⟨t1,t2⟩:=HD2.out (by omega);have y:=Z2.out (by omega);obtain⟨R2,hR2⟩ : ∃ R2,nU F b=R2:=⟨_,rfl⟩
      have HR2:=hid hR2;have I8:Hid (a/2^j%b=R2):=hid (by rw[t1,←y,hR2]);have IZ:=hid t2;clear z t1 t2 y hR2 HCM Z1 Z2 HD2 HD3 hge;have l0:=BJ.out.cell 0;have l1:=BJ.out.cell 1;have l2:=BJ.out.cell 2;have l3:=BJ.out.cell 3
      simp only[uL,List.getElem?_cons_zero,List.getElem?_cons_succ]at l0 l1 l2 l3;have b0:=BI.out.cell 0;have b1:=BI.out.cell 1;have b2:=BI.out.cell 2;have b3:=BI.out.cell 3
      simp only[uL,List.getElem?_cons_zero,List.getElem?_cons_succ]at b0 b1 b2 b3
      have JG:Hid (∀ y,Calls prog 149 #[aO F,aO b] y fun e w'=>e = .returned (.tuple #[aO R2,.bool (decide (F<b))])∧Keep y w'):=hid fun y=>by
       have q:=xW.out F y HF.out;rw[HR2.out]at q;exact q
      go_wp2_with fail
      refine(JG.out _).mono ?_;clear JG l0 l1 l2 l3 b0 b1 b2 b3;rintro e wa ⟨rfl,ka⟩;have Ho:=hid (Q9.out.keep ka);have Hr:=hid (BI.out.keep ka);have H5:=hid (Rq.out.keep ka);have H7:=hid (Ru.out.keep ka);have Hz:=hid (Ro.out.keep ka);have lD:=hid (BJ.out.keep ka);have fV:=hid (af bK.out ka);clear ka Q9 BI Rq Ru Ro BJ bK;have r0:=lD.out.cell 0;have r1:=lD.out.cell 1;have r2:=lD.out.cell 2;have r3:=lD.out.cell 3
      simp only[uL,List.getElem?_cons_zero,List.getElem?_cons_succ]at r0 r1 r2 r3;have f0:=lD.out.frozen 0;have f1:=lD.out.frozen 1;have f2:=lD.out.frozen 2;have f3:=lD.out.frozen 3
      go_upto_region 12 with fail
      obtain⟨wb,hwb⟩ : ∃ wb,wb=((((wa.setCell ⟨w.heap.size+1+1+1+1+1,0,none⟩ (n64 (limb R2 0))).setCell ⟨w.heap.size+1+1+1+1+1,1,none⟩ (n64 (limb R2 1))).setCell ⟨w.heap.size+1+1+1+1+1,2,none⟩ (n64 (limb R2 2))).setCell ⟨w.heap.size+1+1+1+1+1,3,none⟩ (n64 (limb R2 3))):=⟨_,rfl⟩
      have Hq:Hid (ae wb (w.heap.size) 79 (uL a)):=by rw[hwb];exact hid ((((Ho.out.far (by simp <;> omega) _).far (by simp <;> omega) _).far (by simp <;> omega) _).far (by simp <;> omega) _)
      have Ht:Hid (ae wb (w.heap.size+1) 79 (uL b)):=by rw[hwb];exact hid ((((Hr.out.far (by simp <;> omega) _).far (by simp <;> omega) _).far (by simp <;> omega) _).far (by simp <;> omega) _)
      have H6:Hid (ae wb (w.heap.size+1+1) 79 [.int .u64 0,.int .u64 0,.int .u64 0,.int .u64 0]):=by rw[hwb];exact hid ((((H5.out.far (by simp <;> omega) _).far (by simp <;> omega) _).far (by simp <;> omega) _).far (by simp <;> omega) _)
      have H8:Hid (ae wb (w.heap.size+1+1+1) 79 [.int .u64 0,.int .u64 0,.int .u64 0,.int .u64 0]):=by rw[hwb];exact hid ((((H7.out.far (by simp <;> omega) _).far (by simp <;> omega) _).far (by simp <;> omega) _).far (by simp <;> omega) _)
      have HY:Hid (ae wb (w.heap.size+1+1+1+1) 79 (uL (jl a b (j+1)))):=by rw[hwb];exact hid ((((Hz.out.far (by simp <;> omega) _).far (by simp <;> omega) _).far (by simp <;> omega) _).far (by simp <;> omega) _)
      have Hw:Hid (ae wb (w.heap.size+1+1+1+1+1) 79 (uL R2)):=by rw[hwb];exact hid ((((lD.out.az 0 _).az 1 _).az 2 _).az 3 _)
      have lW:Hid (Keep w wb):=by
       rw[hwb];refine hid ?_;iterate 4 (refine Below.setCell ?_ (by simp <;> omega) _)
       exact fV.out
      rw[←hwb];clear hwb r0 r1 r2 r3 f0 f1 f2 f3 Ho Hr H5 H7 Hz lD fV;have hpi:((2:Int)^d)=((2^d:Nat):Int):=by rw[Int.natCast_pow];rfl
      have hpw:IntKind.u64.wrap ((2:Int)^d)=(2:Int)^d:=by
       have h1:(2:Nat)^d<18446744073709551616:=Qn DL;rw[hpi];generalize (2:Nat)^d=P at *;rw[IntKind.wrap_u64];omega
      obtain⟨X,hX⟩ : ∃ X,limb (jl a b (j+1)) q ||| 2^d=X:=⟨_,rfl⟩
      have hor:bits .or .u64 ((limb (jl a b (j+1)) q:Nat):Int) ((2:Int)^d)=(X:Int):=by rw[hpi,bits_or_u64_nat _ _ (gX _ _) (Qn DL),hX]
      have SX:Hid ((uL (jl a b (j+1))).set q (n64 X)=uL (jl a b (j+1) ||| 2^j)):=hid (by rw[←hX,←hq,←hd];exact a7b (by rw[hq];exact hq4));clear hX hpi;refine bu (.take [0,1,2,3,4,5,6,7,8] .done) [9] (by kernel_rfl) (by kernel_rfl) (fun wc kc=>?_);have Rf:=hid (Hq.out.keep kc);have Ri:=hid (Ht.out.keep kc);have Rt:=hid (H6.out.keep kc);have Rw:=hid (H8.out.keep kc);have yG:=hid (HY.out.keep kc);have Rl:=hid (Hw.out.keep kc);have gK:=hid (af lW.out kc);clear kc Hq Ht H6 H8 HY Hw lW;have o0:=aF (show wc.cell? ⟨w.heap.size+1+1+1+1,q,none⟩=some (n64 (limb (jl a b (j+1)) q)) by rw[yG.out.cell,oG _ q hq4]);refine aN wc (Below.refl _ _) ?_;simp only[au,ax,ak,aj];repeat(go_big_quiet_step (fail))
      refine wpQuiet_nil (aT ?_);clear o0;have o0:wc.cell? ⟨w.heap.size+1+1+1+1,q,none⟩=some (n64 (limb (jl a b (j+1)) q)):=by rw[yG.out.cell,oG _ q hq4]
      have fo:=yG.out.frozen q;go_wp2
      go_roundw
      case rel =>
       refine⟨j,by omega,by go_num,hid (Rf.out.far (by simp <;> omega) _),hid (Ri.out.far (by simp <;> omega) _),hid (Rt.out.far (by simp <;> omega) _),hid (Rw.out.far (by simp <;> omega) _),hid ?_,hid ?_,hid (Below.setCell gK.out (by simp <;> omega) _)⟩
       ·have h1:=yG.out.az q (n64 X)
        rw[SX.out,←a5m IZ.out]at h1;exact h1
       ·rw[I8.out];exact Rl.out.far (by simp <;> omega) _
      case measure=>simp[intOf] <;> omega
     ·have hcm:cm = -1:=HCM.out.2 (by omega)
      subst hcm;have z:=Z1.out;obtain⟨t1,t2⟩:=HD3.out (by omega);have I8:Hid (a/2^j%b=F):=hid (by rw[t1,z]);have IZ:=hid (b7I t2);clear z t1 t2 HCM Z1 Z2 HD2 HD3 hge;go_wp2
      go_roundw
      case rel=>exact⟨j,by omega,by go_num,Q9,BI,Rq,Ru,hid (by rw[IZ.out];exact Ro.out),hid (by rw[I8.out];exact BJ.out),bK⟩
      case measure=>simp[intOf] <;> omega
theorem GX {w:World} {g:Nat} {t:TypeId} {T:Nat} (h:ae w g t (uL T)):w.cell? ⟨g,0,none⟩=some (n64 (limb T 0))∧w.cell? ⟨g,1,none⟩=some (n64 (limb T 1))∧w.cell? ⟨g,2,none⟩=some (n64 (limb T 2))∧w.cell? ⟨g,3,none⟩=some (n64 (limb T 3)):=⟨h.cell 0,h.cell 1,h.cell 2,h.cell 3⟩
theorem Em {w:World} {g:Nat} {t:TypeId} {T:Nat} (h:ae w g t (uL T)):w.frozen? ⟨g,0,none⟩=false∧w.frozen? ⟨g,1,none⟩=false∧w.frozen? ⟨g,2,none⟩=false∧w.frozen? ⟨g,3,none⟩=false:=⟨h.frozen 0,h.frozen 1,h.frozen 2,h.frozen 3⟩
def Eg (w:World) (g N:Nat):World:=(((w.setCell ⟨g,0,none⟩ (n64 (limb N 0))).setCell ⟨g,1,none⟩ (n64 (limb N 1))).setCell ⟨g,2,none⟩ (n64 (limb N 2))).setCell ⟨g,3,none⟩ (n64 (limb N 3))
theorem qX {w:World} {g N:Nat}:w.grownBy (Eg w g N) (some g):=eH (eH (eH (eH (iH _ _))))
theorem GZ {w:World} {g:Nat} {t:TypeId} {T:Nat} (h:ae w g t (uL T)) (N:Nat):ae (Eg w g N) g t (uL N):=(((h.az 0 _).az 1 _).az 2 _).az 3 _
theorem GY {w:World} {g:Nat} {t:TypeId} (h:ae w g t (uL 0)):w.cell? ⟨g,0,none⟩=some (.int .u64 0)∧w.cell? ⟨g,1,none⟩=some (.int .u64 0)∧w.cell? ⟨g,2,none⟩=some (.int .u64 0)∧w.cell? ⟨g,3,none⟩=some (.int .u64 0):=by
 rw[QF]at h;exact⟨h.cell 0,h.cell 1,h.cell 2,h.cell 3⟩
theorem c0C (w:World) (g:Nat):(((w.setCell ⟨g,0,none⟩ (.int .u64 0)).setCell ⟨g,1,none⟩ (.int .u64 0)).setCell ⟨g,2,none⟩ (.int .u64 0)).setCell ⟨g,3,none⟩ (.int .u64 0)=Eg w g 0:=by
 unfold Eg;simp only[Ea,n64];rfl
theorem QH:uL 0 = #[.int .u64 0,.int .u64 0,.int .u64 0,.int .u64 0].toList:=QF
theorem c04 (x:UInt32) (w:World):Calls prog 69 #[ag x] w fun e w'=>e = .returned (aO (uS x))∧Keep w w':=by
 have Ya:Hid (∀ y,Calls prog 35 #[ag x] y fun e w'=>e = .returned (.tuple #[aO (bM x).1,.int .i64 (bM x).2])∧Keep y w'):=hid fun y=>FU x y;have HW:Hid (∀ r,uS x=r→r=if(bM x).2≠0 then 0 else(2^256 - 1 - (bM x).1)/((bM x).1+1)+1):=hid fun r e=>by subst e;rfl
 replace HW:=hid (HW.out _ rfl);have hT:=JS x;have Ce:=hid (Xz x);generalize uS x=R at *;generalize bM x=X at *;obtain⟨T,te⟩:=X;simp only at hT;have HT:=hid hT;have OF:Hid (∀ y,Calls prog 64 #[.int .u64 1] y fun e w'=>e = .returned (aO 1)∧Keep y w'):=hid fun y=>a5i 1 y (by decide);clear hT;go_enter func69,ntmps69
 go_upto_region 1 with fail
 obtain⟨w1,hw,HR,HK⟩:=l7 w 79 #[.int .u64 0,.int .u64 0,.int .u64 0,.int .u64 0];rw[←QH]at HR;rw[hw];clear hw;go_wp2_with fail
 refine(Ya.out _).mono ?_;clear Ya;rintro e w2 ⟨rfl,k⟩;replace HR:=hid (HR.out.keep k);replace HK:=hid (af HK.out k);clear k;go_upto_region 2 with fail
 obtain⟨gt,w3,hg,hw,hl,BT,k⟩:=oQ w2 79 #[n64 (limb T 0),n64 (limb T 1),n64 (limb T 2),n64 (limb T 3)];have hlt:=HR.out.lt;replace HR:=hid (HR.out.keep k);replace HK:=hid (af HK.out k);replace BT:Hid (ae w3 gt 79 (uL T)):=BT;simp only[hw,hg];clear k hw hg;by_cases hte:te≠0
 ·have hR:=HW.out
  rw[if_pos hte]at hR;subst hR;have hne:(te != 0)=true:=by simp[hte]
  obtain⟨r0,r1,r2,r3⟩:=GY HR.out;obtain⟨f0,f1,f2,f3⟩:=Em HR.out;have hp:=c0C w3 w.heap.size;clear HW OF HT BT;go_wp2
  exact bodyPost_ret (v:=u0) (results_cell_row results69 _ _ w.heap.size _ _ _ _ rfl (GZ HR.out 0) underlying79 rfl (by kernel_rfl)) rfl ⟨by rw[xn],HK.out.grown qX HK.out.size (fun q hq=>by cases hq;exact Nat.le_refl _)⟩
 obtain rfl:te=0:=by omega
 have hR:=HW.out;rw[if_neg (by simp)]at hR;replace HW:=hid hR;clear hR hte;have AD:Hid (∀ y,Calls prog 70 #[aO T,aO 1] y fun e w'=>e = .returned (.tuple #[aO (iU T 1),.bool (decide (2^256≤T+1))])∧Keep y w'):=hid fun y=>OG T 1 y HT.out (by decide);obtain⟨ov,hov⟩ : ∃ ov,decide (2^256≤T+1)=ov:=⟨_,rfl⟩
 obtain⟨NX,x9⟩ : ∃ NX,iU T 1=NX:=⟨_,rfl⟩
 rw[hov,x9]at AD;have Cc:=hid hov;have lI:=hid x9
 clear hov x9;go_upto_region 4 with fail
 go_cut [5,6] (fun s5 s6 wx => ∃ g,s5 = .pointer (some ⟨g,0,none⟩)∧s6 = .bool ov∧Hid (ae wx g 79 (uL NX))∧Hid (ae wx gt 79 (uL T))∧Hid (ae wx w.heap.size 79 (uL 0))∧Hid (Keep w wx))
 case first =>
  refine bu (.take [0] (.fork 1 (.fork 2 (.take [3,4,5] (.force [6] .done)) 6 (.force [2] (.take [3,4,5] .done))) 6 (.force [1,2] (.take [3,4,5] .done)))) [7,8] (by kernel_rfl) (by kernel_rfl) (fun y k=>?_);replace HR:=hid (HR.out.keep k);replace HK:=hid (af HK.out k);replace BT:=hid (BT.out.keep k);clear k
  apply a6M (F:=fun(y:World) (g:Nat)=>Hid (Keep w y)∧Hid (ae y gt 79 (uL T))∧Hid (ae y w.heap.size 79 (uL 0))∧Hid (ae y g 79 (uL 0))∧gt<g∧w.heap.size<g)
  ·intro AB
   repeat' first
    | ((with_reducible refine wR ?_);simp only[au,ax,ak,aj];obtain⟨t0,t1,t2,t3⟩:=GX BT.out;replace t0:=aF t0;replace t1:=aF t1;replace t2:=aF t2;replace t3:=aF t3;(repeat(go_big_quiet_step (fail)));clear t0 t1 t2 t3;refine wpQuiet_nil ?_)
    | ((with_reducible refine bI ?_);simp only[au,ax,ak,aj])
    | ((with_reducible refine ny ?_ ?_) <;> simp only[au,ax,ak,aj])
    | with_reducible refine aS ?_
    | (refine aI rfl (fun K hK=>?_);go_simp;(with_reducible first | refine(OF.out _).mono ?_ | refine(AD.out _).mono ?_);rintro e y ⟨rfl,k⟩;refine hK _ _ k ?_;clear hK K;replace HR:=hid (HR.out.keep k);replace HK:=hid (af HK.out k);replace BT:=hid (BT.out.keep k);try replace gz:=hid (gz.out.keep k);clear k)
    | (refine aI rfl (fun K hK=>?_);go_simp;refine hK _ _ (aB _ _) ?_;clear hK K;have d1:=HR.out.lt;have d2:=BT.out.lt;obtain⟨g,y,hg,hw,hl,gz,k⟩:=oQ y 79 #[.int .u64 0,.int .u64 0,.int .u64 0,.int .u64 0];rw[←QH]at gz;replace HR:=hid (HR.out.keep k);replace HK:=hid (af HK.out k);replace BT:=hid (BT.out.keep k);simp only[hw,hg];clear k hw hg)
   all_goals exact AB.out _ _ ⟨HK,BT,HR,gz,by omega,by omega⟩
  ·rintro y g ⟨HK,BT,HR,gz,d1,d2⟩
   refine aT ?_;obtain⟨r0,r1,r2,r3⟩:=GY gz.out;obtain⟨f0,f1,f2,f3⟩:=Em gz.out;go_wp2
   go_meet
   exact⟨g,rfl,rfl,hid (GZ gz.out NX),hid (BT.out.grown qX (by simp;omega)),hid (HR.out.grown qX (by simp;omega)),hid (HK.out.grown qX HK.out.size (fun q hq=>by cases hq;omega))⟩
 case rest =>
  obtain⟨gn,rfl,rfl,gz,BT,HR,HK⟩:=hcut
  rename World=>wq
  cases ov with
  | true =>
    have hov:=of_decide_eq_true Cc.out;have hT:=HT.out;have hR:=HW.out;have hTe:T+1=2^256:=by omega
    have hRe:R=1:=by
     rw[hR,show 2^256 - 1 - T=0 by omega,Nat.zero_div]
    subst hRe;clear hov hT hR hTe Cc lI HW HT AD gz BT;go_wp2_with fail
    refine(OF.out _).mono ?_;clear OF;rintro e w5 ⟨rfl,k⟩;replace HR:=hid (HR.out.keep k);replace HK:=hid (af HK.out k);clear k;obtain⟨r0,r1,r2,r3⟩:=GY HR.out;obtain⟨f0,f1,f2,f3⟩:=Em HR.out;go_wp2
    exact bodyPost_ret (v:=aO 1) (results_cell_row results69 _ _ w.heap.size _ _ _ _ rfl (GZ HR.out 1) underlying79 rfl (by kernel_rfl)) rfl ⟨rfl,HK.out.grown qX HK.out.size (fun q hq=>by cases hq;exact Nat.le_refl _)⟩
  | false =>
  have hov:=of_decide_eq_false Cc.out;have a2u:NX=T+1:=by rw[←lI.out];unfold iU;exact Nat.mod_eq_of_lt (by omega)
  have a2v:NX<2^256:=by omega
  have a0v:Hid (∀ y,Calls prog 98 #[aO T] y fun e w'=>e = .returned (aO (ou T))∧Keep y w'):=hid fun y=>b7A T y HT.out;have hNl:ou T<2^256:=by unfold ou;omega
  have dP:Hid (∀ y,Calls prog 97 #[aO (ou T),aO NX] y fun e w'=>e = .returned (.tuple #[aO (ou T/NX),aO (ou T%NX),.bool true])∧Keep y w'):=hid fun y=>b2Z _ NX y hNl a2v (by omega);have hR:=HW.out;have hQ:ou T/NX<2^256:=Nat.lt_of_le_of_lt (Nat.div_le_self _ _) hNl
  have hRs:iU (ou T/NX) 1=R:=by
   have h1:R=ou T/NX+1:=by rw[hR,a2u];rfl
   have h2:=Ce.out;unfold iU;rw[←h1];exact Nat.mod_eq_of_lt h2
  have A2:Hid (∀ y,Calls prog 70 #[aO (ou T/NX),aO 1] y fun e w' => ∃ b,e = .returned (.tuple #[aO R,.bool b])∧Keep y w'):=hid fun y=>(OG _ 1 y hQ (by decide)).mono fun e w' ⟨h1,h2⟩=>⟨decide (2^256≤ou T/NX+1),by rw[h1,hRs],h2⟩
  clear hov a2u a2v hNl hR hQ hRs Cc lI HW HT Ce AD;generalize ou T/NX=JF at *;generalize ou T%NX=FD at *;generalize ou T=c2w at *;go_upto_region 7 with fail
  go_cut [7,8,9] (fun s7 s8 s9 wx => ∃ g,s7 = .pointer (some ⟨g,0,none⟩)∧w.heap.size<g∧Hid (ae wx g 79 (uL JF))∧Hid (ae wx w.heap.size 79 (uL 0))∧Hid (Keep w wx))
  case first =>
   refine bu (.take [0,2] (.qc 1 (.qc 3 (.take [4,5,6,7] (.fork 8 (.force [9] .done) 9 (.force [8] .done))) 8 (.fork 3 (.take [4,5,6,7] (.force [9] .done)) 9 (.force [3] (.take [4,5,6,7] .done))) 9 (.fork 3 (.take [4,5,6,7] (.force [8] .done)) 8 (.force [3] (.take [4,5,6,7] .done)))) 8 (.fork 1 (.fork 3 (.take [4,5,6,7] (.force [9] .done)) 9 (.force [3] (.take [4,5,6,7] .done))) 9 (.force [1,3] (.take [4,5,6,7] .done))) 9 (.fork 1 (.fork 3 (.take [4,5,6,7] (.force [8] .done)) 8 (.force [3] (.take [4,5,6,7] .done))) 8 (.force [1,3] (.take [4,5,6,7] .done))))) [10,11,12] (by kernel_rfl) (by kernel_rfl) (fun y k=>?_);replace HR:=hid (HR.out.keep k);replace HK:=hid (af HK.out k);replace BT:=hid (BT.out.keep k);replace gz:=hid (gz.out.keep k);clear k
   apply tail3 (F:=fun(y:World) (a b:Nat)=>Hid (Keep w y)∧Hid (ae y w.heap.size 79 (uL 0))∧Hid (ae y a 79 (uL 0))∧Hid (ae y b 79 (uL 0))∧a≠b∧w.heap.size<a∧w.heap.size<b)
   ·intro AB
    repeat' first
     | ((with_reducible refine wR ?_);simp only[au,ax,ak,aj];obtain⟨t0,t1,t2,t3⟩:=GX BT.out;replace t0:=aF t0;replace t1:=aF t1;replace t2:=aF t2;replace t3:=aF t3;obtain⟨n0,n1,n2,n3⟩:=GX gz.out;replace n0:=aF n0;replace n1:=aF n1;replace n2:=aF n2;replace n3:=aF n3;(repeat(go_big_quiet_step (fail)));clear t0 t1 t2 t3 n0 n1 n2 n3;refine wpQuiet_nil ?_)
     | ((with_reducible refine bI ?_);simp only[au,ax,ak,aj])
     | (with_reducible first | refine ny ?_ ?_ | refine Wv ?_ ?_ ?_) <;> simp only[au,ax,ak,aj]
     | with_reducible refine aS ?_
     | (refine aI rfl (fun K hK=>?_);go_simp;(with_reducible first | refine(a0v.out _).mono ?_ | refine(dP.out _).mono ?_);rintro e y ⟨rfl,k⟩;refine hK _ _ k ?_;clear hK K;replace HR:=hid (HR.out.keep k);replace HK:=hid (af HK.out k);replace BT:=hid (BT.out.keep k);replace gz:=hid (gz.out.keep k);try replace B1:=hid (B1.out.keep k);try replace B2:=hid (B2.out.keep k);clear k)
     | (refine aI rfl (fun K hK=>?_);go_simp;refine hK _ _ (aB _ _) ?_;clear hK K;have d0:=HR.out.lt;(first | (have d1:=B1.out.lt;obtain⟨g2,y,hg,hw,hm,B2,k⟩:=oQ y 79 #[.int .u64 0,.int .u64 0,.int .u64 0,.int .u64 0];rw[←QH]at B2;replace B1:=hid (B1.out.keep k)) | (obtain⟨g1,y,hg,hw,hl,B1,k⟩:=oQ y 79 #[.int .u64 0,.int .u64 0,.int .u64 0,.int .u64 0];rw[←QH]at B1));replace HR:=hid (HR.out.keep k);replace HK:=hid (af HK.out k);replace BT:=hid (BT.out.keep k);replace gz:=hid (gz.out.keep k);simp only[hw,hg];clear k hw hg)
    all_goals first | exact AB.out _ g1 g2 ⟨HK,HR,B1,B2,by omega,by omega,by omega⟩ | exact AB.out _ g2 g1 ⟨HK,HR,B2,B1,by omega,by omega,by omega⟩
   ·rintro y g g' ⟨HK,HR,B1,B2,d0,d1,d2⟩
    refine aT ?_;obtain⟨r0,r1,r2,r3⟩:=GY B1.out;obtain⟨f0,f1,f2,f3⟩:=Em B1.out;have QX:=B2.out.grown (qX (N:=JF) (g:=g)) (by simp;omega);obtain⟨s0,s1,s2,s3⟩:=GY QX;obtain⟨e0,e1,e2,e3⟩:=Em QX;unfold Eg at s0 s1 s2 s3 e0 e1 e2 e3;clear QX;go_wp2
    go_meet
    exact⟨g,rfl,by omega,hid ((GZ B1.out JF).grown (qX (N:=FD)) (by simp;omega)),hid ((HR.out.grown (qX (N:=JF)) (by simp;omega)).grown (qX (N:=FD)) (by simp;omega)),hid ((HK.out.grown (qX (N:=JF)) HK.out.size (fun q hq=>by cases hq;omega)).grown (qX (N:=FD)) (Nat.le_trans HK.out.size qX.size) (fun q hq=>by cases hq;omega))⟩
  case rest =>
   obtain⟨g,rfl,hg,xB,HR,HK⟩:=hcut;clear a0v dP;go_upto_region 8 with fail
   refine bu (.take [0] (.force [1,2] (.take [3,4,5] .done))) [6] (by kernel_rfl) (by kernel_rfl) (fun y k=>?_);replace HR:=hid (HR.out.keep k);replace HK:=hid (af HK.out k);replace xB:=hid (xB.out.keep k);clear k
   repeat first
    | ((with_reducible refine wR ?_);simp only[au,ax,ak,aj];obtain⟨t0,t1,t2,t3⟩:=GX xB.out;replace t0:=aF t0;replace t1:=aF t1;replace t2:=aF t2;replace t3:=aF t3;(repeat(go_big_quiet_step (fail)));clear t0 t1 t2 t3;refine wpQuiet_nil ?_)
    | ((with_reducible refine bI ?_);simp only[au,ax,ak,aj])
    | with_reducible refine aS ?_
    | (refine aI rfl (fun K hK=>?_);go_simp;(first | ((with_reducible refine(OF.out _).mono ?_);rintro e y ⟨rfl,k⟩) | ((with_reducible refine(A2.out _).mono ?_);rintro e y ⟨bb,rfl,k⟩));refine hK _ _ k ?_;clear hK K;replace HR:=hid (HR.out.keep k);replace HK:=hid (af HK.out k);replace xB:=hid (xB.out.keep k);clear k)
   refine aT ?_;obtain⟨t0,t1,t2,t3⟩:=GX xB.out;obtain⟨f0,f1,f2,f3⟩:=Em xB.out;go_upto_region 9 with fail
   clear OF A2 t0 t1 t2 t3 f0 f1 f2 f3;replace HR:=hid (HR.out.grown (qX (N:=R) (g:=g)) (by simp;omega));replace HK:Hid (Keep w (Eg y g R)):=hid (HK.out.grown qX HK.out.size (fun q hq=>by cases hq;omega));replace xB:=hid (GZ xB.out R);obtain⟨t0,t1,t2,t3⟩:=GX xB.out;obtain⟨r0,r1,r2,r3⟩:=GY HR.out;obtain⟨f0,f1,f2,f3⟩:=Em HR.out;unfold Eg at t0 t1 t2 t3 r0 r1 r2 r3 f0 f1 f2 f3;go_wp2
   exact bodyPost_ret (v:=aO R) (results_cell_row results69 _ _ w.heap.size _ _ _ _ rfl (GZ HR.out R) underlying79 rfl (by kernel_rfl)) rfl ⟨rfl,HK.out.grown qX HK.out.size (fun q hq=>by cases hq;exact Nat.le_refl _)⟩
end Go.Proofs.YtiagcenlnekdeaaGreatDoor
