/- Texts merged by pack.py: Rs, Rn, Rm, Hm, Rp, Rq, Tm, Tb. -/
import Derived.Test.YtiagcenlnekdeaaGreatDoorCx23
import Derived.Test.YtiagcenlnekdeaaGreatDoorCx7
import Derived.Test.YtiagcenlnekdeaaGreatDoorCx6
import Derived.Test.YtiagcenlnekdeaaGreatDoorCx22
import Derived.Test.YtiagcenlnekdeaaGreatDoorCx3
import Derived.Maps.OwnOps
set_option maxRecDepth 1000000
set_option maxHeartbeats 16000000
open Go.Proofs.Tryz
open Go.Lib (hid)
set_option linter.unusedSimpArgs false
set_option linter.unusedVariables false
namespace Go.Proofs.YtiagcenlnekdeaaGreatDoor
open Go.RowKit
attribute [local go_sem ↓] Go.wp_at_zero Go.wp_at_succ
theorem boolT:(prog.underlying 159=some (.slice 4))∧(prog.info? 4).map (fun i=>(i.zero,i.size))=some (some (.bool false),1):=⟨by kernel_rfl,by kernel_rfl⟩
theorem b3z (b0 b1 b2 b3 b4 b5 b6:Bool):Instr.fill (fun i=>some (i*1,1)) ((Array.range (7*1)).map ((Value.bool false).cells[· % (Value.bool false).cells.size]!)) [(0,.bool b0),(1,.bool b1),(2,.bool b2),(3,.bool b3),(4,.bool b4),(5,.bool b5),(6,.bool b6)]=some #[.bool b0,.bool b1,.bool b2,.bool b3,.bool b4,.bool b5,.bool b6]:=by kernel_rfl
theorem c1f {o:Oper} {a:Act} {w:World} {K:Act→World→Prop} {Q:Exit→Act→World→Prop} (x0 x1 x2 x3 x4 x5 x6:Operand) (ho:o.op = .buildSlice 159 7 #[(0,x0),(1,x1),(2,x2),(3,x3),(4,x4),(5,x5),(6,x6)])
  (b0 b1 b2 b3 b4 b5 b6:Bool) (h0:a.eval x0 = .bool b0) (h1:a.eval x1 = .bool b1) (h2:a.eval x2 = .bool b2) (h3:a.eval x3 = .bool b3) (h4:a.eval x4 = .bool b4) (h5:a.eval x5 = .bool b5) (h6:a.eval x6 = .bool b6)
  (h:K (a.put o.dst (.slice (some ⟨w.heap.size,0,none⟩) 7 7)) (w.alloc (.cells #[.bool b0,.bool b1,.bool b2,.bool b3,.bool b4,.bool b5,.bool b6] 4))):o.wp prog a w K Q:=by
 obtain⟨i,hi,hh⟩:=Option.map_eq_some_iff.1 boolT.2;simp only[Prod.mk.injEq]at hh;refine wp_buildSlice 159 4 7 _ ho _ i (.bool false) boolT.1 hi hh.1 (by rw[hh.2];decide) (by rw[hh.2];decide) ?_ h;rw[hh.2];simp only[List.map_toArray,List.map_cons,List.map_nil,h0,h1,h2,h3,h4,h5,h6];exact b3z b0 b1 b2 b3 b4 b5 b6
theorem Xg (p:eF) (A:Option Addr) (c:Nat) (w:World):Calls prog 21 #[gI p A c] w fun e w'=>e = .returned (.bool (pF p))∧Keep w w':=by
 have E1:Hid (∀ y,Calls prog 35 #[ag p.limit] y fun e w'=>e = .returned (.tuple #[aO (bM p.limit).1,.int .i64 (bM p.limit).2])∧Keep y w'):=hid fun y=>FU p.limit y;have W1:Hid (∀ y,Calls prog 37 #[iv p.bQ,iv 1,iv 1048576] y fun e w'=>e = .returned (.bool (decide (1≤p.bQ∧p.bQ≤1048576)))∧w'=y):=hid fun y=>MH _ _ _ (by decide) y;have W2:Hid (∀ y,Calls prog 37 #[iv p.span,iv 4,iv 1099511627776] y fun e w'=>e = .returned (.bool (decide (4≤p.span∧p.span≤1099511627776)))∧w'=y):=hid fun y=>MH _ _ _ (by decide) y;have W3:Hid (∀ y,Calls prog 37 #[iv p.dm,iv 0,iv 4294967296] y fun e w'=>e = .returned (.bool (decide (0≤p.dm∧p.dm≤4294967296)))∧w'=y):=hid fun y=>MH _ _ _ (by decide) y;have W4:Hid (∀ y,Calls prog 37 #[iv p.idx,iv 0,iv 1048576] y fun e w'=>e = .returned (.bool (decide (0≤p.idx∧p.idx≤1048576)))∧w'=y):=hid fun y=>MH _ _ _ (by decide) y;have W5:Hid (∀ y,Calls prog 37 #[iv p.dK,iv 0,iv 1048576] y fun e w'=>e = .returned (.bool (decide (0≤p.dK∧p.dK≤1048576)))∧w'=y):=hid fun y=>MH _ _ _ (by decide) y;have HS:Hid (∀ r,pF p=r→r=[decide (1≤p.bQ∧p.bQ≤1048576),decide (4≤p.span∧p.span≤1099511627776),decide ((bM p.limit).2=0),decide (0≤p.dm∧p.dm≤4294967296),decide (0≤p.idx∧p.idx≤1048576),decide (0≤p.dK∧p.dK≤1048576),decide (p.dH.length≤100)].all id):=hid fun r e=>by subst e;rfl
 replace HS:=hid (HS.out _ rfl);unfold gI;generalize pF p=R at *;generalize p.limit=limit at *;generalize p.bQ=bQ at *;generalize p.span=span at *;generalize p.dm=dm at *;generalize p.idx=idx at *;generalize p.dK=dK at *;generalize p.dH.length=n at *;generalize bM limit=X at *;obtain⟨L,le⟩:=X;simp only at E1 HS;obtain⟨b0,hb0⟩ : ∃ b,decide (1≤bQ∧bQ≤1048576)=b:=⟨_,rfl⟩
 obtain⟨b1,hb1⟩ : ∃ b,decide (4≤span∧span≤1099511627776)=b:=⟨_,rfl⟩
 obtain⟨b2,hb2⟩ : ∃ b,decide (le=0)=b:=⟨_,rfl⟩
 obtain⟨b3,hb3⟩ : ∃ b,decide (0≤dm∧dm≤4294967296)=b:=⟨_,rfl⟩
 obtain⟨b4,hb4⟩ : ∃ b,decide (0≤idx∧idx≤1048576)=b:=⟨_,rfl⟩
 obtain⟨b5,hb5⟩ : ∃ b,decide (0≤dK∧dK≤1048576)=b:=⟨_,rfl⟩
 obtain⟨b6,hb6⟩ : ∃ b,decide (n≤100)=b:=⟨_,rfl⟩
 rw[hb0]at W1 HS;rw[hb1]at W2 HS;rw[hb2]at HS;rw[hb3]at W3 HS;rw[hb4]at W4 HS;rw[hb5]at W5 HS;rw[hb6]at HS;have g2:(le==0)=b2:=by rw[←hb2];rfl
 have g6:decide ((n:Int)≤100)=b6:=by rw[←hb6];simp;omega
 clear hb0 hb1 hb2 hb3 hb4 hb5 hb6;go_enter func21,ntmps21
 go_wp2_with fail
 refine(E1.out _).mono ?_;clear E1;rintro e w2 ⟨rfl,k2⟩;have ay:=hid (af (aB w _) k2);have HB2:Hid (ae w2 w.heap.size 25 [ag limit,iv bQ,iv span,iv dm,iv idx,iv dK,.slice A n c]):=hid ((ae.new w 25 [ag limit,iv bQ,iv span,iv dm,iv idx,iv dK,.slice A n c]).keep k2);have hzw:w.heap.size<w2.heap.size:=HB2.out.lt;clear k2;go_upto_region 2 with fail
 obtain⟨w3,hw3⟩ : ∃ w3,w3=w2.alloc (.cells #[n64 (limb L 0),n64 (limb L 1),n64 (limb L 2),n64 (limb L 3)] 79):=⟨_,rfl⟩
 have HB3:Hid (ae w3 w.heap.size 25 [ag limit,iv bQ,iv span,iv dm,iv idx,iv dK,.slice A n c]):=by rw[hw3];exact hid (HB2.out.keep (aB _ _))
 have aA:Hid (Keep w w3):=by rw[hw3];exact hid (af ay.out (aB _ _))
 rw[←hw3];clear hw3 ay HB2;refine bu (.take [0,1,3,4,6,7,8,9,11,12,14,15,17,18,19,20] (.force [2,5,10,13,16,21,22] (.take [23] .done))) [] (by kernel_rfl) (by kernel_rfl) (fun w9 k9=>?_);have eY:=HB3.out.keep k9;have bP:=hid (af aA.out k9);have c1:=aF (eY.cell 1);have c2:=aF (eY.cell 2);have c3:=aF (eY.cell 3);have c4:=aF (eY.cell 4);have c5:=aF (eY.cell 5);have c6:=aF (eY.cell 6);clear HB3 aA k9 eY;refine aN w9 (Below.refl _ _) ?_;simp only[au,ax,ak,aj];repeat(go_big_quiet_step (fail))
 refine wpQuiet_nil ?_;clear c1 c2 c3 c4 c5 c6;refine bI ?_;simp only[au,ax,ak,aj];refine aI rfl (fun K hK=>?_);go_simp
 (with_reducible refine(W1.out _).mono ?_)
 rintro e w' ⟨rfl,rfl⟩;refine hK _ _ (Below.refl _ _) ?_;clear hK K;refine aI rfl (fun K hK=>?_);go_simp
 (with_reducible refine(W2.out _).mono ?_)
 rintro e w' ⟨rfl,rfl⟩;refine hK _ _ (Below.refl _ _) ?_;clear hK K;refine aI rfl (fun K hK=>?_);go_simp
 (with_reducible refine(W3.out _).mono ?_)
 rintro e w' ⟨rfl,rfl⟩;refine hK _ _ (Below.refl _ _) ?_;clear hK K;refine aI rfl (fun K hK=>?_);go_simp
 (with_reducible refine(W4.out _).mono ?_)
 rintro e w' ⟨rfl,rfl⟩;refine hK _ _ (Below.refl _ _) ?_;clear hK K;refine aI rfl (fun K hK=>?_);go_simp
 (with_reducible refine(W5.out _).mono ?_)
 rintro e w' ⟨rfl,rfl⟩;refine hK _ _ (Below.refl _ _) ?_;clear hK K;refine aI rfl (fun K hK=>?_);refine c1f _ _ _ _ _ _ _ rfl b0 b1 b2 b3 b4 b5 b6 rfl rfl rfl rfl rfl rfl rfl ?_;refine hK _ _ (aB _ _) ?_;clear hK K
 have HL:Hid (∀ y,Keep (w'.alloc (.cells #[.bool b0,.bool b1,.bool b2,.bool b3,.bool b4,.bool b5,.bool b6] 4)) y→Calls prog 36 #[.slice (some ⟨w'.heap.size,0,none⟩) 7 7] y fun e w'=>e = .returned (.bool R)∧w'=y):=hid fun y hy=>by
  have h:=b1d (some ⟨w'.heap.size,0,none⟩) [b0,b1,b2,b3,b4,b5,b6] 7 y (by simp) ((ae.new w' 4 [.bool b0,.bool b1,.bool b2,.bool b3,.bool b4,.bool b5,.bool b6]).keep hy).rd;rw[←HS.out]at h;exact h
 refine aI rfl (fun K hK=>?_);simp only[Act.put,Array.set!_eq_setIfInBounds,List.setIfInBounds_toArray,List.set_cons_succ,List.set_cons_zero];go_simp
 (with_reducible refine(HL.out _ (Below.refl _ _)).mono ?_)
 rintro e w4 ⟨rfl,rfl⟩;refine hK _ _ (Below.refl _ _) ?_;clear hK K;refine aS ?_;refine aN _ (Below.refl _ _) ?_;simp only[au,ax,ak,aj];repeat(go_big_quiet_step (fail))
 refine wpQuiet_nil ?_;refine aT ?_;go_wp2
 exact bodyPost_ret (v:=.bool R) (by simp[results,results21]) rfl ⟨rfl,af bP.out (aB _ _)⟩
def hd0:Hd:=⟨0,[],[],0,0,0⟩
def OE (p:eF) (h:Hd) (f:UInt32):Nat:=(kE ((h.time.toNat:Int) - f.toNat) (p.span.tdiv 4) (4*p.span)).toNat
def Lt (p:eF) (n:Int) (h:Hd) (f:UInt32):UInt32 :=
 if pF p=false then p.limit else if n.tmod p.bQ≠0 then h.bits else L9 h.bits (OE p h f) p.span.toNat p.limit
def vZ (p:eF) (l:List Hd):UInt32 :=
 if l.length=0 then p.limit else Lt p l.length (l.getD (l.length - 1) hd0) (l.getD (Dq l.length p.bQ).toNat hd0).time
theorem VA {h:Hd} (hk:h.ok):h.cells[65]?=some (ag h.time):=by
 have e:h.cells=(ag h.bz::(h.prev.map ah++h.root.map ah))++(ag h.time::[ag h.bits,ag h.dO]):=by simp[Hd.cells]
 rw[e,List.getElem?_append_right (by simp[hk.1,hk.2])];simp[hk.1,hk.2]
theorem Vy {h:Hd} (hk:h.ok):h.cells[66]?=some (ag h.bits):=by
 have e:h.cells=(ag h.bz::(h.prev.map ah++h.root.map ah)++[ag h.time])++(ag h.bits::[ag h.dO]):=by simp[Hd.cells]
 rw[e,List.getElem?_append_right (by simp[hk.1,hk.2])];simp[hk.1,hk.2]
theorem next_any (p:eF) (A:Option Addr) (c:Nat) (n:Int) (h:Hd) (cs:Array Value) (f:UInt32) (w:World) (hn:1≤n) (hn2:n≤1000000) (hk:h.ok) (hcs:bF h cs) :
  Calls prog 246 #[gI p A c,iv n,.agg cs,ag f] w fun e w'=>e = .returned (ag (Lt p n h f))∧Keep w w':=by
 have S1:Hid (∀ y,Calls prog 21 #[gI p A c] y fun e w'=>e = .returned (.bool (pF p))∧Keep y w'):=hid fun y=>Xg p A c y;have ht:=VA hk;have hbt:=Vy hk
 have HI:=hid (b85 p);have HN:Hid (∀ r,Lt p n h f=r→r=if pF p=false then p.limit else if n.tmod p.bQ≠0 then h.bits else L9 h.bits (OE p h f) p.span.toNat p.limit):=hid fun r e=>by subst e;rfl
 replace HN:=hid (HN.out _ rfl);have HA:Hid (OE p h f=(kE ((h.time.toNat:Int) - f.toNat) (p.span.tdiv 4) (4*p.span)).toNat):=hid rfl;generalize Lt p n h f=R at *;generalize OE p h f=k at *;unfold gI at *;generalize pF p=S at *;generalize p.limit=limit at *;generalize p.bQ=bQ at *;generalize p.span=span at *;generalize p.dm=dm at *;generalize p.idx=idx at *;generalize p.dK=dK at *;generalize hm:p.dH.length=m at *;clear hm;obtain⟨tm,zx⟩ : ∃ x,h.time=x:=⟨_,rfl⟩
 obtain⟨bt,hbi⟩ : ∃ x,h.bits=x:=⟨_,rfl⟩
 rw[zx]at ht HA;rw[hbi]at hbt HN;have hcz:=hcs.z;have hcn:=hcs.n;have hci:=hcs.i
 rw[←hcs.l]at ht hbt;have Fp:=hid ht;have ZY:=hid hbt
 clear zx hbi ht hbt hk hcs;go_enter func246,ntmps246
 go_upto_region 1 with fail
 obtain⟨w1,hw1,cZ,jZ,ai,-⟩:=vX w 25 29 [ag limit,iv bQ,iv span,iv dm,iv idx,iv dK,.slice A m c] cs;rw[←hw1];clear hw1;have p0:=cZ.out.cell 0;have p1:=cZ.out.cell 1;have p2:=cZ.out.cell 2;have p3:=cZ.out.cell 3;have p4:=cZ.out.cell 4;have p5:=cZ.out.cell 5;have p6:=cZ.out.cell 6;simp only[List.getElem?_cons_succ,List.getElem?_cons_zero]at p0 p1 p2 p3 p4 p5 p6;go_wp2_with fail
 refine(S1.out _).mono ?_;clear S1 p0 p1 p2 p3 p4 p5 p6;rintro e w2 ⟨rfl,k2⟩;have p0:=(cZ.out.keep k2).cell 0;have p1:=(cZ.out.keep k2).cell 1;have p2:=(cZ.out.keep k2).cell 2;have q0:=(jZ.out.keep k2).cell 65;have q1:=(jZ.out.keep k2).cell 66;rw[Fp.out]at q0;rw[ZY.out]at q1;simp only[List.getElem?_cons_succ,List.getElem?_cons_zero]at p0 p1 p2;have ay:=hid (af ai.out k2);clear k2 cZ jZ ai Fp ZY
 cases S with
 | false =>
   have hR:=HN.out;rw[if_pos rfl]at hR;subst hR;clear HN HI;go_wp2
   exact bodyPost_ret (v:=ag R) (by simp[results,results246]) rfl ⟨rfl,ay.out⟩
 | true =>
   obtain⟨⟨i1,i2⟩,⟨s1,s2⟩,-⟩:=HI.out.1 rfl;clear HI;have hR:=HN.out;rw[if_neg (by simp)]at hR;replace HN:=hid hR;clear hR;have g1 : ¬ n≤0:=by omega
   have g2 : ¬ bQ=0:=by omega
   have g3:(bQ==0)=false:=by simp[g2]
   have c0i:0≤n.tmod bQ:=Int.tmod_nonneg _ (by omega);have tb2:n.tmod bQ≤n:=by rw[Int.tmod_eq_emod_of_nonneg (by omega)];by_cases hq:n<bQ;(· rw[Int.emod_eq_of_lt (by omega) hq];omega);(· have:=Int.emod_lt_of_pos n (show 0<bQ by omega);omega)
   have g4:IntKind.i64.wrap (n.tmod bQ)=n.tmod bQ:=IntWalk.i64_in _ (by omega);clear c0i tb2;obtain⟨x,hx⟩ : ∃ x,n.tmod bQ=x:=⟨_,rfl⟩
   rw[hx]at g4 HN;by_cases h0:x=0
   ·subst h0
    have hR:=HN.out;rw[if_neg (by simp)]at hR;clear HN g4;have hd4:span.tdiv 4=span/4:=Int.tdiv_eq_ediv_of_nonneg (by omega);have b1z:=tm.toNat_lt;have b1A:=f.toNat_lt
    have hkb:kE ((tm.toNat:Int) - f.toNat) (span.tdiv 4) (4*span)=(k:Int)∧k<18446744073709551616:=by
     have h1:=HA.out;unfold kE at h1 ⊢;omega
    have C1:Hid (∀ y,Calls prog 250 #[iv ((tm.toNat:Int) - f.toNat),iv span] y fun e w'=>e = .returned (iv k)∧w'=y):=hid fun y=>by
     have h1:=b2B ((tm.toNat:Int) - f.toNat) span y s1 s2;rw[hkb.1]at h1;exact h1
    have hk2:=hkb.2;have v1:IntKind.i64.wrap (tm.toNat:Int)=tm.toNat:=IntWalk.i64_in _ (by omega);have v2:IntKind.i64.wrap (f.toNat:Int)=f.toNat:=IntWalk.i64_in _ (by omega);have v3:IntKind.i64.wrap ((tm.toNat:Int) - f.toNat)=(tm.toNat:Int) - f.toNat:=IntWalk.i64_in _ (by omega);obtain⟨s,rfl⟩ : ∃ s:Nat,span=s:=⟨span.toNat,by omega⟩
    have hs2:s<18446744073709551616:=by omega
    have v4:IntKind.u64.wrap (k:Int)=k:=IntWalk.u64_in _ (by omega);have v5:IntKind.u64.wrap (s:Int)=s:=IntWalk.u64_in _ (by omega);rw[Int.toNat_natCast]at hR
    have C2:Hid (∀ y,Calls prog 251 #[ag bt,n64 k,n64 s,ag limit] y fun e w'=>e = .returned (ag R)∧Keep y w'):=hid fun y=>by
     rw[hR];exact b9a bt limit k s y hk2 hs2
    obtain⟨d,hd⟩ : ∃ d,(tm.toNat:Int) - f.toNat=d:=⟨_,rfl⟩
    rw[hd]at C1 v3;clear hR HA hd4 hkb b1z b1A hk2 hs2 s1 s2;go_wp2_with fail
    refine(C1.out _).mono ?_;clear C1;rintro e w3 ⟨rfl,rfl⟩;go_wp2_with fail
    refine(C2.out _).mono ?_;clear C2;rintro e w4 ⟨rfl,k4⟩;go_wp2
    exact bodyPost_ret (v:=ag R) (by simp[results,results246]) rfl ⟨rfl,af ay.out k4⟩
   ·have hR:=HN.out
    rw[if_pos h0]at hR;subst hR;have g5:(x != 0)=true:=by simp[h0]
    have g6:(x==0)=false:=by simp[h0]
    clear HN;go_wp2
    exact bodyPost_ret (v:=ag R) (by simp[results,results246]) rfl ⟨rfl,ay.out⟩
theorem b2i (p:eF) (A:Option Addr) (c:Nat) (B:Option Addr) (l:List Hd) (d:Nat) (w:World) (hl:l.length≤1000) (hd:l.length≤d) (hr:Rd w B (l.flatMap Hd.cells)) (hk : ∀ h∈l,h.ok) :
  Calls prog 239 #[gI p A c,.slice B l.length d] w fun e w'=>e = .returned (ag (vZ p l))∧Keep w w':=by
 by_cases h0:l.length=0
 ·have hR:vZ p l=p.limit:=by unfold vZ;rw[if_pos h0]
  rw[hR,h0];clear hR h0 hr hk hl hd;unfold gI;generalize p.limit=limit;generalize hm:p.dH.length=m;clear hm;go_enter func239,ntmps239
  go_wp2
  exact bodyPost_ret (v:=ag limit) (by simp[results,results239]) rfl ⟨rfl,aB _ _⟩
 ·have hb:1≤kE p.bQ 1 1048576:=by unfold kE;omega
  obtain⟨k,VI,hkl⟩ : ∃ k:Nat,Dq (l.length:Int) p.bQ=k∧k<l.length:=by
   refine⟨(Dq (l.length:Int) p.bQ).toNat,?_,?_⟩ <;> (unfold Dq;split <;> omega)
  have hkl2:l.length - 1<l.length:=by omega
  have F1:Hid (∀ y,Calls prog 245 #[iv l.length,iv p.bQ] y fun e w'=>e = .returned (iv k)∧w'=y):=hid fun y=>by
   have h1:=first_any (l.length:Int) p.bQ y (by omega) (by omega);rw[VI]at h1;exact h1
  have hR:vZ p l=Lt p l.length l[l.length - 1] l[k].time:=by
   unfold vZ;rw[if_neg h0,VI,Int.toNat_natCast];simp only[List.getD_eq_getElem?_getD,List.getElem?_eq_getElem hkl,List.getElem?_eq_getElem hkl2,Option.getD_some]
  have ok1:=hk _ (List.getElem_mem hkl);have ok2:=hk _ (List.getElem_mem hkl2);obtain⟨b,off,rfl,hbw,r1⟩:=PE hr hk hkl;obtain⟨b',off',hB,b4n,r2⟩:=PE hr hk hkl2
  cases hB
  have N1:Hid (∀ y cs,bF l[l.length - 1] cs→Calls prog 246 #[gI p A c,iv l.length,.agg cs,ag l[k].time] y fun e w'=>e = .returned (ag (vZ p l))∧Keep y w'):=hid fun y cs hcs=>by
   rw[hR];exact next_any p A c l.length _ cs _ y (by omega) (by omega) ok2 hcs
  have ht:=VA ok1;have hcs1:=bF.of ok1;have hcs2:=bF.of ok2;rw[←hcs1.l]at r1 ht;rw[←hcs2.l]at r2;obtain⟨c1,hc1⟩ : ∃ x,l[k].cells.toArray=x:=⟨_,rfl⟩
  obtain⟨c2,hc2⟩ : ∃ x,l[l.length - 1].cells.toArray=x:=⟨_,rfl⟩
  rw[hc1]at hcs1 r1 ht;rw[hc2]at hcs2 r2;replace N1:=hid fun y=>N1.out y c2 hcs2;have i1:=hcs1.i;have i2:=hcs2.i;have z1:=hcs1.z;have n1:=hcs1.n;have o1:=hid hcs1.o
  have R1:=hid r1;have R2:=hid r2;have Fp:=hid ht
  obtain⟨tm,zx⟩ : ∃ x,l[k].time=x:=⟨_,rfl⟩
  rw[zx]at N1 Fp;clear hR hc1 hc2 hcs1 hcs2 r1 r2 ht zx hb VI hr ok1 ok2 b4n hk;generalize vZ p l=R at *;obtain⟨n,hnn⟩ : ∃ n,l.length=n:=⟨_,rfl⟩
  rw[hnn]at hl hd h0 hkl hkl2 F1 R2 N1;rw[hnn];clear hnn;unfold gI at *;generalize p.limit=limit at *;generalize p.bQ=bQ at *;generalize p.span=span at *;generalize p.dm=dm at *;generalize p.idx=idx at *;generalize p.dK=dK at *;generalize hm:p.dH.length=m at *;clear hm;obtain⟨zs,hz1,hz2,hz3,-⟩:=Eu;have g1:(n==0)=false:=by simp[h0]
  have g2:((n:Int)==0)=false:=by rw[beq_eq_false_iff_ne];omega
  go_enter func239,ntmps239
  go_upto_region 3 with fail
  obtain⟨w1,hw1,cZ,ai,-⟩:=mW w 25 [ag limit,iv bQ,iv span,iv dm,iv idx,iv dK,.slice A m c];rw[←hw1];clear hw1;have p1:=cZ.out.cell 1;simp only[List.getElem?_cons_succ,List.getElem?_cons_zero]at p1;have hst:=fK w1 29 i1 (hz1.trans z1.symm) o1.out;have RA:Hid (w1.rangeAt b (off+k*68) c1.toList):=hid fun j v hv=>aC ai.out (R1.out j v hv);go_wp2_with fail
  refine(F1.out _).mono ?_;clear F1;rintro e w2 ⟨rfl,rfl⟩;go_upto_region 4 with((with_reducible refine dw b (off+k*68) c1 (Eq.trans ?_ rfl) RA.out _ underlying29 rfl i1 rfl ?_);rfl)
  obtain⟨j,hj⟩ : ∃ j,n - 1=j:=⟨_,rfl⟩
  have hj2:(n:Int) - 1=j:=by omega
  rw[hj]at R2 hkl2;obtain⟨w3,hw3,jR,k3,-⟩:=di w2 29 c1;replace k3:=k3.out;have fZ:Hid (ae w3 w.heap.size 25 [ag limit,iv bQ,iv span,iv dm,iv idx,iv dK,.slice A m c]):=by rw[hw3];exact hid (cZ.out.alloc _)
  rw[←hw3];clear hw3 hst p1 hj;have aA:=hid (af ai.out k3);generalize w2.heap.size=g at *;clear k3 RA cZ ai R1;refine bu (.take [0,1,2,3,4,5,6,7,8,9,10] (.force [11] (.take [12] .done))) [] (by kernel_rfl) (by kernel_rfl) (fun w9 k9=>?_);have eY:=fZ.out.keep k9;have oK:=jR.out.keep k9;have bP:=hid (af aA.out k9);have RA:Hid (w9.rangeAt b (off+j*68) c2.toList):=hid fun i v hv=>aC bP.out (R2.out i v hv);have q0:=aF (eY.cell 0);have q1:=aF (eY.cell 1);have q2:=aF (eY.cell 2);have q3:=aF (eY.cell 3);have q4:=aF (eY.cell 4);have q5:=aF (eY.cell 5);have q6:=aF (eY.cell 6);have q7:=aF ((oK.cell 65).trans Fp.out);clear eY oK fZ jR aA Fp R2 k9;refine aN w9 (Below.refl _ _) ?_;simp only[au,ax,ak,aj]
  repeat(first
   | ((with_reducible refine jY b (off+j*68) c2 (Eq.trans ?_ rfl) RA.out _ underlying29 rfl i2 rfl ?_);rfl;simp only[Act.put,Array.set!_eq_setIfInBounds,List.setIfInBounds_toArray,List.set_cons_succ,List.set_cons_zero])
   | go_big_quiet_step (fail))
  refine wpQuiet_nil ?_;clear q0 q1 q2 q3 q4 q5 q6 q7;refine bI ?_;simp only[au,ax,ak,aj];refine aI rfl (fun K hK=>?_);go_simp
  (with_reducible refine(N1.out _).mono ?_)
  rintro e w4 ⟨rfl,k4⟩;refine hK _ _ k4 ?_;clear hK K;refine aS ?_;refine aN _ (Below.refl _ _) ?_;simp only[au,ax,ak,aj];repeat(go_big_quiet_step (fail))
  refine wpQuiet_nil ?_;refine aT ?_;go_wp2
  exact bodyPost_ret (v:=ag R) (by simp[results,results239]) rfl ⟨rfl,af bP.out k4⟩
def Hd.bump (h:Hd) (k:Nat):Hd:=⟨h.bz,h.prev,h.root,h.time,h.bits,h.dO+UInt32.ofNat k⟩
theorem OM {h:Hd} (hk:h.ok) (k:Nat):(h.bump k).ok:=hk
theorem b1J (h:Hd):h.bump 0=h:=by cases h;simp[Hd.bump]
theorem b1I (h:Hd) (k:Nat):(h.bump (k+1)).dO=w32 (((h.bump k).dO.toNat+1:Int)%4294967296):=by
 apply UInt32.toNat.inj
 have e:(w32 (((h.bump k).dO.toNat+1:Int)%4294967296)).toNat=((h.bump k).dO.toNat+1)%4294967296:=by
  unfold w32;rw[UInt32.toNat_ofNat'];omega
 rw[e];simp only[Hd.bump,UInt32.toNat_add,UInt32.toNat_ofNat'];omega
theorem b1H {h:Hd} (hk:h.ok) (k:Nat):(h.bump k).cells.set 67 (ag (h.bump (k+1)).dO)=(h.bump (k+1)).cells:=by
 have e1:(h.bump k).cells=(ag h.bz::(h.prev.map ah++(h.root.map ah++[ag h.time,ag h.bits])))++[ag (h.bump k).dO]:=by simp[Hd.cells,Hd.bump]
 have e2:(h.bump (k+1)).cells=(ag h.bz::(h.prev.map ah++(h.root.map ah++[ag h.time,ag h.bits])))++[ag (h.bump (k+1)).dO]:=by simp[Hd.cells,Hd.bump]
 have hl:(ag h.bz::(h.prev.map ah++(h.root.map ah++[ag h.time,ag h.bits]))).length=67:=by simp[hk.1,hk.2]
 rw[e1,e2,List.set_append_right _ _ (by rw[hl];omega),hl];rfl
theorem b7d (h:Hd) (cs:Array Value) (limit:UInt32) (tries:Int) (k:Nat) (w:World) (hS:bV w) (hk:h.ok) (hcs:bF h cs) (ht:(k:Int)<tries) (ht2:tries≤4096)
  (m1 : ∀ j,j<k→o8 (fC (df (h.bump j))) h.bits limit≠0) (m2:o8 (fC (df (h.bump k))) h.bits limit=0) :
  Calls prog 18 #[.agg cs,ag limit,.int .i64 tries] w fun e w' => ∃ ds,e = .returned (.tuple #[.agg ds,.bool true])∧bF (h.bump k) ds∧Keep w w':=by
 have I1:Hid (∀ j cs y,Keep w y→bF (h.bump j) cs→Calls prog 19 #[.agg cs] y fun e w' => ∃ ds,e = .returned (.agg ds)∧aX (df (h.bump j)) ds∧Keep y w'):=hid fun j cs y hy hc=>D5 (h.bump j) cs y (hS.keep hy) (OM hk j) hc
 have M1:Hid (∀ j,∃ m:Int,(j<k→m≠0)∧(j=k→m=0)∧∀ ds y,aX (df (h.bump j)) ds→Calls prog 32 #[.agg ds,ag h.bits,ag limit] y fun e w'=>e = .returned (.int .i64 m)∧Keep y w'):=hid fun j =>
  ⟨_,m1 j,fun e=>by rw[e];exact m2,fun ds y hd=>a4M (df (h.bump j)) ds h.bits limit y (uB _) hd⟩
 clear m1 m2;obtain⟨zs,hz1,hz2,hz3,jb⟩:=Eu;have hcz:=hcs.z;have hcn:=hcs.n;have hci:=hcs.i
 have dh:=hid hcs;have Hk:=hid hk
 have hmx:max tries 0=tries:=by omega
 have hmn:min tries 4096=tries:=by omega
 clear hcs hk hS jb;have hst : ∀ ww:World,(storeCells ⟨ww.heap.size,0,none⟩ cs.toList 0).run prog (ww.alloc (.cells zs 29)) = .ok () (ww.alloc (.cells cs 29)):=fun ww=>fK ww 29 dh.out.i (hz1.trans hcz.symm) dh.out.o;go_enter func18,ntmps18
 go_upto_region 1 with fail
 obtain⟨w1,hw1,vM,HR1,ai,-⟩:=qF w 29 29 cs zs;rw[←hw1];clear hw1;have c39:w.heap.size+1<w1.heap.size:=HR1.out.lt;go_upto_region 2 with((with_reducible refine bY w.heap.size cs (Eq.trans ?_ rfl) vM.out _ underlying29 rfl hci ?_);rfl)
 obtain⟨w3,hw3⟩ : ∃ w3,w3=w1.alloc (.cells cs 29):=⟨_,rfl⟩
 have IQ:Hid (ae w3 w1.heap.size 29 (h.bump 0).cells):=by rw[hw3,b1J,←dh.out.l];exact ae.new w1 _ cs.toList
 have HR3:Hid (ae w3 (w.heap.size+1) 29 zs.toList):=by rw[hw3];exact HR1.out.alloc _
 have aA:Hid (Keep w w3):=by rw[hw3];exact af ai.out (aB _ _)
 rw[←hw3];clear hw3 HR1 ai vM hst;generalize w1.heap.size=M at *;go_wp2_with fail
 go_loopw [13] (fun i wr => ∃ j:Nat,j≤k∧i = .int .i64 (j:Int)∧Hid (ae wr M 29 (h.bump j).cells)∧Hid (ae wr (w.heap.size+1) 29 zs.toList)∧Hid (Keep w wr)) (fun i _=>(4096 - intOf i).toNat)
 case atStart=>exact⟨0,by omega,rfl,IQ,HR3,aA⟩
 case round =>
  obtain⟨j,hj,rfl,HM,HR,HK⟩:=hrel;have i1:(j:Int)<tries:=by omega
  obtain⟨hv,dW⟩ : ∃ hv,bF (h.bump j) hv:=⟨_,bF.of (OM Hk.out j)⟩
  have fF:=dW.z;have hvn:=dW.n;have jk:=dW.i
  have iW:=hid dW;obtain⟨m,a4Q,a4R,a4S⟩:=M1.out j;have TZ:=hid a4Q;have Ua:=hid a4R;have a0t:=hid a4S
  clear dW a4Q a4R a4S;go_upto_region 4 with fail
  refine bu (.take [0,2,3,4] (.force [1,5] (.take [6] .done))) [] (by kernel_rfl) (by kernel_rfl) (fun w9 k9=>?_);have BX:=hid (HM.out.keep k9);have iy:=hid (HR.out.keep k9);have bP:=hid (af HK.out k9)
  have UI:=aF (show w9.cell? ⟨M,66,none⟩=some (ag h.bits) from a2V (h:=h.bump j) BX.out (OM Hk.out j));have uj:Hid (w9.rangeAt M 0 hv.toList):=hid (cu BX.out 0 hv.toList (by rw[iW.out.l,List.drop_zero,List.take_of_length_le (Nat.le_refl _)]));clear k9 HM HR HK;refine aN w9 (Below.refl _ _) ?_;simp only[au,ax,ak,aj]
  (with_reducible refine jY M 0 hv (Eq.trans ?_ rfl) uj.out _ underlying29 rfl jk (Eq.trans ?_ rfl) ?_)
  rfl;rfl;simp only[Act.put,Array.set!_eq_setIfInBounds,List.setIfInBounds_toArray,List.set_cons_succ,List.set_cons_zero];repeat(go_big_quiet_step (fail))
  refine wpQuiet_nil (bI ?_);simp only[au,ax,ak,aj];refine aI rfl (fun K hK=>?_);go_simp
  (with_reducible refine(I1.out j hv w9 bP.out iW.out).mono ?_)
  rintro e wa ⟨ds,rfl,hds,ka⟩;refine hK _ _ ka ?_;have Zn:=hid (BX.out.keep ka);have oM:=hid (iy.out.keep ka);have fV:=hid (af bP.out ka)
  have dZ:=hid hds;clear hK K UI ka hds uj BX iy bP;refine aI rfl (fun K hK=>?_);go_simp
  (with_reducible refine(a0t.out ds wa dZ.out).mono ?_)
  rintro e wb ⟨rfl,kb⟩;refine hK _ _ kb ?_;have NT:=hid (Zn.out.keep kb);have Cf:=hid (oM.out.keep kb);have lW:=hid (af fV.out kb)
  clear hK K kb Zn oM fV dZ a0t;refine aS (aN wb (Below.refl _ _) ?_);simp only[au,ax,ak,aj];repeat(go_big_quiet_step (fail))
  refine wpQuiet_nil (aT ?_);by_cases hjk:j=k
  ·obtain rfl:m=0:=Ua.out hjk
   obtain⟨w8,fQ,hb8,aZ⟩:=bn (P:=prog) hv.toList Cf.out (by simp[hz1,fF]) iW.out.o;have aY:=hid hb8;have bf:=hid aZ
   have a8V:Hid (ae wb M 29 hv.toList):=by rw[iW.out.l];exact NT.out
   subst hjk;clear hb8 aZ TZ Ua;go_wp2_with ((with_reducible refine bY M hv (Eq.trans ?_ rfl) a8V.out _ underlying29 rfl jk ?_);rfl)
   exact bodyPost_ret (v:=.tuple #[.agg hv,.bool true]) (lq results18 aY.out underlying29 jk rfl rfl) rfl ⟨hv,rfl,iW.out,aK lW.out bf.out (by omega)⟩
  ·have hm0:=TZ.out (by omega)
   have d1:(m==0)=false:=by simp[hm0]
   have c2z:=a2W NT.out (OM Hk.out j);have f67:=NT.out.frozen 67;have hn32:=(h.bump j).dO.toNat_lt;have HB:=hid (b1I h j);have HC:=hid (b1H Hk.out j)
   generalize (h.bump j).dO=nn at *;clear TZ Ua hm0;go_wp2
   go_roundw
   case rel =>
    have e:Value.int .u32 (((nn.toNat:Int)+1)%4294967296)=ag (h.bump (j+1)).dO:=by
     rw[HB.out];unfold ag;rw[←BB (by omega) (by omega)]
    rw[e];refine⟨j+1,by omega,by go_num,hid ?_,hid (Cf.out.far (by simp;omega) _),hid (Below.setCell lW.out (by simp;omega) _)⟩;have h1:=NT.out.az 67 (ag (h.bump (j+1)).dO);rw[HC.out]at h1;exact h1
   case measure=>simp[intOf];omega
theorem c1H:prog.built 27 []=some uT:=by kernel_rfl
theorem kT {P:Program} {w:World} {ops:Array Oper} {rest:List Oper} {a:Act} {Q:Exit→Act→World→Prop} {parts:Array (Nat × Operand)} {dst:Option Tmp} {t ty':TypeId} {pos:String} {eG:Array Edge}
  (ps:List (Nat × Value)) (cells:Array Value) (hx:(parts.toList.map fun p=>(p.1,a.eval p.2))=ps) (hb:P.built t ps=some cells)
  (h:wpList P ops Q rest (a.put dst (.agg cells)) w):wpList P ops Q ({ dst:=dst,op:=.build t parts,type:=ty',pos:=pos,after:=eG,guard:=none}::rest) a w :=
 wpList_plain rfl fun _ hK=>wp_build t parts rfl (by rw[show(parts.map fun(i,x)=>(i,a.eval x)).toList=ps by rw[Array.toList_map];exact hx,hb];rfl) (by rw[show(parts.map fun(i,x)=>(i,a.eval x)).toList=ps by rw[Array.toList_map];exact hx,hb];exact hK _ _ h)
def nR (x:Int × List UInt8):List Value:=iv x.1::x.2.map ah
theorem a1g {x:Int × List UInt8} (h:x.2.length=32):(nR x).length=33:=by simp[nR,h]
theorem b2n (x:Int × List UInt8) : ∀ v∈nR x,v.oneCell'=true:=by
 intro v hv;rcases List.mem_cons.1 hv with rfl | hv
 ·rfl
 ·exact jL _ v hv
def pG (p:eF) (A:Option Addr) (w:World):Prop:=Rd w A (p.dH.flatMap nR)∧(∀ x∈p.dH,x.2.length=32)∧p.dH.length≤1000
theorem pG.keep {p:eF} {A:Option Addr} {w w':World} (h:pG p A w) (hk:Keep w w'):pG p A w':=⟨h.1.keep hk,h.2⟩
theorem b2p {p:eF} {w:World} {A:Option Addr} (hr:pG p A w) {k:Nat} (h:k<p.dH.length) :
  ∃ b off,A=some ⟨b,off,none⟩∧b<w.heap.size∧w.rangeAt b (off+k*33) (nR p.dH[k]):=by
 have hlen : ∀ a∈p.dH,(nR a).length=33:=fun a ha=>a1g (hr.2.1 a ha);obtain⟨b,off,rfl,hb,F⟩:=hr.1.at (k:=k*33) (by rw[rF _ 33 _ hlen];omega);refine⟨b,off,rfl,hb,fun j v hv=>?_⟩;have hj:j<33:=by rw[←hlen p.dH[k] (List.getElem_mem h)];exact(List.getElem?_eq_some_iff.1 hv).1
 have hg:=JW nR 33 p.dH hlen k j h hj;have hlt:k*33+j<(p.dH.flatMap nR).length:=by rw[rF _ 33 _ hlen];omega
 have hc:=F (k*33+j) hlt;rw[Nat.add_assoc,hc,←hv,←hg,List.getElem?_eq_getElem hlt]
noncomputable def XF:Array Value:=match(prog.info? 162).bind (·.zero)with | some (.agg c)=>c | _ => #[]
theorem c1y:XF.size=33:=by kernel_rfl
theorem c1z (w:World):(zeroValue 162).run prog w = .ok (.agg XF) w:=by kernel_rfl
theorem b2o:(prog.info? 162).map (·.size)=some 33:=by kernel_rfl
def wY (p:eF) (n:Int):Option (List UInt8):=(p.dH.find? fun x=>x.1==n).map (·.2)
def zJ (p:eF) (n:Int):List UInt8:=(wY p n).getD (List.replicate 32 0)
theorem b8m (p:eF) (A:Option Addr) (c:Nat) (n:Int) (w:World) (hr:pG p A w) :
  Calls prog 38 #[gI p A c,iv n] w fun e w' => ∃ cs,e = .returned (.tuple #[.agg cs,.bool (wY p n).isSome])∧aX (zJ p n) cs∧Keep w w':=by
 obtain⟨zs,hzs⟩ : ∃ zs,zs=uT:=⟨_,rfl⟩
 have hz1:zs.size=32:=by rw[hzs];exact xy
 have hz2 : ∀ w,(zeroValue 27).run prog w = .ok (.agg zs) w:=fun w=>by rw[hzs];exact Hf w
 have hz3 : ¬ zs = #[]:=fun h=>by rw[h]at hz1;cases hz1
 have jb:Hid (zs.toList=(List.replicate 32 (0:UInt8)).map ah):=hid (by rw[hzs];exact BF);have nZ:Hid (prog.built 27 []=some zs):=hid (by rw[hzs];exact c1H);clear hzs;obtain⟨ys,hys⟩ : ∃ ys,ys=XF:=⟨_,rfl⟩
 have hy1:ys.size=33:=by rw[hys];exact c1y
 have hy2 : ∀ w,(zeroValue 162).run prog w = .ok (.agg ys) w:=fun w=>by rw[hys];exact c1z w
 have hy3 : ¬ ys = #[]:=fun h=>by rw[h]at hy1;cases hy1
 clear hys
 have HAT:Hid (∀ k (h:k<p.dH.length),∃ b off,A=some ⟨b,off,none⟩∧w.rangeAt b (off+k*33) (nR p.dH[k])∧p.dH[k].2.length=32):=hid fun k h=>by
  obtain⟨b,off,h1,-,h2⟩:=b2p hr h;exact⟨b,off,h1,h2,hr.2.1 _ (List.getElem_mem h)⟩
 have hl:p.dH.length≤1000:=hr.2.2;have HP:Hid (∀ r hsh,(wY p n).isSome=r→zJ p n=hsh→r=((p.dH.find? fun x=>x.1==n).map (·.2)).isSome∧hsh=((p.dH.find? fun x=>x.1==n).map (·.2)).getD (List.replicate 32 0)):=hid fun r hsh e1 e2=>by subst e1 e2;exact⟨rfl,rfl⟩
 replace HP:=hid (HP.out _ _ rfl rfl);clear hr;generalize (wY p n).isSome=R at *;generalize zJ p n=H at *;unfold gI;generalize p.dH=L at *;generalize p.limit=limit at *;generalize p.bQ=bQ at *;generalize p.span=span at *;generalize p.dm=dm at *;generalize p.idx=idx at *;generalize p.dK=dK at *;clear p;go_enter func38,ntmps38
 go_upto_region 1 with fail
 obtain⟨w1,hw1,cZ,HR1,ai,-⟩:=vX w 25 27 [ag limit,iv bQ,iv span,iv dm,iv idx,iv dK,.slice A L.length c] zs;rw[←hw1];clear hw1;have p6:=cZ.out.cell 6;simp only[List.getElem?_cons_succ,List.getElem?_cons_zero]at p6;go_wp2_with fail
 clear p6 cZ
 go_loopw [11] (fun i wr => ∃ k:Nat,k≤L.length∧i = .int .i64 k∧Hid ((L.take k).find? (fun x=>x.1==n)=none)∧Hid (ae wr (w.heap.size+1) 27 zs.toList)∧Hid (Keep w wr)) (fun i _=>L.length - (intOf i).toNat)
 case atStart=>exact⟨0,Nat.zero_le _,rfl,hid rfl,HR1,ai⟩
 case round =>
  obtain⟨k,hk,rfl,hno,HR,HK⟩:=hrel;by_cases hlt:k<L.length
  ·obtain⟨b,off,rfl,hrg,hh⟩:=HAT.out k hlt
   have RA:Hid (wr.rangeAt b (off+k*33) (nR L[k]).toArray.toList):=hid fun j v hv=>aC HK.out (hrg j v hv);have hone:=b2n L[k];have hsz:=a1g hh
   have hf:(L.take (k+1)).find? (fun x=>x.1==n)=if L[k].1=n then some L[k]else none:=by
    rw[List.take_succ_eq_append_getElem hlt,List.find?_append,hno.out,Option.none_or];simp only[List.find?_cons,List.find?_nil,beq_iff_eq];by_cases e:L[k].1=n
    ·simp[e]
    ·have e2:(L[k].1==n)=false:=by simpa using e
     simp[e,e2]
   have hall:(L.find? fun x=>x.1==n)=(((L.take (k+1)).find? fun x=>x.1==n).or ((L.drop (k+1)).find? fun x=>x.1==n)):=by
    rw[←List.find?_append,List.take_append_drop]
   have HF:=hid hf;have HL:=hid hall
   clear hf hall hrg;generalize L[k]=x at *;obtain⟨m,hsh⟩:=x;simp only at hh HF;obtain⟨ck,hck⟩ : ∃ ck,(nR (m,hsh)).toArray=ck:=⟨_,rfl⟩
   have hcl:ck.toList=iv m::hsh.map ah:=by rw[←hck];rfl
   have hc1:ck.size=33:=by rw[←hck,List.size_toArray,hsz]
   have hc2:(prog.info? 162).map (·.size)=some ck.size:=by rw[hc1];exact b2o
   have hc3 : ¬ ck = #[]:=fun h=>by rw[h]at hc1;cases hc1
   have hc4:=hid (show ∀ v∈ck.toList,v.oneCell'=true by rw[←hck];exact hone);rw[hck]at RA;have hst:=fK wr 162 hc2 (hy1.trans hc1.symm) hc4.out;have vN:=hid hcl;have Hh:=hid hh;clear hck hsz hone hcl hh;go_upto_region 4 with((with_reducible refine dw b (off+k*33) ck (Eq.trans ?_ rfl) RA.out _ underlying162 rfl hc2 rfl ?_);rfl)
   obtain⟨w3,hw3⟩ : ∃ w3,w3=wr.alloc (.cells ck 162):=⟨_,rfl⟩
   have rq:Hid (ae w3 wr.heap.size 162 (iv m::hsh.map ah)):=by rw[hw3,←vN.out];exact hid (ae.new wr 162 ck.toList)
   have HR3:Hid (ae w3 (w.heap.size+1) 27 zs.toList):=by rw[hw3];exact hid (HR.out.alloc _)
   have aA:Hid (Keep w w3):=by rw[hw3];exact hid (af HK.out (aB _ _))
   rw[←hw3];clear hw3 hst RA HR HK;have hg1:w.heap.size+1<w3.heap.size:=HR3.out.lt;generalize wr.heap.size=g at *;have c0:=rq.out.cell 0;simp only[List.getElem?_cons_zero]at c0;by_cases hmn:m=n
   ·subst hmn
    have hR:=HP.out.1;have hH:=HP.out.2;rw[HL.out,HF.out,if_pos rfl]at hR hH;simp only[Option.some_or,Option.map_some,Option.isSome_some,Option.getD_some]at hR hH;subst hR hH;obtain⟨hv,dW⟩ : ∃ hv,aX H hv:=⟨_,aX.of Hh.out⟩
    have fF:=dW.z;have hvn:=dW.n;have jk:=dW.i
    have iW:=hid dW;have hrg:Hid (w3.rangeAt g 1 hv.toList):=hid (cu rq.out 1 hv.toList (by rw[dW.l];simp[List.take_of_length_le]));obtain⟨w8,fQ,aY,bf⟩:=jo hv.toList HR3.out (by simp[hz1,fF]) dW.o;clear dW HP HL HF hno rq HAT;go_wp2_with ((with_reducible refine dw g 1 hv (Eq.trans ?_ rfl) hrg.out _ underlying27 rfl jk rfl ?_);rfl)
    exact bodyPost_ret (v:=.tuple #[.agg hv,.bool true]) (lq results38 aY.out underlying27 jk rfl rfl) rfl ⟨hv,rfl,iW.out,aK aA.out bf.out (by omega)⟩
   ·have d1:(m==n)=false:=by simp[hmn]
    have DU:=HF.out;rw[if_neg hmn]at DU;have a98:=hid DU;clear DU HF HL hmn;go_wp2
    go_roundw
    case rel=>exact⟨k+1,by omega,by go_num,a98,HR3,aA⟩
    case measure=>simp[intOf];omega
  ·obtain rfl:L.length=k:=by omega
   have hR:=HP.out.1;have hH:=HP.out.2;have DU:=hno.out;rw[List.take_length]at DU;rw[DU]at hR hH;simp only[Option.map_none,Option.isSome_none,Option.getD_none]at hR hH;subst hR hH;have uA : ∀ v∈zs.toList,v.oneCell'=true:=by rw[jb.out];exact jL _
   have hzi:(prog.info? 27).map (·.size)=some zs.size:=by rw[hz1];kernel_rfl
   obtain⟨w8,fQ,hb8,aZ⟩:=bn (P:=prog) zs.toList HR.out rfl uA;have aY:=hid hb8;have bf:=hid aZ
   have hg1:w.heap.size+1<wr.heap.size:=HR.out.lt;clear hb8 aZ DU HP hno uA HAT;go_wp2_with ((with_reducible refine kT [] zs (Eq.trans ?_ rfl) nZ.out ?_);rfl)
   have hb8:=aY.out
   have hza:aX (List.replicate 32 0) zs:=by
    have h:=aX.of (h:=List.replicate 32 (0:UInt8)) rfl;have e:((List.replicate 32 (0:UInt8)).map ah).toArray=zs:=by rw[←jb.out,Array.toArray_toList]
    rw[e]at h;exact h
   exact bodyPost_ret (v:=.tuple #[.agg zs,.bool false]) (lq results38 hb8 underlying27 hzi rfl rfl) rfl ⟨zs,rfl,hza,aK HK.out bf.out (by omega)⟩
theorem b4e {l m:List UInt8} {cs ds:Array Value} (h:aX l cs) (g:aX m ds) (hl:l.length=32) (hm:m.length=32) (w:World) :
  (Go.binOp .neq 27 (.agg cs) (.agg ds)).run prog w = .ok (.bool (!(l==m))) w:=by
 rw[run_neq_struct,show(10000:Nat)=9998+2 from rfl,J7 9998 h g hl hm];rfl
theorem Vq {l m:List UInt8} {cs ds:Array Value} (h:aX l cs) (g:aX m ds) (hl:l.length=32) (hm:m.length=32) (w:World) :
  (Op.equalIn 10000 27 (.agg cs) (.agg ds)).run prog w = .ok (l==m) w:=by
 rw[show(10000:Nat)=9998+2 from rfl,J7 9998 h g hl hm]
theorem b4w (l:List Hd) (hk : ∀ h∈l,h.ok) : ∃ rs:List iK,rs.flatMap iK.cells=l.flatMap Hd.cells∧rs.map iK.t=l.map Hd.time∧rs.length=l.length:=by
 induction l with
 | nil=>exact⟨[],rfl,rfl,rfl⟩
 | cons h l ih =>
   obtain⟨rs,e1,e2,e3⟩:=ih fun x hx=>hk x (List.mem_cons_of_mem _ hx);have ho:=hk h List.mem_cons_self;refine⟨⟨ag h.bz::(h.prev.map ah++h.root.map ah),h.time,[ag h.bits,ag h.dO],by simp[ho.1,ho.2],rfl,?_,?_⟩::rs,?_,?_,?_⟩
   ·intro u hu
    exact Hd.one h u (by simp only[Hd.cells,List.mem_cons,List.mem_append]at hu ⊢;rcases hu with rfl | hu | hu <;> simp_all)
   ·intro u hu
    exact Hd.one h u (by simp only[Hd.cells,List.mem_cons,List.mem_append,List.not_mem_nil,or_false]at hu ⊢;rcases hu with rfl | rfl <;> simp)
   ·simp[iK.cells,Hd.cells,e1]
   ·simp[e2]
   ·simp[e3]
theorem c0j (A:Option Addr) (l:List Hd) (c:Nat) (w:World) (hl:l.length≤100) (hr:Rd w A (l.flatMap Hd.cells)) (hk : ∀ h∈l,h.ok) :
  Calls prog 242 #[.slice A l.length c] w (Ov w.heap.size (l.map Hd.time) w):=by
 obtain⟨rs,e1,e2,e3⟩:=b4w l hk;rw[←e2,←e3];exact times_any A rs c w (by rw[e3];exact hl) (by rw[e1];exact hr)
def uJ (p:eF) (n:Int) (id:List UInt8):Int:=if wY p n=none∨wY p n=some id then 0 else 11
theorem b8a (p:eF) (n:Int) (id:List UInt8):uJ p n id=if(wY p n).isSome=true∧(zJ p n==id)=false then 11 else 0:=by
 unfold uJ zJ
 cases wY p n with
 | none=>simp
 | some x=>by_cases e:x=id <;> simp[e]
theorem b8l {p:eF} (h : ∀ x∈p.dH,x.2.length=32) (n:Int):(zJ p n).length=32:=by
 unfold zJ wY
 cases hf:p.dH.find? fun x=>x.1==n with
 | none=>rfl
 | some x=>exact h x (List.mem_of_find?_eq_some hf)
theorem a5L (p:eF) (A:Option Addr) (c:Nat) (n:Int) (id:List UInt8) (cs:Array Value) (w:World) (hr:pG p A w) (hl:id.length=32) (hcs:aX id cs) :
  Calls prog 22 #[gI p A c,iv n,.agg cs] w fun e w'=>e = .returned (iv (uJ p n id))∧Keep w w':=by
 have P1:Hid (∀ y,Keep w y→Calls prog 38 #[gI p A c,iv n] y fun e w' => ∃ cs,e = .returned (.tuple #[.agg cs,.bool (wY p n).isSome])∧aX (zJ p n) cs∧Keep y w'):=hid fun y hy=>b8m p A c n y (hr.keep hy);have HL:=hid (b8l hr.2.1 n);have HR:=hid (b8a p n id);obtain⟨zs,hz1,hz2,hz3,-⟩:=BD;have hcz:=hcs.z;have hcn:=hcs.n;have hci:=hcs.i
 have dh:=hid hcs;have pO:=hid hl
 clear hr hcs hl;generalize uJ p n id=R at *;generalize (wY p n).isSome=is at *;generalize zJ p n=H at *;unfold gI at *;generalize p.limit=limit at *;generalize p.bQ=bQ at *;generalize p.span=span at *;generalize p.dm=dm at *;generalize p.idx=idx at *;generalize p.dK=dK at *;generalize hm:p.dH.length=m at *;clear hm;go_enter func22,ntmps22
 go_upto_region 1 with fail
 obtain⟨w1,hw1,cZ,HI1,ai,-⟩:=vX w 25 27 [ag limit,iv bQ,iv span,iv dm,iv idx,iv dK,.slice A m c] cs;rw[←hw1];clear hw1;have p0:=cZ.out.cell 0;have p1:=cZ.out.cell 1;have p2:=cZ.out.cell 2;have p3:=cZ.out.cell 3;have p4:=cZ.out.cell 4;have p5:=cZ.out.cell 5;have p6:=cZ.out.cell 6;simp only[List.getElem?_cons_succ,List.getElem?_cons_zero]at p0 p1 p2 p3 p4 p5 p6;go_wp2_with fail
 refine(P1.out _ ai.out).mono ?_;clear P1 p0 p1 p2 p3 p4 p5 p6;rintro e w2 ⟨ds,rfl,hds,k2⟩;have HI2:=hid (HI1.out.keep k2);have ay:=hid (af ai.out k2);have hdz:=hds.z;have hdn:=hds.n;have hdi:=hds.i
 have hst:=fK w2 27 hdi (hz1.trans hdz.symm) hds.o;have dZ:=hid hds;clear k2 HI1 ai cZ hds;go_upto_region 2 with fail
 obtain⟨w3,hw3,HD3,-,-⟩:=di w2 27 ds;have HI3:Hid (ae w3 (w.heap.size+1) 27 cs.toList):=by rw[hw3];exact hid (HI2.out.alloc _)
 have aA:Hid (Keep w w3):=by rw[hw3];exact hid (af ay.out (aB _ _))
 rw[←hw3];clear hw3 hst HI2 ay;generalize w2.heap.size=g at *;have q1:Hid (w3.rangeAt g 0 ds.toList):=hid (cu HD3.out 0 ds.toList (by simp[List.take_of_length_le]));have q2:Hid (w3.rangeAt (w.heap.size+1) 0 cs.toList):=hid (cu HI3.out 0 cs.toList (by simp[List.take_of_length_le]));have heq:=Vq dZ.out dh.out HL.out pO.out w3;have hR:=HR.out
 cases is with
 | false =>
   rw[if_neg (by simp)]at hR;subst hR;clear HR heq q1 q2 HD3 HI3;go_wp2
   exact bodyPost_ret (v:=iv 0) (by simp[results,results22]) rfl ⟨rfl,aA.out⟩
 | true =>
   obtain⟨b,hb⟩ : ∃ b,(H==id)=b:=⟨_,rfl⟩
   rw[hb]at heq hR;clear HR hb HD3 HI3 HL
   cases b with
   | true =>
     rw[if_neg (by simp)]at hR;subst hR
     go_wp2_with (first
      | ((with_reducible refine dw g 0 ds (Eq.trans ?_ rfl) q1.out _ underlying27 rfl hdi rfl ?_);rfl)
      | ((with_reducible refine dw (w.heap.size+1) 0 cs (Eq.trans ?_ rfl) q2.out _ underlying27 rfl hci rfl ?_);rfl))
     exact bodyPost_ret (v:=iv 0) (by simp[results,results22]) rfl ⟨rfl,aA.out⟩
   | false =>
     rw[if_pos ⟨rfl,rfl⟩]at hR;subst hR
     go_wp2_with (first
      | ((with_reducible refine dw g 0 ds (Eq.trans ?_ rfl) q1.out _ underlying27 rfl hdi rfl ?_);rfl)
      | ((with_reducible refine dw (w.heap.size+1) 0 cs (Eq.trans ?_ rfl) q2.out _ underlying27 rfl hci rfl ?_);rfl))
     exact bodyPost_ret (v:=iv 11) (by simp[results,results22]) rfl ⟨rfl,aA.out⟩
end Go.Proofs.YtiagcenlnekdeaaGreatDoor
namespace Go.Proofs.YtiagcenlnekdeaaGreatDoor
open Go.RowKit Go.ChangeMaps
theorem a2K:prog.underlying 27=some (.array 32 5):=by kernel_rfl
theorem a4L:prog.underlying 140=some (.map 27 3):=by kernel_rfl
theorem a6j {l:List UInt8} {cs:Array Value} (h:aX l cs) (hl:l.length=32) (b:Bool) (w:World) :
  (Instr.checkKey b 10000 27 (.agg cs)).run prog w = .ok () w:=by
 obtain rfl:=h.e;rw[show(10000:Nat)=9998+2 from rfl,Instr.checkKey];simp only[Sem.run_bind,run_underlying a2K,Result.andThen_ok,Std.Legacy.Range.forIn_eq_forIn_range',Std.Legacy.Range.size,Nat.sub_zero,Nat.add_sub_cancel,Nat.div_one];have hr : ∀ i∈List.range' 0 32 1,i<32:=fun i hi=>by simpa using(List.mem_range'_1.1 hi).2
 generalize List.range' 0 32 1=r at hr ⊢
 induction r with
 | nil=>simp
 | cons i r ih =>
   have hi:i<32:=hr i (by simp)
   have px:(part 5 (l.map ah).toArray (i*1)).run prog w = .ok (ah (l.getD i 0)) w:=by
    simp[part,isAgg,run_underlying underlying5,List.getD,List.getElem?_eq_getElem (show i<l.length by omega)]
   have pk:(Instr.checkKey b (9998+1) 5 (ah (l.getD i 0))).run prog w = .ok () w:=by
    rw[Instr.checkKey];simp only[Sem.run_bind,run_underlying underlying5,Result.andThen_ok,Sem.run_pure]
   have hsz:=GV w;simp only[List.forIn_cons,Sem.run_bind,hsz,px,pk,Result.andThen_ok,Sem.run_pure];exact ih fun j hj=>hr j (by simp[hj])
def Aa:List MapEntry→List (List UInt8)→Nat→Prop
 | [],[],_=>True
 | e::es,i::is,k=>(∃ cs,e.key = .agg cs∧aX i cs)∧e.val = .int .i64 (k:Int)∧i.length=32∧Aa es is (k+1)
 | _,_,_=>False
theorem Aa.push : ∀ {es:List MapEntry} {is:List (List UInt8)} {k:Nat} (h:Aa es is k) {e:MapEntry} {i:List UInt8} {cs:Array Value} (h1:e.key = .agg cs) (h2:aX i cs) (h3:e.val = .int .i64 ((k+is.length:Nat):Int)) (h4:i.length=32),Aa (es++[e]) (is++[i]) k
 | [],[],k,_,e,i,cs,h1,h2,h3,h4=>⟨⟨cs,h1,h2⟩,h3,h4,trivial⟩
 | [],_::_,_,h,_,_,_,_,_,_,_=>h.elim
 | _::_,[],_,h,_,_,_,_,_,_,_=>h.elim
 | _::es,_::is,k,⟨a,b,c,d⟩,e,i,cs,h1,h2,h3,h4=>⟨a,b,c,Aa.push d h1 h2 (by rw[h3,List.length_cons];congr 2;omega) h4⟩
def lh (is:List (List UInt8)) (id:List UInt8):Option Nat:=is.findIdx? fun x=>x==id
theorem a6f {l:List UInt8} {cs:Array Value} (h:aX l cs) (hl:l.length=32) (w:World) : ∀ (es:List MapEntry) (is:List (List UInt8)) (k j:Nat),Aa es is k →
  (Instr.findAsking 27 (.agg cs) es j).run prog w = .ok ((lh is l).map fun n=>(j+n,.int .i64 ((k+n:Nat):Int))) w
 | [],[],k,j,_=>by
   rw[Instr.findAsking];simp[lh]
 | [],_::_,_,_,he=>he.elim
 | _::_,[],_,_,he=>he.elim
 | e::es,i::is,k,j,⟨⟨ds,h1,h2⟩,h3,h4,h5⟩=>by
   have hq:(Op.equal 27 (.agg cs) (.agg ds)).run prog w = .ok (l==i) w:=Vq h h2 hl h4 w;rw[Instr.findAsking,h1];simp only[Sem.run_bind,hq,Result.andThen_ok];unfold lh;rw[List.findIdx?_cons,BEq.comm (a:=i)]
   cases hb:(l==i)with
   | true=>simp[h3]
   | false =>
     simp only[Bool.false_eq_true,if_false];rw[a6f h hl w es is (k+1) (j+1) h5];unfold lh
     cases List.findIdx? (fun x=>x==l) is with
     | none=>rfl
     | some n =>
       simp only[Option.map_some];rw[show j+1+n=j+(n+1) by omega,show k+1+n=k+(n+1) by omega]
theorem a6i {l:List UInt8} {cs:Array Value} (h:aX l cs) (hl:l.length=32) (w:World) {es:List MapEntry} {is:List (List UInt8)} (he:Aa es is 0) :
  (Instr.findKey 27 (.agg cs) es).run prog w = .ok ((lh is l).map fun n=>(n,.int .i64 (n:Int))) w:=by
 have hA:=a6f h hl w es is 0 0 he;simp only[Nat.zero_add]at hA;rw[Instr.findKey];simp only[Sem.run_bind,run_underlying a2K,Result.andThen_ok]
 cases es with
 | nil =>
   cases is with
   | nil=>rw[Instr.findNow];simp[lh]
   | cons=>exact he.elim
 | cons e es =>
   have hn:Instr.findNow (.array 32 5) (.agg cs) (e::es) 0=none:=by
    rw[Instr.findNow];simp[Instr.sameNow]
   rw[hn];exact hA
def MapAt (w:World) (M:Nat) (is:List (List UInt8)):Prop:=∃ es clock,w.heap[M]?=some (.map es clock)∧Aa es.toList is 0
theorem MapAt.lt {w:World} {M:Nat} {is:List (List UInt8)} (h:MapAt w M is):M<w.heap.size:=by
 obtain⟨es,c,h1,-⟩:=h;exact(Array.getElem?_eq_some_iff.1 h1).1
theorem MapAt.of_eq {w w':World} {M:Nat} {is:List (List UInt8)} (h:MapAt w M is) (hb:w'.heap[M]?=w.heap[M]?):MapAt w' M is:=by
 obtain⟨es,c,h1,h2⟩:=h;exact⟨es,c,hb.trans h1,h2⟩
theorem MapAt.keep {w w':World} {M:Nat} {is:List (List UInt8)} (h:MapAt w M is) (hk:Keep w w'):MapAt w' M is:=h.of_eq (hk.block M h.lt)
theorem MapAt.new (w:World):MapAt (w.alloc (.map #[] 0)) w.heap.size []:=⟨#[],0,heap_alloc_new w _,trivial⟩
theorem MapAt.look {w:World} {M:Nat} {is:List (List UInt8)} (h:MapAt w M is) {l:List UInt8} {cs:Array Value} (hc:aX l cs) (hl:l.length=32) :
  (Instr.lookup 140 (.map (some M)) (.agg cs) true).run prog w = .ok (.tuple #[.int .i64 (((lh is l).getD 0:Nat):Int),.bool (lh is l).isSome]) w:=by
 obtain⟨es,c,h1,h2⟩:=h;have hz:(zeroValue 3).run prog w = .ok (.int .i64 0) w:=by kernel_rfl
 rw[Instr.lookup];simp only[Sem.run_bind,Sem.run_pure,run_underlying a4L,Result.andThen_ok,MapKept.run_getObj_map h1,a6j hc hl,a6i hc hl w h2]
 cases lh is l with
 | none=>simp[hz]
 | some n=>simp
theorem MapAt.write {w:World} {M:Nat} {is:List (List UInt8)} (h:MapAt w M is) {l:List UInt8} {cs:Array Value} (hc:aX l cs) (hl:l.length=32) (hn:lh is l=none) :
  ∃ w',(Instr.mapUpdate 140 (.map (some M)) (.agg cs) (.int .i64 (is.length:Int))).run prog w = .ok () w'∧MapAt w' M (is++[l])∧w.grownBy w' (some M):=by
 obtain⟨es,c,h1,h2⟩:=h;have hf:=a6i hc hl w h2;rw[hn]at hf;refine⟨setBlock w M (.map (es.push { key:=.agg cs,val:=.int .i64 (is.length:Int),born:=c}) (c+1)),?_,⟨_,_,heap_setBlock_same h1 _,?_⟩,⟨rfl,rfl,rfl,by simp[setBlock],fun i _ hi=>heap_setBlock_other h1 _ (fun e=>hi (by rw[e]))⟩⟩
 ·rw[Instr.mapUpdate]
  simp only[Sem.run_bind,Sem.run_pure,run_underlying a4L,Result.andThen_ok,MapKept.run_getObj_map h1,a6j hc hl,hf,Option.map_none,MapKept.run_setObj_map _ h1];rfl
 ·rw[Array.toList_push]
  exact h2.push rfl hc (by simp) hl
theorem c1l {w:World} {o:Oper} {a:Act} {K:Act→World→Prop} {Q:Exit→Act→World→Prop} {m x:Operand} (ho:o.op = .lookup 140 m x true)
  (M:Nat) (is:List (List UInt8)) (l:List UInt8) (cs:Array Value) (hm:a.eval m = .map (some M)) (hx:a.eval x = .agg cs) (h:MapAt w M is) (hc:aX l cs) (hl:l.length=32)
  (hK:K (a.put o.dst (.tuple #[.int .i64 (((lh is l).getD 0:Nat):Int),.bool (lh is l).isSome])) w):o.wp prog a w K Q:=by
 have hrun:=h.look hc hl;unfold Oper.wp execOp;simp only[ho,hm,hx,hrun,Sem.run_bind,Sem.run_pure,Result.andThen_ok];exact hK
theorem c1n {w:World} {o:Oper} {a:Act} {K:Act→World→Prop} {Q:Exit→Act→World→Prop} {m x v:Operand} (ho:o.op = .mapUpdate 140 m x v)
  (M:Nat) (is:List (List UInt8)) (l:List UInt8) (cs:Array Value) (hm:a.eval m = .map (some M)) (hx:a.eval x = .agg cs) (hv:a.eval v = .int .i64 (is.length:Int)) (h:MapAt w M is) (hc:aX l cs) (hl:l.length=32) (hn:lh is l=none)
  (hK : ∀ w',MapAt w' M (is++[l])→w.grownBy w' (some M)→K (a.put o.dst undef) w'):o.wp prog a w K Q:=by
 obtain⟨w',hrun,h1,h2⟩:=h.write hc hl hn;unfold Oper.wp execOp;simp only[ho,hm,hx,hv,hrun,Sem.run_bind,Sem.run_pure,Result.andThen_ok];exact hK w' h1 h2
theorem a7j {w:World} {ops:Array Oper} {rest:List Oper} {a:Act} {Q:Exit→Act→World→Prop} {m x v:Operand} {dst:Option Tmp} {ty:TypeId} {pos:String} {eG:Array Edge}
  (M:Nat) (is:List (List UInt8)) (l:List UInt8) (cs:Array Value) (hm:a.eval m = .map (some M)) (hx:a.eval x = .agg cs) (hv:a.eval v = .int .i64 (is.length:Int)) (h:MapAt w M is) (hc:aX l cs) (hl:l.length=32) (hn:lh is l=none)
  (hK : ∀ w',MapAt w' M (is++[l])→w.grownBy w' (some M)→wpList prog ops Q rest (a.put dst undef) w') :
  wpList prog ops Q ({ dst:=dst,op:=.mapUpdate 140 m x v,type:=ty,pos:=pos,after:=eG,guard:=none}::rest) a w :=
 wpList_plain rfl fun _ hK'=>c1n rfl M is l cs hm hx hv h hc hl hn fun w' h1 h2=>hK' _ _ (hK w' h1 h2)
end Go.Proofs.YtiagcenlnekdeaaGreatDoor
namespace Go.Proofs.YtiagcenlnekdeaaGreatDoor
open Go.RowKit
attribute [local go_sem ↓] Go.wp_at_zero Go.wp_at_succ
theorem WB:(prog.info? 81).map (·.size)=some 106:=by kernel_rfl
structure iY (n:Nd) (cs:Array Value):Prop where
 l:cs.toList=n.cells
 z:cs.size=106
 i:(prog.info? 81).map (·.size)=some cs.size
 n : ¬ cs = #[]
 o : ∀ v∈cs.toList,v.oneCell'=true
theorem iY.of {n:Nd} (hk:n.ok):iY n n.cells.toArray:=by
 have hz:n.cells.toArray.size=106:=by rw[List.size_toArray];exact Nd.len hk
 exact⟨rfl,hz,by rw[hz];exact WB,fun e=>by rw[e]at hz;simp at hz,n.one⟩
theorem iY.eq {n:Nd} {cs ds:Array Value} (h:iY n cs) (g:iY n ds):cs=ds:=by
 have:=h.l.trans g.l.symm
 rw[←Array.toArray_toList (xs:=cs),this,Array.toArray_toList]
def nd0:Nd:=⟨z32,⟨0,z32,z32,0,0,0⟩,0,0,0⟩
theorem a4Y:nd0.ok:=⟨rfl,⟨rfl,rfl⟩,Nat.two_pow_pos _⟩
noncomputable def EC:Array Value:=match(prog.info? 81).bind (·.zero)with | some (.agg c)=>c | _ => #[]
theorem XL:EC.size=106:=by kernel_rfl
theorem c1P (w:World):(zeroValue 81).run prog w = .ok (.agg EC) w:=by kernel_rfl
theorem c1N:prog.built 81 []=some EC:=by kernel_rfl
theorem b7m:nd0.cells=z32.map ah++(Hd.cells ⟨0,z32,z32,0,0,0⟩++[.int .i64 0,.int .i64 0,.int .u64 0,.int .u64 0,.int .u64 0,.int .u64 0]):=by
 simp[Nd.cells,nd0,uL,n64,Ea]
theorem c1O:EC.toList=nd0.cells:=by
 rw[b7m];kernel_rfl
theorem yC : ∃ zs:Array Value,zs.size=106∧(∀ w,(zeroValue 81).run prog w = .ok (.agg zs) w)∧¬ zs = #[]∧Hid (zs.toList=nd0.cells)∧Hid (prog.built 81 []=some zs) :=
 ⟨EC,XL,c1P,(show ¬ EC = #[] from fun h=>by have e:=XL;rw[h]at e;cases e),hid c1O,hid c1N⟩
theorem P6:dL prog 139 81 (Value.agg EC) 106 160:=dL.mk' underlying139 (by kernel_rfl) XL (by omega)
def vV (w:World) (T:Nat) (ns:List Nd):Prop:=∃ most A c M,ae w T 142 [.int .i64 most,.slice A ns.length c,.map (some M)]∧Rd w A (ns.flatMap Nd.cells)∧MapAt w M (ns.map Nd.id)∧ns.length≤c∧c≤maxLen
theorem vV.keep {w w':World} {T:Nat} {ns:List Nd} (h:vV w T ns) (hk:Keep w w'):vV w' T ns:=by
 obtain⟨m,A,c,M,h1,h2,h3,h4⟩:=h;exact⟨m,A,c,M,h1.keep hk,h2.keep hk,h3.keep hk,h4⟩
structure gm (w:World) (base T M:Nat) (v:Value) (most:Int) (ns:List Nd):Prop where
 b:ae w T 142 [.int .i64 most,v,.map (some M)]
 o:w.ownsRow base 81 106 v ns.length (ns.flatMap Nd.cells)
 m:MapAt w M (ns.map Nd.id)
 AP:base≤T
 AO:base≤M
 ne:T≠M
 xq:v.ownBlock≠some T
 zS:v.ownBlock≠some M
theorem gm.r {w:World} {base T M:Nat} {v:Value} {most:Int} {ns:List Nd} (h:gm w base T M v most ns):vV w T ns:=by
 obtain⟨A,c,rfl,h1,h2,h3⟩:=dD h.o;exact⟨most,A,c,M,h.b,h3,h.m,h1,h2⟩
theorem gm.keep {w w':World} {base T M:Nat} {v:Value} {most:Int} {ns:List Nd} (h:gm w base T M v most ns) (hk:Keep w w'):gm w' base T M v most ns :=
 ⟨h.b.keep hk,jM h.o hk,h.m.keep hk,h.AP,h.AO,h.ne,h.xq,h.zS⟩
abbrev pT (T:Nat):Value:=.pointer (some ⟨T,0,none⟩)
theorem P7 {w:World} {A:Option Addr} {ns:List Nd} (hr:Rd w A (ns.flatMap Nd.cells)) (hk : ∀ n∈ns,n.ok) {k:Nat} (h:k<ns.length) :
  ∃ b off,A=some ⟨b,off,none⟩∧b<w.heap.size∧w.rangeAt b (off+k*106) ns[k].cells:=by
 have hlen : ∀ a∈ns,(Nd.cells a).length=106:=fun a ha=>Nd.len (hk a ha);obtain⟨b,off,rfl,hb,F⟩:=hr.at (k:=k*106) (by rw[rF _ 106 _ hlen];omega);refine⟨b,off,rfl,hb,fun j v hv=>?_⟩;have hj:j<106:=by rw[←hlen ns[k] (List.getElem_mem h)];exact(List.getElem?_eq_some_iff.1 hv).1
 have hg:=JW Nd.cells 106 ns hlen k j h hj;have hlt:k*106+j<(ns.flatMap Nd.cells).length:=by rw[rF _ 106 _ hlen];omega
 have hc:=F (k*106+j) hlt;rw[Nat.add_assoc,hc,←hv,←hg,List.getElem?_eq_getElem hlt]
theorem MB (T:Nat) (ns:List Nd) (w:World) (h:vV w T ns):Calls prog 30 #[pT T] w fun e w'=>e = .returned (iv ns.length)∧Keep w w':=by
 obtain⟨most,A,c,M,hb,-,-,-,-⟩:=h;have c1:=hb.cell 1;simp only[List.getElem?_cons_succ,List.getElem?_cons_zero]at c1;clear hb;generalize ns.length=n at *;go_enter func30,ntmps30
 go_wp2
 exact bodyPost_ret (v:=iv n) (by simp[results,results30]) rfl ⟨rfl,Below.refl _ _⟩
theorem U3 (T:Nat) (ns:List Nd) (id:List UInt8) (cs:Array Value) (w:World) (h:vV w T ns) (hl:id.length=32) (hcs:aX id cs) :
  Calls prog 68 #[pT T,.agg cs] w fun e w'=>e = .returned (.tuple #[iv ((fB ns id).getD 0:Nat),.bool (fB ns id).isSome])∧Keep w w':=by
 obtain⟨most,A,c,M,hb,-,hm,-,-⟩:=h;have e:lh (ns.map Nd.id) id=fB ns id:=by unfold lh fB;rw[List.findIdx?_map];rfl
 have b0v:Hid (∀ y,Keep w y→MapAt y M (ns.map Nd.id)):=hid fun y hy=>hm.keep hy;have E1:Hid ((lh (ns.map Nd.id) id).isSome=(fB ns id).isSome):=hid (by rw[e]);have E2:Hid ((lh (ns.map Nd.id) id).getD 0=(fB ns id).getD 0):=hid (by rw[e]);have HB:=hid hb;have dh:=hid hcs;have pO:=hid hl;have hcz:=hcs.z;have hcn:=hcs.n;have hci:=hcs.i
 clear hb hm e hcs hl;generalize (fB ns id).isSome=is at *;generalize (fB ns id).getD 0=fi at *;generalize ns.length=n at *;go_enter func68,ntmps68
 go_upto_region 3 with fail
 obtain⟨w1,hw1,NG,ai,-⟩:=di w 27 cs;have HB1:Hid (ae w1 T 142 [.int .i64 most,.slice A n c,.map (some M)]):=hid (HB.out.keep ai.out);rw[←hw1];clear hw1 HB;refine bu (.take [0,1,2,3,4] (.force [5] (.take [6,7,8,9,10] .done))) [] (by kernel_rfl) (by kernel_rfl) (fun w9 k9=>?_);have eY:=hid (HB1.out.keep k9);have a8B:=hid (NG.out.keep k9);have bP:=hid (af ai.out k9);have q2:=aF (eY.out.cell 2);have RC:Hid (w9.rangeAt w.heap.size 0 cs.toList):=hid (cu a8B.out 0 cs.toList (by simp[List.take_of_length_le]));clear k9 HB1 NG ai;refine aN w9 (Below.refl _ _) ?_;simp only[au,ax,ak,aj]
 repeat(first
  | ((with_reducible refine jY w.heap.size 0 cs (Eq.trans ?_ rfl) RC.out _ underlying27 rfl hci (Eq.trans ?_ rfl) ?_);rfl;rfl;simp only[Act.put,Array.set!_eq_setIfInBounds,List.setIfInBounds_toArray,List.set_cons_succ,List.set_cons_zero])
  | go_big_quiet_step (fail))
 refine wpQuiet_nil (bI ?_);simp only[au,ax,ak,aj];refine aI rfl (fun K hK=>?_);refine c1l (by rfl) M (ns.map Nd.id) id cs (by rfl) (by rfl) (b0v.out _ bP.out) dh.out pO.out ?_;rw[E1.out,E2.out];refine hK _ _ (Below.refl _ _) ?_;simp only[Act.put,Array.set!_eq_setIfInBounds,List.setIfInBounds_toArray,List.set_cons_succ,List.set_cons_zero];clear hK K q2 RC;refine aS (aN w9 (Below.refl _ _) ?_);simp only[au,ax,ak,aj];repeat(go_big_quiet_step (fail))
 refine wpQuiet_nil (aT ?_);go_wp2
 exact bodyPost_ret (v:=.tuple #[iv (fi:Nat),.bool is]) (by simp[results,results68]) rfl ⟨rfl,bP.out⟩
def fD (ns:List Nd) (i:Int):Option Nd:=if 0≤i then ns[i.toNat]? else none
theorem LC (ns:List Nd) (i:Nat):fD ns (i:Int)=ns[i]?:=by unfold fD;rw[if_pos (by omega)];simp
theorem LD (T:Nat) (ns:List Nd) (i:Int) (w:World) (h:vV w T ns) (hk : ∀ n∈ns,n.ok) (hl:ns.length≤1048576) (hi : -9223372036854775808≤i∧i≤9223372036854775807) :
  Calls prog 28 #[pT T,iv i] w fun e w' => ∃ ds,e = .returned (.tuple #[.agg ds,.bool (fD ns i).isSome])∧iY ((fD ns i).getD nd0) ds∧Keep w w':=by
 have LN:Hid (∀ y,Keep w y→Calls prog 30 #[pT T] y fun e w'=>e = .returned (iv ns.length)∧Keep y w'):=hid fun y hy=>MB T ns y (h.keep hy);obtain⟨most,A,c,M,hb,hr,-,-,-⟩:=h
 have HAT:Hid (∀ k,k<ns.length→i=k → ∃ b off,A=some ⟨b,off,none⟩∧∃ xs,iY ((fD ns i).getD nd0) xs∧(fD ns i).isSome=true∧w.rangeAt b (off+k*106) xs.toList):=hid fun k hlt e=>by
  obtain⟨b,off,h1,-,h2⟩:=P7 hr hk hlt;refine⟨b,off,h1,ns[k].cells.toArray,?_,?_,h2⟩
  ·rw[e,LC,List.getElem?_eq_getElem hlt];exact iY.of (hk _ (List.getElem_mem hlt))
  ·rw[e,LC,List.getElem?_eq_getElem hlt];rfl
 have Ai:Hid (i<0∨(ns.length:Int)≤i→fD ns i=none):=hid fun e=>by
  unfold fD;by_cases h0:0≤i
  ·rw[if_pos h0,List.getElem?_eq_none (by omega)]
  ·rw[if_neg h0]
 have HB:=hid hb;clear hb hr hk;obtain⟨zs,hz1,hz2,hz3,jb,nZ⟩:=yC;have hzi:(prog.info? 81).map (·.size)=some zs.size:=by rw[hz1];exact WB
 have TU:Hid (∀ v∈zs.toList,v.oneCell'=true):=hid (by rw[jb.out];exact Nd.one _);have Js:Hid (fD ns i=none→iY ((fD ns i).getD nd0) zs):=hid fun e=>by rw[e];exact⟨jb.out,hz1,hzi,hz3,TU.out⟩
 clear jb;generalize fD ns i=O at *;generalize ns.length=n at *;go_enter func28,ntmps28
 go_upto_region 1 with fail
 obtain⟨w1,hw1,HR1,ai,-⟩:=di w 81 zs;rw[←hw1];clear hw1;by_cases h0:i<0
 ·have hO:=Ai.out (Or.inl h0)
  have hA:=Js.out hO;obtain⟨w8,fQ,hb8,aZ⟩:=bn (P:=prog) zs.toList HR1.out rfl TU.out;have aY:=hid hb8;have bf:=hid aZ
  subst hO;have HA:=hid hA;clear hb8 aZ hA Ai HAT LN Js;go_wp2_with ((with_reducible refine kT [] zs (Eq.trans ?_ rfl) nZ.out ?_);rfl)
  exact bodyPost_ret (v:=.tuple #[.agg zs,.bool false]) (lq results28 aY.out underlying81 hzi rfl rfl) rfl ⟨zs,rfl,HA.out,aK ai.out bf.out (by omega)⟩
 have d0 : ¬ i<0:=h0;go_wp2_with fail
 refine(LN.out _ ai.out).mono ?_;clear LN;rintro e w2 ⟨rfl,k2⟩;have HR2:=hid (HR1.out.keep k2);have ay:=hid (af ai.out k2);clear k2 HR1 ai;by_cases h1:(n:Int)≤i
 ·have hO:=Ai.out (Or.inr h1)
  have hA:=Js.out hO;obtain⟨w8,fQ,hb8,aZ⟩:=bn (P:=prog) zs.toList HR2.out rfl TU.out;have aY:=hid hb8;have bf:=hid aZ
  subst hO;have HA:=hid hA;clear hb8 aZ hA Ai HAT Js;go_wp2_with ((with_reducible refine kT [] zs (Eq.trans ?_ rfl) nZ.out ?_);rfl)
  exact bodyPost_ret (v:=.tuple #[.agg zs,.bool false]) (lq results28 aY.out underlying81 hzi rfl rfl) rfl ⟨zs,rfl,HA.out,aK ay.out bf.out (by omega)⟩
 obtain⟨k,rfl⟩ : ∃ k:Nat,i=k:=⟨i.toNat,by omega⟩
 have hkn:k<n:=by omega
 obtain⟨b,off,rfl,xs,hxs,hO,hrx⟩:=HAT.out k hkn rfl;have HX:Hid (w2.rangeAt b (off+k*106) xs.toList):=hid fun i v hv=>aC ay.out (hrx i v hv);have hxz:=hxs.z;have zA:=hxs.n;have hxi:=hxs.i
 obtain⟨w8,fQ,hb8,aZ⟩:=bn (P:=prog) xs.toList HR2.out (by simp[hz1,hxz]) hxs.o;have aY:=hid hb8;have bf:=hid aZ
 have Hxs:=hid hxs;obtain⟨nx,rfl⟩:=Option.isSome_iff_exists.1 hO;have hc:=(HB.out.keep ay.out).cell 1;simp only[List.getElem?_cons_succ,List.getElem?_cons_zero]at hc;clear hb8 aZ hxs hrx Ai HAT Js;go_wp2_with ((with_reducible refine dw b (off+k*106) xs (Eq.trans ?_ rfl) HX.out _ underlying81 rfl hxi rfl ?_);rfl)
 exact bodyPost_ret (v:=.tuple #[.agg xs,.bool true]) (lq results28 aY.out underlying81 hxi rfl rfl) rfl ⟨xs,rfl,Hxs.out,aK ay.out bf.out (by omega)⟩
end Go.Proofs.YtiagcenlnekdeaaGreatDoor
