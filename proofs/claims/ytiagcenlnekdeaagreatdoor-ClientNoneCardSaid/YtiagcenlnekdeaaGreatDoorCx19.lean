/- Texts merged by pack.py: Ro, Rmk, Re, Rpl, Rg, Rd, Rfe, Rsn, Rfd. -/
import Derived.Test.YtiagcenlnekdeaaGreatDoorCx16
import Derived.Test.YtiagcenlnekdeaaGreatDoorCx18
import Derived.Test.YtiagcenlnekdeaaGreatDoorCx7
import Derived.RangeFuncBound
import Derived.RangeFuncCalls
import Derived.OwnWalkIn
import Derived.TacticsInMore
import Derived.LoopNIn
import Derived.LoopIn
import Derived.Test.YtiagcenlnekdeaaGreatDoorCx17
import Derived.Test.YtiagcenlnekdeaaGreatDoorCx9
import Derived.Shelf.Abstract
import Derived.Test.YtiagcenlnekdeaaGreatDoorCx10
import Derived.Test.YtiagcenlnekdeaaGreatDoorCx8
set_option maxRecDepth 1000000
set_option maxHeartbeats 16000000
open Go.Proofs.Tryz
open Go.Lib (hid)
set_option linter.unusedSimpArgs false
set_option linter.unusedVariables false
namespace Go.Proofs.YtiagcenlnekdeaaGreatDoor
open Go.RowKit
attribute [local go_sem] Oper.semAt_some
attribute [local go_sem ↓] Go.wp_at_zero Go.wp_at_succ
abbrev Ev:=(List UInt8 × List UInt8) × Int
def AY (g:UInt32) (most:Int):Nat→List UInt8→List Ev
 | 0,_=>[]
 | f+1,b=>((fP g most b).1,(fP g most b).2.2)::if(fP g most b).2.2=0 then AY g most f (b.drop (fP g most b).2.1)else[]
def evs (g:UInt32) (most:Int) (b:List UInt8):List Ev:=AY g most (b.length+1) b
structure bJ where
 c:List UInt8
 p:List UInt8
 P:Option Addr
 pc:Nat
 e:Int
def bJ.ev (x:bJ):Ev:=((x.c,x.p),x.e)
def bJ.vals (x:bJ):Array Value:=#[.agg #[.string (str x.c),.slice x.P x.p.length x.pc],iv x.e]
def bJ.at_ (x:bJ) (W:World):Prop:=x.p.length≤x.pc∧x.pc≤maxLen∧Rd W x.P (x.p.map ah)
theorem FX {g:UInt32} {most:Int} {b:List UInt8} (h:(fP g most b).2.2=0):24≤(fP g most b).2.1∧(fP g most b).2.1≤b.length∧fP g most b=((wB b,kP b),24+rH b,0):=by
 unfold fP at h ⊢;by_cases h1 : ¬ b.take 4=(le4 g).take b.length
 ·rw[if_pos h1]at h;cases h
 rw[if_neg h1]at h ⊢;by_cases h2:b.length<24
 ·rw[if_pos h2]at h;cases h
 rw[if_neg h2]at h ⊢;by_cases h3:wz (wB b)=false
 ·rw[if_pos h3]at h;cases h
 rw[if_neg h3]at h ⊢;by_cases h4:iC most<rH b
 ·rw[if_pos h4]at h;cases h
 rw[if_neg h4]at h ⊢;by_cases h5:b.length<24+rH b
 ·rw[if_pos h5]at h;cases h
 rw[if_neg h5]at h ⊢;by_cases h6 : ¬ (jH (kP b)).take 4=(b.drop 20).take 4
 ·rw[if_pos h6]at h;cases h
 rw[if_neg h6]at h ⊢;exact⟨Nat.le_add_right _ _,by show 24+rH b≤b.length;omega,rfl⟩
def KZ (w:World) (bb:Nat):Nat:=match w.cell? ⟨bb,0,none⟩with | some (.slice _ n _)=>n | _=>0
theorem a1S:prog.elem 32=5:=by kernel_rfl
theorem a6w (A:Option Addr) (N c k:Nat) (h:k≤N) (hc:N≤c) (y:World):(Instr.slice 32 (.slice A N c) (some (.int .i64 (k:Int))) none none).run prog y = .ok (.slice (if c=k then A else A.map (·.add (k*1))) (N - k) (c - k)) y:=by
 rw[run_slice_l y 32 A N c (by rw[a1S];exact underlying32) .i64 (k:Int) (by omega) (by omega),a1S,GV,Result.andThen_ok,sliced];rfl
theorem b7k (g:UInt32) (most:Int) (b:List UInt8) (l B gb mb bb:Nat) (X:Nat→Prop) (w0:World) (J:List bJ→World→Prop) (W:World)
  (hJ : ∀ pre A C,J pre A→Nv bb A C→J pre C)
  (hY : ∀ pre x wr W,J pre wr→Keep wr W→(bJ.at_ x W∧lF wr.heap.size x.P x.p.length∧∃ post,pre.map bJ.ev++x.ev::post=evs g most b)→YieldAt Fence.wide 0 prog l x.vals W (fun e W'=>e = .returned (.bool true)∧J (pre++[x]) W'∧ed B X W W'))
  (A:Option Addr) (c:Nat) (hb:b.length≤1000000000) (hc:b.length≤c∧c≤maxLen)
  (hR : ∀ y,ed B (fun k=>X k∨k=bb) w0 y→Rd y A (b.map ah)) (hS : ∀ y,ed B (fun k=>X k∨k=bb) w0 y→bV y)
  (hB:gb<B∧mb<B∧bb<B) (hX : ¬ X gb∧¬ X mb∧¬ X bb) (hd:gb≠bb∧mb≠bb)
  (hW:ed B (fun k=>X k∨k=bb) w0 W) (cg:ae W gb 22 [ag g]) (cm:ae W mb 3 [iv most]) (cb:ae W bb 32 [.slice A b.length c]) (h0:J [] W) :
  Calls prog 189 #[.func (.yield l) #[] #[],.pointer (some ⟨gb,0,none⟩),.pointer (some ⟨mb,0,none⟩),.pointer (some ⟨bb,0,none⟩)] W fun e W'=>(∃ v,e = .returned v)∧∃ xs:List bJ,xs.map bJ.ev=evs g most b∧J xs W':=by
 refine(callsIn_wide (n:=1)).1 ?_;have HJ:=hid hJ;have gQ:=hid hY;have HB:=hid hB;have HX:=hid hX;have HD:=hid hd;have HS:=hid hS
 have HW:=hid hW;have a8D:=hid cg;have HCM:=hid cm;have Io:=hid cb;have H0:=hid h0;have HRR:=hid hR
 have yH:=hid hb;have a8C:=hid hc
 clear hJ hY hB hX hd hS hW cg cm cb h0 hR hb hc;refine callsIn_of_wp func189 rfl trivial ?_;simp only[ntmps189,List.size_toArray,List.length_cons,List.length_nil,Nat.reduceAdd,Nat.reduceSub,Array.replicate_succ,Array.replicate_zero,List.push_toArray,List.append_toArray,List.nil_append,List.cons_append]
 apply wpIn_block
 gi_loopw [6] (fun _ wr => ∃ (pre:List bJ) (f:Nat) (r:List UInt8) (A':Option Addr) (c':Nat),Hid (pre.map bJ.ev++AY g most f r=evs g most b)∧Hid (r.length<f)∧Hid (r.length≤1000000000)∧Hid (r.length≤c'∧c'≤maxLen)∧Hid (∀ y,ed B (fun k=>X k∨k=bb) w0 y→Rd y A' (r.map ah))∧Hid (ed B (fun k=>X k∨k=bb) w0 wr)∧Hid (ae wr gb 22 [ag g])∧Hid (ae wr mb 3 [iv most])∧Hid (ae wr bb 32 [.slice A' r.length c'])∧Hid (J pre wr)) (fun _ wr=>KZ wr bb)
 case atStart=>exact⟨[],b.length+1,b,A,c,hid rfl,hid (Nat.lt_succ_self _),yH,a8C,HRR,HW,a8D,HCM,Io,H0⟩
 case round =>
  obtain⟨pre,f,r,A',c',HE,HF,HL,HC,HR',HWr,EM,yM,mO,a8M⟩:=hrel;have hB:=HB.out;have hX:=HX.out;have hd:=HD.out
  cases f with
  | zero=>exact absurd HF.out (Nat.not_lt_zero _)
  | succ f =>
    have GT:Hid (Calls prog 188 #[ag g,iv most,.slice A' r.length c'] wr (YN (fP g most r) wr)):=hid (a1Y g most A' r r.length c' wr rfl (HS.out wr HWr.out) HC.out HL.out (HR'.out wr HWr.out));have YY:Hid (AY g most (f+1) r=((fP g most r).1,(fP g most r).2.2)::if(fP g most r).2.2=0 then AY g most f (r.drop (fP g most r).2.1)else[]):=hid rfl;have qx:Hid ((fP g most r).2.2=0→24≤(fP g most r).2.1∧(fP g most r).2.1≤r.length):=hid fun h=>⟨(FX h).1,(FX h).2.1⟩
    rw[YY.out]at HE;generalize fP g most r=RES at *;obtain⟨⟨cmd,pl⟩,N,code⟩:=RES;clear YY;have g0:wr.cell? ⟨gb,0,none⟩=some (ag g):=(EM.out.cell 0).trans rfl;have m0:wr.cell? ⟨mb,0,none⟩=some (iv most):=(yM.out.cell 0).trans rfl;have b0:wr.cell? ⟨bb,0,none⟩=some (.slice A' r.length c'):=(mO.out.cell 0).trans rfl
    gi_wp2_with (refine⟨trivial,?_⟩;gi_at_call 188;refine(callsIn_wide.2 GT.out).mono ?_;rintro e w1 ⟨P,pc,rfl,hp1,hp2,hp3,KJ,k1⟩)
    clear GT g0 m0 b0;obtain⟨W2,hw2⟩ : ∃ W2,W2=w1.alloc (.cells #[.string (str cmd),.slice P pl.length pc] 150):=⟨_,rfl⟩
    have hk2:Keep wr W2:=by rw[hw2];exact af k1 ((Below.refl _ _).alloc (Nat.le_refl _) _)
    have hm2:W2.cell? ⟨w1.heap.size,0,none⟩=some (.string (str cmd)):=by rw[hw2];exact(ae.new w1 _ [.string (str cmd),.slice P pl.length pc]).cell 0
    have KI:Rd W2 P (pl.map ah):=by rw[hw2];exact hp3.alloc _
    rw[←hw2];clear hw2 k1 hp3;have hgi:Nv bb wr W2:=⟨G.a2i hk2 _,fun k o h1 _=>(hk2.block k (Array.getElem?_eq_some_iff.1 h1).1).trans h1⟩
    have Kv:ed B (fun k=>X k∨k=bb) wr W2:=⟨hk2.os,hk2.tape,hk2.output,hk2.size,fun k _ h2 _=>hk2.block k h2⟩
    obtain⟨fn,tmps,assign,body,hy,a2A⟩:=gQ.out pre ⟨cmd,pl,P,pc,code⟩ wr W2 a8M.out hk2 ⟨⟨hp1,hp2,KI⟩,KJ,_,HE.out⟩;have ay:=hid Kv;have HG2:Hid (ae W2 gb 22 [ag g]):=hid (EM.out.keep hk2);have pJ:Hid (ae W2 mb 3 [iv most]):=hid (yM.out.keep hk2);have HB2:Hid (ae W2 bb 32 [.slice A' r.length c']):=hid (mO.out.keep hk2);have Zi:=hid (show bb<W2.heap.size from HB2.out.lt);clear hgi Kv hk2 hm2 hp1 hp2 KI KJ gQ;have hy2:(Instr.yield l #[.agg #[.string (str cmd),.slice P pl.length pc],iv code]).run prog W2 = .ok (.round l fn tmps assign body) W2:=hy;clear hy;rw[hy2,Oper.uponIn_round];refine⟨fun h=>(by cases h),a2A.mono ?_⟩;clear hy2 a2A;rintro e W3 ⟨rfl,hJ3,zt⟩;have Zd:=hid hJ3;have hbk:W3.heap[bb]?=W2.heap[bb]?:=zt.block bb hB.2.2 Zi.out hX.2.2;have HB3:Hid (ae W3 bb 32 [.slice A' r.length c']):=hid (hbk.trans HB2.out);have BO:Hid (ae W3 gb 22 [ag g]):=hid ((zt.block gb hB.1 HG2.out.lt hX.1).trans HG2.out);have IQ:Hid (ae W3 mb 3 [iv most]):=hid ((zt.block mb hB.2.1 pJ.out.lt hX.2.1).trans pJ.out);have aA:Hid (ed B (fun k=>X k∨k=bb) w0 W3):=hid (HWr.out.trans (ay.out.trans ⟨zt.os,zt.tape,zt.output,zt.size,fun k h1 h2 h3=>zt.block k h1 h2 (fun q=>h3 (Or.inl q))⟩));clear hJ3 zt hbk HB2 HG2 pJ ay Zi;by_cases hcode:code=0
    ·have e1:(code != 0)=false:=by rw[hcode];rfl
     obtain⟨hN1,J4⟩:=qx.out hcode;have a8W:=hid hN1;have a8X:=hid J4
     have hsl : ∀ y,(Instr.slice 32 (.slice A' r.length c') (some (.int .i64 (N:Int))) none none).run prog y = .ok (.slice (if c'=N then A' else A'.map (·.add (N*1))) (r.length - N) (c' - N)) y:=fun y=>a6w A' r.length c' N J4 HC.out.1 y;obtain⟨A2,hA2⟩ : ∃ A2,A2=(if c'=N then A' else A'.map (·.add (N*1))):=⟨_,rfl⟩
     rw[←hA2]at hsl;have HA2:=hid hA2;have b3:W3.cell? ⟨bb,0,none⟩=some (.slice A' r.length c'):=(HB3.out.cell 0).trans rfl;have f3:=HB3.out.frozen 0
     have HE2:Hid ((pre++[(⟨cmd,pl,P,pc,code⟩:bJ)]).map bJ.ev++AY g most f (r.drop N)=evs g most b):=hid (by
      have q:=HE.out;rw[if_pos hcode]at q;rw[List.map_append,List.append_assoc]
      exact q)
     clear hcode hN1 J4 hA2 hB hX hd
     gi_wp2
     have hset:ae (W3.setCell ⟨bb,0,none⟩ (.slice A2 (r.length - N) (c' - N))) bb 32 [.slice A2 (r.length - N) (c' - N)]:=HB3.out.az 0 _
     have hle:KZ (W3.setCell ⟨bb,0,none⟩ (.slice A2 (r.length - N) (c' - N))) bb=r.length - N:=by
      unfold KZ;rw[hset.cell 0];rfl
     have b5d:KZ wr bb=r.length:=by
      unfold KZ;rw[mO.out.cell 0];rfl
     have hN1:=a8W.out;have J4:=a8X.out;have hF:=HF.out;have hL:=HL.out;have hC:=HC.out
     have hdl:(r.drop N).length=r.length - N:=List.length_drop ..
     go_roundw
     case rel =>
      refine⟨pre++[(⟨cmd,pl,P,pc,code⟩:bJ)],f,r.drop N,A2,c' - N,?_,hid (by omega),hid (by omega),hid ⟨by omega,by omega⟩,hid (fun y hy=>?_),hid ?_,hid (BO.out.far HD.out.1 _),hid (IQ.out.far HD.out.2 _),?_,hid (HJ.out _ _ _ Zd.out ⟨eH (iH _ _),fun k o h1 h2=>?_⟩)⟩
      ·exact HE2
      ·have q:=(HR'.out y hy).drop (k:=N) (cap:=c') (by rw[List.length_map];exact J4) (by rw[List.length_map];exact hC.1)
       rw[←HA2.out,←List.map_drop]at q;exact q
      ·exact aA.out.trans ⟨rfl,rfl,rfl,by rw[World.size_setCell];exact Nat.le_refl _,fun k h1 h2 h3=>Below.heap_setCell _ _ _ k (fun q=>h3 (Or.inr q))⟩
      ·rw[hdl];exact hid hset
      ·by_cases hkb:k=bb
       ·subst hkb
        rw[HB3.out]at h1;obtain rfl:=Option.some.inj h1
        cases h2
       ·exact(Below.heap_setCell _ _ _ k hkb).trans h1
     case measure=>rw[hle,b5d];omega
    ·have e1:(code != 0)=true:=by rw[bne_iff_ne];exact hcode
     have HE2:Hid ((pre++[(⟨cmd,pl,P,pc,code⟩:bJ)]).map bJ.ev=evs g most b):=hid (by
      have q:=HE.out;rw[if_neg hcode]at q;rw[List.map_append]
      exact q)
     clear hcode hB hX hd
     gi_wp2
     exact bodyPost_ret (results_none (by rfl) _ _ _) rfl ⟨⟨_,rfl⟩,_,HE2.out,Zd.out⟩
end Go.Proofs.YtiagcenlnekdeaaGreatDoor
namespace Go.Proofs.YtiagcenlnekdeaaGreatDoor
open Go.RowKit
attribute [local go_sem ↓] Go.wp_at_zero Go.wp_at_succ
theorem b7a (g:UInt32) (most:Int) (A:Option Addr) (n c:Nat) (w:World) :
  Calls prog 156 #[ag g,iv most,.slice A n c] w fun e w'=>e = .returned (.func (.func 189) #[] #[.pointer (some ⟨w.heap.size,0,none⟩),.pointer (some ⟨w.heap.size+1,0,none⟩),.pointer (some ⟨w.heap.size+2,0,none⟩)]) ∧
   (ae w' w.heap.size 22 [ag g]∧ae w' (w.heap.size+1) 3 [iv most]∧ae w' (w.heap.size+2) 32 [.slice A n c])∧w'.heap.size=w.heap.size+3∧Keep w w':=by
 go_enter func156,ntmps156
 go_wp2
 refine bodyPost_ret (v:=.func (.func 189) #[] #[.pointer (some ⟨w.heap.size,0,none⟩),.pointer (some ⟨w.heap.size+1,0,none⟩),.pointer (some ⟨w.heap.size+2,0,none⟩)]) (by simp[results,results156]) rfl ⟨rfl,⟨?_,?_,?_⟩,by simp,af (aB _ _) (af (aB _ _) (aB _ _))⟩
 ·exact(((ae.new w 22 [ag g]).alloc _).alloc _)
 ·have h2:=ae.new (w.alloc (.cells #[ag g] 22)) 3 [iv most]
  simp only[World.size_alloc]at h2;exact h2.alloc _
 ·have h2:=ae.new ((w.alloc (.cells #[ag g] 22)).alloc (.cells #[iv most] 3)) 32 [.slice A n c]
  simp only[World.size_alloc]at h2;exact h2
def mg (l:List Ev):Nat:=(l.map fun y=>24+y.1.2.length).sum
theorem UO (y:Ev) (l:List Ev):mg (y::l)=24+y.1.2.length+mg l:=by simp[mg]
theorem b2D (l m:List Ev):mg (l++m)=mg l+mg m:=by simp[mg]
theorem a2f {g:UInt32} {most:Int} {b:List UInt8} (h:(fP g most b).2.2=0):(fP g most b).2.1=24+(fP g most b).1.2.length:=by
 have e:=(FX h).2.2;have h2:=(FX h).2.1;rw[e]at h2 ⊢
 show 24+rH b=24+(kP b).length
 have h3:24+rH b≤b.length:=h2;unfold kP;rw[List.length_take,List.length_drop];omega
theorem a1V (g:UInt32) (most:Int) : ∀ (f:Nat) (b:List UInt8) (pre:List Ev) (x:Ev) (post:List Ev),pre++x::post=AY g most f b →
  (∀ y∈pre,y.2=0)∧mg pre≤b.length∧x=((fP g most (b.drop (mg pre))).1,(fP g most (b.drop (mg pre))).2.2)∧(x.2=0→24+x.1.2.length≤(b.drop (mg pre)).length)∧(x.2≠0→post=[])
 | 0,b,pre,x,post,h=>by
   have:pre++x::post=[]:=h
   simp at this
 | f+1,b,pre,x,post,h=>by
   unfold AY at h
   cases pre with
   | nil =>
     simp only[List.nil_append,List.cons.injEq]at h;obtain⟨rfl,hp⟩:=h;refine⟨fun y hy=>(by cases hy),Nat.zero_le _,rfl,fun h0=>?_,fun h0=>?_⟩
     ·have e1:=a2f h0
      have e2:=(FX h0).2.1
      show 24+(fP g most (b.drop 0)).1.2.length≤(b.drop 0).length
      rw[List.drop_zero];omega
     ·rw[if_neg h0]at hp;exact hp
   | cons y pre =>
     simp only[List.cons_append,List.cons.injEq]at h;obtain⟨rfl,hp⟩:=h;by_cases h0:(fP g most b).2.2=0
     ·rw[if_pos h0]at hp
      obtain⟨i1,i2,i3,i4,i5⟩:=a1V g most f _ pre x post hp;have e1:=a2f h0;have e2:=(FX h0).2.1
      have FT:(b.drop (fP g most b).2.1).drop (mg pre)=b.drop (mg (((fP g most b).1,(fP g most b).2.2)::pre)):=by
       rw[List.drop_drop,UO]
       show b.drop ((fP g most b).2.1+mg pre)=b.drop (24+(fP g most b).1.2.length+mg pre)
       rw[e1]
      rw[FT]at i3 i4;rw[List.length_drop]at i2;refine⟨fun z hz=>?_,?_,i3,i4,i5⟩
      ·rcases List.mem_cons.1 hz with rfl | hz
       ·exact h0
       ·exact i1 z hz
      ·rw[UO]
       show 24+(fP g most b).1.2.length+mg pre≤b.length
       omega
     ·rw[if_neg h0]at hp
      simp at hp
def Ef (l:List Ev):List Ev:=l.filter fun y=>y.2==0
theorem b7L {l:List Ev} (h : ∀ y∈l,y.2=0):Ef l=l:=by
 unfold Ef;exact List.filter_eq_self.2 fun y hy=>by rw[h y hy];rfl
theorem b8u {g:UInt32} {cmd pl:List UInt8} (hc:cmd.length≤12):(uM g cmd pl).length=24+pl.length:=by
 have h1:(le4 g).length=4:=rfl;have h2:(le4 (UInt32.ofNat pl.length)).length=4:=rfl;have h3:=uw pl;simp[uM,h1,h2,h3];omega
def bJ.Gp (x:bJ):List Value:=[.string (str x.c),.slice x.P x.p.length x.pc]
def nz (all:List UInt8) (E:List Ev):List UInt8 × Int:=match E.getLast? with
 | some y=>if y.2=0 then([],0)else if y.2=1 then(all.drop (mg (Ef E)),0)else([],y.2)
 | none=>([],0)
def okR (l:List bJ):List bJ:=l.filter fun x=>x.e==0
def iq (all:List UInt8) (pre:List bJ):List UInt8:=all.drop (mg (Ef (pre.map bJ.ev)))
def Stp (B bb:Nat) (W W':World):Prop:=∃ row,W.grownBy W' row∧∀ r,row=some r→r=bb∨(B≤r∧∃ o:Obj,W.heap[r]?=some o∧o.isCells=false)
section
variable {B bb:Nat} {W W':World}
theorem Stp.blk (h:Stp B bb W W') {k:Nat} {o:Obj} (ho:W.heap[k]?=some o) (hc:o.isCells=true) (hk:k≠bb):W'.heap[k]?=W.heap[k]?:=by
 obtain⟨row,hg,hr⟩:=h;refine hg.block k (Array.getElem?_eq_some_iff.1 ho).1 (fun e=>?_);rcases hr k e.symm with rfl | ⟨_,o',h1,h2⟩
 ·exact hk rfl
 ·rw[ho]at h1;cases h1;rw[hc]at h2;cases h2
theorem Stp.cell (h:Stp B bb W W') {b o:Nat} {v:Value} (hc:W.cell? ⟨b,o,none⟩=some v) (hb:b≠bb):W'.cell? ⟨b,o,none⟩=some v:=by
 obtain⟨ob,h1,h2⟩:=cells_of_cell hc;exact(World.cell?_of_block (h.blk h1 h2 hb)).trans hc
theorem Stp.ae (h:Stp B bb W W') {k:Nat} {t:TypeId} {cs:List Value} (hb:ae W k t cs) (hk:k≠bb):ae W' k t cs:=(h.blk hb rfl hk).trans hb
theorem Stp.kx (h:Stp B bb W W') {X:Nat→Prop} (hX:X bb) {w0:World} (hk:ed B X w0 W):ed B X w0 W':=by
 obtain⟨row,hg,hr⟩:=h;refine⟨hg.os.trans hk.os,hg.tape.trans hk.tape,hg.output.trans hk.output,Nat.le_trans hk.size hg.size,fun k h1 h2 h3=>(hg.block k (Nat.lt_of_lt_of_le h2 hk.size) (fun e=>?_)).trans (hk.block k h1 h2 h3)⟩;rcases hr k e.symm with rfl | ⟨h4,_⟩
 ·exact h3 hX
 ·omega
theorem Stp.LW (h:Stp B bb W W') (hB:bb<B) {row:Option Nat} {A:Option Addr} {xs:List Value} {n:Nat} (hr:dQ row W A xs) (hf:lF B A n) (hn:n=0→xs=[]):dQ row W' A xs:=by
 rcases hr with rfl | ⟨b,off,rfl,h2,h3⟩
 ·exact .inl rfl
 ·rcases hf with h0 | ⟨b',off',e,hb⟩
  ·exact .inl (hn h0)
  ·cases e
   exact .inr ⟨b,off,rfl,h2,fun j hj=>h.cell (h3 j hj) (by omega)⟩
theorem Stp.own (h:Stp B bb W W') (hB:bb<B) {e:TypeId} {size:Nat} {v:Value} {n:Nat} {xs:List Value} (ho:W.ownsRow B e size v n xs):W'.ownsRow B e size v n xs:=by
 refine⟨ho.1,?_⟩;rcases ho.2 with h1 | ⟨g,cap,cur,rfl,hb,hg,h4⟩
 ·exact .inl h1
 ·exact .inr ⟨g,cap,cur,rfl,hb,(h.blk hg rfl (by omega)).trans hg,h4⟩
end
def xH (g:UInt32) (n:Int) (cl:List UInt8) (B b6 b7 b8 bb:Nat) (w7:World) (pre:List bJ) (W:World):Prop :=
 ∃ (A':Option Addr) (c':Nat) (L:Option Addr) (lc:Nat) (RA:Option Addr) (rc:Nat),
   ed B (fun k=>(k=b6∨k=b7∨k=b8)∨k=bb) w7 W ∧
   (((iq cl pre).length≤c'∧c'≤maxLen)∧ae W b6 32 [.slice A' (iq cl pre).length c']∧∀ y,ed B (fun k=>(k=b6∨k=b7∨k=b8)∨k=bb) w7 y→Rd y A' ((iq cl pre).map ah)) ∧
   (ae W b8 219 [.slice L (okR pre).length lc]∧W.ownsRow B 150 2 (.slice L (okR pre).length lc) (okR pre).length ((okR pre).flatMap bJ.Gp)) ∧
   (∀ x∈okR pre,(x.p.length≤x.pc∧x.pc≤maxLen)∧dQ (Value.slice L (okR pre).length lc).ownBlock W x.P (x.p.map ah)∧lF B x.P x.p.length) ∧
   (ae W b7 50 (ik g n RA (nz cl (pre.map bJ.ev)).1.length rc (nz cl (pre.map bJ.ev)).2)∧((nz cl (pre.map bJ.ev)).1.length≤rc∧rc≤maxLen)∧dQ none W RA ((nz cl (pre.map bJ.ev)).1.map ah)∧lF B RA (nz cl (pre.map bJ.ev)).1.length)
theorem xH.a6D {g:UInt32} {n:Int} {cl:List UInt8} {B b6 b7 b8 bb:Nat} {w7:World} {pre:List bJ} {W W':World} (hB:bb<B) (hb:b6≠bb∧b7≠bb∧b8≠bb) (h:xH g n cl B b6 b7 b8 bb w7 pre W) (hs:Stp B bb W W'):xH g n cl B b6 b7 b8 bb w7 pre W':=by
 obtain⟨A',c',L,lc,RA,rc,h1,⟨h2,h3,h4⟩,⟨h5,h6⟩,h7,h8,h9,h10,h11⟩:=h;refine⟨A',c',L,lc,RA,rc,hs.kx (Or.inr rfl) h1,⟨h2,hs.ae h3 hb.1,h4⟩,⟨hs.ae h5 hb.2.2,hs.own hB h6⟩,fun x hx=>?_,hs.ae h8 hb.2.1,h9,?_,h11⟩
 ·obtain⟨q1,q2,q3⟩:=h7 x hx
  exact⟨q1,hs.LW hB q2 q3 (fun e=>by rw[List.eq_nil_of_length_eq_zero e];rfl),q3⟩
 ·exact hs.LW hB h10 h11 (fun e=>by rw[List.eq_nil_of_length_eq_zero e];rfl)
end Go.Proofs.YtiagcenlnekdeaaGreatDoor
namespace Go.Proofs.YtiagcenlnekdeaaGreatDoor
open Go.RowKit
attribute [local go_sem] Oper.semAt_some
attribute [local go_sem ↓] Go.wp_at_zero Go.wp_at_succ
theorem ed.keep {B:Nat} {X:Nat→Prop} {A C:World} (h:Keep A C):ed B X A C:=⟨h.os,h.tape,h.output,h.size,fun k _ h2 _=>h.block k h2⟩
theorem ed.grown {B:Nat} {X:Nat→Prop} {A C:World} {row:Option Nat} (h:A.grownBy C row) (hr : ∀ r,row=some r→B≤r∨X r):ed B X A C:=⟨h.os,h.tape,h.output,h.size,fun k h1 h2 h3=>h.block k h2 (fun e=>by
 rcases hr k e.symm with q | q
 ·omega
 ·exact h3 q)⟩
theorem Qe {w:World} {base:Nat} {e:TypeId} {size:Nat} {v:Value} {n:Nat} {xs:List Value} (h:w.ownsRow base e size v n xs) : ∀ r,v.ownBlock=some r→base≤r∧∃ o:Obj,w.heap[r]?=some o∧o.isCells=true:=by
 intro r hr;rcases h.2 with⟨rfl,_⟩ | ⟨g,cap,cur,rfl,hb,hg,_⟩
 ·cases hr
 ·have e:g=r:=by simpa[Value.ownBlock]using hr
  subst e;exact⟨hb,_,hg,rfl⟩
theorem A7 (w:World) (g o:Nat) (u:Value):w.grownBy (w.setCell ⟨g,o,none⟩ u) (some g):=⟨rfl,rfl,rfl,by rw[World.size_setCell];exact Nat.le_refl _,fun k _ hk=>Below.heap_setCell _ _ _ k (fun e=>hk (by rw[e]))⟩
theorem Ws:dL prog 219 150 (.agg #[.string ⟨#[]⟩,.slice none 0 0]) 2 40:=dL.mk' underlying219 (by kernel_rfl) rfl (by omega)
theorem b1E (v0 v1:Value) (y:World):(Instr.buildSlice 219 1 #[(0,.agg #[v0,v1])]).run prog y = .ok (.slice (some ⟨y.heap.size,0,none⟩) 1 1) (y.alloc (.cells #[v0,v1] 150)):=by
 obtain⟨i,hi,hiz,his,_⟩:=Ws.info;refine run_buildSlice y 219 150 1 _ #[v0,v1] i _ Ws.und hi hiz (by rw[his];decide) (by rw[his];decide) ?_;rw[his];rw[Dn (off:=0*2) (size:=2) rfl rfl (by simp)];rw[Instr.fill];simp[Value.cells]
theorem Qd {w:World} {B:Nat} {e:TypeId} {size:Nat} {v:Value} {n:Nat} {xs:List Value} (h:w.ownsRow B e size v n xs) {p:Addr} (hp:p.block<B) (u:Value):(w.setCell p u).ownsRow B e size v n xs:=by
 refine⟨h.1,?_⟩;rcases h.2 with h1 | ⟨g,cap,cur,rfl,hb,hg,h4⟩
 ·exact .inl h1
 ·exact .inr ⟨g,cap,cur,rfl,hb,(Below.heap_setCell _ _ _ g (by omega)).trans hg,h4⟩
theorem LX {w:World} {B n:Nat} {row:Option Nat} {A:Option Addr} {xs:List Value} (h:dQ row w A xs) (hf:lF B A n) (hn:n=0→xs=[]) {p:Addr} (hp:p.block<B) (u:Value):dQ row (w.setCell p u) A xs:=by
 rcases hf with h0 | ⟨b,off,rfl,hb⟩
 ·rw[hn h0];exact .inl rfl
 ·exact h.setCell' u (fun b' off' e=>by cases e;omega)
theorem Ee {p:List UInt8} (h:p.length=0):p.map ah=[]:=by rw[List.eq_nil_of_length_eq_zero h];rfl
theorem c06 {F:Fence} {n:Nat} {P:Program} {w:World} {ops:Array Oper} {rest:List Oper} {o:Oper} {a:Act} {Q:Exit→Act→World→Prop}
  (hg:o.guard=none) (s x:Operand) (t:TypeId) (hop:o.op=Op.call { callee:=Callee.builtin Builtin.append,args:=#[s,x],argTypes:=#[t,t]}) (v u v':Value) (w':World)
  (hs:a.eval s=v) (hx:a.eval x=u) (hrun:(Builtin.append_ #[t,t] o.type #[v,u]).run P w = .ok v' w') (h:wpListIn F n P ops Q rest (a.put o.dst v') w'):wpListIn F n P ops Q (o::rest) a w:=by
 refine wpListIn_plain hg fun K hK'=>?_;unfold Oper.wpIn;refine⟨?_,?_⟩
 ·simp[Oper.about,hop,resolve,Target.leads,Sem.run_pure]
 ·rw[Oper.semAt_plain F _ _ (by rw[hop];intro c hc';cases hc')]
  simp[execOp,hop,resolve,invoke,builtin,hs,hx,hrun,Result.andThen];exact hK' _ _ h
theorem b2E (l:List Ev):24*l.length≤mg l:=by
 induction l with
 | nil=>exact Nat.le_refl _
 | cons y l ih=>rw[UO,List.length_cons];omega
theorem b7M (l:List bJ):(okR l).length≤l.length:=List.length_filter_le ..
theorem b8I {w w':World} {B n q:Nat} {row:Option Nat} {A:Option Addr} {xs:List Value} (h:dQ row w A xs) (hf:lF B A n) (hn:n=0→xs=[]) (hg:w.grownBy w' (some q)) (hq:q<B):dQ row w' A xs:=by
 rcases hf with h0 | ⟨b,off,rfl,hb⟩
 ·rw[hn h0];exact .inl rfl
 ·rcases h with h1 | ⟨b',off',e,h2,h3⟩
  ·exact .inl h1
  ·cases e
   exact .inr ⟨b,off,rfl,h2,fun j hj=>qK hg (h3 j hj) (fun e=>by injection e with e;omega)⟩
theorem b73 {w w':World} {B:Nat} {e:TypeId} {size:Nat} {v:Value} {n q:Nat} {xs:List Value} (h:w.ownsRow B e size v n xs) (hg:w.grownBy w' (some q)) (hq:q<B):w'.ownsRow B e size v n xs:=by
 refine⟨h.1,?_⟩;rcases h.2 with h1 | ⟨g,cap,cur,rfl,hb,hgg,h4⟩
 ·exact .inl h1
 ·exact .inr ⟨g,cap,cur,rfl,hb,(hg.block g (Array.getElem?_eq_some_iff.1 hgg).1 (fun e=>by injection e with e;omega)).trans hgg,h4⟩
theorem b6j {w w':World} (h:Keep w w') {D:Nat} (o:Obj) (hD:w.heap.size≤D):Keep w (w'.putObj D o) :=
 ⟨h.os,h.tape,h.output,by rw[World.putObj_size];exact h.size,fun k hk=>(World.putObj_heap_other (by omega)).trans (h.block k hk)⟩
theorem a5n {pre:List bJ} {x:bJ} (h:x.e=0):okR (pre++[x])=okR pre++[x]:=by simp[okR,h]
theorem WH {pre:List bJ} {x:bJ} (h:x.e≠0):okR (pre++[x])=okR pre:=by simp[okR,h]
theorem LH (pre:List bJ):Ef (pre.map bJ.ev)=(okR pre).map bJ.ev:=by
 unfold Ef okR;rw[List.filter_map];rfl
theorem b8W {cl:List UInt8} {pre:List bJ} {x:bJ} (h:x.e=0):iq cl (pre++[x])=(iq cl pre).drop (24+x.p.length):=by
 unfold iq;rw[LH,LH,a5n h,List.map_append,b2D,List.drop_drop]
 congr 1
theorem Xe {cl:List UInt8} {pre:List bJ} {x:bJ} (h:x.e≠0):iq cl (pre++[x])=iq cl pre:=by
 unfold iq;rw[LH,LH,WH h]
theorem WN {cl:List UInt8} {pre:List bJ} {x:bJ}:nz cl ((pre++[x]).map bJ.ev)=if x.e=0 then([],0)else if x.e=1 then(iq cl pre,0)else([],x.e):=by
 have e:(pre++[x]).map bJ.ev=pre.map bJ.ev++[x.ev]:=by simp
 unfold nz;rw[e,List.getLast?_concat]
 show(if x.e=0 then _ else if x.e=1 then _ else _)=_
 by_cases h0:x.e=0
 ·rw[if_pos h0,if_pos h0]
 ·rw[if_neg h0,if_neg h0]
  by_cases h1:x.e=1
  ·rw[if_pos h1,if_pos h1]
   have:=Xe (cl:=cl) (pre:=pre) h0
   unfold iq at this ⊢;rw[←this,e]
  ·rw[if_neg h1,if_neg h1];rfl
theorem b7Y {cl:List UInt8} {pre:List bJ} (h : ∀ y∈pre.map bJ.ev,y.2=0):nz cl (pre.map bJ.ev)=([],0):=by
 unfold nz
 cases hl:(pre.map bJ.ev).getLast? with
 | none=>rfl
 | some y =>
   have:=h y (List.mem_of_getLast? hl)
   show(if y.2=0 then _ else _)=_
   rw[if_pos this]
theorem b3x (g:UInt32) (n:Int) (A:Option Addr) (c:Nat) (bs:Array Value) (hA:jD (ik g n A 0 c 0) bs) (hn:n=iC n) (C:Option Addr) (cl:List UInt8) (M cc:Nat) (w:World) (hM:cl.length=M) (hb:M≤1000000000) (hc:M≤cc∧cc≤maxLen) (hr:Rd w C (cl.map ah)) (hS:bV w) :
  Calls prog 109 #[.agg bs,.slice C M cc] w fun e w' => ∃ (ds:Array Value) (L:Option Addr) (lc:Nat) (xs:List bJ) (RA:Option Addr) (rc:Nat),e = .returned (.tuple #[.agg ds,.slice L (okR xs).length lc])∧xs.map bJ.ev=evs g n cl∧jD (ik g n RA (nz cl (evs g n cl)).1.length rc (nz cl (evs g n cl)).2) ds ∧
   ((nz cl (evs g n cl)).1.length≤rc∧rc≤maxLen∧Rd w' RA ((nz cl (evs g n cl)).1.map ah))∧Rd w' L ((okR xs).flatMap bJ.Gp)∧(∀ x∈okR xs,x.at_ w')∧Keep w w':=by
 have FS:Hid (∀ y,Calls prog 155 #[.agg bs] y fun e w'=>e = .returned (.bool true)∧Keep y w'):=hid fun y=>by
  have q:=a2d g n A c 0 bs hA y
  rwa[show zi n=true from decide_eq_true hn]at q
 have Hy:Hid (∀ y,Calls prog 107 #[ag g,iv n] y fun e w' => ∃ ks,e = .returned (.agg ks)∧jD (ik g n none 0 0 0) ks∧Keep y w'):=hid fun y=>by
  have q:=a14 g n y
  rwa[←hn]at q
 have a0q:Hid (∀ y,Calls prog 156 #[ag g,iv n,.slice C M cc] y fun e w'=>e = .returned (.func (.func 189) #[] #[.pointer (some ⟨y.heap.size,0,none⟩),.pointer (some ⟨y.heap.size+1,0,none⟩),.pointer (some ⟨y.heap.size+2,0,none⟩)]) ∧
   (ae w' y.heap.size 22 [ag g]∧ae w' (y.heap.size+1) 3 [iv n]∧ae w' (y.heap.size+2) 32 [.slice C M cc])∧w'.heap.size=y.heap.size+3∧Keep y w'):=hid fun y=>b7a g n C M cc y
 have b0u : ∀ ks:Array Value,(∀ v∈ks.toList,v.oneCell'=true)→(ks.all fun v=>v.oneCell')=true:=fun ks h=>by have q:=all_oneCell_toArray h;simpa using q
 obtain⟨zs,hz0,aU⟩:=XE;have hzn:=aU.n;have hzz:=aU.z
 have hbn:=hA.n;have hbz:=hA.z;have hbi:=hA.i
 have HZ:=hid aU;have dG:=hid hA
 have HM:=hid hM;have NR:=hid hb;have HC:=hid hc;have HR:=hid hr;have HS:=hid hS
 clear hA aU hn hM hb hc hr hS;refine(callsIn_wide (n:=1)).1 (callsIn_of_wp_marks func109 rfl trivial (wpIn_wide.2 ?_));simp only[ntmps109,List.size_toArray,List.length_cons,List.length_nil,Nat.reduceAdd,Nat.reduceSub,Array.replicate_succ,Array.replicate_zero,List.push_toArray,List.append_toArray,List.nil_append,List.cons_append];go_upto_region 1 with fail
 obtain⟨w1,hw1,H2,H4,ai,-⟩:=qF w 50 50 bs zs;rw[←hw1];clear hw1;go_upto_region 3 with(first | ((with_reducible refine bY w.heap.size bs (Eq.trans ?_ rfl) H2.out _ underlying50 rfl hbi ?_);rfl) | (go_at_call 155;refine(FS.out _).mono ?_;rintro e w2 ⟨rfl,k⟩;replace H2:=hid (H2.out.keep k);replace H4:=hid (H4.out.keep k);have ay:=hid (af ai.out k);clear k))
 replace H2:Hid (ae w2 w.heap.size 50 (ik g n A 0 c 0)):=by rw[←dG.out.l];exact H2
 have r0:w2.cell? ⟨w.heap.size,0,none⟩=some (ag g):=(H2.out.cell 0).trans rfl;have r1:w2.cell? ⟨w.heap.size,1,none⟩=some (iv n):=(H2.out.cell 1).trans rfl;have r2:w2.cell? ⟨w.heap.size,2,none⟩=some (.slice A 0 c):=(H2.out.cell 2).trans rfl;have r3:w2.cell? ⟨w.heap.size,3,none⟩=some (iv 0):=(H2.out.cell 3).trans rfl;go_upto_region 6 with fail
 obtain⟨w3,hw3,oH,hk3,-⟩:=mW w2 32 [.slice C M cc];replace hk3:=hk3.out;rw[←hw3];clear hw3;replace r0:=aC hk3 r0;replace r1:=aC hk3 r1;replace r2:=aC hk3 r2;have hb4:w.heap.size+1<w2.heap.size:=H4.out.lt;replace H4:=hid (H4.out.keep hk3);have aA:=hid (af ay.out hk3);clear hk3 r3 ai ay H2 FS;generalize w2.heap.size=b6 at *;go_upto_region 11 with(first | (go_at_call 107;refine(Hy.out _).mono ?_;rintro e w4 ⟨ks,rfl,mY,k⟩;replace oH:=hid (oH.out.keep k);replace H4:=hid (H4.out.keep k);have aQ:=hid (af aA.out k);replace r0:=aC k r0;replace r1:=aC k r1;have hkn:=mY.n;have hkz:=mY.z;have vw:=hid mY;have hst:(storeCells ⟨w4.heap.size,0,none⟩ ks.toList 0).run prog (w4.alloc (.cells zs 50)) = .ok () (w4.alloc (.cells ks 50)):=run_storeCells_new (P:=prog) w4 50 zs ks mY.i (hzz.trans mY.z.symm) (b0u _ mY.o);clear k mY))
 obtain⟨w5,hw5,-,hk5,-⟩:=di w4 50 ks;replace hk5:=hk5.out;have Ad:Hid (ae w5 w4.heap.size 50 (ik g n none 0 0 0)):=by rw[hw5,←vw.out.l];exact hid (ae.new w4 _ ks.toList)
 rw[←hw5];clear hw5;replace r0:=aC hk5 r0;replace r1:=aC hk5 r1;have hb6:b6<w4.heap.size:=oH.out.lt;replace H4:=hid (H4.out.keep hk5);replace oH:=hid (oH.out.keep hk5);have aJ:=hid (af aQ.out hk5);clear hk5 aA aQ Hy hst r2;generalize w4.heap.size=b7 at *;go_upto_region 12 with fail
 obtain⟨w6,hw6,cO,hk6,-⟩:=mW w5 219 [.slice none 0 0];replace hk6:=hk6.out;rw[←hw6];clear hw6;replace r0:=aC hk6 r0;replace r1:=aC hk6 r1;have hb7:b7<w5.heap.size:=Ad.out.lt;replace H4:=hid (H4.out.keep hk6);replace oH:=hid (oH.out.keep hk6);replace Ad:=hid (Ad.out.keep hk6);have bD:=hid (af aJ.out hk6);have hb8:w5.heap.size<w6.heap.size:=cO.out.lt;clear hk6 aJ;generalize w5.heap.size=b8 at *;have r6:w6.cell? ⟨b6,0,none⟩=some (.slice C M cc):=(oH.out.cell 0).trans rfl;go_wp2_with (go_at_call 156;refine(a0q.out _).mono ?_;rintro e w7 ⟨rfl,⟨k1,k2,k3⟩,k4,k⟩)
 have a3r:=k4;have HG:=hid k1;have Zo:=hid k2;have tH:=hid k3
 replace H4:=hid (H4.out.keep k);replace oH:=hid (oH.out.keep k);replace Ad:=hid (Ad.out.keep k);replace cO:=hid (cO.out.keep k);have bT:=hid (af bD.out k);clear k k1 k2 k3 k4 r0 r1 r6 bD a0q;obtain⟨gb,hgb⟩ : ∃ gb,gb=w6.heap.size:=⟨_,rfl⟩
 rw[←hgb]at HG Zo tH a3r hb8;rw[←hgb];clear hgb;have c3A:gb+3≤w7.heap.size:=by omega
 clear a3r
 have hkw : ∀ y,ed w7.heap.size (fun k=>(k=b6∨k=b7∨k=b8)∨k=gb+2) w7 y→Keep w y:=fun y hy =>
  ⟨hy.os.trans bT.out.os,hy.tape.trans bT.out.tape,hy.output.trans bT.out.output,Nat.le_trans bT.out.size hy.size,fun k hk=>(hy.block k (Nat.lt_of_lt_of_le hk bT.out.size) (Nat.lt_of_lt_of_le hk bT.out.size) (fun q=>by omega)).trans (bT.out.block k hk)⟩
 refine c1m (α:=bJ) (gf:=189) (lb:=#[.pointer (some ⟨gb,0,none⟩),.pointer (some ⟨gb+1,0,none⟩),.pointer (some ⟨gb+2,0,none⟩)]) rfl (enters_of func189 (by kernel_rfl) rfl) bJ.vals (fun _=>rfl)
  (fun pre x wr W=>bJ.at_ x W∧lF wr.heap.size x.P x.p.length∧∃ post,pre.map bJ.ev++x.ev::post=evs g n cl) (fun xs=>xs.map bJ.ev=evs g n cl) (gb+2) (fun k=>k=b6∨k=b7∨k=b8) (xH g n cl w7.heap.size b6 b7 b8 (gb+2) w7) ?hseq ?hGi ?hI ?h0 ?VQ ?hdone
 case hseq =>
  intro l J W1 hk hJ0 b3X hY;refine b7k g n cl l w7.heap.size gb (gb+1) (gb+2) (fun k=>k=b6∨k=b7∨k=b8) w7 J W1 b3X hY C cc (by have:=HM.out;have:=NR.out;omega) (by rw[HM.out];exact HC.out) ?_ ?_ ⟨by omega,by omega,by omega⟩ ⟨by omega,by omega,by omega⟩ ⟨by omega,by omega⟩ ⟨hk.os,hk.tape,hk.output,hk.size,fun k _ h2 _=>hk.block k h2⟩ (HG.out.keep hk) (Zo.out.keep hk) (by rw[HM.out];exact tH.out.keep hk) hJ0
  ·intro y hy
   exact HR.out.keep (hkw y hy)
  ·intro y hy
   exact HS.out.keep (hkw y hy)
 case hGi=>exact fun pre P1 P2 h hg=>xH.a6D (by omega) ⟨by omega,by omega,by omega⟩ h ⟨some (gb+2),hg.1,fun r e=>Or.inl (by cases e;rfl)⟩
 case hI=>exact fun pre P1 P2 row h hg hr=>xH.a6D (by omega) ⟨by omega,by omega,by omega⟩ h ⟨row,hg,fun r e=>Or.inr (hr r e)⟩
 case h0 =>
  have e0:iq cl []=cl:=rfl;unfold xH;rw[e0];refine⟨C,cc,none,0,none,0,ed.refl _ _ _,⟨by rw[HM.out];exact HC.out,by rw[HM.out];exact oH.out,fun y hy=>HR.out.keep (hkw y hy)⟩,⟨cO.out,⟨rfl,.inl ⟨rfl,rfl⟩⟩⟩,fun x hx=>(by cases hx),Ad.out,⟨Nat.le_refl _,Nat.zero_le _⟩,.inl rfl,Or.inl rfl⟩
 case VQ =>
  clear hkw;rintro l pre x wr W hl hi hkw ⟨hx,hf,post,hp⟩;obtain⟨A',c',L,lc,RA,rc,h1,⟨h2,h3,h4⟩,⟨h5,h6⟩,h7,h8,h9,h10,h11⟩:=hi;obtain⟨e0,e1,e2,e3,e4⟩:=a1V g n _ cl (pre.map bJ.ev) x.ev post hp;have a3J:iq cl pre=cl.drop (mg (pre.map bJ.ev)):=by unfold iq;rw[b7L e0]
  rw[←a3J]at e3;clear a3J;rw[b7Y e0]at h8 h9 h10 h11
  have hlen:(okR pre).length≤50000000:=by
   have q1:=b2E (pre.map bJ.ev);have q2:=b7M pre;have q3:=HM.out;have q4:=NR.out
   rw[List.length_map]at q1;omega
  have a3H : ∀ r,(Value.slice L (okR pre).length lc).ownBlock=some r→r<wr.heap.size:=fun r e=>by
   obtain⟨o,ho,_⟩:=(Qe h6 r e).2;exact(Array.getElem?_eq_some_iff.1 ho).1
  have hBr:w7.heap.size≤wr.heap.size:=h1.size;have hfB:lF w7.heap.size x.P x.p.length:=hf.mono hBr;have a3m:ed w7.heap.size (fun k=>(k=b6∨k=b7∨k=b8)∨k=gb+2) w7 W:=h1.trans (ed.keep hkw);replace h3:=h3.keep hkw;replace h5:=h5.keep hkw;replace h8:=h8.keep hkw;replace h6:=jM h6 hkw;have JY : ∀ y∈okR pre,(y.p.length≤y.pc∧y.pc≤maxLen)∧dQ (Value.slice L (okR pre).length lc).ownBlock W y.P (y.p.map ah)∧lF w7.heap.size y.P y.p.length:=fun y hy=>⟨(h7 y hy).1,(h7 y hy).2.1.keep hkw,(h7 y hy).2.2⟩
  clear h7 h1 hp e1 e2 e4;have hz : ∀ t:Array Value,(#[53,54].zip x.vals).foldl (fun t (p,v)=>t.setIfInBounds p v) t=(t.setIfInBounds 53 (.agg #[.string (str x.c),.slice x.P x.p.length x.pc])).setIfInBounds 54 (iv x.e):=fun t=>by simp[bJ.vals]
  rw[hz];simp only[List.setIfInBounds_toArray,List.set_cons_succ,List.set_cons_zero];clear hz;have Pv:w7.heap.size≤W.heap.size:=Nat.le_trans hBr hkw.size;have b46 : ∀ (o:Obj),(W.alloc o).heap[l]?=W.heap[l]?∨True:=fun _=>Or.inr trivial;clear b46
  gi_wp2
  obtain⟨Wa,hWa,hm,hka,-⟩:=mW W 150 [.string (str x.c),.slice x.P x.p.length x.pc];replace hka:=hka.out;replace hm:=hm.out;have a3l:KeepsFrom w7.heap.size W Wa:=by rw[hWa];exact(KeepsOthers.alloc _ _).from _
  rw[←hWa];clear hWa;refine⟨a3l,ed.keep hka,fun st xr hlr=>?_⟩;clear a3l;have hst:Stp w7.heap.size (gb+2) Wa (Wa.putObj l (.loop st)):=⟨some l,grownBy_putObj' _ _ _,fun r e=>by cases e;exact Or.inr ⟨hl,_,hlr,rfl⟩⟩
  have b5e:gb+2<W.heap.size:=by omega
  replace h3:=hst.ae (h3.keep hka) (show b6≠gb+2 by omega);replace h5:=hst.ae (h5.keep hka) (show b8≠gb+2 by omega);replace h8:=hst.ae (h8.keep hka) (show b7≠gb+2 by omega);replace h6:=hst.own (by omega) (jM h6 hka);replace hm:=hst.ae hm (by omega);have h7 : ∀ y∈okR pre,(y.p.length≤y.pc∧y.pc≤maxLen)∧dQ (Value.slice L (okR pre).length lc).ownBlock (Wa.putObj l (.loop st)) y.P (y.p.map ah)∧lF w7.heap.size y.P y.p.length:=fun y hy=>⟨(JY y hy).1,hst.LW (by omega) ((JY y hy).2.1.keep hka) (JY y hy).2.2 (fun e=>by rw[List.eq_nil_of_length_eq_zero e];rfl),(JY y hy).2.2⟩
  have Kv:=hst.kx (X:=fun k=>(k=b6∨k=b7∨k=b8)∨k=gb+2) (Or.inr rfl) (a3m.trans (ed.keep hka));have hxr:Rd W x.P (x.p.map ah):=hx.2.2
  have a3W : ∀ row:Option Nat,(∀ r,row=some r→r<wr.heap.size)→dQ row (Wa.putObj l (.loop st)) x.P (x.p.map ah):=fun row hrow=>by
   refine hst.LW (by omega) ?_ hfB (fun e=>by rw[List.eq_nil_of_length_eq_zero e];rfl);exact dQ.a5j (base:=wr.heap.size) (n:=x.p.length) ((hxr.keep hka)) hf (by simp) hrow
  have b37:w7.heap.size≤(Wa.putObj l (.loop st)).heap.size:=by rw[World.putObj_size];exact Nat.le_trans Pv hka.size
  obtain⟨bm,hbm⟩ : ∃ bm,bm=W.heap.size:=⟨_,rfl⟩
  rw[←hbm]at hm b5e;rw[←hbm];have c3i:w7.heap.size≤bm:=by omega
  have c3j:wr.heap.size≤bm:=by have:=hkw.size;omega
  clear hbm JY a3m hst hka hlr hxr;generalize Wa.putObj l (.loop st)=Wb at *;have H3:=hid h3;have nI:=hid h5;have Ic:=hid h6;have RH:=hid h7;have Ae:=hid h8;have SB:=hid hm;have jF:=hid Kv;have a9y:=hid a3W
  clear h3 h5 h6 h7 h8 hm Kv a3W;have c3:Wb.cell? ⟨b6,0,none⟩=some (.slice A' (iq cl pre).length c'):=(H3.out.cell 0).trans rfl;have c5:Wb.cell? ⟨b8,0,none⟩=some (.slice L (okR pre).length lc):=(nI.out.cell 0).trans rfl;have c2E:Wb.cell? ⟨bm,0,none⟩=some (.string (str x.c)):=(SB.out.cell 0).trans rfl;have c2F:Wb.cell? ⟨bm,1,none⟩=some (.slice x.P x.p.length x.pc):=(SB.out.cell 1).trans rfl;have f3:=H3.out.frozen 0;have f5:=nI.out.frozen 0;have f8:=Ae.out.frozen 3;have f82:=Ae.out.frozen 2
  have c2A:Wb.cell? ⟨b7,3,none⟩=some (iv 0):=(Ae.out.cell 3).trans rfl;have a1b:Wb.cell? ⟨b7,2,none⟩=some (.slice RA 0 rc):=(Ae.out.cell 2).trans rfl;by_cases hx0:x.e=0
  ·have d0:(x.e==0)=true:=by rw[hx0];rfl
   have HX0:=hid hx0;obtain⟨k,hk⟩ : ∃ k,(okR pre).length=k:=⟨_,rfl⟩
   have hfit:24+x.p.length≤(iq cl pre).length:=e3 hx0
   have hzl:(iq cl pre).length≤1000000000:=by
    have:=HM.out;have:=NR.out
    unfold iq;rw[List.length_drop];omega
   have hbd:=b1E (.string (str x.c)) (.slice x.P x.p.length x.pc);obtain⟨v',Wd,hrun,hown,hgrow,halt⟩:=Rd.a6e Ws (Wb.alloc (.cells #[.string (str x.c),.slice x.P x.p.length x.pc] 150)) w7.heap.size 219 (.slice L (okR pre).length lc) (okR pre).length ((okR pre).flatMap bJ.Gp) (jM Ic.out (aB _ _)) (some ⟨Wb.heap.size,0,none⟩) 1 1 x.Gp rfl (ae.new Wb 150 x.Gp).rd (by intro u hu;simp only[bJ.Gp,List.mem_cons,List.not_mem_nil,or_false]at hu;rcases hu with rfl | rfl <;> rfl) (by omega) (by show _≤9223372036854775807;omega) (by rw[World.size_alloc];omega);obtain⟨L2,yw,rfl,hl2,hl3,hL2⟩:=dD hown;have hgr : ∀ r,(Value.slice L (okR pre).length lc).ownBlock=some r→w7.heap.size≤r:=fun r e=>(Qe Ic.out r e).1;have MX:ae Wd b8 219 [.slice L (okR pre).length lc]:=(nI.out.alloc _).grown hgrow (fun e=>by have:=hgr _ e;omega);have XU:ae Wd b6 32 [.slice A' (iq cl pre).length c']:=(H3.out.alloc _).grown hgrow (fun e=>by have:=hgr _ e;omega);have B7d:ae Wd b7 50 (ik g n RA 0 rc 0):=(Ae.out.alloc _).grown hgrow (fun e=>by have:=hgr _ e;omega);have a2R:(Value.slice L (okR pre).length lc).ownBlock≠some bm:=fun e=>by have:=a3H _ e;omega
   have X0:ae Wd bm 150 [.string (str x.c),.slice x.P x.p.length x.pc]:=(SB.out.alloc _).grown hgrow a2R;have hc5:Wd.cell? ⟨b8,0,none⟩=some (.slice L (okR pre).length lc):=(MX.cell 0).trans rfl;have hf5:=MX.frozen 0;have MW:=XU.far (p:=⟨b8,0,none⟩) (show b6≠b8 by omega) (.slice L2 ((okR pre).length+1) yw);have X3:=X0.far (p:=⟨b8,0,none⟩) (show bm≠b8 by omega) (.slice L2 ((okR pre).length+1) yw);have c2B:(Wd.setCell ⟨b8,0,none⟩ (.slice L2 ((okR pre).length+1) yw)).cell? ⟨b6,0,none⟩=some (.slice A' (iq cl pre).length c'):=(MW.cell 0).trans rfl;have c2C:(Wd.setCell ⟨b8,0,none⟩ (.slice L2 ((okR pre).length+1) yw)).cell? ⟨bm,1,none⟩=some (.slice x.P x.p.length x.pc):=(X3.cell 1).trans rfl;have c2M:=MW.frozen 0;obtain⟨A2,hA2⟩ : ∃ A2,A2=(if c'=24+x.p.length then A' else A'.map (·.add ((24+x.p.length)*1))):=⟨_,rfl⟩
   have hsl : ∀ y,(Instr.slice 32 (.slice A' (iq cl pre).length c') (some (.int .i64 (24+(x.p.length:Int)))) none none).run prog y = .ok (.slice A2 ((iq cl pre).length - (24+x.p.length)) (c' - (24+x.p.length))) y:=fun y=>by
    have q:=a6w A' (iq cl pre).length c' (24+x.p.length) hfit h2.1 y;rw[←hA2]at q;rw[show(24+(x.p.length:Int))=((24+x.p.length:Nat):Int) from by omega];exact q
   have hpl:x.p.length≤1000000000:=by omega
   have a8K:=hid hgrow;have HOWN:=hid hown;have a8I:=hid hfit;have HA2:=hid hA2;have HALT:=hid halt;have c2g:=hid (show(okR pre).length+1≤yw∧yw≤maxLen from⟨hl2,hl3⟩)
   have D3:=hid MW;have a7M:=hid B7d;have a7L:=hid MX
   clear hx0 hzl hgrow hown hfit hA2 halt hgr MX XU B7d X0 MW X3 hl2 hl3 hL2 a2R hk
   gi_wp2_with (gi_at_builtin;refine c06 rfl _ _ _ rfl _ _ _ _ rfl rfl hrun ?_)
   have hgr:=a8K.out;have hro:=jM Ic.out (aB Wb (.cells #[.string (str x.c),.slice x.P x.p.length x.pc] 150))
   have hk1:KeepsOthers Wb Wd:=(KeepsOthers.alloc _ _).trans (KeepsOthers.of_grownBy hgr (fun j o e ho=>by
    obtain⟨o',h1,h2⟩:=(Qe hro j e).2
    rw[ho]at h1;cases h1;exact h2))
   have hkd : ∀ X:Nat→Prop,ed w7.heap.size X Wb Wd:=fun X=>(ed.keep (aB _ _)).trans (ed.grown hgr (fun r e=>Or.inl (Qe hro r e).1));refine⟨(hk1.trans ((KeepsOthers.setCell _ _ _).trans (KeepsOthers.setCell _ _ _))).from _,(hkd _).trans ((ed.grown (A7 _ _ _ _) (fun r e=>by cases e;exact Or.inr (Or.inr (Or.inr rfl)))).trans (ed.grown (A7 _ _ _ _) (fun r e=>by cases e;exact Or.inr (Or.inl rfl)))),?_⟩;unfold xH;rw[b8W HX0.out,a5n HX0.out,WN,if_pos HX0.out,List.length_append,List.length_singleton,List.flatMap_append,List.length_drop]
   have hmv : ∀ (y:bJ),dQ (Value.slice L (okR pre).length lc).ownBlock Wb y.P (y.p.map ah)→lF w7.heap.size y.P y.p.length→dQ (Value.slice L2 ((okR pre).length+1) yw).ownBlock ((Wd.setCell ⟨b8,0,none⟩ (.slice L2 ((okR pre).length+1) yw)).setCell ⟨b6,0,none⟩ (.slice A2 ((iq cl pre).length - (24+x.p.length)) (c' - (24+x.p.length)))) y.P (y.p.map ah):=fun y q2 q3=>by
    have q4:=(q2.keep (aB Wb (.cells #[.string (str x.c),.slice x.P x.p.length x.pc] 150))).grown hgr HALT.out;exact LX (LX q4 q3 Ee (p:=⟨b8,0,none⟩) (show b8<_ by omega) _) q3 Ee (p:=⟨b6,0,none⟩) (show b6<_ by omega) _
   refine⟨A2,c' - (24+x.p.length),L2,yw,RA,rc,jF.out.trans ((hkd _).trans ((ed.grown (A7 _ _ _ _) (fun r e=>by cases e;exact Or.inr (Or.inl (Or.inr (Or.inr rfl))))).trans (ed.grown (A7 _ _ _ _) (fun r e=>by cases e;exact Or.inr (Or.inl (Or.inl rfl)))))),⟨⟨by have:=h2.1;omega,Nat.le_trans (Nat.sub_le _ _) h2.2⟩,D3.out.az 0 _,fun y hy=>?_⟩,⟨(a7L.out.az 0 _).far (p:=⟨b6,0,none⟩) (show b8≠b6 by omega) _,?_⟩,fun y hy=>?_,(a7M.out.far (p:=⟨b8,0,none⟩) (show b7≠b8 by omega) _).far (p:=⟨b6,0,none⟩) (show b7≠b6 by omega) _,h9,.inl rfl,Or.inl rfl⟩
   ·have q:=(h4 y hy).drop (k:=24+x.p.length) (cap:=c') (by rw[List.length_map];exact a8I.out) (by rw[List.length_map];exact h2.1)
    rw[←HA2.out,←List.map_drop]at q;exact q
   ·have q:=Qd (Qd HOWN.out (p:=⟨b8,0,none⟩) (show b8<_ by omega) (.slice L2 ((okR pre).length+1) yw)) (p:=⟨b6,0,none⟩) (show b6<_ by omega) (.slice A2 ((iq cl pre).length - (24+x.p.length)) (c' - (24+x.p.length)))
    simpa using q
   ·rcases List.mem_append.1 hy with hy | hy
    ·obtain⟨q1,q2,q3⟩:=RH.out y hy
     exact⟨q1,hmv y q2 q3,q3⟩
    ·obtain rfl:=List.mem_singleton.1 hy
     exact⟨⟨hx.1,hx.2.1⟩,hmv _ (a9y.out _ a3H) hfB,hfB⟩
  by_cases hx1:x.e=1
  ·have d0:(x.e==0)=false:=by rw[hx1];rfl
   have d1:(x.e==1)=true:=by rw[hx1];rfl
   have HX0:=hid hx0;have kY:=hid hx1
   have N8:Hid (Rd Wb A' ((iq cl pre).map ah)):=hid (h4 Wb jF.out)
   have hzl:(iq cl pre).length≤1000000000:=by
    have:=HM.out;have:=NR.out
    unfold iq;rw[List.length_drop];omega
   have CL:Hid (Calls prog 125 #[.slice A' (iq cl pre).length c'] Wb fun e w' => ∃ P pc,e = .returned (.slice P (iq cl pre).length pc)∧((iq cl pre).length≤pc∧pc≤maxLen)∧Rd w' P ((iq cl pre).map ah)∧lF Wb.heap.size P (iq cl pre).length∧Keep Wb w'):=hid (by
    refine(clone_any A' (iq cl pre) c' Wb (by omega) N8.out).mono ?_;rintro e w' ⟨v,q1,q2,q3⟩;obtain⟨P,pc,rfl,q4,q5,q6⟩:=dD q2
    exact⟨P,pc,q1,⟨q4,q5⟩,q6,WR q2,q3⟩)
   have Fg:=hid hzl;clear hx0 hx1 hzl
   gi_wp2_with (refine⟨trivial,rfl,?_⟩;gi_at_call 125;refine(CallsIn.inRound l (callsIn_wide.2 CL.out)).mono ?_;rintro e Wc ⟨P2,dI,rfl,hp1,hp2,hp3,kc⟩;have cZ:=hid hp1;have HP2:=hid hp2;have fZ:=hid hp3;have a8N:=hid kc;replace a1b:=aC kc a1b;replace f82:=(Ae.out.keep kc).frozen 2;clear hp1 hp2 hp3 kc)
   have hkc:=a8N.out;have hBc:w7.heap.size≤Wb.heap.size:=b37;have hko:KeepsOthers Wb Wc:=⟨hkc.size,fun k o h _=>(hkc.block k (Array.getElem?_eq_some_iff.1 h).1).trans h⟩
   refine⟨(hko.trans (KeepsOthers.setCell _ _ _)).from _,(ed.keep hkc).trans (ed.grown (A7 _ _ _ _) (fun r e=>by cases e;exact Or.inr (Or.inr (Or.inl rfl)))),?_⟩;unfold xH;rw[Xe HX0.out,WH HX0.out,WN,if_neg HX0.out,if_pos kY.out];refine⟨A',c',L,lc,P2,dI,(jF.out.trans (ed.keep hkc)).trans (ed.grown (A7 _ _ _ _) (fun r e=>by cases e;exact Or.inr (Or.inl (Or.inr (Or.inl rfl))))),⟨h2,(H3.out.keep hkc).far (p:=⟨b7,2,none⟩) (show b6≠b7 by omega) _,h4⟩,⟨(nI.out.keep hkc).far (p:=⟨b7,2,none⟩) (show b8≠b7 by omega) _,Qd (jM Ic.out hkc) (p:=⟨b7,2,none⟩) (show b7<_ by omega) _⟩,fun y hy=>?_,(Ae.out.keep hkc).az 2 _,cZ.out,?_,fZ.out.mono hBc⟩
   ·obtain⟨q1,q2,q3⟩:=RH.out y hy
    exact⟨q1,LX (q2.keep hkc) q3 Ee (p:=⟨b7,2,none⟩) (show b7<_ by omega) _,q3⟩
   ·exact LX (dQ.a5j (row:=none) HP2.out (fZ.out.mono hBc) (by simp) (fun k e=>by cases e)) (fZ.out.mono hBc) Ee (p:=⟨b7,2,none⟩) (show b7<_ by omega) _
  ·have d0:(x.e==0)=false:=by rw[beq_eq_false_iff_ne];exact hx0
   have d1:(x.e==1)=false:=by rw[beq_eq_false_iff_ne];exact hx1
   have HX0:=hid hx0;have kY:=hid hx1
   clear hx0 hx1
   gi_wp2
   refine⟨(KeepsOthers.setCell _ _ _).from _,ed.grown (A7 _ _ _ _) (fun r e=>by cases e;exact Or.inr (Or.inr (Or.inl rfl))),?_⟩;unfold xH;rw[Xe HX0.out,WH HX0.out,WN,if_neg HX0.out,if_neg kY.out];refine⟨A',c',L,lc,RA,rc,jF.out.trans (ed.grown (A7 _ _ _ _) (fun r e=>by cases e;exact Or.inr (Or.inl (Or.inr (Or.inl rfl))))),⟨h2,H3.out.far (p:=⟨b7,3,none⟩) (show b6≠b7 by omega) _,h4⟩,⟨nI.out.far (p:=⟨b7,3,none⟩) (show b8≠b7 by omega) _,Qd Ic.out (p:=⟨b7,3,none⟩) (show b7<_ by omega) _⟩,fun y hy=>?_,Ae.out.az 3 _,⟨Nat.zero_le _,h9.2⟩,.inl rfl,Or.inl rfl⟩;obtain⟨q1,q2,q3⟩:=RH.out y hy;exact⟨q1,LX q2 q3 Ee (p:=⟨b7,3,none⟩) (show b7<_ by omega) _,q3⟩
 case hdone =>
  rintro D xs W hD hxs hi a2s;have hi0:=hi;obtain⟨A',c',L,lc,RA,rc,h1,⟨h2,h3,h4⟩,⟨h5,h6⟩,h7,h8,h9,h10,h11⟩:=hi;rw[hxs]at h8 h9 h10 h11;have hkW:Keep w W:=hkw W h1;have h4':ae W (w.heap.size+1) 50 zs.toList:=(h1.block _ (by have:=H4.out.lt;omega) H4.out.lt (fun q=>by omega)).trans H4.out;generalize hO:nz cl (evs g n cl)=O at *;obtain⟨Bh,hk2⟩ : ∃ Bh,jD (ik g n RA O.1.length rc O.2) Bh:=⟨_,jD.of ..⟩
  go_upto_region 22 with fail
  have hkn:=hk2.n;have hkz:=hk2.z;have hki:=hk2.i
  have BR:=hid hk2;have Zf:=hid hkW;have a8b:=hid h4';have a8c:=hid h5;have a8h:=hid h6;have a8m:=hid h7
  have a8r:Hid (ae W b7 50 Bh.toList):=by rw[hk2.l];exact hid h8
  have YP:=hid h9;have a7Z:=hid h10;have a8a:=hid h11;have a9v:=hid hxs;have Sv:=hid a2s;have NW:=hid hO
  clear hk2 hkW h4' h5 h6 h7 h8 h9 h10 h11 hxs a2s hO h1 h2 h3 h4 hi0 hkw;letI jc:G.Mk:=⟨some (w.heap.size+1)⟩
  refine G.bu (.take [0,1] (.force [2] (.take [3] .done))) [] (by kernel_rfl) (by kernel_rfl) (fun wa ka=>?_);have a3x:G.Mk.m≠some b7:=fun q=>by have e:w.heap.size+1=b7:=Option.some.inj q;omega
  have a3y:G.Mk.m≠some b8:=fun q=>by have e:w.heap.size+1=b8:=Option.some.inj q;omega
  have B8:=G.ja (aC ka (show W.cell? ⟨b8,0,none⟩=some (.slice L (okR xs).length lc) from(a8c.out.cell 0).trans rfl)) a3y;have B7:=hid (a8r.out.keep ka);have B4:=hid (a8b.out.keep ka);have Fq:=hid ka;clear ka;refine G.aN wa (G.Gr.refl _) ?_;simp only[au,ax,ak,aj];repeat(first | ((with_reducible refine G.zV b7 Bh (Eq.trans ?_ rfl) B7.out a3x _ underlying50 rfl hki ?_);rfl;simp only[Act.put,Array.set!_eq_setIfInBounds,List.setIfInBounds_toArray,List.set_cons_succ,List.set_cons_zero]) | go_big_quiet_step (fail))
  clear B8 a3x a3y;obtain⟨w8,fQ,a2N,aZ⟩:=bn (P:=prog) Bh.toList B4.out (by rw[Array.length_toList,Array.length_toList,hzz,hkz]) BR.out.o;have gq:=hid a2N;refine wpQuiet_nil (G.bI ?_);simp only[au,ax,ak,aj];refine G.aI rfl (fun K hK=>?_);go_simp;refine hK _ _ (show G.Gr wa w8 from aZ) ?_;have mP:=hid aZ;clear hK K fQ aZ a2N;refine G.aS (G.aN _ (G.Gr.refl _) ?_);simp only[au,ax,ak,aj];repeat(go_big_quiet_step (fail))
  refine wpQuiet_nil (G.aT ?_);clear jc;go_wp2
  have hq:w.heap.size+1<w7.heap.size:=by omega
  have hDq:w.heap.size+1≠D:=by omega
  have hK8:w8.heap[D]?=some (.deferred (some [])):=(mP.out.block D (by have:=(Array.getElem?_eq_some_iff.1 Sv.out).1;have:=Fq.out.size;omega) (fun e=>by injection e with e;omega)).trans ((Fq.out.block D (Array.getElem?_eq_some_iff.1 Sv.out).1).trans Sv.out);have hstp:Stp w7.heap.size (gb+2) w8 (w8.putObj D (.deferred none)):=⟨some D,grownBy_putObj' _ _ _,fun r e=>by cases e;exact Or.inr ⟨hD,_,hK8,rfl⟩⟩
  have b3U:ae (w8.putObj D (.deferred none)) (w.heap.size+1) 50 Bh.toList:=(World.putObj_heap_other hDq).trans gq.out
  have hmv : ∀ (row:Option Nat) (P:Option Addr) (l:List UInt8),dQ row W P (l.map ah)→lF w7.heap.size P l.length→Rd (w8.putObj D (.deferred none)) P (l.map ah):=fun row P l q1 q2 =>
   (hstp.LW (by omega) (b8I (q1.keep Fq.out) q2 Ee mP.out hq) q2 Ee).rd
  refine⟨by simp,.inl ⟨D,_,rfl,run_takeDeferred hK8,?_⟩⟩;refine⟨.tuple #[.agg Bh,.slice L (okR xs).length lc],uN results109 _ _ (w.heap.size+1) _ _ _ _ rfl b3U underlying50 rfl (by rw[List.size_toArray,Array.length_toList];exact hki),Bh,L,lc,xs,RA,rc,rfl,a9v.out,?_⟩;rw[NW.out];refine⟨BR.out,⟨YP.out.1,YP.out.2,hmv _ _ _ a7Z.out a8a.out⟩,wV (hstp.own (by omega) (b73 (jM a8h.out Fq.out) mP.out hq)),fun x hx=>?_,b6j ((af Zf.out Fq.out).grown mP.out (af Zf.out Fq.out).size (fun r hr=>by injection hr with hr;omega)) _ (by omega)⟩;obtain⟨q1,q2,q3⟩:=a8m.out x hx;exact⟨q1.1,q1.2,hmv _ _ _ q2 q3⟩
def AZ:List (List UInt8 × List UInt8)→List fO × Int
 | []=>([],0)
 | x::l=>if(qg x.1).2=true then if(Eo x.1 x.2).2=0 then((Eo x.1 x.2).1::(AZ l).1,(AZ l).2)else([],(Eo x.1 x.2).2)else AZ l
def aW.pl (p:aW):aW:={ p with rA:=none,rc:=0}
def mM (X:List bJ) (F:List fO × Int) (ms:List fO) (k:Nat):Prop:=ms.map fO.pl++(AZ ((X.drop k).map fun x=>(x.c,x.p))).1=F.1∧(AZ ((X.drop k).map fun x=>(x.c,x.p))).2=F.2
section
variable {X:List bJ} {F:List fO × Int} {ms:List fO} {k:Nat}
theorem mM.fin (h:mM X F ms X.length):ms.map fO.pl=F.1∧F.2=0:=by
 unfold mM at h;rw[List.drop_length]at h;exact⟨by simpa[AZ]using h.1,h.2.symm⟩
theorem mM.next (h:mM X F ms k) (hk:k<X.length) (h0:(qg X[k].c).2=true) (h1:(Eo X[k].c X[k].p).2=0) (m:fO) (hm:m.pl=(Eo X[k].c X[k].p).1):mM X F (ms++[m]) (k+1):=by
 unfold mM at h ⊢;rw[List.drop_eq_getElem_cons hk,List.map_cons,AZ,if_pos h0,if_pos h1]at h;rw[List.map_append,List.append_assoc];refine⟨?_,h.2⟩;rw[←h.1,List.map_cons,hm];rfl
theorem mM.stop (h:mM X F ms k) (hk:k<X.length) (h0:(qg X[k].c).2=true) (h1:(Eo X[k].c X[k].p).2≠0):ms.map fO.pl=F.1∧F.2=(Eo X[k].c X[k].p).2:=by
 unfold mM at h;rw[List.drop_eq_getElem_cons hk,List.map_cons,AZ,if_pos h0,if_neg h1]at h;exact⟨by simpa using h.1,h.2.symm⟩
end
def AtM (B:Nat) (w:World) (v:Value) (ms:List fO):Prop:=∀ W:World,(∀ k,B≤k→k<w.heap.size→v.ownBlock≠some k→W.heap[k]?=w.heap[k]?) → ∀ q∈ms,q.at_ W
theorem AtM.keep {B:Nat} {w w':World} {v:Value} {ms:List fO} (h:AtM B w v ms) (k:Keep w w'):AtM B w' v ms:=fun W hW=>h W (fun j h1 h2 h3=>(hW j h1 (Nat.lt_of_lt_of_le h2 k.size) h3).trans (k.block j h2))
theorem c0g (p:aW):(qW p).cap=iC (qW p).cap:=by
 unfold qW;by_cases hs:zM p=true
 ·rw[if_pos hs]
  simp only[zM,zi,Bool.and_eq_true,decide_eq_true_eq]at hs;exact hs.2
 ·rw[if_neg hs]
  show iC p.cap=iC (iC p.cap)
  rw[b1u]
end Go.Proofs.YtiagcenlnekdeaaGreatDoor
namespace Go.Proofs.YtiagcenlnekdeaaGreatDoor
open Go.RowKit
attribute [local go_sem ↓] Go.wp_at_zero Go.wp_at_succ
theorem b80 {P:Program} {w:World} {g:Nat} {t:TypeId} {all:List Value} (off:Nat) (cs:List Value) (hb:ae w g t all) (hl:off+cs.length≤all.length) (h1 : ∀ v∈cs,v.oneCell'=true) :
  ∃ w',(storeCells ⟨g,off,none⟩ cs 0).run P w = .ok () w'∧ae w' g t (splice all off cs)∧w.grownBy w' (some g):=by
 have hrun:=run_storeCells_at P g off t cs 0 all.toArray w hb (by simpa using hl) h1;simp only[Nat.add_zero,List.toList_toArray]at hrun;refine⟨_,hrun,?_,rfl,rfl,rfl,by simp[World.setRow],fun k _ hne=>setRow_other w g k _ (fun e=>hne (by rw[e]))⟩;have h:=setRow_heap w g all.toArray (all.take off++cs++all.drop (off+cs.length)).toArray t (0,0) hb;unfold ae splice;rw[←List.append_assoc];exact h
theorem b8d (q:aW) : ∀ v∈q.cells,∀ x:UInt8,v≠ah x:=by
 intro v hv x e;unfold aW.cells at hv;simp only[List.mem_cons,List.not_mem_nil,or_false]at hv;rcases hv with rfl | rfl | rfl | rfl | rfl | rfl | rfl | rfl | rfl | rfl <;> cases e
theorem b8e (q:aW) : ∀ v∈q.cells,∀ s,v≠Value.string s:=by
 intro v hv x e;unfold aW.cells at hv;simp only[List.mem_cons,List.not_mem_nil,or_false]at hv;rcases hv with rfl | rfl | rfl | rfl | rfl | rfl | rfl | rfl | rfl | rfl <;> cases e
theorem a5T {w w':World} {g:Nat} {t:TypeId} {l xs:List Value} {P:Option Addr} (h:Rd w P xs) (hb:ae w g t l) (hx : ∀ v∈l,xs[0]?≠some v) (hg:w.grownBy w' (some g)):Rd w' P xs:=by
 by_cases h0:xs=[]
 ·exact .inl h0
 rcases h with h1 | ⟨b,off,rfl,hc⟩
 ·exact .inl h1
 have hp:=List.length_pos_iff.2 h0;refine .inr ⟨b,off,rfl,fun j hj=>qK hg (hc j hj) (fun e=>?_)⟩;injection e with e;subst e;have q:=hc 0 hp;rw[Nat.add_zero,hb.cell]at q;exact hx _ (List.mem_of_getElem? q) (List.getElem?_eq_getElem hp)
theorem b8D {w w':World} {g:Nat} {t:TypeId} {q:aW} {l:List UInt8} {P:Option Addr} (h:Rd w P (l.map ah)) (hb:ae w g t q.cells) (hg:w.grownBy w' (some g)):Rd w' P (l.map ah) :=
 a5T h hb (fun v hv e=>by
  rw[List.getElem?_map]at e;obtain⟨x,hx,e2⟩:=Option.map_eq_some_iff.1 e
  exact b8d q v hv x e2.symm) hg
end Go.Proofs.YtiagcenlnekdeaaGreatDoor
