/- Texts merged by pack.py: UB, UC, UD, UE, UF, UG, UH. -/
import Derived.Test.YtiagcenlnekdeaaGreatDoorCx6
import Derived.Test.YtiagcenlnekdeaaGreatDoorCx1
import Derived.Laws.StructEq
import Derived.Test.YtiagcenlnekdeaaGreatDoorCx7
import Derived.Laws.Bits64b
set_option maxRecDepth 1000000
set_option maxHeartbeats 16000000
open Go.Proofs.Tryz
open Go.Lib (hid)
set_option linter.unusedSimpArgs false
set_option linter.unusedVariables false
namespace Go.Proofs.YtiagcenlnekdeaaGreatDoor
open Go.RowKit
attribute [local go_sem ↓] Go.wp_at_zero Go.wp_at_succ
theorem b6E {x:Nat} (h:x≠0):dU x=1+dU (x/2):=by
 obtain⟨n,h1,h2,h3⟩:=Gj h
 cases n with
 | zero =>
   have:x/2=0:=by simp only[Nat.zero_add,Nat.pow_one]at h3;omega
   rw[h1,this];rfl
 | succ n =>
   rw[h1]
   have:dU (x/2)=n+1:=a4z (by rw[Nat.pow_succ]at h2;omega) (by rw[Nat.pow_succ 2 (n+1)]at h3;omega)
   omega
theorem a0X : ∀ (f x:Nat),x<2^f→Lib.bitLenAux f x=dU x
 | 0,x,h=>by
   have:x=0:=by simpa using h
   subst this;rfl
 | f+1,x,h=>by
   unfold Lib.bitLenAux
   split
   ·rename_i h0;subst h0;rfl
   ·rename_i h0
    rw[a0X f (x/2) (by rw[Nat.pow_succ]at h;omega),b6E h0]
theorem bitLen_eq {x:Nat} (h:x<2^64):Lib.bitLen x=dU x:=a0X 64 x h
theorem len_any (N:Nat) (w:World) (hN:N<2^256) :
  Calls prog 96 #[aO N] w fun e w'=>e = .returned (.int .i64 (dU N:Nat))∧Keep w w':=by
 have HC:Hid (∀ c,dU N=c→((N=0→c=0)∧∀ i,i<4→limb N i≠0→(∀ j,i<j→j<4→limb N j=0)→c=64*i+dU (limb N i))):=fun c e=>by
  subst e;exact⟨fun h=>by subst h;rfl,fun i hi h0 hh=>b6F (b66 hN hi hh) h0⟩
 replace HC:=hid (HC.out _ rfl);have hc256:dU N≤256:=Gi hN;generalize dU N=c at *;have HN:=hid hN;clear hN;go_enter func96,ntmps96
 go_upto_region 1 with fail
 obtain⟨w1,hw1,-,ai,-⟩:=mW w 79 [n64 (limb N 0),n64 (limb N 1),n64 (limb N 2),n64 (limb N 3)]
 have hc1 : ∀ k,k<4→w1.cell? ⟨w.heap.size,k,none⟩=some (n64 (limb N k)):=fun k hk=>by
  have h1:ae w1 w.heap.size 79 (uL N):=by rw[hw1];exact ae.new w 79 (uL N)
  rw[h1.cell,oG N k hk]
 rw[←hw1];have Tu:=hid hc1;clear hw1 hc1;go_wp2_with fail
 go_loopw [3] (fun i wr => ∃ k:Nat,k≤4∧i = .int .i64 ((k:Int) - 1)∧Hid (∀ j,k≤j→j<4→limb N j=0)∧Hid (Keep w1 wr)) (fun i _=>(intOf i+1).toNat)
 case atStart=>exact⟨4,by omega,rfl,hid (fun j h1 h2=>by omega),hid (Below.refl _ _)⟩
 case round =>
  obtain⟨k,hk,rfl,he,hkr⟩:=hrel
  cases k with
  | zero =>
    have h1:=HC.out.1 (c1C HN.out (fun i hi=>he.out i (Nat.zero_le _) hi));subst h1;clear HC HN;go_wp2
    exact bodyPost_ret (v:=.int .i64 0) (by simp[results,results96]) rfl ⟨rfl,af ai.out hkr.out⟩
  | succ k =>
    have hi:((k+1:Nat):Int) - 1=(k:Int):=by omega
    rw[hi];have a0:=aC hkr.out (Tu.out k (by omega));have hl:=gX N k;have hk4:k<4:=by omega
    have hx:Hid (limb N k≠0→c=64*k+dU (limb N k)):=hid fun h=>HC.out.2 k hk4 h (fun j h1 h2=>he.out j (by omega) h2)
    have heq:Hid (limb N k=0 → ∀ j,k≤j→j<4→limb N j=0):=hid fun h j h1 h2=>by
     by_cases e:j=k
     ·subst e;exact h
     ·exact he.out j (by omega) h2
    generalize limb N k=x at *;clear hi he;by_cases h1:x=0
    ·have CP:=hid (heq.out h1)
     have d1:(x != 0)=false:=by simp[h1]
     subst h1;clear hx heq hl d1;go_wp2_with fail
     go_roundw
     case rel=>exact⟨k,by omega,by go_num,CP,hkr⟩
     case measure=>simp[intOf]
    ·have hb:=bits_Len64 (x:Int) wr (by omega) (by simp only[Nat.reducePow]at hl;omega)
     rw[Int.toNat_natCast,bitLen_eq hl]at hb;have hcx:=hx.out h1;have HB:=hid hb;generalize dU x=m at *;have d1:((x:Int)!=0)=true:=by simp[h1]
     have d2:(x != 0)=true:=by simp[h1]
     have kY:=hid h1;have a8E:=hid hcx
     have hm:m≤256:=by omega
     clear hx heq hl HC HN hb h1 hcx;go_wp2_with fail
     refine HB.out.mono ?_;rintro e w2 ⟨rfl,rfl⟩;go_wp2
     rw[a8E.out];exact bodyPost_ret (v:=.int .i64 ((64*k+m:Nat):Int)) (by simp[results,results96]) rfl ⟨rfl,af ai.out hkr.out⟩
theorem a0S : ∀ (xs ys:List Nat),xs.length=ys.length→((List.range xs.length).all fun i=>xs.getD i 0==ys.getD i 0)=(xs==ys)
 | [],[],_=>rfl
 | x::xs,y::ys,h=>by
   have ih:=a0S xs ys (by simpa using h);rw[List.length_cons,List.range_succ_eq_map,List.all_cons,List.all_map];simp only[List.getD_cons_zero,Function.comp_def,List.getD_cons_succ,ih];simp[List.cons_beq_cons]
 | [],_::_,h=>by simp at h
 | _::_,[],h=>by simp at h
theorem a6h {P:Program} (w:World) (d:Nat) (t e:TypeId) (n:Nat) (ht:P.underlying t=some (.array n e)) (he:P.underlying e=some (.int .u64)) (hsz : ∀ w,(sizeOf e).run P w = .ok 1 w)
  (xs ys:List Nat) (hx:xs.length=n) (hy:ys.length=n) :
  (Op.equalIn (d+2) t (.agg (xs.map n64).toArray) (.agg (ys.map n64).toArray)).run P w = .ok (xs==ys) w:=by
 rw[←a0S xs ys (hx.trans hy.symm),hx,List.range_eq_range',Op.equalIn];simp only[Sem.run_bind,run_underlying ht,Result.andThen_ok,hsz,Std.Legacy.Range.forIn_eq_forIn_range',Std.Legacy.Range.size,Nat.sub_zero,Nat.add_sub_cancel,Nat.div_one];have hl : ∀ i∈List.range' 0 n 1,i<n:=fun i hi=>by simpa using(List.mem_range'_1.1 hi).2
 generalize List.range' 0 n 1=l at hl ⊢
 induction l with
 | nil=>simp
 | cons i l ih =>
   have hi:i<n:=hl i (by simp)
   have px:(part e (xs.map n64).toArray (i*1)).run P w = .ok (n64 (xs.getD i 0)) w:=by
    simp[part,isAgg,run_underlying he,List.getD,List.getElem?_eq_getElem (show i<xs.length by omega)]
   have py:(part e (ys.map n64).toArray (i*1)).run P w = .ok (n64 (ys.getD i 0)) w:=by
    simp[part,isAgg,run_underlying he,List.getD,List.getElem?_eq_getElem (show i<ys.length by omega)]
   have pe:(Op.equalIn (d+1) e (n64 (xs.getD i 0)) (n64 (ys.getD i 0))).run P w = .ok (xs.getD i 0==ys.getD i 0) w:=by
    unfold n64;rw[run_equalIn_int w d e .u64 .u64 _ _ he]
    congr 1
    rw[Bool.eq_iff_iff];simp;omega
   simp only[List.forIn_cons,Sem.run_bind,px,py,pe,Result.andThen_ok,List.all_cons]
   cases hb:(xs.getD i 0==ys.getD i 0)
   ·simp
   ·simp only[Bool.not_true,Bool.false_eq_true,if_false,Sem.run_pure,Result.andThen_ok,Bool.true_and]
    exact ih fun j hj=>hl j (by simp[hj])
theorem a7a (w:World):(sizeOf 48).run prog w = .ok 1 w:=by kernel_rfl
theorem a6Y:prog.underlying 79=some (.array 4 48):=by kernel_rfl
theorem MC:prog.eqGuardType prog.depth 79=false:=by kernel_rfl
theorem a7i {N M:Nat} (hN:N<2^256) (hM:M<2^256):([limb N 0,limb N 1,limb N 2,limb N 3]==[limb M 0,limb M 1,limb M 2,limb M 3])=decide (N=M):=by
 by_cases h:N=M
 ·subst h;simp
 ·rw[decide_eq_false h,beq_eq_false_iff_ne]
  intro e;injection e with e0 e;injection e with e1 e;injection e with e2 e;injection e with e3 _
  exact h (Wh hN hM fun i hi=>by
   rcases(show i=0∨i=1∨i=2∨i=3 by omega)with rfl | rfl | rfl | rfl <;> assumption)
theorem QG {N M:Nat} (hN:N<2^256) (hM:M<2^256) (w:World):(Go.binOp .eql 79 (aO N) (aO M)).run prog w = .ok (.bool (decide (N=M))) w:=by
 rw[run_eql_struct,show(10000:Nat)=9998+2 from rfl];have h:=a6h (P:=prog) w 9998 79 48 4 a6Y underlying48 a7a [limb N 0,limb N 1,limb N 2,limb N 3] [limb M 0,limb M 1,limb M 2,limb M 3] rfl rfl;rw[a7i hN hM]at h;have h':(Op.equalIn (9998+2) 79 (aO N) (aO M)).run prog w = .ok (decide (N=M)) w:=h;rw[h'];rfl
theorem c0B {N M:Nat} (hN:N<2^256) (hM:M<2^256) (w:World):(Go.binOp .neq 79 (aO N) (aO M)).run prog w = .ok (.bool (!decide (N=M))) w:=by
 rw[run_neq_struct,show(10000:Nat)=9998+2 from rfl];have h:=a6h (P:=prog) w 9998 79 48 4 a6Y underlying48 a7a [limb N 0,limb N 1,limb N 2,limb N 3] [limb M 0,limb M 1,limb M 2,limb M 3] rfl rfl;rw[a7i hN hM]at h;have h':(Op.equalIn (9998+2) 79 (aO N) (aO M)).run prog w = .ok (decide (N=M)) w:=h;rw[h'];rfl
abbrev u0:Value:=.agg #[.int .u64 0,.int .u64 0,.int .u64 0,.int .u64 0]
theorem xn:aO 0=u0:=by simp[aO,n64,Ea]
theorem c0z {n:Nat} (h:n<2^64):aO n = .agg #[n64 n,.int .u64 0,.int .u64 0,.int .u64 0]:=by simp[aO,n64,b6Q h]
theorem a5i (n:Nat) (w:World) (hn:n<2^64):Calls prog 64 #[n64 n] w fun e w'=>e = .returned (aO n)∧Keep w w':=by
 rw[c0z hn];clear hn;go_enter func64,ntmps64
 go_wp2
 have hb:ae (w.alloc (.cells #[n64 n,.int .u64 0,.int .u64 0,.int .u64 0] 79)) w.heap.size 79 [n64 n,.int .u64 0,.int .u64 0,.int .u64 0]:=ae.new w _ [n64 n,.int .u64 0,.int .u64 0,.int .u64 0];exact bodyPost_ret (v:=.agg #[n64 n,.int .u64 0,.int .u64 0,.int .u64 0]) (results_cell_row results64 _ _ w.heap.size _ _ _ _ rfl hb underlying79 rfl (by kernel_rfl)) rfl ⟨rfl,aB _ _⟩
def kU (S k:Nat):List Value:=[n64 (if 0<k then limb S 0 else 0),n64 (if 1<k then limb S 1 else 0),n64 (if 2<k then limb S 2 else 0),n64 (if 3<k then limb S 3 else 0)]
theorem Wi (S:Nat):kU S 4=uL S:=rfl
theorem PZ (S k:Nat) (hk:k<4):(kU S k)[k]?=some (n64 0):=by
 rcases(show k=0∨k=1∨k=2∨k=3 by omega)with rfl | rfl | rfl | rfl <;> rfl
theorem Gn (S k:Nat) (hk:k<4):(kU S k).set k (n64 (limb S k))=kU S (k+1):=by
 rcases(show k=0∨k=1∨k=2∨k=3 by omega)with rfl | rfl | rfl | rfl <;> rfl
theorem P5 (S k:Nat) (h : ∀ j,j<k→limb S j=0):kU S k=[n64 0,n64 0,n64 0,n64 0]:=by
 have e : ∀ j,(if j<k then limb S j else 0)=0:=fun j=>by split;exact h j ‹_›;rfl
 unfold kU;rw[e,e,e,e]
theorem b7T (x y d e:Nat) (hy:y<2^64):bits .or .u64 ((x:Int)*2^d%18446744073709551616) ((y:Int)/2^e)=((x*2^d%2^64 ||| y/2^e:Nat):Int):=by
 have h1:(x:Int)*2^d%18446744073709551616=((x*2^d%2^64:Nat):Int):=by rw[Int.natCast_emod,Int.natCast_mul];rfl
 have h2:(y:Int)/2^e=((y/2^e:Nat):Int):=by rw[Int.natCast_ediv];rfl
 rw[h1,h2];exact bits_or_u64_nat _ _ (Nat.mod_lt _ (by decide)) (Nat.lt_of_le_of_lt (Nat.div_le_self _ _) hy)
theorem a6r (N n:Nat) (w:World) (hN:N<2^256) (hn:n≤100000) :
  Calls prog 66 #[aO N,.int .i64 n] w fun e w'=>e = .returned (.tuple #[aO (N*2^n%2^256),.bool (decide (2^256≤N*2^n))])∧Keep w w':=by
 by_cases h0:n=0
 ·subst h0
  have e1:N*2^0%2^256=N:=by rw[Nat.pow_zero,Nat.mul_one];exact Nat.mod_eq_of_lt hN
  have e2:decide (2^256≤N*2^0)=false:=decide_eq_false (by rw[Nat.pow_zero,Nat.mul_one];omega);rw[e1,e2];clear e1 e2 hN hn;go_enter func66,ntmps66
  go_wp2
  have hb:ae ((w.alloc (.cells #[n64 (limb N 0),n64 (limb N 1),n64 (limb N 2),n64 (limb N 3)] 79)).alloc (.cells #[n64 (limb N 0),n64 (limb N 1),n64 (limb N 2),n64 (limb N 3)] 79)) (w.heap.size+1) 79 (uL N):=by
   have h2:=ae.new (w.alloc (.cells #[n64 (limb N 0),n64 (limb N 1),n64 (limb N 2),n64 (limb N 3)] 79)) 79 (uL N);rw[World.size_alloc]at h2;exact h2
  exact bodyPost_ret (v:=.tuple #[aO N,.bool false]) (uN results66 _ _ (w.heap.size+1) _ _ _ _ rfl hb underlying79 rfl (by kernel_rfl)) rfl ⟨rfl,af (aB _ _) (aB _ _)⟩
 ·by_cases h1:256≤n
  ·have e1:N*2^n%2^256=0:=by
    have:2^n=2^256*2^(n - 256):=by rw[←Nat.pow_add];congr 1;omega
    rw[this,Nat.mul_left_comm];exact Nat.mul_mod_right _ _
   have e2:decide (2^256≤N*2^n)=!decide (N=0):=by
    by_cases hz:N=0
    ·subst hz;rw[Nat.zero_mul];rfl
    ·have h3:2^256≤2^n:=Nat.pow_le_pow_right (by decide) h1
     have h4:2^n≤N*2^n:=Nat.le_mul_of_pos_left _ (by omega);rw[decide_eq_true (Nat.le_trans h3 h4),decide_eq_false hz];rfl
   rw[e1,e2,xn]
   have he : ∀ w,(Go.binOp .neq 79 (aO N) u0).run prog w = .ok (.bool (!decide (N=0))) w:=fun w=>by
    have:=c0B hN (by decide:0<2^256) w
    rw[xn]at this;exact this
   have hgd:=MC;generalize (!decide (N=0))=bb at *;have d1 : ¬ (n:Int)≤0:=by omega
   have d2:(256:Int)≤(n:Int):=by omega
   clear e1 e2 hN h0 h1 hn;go_enter func66,ntmps66
   go_upto_region 4 with fail
   go_region
   go_wp2
   have hb:ae (((w.alloc (.cells #[n64 (limb N 0),n64 (limb N 1),n64 (limb N 2),n64 (limb N 3)] 79)).alloc (.cells #[.int .u64 0,.int .u64 0,.int .u64 0,.int .u64 0] 79)).drew) (w.heap.size+1) 79 [.int .u64 0,.int .u64 0,.int .u64 0,.int .u64 0]:=by
    have h2:=ae.new (w.alloc (.cells #[n64 (limb N 0),n64 (limb N 1),n64 (limb N 2),n64 (limb N 3)] 79)) 79 [.int .u64 0,.int .u64 0,.int .u64 0,.int .u64 0];rw[World.size_alloc]at h2;exact h2.drew
   exact bodyPost_ret (v:=.tuple #[u0,.bool bb]) (uN results66 _ _ (w.heap.size+1) _ _ _ _ rfl hb underlying79 rfl (by kernel_rfl)) rfl ⟨rfl,(af (aB _ _) (aB _ _)).drew⟩
  ·obtain⟨S,hS⟩ : ∃ S,N*2^n%2^256=S:=⟨_,rfl⟩
   have HS:Hid (∀ i,i<4→limb S i=if i<n/64 then 0 else((limb N (i - n/64)*2^(n%64))%2^64) ||| (if n/64<i then limb N (i - n/64 - 1)/2^(64 - n%64)else 0)):=hid fun i hi=>by rw[←hS];exact b9s N n i hi
   have ho:decide (2^256≤N*2^n)=decide (256<dU N+n):=decide_eq_decide.2 (b7Z (by omega)).symm;rw[hS,ho];have hL:dU N≤256:=Gi hN;have Ln:Hid (∀ y,Calls prog 96 #[aO N] y fun e w'=>e = .returned (.int .i64 (dU N:Nat))∧Keep y w'):=fun y=>len_any N y hN;obtain⟨q,hq⟩ : ∃ q,n/64=q:=⟨_,rfl⟩
   obtain⟨d,hd⟩ : ∃ d,n%64=d:=⟨_,rfl⟩
   have hq1:Int.tdiv (n:Int) 64=(q:Int):=by rw[Int.tdiv_eq_ediv_of_nonneg (by omega)];omega
   have hd1:Int.tmod (n:Int) 64=(d:Int):=by rw[Int.tmod_eq_emod_of_nonneg (by omega)];omega
   rw[hq,hd]at HS;have hq4:q<4:=by omega
   have DL:d<64:=by omega
   have d1 : ¬ (n:Int)≤0:=by omega
   have d2 : ¬ (256:Int)≤(n:Int):=by omega
   have hn1:(n:Int)≤256:=by omega
   generalize dU N=L at *;clear hN hn h0 h1 hS ho hq hd;go_enter func66,ntmps66
   go_upto_region 8 with fail
   obtain⟨w1,hw1,-,HR1,-,ai,-⟩:=JJ w 79 79 79 [n64 (limb N 0),n64 (limb N 1),n64 (limb N 2),n64 (limb N 3)] [.int .u64 0,.int .u64 0,.int .u64 0,.int .u64 0] [.int .u64 0,.int .u64 0,.int .u64 0,.int .u64 0];have HA1:Hid (ae w1 w.heap.size 79 (uL N)):=by rw[hw1];exact((ae.new w 79 (uL N)).alloc _).alloc _
   have kz:Hid (ae w1 (w.heap.size+1+1) 79 (kU S q)):=by
    rw[hw1,P5 S q (fun j hj=>by rw[HS.out j (by omega),if_pos hj])];have h2:=ae.new ((w.alloc (.cells #[n64 (limb N 0),n64 (limb N 1),n64 (limb N 2),n64 (limb N 3)] 79)).alloc (.cells #[.int .u64 0,.int .u64 0,.int .u64 0,.int .u64 0] 79)) 79 [.int .u64 0,.int .u64 0,.int .u64 0,.int .u64 0];rw[World.size_alloc,World.size_alloc]at h2;exact h2
   rw[←hw1];clear hw1;go_wp2_with fail
   go_loopw [9] (fun i wr => ∃ j:Nat,q+j≤4∧i = .int .i64 ((q:Int)+(j:Int))∧Hid (ae wr (w.heap.size+1+1) 79 (kU S (q+j)))∧Hid (ae wr w.heap.size 79 (uL N))∧Hid (ae wr (w.heap.size+1) 79 [.int .u64 0,.int .u64 0,.int .u64 0,.int .u64 0])∧Hid (Keep w wr)) (fun i _=>(4 - intOf i).toNat)
   case atStart=>exact⟨0,by omega,by simp,kz,HA1,HR1,ai⟩
   case round =>
    obtain⟨j,hj,rfl,HO,HA,HR,HK⟩:=hrel;by_cases hlt:q+j<4
    ·have a0:wr.cell? ⟨w.heap.size,j,none⟩=some (n64 (limb N j)):=by rw[HA.out.cell,oG N j (by omega)]
     have o0:wr.cell? ⟨w.heap.size+1+1,q+j,none⟩=some (n64 0):=by rw[HO.out.cell,PZ S (q+j) hlt]
     have of:wr.frozen? ⟨w.heap.size+1+1,q+j,none⟩=false:=HO.out.frozen _;have i1:(q:Int)+(j:Int)<4:=by omega
     have hs:=HS.out (q+j) hlt;rw[if_neg (by omega),show q+j - q=j by omega]at hs;have Hs:=hid hs;clear hs;go_upto_region 11 with fail
     have hv:IntKind.u64.wrap ((limb N j:Int)*2^d)=((limb N j*2^d%2^64:Nat):Int):=by
      rw[IntKind.wrap_u64,Int.natCast_emod,Int.natCast_mul];rfl
     obtain⟨w2,hw2⟩ : ∃ w2,w2=wr.setCell ⟨w.heap.size+1+1,q+j,none⟩ (.int .u64 (IntKind.u64.wrap ((limb N j:Int)*2^d))):=⟨_,rfl⟩
     have kC:Hid (ae w2 (w.heap.size+1+1) 79 ((kU S (q+j)).set (q+j) (n64 (limb N j*2^d%2^64)))):=by rw[hw2,hv];exact HO.out.az _ _
     have HA2:Hid (ae w2 w.heap.size 79 (uL N)):=by rw[hw2];exact HA.out.far (by simp;omega) _
     have HR2:Hid (ae w2 (w.heap.size+1) 79 [.int .u64 0,.int .u64 0,.int .u64 0,.int .u64 0]):=by rw[hw2];exact HR.out.far (by simp) _
     have ay:Hid (Keep w w2):=by rw[hw2];exact Below.setCell HK.out (by simp;omega) _
     rw[←hw2];clear hw2 a0 o0 of HO HA HR HK
     cases j with
     | zero =>
       have hl:=Hs.out;rw[if_neg (by omega),Nat.or_zero]at hl
       have nJ:Hid (ae w2 (w.heap.size+1+1) 79 (kU S (q+(0+1)))):=by
        have h1:=kC.out;rw[←hl,Gn S (q+0) hlt]at h1;exact h1
       clear hl hv Hs;go_wp2
       go_roundw
       case rel=>exact⟨0+1,by omega,by go_num,nJ,HA2,HR2,ay⟩
       case measure=>simp[intOf];omega
     | succ j =>
       have i2:decide ((q:Int)<(q:Int)+((j+1:Nat):Int))=true:=decide_eq_true (by omega);have i3:(q:Int)+(j:Int)<3:=by omega
       go_upto_region 12 with fail
       refine bu (.take [0,1,2,3,4,5,6,7,8,9,10,11,12,13] .done) [14] (by kernel_rfl) (by kernel_rfl) (fun w9 k9=>?_);have fJ:=hid (kC.out.keep k9);have rY:=hid (HA2.out.keep k9);have iy:=hid (HR2.out.keep k9);have bP:=hid (af ay.out k9)
       clear k9;have a0:=aF (show w9.cell? ⟨w.heap.size,j,none⟩=some (n64 (limb N j)) by rw[rY.out.cell,oG N j (by omega)]);have p0:w9.cell? ⟨w.heap.size+1+1,q+(j+1),none⟩=some (n64 (limb N (j+1)*2^d%2^64)):=by rw[fJ.out.cell,List.getElem?_set_self (by unfold kU;simpa using hlt)]
       have o0:=aF (show w9.cell? ⟨w.heap.size+1+1,q+(j+1),none⟩=some (n64 (limb N (j+1)*2^d%2^64)) by rw[fJ.out.cell,List.getElem?_set_self (by unfold kU;simpa using hlt)]);have a5h:w9.frozen? ⟨w.heap.size+1+1,q+(j+1),none⟩=false:=fJ.out.frozen _;refine aN w9 (Below.refl _ _) ?_;simp only[au,ax,ak,aj];repeat(go_big_quiet_step (fail))
       refine wpQuiet_nil ?_;refine aT ?_;clear a0 o0;have hl:=Hs.out;rw[if_pos (by omega)]at hl;have pO:=hid hl;clear hl Hs hv;go_wp2
       go_roundw
       case rel =>
        rw[b7T _ _ _ _ (gX N j)];refine⟨j+1+1,by omega,by go_num,hid ?_,hid (rY.out.far (by simp;omega) _),hid (iy.out.far (by simp) _),hid (Below.setCell bP.out (by simp;omega) _)⟩;have h1:=fJ.out.az (q+(j+1)) (n64 (limb S (q+(j+1))));rw[List.set_set,Gn S _ hlt,pO.out]at h1;exact h1
       case measure=>simp[intOf];omega
    ·obtain rfl:j=4 - q:=by omega
     have hO:=HO.out;have hA:=HA.out;have hR:=HR.out
     rw[show q+(4 - q)=4 by omega,Wi]at hO;have o0:=hO.cell 0;have o1:=hO.cell 1;have o2:=hO.cell 2;have o3:=hO.cell 3
     have a0:=hA.cell 0;have a1:=hA.cell 1;have a2:=hA.cell 2;have a3:=hA.cell 3
     have r0:=hR.cell 0;have r1:=hR.cell 1;have r2:=hR.cell 2;have r3:=hR.cell 3
     have f0:=hR.frozen 0;have f1:=hR.frozen 1;have f2:=hR.frozen 2;have f3:=hR.frozen 3
     simp only[uL,List.getElem?_cons_zero,List.getElem?_cons_succ]at o0 o1 o2 o3 a0 a1 a2 a3 r0 r1 r2 r3;have i1 : ¬ (q:Int)+((4 - q:Nat):Int)<4:=by omega
     have c2W:=hO.lt;clear hO hA HO HA HS kz HA1 HR1 ai;go_upto_region 13 with fail
     letI jc:G.Mk:=⟨some (w.heap.size+1)⟩
     refine G.bu (.take [0,1,3] (.force [2] (.take [4,5] (.force [6] .done)))) [7] (by kernel_rfl) (by kernel_rfl) (fun w9 k9=>?_);have Kz:G.Mk.m≠some w.heap.size:=fun e=>by have e2:w.heap.size+1=w.heap.size:=Option.some.inj e;omega
     have wK:G.Mk.m≠some (w.heap.size+1+1):=fun e=>by have e2:w.heap.size+1=w.heap.size+1+1:=Option.some.inj e;omega
     have b0:=G.ja (aC k9 a0) Kz;have b1:=G.ja (aC k9 a1) Kz;have b2:=G.ja (aC k9 a2) Kz;have b3:=G.ja (aC k9 a3) Kz
     have c0:=G.ja (aC k9 o0) wK;have c1:=G.ja (aC k9 o1) wK;have c2:=G.ja (aC k9 o2) wK;have c3:=G.ja (aC k9 o3) wK
     have bP:=hid (af HK.out k9);have iy:=hid (HR.out.keep k9)
     clear a0 a1 a2 a3 o0 o1 o2 o3 r0 r1 r2 r3 f0 f1 f2 f3 HK k9;refine G.aN w9 (G.Gr.refl _) ?_;simp only[au,ax,ak,aj];repeat(go_big_quiet_step (fail))
     refine wpQuiet_nil (G.bI ?_);simp only[au,ax,ak,aj];refine G.aI rfl (fun K hK=>?_);go_simp
     (with_reducible refine(Ln.out _).mono ?_)
     rintro e wa ⟨rfl,ka⟩;refine hK _ _ (G.Gr.oz ka) ?_;have fV:=hid (af bP.out ka);have oM:=hid (iy.out.keep ka)
     clear hK K b0 b1 b2 b3 c0 c1 c2 c3 ka;refine G.aS (G.aN wa (G.Gr.refl _) ?_);simp only[au,ax,ak,aj];repeat(go_big_quiet_step (fail))
     refine wpQuiet_nil (G.bI ?_);simp only[au,ax,ak,aj];refine G.aI rfl (fun K hK=>?_);have r0:=oM.out.cell 0;have r1:=oM.out.cell 1;have r2:=oM.out.cell 2;have r3:=oM.out.cell 3
     have f0:=oM.out.frozen 0;have f1:=oM.out.frozen 1;have f2:=oM.out.frozen 2;have f3:=oM.out.frozen 3
     simp only[List.getElem?_cons_zero,List.getElem?_cons_succ]at r0 r1 r2 r3;go_simp;refine hK _ _ (show G.Gr wa _ from eH (eH (eH (eH (iH wa _))))) ?_;clear hK K r0 r1 r2 r3 f0 f1 f2 f3;refine G.aS (G.aT ?_);clear Kz wK;clear jc;have hb8:=(((oM.out.az 0 (n64 (limb S 0))).az 1 (n64 (limb S 1))).az 2 (n64 (limb S 2))).az 3 (n64 (limb S 3))
     have bK:Hid (Keep w ((((wa.setCell ⟨w.heap.size+1,0,none⟩ (n64 (limb S 0))).setCell ⟨w.heap.size+1,1,none⟩ (n64 (limb S 1))).setCell ⟨w.heap.size+1,2,none⟩ (n64 (limb S 2))).setCell ⟨w.heap.size+1,3,none⟩ (n64 (limb S 3)))):=by
      refine hid ?_;iterate 4 (refine Below.setCell ?_ (by simp) _)
      exact fV.out
     have aY:=hid hb8;clear hb8;go_wp2
     exact bodyPost_ret (v:=.tuple #[aO S,.bool (decide ((256:Int)<(L:Int)+(n:Int)))]) (uN results66 _ _ (w.heap.size+1) _ _ _ _ rfl aY.out underlying79 rfl (by kernel_rfl)) rfl ⟨by rw[show decide ((256:Int)<(L:Int)+(n:Int))=decide (256<L+n) from decide_eq_decide.2 (by omega)],bK.out⟩
theorem b7U (x y d e:Nat) (hx:x<2^64):bits .or .u64 ((x:Int)/2^d) ((y:Int)*2^e%18446744073709551616)=((x/2^d ||| y*2^e%2^64:Nat):Int):=by
 have h1:(y:Int)*2^e%18446744073709551616=((y*2^e%2^64:Nat):Int):=by rw[Int.natCast_emod,Int.natCast_mul];rfl
 have h2:(x:Int)/2^d=((x/2^d:Nat):Int):=by rw[Int.natCast_ediv];rfl
 rw[h1,h2];exact bits_or_u64_nat _ _ (Nat.lt_of_le_of_lt (Nat.div_le_self _ _) hx) (Nat.mod_lt _ (by decide))
theorem b63 (S k:Nat) (h : ∀ j,k≤j→j<4→limb S j=0):kU S k=uL S:=by
 have e : ∀ j,j<4→(if j<k then limb S j else 0)=limb S j:=fun j hj=>by
  split
  ·rfl
  ·exact(h j (by omega) hj).symm
 unfold kU uL;rw[e 0 (by omega),e 1 (by omega),e 2 (by omega),e 3 (by omega)]
theorem a6s (N n:Nat) (w:World) (hN:N<2^256) (hn:n≤100000) :
  Calls prog 65 #[aO N,.int .i64 n] w fun e w'=>e = .returned (aO (N/2^n))∧Keep w w':=by
 by_cases h0:n=0
 ·subst h0
  have e1:N/2^0=N:=by rw[Nat.pow_zero,Nat.div_one]
  rw[e1];clear e1 hN hn;go_enter func65,ntmps65
  go_wp2
  have hb:ae ((w.alloc (.cells #[n64 (limb N 0),n64 (limb N 1),n64 (limb N 2),n64 (limb N 3)] 79)).alloc (.cells #[n64 (limb N 0),n64 (limb N 1),n64 (limb N 2),n64 (limb N 3)] 79)) (w.heap.size+1) 79 (uL N):=by
   have h2:=ae.new (w.alloc (.cells #[n64 (limb N 0),n64 (limb N 1),n64 (limb N 2),n64 (limb N 3)] 79)) 79 (uL N);rw[World.size_alloc]at h2;exact h2
  exact bodyPost_ret (v:=aO N) (results_cell_row results65 _ _ (w.heap.size+1) _ _ _ _ rfl hb underlying79 rfl (by kernel_rfl)) rfl ⟨rfl,af (aB _ _) (aB _ _)⟩
 ·by_cases h1:256≤n
  ·have e1:N/2^n=0:=Nat.div_eq_of_lt (Nat.lt_of_lt_of_le hN (Nat.pow_le_pow_right (by decide) h1))
   rw[e1,xn];have d1 : ¬ (n:Int)≤0:=by omega
   have d2:(256:Int)≤(n:Int):=by omega
   clear e1 hN h0 h1 hn;go_enter func65,ntmps65
   go_wp2
   have hb:ae ((w.alloc (.cells #[n64 (limb N 0),n64 (limb N 1),n64 (limb N 2),n64 (limb N 3)] 79)).alloc (.cells #[.int .u64 0,.int .u64 0,.int .u64 0,.int .u64 0] 79)) (w.heap.size+1) 79 [.int .u64 0,.int .u64 0,.int .u64 0,.int .u64 0]:=by
    have h2:=ae.new (w.alloc (.cells #[n64 (limb N 0),n64 (limb N 1),n64 (limb N 2),n64 (limb N 3)] 79)) 79 [.int .u64 0,.int .u64 0,.int .u64 0,.int .u64 0];rw[World.size_alloc]at h2;exact h2
   exact bodyPost_ret (v:=u0) (results_cell_row results65 _ _ (w.heap.size+1) _ _ _ _ rfl hb underlying79 rfl (by kernel_rfl)) rfl ⟨rfl,af (aB _ _) (aB _ _)⟩
  ·obtain⟨S,hS⟩ : ∃ S,N/2^n=S:=⟨_,rfl⟩
   have HS:Hid (∀ i,limb S i=if i+n/64<4 then(limb N (i+n/64)/2^(n%64)) ||| (if i+n/64<3 then(limb N (i+n/64+1)*2^(64 - n%64))%2^64 else 0)else 0):=hid fun i=>by rw[←hS];exact b9t N n i hN
   rw[hS];obtain⟨q,hq⟩ : ∃ q,n/64=q:=⟨_,rfl⟩
   obtain⟨d,hd⟩ : ∃ d,n%64=d:=⟨_,rfl⟩
   have hq1:Int.tdiv (n:Int) 64=(q:Int):=by rw[Int.tdiv_eq_ediv_of_nonneg (by omega)];omega
   have hd1:Int.tmod (n:Int) 64=(d:Int):=by rw[Int.tmod_eq_emod_of_nonneg (by omega)];omega
   rw[hq,hd]at HS;have hq4:q<4:=by omega
   have DL:d<64:=by omega
   have d1 : ¬ (n:Int)≤0:=by omega
   have d2 : ¬ (256:Int)≤(n:Int):=by omega
   have hn1:(n:Int)≤256:=by omega
   clear hN hn h0 h1 hS hq hd;go_enter func65,ntmps65
   go_upto_region 7 with fail
   obtain⟨w1,hw1,-,HR1,-,ai,-⟩:=JJ w 79 79 79 [n64 (limb N 0),n64 (limb N 1),n64 (limb N 2),n64 (limb N 3)] [.int .u64 0,.int .u64 0,.int .u64 0,.int .u64 0] [.int .u64 0,.int .u64 0,.int .u64 0,.int .u64 0];have HA1:Hid (ae w1 w.heap.size 79 (uL N)):=by rw[hw1];exact((ae.new w 79 (uL N)).alloc _).alloc _
   have kz:Hid (ae w1 (w.heap.size+1+1) 79 (kU S 0)):=by
    rw[hw1,P5 S 0 (fun j hj=>by omega)];have h2:=ae.new ((w.alloc (.cells #[n64 (limb N 0),n64 (limb N 1),n64 (limb N 2),n64 (limb N 3)] 79)).alloc (.cells #[.int .u64 0,.int .u64 0,.int .u64 0,.int .u64 0] 79)) 79 [.int .u64 0,.int .u64 0,.int .u64 0,.int .u64 0];rw[World.size_alloc,World.size_alloc]at h2;exact h2
   rw[←hw1];clear hw1;go_wp2_with fail
   go_loopw [8] (fun i wr => ∃ j:Nat,j+q≤4∧i = .int .i64 (j:Int)∧Hid (ae wr (w.heap.size+1+1) 79 (kU S j))∧Hid (ae wr w.heap.size 79 (uL N))∧Hid (ae wr (w.heap.size+1) 79 [.int .u64 0,.int .u64 0,.int .u64 0,.int .u64 0])∧Hid (Keep w wr)) (fun i _=>(4 - intOf i).toNat)
   case atStart=>exact⟨0,by omega,rfl,kz,HA1,HR1,ai⟩
   case round =>
    obtain⟨j,hj,rfl,HO,HA,HR,HK⟩:=hrel;by_cases hlt:j+q<4
    ·have a0:wr.cell? ⟨w.heap.size,j+q,none⟩=some (n64 (limb N (j+q))):=by rw[HA.out.cell,oG N (j+q) hlt]
     have o0:wr.cell? ⟨w.heap.size+1+1,j,none⟩=some (n64 0):=by rw[HO.out.cell,PZ S j (by omega)]
     have of:wr.frozen? ⟨w.heap.size+1+1,j,none⟩=false:=HO.out.frozen _;have i1:(j:Int)+(q:Int)<4:=by omega
     have hs:=HS.out j;rw[if_pos hlt]at hs;have Hs:=hid hs;clear hs;go_upto_region 11 with fail
     have hv:(limb N (j+q):Int)/2^d=((limb N (j+q)/2^d:Nat):Int):=by rw[Int.natCast_ediv];rfl
     obtain⟨w2,hw2⟩ : ∃ w2,w2=wr.setCell ⟨w.heap.size+1+1,j,none⟩ (.int .u64 ((limb N (j+q):Int)/2^d)):=⟨_,rfl⟩
     have kC:Hid (ae w2 (w.heap.size+1+1) 79 ((kU S j).set j (n64 (limb N (j+q)/2^d)))):=by rw[hw2,hv];exact HO.out.az _ _
     have HA2:Hid (ae w2 w.heap.size 79 (uL N)):=by rw[hw2];exact HA.out.far (by simp;omega) _
     have HR2:Hid (ae w2 (w.heap.size+1) 79 [.int .u64 0,.int .u64 0,.int .u64 0,.int .u64 0]):=by rw[hw2];exact HR.out.far (by simp) _
     have ay:Hid (Keep w w2):=by rw[hw2];exact Below.setCell HK.out (by simp;omega) _
     rw[←hw2];clear hw2 a0 o0 of HO HA HR HK hv;by_cases h3:j+q<3
     ·have i2:decide ((j:Int)+(q:Int)<3)=true:=decide_eq_true (by omega)
      have i3:(j:Int)+(q:Int)+1<4:=by omega
      go_upto_region 12 with fail
      refine bu (.take [0,1,2,3,4,5,6,7,8,9,10,11,12,13] .done) [14] (by kernel_rfl) (by kernel_rfl) (fun w9 k9=>?_);have fJ:=hid (kC.out.keep k9);have rY:=hid (HA2.out.keep k9);have iy:=hid (HR2.out.keep k9);have bP:=hid (af ay.out k9)
      clear k9;have a0:=aF (show w9.cell? ⟨w.heap.size,j+q+1,none⟩=some (n64 (limb N (j+q+1))) by rw[rY.out.cell,oG N (j+q+1) (by omega)]);have p0:w9.cell? ⟨w.heap.size+1+1,j,none⟩=some (n64 (limb N (j+q)/2^d)):=by rw[fJ.out.cell,List.getElem?_set_self (by unfold kU;simp;omega)]
      have o0:=aF p0;have a5h:w9.frozen? ⟨w.heap.size+1+1,j,none⟩=false:=fJ.out.frozen _;refine aN w9 (Below.refl _ _) ?_;simp only[au,ax,ak,aj];repeat(go_big_quiet_step (fail))
      refine wpQuiet_nil ?_;refine aT ?_;clear a0 o0;have hl:=Hs.out;rw[if_pos h3]at hl;have pO:=hid hl;clear hl Hs;go_wp2
      go_roundw
      case rel =>
       refine⟨j+1,by omega,by go_num,hid ?_,hid (rY.out.far (by simp;omega) _),hid (iy.out.far (by simp) _),hid (Below.setCell bP.out (by simp;omega) _)⟩;have h1:=fJ.out.az j (n64 (limb S j));rw[List.set_set,Gn S _ (by omega),pO.out]at h1;have h2:=b7U (limb N (j+q)) (limb N (j+q+1)) d (64 - d) (gX _ _);rw[IntKind.wrap_u64,h2];exact h1
      case measure=>simp[intOf];omega
     ·have i2:decide ((j:Int)+(q:Int)<3)=false:=decide_eq_false (by omega)
      have hl:=Hs.out;rw[if_neg h3,Nat.or_zero]at hl
      have nJ:Hid (ae w2 (w.heap.size+1+1) 79 (kU S (j+1))):=by
       have h1:=kC.out;rw[←hl,Gn S j (by omega)]at h1;exact h1
      clear hl Hs;go_wp2
      go_roundw
      case rel=>exact⟨j+1,by omega,by go_num,nJ,HA2,HR2,ay⟩
      case measure=>simp[intOf];omega
    ·have hO:=HO.out;have hR:=HR.out
     rw[b63 S j (fun i h1 h2=>by rw[HS.out i,if_neg (by omega)])]at hO;have o0:=hO.cell 0;have o1:=hO.cell 1;have o2:=hO.cell 2;have o3:=hO.cell 3
     have r0:=hR.cell 0;have r1:=hR.cell 1;have r2:=hR.cell 2;have r3:=hR.cell 3
     have f0:=hR.frozen 0;have f1:=hR.frozen 1;have f2:=hR.frozen 2;have f3:=hR.frozen 3
     simp only[uL,List.getElem?_cons_zero,List.getElem?_cons_succ]at o0 o1 o2 o3 r0 r1 r2 r3;have i1 : ¬ (j:Int)+(q:Int)<4:=by omega
     have hb8:=(((HR.out.az 0 (n64 (limb S 0))).az 1 (n64 (limb S 1))).az 2 (n64 (limb S 2))).az 3 (n64 (limb S 3))
     have bK:Hid (Keep w ((((wr.setCell ⟨w.heap.size+1,0,none⟩ (n64 (limb S 0))).setCell ⟨w.heap.size+1,1,none⟩ (n64 (limb S 1))).setCell ⟨w.heap.size+1,2,none⟩ (n64 (limb S 2))).setCell ⟨w.heap.size+1,3,none⟩ (n64 (limb S 3)))):=by
      refine hid ?_;iterate 4 (refine Below.setCell ?_ (by simp) _)
      exact HK.out
     have aY:=hid hb8;clear hb8 hO hR HO HA HS kz HA1 HR1 ai HR;go_wp2
     exact bodyPost_ret (v:=aO S) (results_cell_row results65 _ _ (w.heap.size+1) _ _ _ _ rfl aY.out underlying79 rfl (by kernel_rfl)) rfl ⟨rfl,bK.out⟩
theorem b5W {l:List UInt8} {cs:Array Value} (h:aX l cs) (hl:l.length=32) (k:Nat) (hk:k<32) (w:World) :
  (Instr.index 27 (.agg cs) (.int .i64 k)).run prog w = .ok (ah (l.getD k 0)) w:=by
 have hc:cs[k]?=some (ah (l.getD k 0)):=by
  rw[←Array.getElem?_toList,h.l,List.getElem?_map,List.getElem?_eq_getElem (show k<l.length by omega),List.getD_eq_getElem?_getD,List.getElem?_eq_getElem (show k<l.length by omega)];rfl
 have hp:(part 5 cs (k*1)).run prog w = .ok (ah (l.getD k 0)) w:=by
  simp[part,isAgg,run_underlying underlying5,hc]
 have hi:(asIntOf (.int .i64 (k:Int))).run prog w = .ok (.i64,(k:Int)) w:=rfl;unfold Instr.index;simp only[Sem.run_bind,hi,Result.andThen_ok,run_underlying kG];rw[if_pos ⟨by omega,by omega⟩];simp only[Sem.run_bind,GV,Result.andThen_ok,Int.toNat_natCast,hp]
theorem c0x (T x k:Nat) (hT:T<2^(8*k)) (hx:x<256) (hk:k<32):(uL T).set (k/8) (n64 (limb T (k/8) ||| (x*2^(8*(k%8)))))=uL (T+2^(8*k)*x):=by
 unfold uL;rw[OO T x k 0 hT hx,OO T x k 1 hT hx,OO T x k 2 hT hx,OO T x k 3 hT hx];rcases(show k/8=0∨k/8=1∨k/8=2∨k/8=3 by omega)with e | e | e | e <;> rw[e] <;> rfl
theorem b7R (x y e:Nat) (hx:x<2^64) (hy:y<256) (he:e≤56):bits .or .u64 (x:Int) (IntKind.u64.wrap ((y:Int)*2^e))=((x ||| y*2^e:Nat):Int):=by
 have h0:y*2^e<2^64:=by
  have h1:2^e≤2^56:=Nat.pow_le_pow_right (by decide) he;have h2:y*2^e≤255*2^56:=Nat.mul_le_mul (by omega) h1;have h3:255*2^56<2^64:=by decide
  omega
 have h1:IntKind.u64.wrap ((y:Int)*2^e)=((y*2^e:Nat):Int):=by
  rw[IntKind.wrap_u64,show(y:Int)*2^e=((y*2^e:Nat):Int) by rw[Int.natCast_mul];rfl]
  have:2^64=18446744073709551616:=by decide
  omega
 rw[h1];exact bits_or_u64_nat _ _ hx h0
theorem b5j (l:List UInt8) (cs:Array Value) (w:World) (hl:l.length=32) (h:aX l cs) :
  Calls prog 61 #[.agg cs] w fun e w'=>e = .returned (aO (fC l))∧Keep w w':=by
 have hz:=h.z;have hn:=h.n;have hi:=h.i
 have hI:Hid (∀ k:Nat,k<32 → ∀ w,(Instr.index 27 (.agg cs) (.int .i64 k)).run prog w = .ok (ah (l.getD k 0)) w):=hid fun k hk w=>b5W h hl k hk w
 have HT:Hid (∀ k:Nat,k<32→fC (l.take k)<2^(8*k)∧fC (l.take (k+1))=fC (l.take k)+2^(8*k)*(l.getD k 0).toNat):=hid fun k hk=>by
  have hlt:(l.take k).length=k:=by rw[List.length_take];omega
  refine⟨by have:=V9 (l.take k);rw[hlt]at this;exact this,?_⟩;rw[List.take_succ_eq_append_getElem (by omega),a4y,hlt,List.getD_eq_getElem?_getD,List.getElem?_eq_getElem (show k<l.length by omega)];rfl
 have HE:Hid (fC (l.take 32)=fC l):=hid (by rw[List.take_of_length_le (by omega)]);have H:=hid h;clear h hl;generalize fC l=M at *;go_enter func61,ntmps61
 go_upto_region 2 with fail
 obtain⟨w1,hw1,HA1,HR1,-,ai,-⟩:=b1x w 27 79 79 cs [.int .u64 0,.int .u64 0,.int .u64 0,.int .u64 0] [.int .u64 0,.int .u64 0,.int .u64 0,.int .u64 0]
 have kz:Hid (ae w1 (w.heap.size+1+1) 79 (uL (fC (l.take 0)))):=by
  have e:uL (fC (l.take 0))=[.int .u64 0,.int .u64 0,.int .u64 0,.int .u64 0]:=by rw[List.take_zero];simp[uL,n64,fC,Ea]
  rw[hw1,e];have h2:=ae.new ((w.alloc (.cells cs 27)).alloc (.cells #[.int .u64 0,.int .u64 0,.int .u64 0,.int .u64 0] 79)) 79 [.int .u64 0,.int .u64 0,.int .u64 0,.int .u64 0];rw[World.size_alloc,World.size_alloc]at h2;exact h2
 rw[←hw1];clear hw1;go_wp2_with ((with_reducible refine bY w.heap.size cs (Eq.trans ?_ rfl) HA1.out (.array 32 5) kG (uq _ _) hi ?_);rfl)
 go_loopw [4,5,7] (fun _ _ i wr => ∃ k:Nat,k≤32∧i = .int .i64 (k:Int)∧Hid (ae wr (w.heap.size+1+1) 79 (uL (fC (l.take k))))∧Hid (ae wr (w.heap.size+1) 79 [.int .u64 0,.int .u64 0,.int .u64 0,.int .u64 0])∧Hid (Keep w wr)) (fun _ _ i _=>(32 - intOf i).toNat)
 case atStart=>exact⟨0,by omega,rfl,kz,HR1,ai⟩
 case round =>
  obtain⟨k,hk,rfl,HO,HR,HK⟩:=hrel;by_cases hlt:k<32
  ·have i1:(k:Int)<32:=by omega
   have ix:=hI.out k hlt;obtain⟨hT,hS⟩:=HT.out k hlt;have hx:=(l.getD k 0).toNat_lt;have hset:=c0x (fC (l.take k)) (l.getD k 0).toNat k hT hx hlt;rw[←hS]at hset;have TN:=hid hset;have q1:Int.tdiv (k:Int) 8=((k/8:Nat):Int):=by rw[Int.tdiv_eq_ediv_of_nonneg (by omega)];omega
   have q2:Int.tmod (k:Int) 8=((k%8:Nat):Int):=by rw[Int.tmod_eq_emod_of_nonneg (by omega)];omega
   generalize l.getD k 0=x at *;generalize hT2:fC (l.take (k+1))=T2 at *;have HT2:=hid hT2;clear hT2;generalize fC (l.take k)=T at *;have hd8:k/8<4:=by omega
   have VO:k%8<8:=by omega
   generalize hqe:k/8=q at *;generalize hre:k%8=r at *;clear hset hT hS hqe hre;go_upto_region 5 with fail
   refine bu (.take [0,1,2,3,4,5,6,7,8,9,10,11] .done) [12] (by kernel_rfl) (by kernel_rfl) (fun w9 k9=>?_);have fJ:=hid (HO.out.keep k9);have iy:=hid (HR.out.keep k9);have bP:=hid (af HK.out k9)
   clear k9;have p0:w9.cell? ⟨w.heap.size+1+1,q,none⟩=some (n64 (limb T q)):=by rw[fJ.out.cell,oG T q hd8]
   have o0:=aF p0;have a5h:w9.frozen? ⟨w.heap.size+1+1,q,none⟩=false:=fJ.out.frozen _;refine aN w9 (Below.refl _ _) ?_;simp only[au,ax,ak,aj];repeat(go_big_quiet_step (fail))
   refine wpQuiet_nil ?_;refine aT ?_;clear o0;go_wp2
   go_roundw
   case rel =>
    rw[b7R _ _ _ (gX T q) hx (by omega)];refine⟨k+1,by omega,by go_num,hid ?_,hid (iy.out.far (by simp) _),hid (Below.setCell bP.out (by simp;omega) _)⟩;have h1:=fJ.out.az q (n64 (limb T q ||| (x.toNat*2^(8*r))));rw[TN.out,←HT2.out]at h1;exact h1
   case measure=>simp[intOf];omega
  ·obtain rfl:k=32:=by omega
   have hO:=HO.out;rw[HE.out]at hO;have hR:=HR.out;have o0:=hO.cell 0;have o1:=hO.cell 1;have o2:=hO.cell 2;have o3:=hO.cell 3
   have r0:=hR.cell 0;have r1:=hR.cell 1;have r2:=hR.cell 2;have r3:=hR.cell 3
   have f0:=hR.frozen 0;have f1:=hR.frozen 1;have f2:=hR.frozen 2;have f3:=hR.frozen 3
   simp only[uL,List.getElem?_cons_zero,List.getElem?_cons_succ]at o0 o1 o2 o3 r0 r1 r2 r3;have hb8:=(((HR.out.az 0 (n64 (limb M 0))).az 1 (n64 (limb M 1))).az 2 (n64 (limb M 2))).az 3 (n64 (limb M 3))
   have bK:Hid (Keep w ((((wr.setCell ⟨w.heap.size+1,0,none⟩ (n64 (limb M 0))).setCell ⟨w.heap.size+1,1,none⟩ (n64 (limb M 1))).setCell ⟨w.heap.size+1,2,none⟩ (n64 (limb M 2))).setCell ⟨w.heap.size+1,3,none⟩ (n64 (limb M 3)))):=by
    refine hid ?_;iterate 4 (refine Below.setCell ?_ (by simp) _)
    exact HK.out
   have aY:=hid hb8;clear hb8 hO hR HO HR HT HE hI kz HA1 HR1 ai;go_wp2
   exact bodyPost_ret (v:=aO M) (results_cell_row results61 _ _ (w.heap.size+1) _ _ _ _ rfl aY.out underlying79 rfl (by kernel_rfl)) rfl ⟨rfl,bK.out⟩
theorem c0t (n:Nat):bits BinOp.and IntKind.u32 (n:Int) 1=((n%2:Nat):Int):=by
 have h1:(BitVec.ofInt 32 1).toNat=2^1 - 1:=by decide
 have key:(BitVec.ofInt 32 (n:Int) &&& BitVec.ofInt 32 1).toNat=((n:Int)%((2^32:Nat):Int)).toNat%2^1:=by
  rw[BitVec.toNat_and,BitVec.toNat_ofInt,h1,Nat.and_two_pow_sub_one_eq_mod]
 show IntKind.u32.wrap ((BitVec.ofInt 32 (n:Int) &&& BitVec.ofInt 32 1).toNat:Nat)=((n%2:Nat):Int)
 rw[key,IntKind.wrap_u32];omega
theorem c0u (n:Nat):bits BinOp.and IntKind.u32 (n:Int) 8388607=((n%8388608:Nat):Int):=by
 have h1:(BitVec.ofInt 32 8388607).toNat=2^23 - 1:=by decide
 have key:(BitVec.ofInt 32 (n:Int) &&& BitVec.ofInt 32 8388607).toNat=((n:Int)%((2^32:Nat):Int)).toNat%2^23:=by
  rw[BitVec.toNat_and,BitVec.toNat_ofInt,h1,Nat.and_two_pow_sub_one_eq_mod]
 show IntKind.u32.wrap ((BitVec.ofInt 32 (n:Int) &&& BitVec.ofInt 32 8388607).toNat:Nat)=((n%8388608:Nat):Int)
 rw[key,IntKind.wrap_u32];omega
theorem b9y {m:Nat} (h:m<8388608):m<2^64:=Nat.lt_trans h (by decide)
theorem b9x {m:Nat} (h:m<8388608):m<2^256:=Nat.lt_trans h (by decide)
theorem b3w {x:UInt32} (h1:x.toNat%8388608≠0) (h2:x.toNat/8388608%2=1):bM x=(0,7):=if_pos ⟨h1,h2⟩
theorem b3v {x:UInt32} (h1 : ¬ (x.toNat%8388608≠0∧x.toNat/8388608%2=1)) (h3:x.toNat/16777216<3) {T:Nat} (hT:T=x.toNat%8388608/2^(8*(3 - x.toNat/16777216))) :
  T<2^256∧bM x=if false=true∨T=0 then(0,7)else(T,0):=by
 have e:JU x=T:=by rw[hT];exact if_pos h3
 have hlt:T<2^256:=by
  have h4:T≤x.toNat%8388608:=by rw[hT];exact Nat.div_le_self _ _
  have h5:(8388608:Nat)≤2^256:=by decide
  omega
 refine⟨hlt,?_⟩;unfold bM;rw[if_neg h1,e];by_cases h0:T=0
 ·rw[if_pos (Or.inr h0),if_pos (Or.inr h0)]
 ·rw[if_neg (by intro h;rcases h with h | h;omega;exact h0 h),if_neg (by intro h;rcases h with h | h;cases h;exact h0 h)]
theorem b3u {x:UInt32} (h1 : ¬ (x.toNat%8388608≠0∧x.toNat/8388608%2=1)) (h3 : ¬ x.toNat/16777216<3) {U:Nat} (hU:U=x.toNat%8388608*2^(8*(x.toNat/16777216 - 3))) :
  U%2^256<2^256∧bM x=if decide (2^256≤U)=true∨U%2^256=0 then(0,7)else(U%2^256,0):=by
 have e:JU x=U:=by rw[hU];exact if_neg h3
 refine⟨Nat.mod_lt _ (Nat.two_pow_pos _),?_⟩;unfold bM;rw[if_neg h1,e];by_cases h0:2^256≤U
 ·rw[if_pos (Or.inl h0),if_pos (Or.inl (decide_eq_true h0))]
 ·have hm:U%2^256=U:=Nat.mod_eq_of_lt (Nat.lt_of_not_le h0)
  rw[hm,decide_eq_false h0];by_cases h2:U=0
  ·rw[if_pos (Or.inr h2),if_pos (Or.inr h2)]
  ·rw[if_neg (by intro h;rcases h with h | h;exact h0 h;exact h2 h),if_neg (by intro h;rcases h with h | h;cases h;exact h2 h)]
theorem FU (x:UInt32) (w:World) :
  Calls prog 35 #[ag x] w fun e w'=>e = .returned (.tuple #[aO (bM x).1,.int .i64 (bM x).2])∧Keep w w':=by
 have hx:=x.toNat_lt;have H1:Hid (x.toNat%8388608≠0→x.toNat/8388608%2=1→bM x=(0,7)):=hid b3w;have H2:Hid (¬ (x.toNat%8388608≠0∧x.toNat/8388608%2=1)→x.toNat/16777216<3 → ∀ T,T=x.toNat%8388608/2^(8*(3 - x.toNat/16777216))→T<2^256∧bM x=if false=true∨T=0 then(0,7)else(T,0)):=hid fun h1 h3 T hT=>b3v h1 h3 hT;have H3:Hid (¬ (x.toNat%8388608≠0∧x.toNat/8388608%2=1) → ¬ x.toNat/16777216<3 → ∀ U,U=x.toNat%8388608*2^(8*(x.toNat/16777216 - 3))→U%2^256<2^256∧bM x=if decide (2^256≤U)=true∨U%2^256=0 then(0,7)else(U%2^256,0)):=hid fun h1 h3 U hU=>b3u h1 h3 hU;generalize bM x=R at *
 have a1:bits BinOp.and IntKind.u32 ((x.toNat:Int)/8388608) 1=((x.toNat/8388608%2:Nat):Int):=by
  rw[show(x.toNat:Int)/8388608=((x.toNat/8388608:Nat):Int) by omega];exact c0t _
 have a2:bits BinOp.and IntKind.u32 (x.toNat:Int) 8388607=((x.toNat%8388608:Nat):Int):=c0u _;have a3:(x.toNat:Int)/16777216=((x.toNat/16777216:Nat):Int):=by omega
 obtain⟨m,hm⟩ : ∃ m,x.toNat%8388608=m:=⟨_,rfl⟩
 obtain⟨s,hs⟩ : ∃ s,x.toNat/8388608%2=s:=⟨_,rfl⟩
 obtain⟨k,hk⟩ : ∃ k,x.toNat/16777216=k:=⟨_,rfl⟩
 rw[hm]at a2 H1 H2 H3;rw[hs]at a1 H1 H2 H3;rw[hk]at a3 H2 H3;have a3s:m<8388608:=by omega
 have hs2:s<2:=by omega
 have hk8:k<256:=by omega
 clear hm hs hk;go_enter func35,ntmps35
 go_upto_region 2 with fail
 clear a1 a2 a3;obtain⟨w1,hw1,HR1,ai,-⟩:=mW w 79 [.int .u64 0,.int .u64 0,.int .u64 0,.int .u64 0];rw[←hw1];clear hw1;have hR1:=HR1.out;have hlt1:w.heap.size<w1.heap.size:=hR1.lt
 -- what is told at an error
 have fin : ∀ W,ae W w.heap.size 79 [.int .u64 0,.int .u64 0,.int .u64 0,.int .u64 0]→ae ((((W.setCell ⟨w.heap.size,0,none⟩ (.int .u64 0)).setCell ⟨w.heap.size,1,none⟩ (.int .u64 0)).setCell ⟨w.heap.size,2,none⟩ (.int .u64 0)).setCell ⟨w.heap.size,3,none⟩ (.int .u64 0)) w.heap.size 79 [.int .u64 0,.int .u64 0,.int .u64 0,.int .u64 0]:=fun W h =>
  (((h.az 0 (.int .u64 0)).az 1 (.int .u64 0)).az 2 (.int .u64 0)).az 3 (.int .u64 0)
 have Fin:=hid fin;have r0:=hR1.cell 0;have r1:=hR1.cell 1;have r2:=hR1.cell 2;have r3:=hR1.cell 3
 have f0:=hR1.frozen 0;have f1:=hR1.frozen 1;have f2:=hR1.frozen 2;have f3:=hR1.frozen 3
 simp only[List.getElem?_cons_zero,List.getElem?_cons_succ]at r0 r1 r2 r3;clear fin hR1;by_cases hsg:m≠0∧s=1
 ·have HD:=hid (H1.out hsg.1 hsg.2)
  obtain⟨g1,g2⟩:=hsg;subst g2;have d1:(m != 0)=true:=by simp[g1]
  have d2:((m:Int)!=0)=true:=by simp[g1]
  clear H1 H2 H3 g1;go_wp2
  rw[HD.out,xn];have hb8:=Fin.out w1 HR1.out
  have bK:Keep w ((((w1.setCell ⟨w.heap.size,0,none⟩ (.int .u64 0)).setCell ⟨w.heap.size,1,none⟩ (.int .u64 0)).setCell ⟨w.heap.size,2,none⟩ (.int .u64 0)).setCell ⟨w.heap.size,3,none⟩ (.int .u64 0)):=by
   iterate 4 (refine Below.setCell ?_ (by simp) _)
   exact ai.out
  exact bodyPost_ret (v:=.tuple #[u0,.int .i64 7]) (uN results35 _ _ w.heap.size _ _ _ _ rfl hb8 underlying79 rfl (by kernel_rfl)) rfl ⟨rfl,bK⟩
 ·have hg : ¬ (m≠0∧s=1):=hsg
  have HG:=hid hg;have FB:Hid (∀ y,Calls prog 64 #[n64 m] y fun e w'=>e = .returned (aO m)∧Keep y w'):=hid fun y=>a5i m y (b9y a3s);have HM:=hid (b9x a3s);clear hg r0 r1 r2 r3 f0 f1 f2 f3 H1
  go_cut [22] (fun v wx=>v = .bool false∧w1=wx)
  case first =>
   by_cases h0:m=0
   ·subst h0
    clear hsg H2 H3;go_wp2
    go_meet
    exact⟨rfl,rfl⟩
   ·have h1:s≠1:=fun e=>hsg ⟨h0,e⟩
    have d1:(m != 0)=true:=by simp[h0]
    have d2:((m:Int)!=0)=true:=by simp[h0]
    have d3:(s==1)=false:=by simp[h1]
    have d4:((s:Int)==1)=false:=by rw[beq_eq_false_iff_ne];omega
    clear hsg H2 H3 h0 h1;go_wp2
    go_meet
    exact⟨rfl,rfl⟩
  case rest =>
   obtain⟨rfl,rfl⟩:=hcut;clear hsg;go_upto_region 4 with fail
   go_wp2_with fail
   refine(FB.out _).mono ?_;rintro e w2 ⟨rfl,k2⟩;have HR2:=hid (HR1.out.keep k2);have ay:=hid (af ai.out k2)
   have hz2:w.heap.size<w2.heap.size:=HR2.out.lt;clear k2 FB HR1 ai;go_upto_region 5 with fail
   obtain⟨w3,hw3⟩ : ∃ w3,w3=w2.alloc (.cells #[n64 (limb m 0),n64 (limb m 1),n64 (limb m 2),n64 (limb m 3)] 79):=⟨_,rfl⟩
   have HT3:Hid (ae w3 w2.heap.size 79 (uL m)):=by rw[hw3];exact ae.new w2 79 (uL m)
   have HR3:Hid (ae w3 w.heap.size 79 [.int .u64 0,.int .u64 0,.int .u64 0,.int .u64 0]):=by rw[hw3];exact HR2.out.alloc _
   have aA:Hid (Keep w w3):=by rw[hw3];exact af ay.out (aB _ _)
   rw[←hw3];clear hw3 HR2 ay;generalize w2.heap.size=B at *
   go_upto_if 28 with fail
   go_cut [8] (fun v wx => ∃ (T:Nat) (ov:Bool),v = .bool ov∧Hid (T<2^256)∧Hid (ae wx B 79 (uL T))∧Hid (ae wx w.heap.size 79 [.int .u64 0,.int .u64 0,.int .u64 0,.int .u64 0])∧Hid (Keep w wx)∧Hid (R=if ov=true∨T=0 then(0,7)else(T,0)))
   case first =>
    by_cases h3:k<3
    ·obtain⟨q1,q2⟩:=H2.out HG.out h3 _ rfl
     have C6:Hid (∀ y,Calls prog 65 #[aO m,.int .i64 (8*(3 - (k:Int)))] y fun e w'=>e = .returned (aO (m/2^(8*(3 - k))))∧Keep y w'):=hid fun y=>by
      have h1:=a6s m (8*(3 - k)) y HM.out (by omega);rw[show((8*(3 - k):Nat):Int)=8*(3 - (k:Int)) by omega]at h1;exact h1
     have Q1:=hid q1;have Q2:=hid q2
     clear q1 q2 H2 H3;generalize m/2^(8*(3 - k))=T at *;have d1:decide ((k:Int)<3)=true:=decide_eq_true (by omega);have d2:decide (k<3)=true:=decide_eq_true (by omega);have h3':(k:Int)<3:=by omega
     clear h3;have hT:=HT3.out;have t0:=hT.cell 0;have t1:=hT.cell 1;have t2:=hT.cell 2;have t3:=hT.cell 3
     have g0:=hT.frozen 0;have g1:=hT.frozen 1;have g2:=hT.frozen 2;have g3:=hT.frozen 3
     simp only[uL,List.getElem?_cons_zero,List.getElem?_cons_succ]at t0 t1 t2 t3;clear hT;go_upto_region 6 with fail
     go_wp2_with fail
     refine(C6.out _).mono ?_;rintro e w4 ⟨rfl,k4⟩;have HT4:=hid (HT3.out.keep k4);have HR4:=hid (HR3.out.keep k4);have aQ:=hid (af aA.out k4)
     clear t0 t1 t2 t3 g0 g1 g2 g3 k4 C6;have hT:=HT4.out;have t0:=hT.cell 0;have t1:=hT.cell 1;have t2:=hT.cell 2;have t3:=hT.cell 3
     have g0:=hT.frozen 0;have g1:=hT.frozen 1;have g2:=hT.frozen 2;have g3:=hT.frozen 3
     simp only[uL,List.getElem?_cons_zero,List.getElem?_cons_succ]at t0 t1 t2 t3;clear hT;go_wp2
     go_meet
     refine⟨T,false,rfl,Q1,hid ((((HT4.out.az 0 _).az 1 _).az 2 _).az 3 _),hid ?_,hid ?_,Q2⟩
     ·iterate 4 (refine ae.far ?_ (by simp;omega) _)
      exact HR4.out
     ·iterate 4 (refine Below.setCell ?_ (by simp;omega) _)
      exact aQ.out
    ·obtain⟨q1,q2⟩:=H3.out HG.out h3 _ rfl
     have C6:Hid (∀ y,Calls prog 66 #[aO m,.int .i64 (8*((k:Int) - 3))] y fun e w'=>e = .returned (.tuple #[aO (m*2^(8*(k - 3))%2^256),.bool (decide (2^256≤m*2^(8*(k - 3))))])∧Keep y w'):=hid fun y=>by
      have h1:=a6r m (8*(k - 3)) y HM.out (by omega);rw[show((8*(k - 3):Nat):Int)=8*((k:Int) - 3) by omega]at h1;exact h1
     have Q1:=hid q1;have Q2:=hid q2
     clear q1 q2 H2 H3;generalize decide (2^256≤m*2^(8*(k - 3)))=ov at *;generalize m*2^(8*(k - 3))%2^256=T at *;have d1:decide ((k:Int)<3)=false:=decide_eq_false (by omega);have d2:decide (k<3)=false:=decide_eq_false (by omega);have h3':3≤(k:Int):=by omega
     clear h3;have hT:=HT3.out;have t0:=hT.cell 0;have t1:=hT.cell 1;have t2:=hT.cell 2;have t3:=hT.cell 3
     have g0:=hT.frozen 0;have g1:=hT.frozen 1;have g2:=hT.frozen 2;have g3:=hT.frozen 3
     simp only[uL,List.getElem?_cons_zero,List.getElem?_cons_succ]at t0 t1 t2 t3;clear hT;go_upto_region 7 with fail
     go_wp2_with fail
     refine(C6.out _).mono ?_;rintro e w4 ⟨rfl,k4⟩;have HT4:=hid (HT3.out.keep k4);have HR4:=hid (HR3.out.keep k4);have aQ:=hid (af aA.out k4)
     clear t0 t1 t2 t3 g0 g1 g2 g3 k4 C6;have hT:=HT4.out;have t0:=hT.cell 0;have t1:=hT.cell 1;have t2:=hT.cell 2;have t3:=hT.cell 3
     have g0:=hT.frozen 0;have g1:=hT.frozen 1;have g2:=hT.frozen 2;have g3:=hT.frozen 3
     simp only[uL,List.getElem?_cons_zero,List.getElem?_cons_succ]at t0 t1 t2 t3;clear hT;go_wp2
     go_meet
     refine⟨T,ov,rfl,Q1,hid ((((HT4.out.az 0 _).az 1 _).az 2 _).az 3 _),hid ?_,hid ?_,Q2⟩
     ·iterate 4 (refine ae.far ?_ (by simp;omega) _)
      exact HR4.out
     ·iterate 4 (refine Below.setCell ?_ (by simp;omega) _)
      exact aQ.out
   case rest =>
    obtain⟨T,ov,rfl,a9n,HTc,vI,gK,HD⟩:=hcut
    have HE:Hid (∀ W,(Go.binOp .eql 79 (aO T) u0).run prog W = .ok (.bool (decide (T=0))) W):=hid fun W=>by
     have:=QG a9n.out (Nat.two_pow_pos 256) W
     rw[xn]at this;exact this
    have hgd:=MC;clear H2 H3 HT3 HR3 aA;have hT:=HTc.out;have t0:=hT.cell 0;have t1:=hT.cell 1;have t2:=hT.cell 2;have t3:=hT.cell 3
    have g0:=hT.frozen 0;have g1:=hT.frozen 1;have g2:=hT.frozen 2;have g3:=hT.frozen 3
    simp only[uL,List.getElem?_cons_zero,List.getElem?_cons_succ]at t0 t1 t2 t3;have hR:=vI.out;have r0:=hR.cell 0;have r1:=hR.cell 1;have r2:=hR.cell 2;have r3:=hR.cell 3
    have f0:=hR.frozen 0;have f1:=hR.frozen 1;have f2:=hR.frozen 2;have f3:=hR.frozen 3
    simp only[List.getElem?_cons_zero,List.getElem?_cons_succ]at r0 r1 r2 r3;clear hT hR g0 g1 g2 g3;have he:=HE.out;by_cases hbad:ov=true∨T=0
    ·have HD2:=HD.out
     rw[if_pos hbad]at HD2;have HD3:=hid HD2;clear HD2 HD;have hb8:=hid (Fin.out wc vI.out)
     have bK:Hid (Keep w ((((wc.setCell ⟨w.heap.size,0,none⟩ (.int .u64 0)).setCell ⟨w.heap.size,1,none⟩ (.int .u64 0)).setCell ⟨w.heap.size,2,none⟩ (.int .u64 0)).setCell ⟨w.heap.size,3,none⟩ (.int .u64 0))):=by
      refine hid ?_;iterate 4 (refine Below.setCell ?_ (by simp) _)
      exact gK.out
     cases ov with
     | true =>
       clear hbad he HE;go_wp2
       rw[HD3.out,xn];exact bodyPost_ret (v:=.tuple #[u0,.int .i64 7]) (uN results35 _ _ w.heap.size _ _ _ _ rfl hb8.out underlying79 rfl (by kernel_rfl)) rfl ⟨rfl,bK.out⟩
     | false =>
       have h0:decide (T=0)=true:=decide_eq_true (hbad.resolve_left (by simp));rw[h0]at he;clear hbad HE h0;go_wp2
       rw[HD3.out,xn];exact bodyPost_ret (v:=.tuple #[u0,.int .i64 7]) (uN results35 _ _ w.heap.size _ _ _ _ rfl hb8.out underlying79 rfl (by kernel_rfl)) rfl ⟨rfl,bK.out⟩
    ·have HD2:=HD.out
     rw[if_neg hbad]at HD2;have HD3:=hid HD2;have hov:ov=false:=by cases ov;rfl;exact absurd (Or.inl rfl) hbad
     have h0:decide (T=0)=false:=decide_eq_false (fun e=>hbad (Or.inr e));subst hov;rw[h0]at he;clear HD2 HD hbad HE h0;have hb8:=hid ((((vI.out.az 0 (n64 (limb T 0))).az 1 (n64 (limb T 1))).az 2 (n64 (limb T 2))).az 3 (n64 (limb T 3)))
     have bK:Hid (Keep w ((((wc.setCell ⟨w.heap.size,0,none⟩ (n64 (limb T 0))).setCell ⟨w.heap.size,1,none⟩ (n64 (limb T 1))).setCell ⟨w.heap.size,2,none⟩ (n64 (limb T 2))).setCell ⟨w.heap.size,3,none⟩ (n64 (limb T 3)))):=by
      refine hid ?_;iterate 4 (refine Below.setCell ?_ (by simp) _)
      exact gK.out
     go_wp2
     rw[HD3.out];exact bodyPost_ret (v:=.tuple #[aO T,.int .i64 0]) (uN results35 _ _ w.heap.size _ _ _ _ rfl hb8.out underlying79 rfl (by kernel_rfl)) rfl ⟨rfl,bK.out⟩
theorem UN (a b:Nat):decide (0<kF a b)=decide (b<a):=by
 unfold kF;by_cases h1:a<b
 ·rw[if_pos h1,decide_eq_false (by decide),decide_eq_false (by omega)]
 ·rw[if_neg h1]
  by_cases h2:b<a
  ·rw[if_pos h2,decide_eq_true h2];rfl
  ·rw[if_neg h2,decide_eq_false h2];rfl
theorem a4M (l:List UInt8) (cs:Array Value) (bits limit:UInt32) (w:World) (hl:l.length=32) (h:aX l cs) :
  Calls prog 32 #[.agg cs,ag bits,ag limit] w fun e w'=>e = .returned (.int .i64 (o8 (fC l) bits limit))∧Keep w w':=by
 have hz:=h.z;have hn:=h.n;have hi:=h.i
 have a3o:fC l<2^256:=by have:=V9 l;rw[hl]at this;exact this
 have N1:Hid (∀ y,Calls prog 61 #[.agg cs] y fun e w'=>e = .returned (aO (fC l))∧Keep y w'):=hid fun y=>b5j l cs y hl h;have E1:Hid (∀ y,Calls prog 35 #[ag bits] y fun e w'=>e = .returned (.tuple #[aO (bM bits).1,.int .i64 (bM bits).2])∧Keep y w'):=hid fun y=>FU bits y;have E2:Hid (∀ y,Calls prog 35 #[ag limit] y fun e w'=>e = .returned (.tuple #[aO (bM limit).1,.int .i64 (bM limit).2])∧Keep y w'):=hid fun y=>FU limit y;have b1:=JS bits;have b2:=JS limit
 have v1:=a1X bits;have v2:=a1X limit
 have HM:Hid (∀ R,o8 (fC l) bits limit=R→R=if(bM bits).2≠0 then 7 else if(bM limit).2≠0∨(bM limit).1<(bM bits).1 then 7 else if(bM bits).1<fC l then 6 else 0):=hid fun R e=>by subst e;rfl
 replace HM:=hid (HM.out _ rfl);generalize o8 (fC l) bits limit=R at *;generalize bM bits=X at *;generalize bM limit=Y at *;obtain⟨T,te⟩:=X;obtain⟨L,le⟩:=Y;simp only at b1 b2 v1 v2;generalize fC l=M at *;have C1:Hid (∀ y,Calls prog 60 #[aO T,aO L] y fun e w'=>e = .returned (.int .i64 (kF T L))∧Keep y w'):=hid fun y=>JO T L y b1 b2;have C2:Hid (∀ y,Calls prog 60 #[aO M,aO T] y fun e w'=>e = .returned (.int .i64 (kF M T))∧Keep y w'):=hid fun y=>JO M T y a3o b1;have g1:=UN T L;have g2:=UN M T
 generalize kF T L=c1 at *;generalize kF M T=c2 at *;have H:=hid h;clear h b1 b2 a3o;go_enter func32,ntmps32
 go_upto_region 1 with fail
 obtain⟨w1,hw1,HA1,ai,-⟩:=di w 27 cs;rw[←hw1];clear hw1;go_wp2_with fail
 refine(E1.out _).mono ?_;clear E1;rintro e w2 ⟨rfl,k2⟩;have HA2:=hid (HA1.out.keep k2);have ay:=hid (af ai.out k2)
 have hz2:w.heap.size<w2.heap.size:=HA2.out.lt;clear k2 HA1 ai;go_upto_region 2 with fail
 obtain⟨w3,hw3⟩ : ∃ w3,w3=w2.alloc (.cells #[n64 (limb T 0),n64 (limb T 1),n64 (limb T 2),n64 (limb T 3)] 79):=⟨_,rfl⟩
 have HT3:Hid (ae w3 w2.heap.size 79 (uL T)):=by rw[hw3];exact ae.new w2 79 (uL T)
 have uY:Hid (ae w3 w.heap.size 27 cs.toList):=by rw[hw3];exact HA2.out.alloc _
 have aA:Hid (Keep w w3):=by rw[hw3];exact af ay.out (aB _ _)
 rw[←hw3];clear hw3 HA2 ay;generalize w2.heap.size=B at *;by_cases hte:te=0
 ·subst hte
  have hM:=HM.out;rw[if_neg (by simp)]at hM;replace HM:=hid hM;clear hM v1;go_wp2_with fail
  refine(E2.out _).mono ?_;clear E2;rintro e w4 ⟨rfl,k4⟩;have HT4:=hid (HT3.out.keep k4);have uZ:=hid (uY.out.keep k4);have aQ:=hid (af aA.out k4)
  have jb:B<w4.heap.size:=HT4.out.lt;clear k4 HT3 uY aA;go_upto_region 5 with fail
  obtain⟨w5,hw5⟩ : ∃ w5,w5=w4.alloc (.cells #[n64 (limb L 0),n64 (limb L 1),n64 (limb L 2),n64 (limb L 3)] 79):=⟨_,rfl⟩
  have tX:Hid (ae w5 w4.heap.size 79 (uL L)):=by rw[hw5];exact ae.new w4 79 (uL L)
  have sF:Hid (ae w5 B 79 (uL T)):=by rw[hw5];exact HT4.out.alloc _
  have Ie:Hid (ae w5 w.heap.size 27 cs.toList):=by rw[hw5];exact uZ.out.alloc _
  have aJ:Hid (Keep w w5):=by rw[hw5];exact af aQ.out (aB _ _)
  rw[←hw5];clear hw5 HT4 uZ aQ;generalize w4.heap.size=D at *;by_cases hle:le=0
  ·subst hle
   have hT:=sF.out;have hL:=tX.out
   have t0:=hT.cell 0;have t1:=hT.cell 1;have t2:=hT.cell 2;have t3:=hT.cell 3
   have l0:=hL.cell 0;have l1:=hL.cell 1;have l2:=hL.cell 2;have l3:=hL.cell 3
   simp only[uL,List.getElem?_cons_zero,List.getElem?_cons_succ]at t0 t1 t2 t3 l0 l1 l2 l3;clear hT hL v2;go_wp2_with fail
   refine(C1.out _).mono ?_;clear C1;rintro e w6 ⟨rfl,k6⟩;have ZL:=hid (sF.out.keep k6);have EF:=hid (Ie.out.keep k6);have bD:=hid (af aJ.out k6)
   clear k6 t0 t1 t2 t3 l0 l1 l2 l3 sF Ie aJ tX;by_cases hlt:L<T
   ·have hM:=HM.out
    rw[if_pos (Or.inr hlt)]at hM;rw[decide_eq_true hlt]at g1;subst hM;clear hlt g2 C2 HM;go_wp2
    exact bodyPost_ret (v:=.int .i64 7) (by simp[results,results32]) rfl ⟨rfl,bD.out⟩
   ·have hM:=HM.out
    rw[if_neg (by intro h;rcases h with h | h;exact h rfl;exact hlt h)]at hM;rw[decide_eq_false hlt]at g1;have pJ:=hid hM;clear hM hlt HM;go_upto_region 7 with fail
    refine bu (.take [0,2] (.force [1,3] (.take [4] .done))) [] (by kernel_rfl) (by kernel_rfl) (fun w9 k9=>?_);have a9o:=hid (ZL.out.keep k9);have rY:=hid (EF.out.keep k9);have bP:=hid (af bD.out k9)
    have hT:=a9o.out;have t0:=hT.cell 0;have t1:=hT.cell 1;have t2:=hT.cell 2;have t3:=hT.cell 3
    simp only[uL,List.getElem?_cons_zero,List.getElem?_cons_succ]at t0 t1 t2 t3;have t0':=aF t0;have t1':=aF t1;have t2':=aF t2;have b97:=aF t3
    clear k9 hT t0 t1 t2 t3 ZL EF bD g1;refine aN w9 (Below.refl _ _) ?_;simp only[au,ax,ak,aj]
    (with_reducible refine jY w.heap.size 0 cs (Eq.trans ?_ rfl) (cu rY.out 0 cs.toList (by rw[List.drop_zero,List.take_of_length_le (Nat.le_refl _)])) (.array 32 5) kG (uq _ _) hi (Eq.trans ?_ rfl) ?_)
    rfl;rfl;simp only[Act.put,Array.set!_eq_setIfInBounds,List.setIfInBounds_toArray,List.set_cons_succ,List.set_cons_zero];repeat(go_big_quiet_step (fail))
    refine wpQuiet_nil (bI ?_);simp only[au,ax,ak,aj];refine aI rfl (fun K hK=>?_);go_simp
    (with_reducible refine(N1.out _).mono ?_)
    rintro e wa ⟨rfl,ka⟩;refine hK _ _ ka ?_;clear hK K t0' t1' t2' b97;have fV:=hid (af bP.out ka);clear ka;refine aI rfl (fun K hK=>?_);go_simp
    (with_reducible refine(C2.out _).mono ?_)
    rintro e wb ⟨rfl,kb⟩;refine hK _ _ kb ?_;clear hK K;have lW:=hid (af fV.out kb);clear kb;refine aS (aN wb (Below.refl _ _) ?_);simp only[au,ax,ak,aj];repeat(go_big_quiet_step (fail))
    refine wpQuiet_nil (aT ?_);by_cases hw:T<M
    ·have hM:=pJ.out
     rw[if_pos hw]at hM;have d9:decide (T<M)=true:=decide_eq_true hw;subst hM;clear pJ g2;go_wp2
     exact bodyPost_ret (v:=.int .i64 6) (by simp[results,results32]) rfl ⟨rfl,lW.out⟩
    ·have hM:=pJ.out
     rw[if_neg hw]at hM;have d9:decide (T<M)=false:=decide_eq_false hw;subst hM;clear pJ g2;go_wp2
     exact bodyPost_ret (v:=.int .i64 0) (by simp[results,results32]) rfl ⟨rfl,lW.out⟩
  ·have hM:=HM.out
   rw[if_pos (Or.inl hle)]at hM;subst hM;have d1:(le != 0)=true:=by simp[hle]
   clear hle HM v2;go_wp2
   exact bodyPost_ret (v:=.int .i64 7) (by simp[results,results32]) rfl ⟨rfl,aJ.out⟩
 ·have hM:=HM.out
  rw[if_pos hte]at hM;subst hM;have d1:(te != 0)=true:=by simp[hte]
  clear hte HM v1;go_wp2
  exact bodyPost_ret (v:=.int .i64 7) (by simp[results,results32]) rfl ⟨rfl,aA.out⟩
end Go.Proofs.YtiagcenlnekdeaaGreatDoor
