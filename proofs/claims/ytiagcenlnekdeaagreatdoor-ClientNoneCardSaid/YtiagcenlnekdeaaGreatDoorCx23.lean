/- Texts merged by pack.py: Ml, Dv, UI, UJ, UK, Rt. -/
import Derived.Test.YtiagcenlnekdeaaGreatDoorCx1
import Derived.WalkKit
import Derived.Lib.Mul64
import Derived.Laws.Bits64b
import Derived.Laws.Externs
import Derived.Test.YtiagcenlnekdeaaGreatDoorCx22
import Derived.Test.YtiagcenlnekdeaaGreatDoorCx7
import Derived.Great.BuildSlice
set_option maxRecDepth 1000000
set_option maxHeartbeats 16000000
open Go.Proofs.Tryz
open Go.Lib (hid)
set_option linter.unusedSimpArgs false
set_option linter.unusedVariables false
namespace Go.Proofs.YtiagcenlnekdeaaGreatDoor
open Go.RowKit
namespace Mul64
theorem maskN (a:Nat) (ha:a<18446744073709551616):bits .and .u64 (a:Int) 4294967295=((a%4294967296:Nat):Int):=by
 have h:=bits_and_u64_nat a 4294967295 ha (by omega);have e:a &&& 4294967295=a%4294967296:=Nat.and_two_pow_sub_one_eq_mod a 32;rw[e]at h;exact h
theorem divN (a:Nat):(a:Int)/4294967296=((a/4294967296:Nat):Int):=by omega
theorem mulN (a b:Nat):(a:Int)*(b:Int)=((a*b:Nat):Int):=(Int.natCast_mul a b).symm
theorem addN (a b:Nat):(a:Int)+(b:Int)=((a+b:Nat):Int):=(Int.natCast_add a b).symm
theorem wrapN (a:Nat) (ha:a<18446744073709551616):IntKind.u64.wrap (a:Int)=(a:Int):=by rw[IntKind.wrap_u64];omega
theorem wrapM (a:Nat):IntKind.u64.wrap (a:Int)=((a%18446744073709551616:Nat):Int):=by rw[IntKind.wrap_u64];omega
end Mul64
theorem bits_Mul64 (x y:Nat) (hx:x<18446744073709551616) (hy:y<18446744073709551616) (w:World) :
  Calls prog 260 #[.int .u64 x,.int .u64 y] w fun e w'=>e = .returned (.tuple #[.int .u64 ((x*y/18446744073709551616:Nat):Int),.int .u64 ((x*y%18446744073709551616:Nat):Int)])∧w'=w:=by
 obtain⟨bd,bt,bw,hhi⟩:=Lib.mul64_hi x y hx hy;have ba:=Lib.half_mul_le (a:=x/4294967296) (b:=y/4294967296) (by omega) (by omega);have bb:=Lib.half_mul_le (a:=x/4294967296) (b:=y%4294967296) (by omega) (by omega);have bc:=Lib.half_mul_le (a:=x%4294967296) (b:=y/4294967296) (by omega) (by omega);have ba':x/4294967296*(y/4294967296)<18446744073709551616:=by omega
 have bb':x/4294967296*(y%4294967296)<18446744073709551616:=by omega
 have bc':x%4294967296*(y/4294967296)<18446744073709551616:=by omega
 have bh1:x/4294967296*(y/4294967296)+(x/4294967296*(y%4294967296)+x%4294967296*(y%4294967296)/4294967296)/4294967296<18446744073709551616:=by omega
 have bh:x/4294967296*(y/4294967296)+(x/4294967296*(y%4294967296)+x%4294967296*(y%4294967296)/4294967296)/4294967296+((x/4294967296*(y%4294967296)+x%4294967296*(y%4294967296)/4294967296)%4294967296+x%4294967296*(y/4294967296))/4294967296<18446744073709551616:=by omega
 go_enter func260,ntmps260
 go_wp2
 simp only[Mul64.maskN x hx,Mul64.maskN y hy,Mul64.divN,Mul64.mulN,Mul64.addN,Mul64.wrapN _ bd,Mul64.wrapN _ bb',Mul64.wrapN _ bt,Mul64.maskN _ bt,Mul64.wrapN _ bc',Mul64.wrapN _ bw,Mul64.wrapN _ ba',Mul64.wrapN _ bh1,Mul64.wrapN _ bh,Mul64.wrapM (x*y)];rw[hhi]
 go_ret2
 exact⟨rfl,rfl⟩
theorem b1p (x y:Nat) (hx:x<18446744073709551616) (hy:y<18446744073709551616) (w:World) :
  (callFunc 99 #[.int .u64 x,.int .u64 y,.int .u64 0]).run prog w =
   .ok (.value (.tuple #[.int .u64 (((x+y)%18446744073709551616:Nat):Int),.int .u64 (((x+y)/18446744073709551616:Nat):Int)])) w:=by
 rw[run_callFunc_extern func99 (by kernel_rfl) (by kernel_rfl) (by kernel_rfl) (e:=add64Entry) (by kernel_rfl),run_add64 x y 0 (by omega) (by omega) (by omega) (by omega)];simp only[Result.andThen]
 congr 5 <;> omega
theorem b1r (x:Int) (w:World) (h0:0≤x) (h1:x≤18446744073709551615) (hb:Lib.bitLen x.toNat≤64) :
  Calls prog 266 #[.int .u64 x] w fun e w'=>e = .returned (.int .i64 ((64 - Lib.bitLen x.toNat:Nat):Int))∧w'=w:=by
 have hL:=bits_Len64 x w h0 h1;generalize Lib.bitLen x.toNat=m at *;go_enter func266,ntmps266
 go_wp2_with (go_at_call 148;refine hL.mono ?_;rintro e w' ⟨rfl,hw⟩;rw[hw])
 go_ret
 exact⟨by rw[show((64 - m:Nat):Int)=64 - (m:Int) by omega];rfl,rfl⟩
end Go.Proofs.YtiagcenlnekdeaaGreatDoor
namespace Go.Proofs.YtiagcenlnekdeaaGreatDoor
open Go.RowKit
attribute [local go_sem ↓] Go.wp_at_zero Go.wp_at_succ
theorem b7z {y:Nat} (h0:y≠0) (h1:y<2^64):2^63≤y*2^(64 - dU y)∧y*2^(64 - dU y)<2^64:=by
 obtain⟨n,e1,e2,e3⟩:=Gj h0;have hn:n+1≤64:=by rw[←e1];exact Gi h1
 rw[e1];constructor
 ·have:2^63=2^n*2^(64 - (n+1)):=by rw[←Nat.pow_add];congr 1;omega
  rw[this];exact Nat.mul_le_mul_right _ e2
 ·have:2^64=2^(n+1)*2^(64 - (n+1)):=by rw[←Nat.pow_add];congr 1;omega
  rw[this];exact Nat.mul_lt_mul_of_pos_right e3 (Nat.two_pow_pos _)
theorem b1q (hi lo y:Nat) (hy:hi<y) (h1:lo<18446744073709551616) (h2:y<18446744073709551616) (w:World) :
  Calls prog 261 #[n64 hi,n64 lo,n64 y] w fun e w'=>e = .returned (.tuple #[n64 ((hi*18446744073709551616+lo)/y),n64 ((hi*18446744073709551616+lo)%y)])∧Keep w w':=by
 have y0:(y:Int)≠0:=by omega
 have y0':((y:Int)==0)=false:=by rw[beq_eq_false_iff_ne];exact y0
 have c4B:(y==0)=false:=by rw[beq_eq_false_iff_ne];omega
 have y1:decide (y≤hi)=false:=decide_eq_false (by omega);by_cases hh:hi=0
 ·subst hh
  rw[Nat.zero_mul,Nat.zero_add];go_enter func261,ntmps261
  have q1:Int.tdiv (lo:Int) (y:Int)=((lo/y:Nat):Int):=rfl;have q2:Int.tmod (lo:Int) (y:Int)=((lo%y:Nat):Int):=rfl;have q3:lo/y<18446744073709551616:=Nat.lt_of_le_of_lt (Nat.div_le_self _ _) h1;have q4:lo%y<18446744073709551616:=Nat.lt_of_le_of_lt (Nat.mod_le _ _) h1;have q5:IntKind.u64.wrap ((lo/y:Nat):Int)=((lo/y:Nat):Int):=Mul64.wrapN _ q3;generalize lo/y=Q at *;generalize lo%y=R at *;go_upto_region 6 with fail
  refine lC (by kernel_rfl) (by kernel_rfl) w (Below.refl _ _) ?_;repeat(go_big_quiet_step (fail))
  refine wpQuiet_nil ?_;rintro _ ⟨y',rfl⟩;have j:=jg w y';generalize dn w y'=jP at j ⊢;clear q1 q2;go_wp2
  exact bodyPost_ret (v:=.tuple #[n64 Q,n64 R]) (by simp[results,results261]) rfl ⟨rfl,j⟩
 ·have hh0:(hi==0)=false:=by rw[beq_eq_false_iff_ne];exact hh
  have hh1:((hi:Int)==0)=false:=by rw[beq_eq_false_iff_ne];omega
  have hyl:y<2^64:=h2;have hbl:Lib.bitLen (y:Int).toNat=dU y:=by rw[Int.toNat_natCast];exact bitLen_eq hyl
  have L1:=b1r (y:Int) w (by omega) (by omega) (by rw[hbl];exact Gi hyl);rw[hbl]at L1;obtain⟨n1,n2⟩:=b7z (by omega) hyl;obtain⟨s,hs⟩ : ∃ s,64 - dU y=s:=⟨_,rfl⟩
  rw[hs]at L1 n1 n2;have c3N:s≤64:=by omega
  have HL:=hid L1;have hp:0<2^s:=Nat.two_pow_pos s;have hss:2^s*2^(64 - s)=2^64:=by rw[←Nat.pow_add];congr 1;omega
  obtain⟨Y,hY⟩ : ∃ Y,y*2^s=Y:=⟨_,rfl⟩
  rw[hY]at n1 n2;have a2I:Y<18446744073709551616:=n2;have b39:9223372036854775808≤Y:=n1;have bH:hi*2^s<Y:=by rw[←hY];exact Nat.mul_lt_mul_of_pos_right hy hp
  obtain⟨H,hH⟩ : ∃ H,hi*2^s=H:=⟨_,rfl⟩
  obtain⟨l1,hl1⟩ : ∃ l1,lo/2^(64 - s)=l1:=⟨_,rfl⟩
  obtain⟨l2,hl2⟩ : ∃ l2,lo*2^s%18446744073709551616=l2:=⟨_,rfl⟩
  have a3n:l1<2^s:=by
   rw[←hl1,Nat.div_lt_iff_lt_mul (Nat.two_pow_pos _),hss];exact h1
  have hlo:lo*2^s=l1*18446744073709551616+l2:=by
   have e1:lo*2^s/18446744073709551616=l1:=by
    rw[←hl1,show(18446744073709551616:Nat)=2^(64 - s)*2^s by rw[Nat.mul_comm,hss],Nat.mul_div_mul_right _ _ hp]
   have e2:=Nat.div_add_mod (lo*2^s) 18446744073709551616;rw[e1,hl2]at e2;omega
  have hu:H+l1<Y:=by
   have e3:(hi+1)*2^s≤y*2^s:=Nat.mul_le_mul_right _ hy;rw[Nat.add_mul,Nat.one_mul,hH,hY]at e3;omega
  have hor:H ||| l1=H+l1:=by
   rw[←hH,Nat.mul_comm hi,←Nat.two_pow_add_eq_or_of_lt a3n]
  have hNs:(hi*18446744073709551616+lo)*2^s=((H+l1)*4294967296+l2/4294967296)*4294967296+l2%4294967296:=by
   rw[Nat.add_mul,hlo,Nat.mul_right_comm,hH];omega
  obtain⟨U,hU⟩ : ∃ U,H+l1=U:=⟨_,rfl⟩
  rw[hU]at hNs hu hor;obtain⟨m1,hm1⟩ : ∃ m1,l2/4294967296=m1:=⟨_,rfl⟩
  obtain⟨m0,hm0⟩ : ∃ m0,l2%4294967296=m0:=⟨_,rfl⟩
  obtain⟨v1,hv1⟩ : ∃ v1,Y/4294967296=v1:=⟨_,rfl⟩
  obtain⟨v0,hv0⟩ : ∃ v0,Y%4294967296=v0:=⟨_,rfl⟩
  rw[hm1,hm0]at hNs;have b45:l2<18446744073709551616:=by rw[←hl2];exact Nat.mod_lt _ (by decide)
  have HN:=hid hNs;have gQ:=hid hY
  -- the values as the walk shows them
  have f1:IntKind.u64.wrap ((y:Int)*2^s)=(Y:Int):=by
   rw[show(y:Int)*2^s=((y*2^s:Nat):Int) by rw[Int.natCast_mul];rfl,hY];exact Mul64.wrapN _ a2I
  have f2:bits .and .u64 (Y:Int) 4294967295=(v0:Int):=by rw[Mul64.maskN Y a2I,hv0]
  have f3:(Y:Int)/4294967296=(v1:Int):=by rw[Mul64.divN,hv1]
  have f4:IntKind.u64.wrap ((hi:Int)*2^s)=(H:Int):=by
   rw[show(hi:Int)*2^s=((hi*2^s:Nat):Int) by rw[Int.natCast_mul];rfl,hH];exact Mul64.wrapN _ (by omega)
  have f5:bits .or .u64 (H:Int) ((lo:Int)/2^(64 - s))=(U:Int):=by
   rw[show(lo:Int)/2^(64 - s)=((lo/2^(64 - s):Nat):Int) by rw[Int.natCast_ediv];rfl,hl1,bits_or_u64_nat _ _ (by omega) (by omega),hor]
  have f6:IntKind.u64.wrap ((lo:Int)*2^s)=(l2:Int):=by
   rw[show(lo:Int)*2^s=((lo*2^s:Nat):Int) by rw[Int.natCast_mul];rfl,Mul64.wrapM,hl2]
  have f7:(l2:Int)/4294967296=(m1:Int):=by rw[Mul64.divN,hm1]
  have f8:bits .and .u64 (l2:Int) 4294967295=(m0:Int):=by rw[Mul64.maskN l2 b45,hm0]
  have b1:2147483648≤v1∧v1<4294967296∧v0<4294967296∧Y=v1*4294967296+v0∧m1<4294967296∧m0<4294967296:=by omega
  obtain⟨b1,b2,b3,b4,b5,b6⟩:=b1;have Vo:U<v1*4294967296+v0:=by rw[←b4];exact hu
  have D0:=a1y (n:=m1) b1 b2 b3 Vo b5;have B4:=hid b4;clear b4;obtain⟨q,hq⟩ : ∃ q,U/v1=q:=⟨_,rfl⟩
  obtain⟨r,hr⟩ : ∃ r,U%v1=r:=⟨_,rfl⟩
  rw[hq,hr]at D0;have f9:Int.tdiv (U:Int) (v1:Int)=(q:Int):=by show((U/v1:Nat):Int)=q;rw[hq]
  have O5:(U:Int)/(v1:Int)=(q:Int):=by rw[←hq];rfl
  have O6:IntKind.u64.wrap (q:Int)=(q:Int):=Mul64.wrapN _ (by have:=D0.q2;omega);obtain⟨a,ha⟩ : ∃ a,q*v1=a:=⟨_,rfl⟩
  have hea:a+r=U:=by rw[←ha];exact D0.e
  have f10:(q:Int)*(v1:Int)=(a:Int):=by rw[←ha];exact Mul64.mulN _ _
  have f11:IntKind.u64.wrap (a:Int)=(a:Int):=Mul64.wrapN _ (by omega);have f12:IntKind.u64.wrap ((U:Int) - (a:Int))=(r:Int):=by rw[show(U:Int) - (a:Int)=(r:Int) by omega];exact Mul64.wrapN _ (by omega)
  have hD0:=hid D0;have g1:((v1:Int)==0)=false:=by rw[beq_eq_false_iff_ne];omega
  have g2:(v1:Int)≠0:=by omega
  have c3O:s<64:=by
   apply Nat.lt_of_not_le
   intro e
   have:s=64:=by omega
   rw[this]at hY;omega
  clear D0 hNs hY hH hl1 hl2 a3n hlo hor hU hm1 hm0 hv1 hv0 hq hr ha n1 n2 hs hyl hp hss bH b39 hh;go_enter func261,ntmps261
  go_wp2_with fail
  refine HL.out.mono ?_;rintro e w2 ⟨rfl,rfl⟩;go_upto_region 16 with fail
  go_cut [15,16] (fun sq sr wx=>sq = .int .u64 q∧sr = .int .u64 r∧w2=wx)
  case first =>
   go_wp2
   go_meet
   exact⟨rfl,rfl,rfl⟩
  case rest =>
   obtain⟨rfl,rfl,rfl⟩:=hcut;refine(by assumption : ∀ a w,Code.wp _ _ _ a w→_) _ _ ?_;refine wp_seq_k (fun b0s b3Y=>?_)
   go_cut [15,16] (fun sq sr wx => ∃ Q R:Nat,sq = .int .u64 Q∧sr = .int .u64 R∧Hid (Q=(U*4294967296+m1)/(v1*4294967296+v0))∧Hid (Keep w2 wx))
   case first =>
    go_wp2_with fail
    go_loopw [15,16] (fun sq sr wr => ∃ q r:Nat,sq = .int .u64 q∧sr = .int .u64 r∧Hid (DStep v1 v0 U m1 q r)∧Hid (Keep w2 wr)) (fun sq _ _=>(intOf sq).toNat)
    case atStart=>exact⟨q,r,rfl,rfl,hD0,hid (Below.refl _ _)⟩
    case round =>
     obtain⟨p,t,rfl,rfl,HD,HK⟩:=hrel;have hp2:=HD.out.q2;have ht:=HD.out.rl
     obtain⟨b,hb⟩ : ∃ b,p*v0=b:=⟨_,rfl⟩
     have F1:(p:Int)*(v0:Int)=(b:Int):=by rw[←hb];exact Mul64.mulN _ _
     have F3:IntKind.u64.wrap (4294967296*(t:Int)+(m1:Int))=4294967296*(t:Int)+(m1:Int):=by rw[IntKind.wrap_u64];omega
     by_cases hA:p<4294967296∧b≤4294967296*t+m1
     ·have hex:=a1x (by omega) HD.out (by rw[hb];exact hA.2)
      have Hex:=hid hex;obtain⟨hA1,hA2⟩:=hA;have F2:IntKind.u64.wrap (b:Int)=(b:Int):=Mul64.wrapN _ (by omega);have d1:decide (4294967296≤p)=false:=decide_eq_false (by omega);have d1' : ¬ (4294967296:Int)≤(p:Int):=by omega
      have d2 : ¬ 4294967296*(t:Int)+(m1:Int)<(b:Int):=by omega
      clear hex hb HD;go_wp2
      go_meet
      exact⟨p,t,rfl,rfl,Hex,HK⟩
     ·have hst:=a1z (by omega) Vo b5 HD.out (by rw[hb];exact hA)
      obtain⟨s1,s2,s3,s4⟩:=hst;obtain⟨p',rfl⟩ : ∃ p',p=p'+1:=⟨p - 1,by omega⟩
      rw[Nat.add_sub_cancel]at s2 s3 s4;have Q5:((p':Int)+1)*(v0:Int)=(b:Int):=F1;have S2:=hid s2;have S3:=hid s3
      clear s2 s3 HD s1
      have hcond:Hid (4294967296≤p'+1∨(p'+1<4294967296∧4294967296*t+m1<b)):=by
       refine hid ?_;by_cases h:p'+1<4294967296
       ·exact Or.inr ⟨h,by apply Nat.lt_of_not_le;exact fun e=>hA ⟨h,e⟩⟩
       ·exact Or.inl (by omega)
      clear hA
      have hbm:p'+1<4294967296→b<18446744073709551616:=fun h=>by
       rw[←hb];have h1:(p'+1)*v0≤4294967295*4294967295:=Nat.mul_le_mul (by omega) (by omega);omega
      have xP:=hid hbm;clear hbm hb;go_upto_region 17 with fail
      go_cut [78] (fun v wx=>v = .bool true∧wr=wx)
      case first =>
       rcases hcond.out with h | ⟨h,h'⟩
       ·have d1:decide (4294967296≤p'+1)=true:=decide_eq_true h
        have d1':(4294967296:Int)≤(p':Int)+1:=by omega
        clear h hcond;go_wp2
        go_meet
        exact⟨rfl,rfl⟩
       ·have hb64:=xP.out h
        have F2:IntKind.u64.wrap (b:Int)=(b:Int):=Mul64.wrapN _ hb64;have d1:decide (4294967296≤p'+1)=false:=decide_eq_false (by omega);have d1' : ¬ (4294967296:Int)≤(p':Int)+1:=by omega
        have d2:4294967296*(t:Int)+(m1:Int)<(b:Int):=by omega
        clear h h' hcond;go_wp2
        go_meet
        exact⟨rfl,rfl⟩
      case rest =>
       obtain⟨rfl,rfl⟩:=hcut;clear F1 Q5 F3 hcond;by_cases hbr:4294967296≤t+v1
       ·have hex:=a1w (by omega) b3 S3.out S2.out s4 hbr
        have Hex:=hid hex;have d3:decide (4294967296≤t+v1)=true:=decide_eq_true hbr;have UR:(4294967296:Int)≤(t:Int)+(v1:Int):=by omega
        clear hex hbr;go_wp2
        go_meet
        exact⟨p',t+v1,by go_num,by go_num,Hex,HK⟩
       ·have hD':Hid (DStep v1 v0 U m1 p' (t+v1)):=hid ⟨S3.out,S2.out,by omega,by omega⟩
        have d3:decide (4294967296≤t+v1)=false:=decide_eq_false hbr;have UR : ¬ (4294967296:Int)≤(t:Int)+(v1:Int):=by omega
        clear hbr;go_wp2
        go_roundw
        case rel=>exact⟨p',t+v1,by go_num,by go_num,hD',HK⟩
        case measure=>simp[intOf];try omega
   case rest =>
    obtain⟨Q,R,rfl,rfl,HQ,HK⟩:=hcut;have b33:Q<4294967296:=by rw[HQ.out];exact UT Vo b5
    obtain⟨c,hc⟩ : ∃ c,Q*Y=c:=⟨_,rfl⟩
    have P1:(Q:Int)*(Y:Int)=(c:Int):=by rw[←hc];exact Mul64.mulN _ _
    clear f1 f2 f3 f4 f5 f6 f7 f8 f9 O5 O6 f10 f11 f12 hea;obtain⟨r1,hr1⟩ : ∃ r1,(U*4294967296+m1)%Y=r1:=⟨_,rfl⟩
    have hY0:0<Y:=by omega
    have Vk:Q=(U*4294967296+m1)/Y:=by rw[HQ.out,B4.out]
    have hcr:c+r1=U*4294967296+m1:=by
     have h1:=Nat.div_add_mod (U*4294967296+m1) Y;rw[←Vk,hr1,Nat.mul_comm,hc]at h1;exact h1
    have b5q:r1<Y:=by rw[←hr1];exact Nat.mod_lt _ hY0
    have hRv:r1<v1*4294967296+v0:=by rw[←B4.out];exact b5q
    have g21:IntKind.u64.wrap (IntKind.u64.wrap (IntKind.u64.wrap ((U:Int)*4294967296)+(m1:Int)) - IntKind.u64.wrap (c:Int))=(r1:Int):=by
     rw[IntKind.wrap_u64,IntKind.wrap_u64,IntKind.wrap_u64,IntKind.wrap_u64];omega
    have HR1:=hid hr1;have a9e:=hid Vk
    have D1:=a1y (n:=m0) b1 b2 b3 hRv b6;obtain⟨q2,hq2⟩ : ∃ q,r1/v1=q:=⟨_,rfl⟩
    obtain⟨r2,hr2⟩ : ∃ r,r1%v1=r:=⟨_,rfl⟩
    rw[hq2,hr2]at D1;have f9:Int.tdiv (r1:Int) (v1:Int)=(q2:Int):=by show((r1/v1:Nat):Int)=q2;rw[hq2]
    have O5:(r1:Int)/(v1:Int)=(q2:Int):=by rw[←hq2];rfl
    have O6:IntKind.u64.wrap (q2:Int)=(q2:Int):=Mul64.wrapN _ (by have:=D1.q2;omega);obtain⟨a2,ha2⟩ : ∃ a,q2*v1=a:=⟨_,rfl⟩
    have a3c:a2+r2=r1:=by rw[←ha2];exact D1.e
    have f10:(q2:Int)*(v1:Int)=(a2:Int):=by rw[←ha2];exact Mul64.mulN _ _
    have f11:IntKind.u64.wrap (a2:Int)=(a2:Int):=Mul64.wrapN _ (by omega);have f12:IntKind.u64.wrap ((r1:Int) - (a2:Int))=(r2:Int):=by rw[show(r1:Int) - (a2:Int)=(r2:Int) by omega];exact Mul64.wrapN _ (by omega)
    have hD1:=hid D1;clear D1 hq2 hr2 ha2 hcr Vk hr1 hc;go_upto_region 23 with fail
    go_cut [16,17,18] (fun sr b9X sq wx=>sq = .int .u64 q2∧sr = .int .u64 r2∧b9X = .int .u64 r1∧wc=wx)
    case first =>
     go_wp2
     go_meet
     exact⟨rfl,rfl,rfl,rfl⟩
    case rest =>
     obtain⟨rfl,rfl,rfl,rfl⟩:=hcut;obtain⟨w3,hw3⟩ : ∃ x:World,x=wc:=⟨_,rfl⟩
     subst hw3;refine(by assumption : ∀ a w,Code.wp _ _ _ a w→_) _ _ ?_;refine wp_seq_k (fun b0s b3Y=>?_)
     go_cut [16,18] (fun sr sq wx => ∃ Q R:Nat,sq = .int .u64 Q∧sr = .int .u64 R∧Hid (Q=(r1*4294967296+m0)/(v1*4294967296+v0))∧Hid (Keep w3 wx))
     case first =>
      clear g21 f9 O5 O6 f10 f11 f12 a3c P1;go_wp2_with fail
      go_loopw [16,18] (fun sr sq wr => ∃ q r:Nat,sq = .int .u64 q∧sr = .int .u64 r∧Hid (DStep v1 v0 r1 m0 q r)∧Hid (Keep w3 wr)) (fun _ sq _=>(intOf sq).toNat)
      case atStart=>exact⟨q2,r2,rfl,rfl,hD1,hid (Below.refl _ _)⟩
      case round =>
      obtain⟨p,t,rfl,rfl,HD,ay⟩:=hrel;have hp2:=HD.out.q2;have ht:=HD.out.rl
      obtain⟨b,hb⟩ : ∃ b,p*v0=b:=⟨_,rfl⟩
      have F1:(p:Int)*(v0:Int)=(b:Int):=by rw[←hb];exact Mul64.mulN _ _
      have F3:IntKind.u64.wrap (4294967296*(t:Int)+(m0:Int))=4294967296*(t:Int)+(m0:Int):=by rw[IntKind.wrap_u64];omega
      by_cases hA:p<4294967296∧b≤4294967296*t+m0
      ·have hex:=a1x (by omega) HD.out (by rw[hb];exact hA.2)
       have Hex:=hid hex;obtain⟨hA1,hA2⟩:=hA;have F2:IntKind.u64.wrap (b:Int)=(b:Int):=Mul64.wrapN _ (by omega);have d1:decide (4294967296≤p)=false:=decide_eq_false (by omega);have d1' : ¬ (4294967296:Int)≤(p:Int):=by omega
       have d2 : ¬ 4294967296*(t:Int)+(m0:Int)<(b:Int):=by omega
       clear hex hb HD;go_wp2
       go_meet
       exact⟨p,t,rfl,rfl,Hex,ay⟩
      ·have hst:=a1z (by omega) hRv b6 HD.out (by rw[hb];exact hA)
       obtain⟨s1,s2,s3,s4⟩:=hst;obtain⟨p',rfl⟩ : ∃ p',p=p'+1:=⟨p - 1,by omega⟩
       rw[Nat.add_sub_cancel]at s2 s3 s4;have Q5:((p':Int)+1)*(v0:Int)=(b:Int):=F1;have S2:=hid s2;have S3:=hid s3
       clear s2 s3 HD s1
       have hcond:Hid (4294967296≤p'+1∨(p'+1<4294967296∧4294967296*t+m0<b)):=by
        refine hid ?_;by_cases h:p'+1<4294967296
        ·exact Or.inr ⟨h,by apply Nat.lt_of_not_le;exact fun e=>hA ⟨h,e⟩⟩
        ·exact Or.inl (by omega)
       clear hA
       have hbm:p'+1<4294967296→b<18446744073709551616:=fun h=>by
        rw[←hb];have h1:(p'+1)*v0≤4294967295*4294967295:=Nat.mul_le_mul (by omega) (by omega);omega
       have xP:=hid hbm;clear hbm hb;go_upto_region 24 with fail
       go_cut [113] (fun v wx=>v = .bool true∧wr=wx)
       case first =>
        rcases hcond.out with h | ⟨h,h'⟩
        ·have d1:decide (4294967296≤p'+1)=true:=decide_eq_true h
         have d1':(4294967296:Int)≤(p':Int)+1:=by omega
         clear h hcond;go_wp2
         go_meet
         exact⟨rfl,rfl⟩
        ·have hb64:=xP.out h
         have F2:IntKind.u64.wrap (b:Int)=(b:Int):=Mul64.wrapN _ hb64;have d1:decide (4294967296≤p'+1)=false:=decide_eq_false (by omega);have d1' : ¬ (4294967296:Int)≤(p':Int)+1:=by omega
         have d2:4294967296*(t:Int)+(m0:Int)<(b:Int):=by omega
         clear h h' hcond;go_wp2
         go_meet
         exact⟨rfl,rfl⟩
       case rest =>
        obtain⟨rfl,rfl⟩:=hcut;clear F1 Q5 F3 hcond;by_cases hbr:4294967296≤t+v1
        ·have hex:=a1w (by omega) b3 S3.out S2.out s4 hbr
         have Hex:=hid hex;have d3:decide (4294967296≤t+v1)=true:=decide_eq_true hbr;have UR:(4294967296:Int)≤(t:Int)+(v1:Int):=by omega
         clear hex hbr;go_wp2
         go_meet
         exact⟨p',t+v1,by go_num,by go_num,Hex,ay⟩
        ·have hD':Hid (DStep v1 v0 r1 m0 p' (t+v1)):=hid ⟨S3.out,S2.out,by omega,by omega⟩
         have d3:decide (4294967296≤t+v1)=false:=decide_eq_false hbr;have UR : ¬ (4294967296:Int)≤(t:Int)+(v1:Int):=by omega
         clear hbr;go_wp2
         go_roundw
         case rel=>exact⟨p',t+v1,by go_num,by go_num,hD',ay⟩
         case measure=>simp[intOf];try omega
     case rest =>
      obtain⟨Q0,R0,rfl,rfl,NY,qw⟩:=hcut;clear g21 f9 O5 O6 f10 f11 f12 a3c P1;have b31:Q0<4294967296:=by rw[NY.out];exact UT hRv b6
      obtain⟨r0,hr0⟩ : ∃ r0,(r1*4294967296+m0)%Y=r0:=⟨_,rfl⟩
      have Vj:Q0=(r1*4294967296+m0)/Y:=by rw[NY.out,B4.out]
      obtain⟨c0,hc0⟩ : ∃ c,Q0*Y=c:=⟨_,rfl⟩
      have hcr0:c0+r0=r1*4294967296+m0:=by
       have h1:=Nat.div_add_mod (r1*4294967296+m0) Y;rw[←Vj,hr0,Nat.mul_comm,hc0]at h1;exact h1
      have b5o:r0<Y:=by rw[←hr0];exact Nat.mod_lt _ hY0
      obtain⟨z1,z2⟩:=b2S (s:=s) (y:=y) (by omega) gQ.out.symm HN.out a9e.out HR1.out.symm Vj hr0.symm;obtain⟨e1,he1⟩ : ∃ e,Q*4294967296+Q0=e:=⟨_,rfl⟩
      obtain⟨e0,he0⟩ : ∃ e,r0/2^s=e:=⟨_,rfl⟩
      rw[he1]at z1;rw[he0]at z2;have P2:(Q0:Int)*(Y:Int)=(c0:Int):=by rw[←hc0];exact Mul64.mulN _ _
      have c2N:IntKind.u64.wrap (IntKind.u64.wrap (IntKind.u64.wrap ((r1:Int)*4294967296)+(m0:Int)) - IntKind.u64.wrap (c0:Int))=(r0:Int):=by
       rw[IntKind.wrap_u64,IntKind.wrap_u64,IntKind.wrap_u64,IntKind.wrap_u64];omega
      have c2O:(r0:Int)/2^s=(e0:Int):=by rw[←he0,Int.natCast_ediv];rfl
      have c2P:IntKind.u64.wrap (IntKind.u64.wrap ((Q:Int)*4294967296)+(Q0:Int))=(e1:Int):=by
       rw[IntKind.wrap_u64,IntKind.wrap_u64];omega
      have Z1:=hid z1;have Z2:=hid z2;have aA:=hid (af HK.out qw.out)
      clear z1 z2 hr0 Vj hc0 hcr0 he0 he1;clear hY0 b5o b31 b33;go_wp2
      rw[←Z1.out,←Z2.out];exact bodyPost_ret (v:=.tuple #[n64 e1,n64 e0]) (by simp[results,results261]) rfl ⟨rfl,aA.out⟩
def sU (S:Nat):List Value:=[n64 (limb S 0),n64 (limb S 1),n64 (limb S 2),n64 (limb S 3),n64 (limb S 4)]
theorem Qp (S k:Nat) (h:k<5):(sU S)[k]?=some (n64 (limb S k)):=by
 rcases(show k=0∨k=1∨k=2∨k=3∨k=4 by omega)with rfl | rfl | rfl | rfl | rfl <;> rfl
theorem b8x:sU 0=[.int .u64 0,.int .u64 0,.int .u64 0,.int .u64 0,.int .u64 0]:=by simp[sU,n64,Ea]
def hiL (S k:Nat):List Value:=[n64 (if k≤0 then limb S 0 else 0),n64 (if k≤1 then limb S 1 else 0),n64 (if k≤2 then limb S 2 else 0),n64 (if k≤3 then limb S 3 else 0)]
theorem b42 (S:Nat):hiL S 0=uL S:=rfl
theorem b41 (S k:Nat) (hk:k<4):(hiL S (k+1)).set k (n64 (limb S k))=hiL S k:=by
 rcases(show k=0∨k=1∨k=2∨k=3 by omega)with rfl | rfl | rfl | rfl <;> rfl
theorem b40 (S k:Nat):(hiL S k).length=4:=rfl
theorem a4D {S i j:Nat} (h:S<2^(64*i)) (hj:i≤j):limb S j=0:=by
 unfold limb;rw[Nat.div_eq_of_lt (Nat.lt_of_lt_of_le h (Nat.pow_le_pow_right (by decide) (by omega))),Nat.zero_mod]
theorem b8w {S X i:Nat} (hi:i<4) (hS:S<2^(64*(i+1))) (hX:limb S i+X<2^128) :
  ((sU S).set i (n64 ((limb S i+X)%2^64))).set (i+1) (n64 ((limb S i+X)/2^64))=sU (S+2^(64*i)*X):=by
 obtain⟨a1,a2,a3,a4⟩:=b8o hS hX;have a5 : ∀ j,i+1<j→limb (S+2^(64*i)*X) j=limb S j:=fun j hj=>by rw[a4D a4 (by omega),a4D hS (by omega)]
 generalize S+2^(64*i)*X=Z at *;rw[←a2,←a3];unfold sU;rcases(show i=0∨i=1∨i=2∨i=3 by omega)with rfl | rfl | rfl | rfl
 ·rw[a5 2 (by omega),a5 3 (by omega),a5 4 (by omega)];rfl
 ·rw[a1 0 (by omega),a5 3 (by omega),a5 4 (by omega)];rfl
 ·rw[a1 0 (by omega),a1 1 (by omega),a5 4 (by omega)];rfl
 ·rw[a1 0 (by omega),a1 1 (by omega),a1 2 (by omega)];rfl
theorem b9r (T num den:Nat) (w:World) (hT:T<2^256) (hn:num<18446744073709551616) (hd:0<den) (hd2:den<18446744073709551616) :
  Calls prog 255 #[aO T,n64 num,n64 den] w fun e w'=>e = .returned (.tuple #[aO (T*num/den%2^256),.bool (decide (T*num/den<2^256))])∧Keep w w':=by
 have hP:T*num<2^64*2^256:=by
  rw[Nat.mul_comm (2^64)];exact Nat.mul_lt_mul_of_lt_of_lt hT hn
 obtain⟨P,J6⟩ : ∃ P,T*num=P:=⟨_,rfl⟩
 have HS:Hid (∀ i,i<4 → ∀ S,S=T%2^(64*i)*num→S<2^(64*(i+1))∧S+2^(64*i)*(limb T i*num)=T%2^(64*(i+1))*num):=hid fun i hi S hS=>by
  constructor
  ·rw[hS,Nat.mul_add,Nat.pow_add];exact Nat.mul_lt_mul_of_lt_of_lt (Nat.mod_lt _ (Nat.two_pow_pos _)) hn
  ·rw[hS,a4T,Nat.add_mul,Nat.mul_assoc]
 have HF:Hid (T%2^(64*4)*num=P):=hid (by rw[Nat.mod_eq_of_lt hT];exact J6);rw[J6];have HQ:Hid (∀ i,limb (P/den) i=(P/2^(64*(i+1))%den*18446744073709551616+limb P i)/den∧P/2^(64*i)%den=(P/2^(64*(i+1))%den*18446744073709551616+limb P i)%den):=hid fun i=>⟨b8y hd,(a1C hd).2.1⟩
 have HT4:Hid (P/2^(64*4)=limb P 4):=hid (a6U (by rw[←J6];exact hP));have Y3:Hid (decide (P/den<2^256)=decide (limb P 4/den=0)):=hid (decide_eq_decide.2 (b3A (by rw[←J6];exact hP) hd).symm)
 have HM:Hid (∀ i,i<4→limb (P/den%2^256) i=limb (P/den) i):=hid fun i hi=>by
  apply Nat.eq_of_testBit_eq
  intro j;rw[o7,o7,Nat.testBit_mod_two_pow];by_cases hj:j<64
  ·have:decide (64*i+j<256)=true:=decide_eq_true (by omega)
   rw[this,Bool.true_and]
  ·rw[decide_eq_false hj,Bool.false_and,Bool.false_and]
 rw[Y3.out];obtain⟨R,hR⟩ : ∃ R,P/den%2^256=R:=⟨_,rfl⟩
 rw[hR]at HM ⊢;obtain⟨tp,htp⟩ : ∃ x,limb P 4/den=x:=⟨_,rfl⟩
 rw[htp];have b0n:=hid htp;clear hP J6 hR Y3 hT htp;go_enter func255,ntmps255
 go_upto_region 2 with fail
 obtain⟨w1,hw1,-,HR1,-,ai,-⟩:=JJ w 79 79 432 [n64 (limb T 0),n64 (limb T 1),n64 (limb T 2),n64 (limb T 3)] [.int .u64 0,.int .u64 0,.int .u64 0,.int .u64 0] [.int .u64 0,.int .u64 0,.int .u64 0,.int .u64 0,.int .u64 0];have HA1:Hid (ae w1 w.heap.size 79 (uL T)):=by rw[hw1];exact((ae.new w 79 (uL T)).alloc _).alloc _
 have cZ:Hid (ae w1 (w.heap.size+1+1) 432 (sU (T%2^(64*0)*num))):=by
  rw[hw1,show T%2^(64*0)*num=0 by rw[Nat.mul_zero,Nat.pow_zero,Nat.mod_one,Nat.zero_mul],b8x];have h2:=ae.new ((w.alloc (.cells #[n64 (limb T 0),n64 (limb T 1),n64 (limb T 2),n64 (limb T 3)] 79)).alloc (.cells #[.int .u64 0,.int .u64 0,.int .u64 0,.int .u64 0] 79)) 432 [.int .u64 0,.int .u64 0,.int .u64 0,.int .u64 0,.int .u64 0];rw[World.size_alloc,World.size_alloc]at h2;exact h2
 rw[←hw1];clear hw1;go_wp2_with fail
 go_loopw [9,10,11,12,17] (fun _ _ _ _ i wr => ∃ k:Nat,k≤4∧i = .int .i64 (k:Int)∧Hid (ae wr (w.heap.size+1+1) 432 (sU (T%2^(64*k)*num)))∧Hid (ae wr w.heap.size 79 (uL T))∧Hid (ae wr (w.heap.size+1) 79 [.int .u64 0,.int .u64 0,.int .u64 0,.int .u64 0])∧Hid (Keep w wr)) (fun _ _ _ _ i _=>(4 - intOf i).toNat)
 case atStart=>exact⟨0,by omega,rfl,cZ,HA1,HR1,ai⟩
 case round =>
  obtain⟨k,hk,rfl,Ak,HA,HR,HK⟩:=hrel;by_cases hlt:k<4
  ·have i1:(k:Int)<4:=by omega
   obtain⟨S,Vm⟩ : ∃ S,S=T%2^(64*k)*num:=⟨_,rfl⟩
   obtain⟨hS,hS2⟩:=HS.out k hlt S Vm;rw[←Vm]at Ak;have ht:=gX T k;have hp:=gX S k;obtain⟨x1,x2,x3,x4⟩:=b65 hp ht hn;have hst:=b8w hlt hS x1;rw[hS2,x2,x3]at hst;have vT:=hid hst;have M1:=bits_Mul64 (limb T k) num ht hn;have a0:wr.cell? ⟨w.heap.size,k,none⟩=some (n64 (limb T k)):=by rw[HA.out.cell,oG T k hlt]
   have p0:wr.cell? ⟨w.heap.size+1+1,k,none⟩=some (n64 (limb S k)):=by rw[Ak.out.cell,Qp S k (by omega)]
   have b8g:wr.frozen? ⟨w.heap.size+1+1,k,none⟩=false:=Ak.out.frozen _;have IL:=hid M1;clear M1 hst x1 x2 x3 hS hS2 Vm;generalize limb T k=t at *;have hlow:t*num%18446744073709551616<18446744073709551616:=Nat.mod_lt _ (by decide);have hhigh:t*num/18446744073709551616<18446744073709551616:=by rw[Nat.div_lt_iff_lt_mul (by decide)];exact Nat.mul_lt_mul_of_lt_of_lt ht hn
   have A1:=b1p (limb S k) (t*num%18446744073709551616) hp hlow;generalize limb S k=p at *;generalize t*num%18446744073709551616=low at *;generalize t*num/18446744073709551616=high at *;obtain⟨cc,hcc⟩ : ∃ cc,(p+low)/18446744073709551616=cc:=⟨_,rfl⟩
   obtain⟨ll,hll⟩ : ∃ ll,(p+low)%18446744073709551616=ll:=⟨_,rfl⟩
   rw[hcc,hll]at A1;have c4A:high+cc<18446744073709551616:=by rw[←hcc];exact x4
   have b0l:Hid (((sU S).set k (n64 ll)).set (k+1) (n64 (high+cc))=sU (T%2^(64*(k+1))*num)):=by rw[←hcc,←hll];exact vT
   have w1':IntKind.u64.wrap ((high:Int)+(cc:Int))=(high:Int)+(cc:Int):=by rw[IntKind.wrap_u64];omega
   clear hcc hll x4 vT;go_upto_region 7 with(go_at_call 260;refine(IL.out _).mono ?_;rintro e w' ⟨rfl,hw⟩;rw[hw])
   go_upto_region 8 with(simp only[A1])
   obtain⟨w2,hw2⟩ : ∃ w2,w2=wr.setCell ⟨w.heap.size+1+1,k,none⟩ (.int .u64 (ll:Int)):=⟨_,rfl⟩
   have HP2:Hid (ae w2 (w.heap.size+1+1) 432 ((sU S).set k (n64 ll))):=by rw[hw2];exact Ak.out.az _ _
   have HA2:Hid (ae w2 w.heap.size 79 (uL T)):=by rw[hw2];exact HA.out.far (by simp;omega) _
   have HR2:Hid (ae w2 (w.heap.size+1) 79 [.int .u64 0,.int .u64 0,.int .u64 0,.int .u64 0]):=by rw[hw2];exact HR.out.far (by simp) _
   have ay:Hid (Keep w w2):=by rw[hw2];exact Below.setCell HK.out (by simp;omega) _
   rw[←hw2];clear hw2 a0 p0 b8g Ak HA HR HK;have p1:w2.cell? ⟨w.heap.size+1+1,k+1,none⟩=some (n64 (limb S (k+1))):=by rw[HP2.out.cell,List.getElem?_set_ne (by omega),Qp S (k+1) (by omega)]
   have b8h:w2.frozen? ⟨w.heap.size+1+1,k+1,none⟩=false:=HP2.out.frozen _;clear A1;go_wp2
   go_roundw
   case rel =>
    refine⟨k+1,by omega,by go_num,hid ?_,hid (HA2.out.far (by simp;omega) _),hid (HR2.out.far (by simp) _),hid (Below.setCell ay.out (by simp;omega) _)⟩;have h1:=HP2.out.az (k+1) (n64 (high+cc));rw[b0l.out]at h1;exact h1
   case measure=>simp[intOf];omega
  ·obtain rfl:k=4:=by omega
   have Vh:=Ak.out;rw[HF.out]at Vh;obtain⟨w3,hw3⟩ : ∃ w3,w3=wr.alloc (.cells #[.int .u64 0,.int .u64 0,.int .u64 0,.int .u64 0] 79):=⟨_,rfl⟩
   have nJ:Hid (ae w3 wr.heap.size 79 (hiL (P/den) 4)):=by rw[hw3];exact ae.new wr 79 [.int .u64 0,.int .u64 0,.int .u64 0,.int .u64 0]
   have fZ:Hid (ae w3 (w.heap.size+1+1) 432 (sU P)):=by rw[hw3];exact Vh.alloc _
   have HR3:Hid (ae w3 (w.heap.size+1) 79 [.int .u64 0,.int .u64 0,.int .u64 0,.int .u64 0]):=by rw[hw3];exact HR.out.alloc _
   have aA:Hid (Keep w w3):=by rw[hw3];exact af HK.out (aB _ _)
   have PN:w.heap.size+1+1<wr.heap.size:=Ak.out.lt;have KI:=gX P 4;have l4:=HQ.out 4;have hL4:Hid (limb P 4%den=P/2^(64*4)%den):=hid (by rw[HT4.out]);have htp:=b0n.out;obtain⟨lf,hlf⟩ : ∃ x,limb P 4%den=x:=⟨_,rfl⟩
   rw[hlf]at hL4;have q1:Int.tdiv (limb P 4:Int) (den:Int)=(tp:Int):=by rw[←htp];rfl
   have q1':(limb P 4:Int)/(den:Int)=(tp:Int):=by rw[←htp];rfl
   have q2:Int.tmod (limb P 4:Int) (den:Int)=(lf:Int):=by rw[←hlf];rfl
   have q2':(limb P 4:Int)%(den:Int)=(lf:Int):=by rw[←hlf];rfl
   have q3:IntKind.u64.wrap (tp:Int)=(tp:Int):=Mul64.wrapN _ (by rw[←htp];exact Nat.lt_of_le_of_lt (Nat.div_le_self _ _) KI);have d0:(den:Int)≠0:=by omega
   have d0':((den:Int)==0)=false:=by rw[beq_eq_false_iff_ne];exact d0
   have c2G:(den==0)=false:=by rw[beq_eq_false_iff_ne];omega
   clear htp hlf l4 KI Vh cZ HA1 HR1 ai HS HF HT4;go_upto_region 11 with fail
   rw[←hw3];clear hw3 Ak HA HR HK;generalize wr.heap.size=O at *;refine lC (by kernel_rfl) (by kernel_rfl) w3 (Below.refl _ _) ?_;have p4:=aF (show w3.cell? ⟨w.heap.size+1+1,4,none⟩=some (n64 (limb P 4)) by rw[fZ.out.cell,Qp P 4 (by omega)]);repeat(go_big_quiet_step (fail))
   refine wpQuiet_nil ?_;rintro _ ⟨y',rfl⟩;have j:=jg w3 y';generalize dn w3 y'=w4 at j ⊢;have ug:=hid (nJ.out.keep j);have pK:=hid (fZ.out.keep j);have HR4:=hid (HR3.out.keep j);have aQ:=hid (af aA.out j)
   clear p4 q1 q1' q2 q2' q3 j nJ fZ HR3 aA;go_wp2_with fail
   go_loopw [15,16] (fun l i wr => ∃ k lf:Nat,k≤4∧i = .int .i64 ((k:Int) - 1)∧l = .int .u64 (lf:Int)∧Hid (lf=P/2^(64*k)%den)∧Hid (ae wr O 79 (hiL (P/den) k))∧Hid (ae wr (w.heap.size+1+1) 432 (sU P))∧Hid (ae wr (w.heap.size+1) 79 [.int .u64 0,.int .u64 0,.int .u64 0,.int .u64 0])∧Hid (Keep w wr)) (fun _ i _=>(intOf i+1).toNat)
   case atStart=>exact⟨4,lf,by omega,rfl,rfl,hL4,ug,pK,HR4,aQ⟩
   case round =>
    obtain⟨k,lk,hk,rfl,rfl,NQ,HO,HP,HR,HK⟩:=hrel
    cases k with
    | zero =>
      have hO:=HO.out;rw[b42,show uL (P/den)=uL R by unfold uL;rw[HM.out 0 (by omega),HM.out 1 (by omega),HM.out 2 (by omega),HM.out 3 (by omega)]]at hO;have o0:=hO.cell 0;have o1:=hO.cell 1;have o2:=hO.cell 2;have o3:=hO.cell 3
      have hR:=HR.out;have r0:=hR.cell 0;have r1:=hR.cell 1;have r2:=hR.cell 2;have r3:=hR.cell 3
      have f0:=hR.frozen 0;have f1:=hR.frozen 1;have f2:=hR.frozen 2;have f3:=hR.frozen 3
      simp only[uL,List.getElem?_cons_zero,List.getElem?_cons_succ]at o0 o1 o2 o3 r0 r1 r2 r3;have hb8:=(((HR.out.az 0 (n64 (limb R 0))).az 1 (n64 (limb R 1))).az 2 (n64 (limb R 2))).az 3 (n64 (limb R 3))
      have bK:Hid (Keep w ((((wr.setCell ⟨w.heap.size+1,0,none⟩ (n64 (limb R 0))).setCell ⟨w.heap.size+1,1,none⟩ (n64 (limb R 1))).setCell ⟨w.heap.size+1,2,none⟩ (n64 (limb R 2))).setCell ⟨w.heap.size+1,3,none⟩ (n64 (limb R 3)))):=by
       refine hid ?_;iterate 4 (refine Below.setCell ?_ (by simp) _)
       exact HK.out
      have aY:=hid hb8;clear hb8 hO hR HO HR NQ;go_wp2
      exact bodyPost_ret (v:=.tuple #[aO R,.bool ((tp:Int)==0)]) (uN results255 _ _ (w.heap.size+1) _ _ _ _ rfl aY.out underlying79 rfl (by kernel_rfl)) rfl ⟨by rw[show((tp:Int)==0)=decide (tp=0) by rw[Bool.eq_iff_iff];simp],bK.out⟩
    | succ k =>
      have hi:((k+1:Nat):Int) - 1=(k:Int):=by omega
      rw[hi];have hlk:lk<den:=by rw[NQ.out];exact Nat.mod_lt _ hd
      obtain⟨e1,e2⟩:=HQ.out k;rw[←NQ.out]at e1 e2;have D1:=b1q lk (limb P k) den hlk (gX P k) hd2 wr;rw[←e1,←e2]at D1;have HD:=hid D1;have hk4:k<4:=by omega
      have hset:=b41 (P/den) k hk4;have TN:=hid hset;have p0:wr.cell? ⟨w.heap.size+1+1,k,none⟩=some (n64 (limb P k)):=by rw[HP.out.cell,Qp P k (by omega)]
      clear hi D1 e1 e2 hset hlk NQ;obtain⟨nl,hnl⟩ : ∃ x,P/2^(64*k)%den=x:=⟨_,rfl⟩
      rw[hnl]at HD;have Hnl:=hid hnl;clear hnl;generalize limb (P/den) k=qk at *;go_wp2_with fail
      refine HD.out.mono ?_;rintro e w5 ⟨rfl,k5⟩;have vG:=hid (HO.out.keep k5);have nK:=hid (HP.out.keep k5);have kX:=hid (HR.out.keep k5);have aJ:=hid (af HK.out k5)
      have p1 : ∃ v,w5.cell? ⟨O,k,none⟩=some v:=⟨_,by rw[vG.out.cell];exact List.getElem?_eq_getElem (by rw[b40];omega)⟩
      obtain⟨v1,p1⟩:=p1;have b8h:w5.frozen? ⟨O,k,none⟩=false:=vG.out.frozen _;clear p0 HO HP HR HK HD k5;go_wp2
      go_roundw
      case rel =>
       have h1:=vG.out.az k (n64 qk);rw[TN.out]at h1
       (repeat apply Exists.intro)
       exact⟨⟨k,nl,by omega,by go_num,rfl,hid Hnl.out.symm,hid h1,hid (nK.out.far (by simp;omega) _),hid (kX.out.far (by simp;omega) _),hid (Below.setCell aJ.out (by simp;omega) _)⟩,rfl⟩
      case measure=>simp[intOf]
theorem u32_or_nat (a b:Nat) (ha:a<4294967296) (hb:b<4294967296):bits .or .u32 (a:Int) (b:Int)=((a ||| b:Nat):Int):=by
 have of : ∀ x:Nat,x<4294967296→(BitVec.ofInt 32 (x:Int)).toNat=x:=fun x hx=>by
  rw[BitVec.ofInt_natCast,BitVec.toNat_ofNat];exact Nat.mod_eq_of_lt (by omega)
 have hlt:a ||| b<2^32:=Nat.or_lt_two_pow ha hb
 show IntKind.u32.wrap ((BitVec.ofInt 32 (a:Int) ||| BitVec.ofInt 32 (b:Int)).toNat:Int)=_
 rw[BitVec.toNat_or,of _ ha,of _ hb,IntKind.wrap_u32]
 have:(2:Nat)^32=4294967296:=by decide
 omega
theorem b1e (x:Nat):x &&& 2^23=x/8388608%2*8388608:=by
 have hb:x.testBit 23=decide (x/8388608%2=1):=Nat.testBit_eq_decide_div_mod_eq
 apply Nat.eq_of_testBit_eq
 intro j;rw[Nat.testBit_and,Nat.testBit_two_pow];rcases(show x/8388608%2=0∨x/8388608%2=1 by omega)with e | e
 ·rw[e,Nat.zero_mul,Nat.zero_testBit]
  by_cases hj:23=j
  ·subst hj;rw[hb,e];rfl
  ·rw[decide_eq_false hj,Bool.and_false]
 ·rw[e,Nat.one_mul,show(8388608:Nat)=2^23 from rfl,Nat.testBit_two_pow]
  by_cases hj:23=j
  ·subst hj;rw[hb,e];rfl
  ·rw[decide_eq_false hj,Bool.and_false]
theorem c0w (m:Nat):bits .and .u32 (m:Int) 8388608=((m/8388608%2*8388608:Nat):Int):=by
 have h1:(BitVec.ofInt 32 8388608).toNat=2^23:=by decide
 have key:(BitVec.ofInt 32 (m:Int) &&& BitVec.ofInt 32 8388608).toNat=(((m:Int)%((2^32:Nat):Int)).toNat/8388608%2)*8388608:=by
  rw[BitVec.toNat_and,BitVec.toNat_ofInt,h1,b1e]
 show IntKind.u32.wrap ((BitVec.ofInt 32 (m:Int) &&& BitVec.ofInt 32 8388608).toNat:Nat)=_
 rw[key,IntKind.wrap_u32];omega
theorem b9v:yz 0=0:=rfl
theorem b9u {T:Nat} (h0:T≠0):yz T=if((if(dU T+7)/8<3 then T*2^(8*(3 - (dU T+7)/8))else T/2^(8*((dU T+7)/8 - 3)))%4294967296)/8388608%2=1
  then UInt32.ofNat (((dU T+7)/8+1)*16777216 ||| ((if(dU T+7)/8<3 then T*2^(8*(3 - (dU T+7)/8))else T/2^(8*((dU T+7)/8 - 3)))%4294967296)/256)
  else UInt32.ofNat ((dU T+7)/8*16777216 ||| ((if(dU T+7)/8<3 then T*2^(8*(3 - (dU T+7)/8))else T/2^(8*((dU T+7)/8 - 3)))%4294967296)):=if_neg h0
theorem b6K (N:Nat):limb N 0%4294967296=N%4294967296:=by
 unfold limb;rw[Nat.mul_zero,Nat.pow_zero,Nat.div_one];exact Nat.mod_mod_of_dvd _ (by decide)
theorem b7h (N:Nat):N%2^256%4294967296=N%4294967296:=Nat.mod_mod_of_dvd _ (by decide)
theorem a6Z {n:Nat} (h:n<4294967296):ag (UInt32.ofNat n) = .int .u32 (n:Int):=by
 unfold ag;rw[UInt32.toNat_ofNat',Nat.mod_eq_of_lt h]
theorem a6t (T:Nat) (w:World) (hT:T<2^256):Calls prog 256 #[aO T] w fun e w'=>e = .returned (ag (yz T))∧Keep w w':=by
 have HE : ∀ W,(Go.binOp .eql 79 (aO T) u0).run prog W = .ok (.bool (decide (T=0))) W:=fun W=>by
  have:=QG hT (Nat.two_pow_pos 256) W
  rw[xn]at this;exact this
 have hgd:=MC;by_cases h0:T=0
 ·rw[decide_eq_true h0]at HE
  have hz:ag (yz T) = .int .u32 0:=by rw[h0,b9v];rfl
  rw[hz];clear hz h0 hT;go_enter func256,ntmps256
  go_wp2
  exact bodyPost_ret (v:=.int .u32 0) (by simp[results,results256]) rfl ⟨rfl,aB _ _⟩
 ·rw[decide_eq_false h0]at HE
  have hv:=b9u h0;have hL:dU T≤256:=Gi hT;have L1:Hid (∀ y,Calls prog 96 #[aO T] y fun e w'=>e = .returned (.int .i64 (dU T:Nat))∧Keep y w'):=hid fun y=>len_any T y hT;obtain⟨e,he⟩ : ∃ e,(dU T+7)/8=e:=⟨_,rfl⟩
  rw[he]at hv;have c3q:e≤32:=by omega
  have q1:Int.tdiv ((dU T:Int)+7) 8=(e:Int):=by rw[Int.tdiv_eq_ediv_of_nonneg (by omega)];omega
  generalize dU T=L at *;have hm4:(if e<3 then T*2^(8*(3 - e))else T/2^(8*(e - 3)))%4294967296<4294967296:=Nat.mod_lt _ (by decide)
  have HM:Hid (∀ m,(if e<3 then T*2^(8*(3 - e))else T/2^(8*(e - 3)))%4294967296=m→(e<3→T*2^(8*(3 - e))%4294967296=m)∧(¬ e<3→T/2^(8*(e - 3))%4294967296=m)):=hid fun m h=>by
   constructor
   ·intro h3;rw[if_pos h3]at h;exact h
   ·intro h3;rw[if_neg h3]at h;exact h
  replace HM:=hid (HM.out _ rfl);generalize (if e<3 then T*2^(8*(3 - e))else T/2^(8*(e - 3)))%4294967296=m at *;obtain⟨m8,PG⟩ : ∃ x,m/256=x:=⟨_,rfl⟩
  obtain⟨v6,hv6⟩ : ∃ x,(e+1)*16777216 ||| m8=x:=⟨_,rfl⟩
  obtain⟨v5,hv5⟩ : ∃ x,e*16777216 ||| m=x:=⟨_,rfl⟩
  have z5:v5<4294967296:=by rw[←hv5];exact Nat.or_lt_two_pow (n:=32) (by omega) hm4
  have z6:v6<4294967296:=by rw[←hv6];exact Nat.or_lt_two_pow (n:=32) (by omega) (by omega)
  have q5:bits .or .u32 ((e:Int)*16777216) (m:Int)=(v5:Int):=by
   rw[show(e:Int)*16777216=((e*16777216:Nat):Int) by omega,←hv5];exact u32_or_nat _ _ (by omega) hm4
  have q6:bits .or .u32 (((e:Int)+1)*16777216) (m8:Int)=(v6:Int):=by
   rw[show((e:Int)+1)*16777216=(((e+1)*16777216:Nat):Int) by omega,←hv6];exact u32_or_nat _ _ (by omega) (by omega)
  have q4:(m:Int)/256=(m8:Int):=by omega
  rw[PG,hv6,hv5]at hv;have b0J:=hid q4;have b0K:=hid q5;have Q6:=hid q6
  clear PG hv6 hv5 q4 q5 q6;have HV:=hid hv;have HT:=hid hT;generalize yz T=R at *;clear he hv h0 hT;go_enter func256,ntmps256
  go_upto_region 1 with fail
  obtain⟨w1,hw1,-,ai,-⟩:=mW w 79 [n64 (limb T 0),n64 (limb T 1),n64 (limb T 2),n64 (limb T 3)];have HT1:Hid (ae w1 w.heap.size 79 (uL T)):=by rw[hw1];exact ae.new w 79 (uL T)
  rw[←hw1];clear hw1;have hT:=HT1.out;have t0:=hT.cell 0;have t1:=hT.cell 1;have t2:=hT.cell 2;have t3:=hT.cell 3
  simp only[uL,List.getElem?_cons_zero,List.getElem?_cons_succ]at t0 t1 t2 t3;clear hT;go_wp2_with fail
  refine(L1.out _).mono ?_;rintro e' w2 ⟨rfl,k2⟩;have HT2:=hid (HT1.out.keep k2);have ay:=hid (af ai.out k2)
  clear k2 L1 HT1 ai t0 t1 t2 t3 HE;go_upto_region 4 with fail
  clear q1
  go_upto_if 13 with fail
  go_cut [3] (fun v wx => ∃ X,v = .int .i64 e∧Hid (X%4294967296=m)∧Hid (ae wx w.heap.size 79 (uL X))∧Hid (Keep w wx))
  case first =>
   have hT:=HT2.out;have t0:=hT.cell 0;have t1:=hT.cell 1;have t2:=hT.cell 2;have t3:=hT.cell 3
   have g0:=hT.frozen 0;have g1:=hT.frozen 1;have g2:=hT.frozen 2;have g3:=hT.frozen 3
   simp only[uL,List.getElem?_cons_zero,List.getElem?_cons_succ]at t0 t1 t2 t3;clear hT;by_cases h3:e<3
   ·have hX:=HM.out.1 h3
    rw[←b7h]at hX
    have C6:Hid (∀ y,Calls prog 66 #[aO T,.int .i64 (8*(3 - (e:Int)))] y fun e' w'=>e' = .returned (.tuple #[aO (T*2^(8*(3 - e))%2^256),.bool (decide (2^256≤T*2^(8*(3 - e))))])∧Keep y w'):=hid fun y=>by
     have h1:=a6r T (8*(3 - e)) y HT.out (by omega);rw[show((8*(3 - e):Nat):Int)=8*(3 - (e:Int)) by omega]at h1;exact h1
    have HX:=hid hX;clear hX HM;generalize decide (2^256≤T*2^(8*(3 - e)))=ov at *;generalize T*2^(8*(3 - e))%2^256=X at *;have d1:decide ((e:Int)<3)=true:=decide_eq_true (by omega);have d2:decide (e<3)=true:=decide_eq_true h3;have h3':(e:Int)<3:=by omega
    clear h3;go_upto_region 5 with fail
    go_wp2_with fail
    refine(C6.out _).mono ?_;rintro e' w4 ⟨rfl,k4⟩;have HT4:=hid (HT2.out.keep k4);have aQ:=hid (af ay.out k4)
    clear t0 t1 t2 t3 g0 g1 g2 g3 k4 C6;have hT:=HT4.out;have t0:=hT.cell 0;have t1:=hT.cell 1;have t2:=hT.cell 2;have t3:=hT.cell 3
    have g0:=hT.frozen 0;have g1:=hT.frozen 1;have g2:=hT.frozen 2;have g3:=hT.frozen 3
    simp only[uL,List.getElem?_cons_zero,List.getElem?_cons_succ]at t0 t1 t2 t3;clear hT;go_wp2
    go_meet
    refine⟨X,rfl,HX,hid ((((HT4.out.az 0 _).az 1 _).az 2 _).az 3 _),hid ?_⟩;iterate 4 (refine Below.setCell ?_ (by simp) _)
    exact aQ.out
   ·have hX:=HM.out.2 h3
    have C6:Hid (∀ y,Calls prog 65 #[aO T,.int .i64 (8*((e:Int) - 3))] y fun e' w'=>e' = .returned (aO (T/2^(8*(e - 3))))∧Keep y w'):=hid fun y=>by
     have h1:=a6s T (8*(e - 3)) y HT.out (by omega);rw[show((8*(e - 3):Nat):Int)=8*((e:Int) - 3) by omega]at h1;exact h1
    have HX:=hid hX;clear hX HM;generalize T/2^(8*(e - 3))=X at *;have d1:decide ((e:Int)<3)=false:=decide_eq_false (by omega);have d2:decide (e<3)=false:=decide_eq_false h3;have h3':3≤(e:Int):=by omega
    clear h3;go_upto_region 6 with fail
    go_wp2_with fail
    refine(C6.out _).mono ?_;rintro e' w4 ⟨rfl,k4⟩;have HT4:=hid (HT2.out.keep k4);have aQ:=hid (af ay.out k4)
    clear t0 t1 t2 t3 g0 g1 g2 g3 k4 C6;have hT:=HT4.out;have t0:=hT.cell 0;have t1:=hT.cell 1;have t2:=hT.cell 2;have t3:=hT.cell 3
    have g0:=hT.frozen 0;have g1:=hT.frozen 1;have g2:=hT.frozen 2;have g3:=hT.frozen 3
    simp only[uL,List.getElem?_cons_zero,List.getElem?_cons_succ]at t0 t1 t2 t3;clear hT;go_wp2
    go_meet
    refine⟨X,rfl,HX,hid ((((HT4.out.az 0 _).az 1 _).az 2 _).az 3 _),hid ?_⟩;iterate 4 (refine Below.setCell ?_ (by simp) _)
    exact aQ.out
  case rest =>
   obtain⟨X,rfl,HX,HTc,gK⟩:=hcut;have t0:=HTc.out.cell 0;simp only[uL,List.getElem?_cons_zero]at t0
   have q2:IntKind.u32.wrap (limb X 0:Int)=(m:Int):=by
    have h1:=b6K X;rw[HX.out]at h1;rw[IntKind.wrap_u32];omega
   have q3:=c0w m;have q4:=b0J.out;have q5:=b0K.out;have q6:=Q6.out
   by_cases hb:m/8388608%2=1
   ·have hR:=HV.out
    rw[if_pos hb]at hR;have hRv:ag R = .int .u32 (v6:Int):=by rw[hR];exact a6Z z6
    have SK:=hid hRv;rw[hb]at q3;clear hR hRv HV hb q5 z5;go_wp2
    rw[SK.out];exact bodyPost_ret (v:=.int .u32 (v6:Int)) (by simp[results,results256]) rfl ⟨rfl,gK.out⟩
   ·have hR:=HV.out
    rw[if_neg hb]at hR;have hRv:ag R = .int .u32 (v5:Int):=by rw[hR];exact a6Z z5
    have SK:=hid hRv;rw[show m/8388608%2=0 by omega]at q3;clear hR hRv HV hb q6 z6 q4;go_wp2
    rw[SK.out];exact bodyPost_ret (v:=.int .u32 (v5:Int)) (by simp[results,results256]) rfl ⟨rfl,gK.out⟩
theorem b9a (bits limit:UInt32) (num den:Nat) (w:World) (hn:num<18446744073709551616) (hd2:den<18446744073709551616) :
  Calls prog 251 #[ag bits,n64 num,n64 den,ag limit] w fun e w'=>e = .returned (ag (L9 bits num den limit))∧Keep w w':=by
 have E1:Hid (∀ y,Calls prog 35 #[ag bits] y fun e w'=>e = .returned (.tuple #[aO (bM bits).1,.int .i64 (bM bits).2])∧Keep y w'):=hid fun y=>FU bits y;have E2:Hid (∀ y,Calls prog 35 #[ag limit] y fun e w'=>e = .returned (.tuple #[aO (bM limit).1,.int .i64 (bM limit).2])∧Keep y w'):=hid fun y=>FU limit y;have b1:=JS bits;have b2:=JS limit
 have HM:Hid (∀ R,L9 bits num den limit=R→R=if(bM bits).2≠0∨num=0∨den=0 then limit else if(bM limit).2≠0 then limit else yz (if 2^256≤(bM bits).1*num/den∨(bM bits).1*num/den=0∨(bM limit).1<(bM bits).1*num/den then(bM limit).1 else(bM bits).1*num/den)):=hid fun R e=>by subst e;rfl
 replace HM:=hid (HM.out _ rfl);generalize L9 bits num den limit=R at *;generalize bM bits=X at *;generalize bM limit=Y at *;obtain⟨T,te⟩:=X;obtain⟨L,le⟩:=Y;simp only at b1 b2;have B1:=hid b1;have B2:=hid b2
 clear b1 b2;go_enter func251,ntmps251
 go_wp2_with fail
 refine(E1.out _).mono ?_;clear E1;rintro e w2 ⟨rfl,k2⟩;have ay:=hid k2;have hzw:w.heap.size≤w2.heap.size:=k2.size;clear k2;go_upto_region 2 with fail
 obtain⟨w3,hw3⟩ : ∃ w3,w3=w2.alloc (.cells #[n64 (limb T 0),n64 (limb T 1),n64 (limb T 2),n64 (limb T 3)] 79):=⟨_,rfl⟩
 have HT3:Hid (ae w3 w2.heap.size 79 (uL T)):=by rw[hw3];exact ae.new w2 79 (uL T)
 have aA:Hid (Keep w w3):=by rw[hw3];exact af ay.out (aB _ _)
 rw[←hw3];clear hw3 ay;generalize w2.heap.size=B at *;by_cases hbad:te≠0∨num=0∨den=0
 ·have hM:=HM.out
  rw[if_pos hbad]at hM;subst hM;clear HM;by_cases h1:te=0
  ·subst h1
   by_cases h2:num=0
   ·subst h2
    clear hbad;go_wp2
    exact bodyPost_ret (v:=ag R) (by simp[results,results251]) rfl ⟨rfl,aA.out⟩
   ·have h3:den=0:=hbad.resolve_left (by simp) |>.resolve_left h2
    subst h3;have d1:(num==0)=false:=by simp[h2]
    have d2:((num:Int)==0)=false:=by rw[beq_eq_false_iff_ne];omega
    clear hbad h2;go_wp2
    exact bodyPost_ret (v:=ag R) (by simp[results,results251]) rfl ⟨rfl,aA.out⟩
  ·have d1:(te != 0)=true:=by simp[h1]
   clear hbad h1;go_wp2
   exact bodyPost_ret (v:=ag R) (by simp[results,results251]) rfl ⟨rfl,aA.out⟩
 ·have hM:=HM.out
  rw[if_neg hbad]at hM;replace HM:=hid hM;have h1:te=0:=Classical.byContradiction fun e=>hbad (Or.inl e);have h2:num≠0:=fun e=>hbad (Or.inr (Or.inl e));have h3:den≠0:=fun e=>hbad (Or.inr (Or.inr e));subst h1;have d1:(num==0)=false:=by simp[h2]
  have d2:((num:Int)==0)=false:=by rw[beq_eq_false_iff_ne];omega
  have d3:(den==0)=false:=by simp[h3]
  have d4:((den:Int)==0)=false:=by rw[beq_eq_false_iff_ne];omega
  have S1:Hid (∀ y,Calls prog 255 #[aO T,n64 num,n64 den] y fun e w'=>e = .returned (.tuple #[aO (T*num/den%2^256),.bool (decide (T*num/den<2^256))])∧Keep y w'):=hid fun y=>b9r T num den y B1.out hn (Nat.pos_of_ne_zero h3) hd2;clear hM hbad h2 h3;go_wp2_with fail
  refine(E2.out _).mono ?_;clear E2;rintro e w4 ⟨rfl,k4⟩;have HT4:=hid (HT3.out.keep k4);have aQ:=hid (af aA.out k4)
  have jb:B<w4.heap.size:=HT4.out.lt;clear k4 HT3 aA d1 d2 d3 d4;go_upto_region 5 with fail
  obtain⟨w5,hw5⟩ : ∃ w5,w5=w4.alloc (.cells #[n64 (limb L 0),n64 (limb L 1),n64 (limb L 2),n64 (limb L 3)] 79):=⟨_,rfl⟩
  have tX:Hid (ae w5 w4.heap.size 79 (uL L)):=by rw[hw5];exact ae.new w4 79 (uL L)
  have sF:Hid (ae w5 B 79 (uL T)):=by rw[hw5];exact HT4.out.alloc _
  have aJ:Hid (Keep w w5):=by rw[hw5];exact af aQ.out (aB _ _)
  rw[←hw5];clear hw5 HT4 aQ;generalize w4.heap.size=D at *;by_cases hle:le=0
  ·subst hle
   have hM:=HM.out;rw[if_neg (by simp)]at hM;replace HM:=hid hM;clear hM;have hT:=sF.out;have t0:=hT.cell 0;have t1:=hT.cell 1;have t2:=hT.cell 2;have t3:=hT.cell 3
   simp only[uL,List.getElem?_cons_zero,List.getElem?_cons_succ]at t0 t1 t2 t3;clear hT;have hq0:T*num/den%2^256<2^256:=Nat.mod_lt _ (Nat.two_pow_pos _);have HQ:Hid (∀ q,T*num/den=q→(R=yz (if 2^256≤q∨q=0∨L<q then L else q))):=hid fun q e=>by rw[←e];exact HM.out
   obtain⟨q,hq⟩ : ∃ q,T*num/den=q:=⟨_,rfl⟩
   have NZ:=hid (HQ.out q hq);rw[hq]at S1 hq0;clear hq HQ HM;obtain⟨o,ho⟩ : ∃ o,q%2^256=o:=⟨_,rfl⟩
   obtain⟨ft,hft⟩ : ∃ b,decide (q<2^256)=b:=⟨_,rfl⟩
   rw[ho,hft]at S1;rw[ho]at hq0;have HO:=hid ho;have HF:=hid hft
   have HE:Hid (∀ W,(Go.binOp .eql 79 (aO o) u0).run prog W = .ok (.bool (decide (o=0))) W):=hid fun W=>by
    have:=QG hq0 (Nat.two_pow_pos 256) W
    rw[xn]at this;exact this
   have C1:Hid (∀ y,Calls prog 60 #[aO o,aO L] y fun e w'=>e = .returned (.int .i64 (kF o L))∧Keep y w'):=hid fun y=>JO o L y hq0 B2.out;have g1:=UN o L;generalize kF o L=c1 at *;have a8Z:=hid hq0;have hgd:=MC;clear ho hft hq0;go_wp2_with fail
   refine(S1.out _).mono ?_;clear S1;rintro e w6 ⟨rfl,k6⟩;have vF:=hid (tX.out.keep k6);have bD:=hid (af aJ.out k6)
   have c4c:D<w6.heap.size:=vF.out.lt;clear k6 tX sF aJ t0 t1 t2 t3;go_upto_region 8 with fail
   obtain⟨w7,hw7⟩ : ∃ w7,w7=w6.alloc (.cells #[n64 (limb o 0),n64 (limb o 1),n64 (limb o 2),n64 (limb o 3)] 79):=⟨_,rfl⟩
   have lX:Hid (ae w7 w6.heap.size 79 (uL o)):=by rw[hw7];exact ae.new w6 79 (uL o)
   have tY:Hid (ae w7 D 79 (uL L)):=by rw[hw7];exact vF.out.alloc _
   have bT:Hid (Keep w w7):=by rw[hw7];exact af bD.out (aB _ _)
   rw[←hw7];clear hw7 vF bD;generalize w6.heap.size=E at *;obtain⟨V,hV⟩ : ∃ V,decide (ft=false∨o=0∨L<o)=V:=⟨_,rfl⟩
   have HV:=hid hV;clear hV
   go_cut [57] (fun v wx=>v = .bool V∧Hid (Keep w7 wx))
   case first =>
    have he:=HE.out;have hO:=lX.out;have o0:=hO.cell 0;have o1:=hO.cell 1;have o2:=hO.cell 2;have o3:=hO.cell 3
    have hL:=tY.out;have l0:=hL.cell 0;have l1:=hL.cell 1;have l2:=hL.cell 2;have l3:=hL.cell 3
    simp only[uL,List.getElem?_cons_zero,List.getElem?_cons_succ]at o0 o1 o2 o3 l0 l1 l2 l3;clear hO hL
    cases ft with
    | false =>
      obtain rfl:V=true:=by rw[←HV.out];exact decide_eq_true (Or.inl rfl)
      clear he HF HV;go_wp2_with fail
      go_meet
      exact⟨rfl,hid (Below.refl _ _)⟩
    | true =>
      by_cases h0:o=0
      ·obtain rfl:V=true:=by rw[←HV.out];exact decide_eq_true (Or.inr (Or.inl h0))
       rw[decide_eq_true h0]at he;clear HF h0 HV;go_wp2_with fail
       go_meet
       exact⟨rfl,hid (Below.refl _ _)⟩
      ·rw[decide_eq_false h0]at he
       have hdec:decide (true=false∨o=0∨L<o)=decide (L<o):=by
        apply decide_eq_decide.2
        constructor
        ·intro h;rcases h with h | h | h
         ·cases h
         ·exact absurd h h0
         ·exact h
        ·intro h;exact Or.inr (Or.inr h)
       have Vp:=HV.out;rw[hdec]at Vp;have a9s:=hid Vp;clear HF h0 hdec HV Vp;go_wp2_with fail
       refine(C1.out _).mono ?_;rintro e w8 ⟨rfl,k8⟩;have K8:=hid k8;clear he o0 o1 o2 o3 l0 l1 l2 l3 k8;go_wp2
       go_meet
       exact⟨by rw[←a9s.out],K8⟩
   case rest =>
    obtain⟨rfl,bK⟩:=hcut;have rC:=hid (lX.out.keep bK.out);have a8Q:=hid (tY.out.keep bK.out);have gK:=hid (af bT.out bK.out)
    clear lX tY bT bK HE C1 g1;have hO:=rC.out;have o0:=hO.cell 0;have o1:=hO.cell 1;have o2:=hO.cell 2;have o3:=hO.cell 3
    have f0:=hO.frozen 0;have f1:=hO.frozen 1;have f2:=hO.frozen 2;have f3:=hO.frozen 3
    have hL:=a8Q.out;have l0:=hL.cell 0;have l1:=hL.cell 1;have l2:=hL.cell 2;have l3:=hL.cell 3
    simp only[uL,List.getElem?_cons_zero,List.getElem?_cons_succ]at o0 o1 o2 o3 l0 l1 l2 l3;clear hO hL;by_cases hc:ft=false∨o=0∨L<o
    ·have hR:R=yz L:=by
      rw[NZ.out];by_cases hqq:q<2^256
      ·have e1:o=q:=by rw[←HO.out];exact Nat.mod_eq_of_lt hqq
       have e2:ft=true:=by rw[←HF.out];exact decide_eq_true hqq
       rw[e1,e2]at hc;rw[if_pos (Or.inr (hc.resolve_left (by simp)))]
      ·rw[if_pos (Or.inl (Nat.le_of_not_lt hqq))]
     have S2:Hid (∀ y,Calls prog 256 #[aO L] y fun e w'=>e = .returned (ag R)∧Keep y w'):=hid fun y=>by rw[hR];exact a6t L y B2.out
     obtain rfl:V=true:=by rw[←HV.out];exact decide_eq_true hc
     clear hR NZ HO HF hc HV;go_upto_region 10 with fail
     obtain⟨w9,iD⟩ : ∃ w9,w9=((((wc.setCell ⟨E,0,none⟩ (n64 (limb L 0))).setCell ⟨E,1,none⟩ (n64 (limb L 1))).setCell ⟨E,2,none⟩ (n64 (limb L 2))).setCell ⟨E,3,none⟩ (n64 (limb L 3))):=⟨_,rfl⟩
     have tZ:Hid (ae w9 E 79 (uL L)):=by rw[iD];exact(((rC.out.az 0 _).az 1 _).az 2 _).az 3 _
     have bP:Hid (Keep w w9):=by
      rw[iD];refine hid ?_;iterate 4 (refine Below.setCell ?_ (by simp;omega) _)
      exact gK.out
     rw[←iD];clear iD o0 o1 o2 o3 f0 f1 f2 f3 l0 l1 l2 l3;have hL:=tZ.out;have l0:=hL.cell 0;have l1:=hL.cell 1;have l2:=hL.cell 2;have l3:=hL.cell 3
     simp only[uL,List.getElem?_cons_zero,List.getElem?_cons_succ]at l0 l1 l2 l3;clear hL;go_wp2_with fail
     refine(S2.out _).mono ?_;rintro e wa ⟨rfl,ka⟩;have fV:=hid (af bP.out ka);clear l0 l1 l2 l3 ka S2;go_wp2
     exact bodyPost_ret (v:=ag R) (by simp[results,results251]) rfl ⟨rfl,fV.out⟩
    ·have hR:R=yz o:=by
      have hf:ft=true:=by cases ft;exact absurd (Or.inl rfl) hc;rfl
      have hqq:q<2^256:=of_decide_eq_true (HF.out.trans hf);have e1:o=q:=by rw[←HO.out];exact Nat.mod_eq_of_lt hqq
      rw[NZ.out,if_neg,e1];rw[e1]at hc;intro h;rcases h with h | h
      ·exact absurd hqq (Nat.not_lt_of_le h)
      ·exact hc (Or.inr h)
     have S2:Hid (∀ y,Calls prog 256 #[aO o] y fun e w'=>e = .returned (ag R)∧Keep y w'):=hid fun y=>by rw[hR];exact a6t o y a8Z.out
     obtain rfl:V=false:=by rw[←HV.out];exact decide_eq_false hc
     clear hR NZ HO HF hc HV;go_wp2_with fail
     refine(S2.out _).mono ?_;rintro e wa ⟨rfl,ka⟩;have fV:=hid (af gK.out ka);clear l0 l1 l2 l3 ka S2;go_wp2
     exact bodyPost_ret (v:=ag R) (by simp[results,results251]) rfl ⟨rfl,fV.out⟩
  ·have hM:=HM.out
   rw[if_pos hle]at hM;subst hM;have d1:(le != 0)=true:=by simp[hle]
   clear hle HM;go_wp2
   exact bodyPost_ret (v:=ag R) (by simp[results,results251]) rfl ⟨rfl,aJ.out⟩
def kE (n a b:Int):Int:=min (max n a) b
theorem b1B {n a b:Int} (h:a≤b):(n==kE n a b)=decide (a≤n∧n≤b):=by
 unfold kE;rw[Bool.eq_iff_iff];simp;omega
theorem OH (n a b:Int) (w:World):Calls prog 67 #[iv n,iv a,iv b] w fun e w'=>e = .returned (iv (kE n a b))∧w'=w:=by
 have hM:Hid (∀ r,kE n a b=r→r=min (max n a) b):=hid fun r e=>by subst e;rfl
 replace hM:=hid (hM.out _ rfl);generalize kE n a b=r at *;go_enter func67,ntmps67
 go_wp2
 exact bodyPost_ret (v:=iv r) (by rw[hM.out];simp[results,results67]) rfl ⟨rfl,rfl⟩
theorem MH (n a b:Int) (hab:a≤b) (w:World):Calls prog 37 #[iv n,iv a,iv b] w fun e w'=>e = .returned (.bool (decide (a≤n∧n≤b)))∧w'=w:=by
 have hb:=b1B (n:=n) hab;have HB:=hid hb;clear hb hab;go_enter func37,ntmps37
 go_wp2_with fail
 refine(OH n a b _).mono ?_;rintro x w' ⟨rfl,rfl⟩;go_wp2
 exact bodyPost_ret (v:=.bool (decide (a≤n∧n≤b))) (by rw[←HB.out];simp[results,results37]) rfl ⟨rfl,rfl⟩
theorem b1d (A:Option Addr) (l:List Bool) (c:Nat) (w:World) (hl:l.length≤100) (hr:Rd w A (l.map Value.bool)) :
  Calls prog 36 #[.slice A l.length c] w fun e w'=>e = .returned (.bool (l.all id))∧w'=w:=by
 have HA:Hid (∀ r,l.all id=r→r=l.all id):=hid fun r e=>e.symm;obtain⟨r,hr0⟩ : ∃ r,r=l.all id:=⟨_,rfl⟩
 rw[←hr0];replace hr0:=hid hr0;clear HA;go_enter func36,ntmps36
 go_wp2
 go_loopw [7] (fun i wr => ∃ k:Nat,k≤l.length∧i = .int .i64 k∧(l.take k).all id=true∧wr=w) (fun i _=>l.length - (intOf i).toNat)
 case atStart=>exact⟨0,Nat.zero_le _,rfl,rfl,rfl⟩
 case round =>
  obtain⟨k,hk,rfl,hall,rfl⟩:=hrel;by_cases hkl:k<l.length
  ·have g1:(k:Int)<l.length:=by omega
   obtain⟨b,off,rfl,hb,F⟩:=hr.at (k:=k) (by simpa using hkl);have hc:=F k (by simpa using hkl);have hx:(l.map Value.bool)[k]'(by simpa using hkl) = .bool l[k]:=by simp
   rw[hx]at hc;have htk:(l.take (k+1)).all id=((l.take k).all id&&l[k]):=by rw[List.take_succ_eq_append_getElem hkl,List.all_append];simp
   by_cases hv:l[k]=true
   ·rw[hv]at hc htk
    go_wp2
    exact⟨⟨k+1,by omega,by simp,by rw[htk,hall];rfl,trivial⟩,by simp[intOf];omega⟩
   ·have hf:l[k]=false:=by simpa using hv
    rw[hf]at hc
    have hno:l.all id=false:=by
     rw[List.all_eq_false];exact⟨l[k],List.getElem_mem hkl,by simp[hf]⟩
    have hrr:r=false:=hr0.out.trans hno;subst hrr;clear hno hall;go_wp2
    go_ret
    exact⟨rfl,rfl⟩
  ·have g1 : ¬ (k:Int)<l.length:=by omega
   have hkk:k=l.length:=by omega
   have hyes:l.all id=true:=by rw[hkk,List.take_length]at hall;exact hall
   have hrr:r=true:=hr0.out.trans hyes;subst hrr;clear hyes hall;go_wp2
   go_ret
   exact⟨rfl,rfl⟩
theorem b2B (x s:Int) (w:World) (hs1:4≤s) (hs2:s≤1099511627776):Calls prog 250 #[iv x,iv s] w fun e w'=>e = .returned (iv (kE x (s.tdiv 4) (4*s)))∧w'=w:=by
 have hb:kE s 4 1099511627776=s:=by unfold kE;omega
 have B1:Hid (∀ w,Calls prog 67 #[iv s,iv 4,iv 1099511627776] w fun e w'=>e = .returned (iv s)∧w'=w):=hid fun w=>by have:=OH s 4 1099511627776 w;rw[hb]at this;exact this
 have B2:Hid (∀ w,Calls prog 67 #[iv x,iv (s.tdiv 4),iv (4*s)] w fun e w'=>e = .returned (iv (kE x (s.tdiv 4) (4*s)))∧w'=w):=hid fun w=>OH _ _ _ w;have hw4:IntKind.i64.wrap (4*s)=4*s:=IntWalk.i64_in _ (by omega);have hd1:IntKind.i64.wrap (s.tdiv 4)=s.tdiv 4:=IntWalk.i64_in _ (by have:=Int.tdiv_eq_ediv_of_nonneg (a:=s) (b:=4) (by omega);omega);clear hb;generalize kE x (s.tdiv 4) (4*s)=r at *;obtain⟨q,hq⟩ : ∃ q,s.tdiv 4=q:=⟨_,rfl⟩
 obtain⟨m,hm⟩ : ∃ m,4*s=m:=⟨_,rfl⟩
 rw[hq]at B2 hd1;rw[hm]at B2 hw4;go_enter func250,ntmps250
 go_wp2_with fail
 refine(B1.out _).mono ?_;rintro e w' ⟨rfl,rfl⟩;go_wp2_with fail
 refine(B2.out _).mono ?_;rintro e w' ⟨rfl,rfl⟩;go_wp2
 exact bodyPost_ret (v:=iv r) (by simp[results,results250]) rfl ⟨rfl,rfl⟩
def Dq (n i:Int):Int:=if n≤kE i 1 1048576 then 0 else n - kE i 1 1048576
theorem first_any (n i:Int) (w:World) (hn:0≤n) (hn2:n≤1000000):Calls prog 245 #[iv n,iv i] w fun e w'=>e = .returned (iv (Dq n i))∧w'=w:=by
 have hb:1≤kE i 1 1048576∧kE i 1 1048576≤1048576:=by unfold kE;omega
 have hF:Hid (∀ r,Dq n i=r→r=if n≤kE i 1 1048576 then 0 else n - kE i 1 1048576):=hid fun r e=>by subst e;rfl
 replace hF:=hid (hF.out _ rfl);generalize Dq n i=r at *;have hB:=fun w=>OH i 1 1048576 w;generalize kE i 1 1048576=m at *;obtain⟨b1,b2⟩:=hb;go_enter func245,ntmps245
 go_wp2_with fail
 refine(hB _).mono ?_;clear hB;rintro e w' ⟨rfl,rfl⟩;by_cases h:n≤m
 ·have hr:=hF.out
  rw[if_pos h]at hr;subst hr;clear hF;go_wp2
  exact bodyPost_ret (v:=iv 0) (by simp[results,results245]) rfl ⟨rfl,rfl⟩
 ·have hr:=hF.out
  rw[if_neg h]at hr;subst hr;clear hF;go_wp2
  exact bodyPost_ret (v:=iv (n - m)) (by simp[results,results245]) rfl ⟨rfl,rfl⟩
structure eF where
 limit:UInt32
 bQ:Int
 span:Int
 dm:Int
 idx:Int
 dK:Int
 dH:List (Int × List UInt8)
def gI (p:eF) (A:Option Addr) (c:Nat):Value:=.agg #[ag p.limit,iv p.bQ,iv p.span,iv p.dm,iv p.idx,iv p.dK,.slice A p.dH.length c]
def a6k (p:eF):List Bool:=[decide (1≤p.bQ∧p.bQ≤1048576),decide (4≤p.span∧p.span≤1099511627776),decide ((bM p.limit).2=0),decide (0≤p.dm∧p.dm≤4294967296),decide (0≤p.idx∧p.idx≤1048576),decide (0≤p.dK∧p.dK≤1048576),decide (p.dH.length≤100)]
def pF (p:eF):Bool:=(a6k p).all id
theorem b85 (p:eF):pF p=true↔(1≤p.bQ∧p.bQ≤1048576)∧(4≤p.span∧p.span≤1099511627776)∧(bM p.limit).2=0∧(0≤p.dm∧p.dm≤4294967296)∧(0≤p.idx∧p.idx≤1048576)∧(0≤p.dK∧p.dK≤1048576)∧p.dH.length≤100:=by
 simp[pF,a6k]
end Go.Proofs.YtiagcenlnekdeaaGreatDoor
