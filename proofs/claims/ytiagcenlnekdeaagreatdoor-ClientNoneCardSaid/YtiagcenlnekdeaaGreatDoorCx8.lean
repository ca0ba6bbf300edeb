/- Texts merged by pack.py: Vb, Vc, Gr, Vd, Vi, Vj, Hsh, Vk, Vl, Vm, Vn, Vo, Vq, Vr, Ve, Vf. -/
import Derived.Test.YtiagcenlnekdeaaGreatDoorCx7
import Derived.Test.YtiagcenlnekdeaaGreatDoorCx3
import Derived.Maps.Range
import Derived.Deep.CutBlock
set_option maxRecDepth 1000000
set_option maxHeartbeats 16000000
open Go.Proofs.Tryz
open Go.Lib (hid)
set_option linter.unusedSimpArgs false
set_option linter.unusedVariables false
namespace Go.Proofs.YtiagcenlnekdeaaGreatDoor
open Go.RowKit
attribute [local go_sem ↓] Go.wp_at_zero Go.wp_at_succ
theorem a4N (c:Nat) (hc:c≤200000000) (W:World) : ∃ W',(∀ i:Int,i=c→(Instr.makeSlice 32 (.int .i64 0) (.int .i64 i)).run prog W = .ok (.slice (some ⟨W.heap.size,0,none⟩) 0 c) W') ∧
  W'.ownsRow W.heap.size 5 1 (.slice (some ⟨W.heap.size,0,none⟩) 0 c) 0 []∧Keep W W'∧W.heap.size<W'.heap.size:=by
 refine⟨_,fun i hi=>?_,World.ownsRow_made W (madeCells #[.int .u8 0] (c*1)) c (Nat.le_refl _) (by unfold maxLen;omega) (by simp[madeCells]),aB _ _,by simp⟩
 ·subst hi;exact jU.make 0 c (Nat.zero_le _) (by omega) (by omega) W
theorem b2R (n:Nat) (hn:n<2^64) (w:World) :
  Calls prog 177 #[.slice none 0 0,dA n] w fun e w' => ∃ v,e = .returned v∧w'.ownsRow w.heap.size 5 1 v (iP n) ((mi n).map ah)∧Keep w w':=by
 have S1:Hid (∀ y,Calls prog 207 #[dA n] y fun e w'=>e = .returned (iv (iP n))∧Keep y w'):=hid fun y=>a1t n y;have HL:=hid (JP n);have hs:=Md n
 have HC:Hid (iP n=(mi n).length∧((iP n=1∧mi n=[UInt8.ofNat n])∨(iP n=3∧mi n=253::fG n 2)∨(iP n=5∧mi n=254::fG n 4)∨(iP n=9∧mi n=255::fG n 8))):=hid ⟨(JP n).symm,by
  unfold iP mi
  split
  ·exact .inl ⟨rfl,rfl⟩
  ·split
   ·exact .inr (.inl ⟨rfl,rfl⟩)
   ·split
    ·exact .inr (.inr (.inl ⟨rfl,rfl⟩))
    ·exact .inr (.inr (.inr ⟨rfl,rfl⟩))⟩
 generalize mi n=C at *;generalize iP n=s at *;go_enter func177,ntmps177
 go_wp2_with fail
 refine(S1.out _).mono ?_;clear S1 HL;rintro e w1 ⟨rfl,k1⟩;obtain⟨w2,hmk,kJ,k2,hsz2⟩:=a4N s (by omega) w1;have hmk:=hmk _ rfl;have hb1:=k1.size;have Own2:=hid (own_base kJ hb1);have ay:=hid (af k1 k2);clear kJ k1 k2;generalize w1.heap.size=g at *;go_upto_region 3 with fail
 clear hmk;obtain⟨-,hcs⟩:=HC.out;rcases hcs with⟨h1,h2⟩ | ⟨h1,h2⟩ | ⟨h1,h2⟩ | ⟨h1,h2⟩
 all_goals
  subst h1;subst h2
 ·
  go_upto_region 4 with(at_builtin;refine iF jU (by rfl) _ _ (by rfl) w.heap.size _ 0 [] (by rfl) Own2.out _ 0 0 [] (by rfl) (by simp) (Rd.nil _ _) (by simp) (by omega) (by unfold maxLen;omega) (by have:=ay.out.size;omega) ?_;intro v3 w3 wW wI DJ;have qB:=hid wW;have kM:=hid (lQ ay.out (by have:=ay.out.size;omega) wI Own2.out);clear wW wI DJ Own2 ay)
  obtain⟨x,hx⟩ : ∃ x:UInt8,x=UInt8.ofNat n:=⟨_,rfl⟩
  have hb:(n:Int)%256=(x.toNat:Int):=by rw[hx,UInt8.toNat_ofNat'];omega
  have HX:=hid hx;clear hx;go_wp2_with (at_builtin;refine iF jU (by rfl) _ _ (by rfl) w.heap.size _ _ _ (by rfl) (qB.out.alloc _) _ 1 1 [ah x] (by rfl) (by rfl) (Rd.new _ _ _) (by simp[Value.oneCell']) (by omega) (by unfold maxLen;omega) (by have:=kM.out.size;simp;omega) ?_;intro v4 w4 wX wJ DK;have xU:=hid wX;have BU:=hid (lQ (kM.out.alloc (kM.out.size) _) (by have:=kM.out.size;simp;omega) wJ (qB.out.alloc _));clear wX wJ DK qB kM)
  exact bodyPost_ret (v:=v4) (by simp[results,results177]) rfl ⟨v4,rfl,jm xU.out (by omega) (by rw[HX.out];rfl),BU.out⟩
 ·
  go_upto_region 4 with(at_builtin;refine iF jU (by rfl) _ _ (by rfl) w.heap.size _ 0 [] (by rfl) Own2.out _ 0 0 [] (by rfl) (by simp) (Rd.nil _ _) (by simp) (by omega) (by unfold maxLen;omega) (by have:=ay.out.size;omega) ?_;intro v3 w3 wW wI DJ;have qB:=hid wW;have kM:=hid (lQ ay.out (by have:=ay.out.size;omega) wI Own2.out);clear wW wI DJ Own2 ay)
  go_upto_region 12 with(at_builtin;refine iF jU (by rfl) _ _ (by rfl) w.heap.size _ _ _ (by rfl) (qB.out.alloc _) _ 1 1 [.int .u8 253] (by rfl) (by rfl) (Rd.new _ _ _) (by simp[Value.oneCell']) (by omega) (by unfold maxLen;omega) (by have:=kM.out.size;simp;omega) ?_;intro v4 w4 wX wJ DK;have xU:=hid wX;have BU:=hid (lQ (kM.out.alloc (kM.out.size) _) (by have:=kM.out.size;simp;omega) wJ (qB.out.alloc _));clear wX wJ DK qB kM)
  have Own4:Hid (w4.ownsRow w.heap.size 5 1 v4 (1+0) (((253::fG n 0):List UInt8).map ah)):=hid (jm xU.out (by omega) (by simp[Ld]));clear xU;go_wp2_with fail
  go_loopw [6,41] (fun v c wr => ∃ k:Nat,k≤2∧c = .int .i64 k∧Hid (wr.ownsRow w.heap.size 5 1 v (1+k) (((253::fG n k):List UInt8).map ah))∧Hid (Keep w wr)) (fun _ c _=>2 - (intOf c).toNat)
  case atStart=>exact⟨0,Nat.zero_le _,rfl,Own4,BU⟩
  case round =>
   obtain⟨k,hk,rfl,Own5,aJ⟩:=hrel;by_cases hlt:k<2
   ·obtain⟨x,hx⟩ : ∃ x:UInt8,x=UInt8.ofNat (n/2^(8*k)):=⟨_,rfl⟩
    have hb:(n:Int)/2^(8*k)%256=(x.toNat:Int):=by
     rw[hx,UInt8.toNat_ofNat',Int.natCast_emod,Int.natCast_ediv,Int.natCast_pow];rfl
    have HN:=hid (Lc n k);rw[←hx]at HN;clear hx;go_wp2_with (at_builtin;refine iF jU (by rfl) _ _ (by rfl) w.heap.size _ _ _ (by rfl) (Own5.out.alloc _) _ 1 1 [ah x] (by rfl) (by rfl) (Rd.new _ _ _) (by simp[Value.oneCell']) (by omega) (by unfold maxLen;omega) (by have:=aJ.out.size;simp;omega) ?_;intro v6 w6 Bo Be J8;have JB:=hid Bo;have IE:=hid (lQ (aJ.out.alloc (aJ.out.size) _) (by have:=aJ.out.size;simp;omega) Be (Own5.out.alloc _));clear Bo Be J8 Own5 aJ)
    clear hb
    go_roundw
    case rel=>exact⟨k+1,by omega,by go_num,hid (jm JB.out (by omega) (by rw[HN.out];simp)),IE⟩
    case measure=>simp[intOf];omega
   ·obtain rfl:k=2:=by omega
    go_wp2
    exact bodyPost_ret (by simp[results,results177]) rfl ⟨_,rfl,jm Own5.out (by omega) rfl,aJ.out⟩
 ·
  go_upto_region 4 with(at_builtin;refine iF jU (by rfl) _ _ (by rfl) w.heap.size _ 0 [] (by rfl) Own2.out _ 0 0 [] (by rfl) (by simp) (Rd.nil _ _) (by simp) (by omega) (by unfold maxLen;omega) (by have:=ay.out.size;omega) ?_;intro v3 w3 wW wI DJ;have qB:=hid wW;have kM:=hid (lQ ay.out (by have:=ay.out.size;omega) wI Own2.out);clear wW wI DJ Own2 ay)
  go_upto_region 12 with(at_builtin;refine iF jU (by rfl) _ _ (by rfl) w.heap.size _ _ _ (by rfl) (qB.out.alloc _) _ 1 1 [.int .u8 254] (by rfl) (by rfl) (Rd.new _ _ _) (by simp[Value.oneCell']) (by omega) (by unfold maxLen;omega) (by have:=kM.out.size;simp;omega) ?_;intro v4 w4 wX wJ DK;have xU:=hid wX;have BU:=hid (lQ (kM.out.alloc (kM.out.size) _) (by have:=kM.out.size;simp;omega) wJ (qB.out.alloc _));clear wX wJ DK qB kM)
  have Own4:Hid (w4.ownsRow w.heap.size 5 1 v4 (1+0) (((254::fG n 0):List UInt8).map ah)):=hid (jm xU.out (by omega) (by simp[Ld]));clear xU;go_wp2_with fail
  go_loopw [6,41] (fun v c wr => ∃ k:Nat,k≤4∧c = .int .i64 k∧Hid (wr.ownsRow w.heap.size 5 1 v (1+k) (((254::fG n k):List UInt8).map ah))∧Hid (Keep w wr)) (fun _ c _=>4 - (intOf c).toNat)
  case atStart=>exact⟨0,Nat.zero_le _,rfl,Own4,BU⟩
  case round =>
   obtain⟨k,hk,rfl,Own5,aJ⟩:=hrel;by_cases hlt:k<4
   ·obtain⟨x,hx⟩ : ∃ x:UInt8,x=UInt8.ofNat (n/2^(8*k)):=⟨_,rfl⟩
    have hb:(n:Int)/2^(8*k)%256=(x.toNat:Int):=by
     rw[hx,UInt8.toNat_ofNat',Int.natCast_emod,Int.natCast_ediv,Int.natCast_pow];rfl
    have HN:=hid (Lc n k);rw[←hx]at HN;clear hx;go_wp2_with (at_builtin;refine iF jU (by rfl) _ _ (by rfl) w.heap.size _ _ _ (by rfl) (Own5.out.alloc _) _ 1 1 [ah x] (by rfl) (by rfl) (Rd.new _ _ _) (by simp[Value.oneCell']) (by omega) (by unfold maxLen;omega) (by have:=aJ.out.size;simp;omega) ?_;intro v6 w6 Bo Be J8;have JB:=hid Bo;have IE:=hid (lQ (aJ.out.alloc (aJ.out.size) _) (by have:=aJ.out.size;simp;omega) Be (Own5.out.alloc _));clear Bo Be J8 Own5 aJ)
    clear hb
    go_roundw
    case rel=>exact⟨k+1,by omega,by go_num,hid (jm JB.out (by omega) (by rw[HN.out];simp)),IE⟩
    case measure=>simp[intOf];omega
   ·obtain rfl:k=4:=by omega
    go_wp2
    exact bodyPost_ret (by simp[results,results177]) rfl ⟨_,rfl,jm Own5.out (by omega) rfl,aJ.out⟩
 ·
  go_upto_region 4 with(at_builtin;refine iF jU (by rfl) _ _ (by rfl) w.heap.size _ 0 [] (by rfl) Own2.out _ 0 0 [] (by rfl) (by simp) (Rd.nil _ _) (by simp) (by omega) (by unfold maxLen;omega) (by have:=ay.out.size;omega) ?_;intro v3 w3 wW wI DJ;have qB:=hid wW;have kM:=hid (lQ ay.out (by have:=ay.out.size;omega) wI Own2.out);clear wW wI DJ Own2 ay)
  go_upto_region 12 with(at_builtin;refine iF jU (by rfl) _ _ (by rfl) w.heap.size _ _ _ (by rfl) (qB.out.alloc _) _ 1 1 [.int .u8 255] (by rfl) (by rfl) (Rd.new _ _ _) (by simp[Value.oneCell']) (by omega) (by unfold maxLen;omega) (by have:=kM.out.size;simp;omega) ?_;intro v4 w4 wX wJ DK;have xU:=hid wX;have BU:=hid (lQ (kM.out.alloc (kM.out.size) _) (by have:=kM.out.size;simp;omega) wJ (qB.out.alloc _));clear wX wJ DK qB kM)
  have Own4:Hid (w4.ownsRow w.heap.size 5 1 v4 (1+0) (((255::fG n 0):List UInt8).map ah)):=hid (jm xU.out (by omega) (by simp[Ld]));clear xU;go_wp2_with fail
  go_loopw [6,41] (fun v c wr => ∃ k:Nat,k≤8∧c = .int .i64 k∧Hid (wr.ownsRow w.heap.size 5 1 v (1+k) (((255::fG n k):List UInt8).map ah))∧Hid (Keep w wr)) (fun _ c _=>8 - (intOf c).toNat)
  case atStart=>exact⟨0,Nat.zero_le _,rfl,Own4,BU⟩
  case round =>
   obtain⟨k,hk,rfl,Own5,aJ⟩:=hrel;by_cases hlt:k<8
   ·obtain⟨x,hx⟩ : ∃ x:UInt8,x=UInt8.ofNat (n/2^(8*k)):=⟨_,rfl⟩
    have hb:(n:Int)/2^(8*k)%256=(x.toNat:Int):=by
     rw[hx,UInt8.toNat_ofNat',Int.natCast_emod,Int.natCast_ediv,Int.natCast_pow];rfl
    have HN:=hid (Lc n k);rw[←hx]at HN;clear hx;go_wp2_with (at_builtin;refine iF jU (by rfl) _ _ (by rfl) w.heap.size _ _ _ (by rfl) (Own5.out.alloc _) _ 1 1 [ah x] (by rfl) (by rfl) (Rd.new _ _ _) (by simp[Value.oneCell']) (by omega) (by unfold maxLen;omega) (by have:=aJ.out.size;simp;omega) ?_;intro v6 w6 Bo Be J8;have JB:=hid Bo;have IE:=hid (lQ (aJ.out.alloc (aJ.out.size) _) (by have:=aJ.out.size;simp;omega) Be (Own5.out.alloc _));clear Bo Be J8 Own5 aJ)
    clear hb
    go_roundw
    case rel=>exact⟨k+1,by omega,by go_num,hid (jm JB.out (by omega) (by rw[HN.out];simp)),IE⟩
    case measure=>simp[intOf];omega
   ·obtain rfl:k=8:=by omega
    go_wp2
    exact bodyPost_ret (by simp[results,results177]) rfl ⟨_,rfl,jm Own5.out (by omega) rfl,aJ.out⟩
theorem u64_or (n y k:Nat) (hk:k<8) (hn:n<2^(8*k)) (hy:y<256):bits .or .u64 (n:Int) (IntKind.u64.wrap ((y:Int)*2^(8*k)))=((n+y*2^(8*k):Nat):Int):=by
 have hlt:y*2^(8*k)<2^64:=by
  have h1:y*2^(8*k)<2^8*2^(8*k):=Nat.mul_lt_mul_of_pos_right (by omega) (Nat.two_pow_pos _);have h2:(2:Nat)^8*2^(8*k)≤2^64:=by rw[←Nat.pow_add];exact Nat.pow_le_pow_right (by omega) (by omega)
  omega
 have hn2:n<2^64:=Nat.lt_of_lt_of_le hn (Nat.pow_le_pow_right (by omega) (by omega));have e0:(y:Int)*2^(8*k)=((y*2^(8*k):Nat):Int):=by rw[Int.natCast_mul,Int.natCast_pow];rfl
 have e1:(y:Int)*2^(8*k)%18446744073709551616=((y*2^(8*k):Nat):Int):=by rw[e0];omega
 rw[IntKind.wrap_u64,e1]
 have hor:n ||| y*2^(8*k)=n+y*2^(8*k):=by
  rw[Nat.mul_comm y,Nat.or_comm,←Nat.two_pow_add_eq_or_of_lt hn y,Nat.add_comm]
 have hor2:n+y*2^(8*k)<2^64:=by rw[←hor];exact Nat.or_lt_two_pow hn2 hlt
 show IntKind.u64.wrap ((BitVec.ofInt 64 n ||| BitVec.ofInt 64 (y*2^(8*k):Nat)).toNat:Nat)=_
 have e2:(BitVec.ofInt 64 (n:Int) ||| BitVec.ofInt 64 (y*2^(8*k):Nat)).toNat=n+y*2^(8*k):=by
  rw[BitVec.toNat_or,BitVec.toNat_ofInt,BitVec.toNat_ofInt,←hor]
  congr 1
  ·omega
  ·omega
 rw[e2,IntKind.wrap_u64];omega
theorem b2g (A:Option Addr) (b:List UInt8) (c:Nat) (w:World) (hl:b.length≤4611686018427387904) (hr:Rd w A (b.map ah)) :
  Calls prog 230 #[.slice A b.length c] w fun e w'=>e = .returned (.tuple #[dA (lK b).1,iv (lK b).2.1,iv (lK b).2.2])∧Keep w w':=by
 cases b with
 | nil =>
   go_enter func230,ntmps230
   go_wp2
   exact bodyPost_ret (v:=.tuple #[dA 0,iv 0,iv 1]) (by simp[results,results230]) rfl ⟨rfl,Below.refl _ _⟩
 | cons x t =>
 rw[a1e];obtain⟨g,off,rfl,hg,hc⟩:=hr.at (k:=0) (by simp)
 have HC:Hid (∀ k,k<t.length→w.cell? ⟨g,off+(1+k),none⟩=some (ah (t.getD k 0))):=hid fun k hk=>by
  rw[hc (1+k) (by simp;omega)];simp[Nat.add_comm 1 k,List.getD_eq_getElem?_getD,List.getElem?_eq_getElem hk]
 have c0:w.cell? ⟨g,off,none⟩=some (ah x):=hc 0 (by simp);have XW:Hid (∀ y,Calls prog 238 #[ah x] y fun e w'=>e = .returned (iv (jG x))∧Keep y w'):=hid fun y=>b1n x y;have hb8:jG x≤8:=by rcases UB x with q | q | q | q <;> omega
 have HS:Hid (∀ n y,Calls prog 207 #[dA n] y fun e w'=>e = .returned (iv (iP n))∧Keep y w'):=hid fun n y=>a1t n y;have HN:Hid (∀ k,fH t k<2^(8*k)∧fH t (k+1)=fH t k+(t.getD k 0).toNat*2^(8*k)):=hid fun k=>⟨Gu t k,rfl⟩
 have kV:Hid (fH t 0=0):=hid rfl;rw[List.length_cons]at hl ⊢;clear hc hr hg;generalize jG x=m at *;generalize t.length=L at *;obtain⟨nt,hnt⟩ : ∃ f,fH t=f:=⟨_,rfl⟩
 obtain⟨tt,htt⟩ : ∃ f:Nat→UInt8,(fun k=>t.getD k 0)=f:=⟨_,rfl⟩
 have Bg : ∀ k,t.getD k 0=tt k:=fun k=>by rw[←htt]
 rw[hnt]at HN kV ⊢;simp only[Bg]at HC HN;clear hnt htt Bg;obtain⟨R,hR⟩ : ∃ R,(if m=0 then(x.toNat,1,(0:Int))else if L<m then(0,0,1)else if iP (nt m)=1+m then(nt m,1+m,0)else(0,0,2))=R:=⟨_,rfl⟩
 rw[hR];have HR:=hid hR;clear hR;have hw8:IntKind.u64.wrap (x.toNat:Int)=x.toNat:=by rw[IntKind.wrap_u64];have:=x.toNat_lt;omega
 have HK:Hid (Keep w w):=hid (Below.refl _ _);go_enter func230,ntmps230
 have hL:(((L+1:Nat):Int)==0)=false:=by rw[beq_eq_false_iff_ne];omega
 go_wp2_with fail
 refine(XW.out _).mono ?_;clear XW;rintro e w1 ⟨rfl,k1⟩;have c0:=aC k1 c0;have ai:=hid (af HK.out k1);clear k1 HK;by_cases hm:m=0
 ·have hv:=HR.out
  rw[if_pos hm]at hv;subst hv;clear HR;have d1:((m:Int)==0)=true:=by simp[hm]
  clear hm;go_wp2
  exact bodyPost_ret (v:=.tuple #[dA x.toNat,iv 1,iv 0]) (by simp[results,results230]) rfl ⟨rfl,ai.out⟩
 have hv:=HR.out;rw[if_neg hm]at hv;have d1:((m:Int)==0)=false:=by rw[beq_eq_false_iff_ne];omega
 by_cases hlm:L<m
 ·rw[if_pos hlm]at hv
  subst hv;clear HR;have d2:(L:Int)+1<1+(m:Int):=by omega
  clear c0;go_wp2
  exact bodyPost_ret (v:=.tuple #[dA 0,iv 0,iv 1]) (by simp[results,results230]) rfl ⟨rfl,ai.out⟩
 rw[if_neg hlm]at hv;replace HR:=hid hv;clear hv;have d2 : ¬ (L:Int)+1<1+(m:Int):=by omega
 clear c0;go_wp2_with fail
 clear d1 d2
 go_loopw [6,27] (fun v c wr => ∃ k:Nat,k≤m∧c = .int .i64 k∧v = .int .u64 (nt k:Nat)∧w1=wr) (fun _ c _=>m - (intOf c).toNat)
 case atStart=>exact⟨0,Nat.zero_le _,rfl,by rw[kV.out];rfl,rfl⟩
 case round =>
  obtain⟨k,hk,rfl,rfl,rfl⟩:=hrel;by_cases hlt:k<m
  ·have c0:=aC ai.out (HC.out k (by omega))
   obtain⟨h1,h2⟩:=HN.out k;have hy:=(tt k).toNat_lt;have hor:=u64_or (nt k) (tt k).toNat k (by omega) h1 (by omega);rw[←h2]at hor;clear h1 h2;obtain⟨n1,hn1⟩ : ∃ n1,nt (k+1)=n1:=⟨_,rfl⟩
   rw[hn1]at hor;have lI:Hid (n1=nt (k+1)):=hid hn1.symm;clear hn1;generalize nt k=n0 at *;generalize tt k=y at *;go_wp2
   go_roundw
   case rel=>exact⟨k+1,by omega,by go_num,by rw[←lI.out],by first | rfl | trivial⟩
   case measure=>simp[intOf];omega
  ·obtain rfl:k=m:=by omega
   have d2 : ¬ (k:Int)<k:=by omega
   go_wp2_with fail
   refine(HS.out _ _).mono ?_;clear HS HC HN kV;rintro e w2 ⟨rfl,k2⟩;have ay:=hid (af ai.out k2);clear k2 ai;have hv:=HR.out;generalize nt k=n at *;by_cases hs:iP n=1+k
   ·rw[if_pos hs]at hv
    subst hv;have d3:((iP n:Int)!=1+(k:Int))=false:=by rw[bne_eq_false_iff_eq];omega
    clear HR hs;generalize iP n=sn at *;go_wp2
    exact bodyPost_ret (v:=.tuple #[dA n,iv (1+k),iv 0]) (by simp[results,results230]) rfl ⟨by simp,ay.out⟩
   ·rw[if_neg hs]at hv
    subst hv;have d3:((iP n:Int)!=1+(k:Int))=true:=by rw[bne_iff_ne];omega
    clear HR hs;generalize iP n=sn at *;go_wp2
    exact bodyPost_ret (v:=.tuple #[dA 0,iv 0,iv 2]) (by simp[results,results230]) rfl ⟨rfl,ay.out⟩
theorem b1t (A:Option Addr) (b:List UInt8) (c most:Nat) (w:World) (hl:b.length≤4611686018427387904) (hr:Rd w A (b.map ah)) :
  Calls prog 211 #[.slice A b.length c,dA most] w fun e w'=>e = .returned (.tuple #[iv (dR b most).1,iv (dR b most).2.1,iv (dR b most).2.2])∧Keep w w':=by
 have G1:Hid (Calls prog 230 #[.slice A b.length c] w fun e w'=>e = .returned (.tuple #[dA (lK b).1,iv (lK b).2.1,iv (lK b).2.2])∧Keep w w'):=hid (b2g A b c w hl hr);have HB:Hid (∀ R,dR b most=R→R=if(lK b).2.2=0 then if most<(lK b).1∨2147483647<(lK b).1 then(0,0,3)else lK b else(0,0,(lK b).2.2)):=hid fun R h=>by subst h;rfl
 replace HB:=hid (HB.out _ rfl);clear hr;generalize dR b most=R at *;generalize lK b=G at *;obtain⟨n,k,e0⟩:=G;generalize b.length=L at *;simp only at G1 HB;go_enter func211,ntmps211
 go_wp2_with fail
 refine G1.out.mono ?_;clear G1;rintro e w1 ⟨rfl,k1⟩;have ai:=hid k1;clear k1;have hv:=HB.out;by_cases h0:e0=0
 ·subst h0
  rw[if_pos rfl]at hv;by_cases h1:most<n
  ·rw[if_pos (.inl h1)]at hv
   subst hv;have d1:(most:Int)<n:=by omega
   clear HB h1;go_wp2
   exact bodyPost_ret (v:=.tuple #[iv 0,iv 0,iv 3]) (by simp[results,results211]) rfl ⟨rfl,ai.out⟩
  ·have d1 : ¬ (most:Int)<n:=by omega
   by_cases h2:2147483647<n
   ·rw[if_pos (.inr h2)]at hv
    subst hv;have d2:decide ((2147483647:Int)<n)=true:=decide_eq_true (by omega);clear HB h1 h2;go_wp2
    exact bodyPost_ret (v:=.tuple #[iv 0,iv 0,iv 3]) (by simp[results,results211]) rfl ⟨rfl,ai.out⟩
   ·rw[if_neg (by omega)]at hv
    subst hv;have d2:decide ((2147483647:Int)<n)=false:=decide_eq_false (by omega);have hw:IntKind.i64.wrap (n:Int)=n:=IntWalk.i64_in _ (by omega);clear HB h1 h2;go_wp2
    exact bodyPost_ret (v:=.tuple #[iv n,iv k,iv 0]) (by simp[results,results211]) rfl ⟨rfl,ai.out⟩
 ·rw[if_neg h0]at hv
  subst hv;have d1:(e0 != 0)=true:=by rw[bne_iff_ne];exact h0
  clear HB;go_wp2
  exact bodyPost_ret (v:=.tuple #[iv 0,iv 0,iv e0]) (by simp[results,results211]) rfl ⟨rfl,ai.out⟩
theorem b1v (b:List UInt8) (most:Nat) (hm:(dR b most).2.2=0):(dR b most).1≤most∧(dR b most).1≤2147483647∧(dR b most).2.1≤b.length∧(dR b most).2.1≤9∧1≤(dR b most).2.1:=by
 unfold dR at hm ⊢
 split
 ·rename_i h0
  rw[if_pos h0]at hm
  split
  ·rename_i h1
   rw[if_pos h1]at hm;cases hm
  ·rename_i h1
   rcases hG:lK b with⟨n,k,e⟩
   rw[hG]at h0 h1;simp only at h0 h1;subst h0;obtain⟨q1,-,q3,-⟩:=b2h hG
   have:=Md n
   refine⟨?_,?_,?_,?_,?_⟩ <;> simp only <;> omega
 ·rename_i h0
  rw[if_neg h0]at hm;exact absurd hm h0
structure Gr (w:World) (v:Value) (w':World) (v':Value):Prop where
 g:w.grownBy w' v.ownBlock
 f:v'.ownBlock=v.ownBlock ∨ ∃ k,v'.ownBlock=some k∧w.heap.size≤k
theorem Gr.refl (w:World) (v:Value):Gr w v w v:=⟨World.grownBy.refl w _,.inl rfl⟩
theorem Gr.size {w w':World} {v v':Value} (h:Gr w v w' v'):w.heap.size≤w'.heap.size:=h.g.size
theorem Gr.trans {a b c:World} {u v x:Value} (h:Gr a u b v) (k:Gr b v c x):Gr a u c x :=
 ⟨h.g.andThen k.g fun j hj=>h.f.symm.imp (fun⟨m,e,hm⟩=>by rw[e]at hj;cases hj;exact hm) (fun e=>by rw[←e];exact hj),
  k.f.elim (fun e=>h.f.imp (fun q=>e.trans q) fun⟨m,q,hm⟩=>⟨m,e.trans q,hm⟩) fun⟨m,q,hm⟩ => .inr ⟨m,q,Nat.le_trans h.size hm⟩⟩
theorem Gr.oz {a b:World} (k:Keep a b) (u:Value):Gr a u b u:=⟨⟨k.os,k.tape,k.output,k.size,fun j hj _=>k.block j hj⟩,.inl rfl⟩
theorem Gr.keep {a b c:World} {u v:Value} (h:Gr a u b v) (k:Keep b c):Gr a u c v:=h.trans (Gr.oz k v)
theorem Gr.alloc {a b:World} {u v:Value} (h:Gr a u b v) (o:Obj):Gr a u (b.alloc o) v:=h.keep (aB _ _)
theorem Gr.app {a b c:World} {u v x:Value} (h:Gr a u b v) (hg:b.grownBy c v.ownBlock) (hat:x.ownBlock=v.ownBlock∨x.ownBlock=some b.heap.size):Gr a u c x :=
 h.trans ⟨hg,hat.imp id fun e=>⟨_,e,Nat.le_refl _⟩⟩
theorem Gr.below {a b:World} {u v:Value} {B:Nat} {e:TypeId} {size n:Nat} {xs:List Value} (h:Gr a u b v) (ho:a.ownsRow B e size u n xs) (hB:B≤a.heap.size):Below B a b:=by
 refine⟨h.g.os,h.g.tape,h.g.output,h.size,fun k hk=>h.g.block k (by omega) fun q=>?_⟩;rcases ho.2 with⟨rfl,_⟩ | ⟨g,cap,cur,rfl,hb,_⟩
 ·cases q
 ·have:k=g:=Option.some.inj q
  omega
theorem dQ.gr {a b:World} {u v:Value} {A:Option Addr} {xs:List Value} (h:dQ u.ownBlock a A xs) (k:Gr a u b v):dQ v.ownBlock b A xs:=by
 rcases h with h | ⟨g,off,rfl,hne,hc⟩
 ·exact .inl h
 ·by_cases hx:xs=[]
  ·exact .inl hx
  refine .inr ⟨g,off,rfl,?_,fun j hj=>k.g.cell (hc j hj) fun q=>hne q.symm⟩;have hlt:=cell_lt (hc 0 (List.length_pos_iff.2 hx));rcases k.f with q | ⟨m,q,hm⟩
  ·rw[q];exact hne
  ·rw[q];intro e;cases e;omega
theorem ae.gr {a b:World} {u v:Value} {g:Nat} {t:TypeId} {cs:List Value} (h:ae a g t cs) (k:Gr a u b v) (hne:u.ownBlock≠some g):ae b g t cs∧v.ownBlock≠some g :=
 ⟨h.grown k.g hne,by
  rcases k.f with q | ⟨m,q,hm⟩
  ·rw[q];exact hne
  ·rw[q];intro e;cases e;have:=h.lt;omega⟩
def aP (X:Nat→Prop) (w w':World):Prop:=w'.os=w.os∧w'.tape=w.tape∧w'.output=w.output∧w.heap.size≤w'.heap.size∧∀ k,k<w.heap.size → ¬ X k→w'.heap[k]?=w.heap[k]?
theorem aP.of {X:Nat→Prop} {a b:World} (h:Keep a b):aP X a b:=⟨h.os,h.tape,h.output,h.size,fun k hk _=>h.block k hk⟩
theorem aP.trans {X Y:Nat→Prop} {a b c:World} (h:aP X a b) (k:aP Y b c) (hY : ∀ j,j<a.heap.size→Y j→X j):aP X a c :=
 ⟨k.1.trans h.1,k.2.1.trans h.2.1,k.2.2.1.trans h.2.2.1,Nat.le_trans h.2.2.2.1 k.2.2.2.1,fun j hj hn=>(k.2.2.2.2 j (Nat.lt_of_lt_of_le hj h.2.2.2.1) (fun e=>hn (hY j hj e))).trans (h.2.2.2.2 j hj hn)⟩
theorem aP.grown {X:Nat→Prop} {a b c:World} {row:Option Nat} (h:aP X a b) (hg:b.grownBy c row) (hr : ∀ j,j<a.heap.size→row=some j→X j):aP X a c :=
 h.trans (Y:=fun j=>row=some j) ⟨hg.os,hg.tape,hg.output,hg.size,fun j hj hn=>hg.block j hj (fun e=>hn e.symm)⟩ hr
theorem aP.keep {X:Nat→Prop} {w0 a b:World} (h:aP X a b) (k:Keep w0 a) (hX : ∀ j,X j→w0.heap.size≤j):Keep w0 b :=
 ⟨h.1.trans k.os,h.2.1.trans k.tape,h.2.2.1.trans k.output,Nat.le_trans k.size h.2.2.2.1,fun j hj=>(h.2.2.2.2 j (Nat.lt_of_lt_of_le hj k.size) (fun e=>by have:=hX j e;omega)).trans (k.block j hj)⟩
theorem ae.kx {X:Nat→Prop} {a b:World} {g:Nat} {t:TypeId} {cs:List Value} (h:ae a g t cs) (k:aP X a b) (hn : ¬ X g):ae b g t cs:=(k.2.2.2.2 g h.lt hn).trans h
def rf (B:Nat) (v:Value) (n:Nat) (xs:List Value) (w:World) (e:Ending) (w':World):Prop:=∃ v',e = .returned v'∧w'.ownsRow B 5 1 v' n xs∧Gr w v w' v'
theorem a7h (B:Nat) (v:Value) (N:Nat) (xs:List Value) (n m:Nat) (w:World) (own:w.ownsRow B 5 1 v N xs) (hB:B≤w.heap.size) (hN:N≤1000000000) (hm:m≤8) :
  Calls prog 139 #[v,dA n,iv m] w (rf B v (N+m) (xs++(fG n m).map ah) w):=by
 have HB:=hid hB;have nP:Hid (w.ownsRow B 5 1 v (N+0) (xs++(fG n 0).map ah)):=hid (jm own (by omega) (by simp[Ld]));clear own hB;unfold rf;go_enter func139,ntmps139
 go_wp2_with fail
 go_loopw [0,9] (fun x c wr => ∃ k:Nat,k≤m∧c = .int .i64 k∧Hid (wr.ownsRow B 5 1 x (N+k) (xs++(fG n k).map ah))∧Hid (Gr w v wr x)) (fun _ c _=>m - (intOf c).toNat)
 case atStart=>exact⟨0,Nat.zero_le _,rfl,nP,hid (Gr.refl _ _)⟩
 case round =>
  obtain⟨k,hk,rfl,kD,Ry⟩:=hrel;by_cases hlt:k<m
  ·obtain⟨x,hx⟩ : ∃ x:UInt8,x=UInt8.ofNat (n/2^(8*k)):=⟨_,rfl⟩
   have hb:(n:Int)/2^(8*k)%256=(x.toNat:Int):=by
    rw[hx,UInt8.toNat_ofNat',Int.natCast_emod,Int.natCast_ediv,Int.natCast_pow];rfl
   have HN:=hid (Lc n k);rw[←hx]at HN;have d1:(k:Int)<m:=by omega
   clear hx nP;go_wp2_with (at_builtin;refine iF jU (by rfl) _ _ (by rfl) B _ _ _ (by rfl) (kD.out.alloc _) _ 1 1 [ah x] (by rfl) (by rfl) (Rd.new _ _ _) (by simp[Value.oneCell']) (by omega) (by unfold maxLen;omega) (by have:=Ry.out.size;have:=HB.out;simp;omega) ?_;intro v2 w2 a5E a3k a2L;have b0H:=hid a5E;have a7X:=hid ((Ry.out.alloc _).app a3k a2L);clear a5E a3k a2L)
   clear hb
   go_roundw
   case rel=>exact⟨k+1,by omega,by go_num,hid (jm b0H.out (by omega) (by rw[HN.out];simp)),a7X⟩
   case measure=>simp[intOf];omega
  ·obtain rfl:k=m:=by omega
   have d1 : ¬ (k:Int)<k:=by omega
   go_wp2
   exact bodyPost_ret (by simp[results,results139]) rfl ⟨_,rfl,kD.out,Ry.out⟩
theorem a6S (A:Option Addr) (b:List UInt8) (c m:Nat) (w:World) (hl:b.length≤4611686018427387904) (hm:m≤8) (hr:Rd w A (b.map ah)) :
  Calls prog 190 #[.slice A b.length c,iv m] w fun e w'=>e = .returned (.tuple #[dA (if b.length<m then 0 else fH b m),iv (if b.length<m then 1 else 0)])∧w=w':=by
 by_cases hlm:b.length<m
 ·rw[if_pos hlm,if_pos hlm]
  have d1:(b.length:Int)<m:=by omega
  go_enter func190,ntmps190
  go_wp2
  exact bodyPost_ret (v:=.tuple #[dA 0,iv 1]) (by simp[results,results190]) rfl ⟨rfl,rfl⟩
 rw[if_neg hlm,if_neg hlm];have d1 : ¬ (b.length:Int)<m:=by omega
 have HC:Hid (∀ k,k<m → ∃ g off,A=some ⟨g,off,none⟩∧w.cell? ⟨g,off+k,none⟩=some (ah (b.getD k 0))):=hid fun k hk=>by
  obtain⟨g,off,h1,h2,h3⟩:=hr.at (k:=k) (by simp;omega);refine⟨g,off,h1,?_⟩;rw[h3 k (by simp;omega)];simp[List.getD_eq_getElem?_getD,List.getElem?_eq_getElem (show k<b.length by omega)]
 have HN:Hid (∀ k,fH b k<2^(8*k)∧fH b (k+1)=fH b k+(b.getD k 0).toNat*2^(8*k)):=hid fun k=>⟨Gu b k,rfl⟩
 have kV:Hid (fH b 0=0):=hid rfl;clear hr;have c3z:m≤b.length:=by omega
 clear hlm;generalize b.length=L at *;obtain⟨nt,hnt⟩ : ∃ f,fH b=f:=⟨_,rfl⟩
 obtain⟨tt,htt⟩ : ∃ f:Nat→UInt8,(fun k=>b.getD k 0)=f:=⟨_,rfl⟩
 have Bg : ∀ k,b.getD k 0=tt k:=fun k=>by rw[←htt]
 rw[hnt]at HN kV ⊢;simp only[Bg]at HC HN;clear hnt htt Bg;go_enter func190,ntmps190
 go_wp2_with fail
 clear d1
 go_loopw [6,13] (fun v c wr => ∃ k:Nat,k≤m∧c = .int .i64 k∧v = .int .u64 (nt k:Nat)∧w=wr) (fun _ c _=>m - (intOf c).toNat)
 case atStart=>exact⟨0,Nat.zero_le _,rfl,by rw[kV.out];rfl,rfl⟩
 case round =>
  obtain⟨k,hk,rfl,rfl,rfl⟩:=hrel;by_cases hlt:k<m
  ·obtain⟨g,off,rfl,c0⟩:=HC.out k hlt
   obtain⟨h1,h2⟩:=HN.out k;have hy:=(tt k).toNat_lt;have hor:=u64_or (nt k) (tt k).toNat k (by omega) h1 (by omega);rw[←h2]at hor;have d1:(k:Int)<L:=by omega
   clear h1 h2;obtain⟨n1,hn1⟩ : ∃ n1,nt (k+1)=n1:=⟨_,rfl⟩
   rw[hn1]at hor;have lI:Hid (n1=nt (k+1)):=hid hn1.symm;clear hn1;generalize nt k=n0 at *;generalize tt k=y at *;go_wp2
   go_roundw
   case rel=>exact⟨k+1,by omega,by go_num,by rw[←lI.out],by first | rfl | trivial⟩
   case measure=>simp[intOf];omega
  ·obtain rfl:k=m:=by omega
   have d2 : ¬ (k:Int)<k:=by omega
   obtain⟨n,hn⟩ : ∃ n,nt k=n:=⟨_,rfl⟩
   rw[hn];have a8Y:=hid hn;clear HC HN kV hn;go_wp2
   exact bodyPost_ret (v:=.tuple #[dA n,iv 0]) (by simp[results,results190]) rfl ⟨by rw[←a8Y.out],rfl⟩
def b0V (B:Nat) (v:Value) (k:Nat):Prop:=k=B∨v.ownBlock=some k
structure je (B:Nat) (w:World) (v:Value) (w':World) (v':Value):Prop where
 k:aP (b0V B v) w w'
 f:v'.ownBlock=v.ownBlock ∨ ∃ k,v'.ownBlock=some k∧w.heap.size≤k
theorem je.refl (B:Nat) (w:World) (v:Value):je B w v w v:=⟨aP.of (Below.refl _ _),.inl rfl⟩
theorem je.size {B:Nat} {w w':World} {v v':Value} (h:je B w v w' v'):w.heap.size≤w'.heap.size:=h.k.2.2.2.1
theorem je.trans {B:Nat} {a b c:World} {u v x:Value} (h:je B a u b v) (k:je B b v c x):je B a u c x :=
 ⟨h.k.trans k.k fun j hj q=>q.imp id fun e=>by
  rcases h.f with q | ⟨m,q,hm⟩
  ·rw[←q];exact e
  ·rw[q]at e;cases e;omega,
  k.f.elim (fun e=>h.f.imp (fun q=>e.trans q) fun⟨m,q,hm⟩=>⟨m,e.trans q,hm⟩) fun⟨m,q,hm⟩ => .inr ⟨m,q,Nat.le_trans h.size hm⟩⟩
theorem je.oz {a b:World} (B:Nat) (k:Keep a b) (u:Value):je B a u b u:=⟨aP.of k,.inl rfl⟩
theorem je.b7G {B:Nat} {a b:World} {u v:Value} (h:Gr a u b v):je B a u b v :=
 ⟨⟨h.g.os,h.g.tape,h.g.output,h.g.size,fun j hj hn=>h.g.block j hj fun e=>hn (.inr e.symm)⟩,h.f⟩
theorem je.set {B:Nat} {a b:World} {u v:Value} (h:je B a u b v) (o:Nat) (x:Value):je B a u (b.setCell ⟨B,o,none⟩ x) v :=
 ⟨h.k.grown (⟨rfl,rfl,rfl,by simp,fun k hk hne=>Below.heap_setCell b ⟨B,o,none⟩ x k (fun e=>hne (by rw[e]))⟩) fun j hj q => .inl (Option.some.inj q).symm,h.f⟩
theorem je.keep {B:Nat} {a b c:World} {u v:Value} (h:je B a u b v) (k:Keep b c):je B a u c v:=h.trans (je.oz B k v)
theorem je.below {B D:Nat} {a b:World} {u v:Value} {e:TypeId} {size n:Nat} {xs:List Value} (h:je B a u b v) (ho:a.ownsRow D e size u n xs) (hB:D≤a.heap.size) (Pg:B<D):Below B a b:=by
 refine⟨h.k.1,h.k.2.1,h.k.2.2.1,h.k.2.2.2.1,fun k hk=>h.k.2.2.2.2 k (by omega) ?_⟩;rintro (q | q)
 ·omega
 ·have:=(ho.lt k q).1;omega
def Q3 (B D:Nat) (v:Value) (n:Nat) (xs:List Value) (w:World) (e:Ending) (w':World):Prop:=e = .returned (.tuple #[])∧∃ v',ae w' B 32 [v']∧w'.ownsRow D 5 1 v' n xs∧je B w v w' v'
theorem c0n (B D:Nat) (v:Value) (N:Nat) (xs:List Value) (n m:Nat) (w:World) (hb:ae w B 32 [v]) (own:w.ownsRow D 5 1 v N xs) (Pg:B<D) (hD:D≤w.heap.size) (hN:N≤1000000000) (hm:m≤8) :
  Calls prog 178 #[dA n,iv m,.pointer (some ⟨B,0,none⟩)] w (Q3 B D v (N+m) (xs++(fG n m).map ah) w):=by
 have nP:Hid (w.ownsRow D 5 1 v (N+0) (xs++(fG n 0).map ah)):=hid (jm own (by omega) (by simp[Ld]));have HB0:=hid hb;clear own hb;unfold Q3;go_enter func178,ntmps178
 go_wp2_with fail
 go_loopw [7] (fun c wr => ∃ (k:Nat) (x:Value),k≤m∧c = .int .i64 k∧Hid (ae wr B 32 [x])∧Hid (wr.ownsRow D 5 1 x (N+k) (xs++(fG n k).map ah))∧Hid (je B w v wr x)) (fun c _=>m - (intOf c).toNat)
 case atStart=>exact⟨0,v,Nat.zero_le _,rfl,HB0,nP,hid (je.refl _ _ _)⟩
 case round =>
  obtain⟨k,xv,hk,rfl,HB1,kD,Rz⟩:=hrel;by_cases hlt:k<m
  ·obtain⟨x,hx⟩ : ∃ x:UInt8,x=UInt8.ofNat (n/2^(8*k)):=⟨_,rfl⟩
   have hbx:(n:Int)/2^(8*k)%256=(x.toNat:Int):=by
    rw[hx,UInt8.toNat_ofNat',Int.natCast_emod,Int.natCast_ediv,Int.natCast_pow];rfl
   have HN:=hid (Lc n k);rw[←hx]at HN;have d1:(k:Int)<m:=by omega
   obtain⟨Av,cv,rfl,-,-,-⟩:=dD kD.out;clear hx nP HB0;go_upto_region 3 with fail
   letI jc:G.Mk:=⟨(Value.slice Av (N+k) cv).ownBlock⟩
   refine G.bu (.take [0,1,2,3,4,5] (.force [6,7] .done)) [8] (by kernel_rfl) (by kernel_rfl) (fun w8 k8=>?_);have gq:=hid (HB1.out.keep k8);have Ud:=hid (jM kD.out k8);have RD:=hid (Rz.out.keep k8)
   clear k8 HB1 kD Rz;have hs8:=RD.out.size;have KA:G.Mk.m≠some B:=fun q=>by have:=(Ud.out.lt B q).1;omega
   have b1:=G.ja (gq.out.cell 0) KA;refine G.aN w8 (G.Gr.refl _) ?_;simp only[au,ax,ak,aj];repeat(go_big_quiet_step (fail))
   refine wpQuiet_nil (G.bI ?_);clear b1 KA;simp only[au,ax,ak,aj];refine G.aI rfl (fun K hK=>?_);go_simp;refine hK _ _ (G.Gr.oz (aB _ _)) ?_;clear hK K;obtain⟨w9,iD,-,k9,-⟩:=mW w8 5 [ah x];replace k9:=k9.out;have tZ:Hid (Rd w9 (some ⟨w8.heap.size,0,none⟩) [ah x]):=by rw[iD];exact hid (Rd.new w8 [ah x] 5)
   rw[←iD];have eY:=hid (gq.out.keep k9);have OA:=hid (jM Ud.out k9);have RF:=hid (RD.out.keep k9)
   clear iD k9 gq Ud RD;refine G.aI rfl (fun K hK=>?_);refine Es jU _ _ (by rfl) D _ (N+k) _ (by rfl) OA.out _ 1 1 [ah x] (by rfl) (by rfl) tZ.out (by simp[Value.oneCell']) (by omega) (by unfold maxLen;omega) (by have:=RF.out.size;omega) ?_;intro v' w10 pz kQ rJ;refine hK _ _ kQ ?_;clear hK K tZ;simp only[Act.put,Array.set!_eq_setIfInBounds,List.setIfInBounds_toArray,List.set_cons_succ,List.set_cons_zero];have rZ:=hid (eY.out.grown kQ (fun q=>by have:=(OA.out.lt B q).1;omega));have a7Y:=hid (RF.out.trans (je.b7G ⟨kQ,rJ.imp id fun e=>⟨_,e,Nat.le_refl _⟩⟩));have a0G:=hid pz;clear pz kQ rJ eY RF OA;refine G.aS (G.aT ?_);clear jc hbx;have f1:w10.frozen? ⟨B,0,none⟩=false:=rZ.out.frozen 0;have c1:w10.cell? ⟨B,0,none⟩=some (.slice Av (N+k) cv):=rZ.out.cell 0;obtain⟨c2c,cw,rfl,-,-,-⟩:=dD a0G.out;go_wp2
   go_roundw
   case rel=>exact⟨k+1,_,by omega,by go_num,hid (rZ.out.az 0 _),hid (jm (ownsRow_setCell_below a0G.out (a:=⟨B,0,none⟩) Pg _) (by omega) (by rw[HN.out];simp)),hid (a7Y.out.set 0 _)⟩
   case measure=>simp[intOf];omega
  ·obtain rfl:k=m:=by omega
   have d1 : ¬ (k:Int)<k:=by omega
   go_wp2
   go_end0
   exact⟨rfl,xv,HB1.out,kD.out,Rz.out⟩
theorem a4G {P:Program} {t e:TypeId} {zc:Array Value} {size bytes:Nat} (T:dL P t e (.agg zc) size bytes) {ops:Array Oper} {rest:List Oper} {a:Act} {w:World} {Q:Exit→Act→World→Prop} {x:Operand} {dst:Option Tmp} {ty':TypeId} {pos:String} {eG:Array Edge}
  (cs:Array Value) (hz:cs.size=size) (hsm:size≤1000) (hx:a.eval x = .agg cs)
  (h:wpList P ops Q rest (a.put dst (.slice (some ⟨w.heap.size,0,none⟩) 1 1)) (w.alloc (.cells cs e))):wpList P ops Q ({ dst:=dst,op:=.buildSlice t 1 #[(0,x)],type:=ty',pos:=pos,after:=eG,guard:=none}::rest) a w :=
 wpList_plain rfl fun _ hK=>Ha T x rfl cs hz hsm hx (hK _ _ h)
def hsL (l:List (List UInt8)):List Value:=l.flatMap fun h=>h.map ah
theorem La {P:Program} {w:World} {ops:Array Oper} {rest:List Oper} {a:Act} {Q:Exit→Act→World→Prop} {parts:Array (Nat × Operand)} {dst:Option Tmp} {t ty':TypeId} {pos:String} {eG:Array Edge} {gd:Option (Nat × Bool)}
  (ps:List (Nat × Value)) (cells:Array Value) (hx:(parts.toList.map fun p=>(p.1,a.eval p.2))=ps) (hb:P.built t ps=some cells)
  (hw:Region.wanted { dst:=dst,op:=.build t parts,type:=ty',pos:=pos,after:=eG,guard:=gd} (yielded ops a.tmps)=true)
  (h:wpList P ops Q rest (a.put dst (.agg cells)) w):wpList P ops Q ({ dst:=dst,op:=.build t parts,type:=ty',pos:=pos,after:=eG,guard:=gd}::rest) a w:=by
 unfold wpList;rw[if_pos hw]
 left
 exact wp_build t parts rfl (by rw[show(parts.map fun(i,x)=>(i,a.eval x)).toList=ps by rw[Array.toList_map];exact hx,hb];rfl) (by rw[show(parts.map fun(i,x)=>(i,a.eval x)).toList=ps by rw[Array.toList_map];exact hx,hb];exact h)
structure jA where
 prev:List UInt8
 ix:UInt32
 A:Option Addr
 sc:List UInt8
 cap:Nat
 seq:UInt32
structure mV where
 val:Nat
 A:Option Addr
 sc:List UInt8
 cap:Nat
structure lg where
 bz:UInt32
 iA:Option Addr
 ins:List jA
 ic:Nat
 oA:Option Addr
 outs:List mV
 oc:Nat
 lock:UInt32
def jA.cells (x:jA):List Value:=x.prev.map ah++[ag x.ix,.slice x.A x.sc.length x.cap,ag x.seq]
def mV.cells (x:mV):List Value:=[dA x.val,.slice x.A x.sc.length x.cap]
def lg.cells (t:lg):List Value:=[ag t.bz,.slice t.iA t.ins.length t.ic,.slice t.oA t.outs.length t.oc,ag t.lock]
structure jA.at (x:jA) (w:World):Prop where
 p:x.prev.length=32
 c:x.sc.length≤x.cap∧x.cap≤maxLen
 r:Rd w x.A (x.sc.map ah)
structure mV.at (x:mV) (w:World):Prop where
 v:x.val<2^64
 c:x.sc.length≤x.cap∧x.cap≤maxLen
 r:Rd w x.A (x.sc.map ah)
structure lg.at (t:lg) (w:World):Prop where
 i:Rd w t.iA (t.ins.flatMap jA.cells)
 o:Rd w t.oA (t.outs.flatMap mV.cells)
 ic:t.ins.length≤t.ic∧t.ic≤maxLen
 oc:t.outs.length≤t.oc∧t.oc≤maxLen
 is : ∀ x∈t.ins,x.at w
 os : ∀ x∈t.outs,x.at w
theorem jA.at.keep {x:jA} {w w':World} (h:x.at w) (k:Keep w w'):x.at w':=⟨h.p,h.c,h.r.keep k⟩
theorem mV.at.keep {x:mV} {w w':World} (h:x.at w) (k:Keep w w'):x.at w':=⟨h.v,h.c,h.r.keep k⟩
theorem lg.at.keep {t:lg} {w w':World} (h:t.at w) (k:Keep w w'):t.at w':=⟨h.i.keep k,h.o.keep k,h.ic,h.oc,fun x hx=>(h.is x hx).keep k,fun x hx=>(h.os x hx).keep k⟩
theorem jA.len {x:jA} (h:x.prev.length=32):x.cells.length=35:=by simp[jA.cells,h]
theorem jA.one (x:jA) : ∀ u∈x.cells,u.oneCell'=true:=by
 intro u hu;rcases List.mem_append.1 hu with hu | hu
 ·obtain⟨y,_,rfl⟩:=List.mem_map.1 hu;rfl
 ·simp at hu;rcases hu with rfl | rfl | rfl <;> rfl
theorem b5Y:(prog.info? 309).map (·.size)=some 35:=by kernel_rfl
structure a0h (x:jA) (cs:Array Value):Prop where
 l:cs.toList=x.cells
 z:cs.size=35
 i:(prog.info? 309).map (·.size)=some cs.size
 n : ¬ cs = #[]
 o : ∀ v∈cs.toList,v.oneCell'=true
theorem a0h.of {x:jA} (h:x.prev.length=32):a0h x x.cells.toArray:=by
 have hz:x.cells.toArray.size=35:=by simpa using jA.len h
 exact⟨rfl,hz,by rw[hz];exact b5Y,fun e=>by rw[e]at hz;simp at hz,by simpa using x.one⟩
def b86 (t:lg):Bool:=decide (1≤t.ins.length∧t.ins.length≤1000∧t.outs.length≤1000∧(∀ x∈t.ins,x.sc.length≤10000)∧∀ x∈t.outs,x.sc.length≤10000)
def a6m (s:List UInt8):List UInt8:=mi s.length++s
def b5X (x:jA):List UInt8:=x.prev++(fG x.ix.toNat 4++(a6m x.sc++fG x.seq.toNat 4))
def b7X (x:mV):List UInt8:=fG x.val 8++a6m x.sc
def c0r (t:lg):List UInt8:=fG t.bz.toNat 4++(mi t.ins.length++(t.ins.flatMap b5X++(mi t.outs.length++(t.outs.flatMap b7X++fG t.lock.toNat 4))))
structure Bst (B D:Nat) (w0 w:World) (v:Value) (l:List UInt8):Prop where
 b:ae w B 32 [v]
 o:w.ownsRow D 5 1 v l.length (l.map ah)
 g:je B w0 (.slice none 0 0) w v
theorem Bst.kx {B D:Nat} {w0 w:World} {v:Value} {l:List UInt8} (h:Bst B D w0 w v l):aP (fun k=>k=B) w0 w :=
 ⟨h.g.k.1,h.g.k.2.1,h.g.k.2.2.1,h.g.k.2.2.2.1,fun k hk hn=>h.g.k.2.2.2.2 k hk (by rintro (q | q);exact hn q;cases q)⟩
theorem Bst.size {B D:Nat} {w0 w:World} {v:Value} {l:List UInt8} (h:Bst B D w0 w v l):w0.heap.size≤w.heap.size:=h.g.size
theorem Bst.cell {B D:Nat} {w0 w:World} {v:Value} {l:List UInt8} (h:Bst B D w0 w v l) {g o:Nat} {u:Value} (hc:w0.cell? ⟨g,o,none⟩=some u) (hn:g≠B):w.cell? ⟨g,o,none⟩=some u:=by
 have hb:=h.kx.2.2.2.2 g (cell_lt hc) hn;rw[←hc];unfold World.cell?;simp only[hb]
theorem Bst.keep {B D:Nat} {w0 w w':World} {v:Value} {l:List UInt8} (h:Bst B D w0 w v l) (k:Keep w w'):Bst B D w0 w' v l:=⟨h.b.keep k,jM h.o k,h.g.keep k⟩
theorem Bst.of {B D:Nat} {w0 w w':World} {v:Value} {l m:List UInt8} {n:Nat} {xs:List Value} (h:Bst B D w0 w v l) {e:Ending} (hx:Q3 B D v n xs w e w') (hn:n=(l++m).length) (he:xs=(l++m).map ah) :
  e = .returned (.tuple #[])∧∃ v',Bst B D w0 w' v' (l++m)∧je B w v w' v':=by
 obtain⟨h1,v',h2,h3,h4⟩:=hx;exact⟨h1,v',⟨h2,jm h3 hn he,h.g.trans h4⟩,h4⟩
theorem Bst.num {B D:Nat} {w0 w:World} {v:Value} {l:List UInt8} (h:Bst B D w0 w v l) (n m:Nat) (Pg:B<D) (hD:D≤w0.heap.size) (hl:l.length≤1000000000) (hm:m≤8) :
  Calls prog 178 #[dA n,iv m,.pointer (some ⟨B,0,none⟩)] w fun e w'=>e = .returned (.tuple #[])∧∃ v',Bst B D w0 w' v' (l++fG n m)∧je B w v w' v' :=
 (c0n B D v _ _ n m w h.b h.o Pg (Nat.le_trans hD h.size) hl hm).mono fun e w' hx=>h.of hx (by rw[List.length_append,Gm]) (by rw[List.map_append])
abbrev SP:=Nat × Int
def uP (b:List UInt8) (m:Nat) (p:SP):SP:=if p.2=0 then if p.1+m≤b.length then(p.1+m,0)else(p.1,1)else p
def Xr (b:List UInt8) (m:Nat) (p:SP):List UInt8:=if p.2=0∧p.1+m≤b.length then(b.drop p.1).take m else[]
def Lu (b:List UInt8) (m:Nat) (p:SP):Nat:=fH (Xr b m p) (Xr b m p).length
def a1u (b:List UInt8) (most:Nat) (p:SP):SP:=if p.2=0 then(p.1+(dR (b.drop p.1) most).2.1,(dR (b.drop p.1) most).2.2)else p
def UQ (b:List UInt8) (most:Nat) (p:SP):Nat:=if p.2=0 then(dR (b.drop p.1) most).1 else 0
def Xh (b:List UInt8) (p:SP):SP:=if p.2=0 then(p.1+(FO (b.drop p.1) 10000).2.1,(FO (b.drop p.1) 10000).2.2)else p
def a6n (b:List UInt8) (p:SP):List UInt8:=if p.2=0 then(FO (b.drop p.1) 10000).1 else[]
abbrev uk (S:Nat) (w w':World):Prop:=aP (fun k=>k=S) w w'
theorem uk.set {S:Nat} {w w':World} (h:uk S w w') (o:Nat) (x:Value):uk S w (w'.setCell ⟨S,o,none⟩ x) :=
 h.grown (row:=some S) ⟨rfl,rfl,rfl,by simp,fun k hk hne=>Below.heap_setCell w' ⟨S,o,none⟩ x k (fun e=>hne (by rw[e]))⟩ fun j hj q=>(Option.some.inj q).symm
theorem dQ.kb {S:Nat} {w w':World} {A:Option Addr} {xs:List Value} (h:dQ (some S) w A xs) (k:uk S w w'):dQ (some S) w' A xs :=
 h.imp id fun⟨g,off,h1,h2,h3⟩=>⟨g,off,h1,h2,fun j hj=>by
  have hb:=k.2.2.2.2 g (cell_lt (h3 j hj)) (fun e=>h2 (by rw[e]))
  rw[←h3 j hj];unfold World.cell?;simp only[hb]⟩
def b76 (l:List UInt8):List UInt8:=l++z32.drop l.length
def VY (b:List UInt8) (p:SP):jA × SP :=
 (⟨b76 (Xr b 32 p),UInt32.ofNat (Lu b 4 (uP b 32 p)),none,a6n b (uP b 4 (uP b 32 p)),0,UInt32.ofNat (Lu b 4 (Xh b (uP b 4 (uP b 32 p))))⟩,uP b 4 (Xh b (uP b 4 (uP b 32 p))))
def WM (b:List UInt8) (p:SP):mV × SP:=(⟨Lu b 8 p,none,a6n b (uP b 8 p),0⟩,Xh b (uP b 8 p))
def VZ (b:List UInt8):Nat→SP→List jA × SP
 | 0,p=>([],p)
 | n+1,p=>if p.2=0 then((VY b p).1::(VZ b n (VY b p).2).1,(VZ b n (VY b p).2).2)else([],p)
def WO (b:List UInt8):Nat→SP→List mV × SP
 | 0,p=>([],p)
 | n+1,p=>if p.2=0 then((WM b p).1::(WO b n (WM b p).2).1,(WO b n (WM b p).2).2)else([],p)
def b2F (n:Nat) (p:SP):SP:=if p.2=0∧n=0 then(p.1,2)else p
def QE (b:List UInt8):lg × SP :=
 let p1:=uP b 4 (0,0)
 let p3:=b2F (UQ b 1000 p1) (a1u b 1000 p1)
 let r:=VZ b (UQ b 1000 p1) p3
 let q:=WO b (UQ b 1000 r.2) (a1u b 1000 r.2)
 (⟨UInt32.ofNat (Lu b 4 (0,0)),none,r.1,0,none,q.1,0,UInt32.ofNat (Lu b 4 q.2)⟩,uP b 4 q.2)
def a6X:lg:=⟨0,none,[],0,none,[],0,0⟩
def Xo (b:List UInt8):lg × Nat × Int:=if(QE b).2.2=0 then((QE b).1,(QE b).2.1,0)else(a6X,0,(QE b).2.2)
def jA.pl (x:jA):jA:={ x with A:=none,cap:=0}
def mV.pl (x:mV):mV:={ x with A:=none,cap:=0}
def lg.pl (t:lg):lg:=⟨t.bz,none,t.ins.map jA.pl,0,none,t.outs.map mV.pl,0,t.lock⟩
def vU (X:Nat→Prop) (w:World) (A:Option Addr) (xs:List Value):Prop:=xs=[] ∨ ∃ b off,A=some ⟨b,off,none⟩∧¬ X b∧∀ j (h:j<xs.length),w.cell? ⟨b,off+j,none⟩=some xs[j]
theorem vU.rd {X:Nat→Prop} {w:World} {A:Option Addr} {xs:List Value} (h:vU X w A xs):Rd w A xs:=h.imp id fun⟨b,off,h1,_,h3⟩=>⟨b,off,h1,h3⟩
theorem aP.cell {X:Nat→Prop} {w w':World} (k:aP X w w') {g o:Nat} {v:Value} (h:w.cell? ⟨g,o,none⟩=some v) (hn : ¬ X g):w'.cell? ⟨g,o,none⟩=some v:=by
 have hb:=k.2.2.2.2 g (cell_lt h) hn;rw[←h];unfold World.cell?;simp only[hb]
theorem vU.kx {X X' Y:Nat→Prop} {w w':World} {A:Option Addr} {xs:List Value} (h:vU X w A xs) (k:aP Y w w') (hY : ∀ g,g<w.heap.size→Y g→X g) (hX : ∀ g,g<w.heap.size→X' g→X g):vU X' w' A xs:=by
 rcases h with h | ⟨g,off,h1,h2,h3⟩
 ·exact .inl h
 ·by_cases hx:xs=[]
  ·exact .inl hx
  have hlt:=cell_lt (h3 0 (List.length_pos_iff.2 hx));exact .inr ⟨g,off,h1,fun q=>h2 (hX g hlt q),fun j hj=>k.cell (h3 j hj) fun q=>h2 (hY g hlt q)⟩
theorem vU.a5k {X:Nat→Prop} {w:World} {base:Nat} {e:TypeId} {n c:Nat} {A:Option Addr} {xs:List Value} (h:w.ownsRow base e 1 (.slice A n c) n xs) (hX : ∀ g,base≤g → ¬ X g):vU X w A xs:=by
 rcases wV h with q | ⟨b,off,rfl,hc⟩
 ·exact .inl q
 ·exact .inr ⟨b,off,rfl,hX b (h.lt b rfl).1,hc⟩
theorem Qg {X:Nat→Prop} {w w':World} {base:Nat} {e:TypeId} {size:Nat} {v:Value} {n:Nat} {xs:List Value} (h:w.ownsRow base e size v n xs) (k:aP X w w') (hX : ∀ g,v.ownBlock=some g → ¬ X g):w'.ownsRow base e size v n xs:=by
 refine⟨h.1,h.2.imp id fun⟨g,cap,cur,h1,h2,h3,rest⟩=>⟨g,cap,cur,h1,h2,?_,rest⟩⟩;rw[k.2.2.2.2 g (Array.getElem?_eq_some_iff.1 h3).1 (hX g (by rw[h1];rfl))];exact h3
def BL (S T D:Nat) (vi vo:Value) (k:Nat):Prop:=k=S∨k=T∨vi.ownBlock=some k∨vo.ownBlock=some k∨k<D
theorem vU.mid {w0 w W:World} {A:Option Addr} {xs:List Value} (h:vU (fun k=>k<w0.heap.size) w A xs) (hm:lY (fun _=>True) w0 w W):Rd W A xs:=by
 rcases h with h | ⟨b,off,rfl,hb,hc⟩
 ·exact .inl h
 ·exact Rd.mid (.inr ⟨b,off,rfl,hc⟩) (by omega) hm
structure pI (S T D:Nat) (w0 w:World) (src:List Value) (bz:UInt32) (vi:Value) (ds:List jA) (vo:Value) (es:List mV):Prop where
 hs:ae w S 357 src
 ht:ae w T 116 [ag bz,vi,vo,.int .u32 0]
 oi:w.ownsRow D 309 35 vi ds.length (ds.flatMap jA.cells)
 oo:w.ownsRow D 311 2 vo es.length (es.flatMap mV.cells)
 ne : ∀ g,vi.ownBlock=some g→vo.ownBlock≠some g
 is : ∀ x∈ds,x.prev.length=32∧(x.sc.length≤x.cap∧x.cap≤maxLen)∧vU (BL S T D vi vo) w x.A (x.sc.map ah)
 os : ∀ x∈es,x.val<2^64∧(x.sc.length≤x.cap∧x.cap≤maxLen)∧vU (BL S T D vi vo) w x.A (x.sc.map ah)
 kx:aP (fun k=>k=S∨k=T) w0 w
 st:S≠T∧S<D∧T<D∧D=w0.heap.size
section
variable {S T D:Nat} {w0 w w':World} {src src':List Value} {bz:UInt32} {vi vo:Value} {ds:List jA} {es:List mV}
theorem pI.size (h:pI S T D w0 w src bz vi ds vo es):w0.heap.size≤w.heap.size:=h.kx.2.2.2.1
theorem pI.iS (h:pI S T D w0 w src bz vi ds vo es) : ∀ g,vi.ownBlock=some g→D≤g∧g<w.heap.size:=fun g q=>h.oi.lt g q
theorem pI.oS (h:pI S T D w0 w src bz vi ds vo es) : ∀ g,vo.ownBlock=some g→D≤g∧g<w.heap.size:=fun g q=>h.oo.lt g q
theorem pI.read (h:pI S T D w0 w src bz vi ds vo es) (hb:ae w' S 357 src') (k:uk S w w'):pI S T D w0 w' src' bz vi ds vo es :=
 ⟨hb,h.ht.kx k (fun e=>h.st.1 e.symm),Qg h.oi k (fun g q e=>by have:=(h.iS g q).1;have:=h.st.2.1;omega),Qg h.oo k (fun g q e=>by have:=(h.oS g q).1;have:=h.st.2.1;omega),h.ne,
  fun x hx=>⟨(h.is x hx).1,(h.is x hx).2.1,(h.is x hx).2.2.kx k (fun g _ q => .inl q) fun g _ q=>q⟩,fun x hx=>⟨(h.os x hx).1,(h.os x hx).2.1,(h.os x hx).2.2.kx k (fun g _ q => .inl q) fun g _ q=>q⟩,
  h.kx.trans k (fun _ _ q => .inl q),h.st⟩
theorem pI.keep (h:pI S T D w0 w src bz vi ds vo es) (k:Keep w w'):pI S T D w0 w' src bz vi ds vo es:=h.read (h.hs.keep k) (aP.of k)
theorem pI.far (h:pI S T D w0 w src bz vi ds vo es) {g o:Nat} {v:Value} (hc:w0.cell? ⟨g,o,none⟩=some v) (h1:g≠S) (h2:g≠T):w.cell? ⟨g,o,none⟩=some v :=
 h.kx.cell hc (by rintro (q | q);exact h1 q;exact h2 q)
end
theorem uk.gr {S:Nat} {w w':World} (k:uk S w w'):w.grownBy w' (some S):=⟨k.1,k.2.1,k.2.2.1,k.2.2.2.1,fun j hj hn=>k.2.2.2.2 j hj fun e=>hn (by rw[e])⟩
theorem uk.new {S g:Nat} {w w1 w2:World} (h:uk S w w1) (hg:w1.grownBy w2 (some g)) (hn:w.heap.size≤g):uk S w w2 :=
 aP.grown h hg fun j hj q=>by cases q;omega
theorem uk.blk {S g:Nat} {w w':World} {t:TypeId} {cs:List Value} (k:uk S w w') (h:ae w g t cs) (hn:g≠S):ae w' g t cs:=h.kx k hn
theorem pI.tx {S T D r:Nat} {w0 w w':World} {src:List Value} {bz lock:UInt32} {iA oA:Option Addr} {ic oc:Nat} {ds:List jA} {es:List mV} (h:pI S T D w0 w src bz (.slice iA ds.length ic) ds (.slice oA es.length oc) es)
  (hz:ae w r 116 [.int .u32 0,.slice none 0 0,.slice none 0 0,.int .u32 0]) (hr:r<D) (k:aP (fun k=>k=T∨k=r) w w') (hi:ds.length≤ic∧ic≤maxLen) (ho:es.length≤oc∧oc≤maxLen) :
  lg.at ⟨bz,iA,ds,ic,oA,es,oc,lock⟩ w'∧∀ W,lY (fun _=>True) w0 w' W→lg.at ⟨bz,iA,ds,ic,oA,es,oc,lock⟩ W:=by
 have o1:=Qg h.oi k (fun g q e=>by have:=(h.iS g q).1;have:=h.st.2.2.1;omega);have o2:=Qg h.oo k (fun g q e=>by have:=(h.oS g q).1;have:=h.st.2.2.1;omega);have hY : ∀ g,g<w.heap.size→(g=T∨g=r)→BL S T D (.slice iA ds.length ic) (.slice oA es.length oc) g:=fun g _ q=>q.elim (fun q => .inr (.inl q)) (fun q => .inr (.inr (.inr (.inr (by omega)))));have hX : ∀ g,g<w.heap.size→g<w0.heap.size→BL S T D (.slice iA ds.length ic) (.slice oA es.length oc) g:=fun g _ q => .inr (.inr (.inr (.inr (by have:=h.st.2.2.2;omega))))
 have hM : ∀ W,lY (fun _=>True) w0 w' W→lg.at ⟨bz,iA,ds,ic,oA,es,oc,lock⟩ W:=fun W hm =>
  ⟨WS o1 (by have:=h.st.2.2.2;omega) hm,WS o2 (by have:=h.st.2.2.2;omega) hm,hi,ho,fun x hx=>⟨(h.is x hx).1,(h.is x hx).2.1,((h.is x hx).2.2.kx k hY hX).mid hm⟩,fun x hx=>⟨(h.os x hx).1,(h.os x hx).2.1,((h.os x hx).2.2.kx k hY hX).mid hm⟩⟩
 exact⟨hM w' ⟨trivial,fun _ _ _=>rfl⟩,hM⟩
theorem rU {P:Program} {fn:Func} {p u v:Tmp} {ty:TypeId} (h:fn.results = #[.cell p ty,.tmp u,.tmp v]) (tmps:Array Value) (w:World) (g:Nat) (t:TypeId) (cs:Array Value) (fr:Nat × Nat) (d:TypeDesc)
  (hp:tmps.getD p undef = .pointer (some ⟨g,0,none⟩)) (hg:w.heap[g]?=some (.cells cs t fr)) (hu:P.underlying ty=some d) (hd:(match d with | .struct _ | .array _ _=>true | _=>false)=true) (hi:(P.info? ty).map (·.size)=some cs.size) :
  (results fn tmps).run P w = .ok (.tuple #[.agg cs,tmps.getD u undef,tmps.getD v undef]) w:=by
 have hp':tmps[p]?.getD undef = .pointer (some ⟨g,0,none⟩):=by simpa using hp
 simp[results,h,hp',asAddr,run_loadVar_row w g t ty cs fr d hg hu hd hi]
theorem aP.wide {X Y:Nat→Prop} {a b:World} (h:aP X a b) (hY : ∀ k,X k→Y k):aP Y a b:=⟨h.1,h.2.1,h.2.2.1,h.2.2.2.1,fun k hk hn=>h.2.2.2.2 k hk fun q=>hn (hY k q)⟩
def jB (k:Int):List UInt8 :=
 if k=0 then[118,101,114,115,105,111,110]else if k=1 then[118,101,114,97,99,107]else if k=2 then[112,105,110,103]else if k=3 then[112,111,110,103]else if k=4 then[103,101,116,104,101,97,100,101,114,115]else if k=5 then[104,101,97,100,101,114,115]else if k=6 then[105,110,118]else if k=7 then[103,101,116,100,97,116,97]else if k=8 then[110,111,116,102,111,117,110,100]else if k=9 then[109,101,114,107,108,101,98,108,111,99,107]else if k=10 then[116,120]else[]
def yt (s:List UInt8):Nat→Nat→Nat × Bool
 | 0,_=>(0,false)
 | f+1,k=>if jB k=s then(k,true)else yt s f (k+1)
def qg (s:List UInt8):Nat × Bool:=yt s 11 0
theorem b7l {k:Int} (h : ¬ (0≤k∧k<11)):jB k=[]:=by
 unfold jB;repeat rw[if_neg (by omega)]
theorem name_any (k:Int) (w:World):Calls prog 59 #[.int .i64 k] w fun e w'=>e = .returned (.string (str (jB k)))∧Keep w w':=by
 by_cases h0:k=0
 ·subst h0
  go_enter func59,ntmps59
  go_wp2
  exact bodyPost_ret (v:=.string (str (jB 0))) (by simp[results,results59];rfl) rfl ⟨rfl,Below.refl _ _⟩
 by_cases h1:k=1
 ·subst h1
  go_enter func59,ntmps59
  go_wp2
  exact bodyPost_ret (v:=.string (str (jB 1))) (by simp[results,results59];rfl) rfl ⟨rfl,Below.refl _ _⟩
 by_cases h2:k=2
 ·subst h2
  go_enter func59,ntmps59
  go_wp2
  exact bodyPost_ret (v:=.string (str (jB 2))) (by simp[results,results59];rfl) rfl ⟨rfl,Below.refl _ _⟩
 by_cases h3:k=3
 ·subst h3
  go_enter func59,ntmps59
  go_wp2
  exact bodyPost_ret (v:=.string (str (jB 3))) (by simp[results,results59];rfl) rfl ⟨rfl,Below.refl _ _⟩
 by_cases h4:k=4
 ·subst h4
  go_enter func59,ntmps59
  go_wp2
  exact bodyPost_ret (v:=.string (str (jB 4))) (by simp[results,results59];rfl) rfl ⟨rfl,Below.refl _ _⟩
 by_cases h5:k=5
 ·subst h5
  go_enter func59,ntmps59
  go_wp2
  exact bodyPost_ret (v:=.string (str (jB 5))) (by simp[results,results59];rfl) rfl ⟨rfl,Below.refl _ _⟩
 by_cases h6:k=6
 ·subst h6
  go_enter func59,ntmps59
  go_wp2
  exact bodyPost_ret (v:=.string (str (jB 6))) (by simp[results,results59];rfl) rfl ⟨rfl,Below.refl _ _⟩
 by_cases h7:k=7
 ·subst h7
  go_enter func59,ntmps59
  go_wp2
  exact bodyPost_ret (v:=.string (str (jB 7))) (by simp[results,results59];rfl) rfl ⟨rfl,Below.refl _ _⟩
 by_cases h8:k=8
 ·subst h8
  go_enter func59,ntmps59
  go_wp2
  exact bodyPost_ret (v:=.string (str (jB 8))) (by simp[results,results59];rfl) rfl ⟨rfl,Below.refl _ _⟩
 by_cases h9:k=9
 ·subst h9
  go_enter func59,ntmps59
  go_wp2
  exact bodyPost_ret (v:=.string (str (jB 9))) (by simp[results,results59];rfl) rfl ⟨rfl,Below.refl _ _⟩
 by_cases h10:k=10
 ·subst h10
  go_enter func59,ntmps59
  go_wp2
  exact bodyPost_ret (v:=.string (str (jB 10))) (by simp[results,results59];rfl) rfl ⟨rfl,Below.refl _ _⟩
 have d0:(k==0)=false:=by rw[beq_eq_false_iff_ne];exact h0
 have d1:(k==1)=false:=by rw[beq_eq_false_iff_ne];exact h1
 have d2:(k==2)=false:=by rw[beq_eq_false_iff_ne];exact h2
 have d3:(k==3)=false:=by rw[beq_eq_false_iff_ne];exact h3
 have d4:(k==4)=false:=by rw[beq_eq_false_iff_ne];exact h4
 have d5:(k==5)=false:=by rw[beq_eq_false_iff_ne];exact h5
 have d6:(k==6)=false:=by rw[beq_eq_false_iff_ne];exact h6
 have d7:(k==7)=false:=by rw[beq_eq_false_iff_ne];exact h7
 have d8:(k==8)=false:=by rw[beq_eq_false_iff_ne];exact h8
 have d9:(k==9)=false:=by rw[beq_eq_false_iff_ne];exact h9
 have d10:(k==10)=false:=by rw[beq_eq_false_iff_ne];exact h10
 have hn:jB k=[]:=b7l (by omega);rw[hn];clear h0 h1 h2 h3 h4 h5 h6 h7 h8 h9 h10 hn;go_enter func59,ntmps59
 go_wp2
 exact bodyPost_ret (v:=.string (str [])) (by simp[results,results59];rfl) rfl ⟨rfl,Below.refl _ _⟩
theorem a4j (s:List UInt8) (w:World):Calls prog 110 #[.string (str s)] w fun e w'=>e = .returned (.tuple #[iv (qg s).1,.bool (qg s).2])∧Keep w w':=by
 obtain⟨R,hR⟩ : ∃ R,qg s=R:=⟨_,rfl⟩
 have HR:Hid (yt s (11 - 0) 0=R):=hid hR;have S1:Hid (∀ f k,jB ((k:Nat):Int)=s→yt s (f+1) k=(k,true)):=hid fun f k h=>by rw[yt,if_pos h]
 have S2:Hid (∀ f k,jB ((k:Nat):Int)≠s→yt s (f+1) k=yt s f (k+1)):=hid fun f k h=>by rw[yt,if_neg h]
 have S3:Hid (∀ k,yt s 0 k=(0,false)):=hid fun k=>rfl;have CY:=hid fun(k:Int) (y:World)=>name_any k y;rw[hR];clear hR;go_enter func110,ntmps110
 go_wp2_with fail
 go_loopw [5] (fun i wr => ∃ k:Nat,k≤11∧i = .int .i64 k∧Hid (yt s (11 - k) k=R)∧Hid (Keep w wr)) (fun i _=>11 - (intOf i).toNat)
 case atStart=>exact⟨0,Nat.zero_le _,rfl,HR,hid (Below.refl _ _)⟩
 case round =>
  obtain⟨k,hk,rfl,HRk,HK⟩:=hrel;by_cases hlt:k<11
  ·have d1:(k:Int)<11:=by omega
   have hr:=HRk.out;rw[show 11 - k=(11 - (k+1))+1 by omega]at hr;have N1:=hid fun(y:World)=>name_any (k:Int) y;clear HRk HR CY;by_cases he:jB (k:Int)=s
   ·rw[S1.out _ _ he]at hr
    subst hr;rw[he]at N1;have d2:(str s==str s)=true:=b9U rfl;clear he;go_wp2_with (go_at_call 59;refine(N1.out _).mono ?_;rintro e w1 ⟨rfl,k1⟩;have ai:=hid (af HK.out k1);clear k1)
    exact bodyPost_ret (v:=.tuple #[iv k,.bool true]) (by simp[results,results110]) rfl ⟨rfl,ai.out⟩
   ·rw[S2.out _ _ he]at hr
    have HR2:=hid hr;have d2:(str (jB (k:Int))==str s)=false:=b9T he;have d3:(jB (k:Int)==s)=false:=by rw[beq_eq_false_iff_ne];exact he
    clear he hr;generalize jB (k:Int)=nk at *;go_wp2_with (go_at_call 59;refine(N1.out _).mono ?_;rintro e w1 ⟨rfl,k1⟩;have ai:=hid (af HK.out k1);clear k1)
    go_roundw
    case rel=>exact⟨k+1,by omega,by go_num,HR2,ai⟩
    case measure=>simp[intOf];omega
  ·obtain rfl:k=11:=by omega
   have d1 : ¬ ((11:Nat):Int)<11:=by omega
   have hr:=HRk.out;rw[show 11 - 11=0 from rfl,S3.out]at hr;subst hr;clear HRk HR;go_wp2_with fail
   exact bodyPost_ret (v:=.tuple #[iv 0,.bool false]) (by simp[results,results110]) rfl ⟨rfl,HK.out⟩
def b5C (b:List UInt8) (at_ n:Nat):List (List UInt8):=(List.range n).map fun i=>(b.drop (at_+i*32)).take 32
def Xp (b:List UInt8) (most:Nat):List (List UInt8) × Nat × Int :=
 if(dR b most).2.2=0 then if b.length<(dR b most).2.1+(dR b most).1*32 then([],0,1)else(b5C b (dR b most).2.1 (dR b most).1,(dR b most).2.1+(dR b most).1*32,0)else([],0,(dR b most).2.2)
structure lJ where
 ty:UInt32
 h:List UInt8
def lJ.ok (x:lJ):Prop:=x.h.length=32
def lJ.cells (x:lJ):List Value:=ag x.ty::x.h.map ah
theorem lJ.len {x:lJ} (h:x.ok):x.cells.length=33:=by unfold lJ.ok at h;simp[lJ.cells,h]
theorem b59:(prog.info? 261).map (·.size)=some 33:=by kernel_rfl
structure a0i (x:lJ) (cs:Array Value):Prop where
 l:cs.toList=x.cells
 z:cs.size=33
 i:(prog.info? 261).map (·.size)=some cs.size
 n : ¬ cs = #[]
 o : ∀ v∈cs.toList,v.oneCell'=true
theorem lJ.one (x:lJ) : ∀ u∈x.cells,u.oneCell'=true:=by
 intro u hu;rcases List.mem_cons.1 hu with rfl | hu
 ·rfl
 ·obtain⟨y,_,rfl⟩:=List.mem_map.1 hu;rfl
theorem a0i.of {x:lJ} (h:x.ok):a0i x x.cells.toArray:=by
 have hz:x.cells.toArray.size=33:=by simpa using lJ.len h
 exact⟨rfl,hz,by rw[hz];exact b59,fun e=>by rw[e]at hz;simp at hz,by simpa using x.one⟩
def b6a (b:List UInt8) (a:Nat):lJ:=⟨UInt32.ofNat (fH (b.drop a) 4),(b.drop (a+4)).take 32⟩
def b6b (b:List UInt8) (at_ n:Nat):List lJ:=(List.range n).map fun i=>b6a b (at_+i*36)
def Xq (b:List UInt8):List lJ × Nat × Int :=
 if(dR b 50000).2.2=0 then if b.length<(dR b 50000).2.1+(dR b 50000).1*36 then([],0,1)else(b6b b (dR b 50000).2.1 (dR b 50000).1,(dR b 50000).2.1+(dR b 50000).1*36,0)else([],0,(dR b 50000).2.2)
end Go.Proofs.YtiagcenlnekdeaaGreatDoor
