/- Texts merged by pack.py: SnC, Hgp, JoP, JrnT, Lo0, SnD. -/
import Derived.Test.YtiagcenlnekdeaaGreatDoorCx13
import Derived.Test.YtiagcenlnekdeaaGreatDoorCx9
set_option maxRecDepth 1000000
set_option maxHeartbeats 16000000
open Go.Proofs.Tryz
open Go.Lib (hid)
set_option linter.unusedSimpArgs false
set_option linter.unusedVariables false
namespace Go.Proofs.YtiagcenlnekdeaaGreatDoor
open Go.RowKit
attribute [local go_sem ↓] Go.wp_at_zero Go.wp_at_succ
def xk (bs:List UInt8) (k:Nat):List UInt8:=(bs.drop (64*k)).take 64
def Le (st:Int × Int × Int) (t:Int × Int × Bool) (k:Int):Int × Int × Int:=if t.2.2=true∧st.1<t.1 then(t.1,t.2.1,k)else st
def wQ (bs:List UInt8):Nat→Int × Int × Int
 | 0=>(0,0,-1)
 | k+1=>Le (wQ bs k) (mF (xk bs k)) k
def ni (bs:List UInt8):Int × Int × Int:=if bs.length<128 then(0,0,-1)else wQ bs 2
theorem b62 (A:Option Addr) (b:List UInt8) (c:Nat) (PA:Option Addr) (ws:List aG) (pc:Nat) (w:World) (h:dJ w A b c PA ws pc) (hS:bV w) :
  Calls prog 71 #[dP A b.length c PA ws.length pc] w fun e w'=>e = .returned (.tuple #[.int .i64 (ni (bytesD b ws)).1,.int .i64 (ni (bytesD b ws)).2.1,.int .i64 (ni (bytesD b ws)).2.2])∧Keep w w':=by
 have hlb:(bytesD b ws).length≤131072:=by
  have h1:=Qv (Me b ws);have h2:(bytesD b ws).length=(gB b ws).length:=a04 b ws;omega
 have B1:Hid (∀ w',Keep w w'→Calls prog 100 #[dP A b.length c PA ws.length pc] w' fun e w'' => ∃ v,e = .returned v∧w''.ownsRow w'.heap.size 5 1 v (bytesD b ws).length ((bytesD b ws).map ah)∧Keep w' w''):=fun w' hk=>UF A b c PA ws pc w' (h.keep hk);have HS:=hid hS;clear h hS;generalize bytesD b ws=bs at *;obtain⟨L,hL⟩ : ∃ L,ni bs=L:=⟨_,rfl⟩
 rw[hL];have HL:=hid hL;clear hL;generalize b.length=bl at *;generalize ws.length=wl at *;go_enter func71,ntmps71
 go_wp2_with fail
 refine(B1.out _ (aB _ _)).mono ?_;clear B1;rintro e w1 ⟨v1,rfl,a5y,k1⟩;obtain⟨A1,c1,rfl,hc1,hm1,hr1⟩:=dD a5y;have Ol:=hid hr1;have ai:=hid (af (aB w _) k1);unfold maxLen at hm1;clear a5y hr1 k1;by_cases h128:bs.length<128
 ·have HD:Hid (L=(0,0,-1)):=by rw[←HL.out];exact if_pos h128
  have h1:(bs.length:Int)<128:=by omega
  clear h128;go_wp2
  rw[HD.out];exact bodyPost_ret (v:=.tuple #[.int .i64 0,.int .i64 0,.int .i64 (-1)]) (by simp[results,results71]) rfl ⟨rfl,ai.out⟩
 ·have h1:(128:Int)≤(bs.length:Int):=by omega
  have HD:Hid (L=wQ bs 2):=by rw[←HL.out];exact if_neg h128
  obtain⟨g,off,rfl,hg,_⟩:=Ol.out.at (k:=0) (by simp;omega);have h128':128≤bs.length:=by omega
  clear h128;go_wp2_with fail
  go_loopw [5,6,7,21] (fun e r s i wr => ∃ k:Nat,k≤2∧i = .int .i64 k∧e = .int .i64 (wQ bs k).1∧r = .int .i64 (wQ bs k).2.1∧s = .int .i64 (wQ bs k).2.2∧Hid (Keep w1 wr)) (fun _ _ _ i _=>2 - (intOf i).toNat)
  case atStart=>exact⟨0,by omega,rfl,rfl,rfl,rfl,hid (Below.refl _ _)⟩
  case round =>
   obtain⟨k,hk,rfl,rfl,rfl,rfl,hkr⟩:=hrel;by_cases hlt:k<2
   ·have hR:Hid (Rd wr (some ⟨g,off+64*k,none⟩) ((xk bs k).map ah)):=by
     have h:=(Ol.out.keep hkr.out).sub (64*k) 64 (by rw[List.length_map];omega)
     rwa[←List.map_drop,←List.map_take]at h
    have hln:(xk bs k).length=64:=by unfold xk;rw[List.length_take,List.length_drop];omega
    have T1:=c0h (some ⟨g,off+64*k,none⟩) (xk bs k) (c1 - 64*k) wr hR.out (HS.out.keep (af ai.out hkr.out)) (by omega);rw[hln,show 64*k=k*64 from Nat.mul_comm _ _]at T1
    have T2:Calls prog 101 #[.slice (some ⟨g,off+k*64,none⟩) ((k+1)*64 - k*64) (c1 - k*64)] wr fun e w'=>e = .returned (.tuple #[.int .i64 (mF (xk bs k)).1,.int .i64 (mF (xk bs k)).2.1,.bool (mF (xk bs k)).2.2])∧Keep wr w':=by
     rw[show(k+1)*64 - k*64=64 by omega];exact T1
    clear T1;have hst:Hid (∀ t,mF (xk bs k)=t→wQ bs (k+1)=Le (wQ bs k) t k):=fun t e=>by subst e;rfl
    have hst1:=hid (hst.out _ rfl);generalize mF (xk bs k)=t at *;obtain⟨te,tr,tok⟩:=t;generalize xk bs k=sb at *;generalize J3:wQ bs (k+1)=L1 at *;have lG:=hid J3;clear J3;generalize wQ bs k=L0 at *;obtain⟨le,lr,ls⟩:=L0;clear hst hln;go_wp2_with fail
    refine T2.mono ?_;clear T2;rintro e w2 ⟨rfl,k2⟩;have K2:=hid (af hkr.out k2);clear k2;have go : ∀ w3,Hid (Le (le,lr,ls) (te,tr,tok) (k:Nat)=w3)→L1=w3:=fun w3 h=>hst1.out.trans h.out;have Fh:=hid go;clear go
    cases tok with
    | false =>
      have hL1:Hid (L1=(le,lr,ls)):=Fh.out _ (if_neg (fun h=>by cases h.1));clear Fh hst1;go_wp2
      go_roundw
      case rel=>exact⟨k+1,by omega,by go_num,by rw[lG.out,hL1.out],by rw[lG.out,hL1.out],by rw[lG.out,hL1.out],K2⟩
      case measure=>simp[intOf];omega
    | true =>
      by_cases hg2:le<te
      ·have hL1:Hid (L1=(te,tr,(k:Int))):=Fh.out _ (if_pos ⟨rfl,hg2⟩)
       have d1:decide (le<te)=true:=decide_eq_true hg2;clear Fh hst1 hg2;go_wp2
       go_roundw
       case rel=>exact⟨k+1,by omega,by go_num,by rw[lG.out,hL1.out],by rw[lG.out,hL1.out],by rw[lG.out,hL1.out],K2⟩
       case measure=>simp[intOf];omega
      ·have hL1:Hid (L1=(le,lr,ls)):=Fh.out _ (if_neg (fun h=>hg2 h.2))
       have d1:decide (le<te)=false:=decide_eq_false hg2;clear Fh hst1 hg2;go_wp2
       go_roundw
       case rel=>exact⟨k+1,by omega,by go_num,by rw[lG.out,hL1.out],by rw[lG.out,hL1.out],by rw[lG.out,hL1.out],K2⟩
       case measure=>simp[intOf];omega
   ·have hk2:k=2:=by omega
    subst hk2;have lG:=HD.out.symm;generalize wQ bs 2=L2 at lG ⊢;subst lG;obtain⟨le,lr,ls⟩:=L2;clear HD HL;go_wp2
    exact bodyPost_ret (v:=.tuple #[.int .i64 le,.int .i64 lr,.int .i64 ls]) (by simp[results,results71]) rfl ⟨rfl,af ai.out hkr.out⟩
theorem b9p (A:Option Addr) (b:List UInt8) (c:Nat) (PA:Option Addr) (ws:List aG) (pc:Nat) (w:World) (h:dJ w A b c PA ws pc) (hS:bV w) :
  Calls prog 41 #[dP A b.length c PA ws.length pc] w fun e w'=>e = .returned (.tuple #[.int .i64 (ni (bytesD b ws)).1,.int .i64 (ni (bytesD b ws)).2.1])∧Keep w w':=by
 have L1:Hid (∀ w',Keep w w'→Calls prog 71 #[dP A b.length c PA ws.length pc] w' fun e w''=>e = .returned (.tuple #[.int .i64 (ni (bytesD b ws)).1,.int .i64 (ni (bytesD b ws)).2.1,.int .i64 (ni (bytesD b ws)).2.2])∧Keep w' w''):=fun w' hk=>b62 A b c PA ws pc w' (h.keep hk) (hS.keep hk);generalize ni (bytesD b ws)=L at *;obtain⟨le,lr,ls⟩:=L;clear h hS;go_enter func41,ntmps41
 go_wp2_with fail
 refine(L1.out _ (aB _ _)).mono ?_;rintro e w1 ⟨rfl,k1⟩;have K1:=hid (af (aB w _) k1);go_wp2
 exact bodyPost_ret (v:=.tuple #[.int .i64 le,.int .i64 lr]) (by simp[results,results41]) rfl ⟨rfl,K1.out⟩
theorem b92 (e r:Int) (b:List UInt8) (h:rV e r=b):(b.getD 4 0).toNat=(r%2).toNat:=by
 subst h
 show(w8 (r%2)).toNat=_
 have:=rW (n:=r%2) (by omega) (by omega)
 omega
theorem a6P (b:List UInt8):(mF b).2.1=0∨(mF b).2.1=1:=by
 unfold mF
 split
 ·rename_i h
  have:=b92 _ _ _ h.2.2.2
  show((b.getD 4 0).toNat:Int)=0∨((b.getD 4 0).toNat:Int)=1
  omega
 ·exact .inl rfl
theorem a6O (b:List UInt8):0≤(mF b).1∧(mF b).1≤2147483647:=by
 unfold mF
 split
 ·rename_i h
  show 0≤(pY b:Int)∧(pY b:Int)≤2147483647
  have h1:=h.2.1;have h2:=h.2.2.1
  omega
 ·exact⟨by decide,by decide⟩
structure Told (L:Int × Int × Int):Prop where
 r:L.2.1=0∨L.2.1=1
 e:0≤L.1∧L.1≤2147483647
 s:L.2.2 = -1∨L.2.2=0∨L.2.2=1
theorem a4H {st:Int × Int × Int} {t:Int × Int × Bool} {k:Int} (h:Told st) (ht:t.2.1=0∨t.2.1=1) (he:0≤t.1∧t.1≤2147483647) (hk:k=0∨k=1):Told (Le st t k):=by
 unfold Le
 split
 ·exact⟨ht,he,.inr hk⟩
 ·exact h
theorem a4I (bs:List UInt8):Told (ni bs):=by
 have h0:Told (0,0,-1):=⟨.inl rfl,⟨by decide,by decide⟩,.inl rfl⟩
 unfold ni
 split
 ·exact h0
 ·exact a4H (a4H h0 (a6P _) (a6O _) (.inl rfl)) (a6P _) (a6O _) (.inr rfl)
theorem c0L {n:Int} (h0:0≤n) (h1:n≤255):((w8 n).toNat:Int)=n:=(rW h0 h1).symm
theorem Gt (x:UInt32) (l:List UInt8):iO (le4 x++l)=x:=by
 have hx:=G6 x
 have e:rP (le4 x++l) 4=x.toNat:=by
  simp only[rP,le4,List.cons_append,List.nil_append,List.getD_cons_succ,List.getD_cons_zero];have g : ∀ k,((w8 (dN x k)).toNat:Int)=dN x k:=fun k=>c0L (by unfold dN;omega) (by unfold dN;omega);simp only[g];unfold dN;omega
 unfold iO w32;rw[e];simp
theorem b4T {h:Hd} (hk:h.ok):jJ (ji h)=h:=by
 unfold jJ ji;have l4 : ∀ x,(le4 x).length=4:=fun _=>rfl;have d4:(le4 h.bz++(h.prev++(h.root++(le4 h.time++(le4 h.bits++le4 h.dO))))).drop 4=h.prev++(h.root++(le4 h.time++(le4 h.bits++le4 h.dO))):=List.drop_left' (l4 _);have b23 : ∀ k,(le4 h.bz++(h.prev++(h.root++(le4 h.time++(le4 h.bits++le4 h.dO))))).drop (4+k)=(h.prev++(h.root++(le4 h.time++(le4 h.bits++le4 h.dO)))).drop k:=fun k=>by rw[←List.drop_drop,d4]
 have a1D : ∀ k,(le4 h.bz++(h.prev++(h.root++(le4 h.time++(le4 h.bits++le4 h.dO))))).drop (36+k)=(h.root++(le4 h.time++(le4 h.bits++le4 h.dO))).drop k:=fun k=>by
  rw[show 36+k=4+(32+k) by omega,b23,←List.drop_drop,List.drop_left' hk.1]
 have UU : ∀ k,(le4 h.bz++(h.prev++(h.root++(le4 h.time++(le4 h.bits++le4 h.dO))))).drop (68+k)=(le4 h.time++(le4 h.bits++le4 h.dO)).drop k:=fun k=>by
  rw[show 68+k=36+(32+k) by omega,a1D,←List.drop_drop,List.drop_left' hk.2]
 have e36:=a1D 0;have a1I:=UU 0;have a1J:=UU 4;have b3a:=UU 8
 rw[List.drop_zero]at e36 a1I;rw[List.drop_left' (l4 _)]at a1J;have e8:(le4 h.time++(le4 h.bits++le4 h.dO)).drop (4+4)=le4 h.dO:=by rw[←List.drop_drop,List.drop_left' (l4 _),List.drop_left' (l4 _)]
 have b3b:=b3a.trans e8;rw[d4,e36,a1I,a1J,b3b,Gt,Gt,Gt,List.take_left' hk.1,List.take_left' hk.2]
 have:=Gt h.dO []
 rw[List.append_nil]at this;rw[this]
theorem b6D {x y:UInt32} (h:le4 x=le4 y):x=y:=by
 have h1:=Gt x [];have h2:=Gt y []
 rw[←h1,←h2,h]
theorem b8L (last:List UInt8) (seq:Int) {h:Hd} (hk:h.ok):((iT last seq h).drop 4).take 80=ji h:=by
 unfold iT zK;rw[List.append_assoc,List.drop_left' (show(le4 (zN seq)).length=4 from rfl),List.append_assoc,List.take_left' (DW hk)]
theorem c0c (last:List UInt8) (seq:Int) {h:Hd} (hk:h.ok):takeD last seq (iT last seq h)=(true,h,kK last seq h):=by
 unfold takeD;rw[b8L last seq hk,b4T hk,if_pos ⟨LY last seq hk,rfl⟩,←Xa hk rfl]
theorem a6N {last:List UInt8} {seq:Int} {b:List UInt8} (h:(takeD last seq b).1=true) :
  b.length=128∧iT last seq (takeD last seq b).2.1=b∧(takeD last seq b).2.2=kK last seq (takeD last seq b).2.1∧(takeD last seq b).2.1.ok∧(takeD last seq b).2.1=jJ ((b.drop 4).take 80):=by
 unfold takeD at h ⊢
 split at h
 ·rename_i hb
  rw[if_pos hb];have hk:(jJ ((b.drop 4).take 80)).ok:=VD (by rw[List.length_take,List.length_drop];omega);exact⟨hb.1,hb.2,(Xa hk hb.2).symm,hk,rfl⟩
 ·cases h
theorem b8K (last:List UInt8) (seq:Int) (h:Hd):(iT last seq h).take 4=le4 (zN seq):=by
 unfold iT zK;rw[List.append_assoc];exact List.take_left' rfl
theorem b9l {k:Nat} (hk:k<4294967295):(zN k).toNat=k+1:=by
 unfold zN
 have:=BB (n:=(((k:Int)%4294967296+1)%4294967296)) (by omega) (by omega)
 omega
theorem c0d {last:List UInt8} {k:Nat} (hk:k<4294967295) {b:List UInt8} (hb:b.take 4=[0,0,0,0]):(takeD last k b).1=false:=by
 cases hc:(takeD last k b).1 with
 | false=>rfl
 | true =>
   have h1:=congrArg (List.take 4) (a6N hc).2.1;rw[b8K,hb]at h1;have h2:le4 (zN k)=le4 0:=h1;have h3:=congrArg UInt32.toNat (b6D h2);rw[b9l hk]at h3;simp at h3
def oC (bs:List UInt8) (s:Nat):List UInt8:=(bs.drop (s*32)).take 128
def sV (aH:Nat) (bs:List UInt8):Nat→List UInt8→List Hd→Prop
 | _,_,[]=>True
 | k,last,h::hs=>((aH+4*k)*32+128≤bs.length∧oC bs (aH+4*k)=iT last k h∧h.ok)∧sV aH bs (k+1) (kK last k h) hs
def eQ:Nat→List UInt8→List Hd→List UInt8
 | _,last,[]=>last
 | k,last,h::hs=>eQ (k+1) (kK last k h) hs
theorem a4r : ∀ (hs:List Hd) (k:Nat) (last:List UInt8) (h:Hd),eQ k last (hs++[h])=kK (eQ k last hs) (k+hs.length:Nat) h
 | [],k,last,h=>rfl
 | x::hs,k,last,h=>by
   show eQ (k+1) _ (hs++[h])=_
   rw[a4r hs (k+1)];rw[List.length_cons,show k+1+hs.length=k+(hs.length+1) by omega];rfl
theorem a6a (aH:Nat) (bs:List UInt8) : ∀ (hs:List Hd) (k:Nat) (last:List UInt8) (h:Hd),sV aH bs k last hs→(aH+4*(k+hs.length))*32+128≤bs.length →
  oC bs (aH+4*(k+hs.length))=iT (eQ k last hs) (k+hs.length:Nat) h→h.ok→sV aH bs k last (hs++[h])
 | [],k,last,h,_,h1,h2,h3=>⟨⟨h1,h2,h3⟩,trivial⟩
 | x::hs,k,last,h,hr,h1,h2,h3=>by
   rw[List.length_cons]at h1 h2;refine⟨hr.1,a6a aH bs hs (k+1) _ h hr.2 ?_ ?_ h3⟩
   ·rw[show k+1+hs.length=k+(hs.length+1) by omega];exact h1
   ·rw[show k+1+hs.length=k+(hs.length+1) by omega];exact h2
theorem a5Z (aH:Nat) (bs:List UInt8) : ∀ (hs:List Hd) (k:Nat) (last:List UInt8),sV aH bs k last hs → ∀ x∈hs,x.ok
 | [],_,_,_,x,hx=>by simp at hx
 | y::hs,k,last,h,x,hx=>by
   rcases List.mem_cons.1 hx with rfl | hx
   ·exact h.1.2.2
   ·exact a5Z aH bs hs (k+1) _ h.2 x hx
theorem a5Y (aH:Nat) (bs:List UInt8) : ∀ (hs:List Hd) (k:Nat) (last:List UInt8),sV aH bs k last hs→hs.length=0∨(aH+4*(k+hs.length))*32≤bs.length
 | [],_,_,_ => .inl rfl
 | y::hs,k,last,h=>by
   right
   have h1:=h.1.1;rw[List.length_cons];rcases a5Y aH bs hs (k+1) _ h.2 with h2 | h2
   ·rw[h2];omega
   ·rw[show k+(hs.length+1)=k+1+hs.length by omega];exact h2
theorem Xb {aH:Nat} {bs cs:List UInt8} (hl:bs.length=cs.length) : ∀ (hs:List Hd) (k:Nat) (last:List UInt8),sV aH bs k last hs→(∀ j,k≤j→j<k+hs.length→oC bs (aH+4*j)=oC cs (aH+4*j))→sV aH cs k last hs
 | [],_,_,_,_=>trivial
 | y::hs,k,last,h,hs'=>by
   refine⟨⟨by rw[←hl];exact h.1.1,?_,h.1.2.2⟩,Xb hl hs (k+1) _ h.2 fun j h1 h2=>hs' j (by omega) (by rw[List.length_cons];omega)⟩;rw[←hs' k (Nat.le_refl _) (by rw[List.length_cons];omega)];exact h.1.2.1
theorem b7C {aH:Nat} {room:Int} {k:Nat} {last bs:List UInt8} {h:Hd} (hk:k<dB room) (h1:(aH+4*k)*32+128≤bs.length) (h2:oC bs (aH+4*k)=iT last k h) (h3:h.ok):iI aH room k last bs=(true,h,kK last k h):=by
 unfold iI;rw[if_pos ⟨hk,h1⟩]
 show takeD last k (oC bs (aH+4*k))=_
 rw[h2];exact c0c last k h3
theorem b7D {aH:Nat} {room:Int} {k:Nat} {last bs:List UInt8} (h:(iI aH room k last bs).1=true):k<dB room∧(aH+4*k)*32+128≤bs.length∧oC bs (aH+4*k)=iT last k (iI aH room k last bs).2.1∧(iI aH room k last bs).2.1.ok∧(iI aH room k last bs).2.2=kK last k (iI aH room k last bs).2.1:=by
 unfold iI at h ⊢
 split at h
 ·rename_i h1
  rw[if_pos h1];obtain⟨a,b,c,d,_⟩:=a6N h;exact⟨h1.1,h1.2,b.symm,d,c⟩
 ·cases h
theorem a5v (aH:Nat) (room:Int) (bs:List UInt8) (f:Nat) : ∀ (hs:List Hd) (k:Nat) (last:List UInt8) (acc:List Hd),sV aH bs k last hs→k+hs.length≤dB room →
  mr aH room bs (f+hs.length) k last acc=mr aH room bs f (k+hs.length) (eQ k last hs) (acc++hs)
 | [],k,last,acc,_,_=>by simp[eQ]
 | x::hs,k,last,acc,h,hk=>by
   rw[List.length_cons]at hk ⊢;have e:=b7C (by omega:k<dB room) h.1.1 h.1.2.1 h.1.2.2;rw[show f+(hs.length+1)=(f+hs.length)+1 by omega,mr,e,if_pos rfl];rw[a5v aH room bs f hs (k+1) _ _ h.2 (by omega),List.append_assoc,show k+1+hs.length=k+(hs.length+1) by omega];rfl
theorem a5w {aH:Nat} {room:Int} {bs:List UInt8} {k:Nat} {last:List UInt8} {acc:List Hd} (h:(iI aH room k last bs).1=false) : ∀ f,mr aH room bs f k last acc=(k,last,acc)
 | 0=>rfl
 | f+1=>by rw[mr,h];rfl
theorem a5u (aH:Nat) (room:Int) (bs:List UInt8) : ∀ (f k:Nat) (last:List UInt8) (acc:List Hd),∃ hs,mr aH room bs f k last acc=(k+hs.length,eQ k last hs,acc++hs)∧sV aH bs k last hs∧(hs.length=0∨k+hs.length≤dB room) ∧
  (hs.length=f∨(iI aH room (k+hs.length) (eQ k last hs) bs).1=false)
 | 0,k,last,acc=>⟨[],by simp[mr,eQ],trivial,.inl rfl,.inl rfl⟩
 | f+1,k,last,acc=>by
   cases hc:(iI aH room k last bs).1 with
   | false=>exact⟨[],by rw[a5w hc];simp[eQ],trivial,.inl rfl,.inr hc⟩
   | true =>
     obtain⟨q1,q2,q3,q4,q5⟩:=b7D hc;obtain⟨hs,h1,h2,h3,h4⟩:=a5u aH room bs f (k+1) (iI aH room k last bs).2.2 (acc++[(iI aH room k last bs).2.1]);refine⟨(iI aH room k last bs).2.1::hs,?_,⟨⟨q2,q3,q4⟩,by rw[←q5];exact h2⟩,?_,?_⟩
     ·rw[mr,hc,if_pos rfl,h1,List.length_cons,show k+1+hs.length=k+(hs.length+1) by omega,List.append_assoc]
      show(_,eQ (k+1) (iI aH room k last bs).2.2 hs,_)=(_,eQ (k+1) (kK last k (iI aH room k last bs).2.1) hs,_)
      rw[q5];rfl
     ·right
      rw[List.length_cons];rcases h3 with h3 | h3 <;> omega
     ·rw[List.length_cons,show k+(hs.length+1)=k+1+hs.length by omega]
      rcases h4 with h4 | h4
      ·left;omega
      ·right
       show(iI aH room _ (eQ (k+1) (kK last k _) hs) bs).1=false
       rw[←q5];exact h4
structure Found (base room:Int) (bs:List UInt8) (hs:List Hd):Prop where
 eq:dF base room bs=(hs.length,eQ 0 z32 hs,hs)
 recs:sV base.toNat bs 0 z32 hs
 fit:hs.length≤dB room
 none:(base<0∨((bs.length/32:Nat):Int)<base)→hs=[]
 stop:0≤base→base≤((bs.length/32:Nat):Int)→(iI base.toNat room hs.length (eQ 0 z32 hs) bs).1=false
theorem b7O (base room:Int) (bs:List UInt8):Found base room bs (dF base room bs).2.2:=by
 by_cases hb:base<0∨((bs.length/32:Nat):Int)<base
 ·have e:dF base room bs=(0,z32,[]):=if_pos hb
  rw[e];exact⟨e,trivial,Nat.zero_le _,fun _=>rfl,fun h1 h2=>by omega⟩
 ·have e:dF base room bs=mr base.toNat room bs 1025 0 z32 []:=if_neg hb
  obtain⟨hs,h1,h2,h3,h4⟩:=a5u base.toNat room bs 1025 0 z32 [];rw[Nat.zero_add,List.nil_append]at h1;rw[Nat.zero_add]at h3 h4;rw[e,h1];have hr:dB room≤1024:=by unfold dB;omega
  refine⟨e.trans h1,h2,by show hs.length≤_;omega,fun h=>absurd h hb,fun _ _=>?_⟩;rcases h4 with h4 | h4
  ·omega
  ·exact h4
theorem a19 {base room:Int} {bs:List UInt8} {hs:List Hd} (h0:0≤base) (h1:base≤((bs.length/32:Nat):Int)) (hr:sV base.toNat bs 0 z32 hs) (hn:hs.length≤dB room) (hx:(iI base.toNat room hs.length (eQ 0 z32 hs) bs).1=false):Found base room bs hs:=by
 have e:dF base room bs=mr base.toNat room bs 1025 0 z32 []:=if_neg (by omega);have hr':dB room≤1024:=by unfold dB;omega
 have h2:=a5v base.toNat room bs (1025 - hs.length) hs 0 z32 [] hr (by omega);rw[show 1025 - hs.length+hs.length=1025 by omega,Nat.zero_add,a5w hx,List.nil_append]at h2;exact⟨e.trans h2,hr,hn,fun h=>by omega,fun _ _=>hx⟩
end Go.Proofs.YtiagcenlnekdeaaGreatDoor
namespace Go.Proofs.YtiagcenlnekdeaaGreatDoor
open Go.RowKit
theorem Mc (bs:List UInt8) (s i:Nat) (hi:i<128):(oC bs s)[i]?=(sec bs (s+i/32))[i%32]?:=by
 unfold oC;rw[List.getElem?_take,if_pos hi,List.getElem?_drop,Qw _ _ _ (Nat.mod_lt _ (by omega))]
 congr 1;omega
theorem Qx (bs:List UInt8) (s i:Nat) (hi : ¬ i<128):(oC bs s)[i]?=none:=by
 unfold oC;rw[List.getElem?_take,if_neg hi]
theorem a6p {bs cs:List UInt8} {s:Nat} (h : ∀ i,i<4→sec bs (s+i)=sec cs (s+i)):oC bs s=oC cs s:=by
 apply List.ext_getElem?
 intro i;by_cases hi:i<128
 ·rw[Mc _ _ _ hi,Mc _ _ _ hi,h _ (by omega)]
 ·rw[Qx _ _ _ hi,Qx _ _ _ hi]
theorem b9h {bs r:List UInt8} {s:Nat} (hr:r.length=128) (h : ∀ i,i<4→sec bs (s+i)=sec r i):oC bs s=r:=by
 have e:r=oC r 0:=by unfold oC;rw[Nat.zero_mul,List.drop_zero,List.take_of_length_le (by omega)]
 rw[e]
 apply List.ext_getElem?
 intro i;by_cases hi:i<128
 ·rw[Mc _ _ _ hi,Mc _ _ _ hi,h _ (by omega),Nat.zero_add]
 ·rw[Qx _ _ _ hi,Qx _ _ _ hi]
theorem b9i {bs:List UInt8} {s:Nat} (h:sec bs s=z32):(oC bs s).take 4=[0,0,0,0]:=by
 have e:(oC bs s).take 4=(sec bs s).take 4:=by
  apply List.ext_getElem?
  intro i;rw[List.getElem?_take,List.getElem?_take];by_cases hi:i<4
  ·rw[if_pos hi,if_pos hi,Mc _ _ _ (by omega),show i/32=0 by omega,show i%32=i by omega,Nat.add_zero]
  ·rw[if_neg hi,if_neg hi]
 rw[e,h];rfl
theorem a5g {aH:Nat} {room:Int} {k:Nat} {last bs:List UInt8} (h:k<dB room→(aH+4*k)*32+128≤bs.length→sec bs (aH+4*k)=z32):(iI aH room k last bs).1=false:=by
 unfold iI
 split
 ·rename_i h1
  have hr:dB room≤1024:=by unfold dB;omega
  exact c0d (by omega) (b9i (h h1.1 h1.2))
 ·rfl
theorem L8 (nb:Nat) (ps:List WP):gp nb ps=true↔(nb%32=0∧nb/32≤4096∧ps.length≤100000)∧ps.all (LJ nb)=true:=by
 unfold gp;rw[Bool.and_eq_true,decide_eq_true_eq]
theorem FP (b:List UInt8) (ps:List WP) (h:gp b.length ps=true):(dC b ps).length=b.length:=by
 unfold dC;rw[if_pos h];exact OQ _ _ _ rfl (a6l h)
theorem b1P (b:List UInt8) (ps:List WP):gp (dC b ps).length []=true:=by
 by_cases h:gp b.length ps=true
 ·rw[FP b ps h];exact b87 h
 ·unfold dC;rw[if_neg h];rfl
theorem UE {b:List UInt8} (h:gp b.length []=true):dC b []=b:=by unfold dC;rw[if_pos h];rfl
structure Aq (b:List UInt8) (ps:List WP) (base room:Int) (hs:List Hd):Prop where
 FW:Found base room (dC b ps) hs
 zero:0≤base → ∀ m,base.toNat+4*hs.length≤m→m<base.toNat+4*dB room→32*m+32≤(dC b ps).length→sec (dC b ps) m=z32
theorem V8 {nb:Nat} {ps:List WP} {a:Nat} {data:List UInt8} {n:Nat} (hs:gp nb ps=true) (h1:32*(a+n)≤nb) (h2:32*n≤data.length) (h3:ps.length+n≤100000):gp nb (ps++iM a data n)=true:=by
 rw[L8]at hs ⊢;refine⟨⟨hs.1.1,hs.1.2.1,?_⟩,?_⟩
 ·rw[List.length_append];simp[iM];omega
 ·rw[List.all_append,hs.2,Bool.true_and];exact a4s h1 h2
theorem a05 {b:List UInt8} {ps:List WP} {a:Nat} {data:List UInt8} {n:Nat} (hs:gp b.length ps=true) (h1:32*(a+n)≤b.length) (h2:32*n≤data.length) (h3:ps.length+n≤100000) (m:Nat) (hm:32*m+32≤b.length) :
  sec (dC b (ps++iM a data n)) m=if a≤m∧m<a+n then sec data (m - a)else sec (dC b ps) m:=by
 have hl:=OQ _ ps b rfl (a6l hs)
 have e1:dC b (ps++iM a data n)=qG (qG b ps) (iM a data n):=by
  unfold dC;rw[if_pos (V8 hs h1 h2 h3),b1Q]
 have e2:dC b ps=qG b ps:=if_pos hs;rw[e1,e2];exact a07 _ a data m (by omega) n (by omega) h2
theorem a0U {b:List UInt8} {ps:List WP} {base room:Int} {hs:List Hd} {h:Hd} (hi:Aq b ps base room hs) (hk:h.ok) (hb : -9223372036854775808≤base∧base≤9223372036854775807)
  {dY:Int × Nat × List UInt8 × List WP} (hA:dY=y7 b base room hs.length (eQ 0 z32 hs) h ps) :
  (dY.1=0→0≤base∧dY.2.1=hs.length+1∧dY.2.2.1=eQ 0 z32 (hs++[h])∧Aq b dY.2.2.2 base room (hs++[h])∧gp b.length dY.2.2.2=true ∧
   dY.2.2.2=ps++iM (base.toNat+4*hs.length:Nat) (iT (eQ 0 z32 hs) hs.length h) 4∧32*(base.toNat+4*hs.length+4)≤b.length∧gp b.length ps=true) ∧
  (dY.1≠0→(dY.1=12∨dY.1=14)∧dY=(dY.1,hs.length,eQ 0 z32 hs,ps)):=by
 unfold y7 at hA;obtain⟨r,hrr⟩ : ∃ r,iT (eQ 0 z32 hs) hs.length h=r:=⟨_,rfl⟩
 obtain⟨s,hss⟩ : ∃ s,kK (eQ 0 z32 hs) hs.length h=s:=⟨_,rfl⟩
 obtain⟨ls,hls⟩ : ∃ ls,eQ 0 z32 (hs++[h])=ls:=⟨_,rfl⟩
 have hr:=LY (eQ 0 z32 hs) hs.length hk;rw[hrr]at hA hr ⊢;rw[hss]at hA;rw[hls];by_cases h1:dB room≤hs.length
 ·rw[if_pos h1]at hA
  subst hA;exact⟨fun h=>by simp at h,fun _=>⟨.inl rfl,rfl⟩⟩
 ·rw[if_neg h1]at hA
  by_cases h2:vW b base hs.length ps=true
  ·rw[if_pos h2]at hA
   unfold vW at h2;rw[Bool.and_eq_true]at h2;obtain⟨hs1,hs2⟩:=h2;have hs2:=of_decide_eq_true hs2;have hlen:=FP b ps hs1;have hsz:=(L8 _ _).1 hs1
   have hb0 : ¬ (base<0∨((b.length/32:Nat):Int)<base):=fun hn=>by
    have:=hi.FW.none (by rw[hlen];exact hn)
    subst this;simp only[List.length_nil]at hs2;unfold wrap64 at hs2;omega
   have hrm:dB room≤1024:=by unfold dB;omega
   obtain⟨aH,rfl⟩ : ∃ aH:Nat,base=aH:=⟨base.toNat,by omega⟩
   have ha:wrap64 ((aH:Int)+(4*hs.length:Nat))=((aH+4*hs.length:Nat):Int):=by unfold wrap64;omega
   rw[ha]at hA hs2;have hfit:32*(aH+4*hs.length+4)≤b.length:=by omega
   subst hA;refine⟨fun _=>?_,fun h=>absurd rfl h⟩;have hsn:=V8 (data:=r) (n:=4) hs1 hfit (by omega) hs2.2.2;have hl2:=FP b _ hsn;have zu:=fun m hm=>a05 (data:=r) (n:=4) hs1 hfit (by omega) hs2.2.2 m hm;have hlast:s=ls:=by rw[←hss,←hls,a4r,Nat.zero_add]
   have hrec:sV aH (dC b (ps++iM (aH+4*hs.length:Nat) r 4)) 0 z32 (hs++[h]):=by
    refine a6a _ _ hs 0 z32 h (Xb (by rw[hl2,hlen]) hs 0 z32 hi.FW.recs fun j _ hj=>a6p fun i hi4=>?_) ?_ ?_ hk
    ·rw[zu _ (by omega),if_neg (by omega)]
    ·rw[hl2];omega
    ·rw[Nat.zero_add,hrr]
     refine b9h hr fun i hi4=>?_;rw[zu _ (by omega),if_pos (by omega),Nat.add_sub_cancel_left]
   refine⟨by omega,rfl,hlast,⟨a19 (by omega) (by rw[hl2];omega) ?_ (by rw[List.length_append,List.length_singleton];omega) (a5g fun q1 q2=>?_),fun _ m m1 m2 m3=>?_⟩,hsn,rfl,?_,hs1⟩
   ·exact hrec
   ·rw[List.length_append,List.length_singleton]at q1 q2 ⊢
    rw[hl2,Int.toNat_natCast]at q2;rw[Int.toNat_natCast,zu _ (by omega),if_neg (by omega)];exact hi.zero (by omega) _ (by rw[Int.toNat_natCast];omega) (by rw[Int.toNat_natCast];omega) (by rw[hlen];omega)
   ·rw[List.length_append,List.length_singleton,Int.toNat_natCast]at m1
    rw[hl2]at m3
    show sec (dC b (ps++iM (aH+4*hs.length:Nat) r 4)) m=z32
    rw[zu _ (by omega),if_neg (by omega)];exact hi.zero (by omega) _ (by rw[Int.toNat_natCast];omega) m2 (by rw[hlen];omega)
   ·exact hfit
  ·rw[if_neg h2]at hA
   subst hA;exact⟨fun h=>by simp at h,fun _=>⟨.inr rfl,rfl⟩⟩
theorem a4v (i:Int):iM i z32 1=[(i,z32)]:=by unfold iM;simp;decide
theorem UM {b:List UInt8} {ps:List WP} (h : ¬ gp b.length ps=true) (base:Int) (n:Nat) : ∀ k,nS b base n k ps=ps
 | 0=>rfl
 | k+1=>by
   show nT b (nS b base n k ps) _=ps
   rw[UM h base n k];exact if_neg fun hh=>h hh.1
theorem a1l {b:List UInt8} {ps:List WP} {base:Int} (hb:base≤9223372036854775807) (hz:b.length/32≤4096) (h:((b.length/32:Nat):Int)<base) (n:Nat) : ∀ k,n+k≤10000→nS b base n k ps=ps
 | 0,_=>rfl
 | k+1,hk=>by
   show nT b (nS b base n k ps) _=ps
   rw[a1l hb hz h n k (by omega)];refine if_neg fun hh=>?_
   have:=of_decide_eq_true hh.2
   unfold wrap64 at this;omega
theorem a1m {b:List UInt8} {ps:List WP} (hs:gp b.length ps=true) (aH n:Nat) (hbn:aH≤5000) : ∀ k,n+k≤10000→ps.length+k≤100000→gp b.length (nS b aH n k ps)=true∧(nS b aH n k ps).length≤ps.length+k ∧
  ∀ m,32*m+32≤b.length→sec (dC b (nS b aH n k ps)) m=if aH+n≤m∧m<aH+n+k then z32 else sec (dC b ps) m
 | 0,_,_=>⟨hs,Nat.le_refl _,fun m _=>by rw[if_neg (by omega)];rfl⟩
 | k+1,hk,hp=>by
   obtain⟨i1,i2,i3⟩:=a1m hs aH n hbn k (by omega) (by omega)
   have e:nS b aH n (k+1) ps=nT b (nS b aH n k ps) ((aH+(n+k):Nat):Int):=by
    show nT b _ (wrap64 _)=_
    congr 1;unfold wrap64;omega
   rw[e];by_cases hf:32*(aH+(n+k)+1)≤b.length
   ·have e2:nT b (nS b aH n k ps) ((aH+(n+k):Nat):Int)=nS b aH n k ps++iM ((aH+(n+k):Nat):Int) z32 1:=by
     rw[a4v];exact if_pos ⟨i1,decide_eq_true ⟨by omega,by omega,by omega⟩⟩
    rw[e2];refine⟨V8 i1 hf (by decide) (by omega),by rw[List.length_append,a4v];simp;omega,fun m hm=>?_⟩;rw[a05 i1 hf (by decide) (by omega) m hm,i3 m hm];by_cases h1:aH+(n+k)≤m∧m<aH+(n+k)+1
    ·rw[if_pos h1,if_pos (by omega),show m - (aH+(n+k))=0 by omega]
     exact b9f rfl
    ·rw[if_neg h1]
     by_cases h2:aH+n≤m∧m<aH+n+k
     ·rw[if_pos h2,if_pos (by omega)]
     ·rw[if_neg h2,if_neg (by omega)]
   ·have e2:nT b (nS b aH n k ps) ((aH+(n+k):Nat):Int)=nS b aH n k ps:=by
     refine if_neg fun hh=>?_;have h1:=of_decide_eq_true hh.2;have h2:=((L8 _ _).1 hs).1.1;omega
    rw[e2];refine⟨i1,by omega,fun m hm=>?_⟩;rw[i3 m hm];by_cases h2:aH+n≤m∧m<aH+n+k
    ·rw[if_pos h2,if_pos (by omega)]
    ·rw[if_neg h2,if_neg (by omega)]
structure C9 (b:List UInt8) (ps:List WP) (base room:Int) (B:List UInt8) (hs:List Hd):Prop where
 len:B.length=(dC b ps).length
 inv:Aq B [] base room hs
 b84:gp B.length []=true
 FW:Found base room (dC b ps) hs
 sec:0≤base→base≤(((dC b ps).length/32:Nat):Int) → ∀ m,32*m+32≤(dC b ps).length→sec B m=if base.toNat+4*hs.length≤m∧m<base.toNat+4*dB room then z32 else sec (dC b ps) m
 same:(base<0∨(((dC b ps).length/32:Nat):Int)<base)→B=dC b ps
theorem b8N {b:List UInt8} {ps:List WP} {base room:Int} (hb : -9223372036854775808≤base∧base≤9223372036854775807) (hp:ps.length≤300) {B:List UInt8} {hs:List Hd} (hB:B=Qu b ps base room) (hh:hs=(dF base room (dC b ps)).2.2) :
  C9 b ps base room B hs:=by
 have F:=b7O base room (dC b ps);rw[←hh]at F;have hN:(dF base room (dC b ps)).1=hs.length:=by rw[F.eq]
 unfold Qu at hB;rw[hN]at hB;have hrm:dB room≤1024:=by unfold dB;omega
 have hsn:gp B.length []=true:=by rw[hB];exact b1P _ _
 by_cases hn:base<0∨(((dC b ps).length/32:Nat):Int)<base
 ·have e:Di b base room hs.length ps=ps:=by
   unfold Di;by_cases h0:base<0
   ·rw[if_pos h0]
   ·rw[if_neg h0]
    by_cases hs:gp b.length ps=true
    ·rw[FP b ps hs]at hn
     refine a1l hb.2 ((L8 _ _).1 hs).1.2.1 (by omega) _ _ ?_
     have:=F.fit
     omega
    ·exact UM hs _ _ _
  rw[e]at hB;have eq:=UE hsn;refine⟨by rw[hB],⟨by rw[eq,hB];exact F,fun h0 m m1 m2 m3=>?_⟩,hsn,F,fun h1 h2=>by omega,fun _=>hB⟩;rw[eq,hB]at m3;omega
 ·have h0 : ¬ base<0:=fun h=>hn (.inl h)
  obtain⟨aH,rfl⟩ : ∃ aH:Nat,base=aH:=⟨base.toNat,by omega⟩
  have hC:Di b aH room hs.length ps=nS b aH (4*hs.length) (4*dB room - 4*hs.length) ps:=if_neg h0;rw[hC]at hB
  have zu:B.length=(dC b ps).length∧∀ m,32*m+32≤(dC b ps).length→sec B m=if aH+4*hs.length≤m∧m<aH+4*dB room then z32 else sec (dC b ps) m:=by
   by_cases hs1:gp b.length ps=true
   ·have hz:=((L8 _ _).1 hs1).1.2.1
    rw[FP b ps hs1]at hn ⊢;obtain⟨i1,i2,i3⟩:=a1m hs1 aH (4*hs.length) (by omega) (4*dB room - 4*hs.length) (by have:=F.fit;omega) (by have:=F.fit;omega);refine⟨by rw[hB];exact FP _ _ i1,fun m hm=>?_⟩;rw[hB,i3 m hm]
    have:=F.fit
    rw[show aH+4*hs.length+(4*dB room - 4*hs.length)=aH+4*dB room by omega]
   ·have e:dC b ps=[]:=if_neg hs1
    rw[UM hs1]at hB;rw[hB,e];exact⟨rfl,fun m hm=>by simp at hm⟩
  have eq:=UE hsn;have hlen:B.length=(dC b ps).length:=zu.1
  have hrec:sV aH B 0 z32 hs:=Xb hlen.symm hs 0 z32 F.recs fun j _ hj=>a6p fun i hi=>by
   have hf:=a5Y _ _ hs 0 z32 F.recs;rw[Int.toNat_natCast,Nat.zero_add]at hf;rw[zu.2 _ (by omega),if_neg (by omega)]
  have hfz : ∀ m,aH+4*hs.length≤m→m<aH+4*dB room→32*m+32≤B.length→sec B m=z32:=fun m m1 m2 m3=>by
   rw[zu.2 m (by omega),if_pos ⟨m1,m2⟩]
  refine⟨hlen,⟨?_,fun _ m m1 m2 m3=>?_⟩,hsn,F,fun _ _ m hm=>?_,fun h=>absurd h hn⟩
  ·rw[eq]
   refine a19 (by omega) (by rw[hlen];omega) hrec F.fit (a5g fun q1 q2=>hfz _ ?_ ?_ ?_)
   ·rw[Int.toNat_natCast];omega
   ·rw[Int.toNat_natCast];omega
   ·omega
  ·rw[eq]at m3 ⊢
   exact hfz m m1 m2 m3
  ·exact zu.2 m hm
theorem dJ.own {w:World} {base:Nat} {e:TypeId} {A:Option Addr} {n c:Nat} {b:List UInt8} (h:w.ownsRow base e 1 (.slice A n c) n (b.map ah)):dJ w A b c none [] 0:=by
 have hl:b.length=n:=by have:=h.1;simpa using this
 obtain⟨A5,c5,h5,hc5,VK,b5t⟩:=dD h;injection h5 with h5 _ h6;subst h5 h6;exact⟨b5t,by omega,VK,.inl rfl,Nat.le_refl _,Nat.zero_le _,by simp⟩
def Fr (lo:Nat) (X:Nat→Prop) (w W:World):Prop:=∀ k,lo≤k→k<w.heap.size → ¬ X k→W.heap[k]?=w.heap[k]?
theorem Fr.oz {lo:Nat} {X:Nat→Prop} {w W:World} (h:Keep w W):Fr lo X w W:=fun k _ h2 _=>h.block k h2
theorem b72 {w W:World} {base size n c:Nat} {e:TypeId} {A:Option Addr} {xs:List Value} {X:Nat→Prop} (h:w.ownsRow base e size (.slice A n c) n xs) (hf:Fr base X w W) (hx : ∀ k,(Value.slice A n c).ownBlock=some k → ¬ X k) :
  W.ownsRow base e size (.slice A n c) n xs :=
 ⟨h.1,h.2.imp id fun⟨g,cap,cur,e1,e2,e3,e4⟩=>⟨g,cap,cur,e1,e2,(hf g e2 (Array.getElem?_eq_some_iff.1 e3).1 (hx g (by rw[e1];rfl))).trans e3,e4⟩⟩
theorem b70 {w:World} {base base' size size' n n':Nat} {e e':TypeId} {v v':Value} {xs xs':List Value} (h:w.ownsRow base e size v n xs) (h':w.ownsRow base' e' size' v' n' xs') (he:e≠e') : ∀ k,v.ownBlock=some k → ¬ v'.ownBlock=some k:=by
 intro k hk hk';rcases h.2 with⟨rfl,_⟩ | ⟨g,cap,cur,rfl,_,hg,_⟩
 ·simp[Value.ownBlock]at hk
 ·rcases h'.2 with⟨rfl,_⟩ | ⟨g',cap',cur',rfl,_,hg',_⟩
  ·simp[Value.ownBlock]at hk'
  ·have e1:g=k:=Option.some.inj hk
   have e2:g'=k:=Option.some.inj hk';subst e1 e2;rw[hg]at hg';injection hg' with hg';injection hg' with _ hg';exact he hg'
section
variable {A:Option Addr} {b:List UInt8} {c:Nat} {PA:Option Addr} {ws:List aG} {pc:Nat} {base room:Int} {w:World} {hs:List Hd} {cs:Array Value}
theorem b8O (A:Option Addr) (b:List UInt8) (c:Nat) (PA:Option Addr) (ws:List aG) (pc:Nat) (base room:Int) (w:World) (h:dJ w A b c PA ws pc) (hS:bV w) (hb : -9223372036854775808≤base∧base≤9223372036854775807) (hp:ws.length≤300) :
  Calls prog 44 #[dP A b.length c PA ws.length pc,.int .i64 base,.int .i64 room] w fun e w' => ∃ B hs A' c' cs fM ch,e = .returned (.tuple #[.agg cs,.slice fM hs.length ch])∧C9 b (ws.map aG.pl) base room B hs ∧
   gV (bW (.slice A' B.length c') (.slice none 0 0) base room (hs.length:Nat) (eQ 0 z32 hs)) cs∧(∀ W,Fr w.heap.size (fun k=>(Value.slice fM hs.length ch).ownBlock=some k) w' W→dJ W A' B c' none [] 0) ∧
   w'.ownsRow w.heap.size 29 68 (.slice fM hs.length ch) hs.length (hs.flatMap Hd.cells)∧(∀ x∈hs,x.ok)∧Keep w w':=by
 refine(b8P A b c PA ws pc base room w h hS hb).mono fun e w' ⟨B,hB,A',c',cs,hv,h1,h2,h3,h4,h5⟩=>?_;have R:=b8N hb (by rw[List.length_map];exact hp) hB rfl;have eB:dC B []=B:=UE R.b84;have e1:=R.inv.FW.eq;rw[eB]at e1;rw[e1]at h2;generalize (dF base room (dC b (ws.map aG.pl))).2.2=hs at *;obtain⟨fM,ch,rfl,_,_,_⟩:=dD h4;exact⟨B,hs,A',c',cs,fM,ch,h1,R,h2,fun W hW=>dJ.own (b72 h3 hW (b70 h3 h4 (by decide))),h4,a5Z _ _ _ _ _ R.FW.recs,h5⟩
structure XT (b:List UInt8) (base:Int) (hs:List Hd) (h:Hd) (ps qs:List WP):Prop where
 b0:0≤base
 eq:qs=ps++iM (base.toNat+4*hs.length:Nat) (iT (eQ 0 z32 hs) hs.length h) 4
 fit:32*(base.toNat+4*hs.length+4)≤b.length
 c4q:gp b.length qs=true
 c4r:gp b.length ps=true
theorem b1g (A:Option Addr) (b:List UInt8) (c:Nat) (PA:Option Addr) (ws:List aG) (pc:Nat) (base room:Int) (hs:List Hd) (cs:Array Value) (h:Hd) (hd:Array Value) (w:World) (F:World→Prop) (hF : ∀ W,Keep w W→F W) (h0 : ∀ W,F W→dJ W A b c PA ws pc) (hS:bV w) (hb : -9223372036854775808≤base∧base≤9223372036854775807)
  (hi:Aq b (ws.map aG.pl) base room hs) (hls:gV (bW (.slice A b.length c) (.slice PA ws.length pc) base room (hs.length:Nat) (eQ 0 z32 hs)) cs) (hk:h.ok) (hhd:bF h hd) :
  Calls prog 233 #[.agg cs,.agg hd] w fun e w' => ∃ A' c' PA' pc' vs cs' er,e = .returned (.tuple #[.agg cs',.int .i64 er])∧er=(y7 b base room hs.length (eQ 0 z32 hs) h (ws.map aG.pl)).1∧(∀ W,lY F w w' W→dJ W A' b c' PA' vs pc')∧Keep w w' ∧
   (er=0→gV (bW (.slice A' b.length c') (.slice PA' vs.length pc') base room ((hs++[h]).length:Nat) (eQ 0 z32 (hs++[h]))) cs'∧Aq b (vs.map aG.pl) base room (hs++[h])∧XT b base hs h (ws.map aG.pl) (vs.map aG.pl)) ∧
   (er≠0→(er=12∨er=14)∧gV (bW (.slice A' b.length c') (.slice PA' vs.length pc') base room (hs.length:Nat) (eQ 0 z32 hs)) cs'∧vs.map aG.pl=ws.map aG.pl):=by
 have hc:=b1h A b c PA ws pc base room (hs.length:Nat) (eQ 0 z32 hs) cs h hd w F hF h0 hS hb hls hk hhd;have eO:dF base room (bytesD b ws)=(hs.length,eQ 0 z32 hs,hs):=by rw[JK];exact hi.FW.eq
 rw[eO]at hc;refine hc.mono fun e w' ⟨A',c',PA',pc',vs,cs',dY,hA,h1,h2,h3,h4,h5⟩=>⟨A',c',PA',pc',vs,cs',dY.1,h1,by rw[hA],h4,h5,fun hz=>?_,fun hz=>?_⟩
 ·obtain⟨q0,q1,q2,q3,q4,q5,q6,q7⟩:=(a0U hi hk hb hA).1 hz
  rw[q1,q2]at h2;rw[←h3]at q3 q4 q5;rw[List.length_append,List.length_singleton];exact⟨h2,q3,⟨q0,q5,q6,q4,q7⟩⟩
 ·obtain⟨q1,q2⟩:=(a0U hi hk hb hA).2 hz
  have q3:dY.2.1=hs.length:=by rw[q2]
  have q4:dY.2.2.1=eQ 0 z32 hs:=by rw[q2]
  have q5:dY.2.2.2=ws.map aG.pl:=by rw[q2]
  rw[q3,q4]at h2;exact⟨q1,h2,h3.trans q5⟩
theorem D9 : ∀ (hs:List Hd) (k:Nat) (last:List UInt8),last.length=32→(eQ k last hs).length=32
 | [],_,_,h=>h
 | x::hs,k,last,_=>D9 hs (k+1) _ (by unfold kK;exact uw _)
end
theorem b6U {l:List UInt8} (h:l.length=32) : ∃ a0 a1 a2 a3 a4 a5 a6 a7 a8 a9 b0 b1 b2 b3 b4 b5 b6 b7 b8 b9 c0 c1 c2 c3 c4 c5 c6 c7 c8 c9 d0 d1:UInt8,l=[a0,a1,a2,a3,a4,a5,a6,a7,a8,a9,b0,b1,b2,b3,b4,b5,b6,b7,b8,b9,c0,c1,c2,c3,c4,c5,c6,c7,c8,c9,d0,d1]:=by
 match l,h with
 | [a0,a1,a2,a3,a4,a5,a6,a7,a8,a9,b0,b1,b2,b3,b4,b5,b6,b7,b8,b9,c0,c1,c2,c3,c4,c5,c6,c7,c8,c9,d0,d1],_=>exact⟨a0,a1,a2,a3,a4,a5,a6,a7,a8,a9,b0,b1,b2,b3,b4,b5,b6,b7,b8,b9,c0,c1,c2,c3,c4,c5,c6,c7,c8,c9,d0,d1,rfl⟩
theorem b6V {P:Program} {w:World} {ops:Array Oper} {rest:List Oper} {a:Act} {Q:Exit→Act→World→Prop} {parts:Array (Nat × Operand)} {dst:Option Tmp} {t ty':TypeId} {pos:String} {eG:Array Edge}
  (ps:List (Nat × Value)) (cells:Array Value) (hx:(parts.toList.map fun p=>(p.1,a.eval p.2))=ps) (hb:P.built t ps=some cells)
  (h:wpList P ops Q rest (a.put dst (.agg cells)) w):wpList P ops Q ({ dst:=dst,op:=.build t parts,type:=ty',pos:=pos,after:=eG,guard:=none}::rest) a w :=
 wpList_plain rfl fun _ hK=>wp_build t parts rfl (by rw[show(parts.map fun(i,x)=>(i,a.eval x)).toList=ps by rw[Array.toList_map];exact hx,hb];rfl) (by rw[show(parts.map fun(i,x)=>(i,a.eval x)).toList=ps by rw[Array.toList_map];exact hx,hb];exact hK _ _ h)
def uO (d0 d1:Value) (base room n:Int) (last:List UInt8) (ep:Int):List Value:=bW d0 d1 base room n last++[.int .i64 ep]
structure oN (l:List Value) (cs:Array Value):Prop where
 l:cs.toList=l
 z:cs.size=38
 i:(prog.info? 47).map (·.size)=some cs.size
 n : ¬ cs = #[]
 o : ∀ v∈cs.toList,v.oneCell'=true
theorem oN.of {A:Option Addr} {n c:Nat} {PA:Option Addr} {m pc:Nat} {base room k ep:Int} {last:List UInt8} {cs:Array Value} (hl:last.length=32) (h:cs.toList=uO (.slice A n c) (.slice PA m pc) base room k last ep):oN (uO (.slice A n c) (.slice PA m pc) base room k last ep) cs:=by
 have hz:cs.size=38:=by rw[←Array.length_toList,h];unfold uO;rw[List.length_append,oq hl];rfl
 refine⟨h,hz,by rw[hz];kernel_rfl,(fun e=>by rw[e]at hz;simp at hz),?_⟩;rw[h];intro v hv;rcases List.mem_append.1 hv with hv | hv
 ·exact LK _ _ _ _ _ _ rfl rfl v hv
 ·rw[List.mem_singleton.1 hv];rfl
noncomputable def XN:Array Value:=match(prog.info? 47).bind (·.zero)with | some (.agg c)=>c | _ => #[]
theorem a7D:XN.size=38:=by kernel_rfl
theorem c1Q (w:World):(zeroValue 47).run prog w = .ok (.agg XN) w:=by kernel_rfl
theorem QR : ∃ zs:Array Value,zs.size=38∧(∀ w,(zeroValue 47).run prog w = .ok (.agg zs) w)∧¬ zs = #[] :=
 ⟨XN,a7D,c1Q,fun h=>by have:=a7D;rw[h]at this;cases this⟩
theorem b1G (s0 s1:Value) (base room n:Int) {last:List UInt8} {lv:Array Value} (hl:last.length=32) (hv:lv.toList=bW s0 s1 base room n last) (ep:Int) :
  prog.built 47 [(0,.agg lv),(1,.int .i64 ep)]=some (uO s0 s1 base room n last ep).toArray:=by
 obtain rfl:lv=(bW s0 s1 base room n last).toArray:=by rw[←hv]
 obtain⟨a0,a1,a2,a3,a4,a5,a6,a7,a8,a9,b0,b1,b2,b3,b4,b5,b6,b7,b8,b9,c0,c1,c2,c3,c4,c5,c6,c7,c8,c9,d0,d1,rfl⟩:=b6U hl;kernel_rfl
theorem a6A {A:Option Addr} {n c:Nat} {PA:Option Addr} {m pc:Nat} {base room k:Int} {last:List UInt8} {lv:Array Value} (hl:last.length=32) (hv:lv.toList=bW (.slice A n c) (.slice PA m pc) base room k last) (ep:Int) :
  ∃ ss,oN (uO (.slice A n c) (.slice PA m pc) base room k last ep) ss∧prog.built 47 [(0,.agg lv),(1,.int .i64 ep)]=some ss :=
 ⟨_,oN.of hl rfl,b1G _ _ _ _ _ hl hv ep⟩
theorem b9J {d0 d1:Value} {base room n ep:Int} {last:List UInt8} (hl:last.length=32):((uO d0 d1 base room n last ep).drop 0).take 37=bW d0 d1 base room n last:=by
 unfold uO;rw[List.drop_zero,List.take_left' (oq hl)]
theorem a6c (n:Int):xg n≤1024:=by unfold xg;split <;> omega
def xX (r:Int) (room:Nat):Int:=4+r*4*room
theorem a0W {r:Int} (hr:r=0∨r=1) {m:Nat} (hm:m≤1024):4≤xX r m∧xX r m≤4100:=by
 unfold xX;rcases hr with rfl | rfl
 ·omega
 ·omega
theorem Fr.step {lo lo':Nat} {X:Nat→Prop} {w w' W:World} (h:Fr lo X w' W) (hl:lo≤lo') (hs:w.heap.size≤w'.heap.size) (hb : ∀ k,lo'≤k→k<w.heap.size → ¬ X k→w'.heap[k]?=w.heap[k]?):Fr lo' X w W :=
 fun k h1 h2 h3=>(h k (Nat.le_trans hl h1) (Nat.lt_of_lt_of_le h2 hs) h3).trans (hb k h1 h2 h3)
theorem Fr.keep {lo:Nat} {X:Nat→Prop} {w w' W:World} (h:Fr lo X w W) (hk:Keep w' w):Fr lo X w' W :=
 fun k h1 h2 h3=>(h k h1 (Nat.lt_of_lt_of_le h2 hk.size) h3).trans (hk.block k h2)
structure Ul (b:List UInt8) (ps:List WP) (ep:Int) (base:Int) (room:Nat) (B:List UInt8) (hs:List Hd):Prop where
 c2I:ep=(ni (dC b ps)).1
 b1j:base=xX (ni (dC b ps)).2.1 room
 b8T:room=xg ((b.length/32:Nat):Int)
 R:C9 b ps base room B hs
theorem b9z (A:Option Addr) (b:List UInt8) (c:Nat) (PA:Option Addr) (ws:List aG) (pc:Nat) (w:World) (h:dJ w A b c PA ws pc) (hS:bV w) (hp:ws.length≤300) :
  Calls prog 24 #[dP A b.length c PA ws.length pc] w fun e w' => ∃ ep base room B hs A' c' cs fM ch,e = .returned (.tuple #[.agg cs,.slice fM hs.length ch])∧Ul b (ws.map aG.pl) ep base room B hs ∧
   oN (uO (.slice A' B.length c') (.slice none 0 0) base room (hs.length:Nat) (eQ 0 z32 hs) ep) cs∧(∀ W,Fr w.heap.size (fun k=>(Value.slice fM hs.length ch).ownBlock=some k) w' W→dJ W A' B c' none [] 0) ∧
   w'.ownsRow w.heap.size 29 68 (.slice fM hs.length ch) hs.length (hs.flatMap Hd.cells)∧(∀ x∈hs,x.ok)∧Keep w w':=by
 have F1:Hid (∀ w',Keep w w'→Calls prog 41 #[dP A b.length c PA ws.length pc] w' fun e w''=>e = .returned (.tuple #[.int .i64 (ni (dC b (ws.map aG.pl))).1,.int .i64 (ni (dC b (ws.map aG.pl))).2.1])∧Keep w' w''):=fun w' hk=>by
  have h1:=b9p A b c PA ws pc w' (h.keep hk) (hS.keep hk);rw[JK]at h1;exact h1
 have hT:=a4I (dC b (ws.map aG.pl));have hbc:=h.bc;have hcm:=h.cm
 unfold maxLen at hcm
 have R1:Hid (∀ w' base room,Keep w w'→(-9223372036854775808≤base∧base≤9223372036854775807)→Calls prog 44 #[dP A b.length c PA ws.length pc,.int .i64 base,.int .i64 room] w' fun e w'' => ∃ B hs A' c' cs fM ch,e = .returned (.tuple #[.agg cs,.slice fM hs.length ch])∧C9 b (ws.map aG.pl) base room B hs ∧
   gV (bW (.slice A' B.length c') (.slice none 0 0) base room (hs.length:Nat) (eQ 0 z32 hs)) cs∧(∀ W,Fr w'.heap.size (fun k=>(Value.slice fM hs.length ch).ownBlock=some k) w'' W→dJ W A' B c' none [] 0) ∧
   w''.ownsRow w'.heap.size 29 68 (.slice fM hs.length ch) hs.length (hs.flatMap Hd.cells)∧(∀ x∈hs,x.ok)∧Keep w' w''):=fun w' base room hk hb=>b8O A b c PA ws pc base room w' (h.keep hk) (hS.keep hk) hb hp
 have ZJ:Hid (∀ ep r room B hs,ep=(ni (dC b (ws.map aG.pl))).1→r=(ni (dC b (ws.map aG.pl))).2.1→room=xg ((b.length/32:Nat):Int)→C9 b (ws.map aG.pl) (xX r room) room B hs→Ul b (ws.map aG.pl) ep (xX r room) room B hs):=fun ep r room B hs h1 h2 h3 h4=>⟨h1,by rw[h2],h3,h4⟩
 have hrm:=a6c ((b.length/32:Nat):Int);have M1:Hid (∀ w',Calls prog 42 #[.int .i64 ((b.length/32:Nat):Int)] w' fun e w''=>e = .returned (.int .i64 (xg ((b.length/32:Nat):Int)))∧w'=w''):=fun w'=>b8U _ w' (by omega);generalize Pm:ni (dC b (ws.map aG.pl))=L at *;obtain⟨ep,r,sl⟩:=L;generalize hRe:xg ((b.length/32:Nat):Int)=room at *;have c2i:=hid hRe;have a9k:Hid (∀ B hs,C9 b (ws.map aG.pl) (xX r room) room B hs→Ul b (ws.map aG.pl) ep (xX r room) room B hs):=fun B hs h4=>ZJ.out ep r room B hs rfl rfl rfl h4;have c3g:=a0W hT.r hrm;have hr:=hT.r;have a2P:0≤r∧r≤1:=by rcases hr with e | e <;> (simp only at e;omega)
 have E1:Hid (∀ w',Calls prog 45 #[.int .i64 r,.int .i64 (room:Int)] w' fun e w''=>e = .returned (.int .i64 (xX r room))∧Keep w' w''):=fun w'=>(b1m r room w' a2P (by omega)).mono fun e w'' ⟨h1,h2⟩=>⟨h1,by rw[h2];exact Below.refl _ _⟩
 obtain⟨zs,hz1,hz2,hz3⟩:=QR;obtain⟨jQ,hl1,hl2,hl3⟩:=Ey;clear ZJ hT hr a2P Pm hRe h hS hp;generalize hbg:xX r room=FI at *;clear hbg;generalize b.length=bl at *;generalize ws.length=wl at *;go_enter func24,ntmps24
 go_upto_region 1 with fail
 obtain⟨w1,hw1,HD1,HR1,ai,Gf⟩:=vX w 43 47 [.slice A bl c,.slice PA wl pc] zs;rw[←hw1];clear hw1;have c0:=HD1.out.cell 0;have c1:=HD1.out.cell 1
 simp only[List.getElem?_cons_zero,List.getElem?_cons_succ]at c0 c1;go_wp2_with fail
 refine(F1.out w1 ai.out).mono ?_;rintro e w2 ⟨rfl,k2⟩;replace c0:=aC k2 c0;replace c1:=aC k2 c1;have ay:=hid (af ai.out k2);have HR2:=hid (HR1.out.keep k2);have b5G:w1.heap.size≤w2.heap.size:=k2.size;clear k2;go_wp2_with fail
 refine(b9G A bl c (.slice PA wl pc) w2 (by omega)).mono ?_;rintro e w3 ⟨rfl,k3⟩;replace c0:=aC k3 c0;replace c1:=aC k3 c1;have aA:=hid (af ay.out k3);have HR3:=hid (HR2.out.keep k3);have b5H:w2.heap.size≤w3.heap.size:=k3.size;clear k3;go_wp2_with fail
 refine(M1.out w3).mono ?_;rintro e _ ⟨rfl,rfl⟩;have C0:=hid c0;have C1:=hid c1
 clear c0 c1 HD1;go_upto_region 3 with fail
 go_cut [7,8] (fun s7 s8 wx => ∃ p B hs A' c' cs fM ch,s7 = .pointer (some ⟨p,0,none⟩)∧s8 = .slice fM hs.length ch∧w3.heap.size≤p∧Hid (Keep w3 wx)∧Hid (C9 b (ws.map aG.pl) FI room B hs)∧Hid (gV (bW (.slice A' B.length c') (.slice none 0 0) FI room (hs.length:Nat) (eQ 0 z32 hs)) cs)∧Hid (ae wx p 45 cs.toList) ∧
   Hid (∀ W,Fr w3.heap.size (fun k=>(Value.slice fM hs.length ch).ownBlock=some k) wx W→dJ W A' B c' none [] 0)∧Hid (wx.ownsRow w3.heap.size 29 68 (.slice fM hs.length ch) hs.length (hs.flatMap Hd.cells))∧Hid (∀ x∈hs,x.ok))
 case first =>
  refine bu (.take [0,1,2,4] (.fork 3 (.fork 5 (.take [6,7,8] (.force [9] .done)) 9 (.force [5] (.take [6,7,8] .done))) 9 (.force [3,5] (.take [6,7,8] .done)))) [10,11] (by kernel_rfl) (by kernel_rfl) (fun y0 hk=>?_);have Q:=hid hk;clear hk;refine aN y0 (Below.refl _ _) ?_;simp only[au,ax,ak,aj];have a0:=aF (aC Q.out C0.out);have a1:=aF (aC Q.out C1.out)
  iterate 4 (go_big_quiet_step (fail))
  clear a0 a1;refine wpQuiet_nil (ny ?_ ?_)
  ·simp only[au,ax,ak,aj]
   refine aI rfl (fun K hK=>?_);go_simp
   (with_reducible refine(E1.out y0).mono ?_)
   rintro e y1 ⟨rfl,hk⟩;refine hK _ _ hk ?_;clear hK K;have a9c:w3.heap.size≤y0.heap.size:=Q.out.size;replace Q:=hid (af Q.out hk);have b5y:y0.heap.size≤y1.heap.size:=hk.size;clear hk;refine aS (ny ?_ ?_)
   ·simp only[au,ax,ak,aj]
    refine aI rfl (fun K hK=>?_);go_simp
    (with_reducible refine(R1.out y1 FI room (af aA.out Q.out) (by omega)).mono ?_)
    rintro e y2 ⟨B,hs,A5,c5,cs,fM,ch,rfl,hR,hcs,hd,own,hok,hk⟩;refine hK _ _ hk ?_;clear hK K;have yQ:w3.heap.size≤y1.heap.size:=Q.out.size;replace Q:=hid (af Q.out hk);have b5z:y1.heap.size≤y2.heap.size:=hk.size;have hcz:=hcs.z;have hcn:=hcs.n;have hci:=hcs.i
    have Ci:=hid hR;have dh:=hid hcs;have xQ:=hid hok
    have gU:=hid (wU own yQ);have Jm:Hid (∀ k,(Value.slice fM hs.length ch).ownBlock=some k→y1.heap.size≤k∧k<y2.heap.size):=fun k e=>own.lt k e;have Hdk:=hid hd;have xI:Hid (Keep y2 y2):=Below.refl _ _;clear hR hcs hd own hok;clear hk;refine aS (aN y2 (Below.refl _ _) ?_);simp only[au,ax,ak,aj];repeat(go_big_quiet_step (fail))
    refine wpQuiet_nil (bI ?_);simp only[au,ax,ak,aj];refine aI rfl (fun K hK=>?_);go_simp;refine hK _ _ (aB _ _) ?_;clear hK K;obtain⟨y3,hy,kW,hk,-⟩:=di y2 45 jQ;replace hk:=hk.out;rw[←hy];clear hy;have Zx:y2.heap.size<y3.heap.size:=kW.out.lt;have Zw:=Q.out.size;replace Q:=hid (af Q.out hk);have b5A:y2.heap.size≤y3.heap.size:=hk.size;replace xI:=hid (af xI.out hk);replace gU:=hid (jM gU.out hk);clear hk;generalize hp:y2.heap.size=p9 at *;have Zu:y2.heap.size≤p9:=Nat.le_of_eq hp;have Zv:p9≤y2.heap.size:=Nat.le_of_eq hp.symm;clear hp;refine aS (aT ?_);obtain⟨wa,lN,hba,hga⟩:=bn (P:=prog) cs.toList kW.out (by simp[hl1,hcz]) dh.out.o;have CO:=hid hba;have pM:=hid hga
    have hKs:=xI.out.size;have hPl:=kW.out.lt;have VC:=hga.size;have a2y:=Q.out.size
    have hne:(Value.slice fM hs.length ch).ownBlock≠some p9:=fun e=>by have:=Jm.out p9 e;omega
    clear hba hga;go_wp2
    go_meet
    refine⟨p9,B,hs,A5,c5,cs,fM,ch,rfl,rfl,by omega,hid (aK Q.out pM.out (by omega)),Ci,dh,CO,hid (fun W hW=>Hdk.out W (fun k h1 h2 h3=>?_)),hid (gU.out.kept pM.out (.inr hne)),xQ⟩;exact(hW k (by omega) (by omega) h3).trans ((pM.out.block k (by omega) (iw (by omega))).trans (xI.out.block k h2))
   ·simp only[au,ax,ak,aj]
    refine aI rfl (fun K hK=>?_);go_simp;refine hK _ _ (aB _ _) ?_;clear hK K;obtain⟨y4,hy,kW,hk,-⟩:=di y1 45 jQ;replace hk:=hk.out;rw[←hy];clear hy;have Zx:y1.heap.size<y4.heap.size:=kW.out.lt;have Zw:=Q.out.size;replace Q:=hid (af Q.out hk);have b5B:y1.heap.size≤y4.heap.size:=hk.size;clear hk;generalize hp:y1.heap.size=p9 at *;have Zu:y1.heap.size≤p9:=Nat.le_of_eq hp;have Zv:p9≤y1.heap.size:=Nat.le_of_eq hp.symm;clear hp;refine aS (bI ?_);simp only[au,ax,ak,aj];refine aI rfl (fun K hK=>?_);go_simp
    (with_reducible refine(R1.out y4 FI room (af aA.out Q.out) (by omega)).mono ?_)
    rintro e zW ⟨B,hs,A5,c5,cs,fM,ch,rfl,hR,hcs,hd,own,hok,hk⟩;refine hK _ _ hk ?_;clear hK K;have yQ:w3.heap.size≤y4.heap.size:=Q.out.size;replace Q:=hid (af Q.out hk);have c3P:y4.heap.size≤zW.heap.size:=hk.size;replace kW:=hid (kW.out.keep hk);have hcz:=hcs.z;have hcn:=hcs.n;have hci:=hcs.i
    have Ci:=hid hR;have dh:=hid hcs;have xQ:=hid hok
    have gU:=hid (wU own yQ);have Jm:Hid (∀ k,(Value.slice fM hs.length ch).ownBlock=some k→y4.heap.size≤k∧k<zW.heap.size):=fun k e=>own.lt k e;have Hdk:=hid hd;have xI:Hid (Keep zW zW):=Below.refl _ _;clear hR hcs hd own hok;clear hk;refine aS (aN zW (Below.refl _ _) ?_);simp only[au,ax,ak,aj];repeat(go_big_quiet_step (fail))
    refine wpQuiet_nil (aT ?_);obtain⟨wa,lN,hba,hga⟩:=bn (P:=prog) cs.toList kW.out (by simp[hl1,hcz]) dh.out.o;have CO:=hid hba;have pM:=hid hga
    have hKs:=xI.out.size;have hPl:=kW.out.lt;have VC:=hga.size;have a2y:=Q.out.size
    have hne:(Value.slice fM hs.length ch).ownBlock≠some p9:=fun e=>by have:=Jm.out p9 e;omega
    clear hba hga;go_wp2
    go_meet
    refine⟨p9,B,hs,A5,c5,cs,fM,ch,rfl,rfl,by omega,hid (aK Q.out pM.out (by omega)),Ci,dh,CO,hid (fun W hW=>Hdk.out W (fun k h1 h2 h3=>?_)),hid (gU.out.kept pM.out (.inr hne)),xQ⟩;exact(hW k (by omega) (by omega) h3).trans ((pM.out.block k (by omega) (iw (by omega))).trans (xI.out.block k h2))
  ·simp only[au,ax,ak,aj]
   refine aI rfl (fun K hK=>?_);go_simp;refine hK _ _ (aB _ _) ?_;clear hK K;obtain⟨y6,hy,kW,hk,-⟩:=di y0 45 jQ;replace hk:=hk.out;rw[←hy];clear hy;have Zx:y0.heap.size<y6.heap.size:=kW.out.lt;have Zw:=Q.out.size;replace Q:=hid (af Q.out hk);have c3Q:y0.heap.size≤y6.heap.size:=hk.size;clear hk;generalize hp:y0.heap.size=p9 at *;have Zu:y0.heap.size≤p9:=Nat.le_of_eq hp;have Zv:p9≤y0.heap.size:=Nat.le_of_eq hp.symm;clear hp;refine aS (bI ?_);simp only[au,ax,ak,aj];refine aI rfl (fun K hK=>?_);go_simp
   (with_reducible refine(E1.out y6).mono ?_)
   rintro e zX ⟨rfl,hk⟩;refine hK _ _ hk ?_;clear hK K;have a9c:w3.heap.size≤y6.heap.size:=Q.out.size;replace Q:=hid (af Q.out hk);have c3R:y6.heap.size≤zX.heap.size:=hk.size;replace kW:=hid (kW.out.keep hk);clear hk;refine aI rfl (fun K hK=>?_);go_simp
   (with_reducible refine(R1.out zX FI room (af aA.out Q.out) (by omega)).mono ?_)
   rintro e BC ⟨B,hs,A5,c5,cs,fM,ch,rfl,hR,hcs,hd,own,hok,hk⟩;refine hK _ _ hk ?_;clear hK K;have yQ:w3.heap.size≤zX.heap.size:=Q.out.size;replace Q:=hid (af Q.out hk);have c3S:zX.heap.size≤BC.heap.size:=hk.size;replace kW:=hid (kW.out.keep hk);have hcz:=hcs.z;have hcn:=hcs.n;have hci:=hcs.i
   have Ci:=hid hR;have dh:=hid hcs;have xQ:=hid hok
   have gU:=hid (wU own yQ);have Jm:Hid (∀ k,(Value.slice fM hs.length ch).ownBlock=some k→zX.heap.size≤k∧k<BC.heap.size):=fun k e=>own.lt k e;have Hdk:=hid hd;have xI:Hid (Keep BC BC):=Below.refl _ _;clear hR hcs hd own hok;clear hk;refine aS (aN BC (Below.refl _ _) ?_);simp only[au,ax,ak,aj];repeat(go_big_quiet_step (fail))
   refine wpQuiet_nil (aT ?_);obtain⟨wa,lN,hba,hga⟩:=bn (P:=prog) cs.toList kW.out (by simp[hl1,hcz]) dh.out.o;have CO:=hid hba;have pM:=hid hga
   have hKs:=xI.out.size;have hPl:=kW.out.lt;have VC:=hga.size;have a2y:=Q.out.size
   have hne:(Value.slice fM hs.length ch).ownBlock≠some p9:=fun e=>by have:=Jm.out p9 e;omega
   clear hba hga;go_wp2
   go_meet
   refine⟨p9,B,hs,A5,c5,cs,fM,ch,rfl,rfl,by omega,hid (aK Q.out pM.out (by omega)),Ci,dh,CO,hid (fun W hW=>Hdk.out W (fun k h1 h2 h3=>?_)),hid (gU.out.kept pM.out (.inr hne)),xQ⟩;exact(hW k (by omega) (by omega) h3).trans ((pM.out.block k (by omega) (iw (by omega))).trans (xI.out.block k h2))
 case rest =>
  obtain⟨p,B,hs,A5,c5,cs,fM,ch,rfl,rfl,hp,Kc,Ci,dh,vg,Hdk,gU,xQ⟩:=hcut;have hci:=dh.out.i;have hcz:=dh.out.z;have hcn:=dh.out.n
  obtain⟨ss,hss,hbu⟩:=a6A (D9 hs 0 z32 rfl) dh.out.l ep;have hsz:=hss.z;have hsn:=hss.n;have hsi:=hss.i
  have Jo:=hid hss;have a9Q:=hid hbu
  have hKc:=Kc.out.size;obtain⟨wa,lN,hba,hga⟩:=bn (P:=prog) ss.toList (HR3.out.keep Kc.out) (by simp[hz1,hsz]) Jo.out.o;have CO:=hid hba;have pM:=hid hga
  clear hss hbu hba hga
  go_wp2_with (first
   | ((with_reducible refine bY p cs (Eq.trans ?_ rfl) vg.out _ underlying45 rfl hci ?_);rfl)
   | ((with_reducible refine b6V [(0,.agg cs),(1,.int .i64 ep)] ss (Eq.trans ?_ rfl) a9Q.out ?_);rfl))
  have c4a:w1.heap.size≤w3.heap.size:=by omega
  refine bodyPost_ret (v:=.tuple #[.agg ss,.slice fM hs.length ch]) (lq results24 CO.out underlying47 hsi rfl rfl) rfl ⟨ep,FI,room,B,hs,A5,c5,ss,fM,ch,rfl,a9k.out B hs Ci.out,Jo.out,fun W hW=>Hdk.out W (fun k h1 h2 h3=>?_),wU (gU.out.kept pM.out (.inr (fun e=>by have h1:=(gU.out.lt _ e).1;omega))) (by omega),xQ.out,aK (af aA.out Kc.out) pM.out (by omega)⟩;have VC:=pM.out.size;exact(hW k (by omega) (by omega) h3).trans (pM.out.block k h2 (iw (by omega)))
end Go.Proofs.YtiagcenlnekdeaaGreatDoor
