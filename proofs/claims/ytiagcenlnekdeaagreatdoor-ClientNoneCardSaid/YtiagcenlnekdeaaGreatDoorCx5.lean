/- Texts merged by pack.py: Sha. -/
import Derived.Test.YtiagcenlnekdeaaGreatDoorRows
import Derived.Test.YtiagcenlnekdeaaGreatDoorCx2
import Derived.Test.YtiagcenlnekdeaaGreatDoorCx3
import Derived.Test.YtiagcenlnekdeaaGreatDoorCx4
import Derived.Deep.RegionHeld3
import Derived.Deep.DrawnRows
import Derived.Deep.DeepCutAuto
import Derived.Deep.RegionLaw
import Derived.Deep.MidRow
import Derived.Deep.WholeRow
set_option maxRecDepth 1000000
set_option maxHeartbeats 16000000
open Go.Proofs.Tryz
open Go.Lib (hid)
set_option linter.unusedSimpArgs false
set_option linter.unusedVariables false
namespace Go.Proofs.YtiagcenlnekdeaaGreatDoor
open Go.RowKit
attribute [local go_sem ↓] Go.wp_at_zero Go.wp_at_succ
def a6d (x:UInt32) (s:Nat):UInt32:=w32 (bits .or .u32 ((x.toNat:Int)*2^s%4294967296) ((x.toNat:Int)/2^(32 - s)))
theorem b8V (x:UInt32) (k:Int) (s:Nat) (w:World) (hs:bits BinOp.and IntKind.u64 (IntKind.u64.wrap k) 31=s) (hs1:1≤s) (hs2:s≤31) :
  Calls prog 208 #[ag x,.int .i64 k] w fun e w'=>e = .returned (ag (a6d x s))∧w=w':=by
 have hx:=G6 x;go_enter func208,ntmps208
 go_wp2
 go_ret
 exact⟨Gz (BB (bits_lo_u32 _ _ _) (bits_hi_u32 _ _ _)),rfl⟩
def xh (x:UInt32) (n:Nat):UInt32:=a6d x (32 - n)
theorem Xu (x:UInt32) (k:Int) (w:World) (hs:bits BinOp.and IntKind.u64 (IntKind.u64.wrap (-k)) 31=(32 - k.toNat:Nat)) (hs1:1≤k.toNat) (hs2:k.toNat≤31) :
  Calls prog 182 #[ag x,.int .i64 k] w fun e w'=>e = .returned (ag (xh x k.toNat))∧w=w':=by
 go_enter func182,ntmps182
 go_wp2_with fail
 refine(b8V x (-k) (32 - k.toNat) w hs (by omega) (by omega)).mono ?_;rintro e w1 ⟨rfl,rfl⟩;go_wp2
 go_ret
 exact⟨rfl,rfl⟩
def z64:List UInt32:=List.replicate 64 0
def Uz (y0 y1 y2 y3:UInt8):Int:=bits .or .u32 (bits .or .u32 (bits .or .u32 ((y0.toNat:Int)%4294967296*16777216%4294967296) ((y1.toNat:Int)%4294967296*65536%4294967296)) ((y2.toNat:Int)%4294967296*256%4294967296)) ((y3.toNat:Int)%4294967296)
def be32 (b:List UInt8) (k:Nat):UInt32:=w32 (Uz (b.getD (4*k) 0) (b.getD (4*k+1) 0) (b.getD (4*k+2) 0) (b.getD (4*k+3) 0))
def MG (x y a c:UInt32):Int:=(bits .xor .u32 (bits .xor .u32 ((xh y 17).toNat:Int) ((xh y 19).toNat:Int)) ((y.toNat:Int)/1024)+(a.toNat:Int)+bits .xor .u32 (bits .xor .u32 ((xh x 7).toNat:Int) ((xh x 18).toNat:Int)) ((x.toNat:Int)/8)+(c.toNat:Int))%4294967296
def wd2 (l:List UInt32):Nat→List UInt32
 | 0=>l
 | j+1=>(wd2 l j).set (j+16) (w32 (MG ((wd2 l j).getD (j+1) 0) ((wd2 l j).getD (j+14) 0) ((wd2 l j).getD (j+9) 0) ((wd2 l j).getD j 0)))
theorem Xy (l:List UInt32) (j:Nat):(wd2 l j).length=l.length:=by
 induction j with
 | zero=>rfl
 | succ j ih=>rw[wd2,List.length_set,ih]
def zT (b:List UInt8):Nat→List UInt32
 | 0=>z64
 | k+1=>(zT b k).set k (be32 b k)
theorem Xx (b:List UInt8) (k:Nat):(zT b k).length=64:=by
 induction k with
 | zero=>rfl
 | succ k ih=>rw[zT,List.length_set,ih]
def Ep (b:List UInt8):List UInt32:=wd2 (zT b 16) 48
theorem a7o (w:World) (n:Nat) (hn:n=w.heap.size):ae (w.alloc (.cells #[.int .u32 0,.int .u32 0,.int .u32 0,.int .u32 0,.int .u32 0,.int .u32 0,.int .u32 0,.int .u32 0,.int .u32 0,.int .u32 0,.int .u32 0,.int .u32 0,.int .u32 0,.int .u32 0,.int .u32 0,.int .u32 0,.int .u32 0,.int .u32 0,.int .u32 0,.int .u32 0,.int .u32 0,.int .u32 0,.int .u32 0,.int .u32 0,.int .u32 0,.int .u32 0,.int .u32 0,.int .u32 0,.int .u32 0,.int .u32 0,.int .u32 0,.int .u32 0,.int .u32 0,.int .u32 0,.int .u32 0,.int .u32 0,.int .u32 0,.int .u32 0,.int .u32 0,.int .u32 0,.int .u32 0,.int .u32 0,.int .u32 0,.int .u32 0,.int .u32 0,.int .u32 0,.int .u32 0,.int .u32 0,.int .u32 0,.int .u32 0,.int .u32 0,.int .u32 0,.int .u32 0,.int .u32 0,.int .u32 0,.int .u32 0,.int .u32 0,.int .u32 0,.int .u32 0,.int .u32 0,.int .u32 0,.int .u32 0,.int .u32 0,.int .u32 0] 316)) n 316 (z64.map ag):=hn ▸ ae.new w _ (z64.map ag)
theorem c02 (A:Option Addr) (b:List UInt8) (c:Nat) (w:World) (hb:b.length=64) (hr:Rd w A (b.map ah)) :
  Calls prog 181 #[.slice A 64 c] w fun e w'=>e = .returned (.agg ((Ep b).map ag).toArray)∧Keep w w':=by
 go_enter func181,ntmps181
 go_wp2_with fail
 go_loopw [10] (fun i wr => ∃ k:Nat,k≤16∧i = .int .i64 k∧Keep w wr∧ae wr w.heap.size 316 (z64.map ag)∧ae wr (w.heap.size+1) 316 ((zT b k).map ag)) (fun i _=>16 - (intOf i).toNat)
 case atStart=>exact⟨0,by omega,rfl,af (aB _ _) (aB _ _),(a7o _ _ rfl).alloc _,a7o _ _ (by simp)⟩
 case round =>
  obtain⟨k,hk,rfl,hkr,hb0,hb1⟩:=hrel;by_cases hlt:k<16
  ·obtain⟨g,off,rfl,hg,hc⟩:=(hr.keep hkr).at (k:=0) (by simp;omega)
   have rd : ∀ j y,b[j]?=some y→wr.cell? ⟨g,off+j,none⟩=some (ah y):=fun j y h=>by
    obtain⟨hj,rfl⟩:=List.getElem?_eq_some_iff.1 h;rw[hc j (by simpa using hj)];simp
   obtain⟨y0,h0⟩ : ∃ y,b[4*k]?=some y:=⟨_,List.getElem?_eq_getElem (by omega)⟩
   obtain⟨y1,h1⟩ : ∃ y,b[4*k+1]?=some y:=⟨_,List.getElem?_eq_getElem (by omega)⟩
   obtain⟨y2,h2⟩ : ∃ y,b[4*k+2]?=some y:=⟨_,List.getElem?_eq_getElem (by omega)⟩
   obtain⟨y3,h3⟩ : ∃ y,b[4*k+3]?=some y:=⟨_,List.getElem?_eq_getElem (by omega)⟩
   have e0:=rd _ _ h0;have e1:=rd _ _ h1;have e2:=rd _ _ h2;have e3:=rd _ _ h3
   have a9I:=hid (show be32 b k=w32 (Uz y0 y1 y2 y3) by unfold be32;rw[qJ h0,qJ h1,qJ h2,qJ h3]);clear h0 h1 h2 h3;have Hb0:=hid hb0;have Hb1:=hid hb1;clear hb0 hb1
   clear hc rd;go_wp2
   refine bu (.take [0,1,2,3,4,5,6,7,8,9,10,11,12,13,14,15,16,17,18,19,20,21,22,23,24,25,26,27,28,29,30,31,32,33,34] .done) [35] (by kernel_rfl) (by kernel_rfl) (fun w1 k1=>?_);have a0:=aF (aC k1 e0);have a1:=aF (aC k1 e1);have a2:=aF (aC k1 e2);have a3:=aF (aC k1 e3)
   refine aN w1 (Below.refl _ _) ?_;simp only[au,ax,ak,aj];repeat(go_big_quiet_step (fail))
   refine wpQuiet_nil (aT ?_);have hb1:ae w1 (w.heap.size+1) 316 ((zT b k).map ag):=Hb1.out.keep k1;have Ti:=hid hb1;have x0:=hb1.cell k;rw[List.getElem?_map,List.getElem?_eq_getElem (by rw[Xx];omega)]at x0;have x1:=hb1.frozen k;have a9D:=hid (Hb0.out.keep k1);have k9:=af hkr k1;clear a0 a1 a2 a3 e0 e1 e2 e3 hb1;go_wp2
   go_roundw
   case rel =>
    refine⟨k+1,by omega,by go_num,k9.setCell (by simp) _,a9D.out.far (by simp) _,?_⟩;rw[zT,a9I.out,Xl _ _ (Uz y0 y1 y2 y3) (bits_lo_u32 _ _ _) (bits_hi_u32 _ _ _)];exact Ti.out.az _ _
   case measure=>simp[intOf];omega
  ·have Hk:=hid (show k=16 by omega)
   have Hb0:=hid hb0;have Hb1:=hid hb1;clear hb0 hb1
   go_wp2_with fail
   have hll:(zT b k).length=64:=Xx b k;generalize hl:zT b k=l at Hb1 hll;have pO:=hid hl;clear hl;have hkw:=hkr
   go_loopw [5] (fun i wr => ∃ j:Nat,j≤48∧i = .int .i64 ((j+16:Nat):Int)∧Keep w wr∧ae wr w.heap.size 316 (z64.map ag)∧ae wr (w.heap.size+1) 316 ((wd2 l j).map ag)) (fun i _=>64 - (intOf i).toNat)
   case atStart=>exact⟨0,by omega,rfl,hkw,Hb0.out,Hb1.out⟩
   case round =>
    obtain⟨j,hj,rfl,hkr,hb0,hb1⟩:=hrel;by_cases hlt:j<48
    ·have hl':(wd2 l j).length=64:=by rw[Xy,hll]
     obtain⟨x,h0⟩ : ∃ y,(wd2 l j)[j+1]?=some y:=⟨_,List.getElem?_eq_getElem (by omega)⟩
     obtain⟨y,h1⟩ : ∃ y,(wd2 l j)[j+14]?=some y:=⟨_,List.getElem?_eq_getElem (by omega)⟩
     obtain⟨a,h2⟩ : ∃ y,(wd2 l j)[j+9]?=some y:=⟨_,List.getElem?_eq_getElem (by omega)⟩
     obtain⟨d,h3⟩ : ∃ y,(wd2 l j)[j]?=some y:=⟨_,List.getElem?_eq_getElem (by omega)⟩
     obtain⟨o,h4⟩ : ∃ y,(wd2 l j)[j+16]?=some y:=⟨_,List.getElem?_eq_getElem (by omega)⟩
     have b0o:=hid (show wd2 l (j+1)=(wd2 l j).set (j+16) (w32 (MG x y a d)) by rw[wd2,qJ h0,qJ h1,qJ h2,qJ h3]);have c0:=hb1.cell (j+1);rw[List.getElem?_map,h0]at c0;have c1:=hb1.cell (j+14);rw[List.getElem?_map,h1]at c1;have c2:=hb1.cell (j+9);rw[List.getElem?_map,h2]at c2;have c3:=hb1.cell j;rw[List.getElem?_map,h3]at c3;have c4:=hb1.cell (j+16);rw[List.getElem?_map,h4]at c4;have f4:=hb1.frozen (j+16);simp only[Option.map_some]at c0 c1 c2 c3 c4;have Hb0:=hid hb0;have Hb1:=hid hb1
     clear hb0 hb1 h0 h1 h2 h3 h4;go_wp2
     have a0:=aF c0;have a1:=aF c1
     refine lC (by kernel_rfl) (by kernel_rfl) wr (Below.refl _ _) ?_;repeat(go_big_quiet_step (fail))
     refine wpQuiet_nil ?_;rintro _ ⟨z,rfl⟩;have k2:=jg wr z;generalize dn wr z=w2 at k2 ⊢;clear a0 a1 c0 c1;replace c2:=aC k2 c2;replace c3:=aC k2 c3;have k3:=af hkr k2;replace f4:=fU k2 (cell_lt c4) f4;replace c4:=aC k2 c4;go_wp2_with (go_at_call 182;refine(Xu _ _ _ (by rfl) (by decide) (by decide)).mono ?_;rintro e w9 ⟨rfl,rfl⟩)
     refine bu (.take [0,1,2,3,4,5,6,7,8,9,10,11,12,13,14] .done) [15] (by kernel_rfl) (by kernel_rfl) (fun w1 k1=>?_);have a2:=aF (aC k1 c2);have a3:=aF (aC k1 c3)
     refine aN w1 (Below.refl _ _) ?_;simp only[au,ax,ak,aj];repeat(go_big_quiet_step (fail))
     refine wpQuiet_nil (aT ?_);have k4:=af k3 k1;have k5:=af k2 k1;replace f4:=fU k1 (cell_lt c4) f4;replace c4:=aC k1 c4;clear a2 a3 c2 c3;go_wp2
     go_roundw
     case rel =>
      refine⟨j+1,by omega,by go_num,k4.setCell (by simp) _,(Hb0.out.keep k5).far (by simp) _,?_⟩;rw[b0o.out,Xl _ _ (MG x y a d) (by unfold MG;omega) (by unfold MG;omega)];exact(Hb1.out.keep k5).az _ _
     case measure=>simp[intOf];omega
    ·have Hj:=hid (show j=48 by omega)
     have hl':(wd2 l j).length=64:=by rw[Xy,hll]
     generalize hl2:wd2 l j=l' at hb1 hl';have Hl2:=hid hl2;clear hl2;obtain⟨cs,hcs⟩ : ∃ cs:Array Value,cs.toList=l'.map ag:=⟨(l'.map ag).toArray,rfl⟩
     have hcz:cs.size=64:=by rw[←Array.length_toList,hcs,List.length_map,hl']
     have hci:(prog.info? 316).map (·.size)=some cs.size:=by rw[hcz];kernel_rfl
     have hcn : ¬ cs = #[]:=by intro h;rw[h]at hcz;simp at hcz
     rw[←hcs]at hb1;obtain⟨w8,hst,hb8,aZ⟩:=bn (P:=prog) cs.toList hb0 (by simp[hcz];rfl) (by rw[hcs];exact a5q _);have Ti:=hid hb1;have aY:=hid hb8;have bf:=hid aZ;have dh:=hid hcs;clear hb0 hb1 hb8 aZ hcs
     go_upto_region 14 with fail
     go_wp2_with ((with_reducible refine bY (w.heap.size+1) cs (Eq.trans ?_ rfl) Ti.out (.array 64 22) underlying316 (uq _ _) hci ?_);rfl)
     have hb8:=aY.out;refine bodyPost_ret (v:=.agg cs) (results_cell_row results181 _ _ w.heap.size _ _ _ _ rfl hb8 underlying316 rfl (by rw[List.size_toArray,Array.length_toList,hcz];kernel_rfl)) rfl ⟨?_,aK hkr bf.out (by omega)⟩;rw[show cs=(l'.map ag).toArray from by rw[←dh.out,Array.toArray_toList],←Hl2.out,←pO.out,Hj.out,Hk.out];rfl
end Go.Proofs.YtiagcenlnekdeaaGreatDoor
namespace Go.Proofs.YtiagcenlnekdeaaGreatDoor
open Go.RowKit
attribute [local go_sem ↓] Go.wp_at_zero Go.wp_at_succ
def yj:List UInt32:=[1116352408,1899447441,3049323471,3921009573,961987163,1508970993,2453635748,2870763221,3624381080,310598401,607225278,1426881987,1925078388,2162078206,2614888103,3248222580,3835390401,4022224774,264347078,604807628,770255983,1249150122,1555081692,1996064986,2554220882,2821834349,2952996808,3210313671,3336571891,3584528711,113926993,338241895,666307205,773529912,1294757372,1396182291,1695183700,1986661051,2177026350,2456956037,2730485921,2820302411,3259730800,3345764771,3516065817,3600352804,4094571909,275423344,430227734,506948616,659060556,883997877,958139571,1322822218,1537002063,1747873779,1955562222,2024104815,2227730452,2361852424,2428436474,2756734187,3204031479,3329325298]
def yc:List UInt32:=[1779033703,3144134277,1013904242,2773480762,1359893119,2600822924,528734635,1541459225]
structure bV (w:World):Prop where
 k : ∀ (i:Nat) (y:UInt32),yj[i]?=some y→w.cell? ⟨1,i,none⟩=some (ag y)
 h : ∀ (i:Nat) (y:UInt32),yc[i]?=some y→w.cell? ⟨0,i,none⟩=some (ag y)
theorem bV.keep {w w':World} (h:bV w) (hk:Keep w w'):bV w':=⟨fun i y e=>aC hk (h.k i y e),fun i y e=>aC hk (h.h i y e)⟩
theorem b2Q (i:Nat) (w:World) (hS:bV w) (hi:i<64) :
  Calls prog 183 #[.int .i64 i] w fun e w'=>e = .returned (ag (yj.getD i 0))∧w=w':=by
 obtain⟨y,hy⟩ : ∃ y,yj[i]?=some y:=⟨_,List.getElem?_eq_getElem (by exact hi)⟩
 rw[qJ hy];have c0:=hS.k i y hy;clear hy hS;go_enter func183,ntmps183
 go_wp2
 go_ret
 exact⟨rfl,rfl⟩
theorem b5Z (i:Nat) (w:World) (hS:bV w) (hi:i<8) :
  Calls prog 147 #[.int .i64 i] w fun e w'=>e = .returned (ag (yc.getD i 0))∧w=w':=by
 obtain⟨y,hy⟩ : ∃ y,yc[i]?=some y:=⟨_,List.getElem?_eq_getElem (by exact hi)⟩
 rw[qJ hy];have c0:=hS.h i y hy;clear hy hS;go_enter func147,ntmps147
 go_wp2
 go_ret
 exact⟨rfl,rfl⟩
structure cO where
 a:UInt32
 b:UInt32
 c:UInt32
 d:UInt32
 e:UInt32
 f:UInt32
 g:UInt32
 h:UInt32
def cO.l (v:cO):List UInt32:=[v.a,v.b,v.c,v.d,v.e,v.f,v.g,v.h]
def cO.cells (v:cO):List Value:=[ag v.a,ag v.b,ag v.c,ag v.d,ag v.e,ag v.f,ag v.g,ag v.h]
abbrev cO.agg (v:cO):Value:=.agg #[ag v.a,ag v.b,ag v.c,ag v.d,ag v.e,ag v.f,ag v.g,ag v.h]
theorem cO.b2b (v:cO):v.cells=v.l.map ag:=rfl
theorem h8 {w:World} {g:Nat} {t:TypeId} {v:cO} (h:ae w g t v.cells):w.cell? ⟨g,0,none⟩=some (ag v.a)∧w.cell? ⟨g,1,none⟩=some (ag v.b)∧w.cell? ⟨g,2,none⟩=some (ag v.c)∧w.cell? ⟨g,3,none⟩=some (ag v.d)∧w.cell? ⟨g,4,none⟩=some (ag v.e)∧w.cell? ⟨g,5,none⟩=some (ag v.f)∧w.cell? ⟨g,6,none⟩=some (ag v.g)∧w.cell? ⟨g,7,none⟩=some (ag v.h) :=
 ⟨h.cell 0,h.cell 1,h.cell 2,h.cell 3,h.cell 4,h.cell 5,h.cell 6,h.cell 7⟩
def h80:cO:=⟨0,0,0,0,0,0,0,0⟩
theorem b3S (w:World) (n:Nat) (t:TypeId) (hn:n=w.heap.size):ae (w.alloc (.cells #[.int .u32 0,.int .u32 0,.int .u32 0,.int .u32 0,.int .u32 0,.int .u32 0,.int .u32 0,.int .u32 0] t)) n t h80.cells:=hn ▸ ae.new w t h80.cells
theorem a2n (w:World) (n:Nat) (t:TypeId) (v:cO) (hn:n=w.heap.size):ae (w.alloc (.cells #[ag v.a,ag v.b,ag v.c,ag v.d,ag v.e,ag v.f,ag v.g,ag v.h] t)) n t v.cells:=hn ▸ ae.new w t v.cells
def a6b (v:cO) (k w:UInt32):Int:=(v.h.toNat:Int)+bits .xor .u32 (bits .xor .u32 ((xh v.e 6).toNat:Int) ((xh v.e 11).toNat:Int)) ((xh v.e 25).toNat:Int)+bits .xor .u32 (bits .and .u32 (v.e.toNat:Int) (v.f.toNat:Int)) (bits .and .u32 (bits .xor .u32 IntKind.u32.max (v.e.toNat:Int)) (v.g.toNat:Int))+(k.toNat:Int)+(w.toNat:Int)
def LZ (v:cO) (k w:UInt32):Int:=(a6b v k w+(bits .xor .u32 (bits .xor .u32 ((xh v.a 2).toNat:Int) ((xh v.a 13).toNat:Int)) ((xh v.a 22).toNat:Int)+bits .xor .u32 (bits .xor .u32 (bits .and .u32 (v.a.toNat:Int) (v.b.toNat:Int)) (bits .and .u32 (v.a.toNat:Int) (v.c.toNat:Int))) (bits .and .u32 (v.b.toNat:Int) (v.c.toNat:Int))))%4294967296
def L6 (v:cO) (k w:UInt32):Int:=((v.d.toNat:Int)+a6b v k w)%4294967296
def Xd (v:cO) (k w:UInt32):cO:=⟨w32 (LZ v k w),v.a,v.b,v.c,w32 (L6 v k w),v.e,v.f,v.g⟩
def y5 (v h:List UInt32):Nat→List UInt32
 | 0=>v
 | k+1=>(y5 v h k).set k (w32 (((v.getD k 0).toNat+(h.getD k 0).toNat:Int)%4294967296))
theorem a0R (v h:List UInt32) : ∀ (k j:Nat),k≤j→(y5 v h k)[j]?=v[j]?
 | 0,_,_=>rfl
 | k+1,j,hj=>by rw[y5,List.getElem?_set_ne (by omega)];exact a0R v h k j (by omega)
def add32 (x y:UInt32):UInt32:=w32 ((x.toNat+y.toNat:Int)%4294967296)
def cO.add (v h:cO):cO:=⟨add32 v.a h.a,add32 v.b h.b,add32 v.c h.c,add32 v.d h.d,add32 v.e h.e,add32 v.f h.f,add32 v.g h.g,add32 v.h h.h⟩
theorem b05 (v h:cO):y5 v.l h.l 8=(v.add h).l:=rfl
def zL (ws:List UInt32) (v:cO):Nat→cO
 | 0=>v
 | k+1=>Xd (zL ws v k) (yj.getD k 0) (ws.getD k 0)
def zf (v:cO) (b:List UInt8):cO:=(zL (Ep b) v 64).add v
noncomputable def XO:Array Value:=match(prog.info? 316).bind (·.zero)with | some (.agg c)=>c | _ => #[]
theorem c1W:XO.size=64:=by kernel_rfl
theorem c1X (w:World):(zeroValue 316).run prog w = .ok (.agg XO) w:=by kernel_rfl
theorem Xv {E:Int} (h0:0≤E) (h1:E≤4294967295):Value.int .u32 E=ag (w32 E):=by unfold ag;rw[←BB h0 h1]
theorem a2o {w:World} {g:Nat} {t:TypeId} {u:cO} (h:ae w g t u.cells) (v0 v1 v2 v3 v4 v5 v6 v7:Value) :
  ae ((((((((w.setCell ⟨g,0,none⟩ v0).setCell ⟨g,1,none⟩ v1).setCell ⟨g,2,none⟩ v2).setCell ⟨g,3,none⟩ v3).setCell ⟨g,4,none⟩ v4).setCell ⟨g,5,none⟩ v5).setCell ⟨g,6,none⟩ v6).setCell ⟨g,7,none⟩ v7) g t [v0,v1,v2,v3,v4,v5,v6,v7] :=
 (((((((h.az 0 v0).az 1 v1).az 2 v2).az 3 v3).az 4 v4).az 5 v5).az 6 v6).az 7 v7
theorem b8S (u:cO) (k y:UInt32):(Xd u k y).cells=[.int .u32 (LZ u k y),ag u.a,ag u.b,ag u.c,.int .u32 (L6 u k y),ag u.e,ag u.f,ag u.g]:=by
 have h1:=Xv (E:=LZ u k y) (by unfold LZ;omega) (by unfold LZ;omega);have h2:=Xv (E:=L6 u k y) (by unfold L6;omega) (by unfold L6;omega);rw[h1,h2];rfl
theorem a0Z (v:cO) (A:Option Addr) (b:List UInt8) (c:Nat) (w:World) (hb:b.length=64) (hr:Rd w A (b.map ah)) (hS:bV w) :
  Calls prog 146 #[v.agg,.slice A 64 c] w fun e w'=>e = .returned (zf v b).agg∧Keep w w':=by
 obtain⟨R,hR⟩ : ∃ R,zf v b=R:=⟨_,rfl⟩
 rw[hR];have HR:Hid ((zL (Ep b) v 64).add v=R):=hR;clear hR;have hwl:(Ep b).length=64:=by unfold Ep;rw[Xy,Xx]
 have W1 : ∀ w',Keep w w'→Calls prog 181 #[.slice A 64 c] w' fun e w''=>e = .returned (.agg ((Ep b).map ag).toArray)∧Keep w' w'':=fun w' hk=>c02 A b c w' hb (hr.keep hk);generalize Ep b=ws at *;obtain⟨cs,hcs⟩ : ∃ cs:Array Value,cs.toList=ws.map ag:=⟨(ws.map ag).toArray,rfl⟩
 have hcz:cs.size=64:=by rw[←Array.length_toList,hcs,List.length_map,hwl]
 have hci:(prog.info? 316).map (·.size)=some cs.size:=by rw[hcz];kernel_rfl
 have hcn : ¬ cs = #[]:=by intro h;rw[h]at hcz;simp at hcz
 have hc1:cs.all (·.oneCell')=true:=by
  rw[show cs=(ws.map ag).toArray from by rw[←hcs,Array.toArray_toList]];exact all_oneCell_toArray (a5q _)
 rw[show(ws.map ag).toArray=cs from by rw[←hcs,Array.toArray_toList]]at W1;have HW1:=hid W1;have dh:=hid hcs;clear W1 hcs hr
 obtain⟨zs,hzs⟩ : ∃ zs,zs=XO:=⟨_,rfl⟩
 have hz1:zs.size=64:=by rw[hzs];exact c1W
 have hz2 : ∀ w,(zeroValue 316).run prog w = .ok (.agg zs) w:=fun w=>by rw[hzs];exact c1X w
 have hz3 : ¬ zs = #[]:=fun h=>by rw[h]at hz1;cases hz1
 have hst : ∀ ww:World,(storeCells ⟨ww.heap.size,0,none⟩ cs.toList 0).run prog (ww.alloc (.cells zs 316)) = .ok () (ww.alloc (.cells cs 316)):=fun ww=>run_storeCells_new (P:=prog) ww 316 zs cs hci (hz1.trans hcz.symm) hc1;clear hzs hci hc1;go_enter func146,ntmps146
 go_wp2_with fail
 refine(HW1.out _ (af (aB _ _) (aB _ _))).mono ?_;rintro e w1 ⟨rfl,k1⟩;have vM:=hid (((a2n w w.heap.size 198 v rfl).alloc _).keep k1);have Og:=hid ((b3S _ (w.heap.size+1) 198 (by simp)).keep k1);obtain⟨x0,x1,x2,x3,x4,x5,x6,x7⟩:=h8 vM.out;have hz1:w.heap.size+2≤w1.heap.size:=by have:=k1.size;simpa using this
 have hzl:w.heap.size<w1.heap.size:=by omega
 have kw:=af (af (aB _ _) (aB _ _)) k1;go_wp2_with fail
 have Hb5:=hid ((ae.new w1 316 cs.toList).alloc (.cells #[ag v.a,ag v.b,ag v.c,ag v.d,ag v.e,ag v.f,ag v.g,ag v.h] 198));have Oe:=hid (a2n (w1.alloc (.cells cs 316)) (w1.heap.size+1) 198 v (by simp));have k2:=af (aB w1 (.cells cs 316)) (aB (w1.alloc (.cells cs 316)) (.cells #[ag v.a,ag v.b,ag v.c,ag v.d,ag v.e,ag v.f,ag v.g,ag v.h] 198));have ZZ:=hid (vM.out.keep k2);have Oh:=hid (Og.out.keep k2)
 clear x0 x1 x2 x3 x4 x5 x6 x7 vM Og hst;have kv:=af kw k2;generalize (w1.alloc (.cells cs 316)).alloc (.cells #[ag v.a,ag v.b,ag v.c,ag v.d,ag v.e,ag v.f,ag v.g,ag v.h] 198)=w2 at k2 kv Hb5 Oe ZZ Oh ⊢
 go_loopw [22] (fun i wr => ∃ k:Nat,k≤64∧i = .int .i64 k∧Keep w wr∧ae wr w.heap.size 198 v.cells∧ae wr (w.heap.size+1) 198 h80.cells∧ae wr w1.heap.size 316 cs.toList∧ae wr (w1.heap.size+1) 198 (zL ws v k).cells) (fun i _=>64 - (intOf i).toNat)
 case atStart=>exact⟨0,by omega,rfl,kv,ZZ.out,Oh.out,Hb5.out,Oe.out⟩
 case round =>
  obtain⟨k,hk,rfl,hkr,hbx,hbr,hbw,hbv⟩:=hrel;by_cases hlt:k<64
  ·obtain⟨y,hy⟩ : ∃ y,ws[k]?=some y:=⟨_,List.getElem?_eq_getElem (by omega)⟩
   have TM:=hid (show zL ws v (k+1)=Xd (zL ws v k) (yj.getD k 0) y by rw[zL,qJ hy]);have cw:=hbw.cell k;rw[dh.out,List.getElem?_map,hy,Option.map_some]at cw;generalize zL ws v k=u at hbv TM;have hkk : ∀ w',Keep w w'→Calls prog 183 #[.int .i64 k] w' fun e w''=>e = .returned (ag (yj.getD k 0))∧w'=w'':=fun w' h=>b2Q k w' (hS.keep h) hlt;generalize yj.getD k 0=kk at TM hkk;have a9W:=hid hkk;clear hkk;obtain⟨x0,x1,x2,x3,x4,x5,x6,x7⟩:=h8 hbv;clear hy;have Hx:=hid hbx;have eU:=hid hbr;have a0f:=hid hbw;have Hv:=hid hbv
   clear hbx hbr hbw hbv;have a4:=aF x4;go_wp2
   refine lC (by kernel_rfl) (by kernel_rfl) wr (Below.refl _ _) ?_;repeat(go_big_quiet_step ((go_at_call 182;exact Eh (Xu _ _ _ (by rfl) (by decide) (by decide)))))
   refine wpQuiet_nil ?_;rintro _ ⟨z,rfl⟩;have j3:=jg wr z;generalize dn wr z=w3 at j3 ⊢;clear a4 x0 x1 x2 x3 x4 x5 x6 x7;have hbv:=Hv.out.keep j3;obtain⟨x0,x1,x2,x3,x4,x5,x6,x7⟩:=h8 hbv;have k3:=af hkr j3;replace cw:=aC j3 cw;clear hbv;go_wp2
   have a7:=aF x7;have aw:=aF cw
   refine lC (by kernel_rfl) (by kernel_rfl) w3 (Below.refl _ _) ?_;repeat(go_big_quiet_step ((go_at_call 183;exact Eh (a9W.out _ (af k3 (jg _ _))))))
   refine wpQuiet_nil ?_;rintro _ ⟨z4,rfl⟩;have j4:=jg w3 z4;generalize dn w3 z4=w4 at j4 ⊢;clear a7 aw cw x0 x1 x2 x3 x4 x5 x6 x7;have k4:=af k3 j4;obtain⟨x0,x1,x2,x3,x4,x5,x6,x7⟩:=h8 (Hv.out.keep (af j3 j4));have a0:=aF x0;go_wp2
   refine lC (by kernel_rfl) (by kernel_rfl) w4 (Below.refl _ _) ?_;repeat(go_big_quiet_step ((go_at_call 182;exact Eh (Xu _ _ _ (by rfl) (by decide) (by decide)))))
   refine wpQuiet_nil ?_;rintro _ ⟨z5,rfl⟩;have j5:=jg w4 z5;generalize dn w4 z5=w5 at j5 ⊢;clear a0 x0 x1 x2 x3 x4 x5 x6 x7;have k5:=af k4 j5;have j2:=af (af j3 j4) j5;have xR:=hid (Hv.out.keep j2);obtain⟨x0,x1,x2,x3,x4,x5,x6,x7⟩:=h8 xR.out;have f0:=xR.out.frozen 0;have f1:=xR.out.frozen 1;have f2:=xR.out.frozen 2;have f3:=xR.out.frozen 3;have f4:=xR.out.frozen 4;have f5:=xR.out.frozen 5;have f6:=xR.out.frozen 6;have f7:=xR.out.frozen 7
   go_wp2
   go_roundw
   case rel =>
    refine⟨k+1,by omega,by go_num,?_,?_,?_,?_,?_⟩
    ·repeat(refine Below.setCell ?_ (by simp;omega) _)
     exact k5
    ·repeat(refine ae.far ?_ (by simp;omega) _)
     exact Hx.out.keep j2
    ·repeat(refine ae.far ?_ (by simp;omega) _)
     exact eU.out.keep j2
    ·repeat(refine ae.far ?_ (by simp) _)
     exact a0f.out.keep j2
    ·rw[TM.out,b8S]
     exact a2o xR.out _ _ _ _ _ _ _ _
   case measure=>simp[intOf];omega
  ·have Hk:=hid (show k=64 by omega)
   generalize hu:zL ws v k=u at hbv;have Jq:=hid hu;have Hx:=hid hbx;have eU:=hid hbr;have a0f:=hid hbw;have Hv:=hid hbv
   clear hbx hbr hbw hbv hu;go_wp2_with fail
   go_loopw [113] (fun i w9 => ∃ j:Nat,j≤8∧i = .int .i64 j∧Keep w w9∧ae w9 w.heap.size 198 (v.l.map ag)∧ae w9 (w.heap.size+1) 198 h80.cells∧ae w9 (w1.heap.size+1) 198 ((y5 u.l v.l j).map ag)) (fun i _=>8 - (intOf i).toNat)
   case atStart=>exact⟨0,by omega,rfl,hkr,Hx.out,eU.out,Hv.out⟩
   case round =>
    obtain⟨j,hj,rfl,hkr,hbx,hbr,hbv⟩:=hrel;by_cases hlt:j<8
    ·obtain⟨y,hy⟩ : ∃ y,v.l[j]?=some y:=⟨_,List.getElem?_eq_getElem (by exact hlt)⟩
     obtain⟨x,hx⟩ : ∃ x,u.l[j]?=some x:=⟨_,List.getElem?_eq_getElem (by exact hlt)⟩
     have a9A:=hid (show y5 u.l v.l (j+1)=(y5 u.l v.l j).set j (w32 ((x.toNat+y.toNat:Int)%4294967296)) by rw[y5,qJ hy,qJ hx]);have c0:=hbv.cell j;rw[List.getElem?_map,a0R _ _ _ _ (Nat.le_refl _),hx,Option.map_some]at c0;have c1:=hbx.cell j;rw[List.getElem?_map,hy,Option.map_some]at c1;have Hx:=hid hbx;have eU:=hid hbr;have Hv:=hid hbv
     clear hbx hbr hbv hy hx;go_wp2
     refine bu (.take [0,1,2,3,4,5,6,7] .done) [8] (by kernel_rfl) (by kernel_rfl) (fun w3 k3=>?_);have a0:=aF (aC k3 c0);have a1:=aF (aC k3 c1)
     refine aN w3 (Below.refl _ _) ?_;simp only[au,ax,ak,aj];repeat(go_big_quiet_step (fail))
     refine wpQuiet_nil (aT ?_);have k4:=af hkr k3;replace c0:=aC k3 c0;have f0:=(Hv.out.keep k3).frozen j;clear a0 a1 c1;go_wp2
     go_roundw
     case rel =>
      refine⟨j+1,by omega,by go_num,k4.setCell (by simp;omega) _,(Hx.out.keep k3).far (by simp;omega) _,(eU.out.keep k3).far (by simp;omega) _,?_⟩;rw[a9A.out,Xl _ _ _ (by omega) (by omega)];exact(Hv.out.keep k3).az _ _
     case measure=>simp[intOf];omega
    ·have Hj:=hid (show j=8 by omega)
     have e8:y5 u.l v.l j=(u.add v).l:=by rw[Hj.out];exact b05 u v
     rw[e8,←cO.b2b]at hbv;clear e8
     have HR2:Hid (u.add v=R):=by
      have h:=HR.out;rw[←Hk.out,Jq.out]at h;exact h
     generalize u.add v=r at hbv HR2;obtain⟨x0,x1,x2,x3,x4,x5,x6,x7⟩:=h8 hbv;have eU:=hid hbr;have c0:=eU.out.cell 0;have c1:=eU.out.cell 1;have c2:=eU.out.cell 2;have c3:=eU.out.cell 3;have c4:=eU.out.cell 4;have c5:=eU.out.cell 5;have c6:=eU.out.cell 6;have c7:=eU.out.cell 7
     have f0:=eU.out.frozen 0;have f1:=eU.out.frozen 1;have f2:=eU.out.frozen 2;have f3:=eU.out.frozen 3;have f4:=eU.out.frozen 4;have f5:=eU.out.frozen 5;have f6:=eU.out.frozen 6;have f7:=eU.out.frozen 7
     simp only[cO.cells,List.getElem?_cons_zero,List.getElem?_cons_succ]at c0 c1 c2 c3 c4 c5 c6 c7;clear hbr hbx hbv;go_wp2
     refine bodyPost_ret (v:=r.agg) (results_cell_row results146 _ _ (w.heap.size+1) _ _ _ _ rfl (a2o eU.out _ _ _ _ _ _ _ _) underlying198 rfl (by kernel_rfl)) rfl ⟨by rw[←HR2.out],?_⟩;repeat(refine Below.setCell ?_ (by simp) _)
     exact hkr
end Go.Proofs.YtiagcenlnekdeaaGreatDoor
namespace Go.Proofs.YtiagcenlnekdeaaGreatDoor
open Go.RowKit
attribute [local go_sem ↓] Go.wp_at_zero Go.wp_at_succ
abbrev sK (v:cO) (A:Option Addr) (n c:Nat) (N:Int):Value:=.agg #[ag v.a,ag v.b,ag v.c,ag v.d,ag v.e,ag v.f,ag v.g,ag v.h,.slice A n c,.int .u64 N]
def wC:cO:=⟨1779033703,3144134277,1013904242,2773480762,1359893119,2600822924,528734635,1541459225⟩
def sW:Nat→List UInt32
 | 0=>[0,0,0,0,0,0,0,0]
 | k+1=>(sW k).set k (yc.getD k 0)
theorem b9I (k:Nat):(sW k).length=8:=by
 induction k with
 | zero=>rfl
 | succ k ih=>rw[sW,List.length_set,ih]
theorem b9H:sW 8=wC.l:=by decide
theorem b9K (w:World) (hS:bV w):Calls prog 95 #[] w fun e w'=>e = .returned (sK wC none 0 0 0)∧Keep w w':=by
 go_enter func95,ntmps95
 go_wp2_with fail
 go_loopw [3] (fun i wr => ∃ k:Nat,k≤8∧i = .int .i64 k∧Keep w wr∧ae wr w.heap.size 200 ((sW 0).map ag++([.slice none 0 0,.int .u64 0]:List Value))∧ae wr (w.heap.size+1) 200 ((sW k).map ag++([.slice none 0 0,.int .u64 0]:List Value))) (fun i _=>8 - (intOf i).toNat)
 case atStart =>
  refine⟨0,by omega,rfl,af (aB _ _) (aB _ _),(ae.new w _ ((sW 0).map ag++([.slice none 0 0,.int .u64 0]:List Value))).alloc _,?_⟩;have h:=ae.new (w.alloc (.cells ((sW 0).map ag++([.slice none 0 0,.int .u64 0]:List Value)).toArray 200)) 200 ((sW 0).map ag++([.slice none 0 0,.int .u64 0]:List Value));rw[World.size_alloc]at h;exact h
 case round =>
  obtain⟨k,hk,rfl,hkr,hbr,hbs⟩:=hrel;by_cases hlt:k<8
  ·have hst:=b9I k
   have hsu:=hid (show sW (k+1)=(sW k).set k (yc.getD k 0) from rfl);have hh : ∀ w',Keep w w'→Calls prog 147 #[.int .i64 k] w' fun e w''=>e = .returned (ag (yc.getD k 0))∧w'=w'':=fun w' h=>b5Z k w' (hS.keep h) hlt;generalize yc.getD k 0=y at hh hsu;obtain⟨o,ho⟩ : ∃ o,(sW k)[k]?=some o:=⟨_,List.getElem?_eq_getElem (by omega)⟩
   have c0:=hbs.cell k;rw[List.getElem?_append_left (by rw[List.length_map,hst];exact hlt),List.getElem?_map,ho,Option.map_some]at c0;have f0:=hbs.frozen k;have eU:=hid hbr;have Hs:=hid hbs;have vT:=hid hst;have Hh:=hid hh
   clear hbr hbs hst hh ho;go_wp2_with (go_at_call 147;refine(Hh.out _ hkr).mono ?_;rintro e w3 ⟨rfl,rfl⟩)
   go_roundw
   case rel =>
    refine⟨k+1,by omega,by go_num,hkr.setCell (by simp) _,eU.out.far (by simp) _,?_⟩;have h:=Hs.out.az k (ag y);rw[List.set_append_left _ _ (by rw[List.length_map,vT.out];exact hlt),←List.map_set,←hsu.out]at h;exact h
   case measure=>simp[intOf];omega
  ·obtain rfl:8=k:=by omega
   rw[b9H]at hbs;have c0:=hbs.cell 0;have c1:=hbs.cell 1;have c2:=hbs.cell 2;have c3:=hbs.cell 3;have c4:=hbs.cell 4;have c5:=hbs.cell 5;have c6:=hbs.cell 6;have c7:=hbs.cell 7;have c8:=hbs.cell 8;have c9:=hbs.cell 9
   have d0:=hbr.cell 0;have d1:=hbr.cell 1;have d2:=hbr.cell 2;have d3:=hbr.cell 3;have d4:=hbr.cell 4;have d5:=hbr.cell 5;have d6:=hbr.cell 6;have d7:=hbr.cell 7;have d8:=hbr.cell 8;have d9:=hbr.cell 9
   have f0:=hbr.frozen 0;have f1:=hbr.frozen 1;have f2:=hbr.frozen 2;have f3:=hbr.frozen 3;have f4:=hbr.frozen 4;have f5:=hbr.frozen 5;have f6:=hbr.frozen 6;have f7:=hbr.frozen 7;have f8:=hbr.frozen 8;have f9:=hbr.frozen 9
   simp only[cO.l,sW,List.map_cons,List.map_nil,List.cons_append,List.nil_append,List.getElem?_cons_zero,List.getElem?_cons_succ]at c0 c1 c2 c3 c4 c5 c6 c7 c8 c9 d0 d1 d2 d3 d4 d5 d6 d7 d8 d9;clear hbr hbs;go_wp2
   refine bodyPost_ret (v:=sK wC none 0 0 0) (by simp[results,results95,go_sem,d0,d1,d2,d3,d4,d5,d6,d7,d8,d9]) rfl ⟨rfl,?_⟩;repeat(refine Below.setCell ?_ (by simp) _)
   exact hkr
def uI (n:Nat):Nat:=if n%64≤55 then 55 - n%64 else 119 - n%64
def Qi (n k:Nat):Int:=(n:Int)*8/2^(56 - 8*k)%256
def mD (n:Nat):Nat→List UInt8
 | 0=>128::List.replicate (uI n+8) 0
 | k+1=>(mD n k).set (1+uI n+k) (w8 (Qi n k))
theorem a5G (n k:Nat):(mD n k).length=9+uI n:=by
 induction k with
 | zero=>rw[mD,List.length_cons,List.length_replicate];omega
 | succ k ih=>rw[mD,List.length_set,ih]
theorem b77 (n:Nat) (w:World) (hn:n≤1000000000000):Calls prog 145 #[.int .u64 n] w fun e w'=>e = .returned (.slice (some ⟨w.heap.size,0,none⟩) (9+uI n) (9+uI n))∧ae w' w.heap.size 5 ((mD n 8).map ah)∧Keep w w':=by
 obtain⟨z,hz⟩ : ∃ z,uI n=z:=⟨_,rfl⟩
 have hzl:z≤63:=by rw[←hz];unfold uI;split <;> omega
 have Jr:=hid hz;rw[hz];go_enter func145,ntmps145
 go_upto_if 13 with fail
 go_cut [3,4] (fun v3 v4 wx=>v4 = .int .i64 z∧wx=w)
 case first =>
  by_cases h:n%64≤55
  ·have hz:=Jr.out;rw[uI,if_pos h]at hz
   go_wp2
   all_goals go_meet
   all_goals exact⟨by congr 1;omega,rfl⟩
  ·have hz:=Jr.out;rw[uI,if_neg h]at hz
   go_wp2
   all_goals go_meet
   all_goals exact⟨by congr 1;omega,rfl⟩
 case rest =>
  obtain⟨rfl,rfl⟩:=hcut;obtain⟨wm,hmk,hbm,km,hsz⟩:=Ll (z+9) (z+9) (1+(z:Int)+8) (1+(z:Int)+8) (by omega) (by omega) (Nat.le_refl _) (by omega) wc;have c0:=hbm.cell 0;rw[List.getElem?_map,List.getElem?_replicate,if_pos (by omega),Option.map_some]at c0;have f0:=hbm.frozen 0;have xP:=hid hbm;clear hbm hsz;go_wp2_with fail
  go_loopw [22] (fun i wr => ∃ k:Nat,k≤8∧i = .int .i64 k∧Keep wc wr∧ae wr wc.heap.size 5 ((mD n k).map ah)) (fun i _=>8 - (intOf i).toNat)
  case atStart =>
   refine⟨0,by omega,rfl,km.setCell (by simp) _,?_⟩;have h:=xP.out.az 0 (ah 128);rw[show((List.replicate (z+9) (0:UInt8)).map ah).set 0 (ah 128)=(mD n 0).map ah by rw[mD,Jr.out];rfl]at h;exact h
  case round =>
   obtain⟨k,hk,rfl,hkr,hb⟩:=hrel;by_cases hlt:k<8
   ·have hpl:=a5G n k
    rw[Jr.out]at hpl;obtain⟨o,ho⟩ : ∃ o,(mD n k)[1+z+k]?=some o:=⟨_,List.getElem?_eq_getElem (by omega)⟩
    have c1:=hb.cell (1+z+k);rw[List.getElem?_map,ho,Option.map_some]at c1;have f1:=hb.frozen (1+z+k);have Hb:=hid hb;clear hb ho hpl;go_wp2
    go_roundw
    case rel =>
     refine⟨k+1,by omega,by go_num,hkr.setCell (by simp) _,?_⟩;rw[mD,Jr.out,GG _ _ (Qi n k) (by unfold Qi;omega) (by unfold Qi;omega)];exact Hb.out.az _ _
    case measure=>simp[intOf];omega
   ·have Hk:=hid (show k=8 by omega)
    have Hb:=hid hb;clear hb;go_wp2
    go_ret
    refine⟨by show Ending.returned (Value.slice _ (z+9) (z+9))=_;rw[Nat.add_comm z 9],?_,hkr⟩;have h:=Hb.out;rw[Hk.out]at h;exact h
end Go.Proofs.YtiagcenlnekdeaaGreatDoor
namespace Go.Proofs.YtiagcenlnekdeaaGreatDoor
open Go.RowKit
attribute [local go_sem ↓] Go.wp_at_zero Go.wp_at_succ
theorem a6z (v:cO) (A:Option Addr) (n c N:Nat) (w:World) (hn:n<64) (hN:N≤1000000000000) (h:n=N%64) :
  Calls prog 144 #[sK v A n c N] w fun e w'=>e = .returned (.bool true)∧Keep w w':=by
 have t:((n:Int)==(N:Int)%64)=true:=by simp;omega
 go_enter func144,ntmps144
 go_wp2
 go_ret
 exact⟨xe (by first | rfl | (simp;omega)),aB _ _⟩
def blocks (v:cO) (l:List UInt8):Nat→cO
 | 0=>v
 | k+1=>zf (blocks v l k) ((l.drop (64*k)).take 64)
structure iL (w:World) (g:Nat) (v:cO) (A:Option Addr) (n c:Nat) (N:Int):Prop where
 b:ae w g 200 (v.cells++[.slice A n c,.int .u64 N])
theorem iL.all {w:World} {g:Nat} {v:cO} {A:Option Addr} {n c:Nat} {N:Int} (h:iL w g v A n c N) :
  w.cell? ⟨g,0,none⟩=some (ag v.a)∧w.cell? ⟨g,1,none⟩=some (ag v.b)∧w.cell? ⟨g,2,none⟩=some (ag v.c)∧w.cell? ⟨g,3,none⟩=some (ag v.d)∧w.cell? ⟨g,4,none⟩=some (ag v.e)∧w.cell? ⟨g,5,none⟩=some (ag v.f)∧w.cell? ⟨g,6,none⟩=some (ag v.g)∧w.cell? ⟨g,7,none⟩=some (ag v.h)∧w.cell? ⟨g,8,none⟩=some (.slice A n c)∧w.cell? ⟨g,9,none⟩=some (.int .u64 N) :=
 ⟨h.b.cell 0,h.b.cell 1,h.b.cell 2,h.b.cell 3,h.b.cell 4,h.b.cell 5,h.b.cell 6,h.b.cell 7,h.b.cell 8,h.b.cell 9⟩
theorem iL.fr {w:World} {g:Nat} {v:cO} {A:Option Addr} {n c:Nat} {N:Int} (h:iL w g v A n c N) :
  w.frozen? ⟨g,0,none⟩=false∧w.frozen? ⟨g,1,none⟩=false∧w.frozen? ⟨g,2,none⟩=false∧w.frozen? ⟨g,3,none⟩=false∧w.frozen? ⟨g,4,none⟩=false∧w.frozen? ⟨g,5,none⟩=false∧w.frozen? ⟨g,6,none⟩=false∧w.frozen? ⟨g,7,none⟩=false∧w.frozen? ⟨g,8,none⟩=false∧w.frozen? ⟨g,9,none⟩=false :=
 ⟨h.b.frozen 0,h.b.frozen 1,h.b.frozen 2,h.b.frozen 3,h.b.frozen 4,h.b.frozen 5,h.b.frozen 6,h.b.frozen 7,h.b.frozen 8,h.b.frozen 9⟩
theorem iL.keep {w w':World} {g:Nat} {v:cO} {A:Option Addr} {n c:Nat} {N:Int} (h:iL w g v A n c N) (hk:Keep w w'):iL w' g v A n c N:=⟨h.b.keep hk⟩
theorem iL.grown {w w':World} {g:Nat} {v:cO} {A:Option Addr} {n c:Nat} {N:Int} {row:Option Nat} (h:iL w g v A n c N) (hg:w.grownBy w' row) (hne:row≠some g):iL w' g v A n c N:=⟨h.b.grown hg hne⟩
theorem iL.new (w:World) (g:Nat) (v:cO) (A:Option Addr) (n c:Nat) (N:Int) (hg:g=w.heap.size):iL (w.alloc (.cells #[ag v.a,ag v.b,ag v.c,ag v.d,ag v.e,ag v.f,ag v.g,ag v.h,.slice A n c,.int .u64 N] 200)) g v A n c N :=
 ⟨hg ▸ ae.new w _ (v.cells++[.slice A n c,.int .u64 N])⟩
theorem iL.a6q {w:World} {g:Nat} {v:cO} {A:Option Addr} {n c:Nat} {N:Int} (h:iL w g v A n c N) (u:cO) :
  iL ((((((((w.setCell ⟨g,0,none⟩ (ag u.a)).setCell ⟨g,1,none⟩ (ag u.b)).setCell ⟨g,2,none⟩ (ag u.c)).setCell ⟨g,3,none⟩ (ag u.d)).setCell ⟨g,4,none⟩ (ag u.e)).setCell ⟨g,5,none⟩ (ag u.f)).setCell ⟨g,6,none⟩ (ag u.g)).setCell ⟨g,7,none⟩ (ag u.h)) g u A n c N :=
 ⟨(((((((h.b.az 0 (ag u.a)).az 1 (ag u.b)).az 2 (ag u.c)).az 3 (ag u.d)).az 4 (ag u.e)).az 5 (ag u.f)).az 6 (ag u.g)).az 7 (ag u.h)⟩
theorem iL.b9m {w:World} {g:Nat} {v:cO} {A:Option Addr} {n c:Nat} {N:Int} (h:iL w g v A n c N) (u:cO) (A':Option Addr) (n' c':Nat) (N':Int) :
  ((((((((((w.setCell ⟨g,0,none⟩ (ag u.a)).setCell ⟨g,1,none⟩ (ag u.b)).setCell ⟨g,2,none⟩ (ag u.c)).setCell ⟨g,3,none⟩ (ag u.d)).setCell ⟨g,4,none⟩ (ag u.e)).setCell ⟨g,5,none⟩ (ag u.f)).setCell ⟨g,6,none⟩ (ag u.g)).setCell ⟨g,7,none⟩ (ag u.h)).setCell ⟨g,8,none⟩ (.slice A' n' c')).setCell ⟨g,9,none⟩ (.int .u64 N')).heap[g]?=some (.cells #[ag u.a,ag u.b,ag u.c,ag u.d,ag u.e,ag u.f,ag u.g,ag u.h,.slice A' n' c',.int .u64 N'] 200 (0,0)) :=
 (((((((((h.b.az 0 (ag u.a)).az 1 (ag u.b)).az 2 (ag u.c)).az 3 (ag u.d)).az 4 (ag u.e)).az 5 (ag u.f)).az 6 (ag u.g)).az 7 (ag u.h)).az 8 (.slice A' n' c')).az 9 (.int .u64 N')
structure rE (F:List UInt8) (v:cO) (bk:List UInt8) (En:cO):Prop where
 at_ : ∃ m,F.drop (64*m)=bk∧64*m+bk.length=F.length∧En=blocks v F m
theorem rE.first {F r b:List UInt8} (v:cO) (h:r++b=F) (h1:r.length<64) (h2:64≤r.length+b.length):rE F v (b.drop (64 - r.length)) (zf v (r++b.take (64 - r.length))):=by
 subst h;refine⟨1,?_,?_,?_⟩
 ·rw[List.drop_append,List.drop_eq_nil_of_le (by omega),List.nil_append]
 ·rw[List.length_drop,List.length_append];omega
 ·show _=zf v (((r++b).drop (64*0)).take 64)
  rw[Nat.mul_zero,List.drop_zero,List.take_append,List.take_of_length_le (l:=r) (by omega)]
theorem rE.zero {F r b:List UInt8} (v:cO) (h:r++b=F) (h1:r=[]):rE F v b v:=by
 subst h h1;exact⟨0,rfl,by simp,rfl⟩
theorem rE.next {F bk:List UInt8} {v En:cO} (h:rE F v bk En) (hl:64≤bk.length):rE F v (bk.drop 64) (zf En (bk.take 64)):=by
 obtain⟨m,h1,h2,h3⟩:=h;refine⟨m+1,?_,?_,?_⟩
 ·rw[←h1,List.drop_drop,Nat.mul_succ]
 ·rw[List.length_drop];omega
 ·rw[blocks,h1,h3]
theorem rE.done {F bk:List UInt8} {v En:cO} (h:rE F v bk En) (hl:bk.length<64):blocks v F (F.length/64)=En∧F.length%64=bk.length∧F.drop (64*(F.length/64))=bk:=by
 obtain⟨m,h1,h2,h3⟩:=h;have e:F.length/64=m:=by omega
 rw[e];exact⟨h3.symm,by omega,h1⟩
theorem write_any (v:cO) (RA:Option Addr) (r:List UInt8) (rc N:Nat) (A:Option Addr) (b:List UInt8) (c:Nat) (w:World) (hS:bV w) (hr:Rd w RA (r.map ah)) (hrl:r.length=N%64) (hb:Rd w A (b.map ah)) (hbc:b.length≤c) (hcm:c≤maxLen) (hbl:b.length≤100000000) (hN:N≤100000000000) (hrb:r=[]∨64≤r.length+b.length) :
  Calls prog 94 #[sK v RA r.length rc N,.slice A b.length c] w fun e w' => ∃ A' c',e = .returned (sK (blocks v (r++b) ((r++b).length/64)) A' ((r++b).length%64) c' ((N+b.length:Nat):Int))∧Rd w' A' (((r++b).drop (64*((r++b).length/64))).map ah)∧Keep w w':=by
 have Hrl:=hid hrl;have b0h:=hid hrb
 have hrn:r.length<64:=by omega
 unfold maxLen at hcm;clear hrl hrb;obtain⟨F,hF⟩ : ∃ F,r++b=F:=⟨_,rfl⟩
 rw[hF];have HF:=hid hF;clear hF;have eU:=hid hr;have Hb:=hid hb;have HS:=hid hS
 clear hr hb hS;go_enter func94,ntmps94
 go_wp2_with fail
 refine(a6z v RA r.length rc N _ hrn (by omega) Hrl.out).mono ?_;rintro e w1 ⟨rfl,k1⟩;have kY:=hid (((iL.new w w.heap.size v RA r.length rc N rfl).b.alloc (.cells (h80.cells++([.slice none 0 0,.int .u64 0]:List Value)).toArray 200)).keep k1);have HR1:Hid (iL w1 (w.heap.size+1) h80 none 0 0 0):=(iL.new _ _ h80 none 0 0 0 (by simp)).keep k1;have hz1:w.heap.size+2≤w1.heap.size:=by have:=k1.size;simpa using this
 have hzl:w.heap.size<w1.heap.size:=by omega
 have kw:=af (af (aB _ _) (aB _ _)) k1;clear k1;obtain⟨x0,x1,x2,x3,x4,x5,x6,x7,xw,Et⟩:=(show iL w1 w.heap.size v RA r.length rc N from⟨kY.out⟩).all
 go_upto_if 24 with fail
 have kC:Hid (iL (w1.alloc (.cells #[.int .u32 v.a.toNat,.int .u32 v.b.toNat,.int .u32 v.c.toNat,.int .u32 v.d.toNat,.int .u32 v.e.toNat,.int .u32 v.f.toNat,.int .u32 v.g.toNat,.int .u32 v.h.toNat,.slice none 0 0,.int .u64 ((N:Int)+(b.length:Int))] 200)) w1.heap.size v none 0 0 ((N:Int)+(b.length:Int))):=iL.new w1 w1.heap.size v none 0 0 _ rfl;have k2:=aB w1 (.cells #[.int .u32 v.a.toNat,.int .u32 v.b.toNat,.int .u32 v.c.toNat,.int .u32 v.d.toNat,.int .u32 v.e.toNat,.int .u32 v.f.toNat,.int .u32 v.g.toNat,.int .u32 v.h.toNat,.slice none 0 0,.int .u64 ((N:Int)+(b.length:Int))] 200);have hz2:w1.heap.size<(w1.alloc (.cells #[.int .u32 v.a.toNat,.int .u32 v.b.toNat,.int .u32 v.c.toNat,.int .u32 v.d.toNat,.int .u32 v.e.toNat,.int .u32 v.f.toNat,.int .u32 v.g.toNat,.int .u32 v.h.toNat,.slice none 0 0,.int .u64 ((N:Int)+(b.length:Int))] 200)).heap.size:=by simp
 generalize w1.alloc (.cells #[.int .u32 v.a.toNat,.int .u32 v.b.toNat,.int .u32 v.c.toNat,.int .u32 v.d.toNat,.int .u32 v.e.toNat,.int .u32 v.f.toNat,.int .u32 v.g.toNat,.int .u32 v.h.toNat,.slice none 0 0,.int .u64 ((N:Int)+(b.length:Int))] 200)=w2 at kC k2 hz2 ⊢;clear x0 x1 x2 x3 x4 x5 x6 x7 xw Et;have a9t:=hid (kY.out.keep k2);have HR2:=hid (HR1.out.keep k2)
 replace kw:=af kw k2;clear kY HR1 k2
 go_cut [1] (fun s wx => ∃ A1 b1 c1 v1,s = .slice A1 b1.length c1∧b1.length≤c1∧c1≤9223372036854775807∧b1.length≤100000000∧Rd w A1 (b1.map ah)∧Hid (rE F v b1 v1)∧Hid (iL wx w1.heap.size v1 none 0 0 ((N:Int)+(b.length:Int)))∧Hid (iL wx (w.heap.size+1) h80 none 0 0 0)∧Keep w wx)
 case first =>
  by_cases hr0:0<r.length
  ·have hge:64≤r.length+b.length:=by
    rcases b0h.out with h | h
    ·rw[h]at hr0;simp at hr0
    ·exact h
   obtain⟨_,_,_,_,_,_,_,_,xw,_⟩:=(show iL w2 w.heap.size v RA r.length rc N from⟨a9t.out⟩).all;obtain⟨wm,hmk,hbm,km,hsz⟩:=Ll 0 64 0 64 rfl rfl (by omega) (by omega) w2;have a7m:=aC km xw;have Qb:=a5C hbm (Nat.le_refl _) (by unfold maxLen;omega);have nP:=hid Qb;have Km:=hid km
   have b5n:64 - r.length≤b.length:=by omega
   have a7m:=aC km xw;have Qb:=a5C hbm (Nat.le_refl _) (by unfold maxLen;omega);have nP:=hid Qb;have Km:=hid km
   obtain⟨q,hq⟩ : ∃ q,r.length+q=64:=⟨64 - r.length,by omega⟩
   have hmin:min (64 - (r.length:Int)) (b.length:Int)=(q:Int):=by omega
   have b5n:q≤b.length:=by omega
   have c2r:=hid hq;clear hq;clear hbm Qb;go_upto_region 8 with(at_builtin;refine iF vY (by rfl) _ _ (by rfl) w2.heap.size _ 0 _ (by rfl) nP.out _ r.length rc (r.map ah) (by rfl) (by simp) (eU.out.keep (af kw Km.out)) (jL _) (by omega) (by unfold maxLen;omega) (by omega) ?_;intro v3 w3 qi hg3 DI)
   rw[Nat.zero_add,List.nil_append]at qi;obtain⟨A3,c3,rfl,hc3,c3I,hr3⟩:=dD qi;have Own3:=hid qi;have k3:=lQ Km.out Km.out.size hg3 nP.out;clear qi hr3;have a7H:=hid (((Hb.out.take (64 - r.length)).keep (af kw k3)));have hbk:(r++b.take (64 - r.length)).length=64:=by rw[List.length_append,List.length_take];omega
   go_upto_if 44 with(at_builtin;refine iF vY (by rfl) _ _ (by rfl) w2.heap.size _ r.length _ (by rfl) Own3.out _ (64 - r.length) c ((b.map ah).take (64 - r.length)) (by rfl) (by simp;omega) a7H.out (fun u hu=>jL b u (List.mem_of_mem_take hu)) (by omega) (by unfold maxLen;omega) (by have:=k3.size;omega) ?_;intro v4 w4 own4 hg4 zo;have qQ:=jm own4 (n':=64) (xs':=(r++b.take (64 - r.length)).map ah) (by omega) (by rw[List.map_append,List.map_take]);obtain⟨A4,c4,rfl,hc4,hm4,hr4⟩:=dD qQ)
   have k4:=lQ k3 k3.size hg4 Own3.out;have ug:=hid (kC.out.keep k4);have HR4:=hid (HR2.out.keep k4)
   have D8:=af kw k4;obtain⟨x0,x1,x2,x3,x4,x5,x6,x7,_,_⟩:=ug.out.all;have CW:=hid hr4;have a9J:=hid hbk
   clear own4 qQ hg3 hg4 DI zo hr4 xw a7m hmk;go_wp2_with fail
   refine(a0Z v A4 _ c4 _ a9J.out CW.out (HS.out.keep D8)).mono ?_;rintro e w5 ⟨rfl,k5⟩;have vG:=hid (ug.out.keep k5);have kX:=hid (HR4.out.keep k5)
   have KW:=af D8 k5;obtain⟨y0,y1,y2,y3,y4,zW,y6,zX,_,_⟩:=vG.out.all;obtain⟨f0,f1,f2,f3,f4,f5,f6,f7,_,_⟩:=vG.out.fr;clear x0 x1 x2 x3 x4 x5 x6 x7;have a8H:=HF.out;generalize hu:zf v (r++b.take (64 - r.length))=u;have Jq:=hid hu;clear hu;go_wp2
   all_goals go_meet
   all_goals refine⟨_,b.drop (64 - r.length),_,u,by rw[List.length_drop],by rw[List.length_drop];omega,by omega,by rw[List.length_drop];omega,?_,by rw[←Jq.out];exact rE.first v HF.out hrn hge,vG.out.a6q u,?_,?_⟩
   all_goals first
    | (rw[List.map_drop];exact Hb.out.JR (by simp;omega))
    | (rw[List.drop_eq_nil_of_le (by omega)];exact .inl rfl)
    | (repeat(refine Below.setCell ?_ (by simp;omega) _)
       exact KW)
    | (refine⟨?_⟩
       repeat(refine ae.far ?_ (by simp;omega) _)
       exact kX.out.b)
  ·have a8H:=HF.out
   have hr1:r=[]:=List.eq_nil_of_length_eq_zero (by omega);have Ol:=hid hr1;clear hr1;go_wp2
   all_goals go_meet
   all_goals exact⟨A,b,c,v,rfl,hbc,hcm,hbl,Hb.out,rE.zero v HF.out Ol.out,kC.out,HR2.out,kw⟩
 case rest =>
  obtain⟨A1,b1,c1,v1,rfl,b4j,hcm1,b4l,hb1,rD,kz,HR1,jK⟩:=hcut;have Hb1:=hid hb1;clear hb1;go_wp2_with fail
  go_loopw [1] (fun s wr => ∃ A2 b2 c2 v2,s = .slice A2 b2.length c2∧b2.length≤c2∧c2≤9223372036854775807∧b2.length≤100000000∧Rd w A2 (b2.map ah)∧Hid (rE F v b2 v2)∧Hid (iL wr w1.heap.size v2 none 0 0 ((N:Int)+(b.length:Int)))∧Hid (iL wr (w.heap.size+1) h80 none 0 0 0)∧Keep w wr) (fun s _=>match s with | .slice _ n _=>n | _=>0)
  case atStart=>exact⟨A1,b1,c1,v1,rfl,b4j,hcm1,b4l,Hb1.out,rD,kz,HR1,jK⟩
  case round =>
   obtain⟨A2,b2,c2,v2,rfl,hbc2,hcm2,c3h,hb2,HS2,kC,HR2,zC⟩:=hrel;have Hb2:=hid hb2;clear hb2;by_cases hlt:64≤b2.length
   ·obtain⟨x0,x1,x2,x3,x4,x5,x6,x7,_,_⟩:=kC.out.all
    have EH:Hid (∀ w',Keep w w' → ∀ c',Calls prog 146 #[v2.agg,.slice A2 64 c'] w' fun e w''=>e = .returned (zf v2 (b2.take 64)).agg∧Keep w' w''):=fun w' h c'=>a0Z v2 A2 (b2.take 64) c' w' (by rw[List.length_take];omega) (by rw[List.map_take];exact(Hb2.out.keep h).take 64) (HS.out.keep h);generalize hu:zf v2 (b2.take 64)=u at EH;have Jq:=hid hu;clear hu;go_wp2
    refine bu (.take [0,1,2,3] (.force [4] (.take [5] .done))) [6] (by kernel_rfl) (by kernel_rfl) (fun w3 k3=>?_);have a0:=aF (aC k3 x0);have a1:=aF (aC k3 x1);have a2:=aF (aC k3 x2);have a3:=aF (aC k3 x3)
    have a4:=aF (aC k3 x4);have a5:=aF (aC k3 x5);have a6:=aF (aC k3 x6);have a7:=aF (aC k3 x7)
    refine aN w3 (Below.refl _ _) ?_;simp only[au,ax,ak,aj];repeat(go_big_quiet_step (fail))
    refine wpQuiet_nil ?_;clear a0 a1 a2 a3 a4 a5 a6 a7 x0 x1 x2 x3 x4 x5 x6 x7;refine bI ?_;simp only[au,ax,ak,aj];refine aI rfl (fun K hK=>?_);go_simp;have zD:=af zC k3
    (with_reducible refine(EH.out _ zD _).mono ?_)
    rintro e w4 ⟨rfl,hk⟩;refine hK _ _ hk ?_;clear hK K;refine aS ?_;refine aN w4 (Below.refl _ _) ?_;simp only[au,ax,ak,aj];repeat(go_big_quiet_step (fail))
    refine wpQuiet_nil (aT ?_);have k4:=af k3 hk;have ug:=hid (kC.out.keep k4);have HR4:=hid (HR2.out.keep k4)
    have D8:=af zD hk;obtain⟨x0,x1,x2,x3,x4,x5,x6,x7,_,_⟩:=ug.out.all;obtain⟨f0,f1,f2,f3,f4,f5,f6,f7,_,_⟩:=ug.out.fr;clear hk;go_wp2
    go_roundw
    case rel =>
     refine⟨_,b2.drop 64,c2 - 64,u,by rw[List.length_drop],by rw[List.length_drop];omega,by omega,by rw[List.length_drop];omega,by rw[List.map_drop];exact Hb2.out.b24 64 c2 (by simpa using hlt) (by simpa using hbc2),by rw[←Jq.out];exact rE.next HS2.out hlt,ug.out.a6q u,?_,?_⟩
     ·refine⟨?_⟩
      repeat(refine ae.far ?_ (by simp;omega) _)
      exact HR4.out.b
     ·repeat(refine Below.setCell ?_ (by simp;omega) _)
      exact D8
    case measure=>simp;omega
   ·have hlt2:b2.length<64:=by omega
    have Hd:=hid (HS2.out.done hlt2);have hnn : ¬ (64:Int)≤(b2.length:Int):=by omega
    go_upto_region 18 with(at_builtin;refine iF vY (by rfl) _ _ (by rfl) wr.heap.size _ 0 [] (by rfl) (Qh _ _ _) _ b2.length c2 (b2.map ah) (by rfl) (by simp) (Hb2.out.keep (af zC (aB _ _))) (jL _) (by omega) (by unfold maxLen;omega) (by simp) ?_;intro v9 w9 LP wH b4h;have pz:=jm LP (n':=b2.length) (xs':=b2.map ah) (by omega) (by simp);obtain⟨A9,c9,rfl,a2S,a3u,a3G⟩:=dD pz;have a9U:=hid (WR pz);have k9:=lQ (aB wr _) (by simp) wH (Qh _ _ 1);have fJ:=hid (kC.out.keep k9);have iy:=hid (HR2.out.keep k9);obtain⟨x0,x1,x2,x3,x4,x5,x6,x7,xw,Et⟩:=fJ.out.all;obtain⟨f0,f1,f2,f3,f4,f5,f6,f7,f8,f9⟩:=fJ.out.fr;obtain⟨y0,y1,y2,y3,y4,zW,y6,zX,BC,c4C⟩:=iy.out.all;obtain⟨g0,g1,g2,g3,g4,g5,g6,g7,g8,g9⟩:=iy.out.fr;have b0g:=hid a3G;clear LP pz a3G wH b4h)
    go_wp2
    have hws:=zC.size;have hw1:=kC.out.b.lt;have hw2:=HR2.out.b.lt;refine bodyPost_ret (v:=sK v2 A9 b2.length c9 ((N:Int)+(b.length:Int))) (results_cell_row results94 _ _ (w.heap.size+1) _ _ _ _ rfl (iL.b9m ⟨iy.out.b.far (p:=⟨w1.heap.size,8,none⟩) (by simp;omega) _⟩ v2 A9 b2.length c9 _) underlying200 rfl (by kernel_rfl)) rfl ?_;obtain⟨e1,e2,e3⟩:=Hd.out;rw[e1,e2,←List.map_drop,e3];refine⟨A9,⟨c9,rfl⟩,?_,?_⟩
    ·rcases a9U.out with h0 | ⟨g,off,rfl,hg⟩
     ·rw[List.eq_nil_of_length_eq_zero h0];exact .inl rfl
     ·iterate 11 (refine Rd.far ?_ (by simp;omega) _)
      exact b0g.out
    ·iterate 11 (refine Below.setCell ?_ (by first | (simp;omega) | simp) _)
     exact af zC k9
end Go.Proofs.YtiagcenlnekdeaaGreatDoor
namespace Go.Proofs.YtiagcenlnekdeaaGreatDoor
open Go.RowKit
attribute [local go_sem ↓] Go.wp_at_zero Go.wp_at_succ
def dS (x:UInt32) (d:Int):Int:=(x.toNat:Int)/d%256
def lU (V:List UInt32):Nat→List UInt8
 | 0=>List.replicate 32 0
 | k+1=>((((lU V k).set (4*k) (w8 (dS (V.getD k 0) 16777216))).set (4*k+1) (w8 (dS (V.getD k 0) 65536))).set (4*k+2) (w8 (dS (V.getD k 0) 256))).set (4*k+3) (w8 (dS (V.getD k 0) 1))
theorem WL (V:List UInt32) (k:Nat):(lU V k).length=32:=by
 induction k with
 | zero=>rfl
 | succ k ih=>rw[lU,List.length_set,List.length_set,List.length_set,List.length_set,ih]
def WJ (V:cO):List UInt8:=lU V.l 8
theorem b7W (V:cO):(WJ V).length=32:=WL _ _
def O1 (v:cO) (r:List UInt8) (N:Nat):cO:=blocks v (r++mD N 8) ((r++mD N 8).length/64)
def zO (l:List UInt8):List UInt8:=WJ (O1 (blocks wC l (l.length/64)) (l.drop (64*(l.length/64))) l.length)
def jH (l:List UInt8):List UInt8:=zO (zO l)
theorem GN (l:List UInt8):(zO l).length=32:=by unfold zO;exact b7W _
theorem uw (l:List UInt8):(jH l).length=32:=by unfold jH;exact GN _
theorem b5V (V:cO) (k:Nat) (hk:k<8) (y:UInt32) (hy:V.l[k]?=some y) (w:World) :
  (Instr.index 198 (.agg #[.int .u32 V.a.toNat,.int .u32 V.b.toNat,.int .u32 V.c.toNat,.int .u32 V.d.toNat,.int .u32 V.e.toNat,.int .u32 V.f.toNat,.int .u32 V.g.toNat,.int .u32 V.h.toNat]) (.int .i64 k)).run prog w = .ok (ag y) w:=by
 rcases(show k=0∨k=1∨k=2∨k=3∨k=4∨k=5∨k=6∨k=7 by omega)with rfl | rfl | rfl | rfl | rfl | rfl | rfl | rfl
 all_goals
  clear hk;simp only[cO.l,List.getElem?_cons_zero,List.getElem?_cons_succ,Option.some.injEq]at hy;subst hy
  first | (go_simp;done) | (simp[Instr.index,asIntOf,run_underlying underlying198,go_sem];done)
theorem b3k (v:cO) (RA:Option Addr) (r:List UInt8) (rc N:Nat) (w:World) (hS:bV w) (hr:Rd w RA (r.map ah)) (hrl:r.length=N%64) (hN:N≤100000000000) :
  Calls prog 93 #[sK v RA r.length rc N] w fun e w'=>e = .returned (zl (WJ (O1 v r N)))∧Keep w w':=by
 have hpl:=a5G N 8
 have P1:Hid (∀ w',Keep w w'→Calls prog 145 #[.int .u64 N] w' fun e w'' => ∃ A',e = .returned (.slice A' (mD N 8).length (mD N 8).length)∧Rd w'' A' ((mD N 8).map ah)∧Keep w' w''):=fun w' hk =>
  (b77 N w' (by omega)).mono fun e w'' ⟨h1,h2,h3⟩=>⟨_,by rw[h1,hpl],h2.rd,h3⟩
 have W1:Hid (∀ w' A',Keep w w'→Rd w' A' ((mD N 8).map ah)→Calls prog 94 #[sK v RA r.length rc N,.slice A' (mD N 8).length (mD N 8).length] w' fun e w'' => ∃ A2 n2 c2 N2,e = .returned (sK (O1 v r N) A2 n2 c2 N2)∧Keep w' w''):=fun w' A' hk hp =>
  (write_any v RA r rc N A' (mD N 8) _ w' (hS.keep hk) (hr.keep hk) hrl hp (Nat.le_refl _) (by rw[hpl];unfold uI maxLen;split <;> omega) (by rw[hpl];unfold uI;split <;> omega) hN (by right;rw[hpl,hrl];unfold uI;split <;> omega)).mono
   fun e w'' ⟨A',c',h1,h2,h3⟩=>⟨_,_,_,_,h1,h3⟩
 have Hrl:=hid hrl;have hrn:r.length<64:=by omega
 clear hpl hrl hr hS;generalize O1 v r N=V at *;generalize mD N 8=pd at *;go_enter func93,ntmps93
 go_wp2_with fail
 refine(a6z v RA r.length rc N _ hrn (by omega) Hrl.out).mono ?_;rintro e w1 ⟨rfl,k1⟩;have kY:Hid (iL w1 w.heap.size v RA r.length rc N):=⟨((iL.new w w.heap.size v RA r.length rc N rfl).b.alloc _).keep k1⟩
 have HR1:=hid ((a7n (w.alloc (.cells #[ag v.a,ag v.b,ag v.c,ag v.d,ag v.e,ag v.f,ag v.g,ag v.h,.slice RA r.length rc,.int .u64 N] 200)) (w.heap.size+1) 27 (by simp)).keep k1);have hz1:w.heap.size+2≤w1.heap.size:=by have:=k1.size;simpa using this
 have kw:=af (af (aB _ _) (aB _ _)) k1;clear k1;obtain⟨x0,x1,x2,x3,x4,x5,x6,x7,xw,Et⟩:=kY.out.all;go_wp2_with fail
 refine bu (.take [0,1,2] (.force [3,4] .done)) [5] (by kernel_rfl) (by kernel_rfl) (fun w3 k3=>?_);have a0:=aF (aC k3 x0);have a1:=aF (aC k3 x1);have a2:=aF (aC k3 x2);have a3:=aF (aC k3 x3)
 have a4:=aF (aC k3 x4);have a5:=aF (aC k3 x5);have a6:=aF (aC k3 x6);have a7:=aF (aC k3 x7)
 have a8:=aF (aC k3 xw);have a9:=aF (aC k3 Et)
 refine aN w3 (Below.refl _ _) ?_;simp only[au,ax,ak,aj];repeat(go_big_quiet_step (fail))
 refine wpQuiet_nil ?_;clear a0 a1 a2 a3 a4 a5 a6 a7 a8 a9 x0 x1 x2 x3 x4 x5 x6 x7 xw Et;refine bI ?_;simp only[au,ax,ak,aj];refine aI rfl (fun K hK=>?_);go_simp;have zD:=af kw k3
 (with_reducible refine(P1.out _ zD).mono ?_)
 rintro e w4 ⟨A4,rfl,hr4,hk⟩;refine hK _ _ hk ?_;clear hK K;have D8:=af zD hk;have CW:=hid hr4;have k4:=af k3 hk;clear hk hr4;refine aI rfl (fun K hK=>?_);go_simp
 (with_reducible refine(W1.out _ _ D8 CW.out).mono ?_)
 rintro e w5 ⟨A5,n5,c5,N5,rfl,hk⟩;refine hK _ _ hk ?_;clear hK K;have KW:=af D8 hk;have k5:=af k4 hk;have Oc:=hid (kY.out.keep k5);have kX:=hid (HR1.out.keep k5)
 have nZ:=k5.size;clear hk;refine aS (aT ?_);obtain⟨x0,x1,x2,x3,x4,x5,x6,x7,xw,Et⟩:=Oc.out.all;obtain⟨f0,f1,f2,f3,f4,f5,f6,f7,f8,f9⟩:=Oc.out.fr;have hzl:w.heap.size<w5.heap.size:=by omega
 go_wp2_with fail
 obtain⟨wq,hwq⟩ : ∃ wq,wq=((((((((((w5.setCell ⟨w.heap.size,0,none⟩ (ag V.a)).setCell ⟨w.heap.size,1,none⟩ (ag V.b)).setCell ⟨w.heap.size,2,none⟩ (ag V.c)).setCell ⟨w.heap.size,3,none⟩ (ag V.d)).setCell ⟨w.heap.size,4,none⟩ (ag V.e)).setCell ⟨w.heap.size,5,none⟩ (ag V.f)).setCell ⟨w.heap.size,6,none⟩ (ag V.g)).setCell ⟨w.heap.size,7,none⟩ (ag V.h)).setCell ⟨w.heap.size,8,none⟩ (.slice A5 n5 c5)).setCell ⟨w.heap.size,9,none⟩ (.int .u64 N5)):=⟨_,rfl⟩
 have a4a:wq.heap.size=w5.heap.size:=by rw[hwq];simp
 have b6o:Keep w wq:=by
  rw[hwq];iterate 10 (refine Below.setCell ?_ (by simp) _)
  exact KW
 have hrq:ae wq (w.heap.size+1) 27 ((List.replicate 32 (0:UInt8)).map ah):=by
  rw[hwq];iterate 10 (refine ae.far ?_ (by simp) _)
  exact kX.out
 rw[←hwq];clear hwq x0 x1 x2 x3 x4 x5 x6 x7 xw Et f0 f1 f2 f3 f4 f5 f6 f7 f8 f9;rw[←a4a];have c3W:w.heap.size+1<wq.heap.size:=by omega
 clear a4a;have KG:=a7n wq wq.heap.size 27 rfl;have KL:=hrq.alloc (.cells #[.int .u8 0,.int .u8 0,.int .u8 0,.int .u8 0,.int .u8 0,.int .u8 0,.int .u8 0,.int .u8 0,.int .u8 0,.int .u8 0,.int .u8 0,.int .u8 0,.int .u8 0,.int .u8 0,.int .u8 0,.int .u8 0,.int .u8 0,.int .u8 0,.int .u8 0,.int .u8 0,.int .u8 0,.int .u8 0,.int .u8 0,.int .u8 0,.int .u8 0,.int .u8 0,.int .u8 0,.int .u8 0,.int .u8 0,.int .u8 0,.int .u8 0,.int .u8 0] 27);have KX:=af b6o (aB wq (.cells #[.int .u8 0,.int .u8 0,.int .u8 0,.int .u8 0,.int .u8 0,.int .u8 0,.int .u8 0,.int .u8 0,.int .u8 0,.int .u8 0,.int .u8 0,.int .u8 0,.int .u8 0,.int .u8 0,.int .u8 0,.int .u8 0,.int .u8 0,.int .u8 0,.int .u8 0,.int .u8 0,.int .u8 0,.int .u8 0,.int .u8 0,.int .u8 0,.int .u8 0,.int .u8 0,.int .u8 0,.int .u8 0,.int .u8 0,.int .u8 0,.int .u8 0,.int .u8 0] 27));have a0d:=hid KG;have Om:=hid KL
 generalize wq.alloc (.cells #[.int .u8 0,.int .u8 0,.int .u8 0,.int .u8 0,.int .u8 0,.int .u8 0,.int .u8 0,.int .u8 0,.int .u8 0,.int .u8 0,.int .u8 0,.int .u8 0,.int .u8 0,.int .u8 0,.int .u8 0,.int .u8 0,.int .u8 0,.int .u8 0,.int .u8 0,.int .u8 0,.int .u8 0,.int .u8 0,.int .u8 0,.int .u8 0,.int .u8 0,.int .u8 0,.int .u8 0,.int .u8 0,.int .u8 0,.int .u8 0,.int .u8 0,.int .u8 0] 27)=w6 at a0d Om KX ⊢;clear KG KL
 go_loopw [17] (fun i wr => ∃ k:Nat,k≤8∧i = .int .i64 k∧Keep w wr∧ae wr (w.heap.size+1) 27 ((List.replicate 32 (0:UInt8)).map ah)∧ae wr wq.heap.size 27 ((lU V.l k).map ah)) (fun i _=>8 - (intOf i).toNat)
 case atStart=>exact⟨0,by omega,rfl,KX,Om.out,a0d.out⟩
 case round =>
  obtain⟨k,hk,rfl,hkr,hbr,F6⟩:=hrel;by_cases hlt:k<8
  ·obtain⟨y,hy⟩ : ∃ y,V.l[k]?=some y:=⟨_,List.getElem?_eq_getElem (by exact hlt)⟩
   have hix:=b5V V k hlt y hy wr;have b0b:=hid (show lU V.l (k+1)=((((lU V.l k).set (4*k) (w8 (dS y 16777216))).set (4*k+1) (w8 (dS y 65536))).set (4*k+2) (w8 (dS y 256))).set (4*k+3) (w8 (dS y 1)) by rw[lU,qJ hy]);have IG:=hid (WL V.l k);have Og:=hid hbr;have Tm:=hid F6
   clear hbr F6 hy;have a9X:=hid hkr;have hwz:=hkr.size;obtain⟨o0,h0⟩ : ∃ o,(lU V.l k)[4*k]?=some o:=⟨_,List.getElem?_eq_getElem (by rw[IG.out];omega)⟩
   have c0:=Tm.out.cell (4*k);rw[List.getElem?_map,h0,Option.map_some]at c0;have f0:=Tm.out.frozen (4*k);clear h0;go_upto_region 9 with fail
   obtain⟨wa,hw0⟩ : ∃ ww,ww=wr.setCell ⟨wq.heap.size,4*k,none⟩ (.int .u8 ((y.toNat:Int)/16777216%256)):=⟨_,rfl⟩
   have Tn:Hid (ae wa wq.heap.size 27 (((lU V.l k).set (4*k) (w8 (dS y 16777216))).map ah)):=by
    rw[GG _ _ (dS y 16777216) (by unfold dS;omega) (by unfold dS;omega),hw0];have h:=Tm.out.az (4*k) (.int .u8 (dS y 16777216));exact h
   have ku:Hid (((lU V.l k).set (4*k) (w8 (dS y 16777216))).length=32):=by
    have h:=IG.out
    show(List.set _ _ _).length=32
    rw[List.length_set];exact h
   have a9M:Hid (ae wa (w.heap.size+1) 27 ((List.replicate 32 (0:UInt8)).map ah)):=by rw[hw0];exact Og.out.far (by simp;omega) _
   have a9Y:Hid (Keep w wa):=by rw[hw0];exact a9X.out.setCell (by simp;omega) _
   rw[←hw0];clear hw0 c0 f0;obtain⟨o1,h1⟩ : ∃ o,((lU V.l k).set (4*k) (w8 (dS y 16777216)))[4*k+1]?=some o:=⟨_,List.getElem?_eq_getElem (by rw[ku.out];omega)⟩
   have c1:=Tn.out.cell (4*k+1);rw[List.getElem?_map,h1,Option.map_some]at c1;have f1:=Tn.out.frozen (4*k+1);clear h1;go_upto_region 10 with fail
   obtain⟨wb,hw1⟩ : ∃ ww,ww=wa.setCell ⟨wq.heap.size,4*k+1,none⟩ (.int .u8 ((y.toNat:Int)/65536%256)):=⟨_,rfl⟩
   have Tq:Hid (ae wb wq.heap.size 27 ((((lU V.l k).set (4*k) (w8 (dS y 16777216))).set (4*k+1) (w8 (dS y 65536))).map ah)):=by
    rw[GG _ _ (dS y 65536) (by unfold dS;omega) (by unfold dS;omega),hw1];have h:=Tn.out.az (4*k+1) (.int .u8 (dS y 65536));exact h
   have HL2:Hid ((((lU V.l k).set (4*k) (w8 (dS y 16777216))).set (4*k+1) (w8 (dS y 65536))).length=32):=by
    have h:=ku.out
    show(List.set _ _ _).length=32
    rw[List.length_set];exact h
   have Oh:Hid (ae wb (w.heap.size+1) 27 ((List.replicate 32 (0:UInt8)).map ah)):=by rw[hw1];exact a9M.out.far (by simp;omega) _
   have a9Z:Hid (Keep w wb):=by rw[hw1];exact a9Y.out.setCell (by simp;omega) _
   rw[←hw1];clear hw1 c1 f1;obtain⟨o2,h2⟩ : ∃ o,(((lU V.l k).set (4*k) (w8 (dS y 16777216))).set (4*k+1) (w8 (dS y 65536)))[4*k+2]?=some o:=⟨_,List.getElem?_eq_getElem (by rw[HL2.out];omega)⟩
   have c2:=Tq.out.cell (4*k+2);rw[List.getElem?_map,h2,Option.map_some]at c2;have f2:=Tq.out.frozen (4*k+2);clear h2;go_upto_region 11 with fail
   obtain⟨wc,hw2⟩ : ∃ ww,ww=wb.setCell ⟨wq.heap.size,4*k+2,none⟩ (.int .u8 ((y.toNat:Int)/256%256)):=⟨_,rfl⟩
   have Tt:Hid (ae wc wq.heap.size 27 (((((lU V.l k).set (4*k) (w8 (dS y 16777216))).set (4*k+1) (w8 (dS y 65536))).set (4*k+2) (w8 (dS y 256))).map ah)):=by
    rw[GG _ _ (dS y 256) (by unfold dS;omega) (by unfold dS;omega),hw2];have h:=Tq.out.az (4*k+2) (.int .u8 (dS y 256));exact h
   have vC:Hid (((((lU V.l k).set (4*k) (w8 (dS y 16777216))).set (4*k+1) (w8 (dS y 65536))).set (4*k+2) (w8 (dS y 256))).length=32):=by
    have h:=HL2.out
    show(List.set _ _ _).length=32
    rw[List.length_set];exact h
   have a9N:Hid (ae wc (w.heap.size+1) 27 ((List.replicate 32 (0:UInt8)).map ah)):=by rw[hw2];exact Oh.out.far (by simp;omega) _
   have a90:Hid (Keep w wc):=by rw[hw2];exact a9Z.out.setCell (by simp;omega) _
   rw[←hw2];clear hw2 c2 f2;obtain⟨o3,h3⟩ : ∃ o,((((lU V.l k).set (4*k) (w8 (dS y 16777216))).set (4*k+1) (w8 (dS y 65536))).set (4*k+2) (w8 (dS y 256)))[4*k+3]?=some o:=⟨_,List.getElem?_eq_getElem (by rw[vC.out];omega)⟩
   have c3:=Tt.out.cell (4*k+3);rw[List.getElem?_map,h3,Option.map_some]at c3;have f3:=Tt.out.frozen (4*k+3);clear h3;go_upto_region 12 with fail
   obtain⟨wd,hw3⟩ : ∃ ww,ww=wc.setCell ⟨wq.heap.size,4*k+3,none⟩ (.int .u8 ((y.toNat:Int)%256)):=⟨_,rfl⟩
   have a9L:Hid (ae wd wq.heap.size 27 ((((((lU V.l k).set (4*k) (w8 (dS y 16777216))).set (4*k+1) (w8 (dS y 65536))).set (4*k+2) (w8 (dS y 256))).set (4*k+3) (w8 (dS y 1))).map ah)):=by
    rw[GG _ _ (dS y 1) (by unfold dS;omega) (by unfold dS;omega),hw3];have h:=Tt.out.az (4*k+3) (.int .u8 (dS y 1));unfold dS at h ⊢;rw[Int.ediv_one]at h ⊢;exact h
   have II:Hid ((((((lU V.l k).set (4*k) (w8 (dS y 16777216))).set (4*k+1) (w8 (dS y 65536))).set (4*k+2) (w8 (dS y 256))).set (4*k+3) (w8 (dS y 1))).length=32):=by
    have h:=vC.out
    show(List.set _ _ _).length=32
    rw[List.length_set];exact h
   have a9O:Hid (ae wd (w.heap.size+1) 27 ((List.replicate 32 (0:UInt8)).map ah)):=by rw[hw3];exact a9N.out.far (by simp;omega) _
   have a94:Hid (Keep w wd):=by rw[hw3];exact a90.out.setCell (by simp;omega) _
   rw[←hw3];clear hw3 c3 f3;go_wp2
   go_roundw
   case rel =>
    refine⟨k+1,by omega,by go_num,a94.out,a9O.out,?_⟩;rw[b0b.out];exact a9L.out
   case measure=>simp[intOf];omega
  ·have Hk:=hid (show k=8 by omega)
   have hxl:=WL V.l k;generalize hx:lU V.l k=x at F6 hxl;have Hx:=hid hx;clear hx;obtain⟨cs,hcs⟩ : ∃ cs:Array Value,cs.toList=x.map ah:=⟨(x.map ah).toArray,rfl⟩
   have hcz:cs.size=32:=by rw[←Array.length_toList,hcs,List.length_map,hxl]
   have hci:(prog.info? 27).map (·.size)=some cs.size:=by rw[hcz];kernel_rfl
   have hcn : ¬ cs = #[]:=by intro h;rw[h]at hcz;simp at hcz
   rw[←hcs]at F6;obtain⟨w8,hst,hb8,aZ⟩:=bn (P:=prog) cs.toList hbr (by simp[hcz]) (by rw[hcs];exact jL _);have a9K:=hid F6;have aY:=hid hb8;have bf:=hid aZ;have dh:=hid hcs
   clear F6 hb8 aZ hcs hbr;go_upto_region 13 with fail
   go_wp2_with ((with_reducible refine bY wq.heap.size cs (Eq.trans ?_ rfl) a9K.out (.array 32 5) (show prog.underlying 27=_ by kernel_rfl) (uq _ _) hci ?_);rfl)
   have hb8:=aY.out;refine bodyPost_ret (v:=.agg cs) (results_cell_row results93 _ _ (w.heap.size+1) _ _ _ (.array 32 5) rfl hb8 (by kernel_rfl) rfl (by rw[List.size_toArray,Array.length_toList,hcz];kernel_rfl)) rfl ⟨?_,aK hkr bf.out (by omega)⟩;rw[show cs=(x.map ah).toArray from by rw[←dh.out,Array.toArray_toList],←Hx.out,Hk.out];rfl
theorem sum_any (A:Option Addr) (l:List UInt8) (c:Nat) (w:World) (hS:bV w) (hr:Rd w A (l.map ah)) (hlc:l.length≤c) (hcm:c≤maxLen) (hl:l.length≤100000000) :
  Calls prog 63 #[.slice A l.length c] w fun e w'=>e = .returned (zl (zO l))∧Keep w w':=by
 obtain⟨cs,hcs⟩ : ∃ cs,aX (zO l) cs:=⟨_,aX.of (GN l)⟩
 have E1:Hid (∀ w' A' c',Keep w w'→Rd w' A' ((l.drop (64*(l.length/64))).map ah)→Calls prog 93 #[sK (blocks wC l (l.length/64)) A' (l.length%64) c' l.length] w' fun e w''=>e = .returned (.agg cs)∧Keep w' w''):=fun w' A' c' hk hr'=>by
  have hm:(l.drop (64*(l.length/64))).length=l.length%64:=by rw[List.length_drop];omega
  have h:=b3k (blocks wC l (l.length/64)) A' (l.drop (64*(l.length/64))) c' l.length w' (hS.keep hk) hr' hm (by omega);rw[hm]at h;refine h.mono fun e w'' ⟨h1,h2⟩=>⟨?_,h2⟩
  rw[h1,←hcs.e];rfl
 have W1:Hid (∀ w',Keep w w'→Calls prog 94 #[sK wC none 0 0 0,.slice A l.length c] w' fun e w'' => ∃ A' c',e = .returned (sK (blocks wC l (l.length/64)) A' (l.length%64) c' l.length)∧Rd w'' A' ((l.drop (64*(l.length/64))).map ah)∧Keep w' w''):=fun w' hk=>by
  have h:=write_any wC none [] 0 0 A l c w' (hS.keep hk) (.inl rfl) rfl (hr.keep hk) hlc hcm hl (by omega) (.inl rfl);simp only[List.nil_append,Nat.zero_add,List.length_nil]at h;exact h
 have S1:Hid (∀ w',Keep w w'→Calls prog 95 #[] w' fun e w''=>e = .returned (sK wC none 0 0 0)∧Keep w' w''):=fun w' hk=>b9K w' (hS.keep hk);rw[show(zl (zO l)) = .agg cs by rw[←hcs.e]];generalize blocks wC l (l.length/64)=V at *;generalize l.drop (64*(l.length/64))=lr at *;generalize l.length%64=nr at *;obtain⟨zs,hzs⟩ : ∃ zs,zs=uT:=⟨_,rfl⟩
 have hz1:zs.size=32:=by rw[hzs];exact xy
 have hz2 : ∀ w,(zeroValue 27).run prog w = .ok (.agg zs) w:=fun w=>by rw[hzs];exact Hf w
 have hz3 : ¬ zs = #[]:=fun h=>by rw[h]at hz1;cases hz1
 have hcz:=hcs.z;have hcn:=hcs.n
 have dh:=hid hcs;clear hzs hcs hr hS;go_enter func63,ntmps63
 go_wp2_with fail
 refine(S1.out _ (aB _ _)).mono ?_;rintro e w1 ⟨rfl,k1⟩;have jK:=af (aB w _) k1;have Hb1:=hid ((show ae _ w.heap.size 27 zs.toList from ae.new w 27 zs.toList).keep k1);go_wp2_with fail
 refine(W1.out _ jK).mono ?_;rintro e w2 ⟨A2,c2,rfl,hr2,k2⟩;have Fj:=hid hr2;clear hr2;have zC:=af jK k2;go_wp2_with fail
 refine(E1.out _ _ _ zC Fj.out).mono ?_;rintro e w3 ⟨rfl,k3⟩;have zD:=af zC k3;obtain⟨w8,hst,hb8,aZ⟩:=bn (P:=prog) cs.toList (Hb1.out.keep (af k2 k3)) (by simp[hz1,hcz]) dh.out.o;have bf:=hid aZ;have aY:=hid hb8;clear aZ hb8
 go_wp2
 have hb8:=aY.out;exact bodyPost_ret (v:=.agg cs) (results_cell_row results63 _ _ w.heap.size _ _ _ (.array 32 5) rfl hb8 kG rfl (by rw[List.size_toArray,Array.length_toList];exact dh.out.i)) rfl ⟨rfl,aK zD bf.out (by omega)⟩
theorem JQ (A:Option Addr) (l:List UInt8) (c:Nat) (w:World) (hS:bV w) (hr:Rd w A (l.map ah)) (hlc:l.length≤c) (hcm:c≤maxLen) (hl:l.length≤100000000) :
  Calls prog 34 #[.slice A l.length c] w fun e w'=>e = .returned (zl (jH l))∧Keep w w':=by
 obtain⟨cs,hcs⟩ : ∃ cs,aX (zO l) cs:=⟨_,aX.of (GN l)⟩
 obtain⟨ds,hds⟩ : ∃ ds,aX (jH l) ds:=⟨_,aX.of (uw l)⟩
 have E1:Hid (∀ w',Keep w w'→Calls prog 63 #[.slice A l.length c] w' fun e w''=>e = .returned (.agg cs)∧Keep w' w''):=fun w' hk =>
  (sum_any A l c w' (hS.keep hk) (hr.keep hk) hlc hcm hl).mono fun e w'' ⟨h1,h2⟩=>⟨by rw[h1,←hcs.e],h2⟩
 have E2:Hid (∀ w' g,Keep w w'→Rd w' (some ⟨g,0,none⟩) cs.toList→Calls prog 63 #[.slice (some ⟨g,0,none⟩) 32 32] w' fun e w''=>e = .returned (.agg ds)∧Keep w' w''):=fun w' g hk hr'=>by
  have h:=sum_any (some ⟨g,0,none⟩) (zO l) 32 w' (hS.keep hk) (by rw[←hcs.l];exact hr') (by rw[GN];omega) (by unfold maxLen;omega) (by rw[GN];omega);rw[GN]at h;exact h.mono fun e w'' ⟨h1,h2⟩=>⟨by rw[h1,←hds.e];rfl,h2⟩
 rw[show(zl (jH l)) = .agg ds by rw[←hds.e]];obtain⟨zs,hzs⟩ : ∃ zs,zs=uT:=⟨_,rfl⟩
 have hz1:zs.size=32:=by rw[hzs];exact xy
 have hz2 : ∀ w,(zeroValue 27).run prog w = .ok (.agg zs) w:=fun w=>by rw[hzs];exact Hf w
 have hz3 : ¬ zs = #[]:=fun h=>by rw[h]at hz1;cases hz1
 have hcz:=hcs.z;have hcn:=hcs.n
 have hdz:=hds.z;have hdn:=hds.n
 have dh:=hid hcs;have dZ:=hid hds
 have hst1 : ∀ ww:World,(storeCells ⟨ww.heap.size,0,none⟩ cs.toList 0).run prog (ww.alloc (.cells zs 27)) = .ok () (ww.alloc (.cells cs 27)):=fun ww=>fK ww 27 dh.out.i (hz1.trans hcz.symm) dh.out.o;clear hzs hcs hds hr hS;go_enter func34,ntmps34
 go_wp2_with fail
 refine(E1.out _ (aB _ _)).mono ?_;rintro e w1 ⟨rfl,k1⟩;have jK:=af (aB w _) k1;have Hb1:=hid ((show ae _ w.heap.size 27 zs.toList from ae.new w 27 zs.toList).keep k1);go_wp2_with fail
 have hbn:ae (w1.alloc (.cells cs 27)) w1.heap.size 27 cs.toList:=ae.new w1 27 cs.toList;refine(E2.out _ _ (af jK (aB _ _)) hbn.rd).mono ?_;rintro e w2 ⟨rfl,k2⟩;have zC:=af (af jK (aB w1 (.cells cs 27))) k2;obtain⟨w8,hst,hb8,aZ⟩:=bn (P:=prog) ds.toList ((Hb1.out.alloc _).keep k2) (by simp[hz1,hdz]) dZ.out.o;have bf:=hid aZ;have aY:=hid hb8;clear aZ hb8 hst1
 go_wp2
 have hb8:=aY.out;exact bodyPost_ret (v:=.agg ds) (results_cell_row results34 _ _ w.heap.size _ _ _ (.array 32 5) rfl hb8 kG rfl (by rw[List.size_toArray,Array.length_toList];exact dZ.out.i)) rfl ⟨rfl,aK zC bf.out (by omega)⟩
end Go.Proofs.YtiagcenlnekdeaaGreatDoor
