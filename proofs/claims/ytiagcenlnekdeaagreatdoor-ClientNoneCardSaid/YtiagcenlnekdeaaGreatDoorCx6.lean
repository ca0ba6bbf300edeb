/- Texts merged by pack.py: HdA, HdE, Hi, UP, Wa, UA. -/
import Derived.Test.YtiagcenlnekdeaaGreatDoorCx4
import Derived.Lib.EndianBits
import Derived.Laws.ResultCell
import Derived.Stop.BytesEq
import Derived.Test.YtiagcenlnekdeaaGreatDoorCx5
import Derived.Lib.BitFns
set_option maxRecDepth 1000000
set_option maxHeartbeats 16000000
open Go.Proofs.Tryz
open Go.Lib (hid)
set_option linter.unusedSimpArgs false
set_option linter.unusedVariables false
namespace Go.Proofs.YtiagcenlnekdeaaGreatDoor
open Go.RowKit
attribute [local go_sem ↓] Go.wp_at_zero Go.wp_at_succ
theorem cu {w:World} {g:Nat} {t:TypeId} {all:List Value} (hb:ae w g t all) (off:Nat) (cs:List Value) (hs:(all.drop off).take cs.length=cs):w.rangeAt g off cs:=fun j v hv=>by
 have hj:j<cs.length:=(List.getElem?_eq_some_iff.1 hv).1;rw[hb.cell];rw[←hs,List.getElem?_take_of_lt hj,List.getElem?_drop]at hv;exact hv
theorem eH {w w':World} {g o:Nat} {u:Value} (h:w.grownBy w' (some g)):w.grownBy (w'.setCell ⟨g,o,none⟩ u) (some g) :=
 h.trans ⟨rfl,rfl,rfl,by simp,fun k _ hne=>Below.heap_setCell w' _ u k (fun e=>hne (by rw[e]))⟩
theorem iH (w:World) (r:Option Nat):w.grownBy w r:=⟨rfl,rfl,rfl,Nat.le_refl _,fun _ _ _=>rfl⟩
def dN (x:UInt32) (k:Nat):Int:=(x.toNat:Int)/2^(8*k)%256
def lT (l:List UInt8) (off:Nat) (x:UInt32):Nat→List UInt8
 | 0=>l
 | k+1=>(lT l off x k).set (off+k) (w8 (dN x k))
theorem KY (l:List UInt8) (off:Nat) (x:UInt32) (k:Nat):(lT l off x k).length=l.length:=by
 induction k with
 | zero=>rfl
 | succ k ih=>rw[lT,List.length_set,ih]
theorem PT (g off n c:Nat) (t:TypeId) (l:List UInt8) (x:UInt32) (w:World) (hb:ae w g t (l.map ah)) (hn:4≤n) (hl:off+4≤l.length) :
  Calls prog 62 #[.slice (some ⟨g,off,none⟩) n c,ag x] w fun e w'=>e = .returned (.tuple #[])∧ae w' g t ((lT l off x 4).map ah)∧w.grownBy w' (some g):=by
 have Hb:=hid hb;clear hb;go_enter func62,ntmps62
 go_wp2_with fail
 go_loopw [5] (fun i wr => ∃ k:Nat,k≤4∧i = .int .i64 k∧ae wr g t ((lT l off x k).map ah)∧w.grownBy wr (some g)) (fun i _=>4 - (intOf i).toNat)
 case atStart=>exact⟨0,by omega,rfl,Hb.out,iH _ _⟩
 case round =>
  obtain⟨k,hk,rfl,hb,hg⟩:=hrel;by_cases hlt:k<4
  ·have hx:=G6 x
   obtain⟨o,ho⟩ : ∃ o,(lT l off x k)[off+k]?=some o:=⟨_,List.getElem?_eq_getElem (by rw[KY];omega)⟩
   have c0:=hb.cell (off+k);rw[List.getElem?_map,ho,Option.map_some]at c0;have f0:=hb.frozen (off+k);have Hb2:=hid hb;have TE:=hid hg
   clear hb hg ho;go_wp2
   go_roundw
   case rel =>
    refine⟨k+1,by omega,by go_num,?_,eH TE.out⟩;rw[lT,GG _ _ (dN x k) (by unfold dN;omega) (by unfold dN;omega)];exact Hb2.out.az _ _
   case measure=>simp[intOf];omega
  ·have Hk:=hid (show k=4 by omega)
   have Hb2:=hid hb;have TE:=hid hg
   clear hb hg;go_wp2
   refine bodyPost_end (v:=.tuple #[]) (by simp[results,results62]) rfl ⟨rfl,?_,TE.out⟩;have h:=Hb2.out;rw[Hk.out]at h;exact h
structure Hd where
 bz:UInt32
 prev:List UInt8
 root:List UInt8
 time:UInt32
 bits:UInt32
 dO:UInt32
def Hd.ok (h:Hd):Prop:=h.prev.length=32∧h.root.length=32
def Hd.cells (h:Hd):List Value:=ag h.bz::(h.prev.map ah++(h.root.map ah++[ag h.time,ag h.bits,ag h.dO]))
theorem Hd.len {h:Hd} (hk:h.ok):h.cells.length=68:=by simp[Hd.cells,hk.1,hk.2]
def le4 (x:UInt32):List UInt8:=[w8 (dN x 0),w8 (dN x 1),w8 (dN x 2),w8 (dN x 3)]
def ji (h:Hd):List UInt8:=le4 h.bz++(h.prev++(h.root++(le4 h.time++(le4 h.bits++le4 h.dO))))
theorem DW {h:Hd} (hk:h.ok):(ji h).length=80:=by simp[ji,le4,hk.1,hk.2]
theorem PU (a m b:List UInt8) (x:UInt32) (off:Nat) (ha:a.length=off) (hm:m.length=4):lT (a++(m++b)) off x 4=a++(le4 x++b):=by
 subst ha
 match m,hm with
 | [p,q,r,s],_=>simp[lT,le4,List.set_append_right]
theorem GL {α:Type} (a m b d:List α) (off:Nat) (ha:a.length=off) (hm:m.length=d.length):splice (a++(m++b)) off d=a++(d++b):=by
 subst ha;unfold splice;rw[List.take_left,←hm,←List.drop_drop,List.drop_left,List.drop_left]
section
variable {w:World} {g:Nat} {t:TypeId} {h:Hd}
theorem b4q (hb:ae w g t h.cells) (hk:h.ok):w.cell? ⟨g,0,none⟩=some (ag h.bz):=(hb.cell 0).trans rfl
theorem F8 (hk:h.ok) (j:Nat):h.cells[65+j]?=[ag h.time,ag h.bits,ag h.dO][j]?:=by
 unfold Hd.cells;rw[show 65+j=(64+j)+1 by omega,List.getElem?_cons_succ,List.getElem?_append_right (by simp[hk.1];omega),List.getElem?_append_right (by simp[hk.1,hk.2];omega)]
 congr 1
 simp[hk.1,hk.2];omega
theorem b4r (hb:ae w g t h.cells) (hk:h.ok):w.cell? ⟨g,65,none⟩=some (ag h.time):=(hb.cell 65).trans (F8 hk 0)
theorem a2V (hb:ae w g t h.cells) (hk:h.ok):w.cell? ⟨g,66,none⟩=some (ag h.bits):=(hb.cell 66).trans (F8 hk 1)
theorem a2W (hb:ae w g t h.cells) (hk:h.ok):w.cell? ⟨g,67,none⟩=some (ag h.dO):=(hb.cell 67).trans (F8 hk 2)
theorem b4u (hb:ae w g t h.cells) (hk:h.ok):Rd w (some ⟨g,1,none⟩) (h.prev.map ah):=by
 have h1:=hb.rd.sub 1 32 (by rw[Hd.len hk];omega);rw[Nat.zero_add]at h1
 have e:(h.cells.drop 1).take 32=h.prev.map ah:=by
  unfold Hd.cells;rw[List.drop_succ_cons,List.drop_zero,List.take_left' (by simp[hk.1])]
 rwa[e]at h1
theorem b4v (hb:ae w g t h.cells) (hk:h.ok):Rd w (some ⟨g,33,none⟩) (h.root.map ah):=by
 have h1:=hb.rd.sub 33 32 (by rw[Hd.len hk];omega);rw[Nat.zero_add]at h1
 have e:(h.cells.drop 33).take 32=h.root.map ah:=by
  unfold Hd.cells;rw[List.drop_succ_cons,List.drop_left' (by simp[hk.1]),List.take_left' (by simp[hk.2])]
 rwa[e]at h1
end
theorem GK {α β:Type} (f:α→β) (b:List α) (off:Nat) (d:List α):splice (b.map f) off (d.map f)=(splice b off d).map f:=by
 simp[splice,List.map_append,List.map_take,List.map_drop]
theorem b5m (h:Hd) (hk:h.ok):lT (lT (lT (splice (splice (lT (List.replicate 80 (0:UInt8)) 0 h.bz 4) 4 h.prev) 36 h.root) 68 h.time 4) 72 h.bits 4) 76 h.dO 4=ji h:=by
 have hr : ∀ n m:Nat,List.replicate (n+m) (0:UInt8)=List.replicate n 0++List.replicate m 0:=fun n m=>(List.replicate_append_replicate ..).symm;have z0:List.replicate 80 (0:UInt8)=[]++(List.replicate 4 0++(List.replicate 32 0++(List.replicate 32 0++(List.replicate 4 0++(List.replicate 4 0++(List.replicate 4 0++[])))))):=by rfl
 rw[z0,PU [] _ _ h.bz 0 rfl (by simp)];have e1 : ∀ (a b c:List UInt8),[]++(a++(b++c))=a++(b++c):=fun _ _ _=>rfl;rw[List.nil_append,GL (le4 h.bz) _ _ h.prev 4 rfl (by simp[hk.1])];rw[←List.append_assoc (le4 h.bz),GL (le4 h.bz++h.prev) _ _ h.root 36 (by simp[le4,hk.1]) (by simp[hk.2])];rw[←List.append_assoc (le4 h.bz++h.prev),PU (le4 h.bz++h.prev++h.root) _ _ h.time 68 (by simp[le4,hk.1,hk.2]) (by simp)];rw[←List.append_assoc (le4 h.bz++h.prev++h.root),PU (le4 h.bz++h.prev++h.root++le4 h.time) _ _ h.bits 72 (by simp[le4,hk.1,hk.2]) (by simp)];rw[←List.append_assoc (le4 h.bz++h.prev++h.root++le4 h.time),PU (le4 h.bz++h.prev++h.root++le4 h.time++le4 h.bits) _ _ h.dO 76 (by simp[le4,hk.1,hk.2]) (by simp)];simp[ji]
structure bF (h:Hd) (cs:Array Value):Prop where
 l:cs.toList=h.cells
 z:cs.size=68
 i:(prog.info? 29).map (·.size)=some cs.size
 n : ¬ cs = #[]
 o : ∀ v∈cs.toList,v.oneCell'=true
theorem Hd.one (h:Hd) : ∀ u∈h.cells,u.oneCell'=true:=by
 intro u hu;unfold Hd.cells at hu;simp only[List.mem_cons,List.mem_append,List.not_mem_nil,or_false]at hu;rcases hu with rfl | hu | hu | rfl | rfl | rfl
 ·rfl
 ·exact jL _ u hu
 ·exact jL _ u hu
 ·rfl
 ·rfl
 ·rfl
theorem bF.of {h:Hd} (hk:h.ok):bF h h.cells.toArray:=by
 have hz:h.cells.toArray.size=68:=by rw[List.size_toArray];exact Hd.len hk
 exact⟨rfl,hz,by rw[hz];kernel_rfl,fun e=>by rw[e]at hz;simp at hz,h.one⟩
noncomputable def z80:Array Value:=match(prog.info? 120).bind (·.zero)with | some (.agg c)=>c | _ => #[]
theorem XC:z80.size=80:=by kernel_rfl
theorem a7q (w:World):(zeroValue 120).run prog w = .ok (.agg z80) w:=by kernel_rfl
theorem c1r:z80.toList=(List.replicate 80 (0:UInt8)).map ah:=by kernel_rfl
theorem a0V (h:Hd) (cs:Array Value) (w:World) (hk:h.ok) (hcs:bF h cs) :
  Calls prog 33 #[.agg cs] w fun e w'=>e = .returned (.agg ((ji h).map ah).toArray)∧Keep w w':=by
 obtain⟨zs,hzs⟩ : ∃ zs,zs=z80:=⟨_,rfl⟩
 have hz1:zs.size=80:=by rw[hzs];exact XC
 have hz2 : ∀ w,(zeroValue 120).run prog w = .ok (.agg zs) w:=fun w=>by rw[hzs];exact a7q w
 have hz3 : ¬ zs = #[]:=fun h=>by rw[h]at hz1;cases hz1
 have b0p:Hid (zs.toList=(List.replicate 80 (0:UInt8)).map ah):=by rw[hzs];exact c1r
 have hcz:=hcs.z;have hcn:=hcs.n
 have dh:=hid hcs;have Hk:=hid hk
 clear hzs hcs hk;go_enter func33,ntmps33
 go_wp2_with fail
 obtain⟨w1,hw1,-,hR,-,jK,-⟩:=FM w 29 120 120 cs zs zs;replace hR:=hR.out;replace jK:=jK.out
 have hB:ae w1 w.heap.size 29 h.cells:=by
  rw[hw1];exact(((show ae _ w.heap.size _ h.cells by rw[←dh.out.l];exact ae.new w _ cs.toList).alloc _).alloc _)
 have hO:ae w1 (w.heap.size+1+1) 120 ((List.replicate 80 (0:UInt8)).map ah):=by
  rw[hw1,←b0p.out];have h1:=ae.new ((w.alloc (.cells cs 29)).alloc (.cells zs 120)) 120 zs.toList;rw[World.size_alloc,World.size_alloc]at h1;exact h1
 rw[←hw1];clear hw1;have HB1:=hid hB;have HR1:=hid hR;have kz:=hid hO;have ai:=hid jK
 have ku:Hid ((List.replicate 80 (0:UInt8)).length=80):=List.length_replicate;generalize hl1:List.replicate 80 (0:UInt8)=l1 at kz ku;have Yb:=hid hl1;clear hB hR hO jK hl1;refine bu (.take [0,1,2] .done) [3] (by kernel_rfl) (by kernel_rfl) (fun v2 k2=>?_);have b2:=hid (HB1.out.keep k2);have r2:=hid (HR1.out.keep k2);have o2:=hid (kz.out.keep k2);have q2:=hid (af ai.out k2)
 have c2:=b4q b2.out Hk.out;have a2:=aF c2;refine aN v2 (Below.refl _ _) ?_;simp only[au,ax,ak,aj];repeat(go_big_quiet_step (fail))
 refine wpQuiet_nil (aT ?_);clear a2 c2;go_wp2_with fail
 refine(PT (w.heap.size+1+1) 0 80 80 _ l1 h.bz v2 o2.out (by omega) (by rw[ku.out];omega)).mono ?_;rintro e w2 ⟨rfl,ho2,hg2⟩;have kC:=hid ho2;have HL2:Hid ((lT l1 0 h.bz 4).length=80):=(KY _ _ _ _).trans ku.out
 have HB2:=hid (b2.out.grown hg2 (fun e=>by injection e with e;omega));have HR2:=hid (r2.out.grown hg2 (fun e=>by injection e with e;omega))
 have ay:Hid (Keep w w2):=aK q2.out hg2 (by omega);clear ho2 hg2;generalize hl2:lT l1 0 h.bz 4=l2 at kC HL2;have Yc:=hid hl2;clear hl2 HB1 HR1 kz ai b2 r2 o2 q2 k2 ku;go_upto_region 3 with fail
 refine bu (.take [0,1,2] .done) [3] (by kernel_rfl) (by kernel_rfl) (fun v3 k3=>?_);have b3:=hid (HB2.out.keep k3);have r3:=hid (HR2.out.keep k3);have o3:=hid (kC.out.keep k3);have q3:=hid (af ay.out k3)
 refine aN v3 (Below.refl _ _) ?_;simp only[au,ax,ak,aj];repeat(go_big_quiet_step (fail))
 refine wpQuiet_nil (aT ?_);refine ML vY (by rfl) _ _ (by rfl) (w.heap.size+1+1) 4 76 76 (by rfl) (some ⟨w.heap.size,1,none⟩) 32 32 (h.prev.map ah) (by rfl) (by rw[List.length_map];exact Hk.out.1) (b4u b3.out Hk.out) (jL _) (l2.map ah) _ o3.out (by rw[List.length_map,HL2.out];omega) ?_;intro w3 ho3 hg3;simp only[Act.put,Array.set!_eq_setIfInBounds,List.setIfInBounds_toArray,List.set_cons_succ,List.set_cons_zero]
 have nJ:Hid (ae w3 (w.heap.size+1+1) 120 ((splice l2 4 h.prev).map ah)):=by
  have h:=ho3.out;rw[List.take_of_length_le (by rw[List.length_map];have:=Hk.out.1;omega),GK]at h;exact h
 have vC:Hid ((splice l2 4 h.prev).length=80):=(length_splice _ _ _ (by rw[HL2.out];have:=Hk.out.1;omega)).trans HL2.out;have HB3:=hid (b3.out.grown hg3 (fun e=>by injection e with e;omega));have HR3:=hid (r3.out.grown hg3 (fun e=>by injection e with e;omega))
 have aA:Hid (Keep w w3):=aK q3.out hg3 (by omega);clear ho3 hg3;generalize hl3:splice l2 4 h.prev=l3 at nJ vC;have Yd:=hid hl3;clear hl3 HB2 HR2 kC ay b3 r3 o3 q3 k3 HL2;go_upto_region 4 with fail
 refine bu (.take [0,1,2] .done) [3] (by kernel_rfl) (by kernel_rfl) (fun v4 k4=>?_);have b4:=hid (HB3.out.keep k4);have r4:=hid (HR3.out.keep k4);have o4:=hid (nJ.out.keep k4);have q4:=hid (af aA.out k4)
 refine aN v4 (Below.refl _ _) ?_;simp only[au,ax,ak,aj];repeat(go_big_quiet_step (fail))
 refine wpQuiet_nil (aT ?_);refine ML vY (by rfl) _ _ (by rfl) (w.heap.size+1+1) 36 44 44 (by rfl) (some ⟨w.heap.size,33,none⟩) 32 32 (h.root.map ah) (by rfl) (by rw[List.length_map];exact Hk.out.2) (b4v b4.out Hk.out) (jL _) (l3.map ah) _ o4.out (by rw[List.length_map,vC.out];omega) ?_;intro w4 a3D hg4;simp only[Act.put,Array.set!_eq_setIfInBounds,List.setIfInBounds_toArray,List.set_cons_succ,List.set_cons_zero]
 have ug:Hid (ae w4 (w.heap.size+1+1) 120 ((splice l3 36 h.root).map ah)):=by
  have h:=a3D.out;rw[List.take_of_length_le (by rw[List.length_map];have:=Hk.out.2;omega),GK]at h;exact h
 have II:Hid ((splice l3 36 h.root).length=80):=(length_splice _ _ _ (by rw[vC.out];have:=Hk.out.2;omega)).trans vC.out;have HB4:=hid (b4.out.grown hg4 (fun e=>by injection e with e;omega));have HR4:=hid (r4.out.grown hg4 (fun e=>by injection e with e;omega))
 have aQ:Hid (Keep w w4):=aK q4.out hg4 (by omega);clear a3D hg4;generalize hl4:splice l3 36 h.root=l4 at ug II;have Ye:=hid hl4;clear hl4 HB3 HR3 nJ aA b4 r4 o4 q4 k4 vC;go_upto_region 5 with fail
 refine bu (.take [0,1,2] .done) [3] (by kernel_rfl) (by kernel_rfl) (fun v5 k5=>?_);have b5:=hid (HB4.out.keep k5);have r5:=hid (HR4.out.keep k5);have WC:=hid (ug.out.keep k5);have q5:=hid (af aQ.out k5)
 have c5:=b4r b5.out Hk.out;have a5:=aF c5;refine aN v5 (Below.refl _ _) ?_;simp only[au,ax,ak,aj];repeat(go_big_quiet_step (fail))
 refine wpQuiet_nil (aT ?_);clear a5 c5;go_wp2_with fail
 refine(PT (w.heap.size+1+1) 68 12 12 _ l4 h.time v5 WC.out (by omega) (by rw[II.out];omega)).mono ?_;rintro e w5 ⟨rfl,KF,hg5⟩;have vG:=hid KF;have tX:Hid ((lT l4 68 h.time 4).length=80):=(KY _ _ _ _).trans II.out
 have jE:=hid (b5.out.grown hg5 (fun e=>by injection e with e;omega));have kX:=hid (r5.out.grown hg5 (fun e=>by injection e with e;omega))
 have aJ:Hid (Keep w w5):=aK q5.out hg5 (by omega);clear KF hg5;generalize hl5:lT l4 68 h.time 4=l5 at vG tX;have Yf:=hid hl5;clear hl5 HB4 HR4 ug aQ b5 r5 WC q5 k5 II;go_upto_region 6 with fail
 refine bu (.take [0,1,2] .done) [3] (by kernel_rfl) (by kernel_rfl) (fun v6 k6=>?_);have b6:=hid (jE.out.keep k6);have r6:=hid (kX.out.keep k6);have WE:=hid (vG.out.keep k6);have q6:=hid (af aJ.out k6)
 have c6:=a2V b6.out Hk.out;have a6:=aF c6;refine aN v6 (Below.refl _ _) ?_;simp only[au,ax,ak,aj];repeat(go_big_quiet_step (fail))
 refine wpQuiet_nil (aT ?_);clear a6 c6;go_wp2_with fail
 refine(PT (w.heap.size+1+1) 72 8 8 _ l5 h.bits v6 WE.out (by omega) (by rw[tX.out];omega)).mono ?_;rintro e w6 ⟨rfl,KG,jh⟩;have vH:=hid KG;have vF:Hid ((lT l5 72 h.bits 4).length=80):=(KY _ _ _ _).trans tX.out
 have jr:=hid (b6.out.grown jh (fun e=>by injection e with e;omega));have I5:=hid (r6.out.grown jh (fun e=>by injection e with e;omega))
 have bD:Hid (Keep w w6):=aK q6.out jh (by omega);clear KG jh;generalize VJ:lT l5 72 h.bits 4=l6 at vH vF;have Yg:=hid VJ;clear VJ jE kX vG aJ b6 r6 WE q6 k6 tX;go_upto_region 7 with fail
 refine bu (.take [0,1,2] .done) [3] (by kernel_rfl) (by kernel_rfl) (fun v7 k7=>?_);have b7:=hid (jr.out.keep k7);have r7:=hid (I5.out.keep k7);have WG:=hid (vH.out.keep k7);have q7:=hid (af bD.out k7)
 have c7:=a2W b7.out Hk.out;have a7:=aF c7;refine aN v7 (Below.refl _ _) ?_;simp only[au,ax,ak,aj];repeat(go_big_quiet_step (fail))
 refine wpQuiet_nil (aT ?_);clear a7 c7;go_wp2_with fail
 refine(PT (w.heap.size+1+1) 76 4 4 _ l6 h.dO v7 WG.out (by omega) (by rw[vF.out];omega)).mono ?_;rintro e w7 ⟨rfl,KH,uy⟩;have lX:=hid KH;have tY:Hid ((lT l6 76 h.dO 4).length=80):=(KY _ _ _ _).trans vF.out
 have kL:=hid (b7.out.grown uy (fun e=>by injection e with e;omega));have yR:=hid (r7.out.grown uy (fun e=>by injection e with e;omega))
 have bT:Hid (Keep w w7):=aK q7.out uy (by omega);clear KH uy;generalize a3p:lT l6 76 h.dO 4=V6 at lX tY;have Yh:=hid a3p;clear a3p jr I5 vH bD b7 r7 WG q7 k7 vF
 have hput:V6=ji h:=by
  rw[←Yh.out,←Yg.out,←Yf.out,←Ye.out,←Yd.out,←Yc.out,←Yb.out];exact b5m h Hk.out
 have HP:=hid hput;clear hput Yh Yg Yf Ye Yd Yc Yb;obtain⟨ps,hps⟩ : ∃ ps:Array Value,ps.toList=V6.map ah:=⟨(V6.map ah).toArray,rfl⟩
 have hpz:ps.size=80:=by rw[←Array.length_toList,hps,List.length_map,tY.out]
 have hpn : ¬ ps = #[]:=by intro h;rw[h]at hpz;simp at hpz
 have hpi:(prog.info? 120).map (·.size)=some ps.size:=by rw[hpz];kernel_rfl
 have a99:Hid (ae w7 (w.heap.size+1+1) 120 ps.toList):=by rw[hps];exact lX.out
 have vS:=hid hps;obtain⟨w8,hst,hb8,aZ⟩:=bn (P:=prog) ps.toList yR.out (by simp[hz1,hpz]) (by rw[hps];exact jL _);have aY:=hid hb8;have bf:=hid aZ
 clear hps hb8 aZ;go_upto_region 8 with fail
 go_wp2_with ((with_reducible refine bY (w.heap.size+1+1) ps (Eq.trans ?_ rfl) a99.out (.array 80 5) underlying120 (uq _ _) hpi ?_);rfl)
 have hb8:=aY.out;refine bodyPost_ret (v:=.agg ps) (results_cell_row results33 _ _ (w.heap.size+1) _ _ _ _ rfl hb8 underlying120 rfl (by rw[List.size_toArray,Array.length_toList,hpz];kernel_rfl)) rfl ⟨?_,aK bT.out bf.out (by omega)⟩;rw[←HP.out,←vS.out,Array.toArray_toList]
end Go.Proofs.YtiagcenlnekdeaaGreatDoor
namespace Go.Proofs.YtiagcenlnekdeaaGreatDoor
open Go.RowKit
attribute [local go_sem ↓] Go.wp_at_zero Go.wp_at_succ
theorem a7p : ∃ zs:Array Value,zs.size=80∧(∀ w,(zeroValue 120).run prog w = .ok (.agg zs) w)∧¬ zs = #[] :=
 ⟨z80,XC,a7q,fun h=>by have:=XC;rw[h]at this;cases this⟩
theorem uN {P:Program} {fn:Func} {p u:Tmp} {ty:TypeId} (h:fn.results = #[.cell p ty,.tmp u]) (tmps:Array Value) (w:World) (g:Nat) (t:TypeId) (cs:Array Value) (fr:Nat × Nat) (d:TypeDesc)
  (hp:tmps.getD p undef = .pointer (some ⟨g,0,none⟩)) (hg:w.heap[g]?=some (.cells cs t fr))
  (hu:P.underlying ty=some d) (hd:(match d with | .struct _ | .array _ _=>true | _=>false)=true) (hi:(P.info? ty).map (·.size)=some cs.size) :
  (results fn tmps).run P w = .ok (.tuple #[.agg cs,tmps.getD u undef]) w:=by
 rw[results_cell_tmp h,hp];simp[asAddr,run_loadVar_row w g t ty cs fr d hg hu hd hi]
theorem lq {P:Program} {fn:Func} {p u:Tmp} {ty:TypeId} (h:fn.results = #[.cell p ty,.tmp u]) {w:World} {g:Nat} {t:TypeId} {cs:Array Value} (hg:ae w g t cs.toList) {d:TypeDesc} (hu:P.underlying ty=some d) (hi:(P.info? ty).map (·.size)=some cs.size) {tmps:Array Value}
  (hp:tmps.getD p undef = .pointer (some ⟨g,0,none⟩)) (hd:(match d with | .struct _ | .array _ _=>true | _=>false)=true):(results fn tmps).run P w = .ok (.tuple #[.agg cs,tmps.getD u undef]) w :=
 uN h tmps w g t cs _ d hp hg hu hd hi
noncomputable def uU:Array Value:=match(prog.info? 29).bind (·.zero)with | some (.agg c)=>c | _ => #[]
theorem Ew:uU.size=68:=by kernel_rfl
theorem XJ (w:World):(zeroValue 29).run prog w = .ok (.agg uU) w:=by kernel_rfl
def z32:List UInt8:=List.replicate 32 0
theorem QO:uU.toList=Hd.cells ⟨0,z32,z32,0,0,0⟩:=by kernel_rfl
theorem Eu : ∃ zs:Array Value,zs.size=68∧(∀ w,(zeroValue 29).run prog w = .ok (.agg zs) w)∧¬ zs = #[]∧zs.toList=Hd.cells ⟨0,z32,z32,0,0,0⟩ :=
 ⟨uU,Ew,XJ,(fun h=>by have:=Ew;rw[h]at this;cases this),QO⟩
theorem BD : ∃ zs:Array Value,zs.size=32∧(∀ w,(zeroValue 27).run prog w = .ok (.agg zs) w)∧¬ zs = #[]∧zs.toList=(List.replicate 32 (0:UInt8)).map ah :=
 ⟨uT,xy,Hf,(fun h=>by have:=xy;rw[h]at this;cases this),BF⟩
theorem aX.cell {l:List UInt8} {cs:Array Value} (h:aX l cs):cs=(l.map Extern.Stop.cell).toArray:=h.e.symm
theorem GV (w:World):(sizeOf 5).run prog w = .ok 1 w:=by kernel_rfl
theorem J7 (d:Nat) {l m:List UInt8} {cs ds:Array Value} (h:aX l cs) (g:aX m ds) (hl:l.length=32) (hm:m.length=32) (w:World) :
  (Op.equalIn (d+2) 27 (.agg cs) (.agg ds)).run prog w = .ok (l==m) w:=by
 rw[h.cell,g.cell];exact run_equalIn_bytes w d _ 5 32 kG underlying5 GV l m hl hm
theorem b4c {l m:List UInt8} {cs ds:Array Value} (h:aX l cs) (g:aX m ds) (hl:l.length=32) (hm:m.length=32) (w:World) :
  (Go.binOp .eql 27 (.agg cs) (.agg ds)).run prog w = .ok (.bool (l==m)) w:=by
 rw[run_eql_struct,show(10000:Nat)=9998+2 from rfl,J7 9998 h g hl hm];rfl
theorem b4d:prog.eqGuardType prog.depth 27=false:=by kernel_rfl
def F7 (a b:Hd):Bool:=a.bz==b.bz&&(a.prev==b.prev&&(a.root==b.root&&(a.time==b.time&&(a.bits==b.bits&&a.dO==b.dO))))
theorem Vx (a b:Hd):F7 a b=true↔a=b:=by
 unfold F7;simp only[Bool.and_eq_true,beq_iff_eq];constructor
 ·rintro ⟨h1,h2,h3,h4,h5,h6⟩
  cases a;cases b
  simp only at h1 h2 h3 h4 h5 h6;subst h1 h2 h3 h4 h5 h6;rfl
 ·rintro rfl;exact⟨rfl,rfl,rfl,rfl,rfl,rfl⟩
instance c3n:DecidableEq Hd:=fun a b=>decidable_of_iff _ (Vx a b)
theorem a2Y:prog.eqGuardType prog.depth 29=false:=by kernel_rfl
theorem b4x:prog.stoodInHeld 29=false:=by kernel_rfl
theorem b4f (w:World):(sizeOf 27).run prog w = .ok 32 w:=by kernel_rfl
theorem b4b (w:World):(isAgg 27).run prog w = .ok true w:=by kernel_rfl
theorem Qj (cs:Array Value) (off:Nat) (w:World):(part 27 cs off).run prog w = .ok (.agg (cs.extract off (off+32))) w:=by
 simp only[part,Sem.run_bind,b4b,b4f,Result.andThen_ok,if_true,Sem.run_pure]
theorem c0s (w:World):(isAgg 22).run prog w = .ok false w:=by kernel_rfl
theorem Bq {cs:Array Value} {off:Nat} {v:Value} (h:cs[off]?=some v) (w:World):(part 22 cs off).run prog w = .ok v w:=by
 simp only[part,Sem.run_bind,c0s,Result.andThen_ok,Bool.false_eq_true,if_false,h,Sem.run_pure]
theorem O4 (d:Nat) (x y:UInt32) (w:World):(Op.equalIn (d+1) 22 (ag x) (ag y)).run prog w = .ok (x==y) w:=by
 unfold ag;rw[run_equalIn_int w d _ .u32 .u32 _ _ underlying22]
 congr 1
 rw[Bool.eq_iff_iff];simp[←UInt32.toNat_inj];exact Int.ofNat_inj
theorem a5I {cs:Array Value} {all:List Value} (hc:cs.toList=all) (off:Nat) {l:List UInt8} (hl:l.length=32) (h:(all.drop off).take 32=l.map ah):aX l (cs.extract off (off+32)):=by
 have e:cs.extract off (off+32)=(l.map ah).toArray:=by
  apply Array.ext'
  rw[Array.toList_extract,List.extract_eq_take_drop,hc,Nat.add_sub_cancel_left,h]
 rw[e];exact aX.of hl
theorem bF.parts {h:Hd} {cs:Array Value} (hA:bF h cs) (hk:h.ok):cs[0]?=some (ag h.bz)∧aX h.prev (cs.extract 1 33)∧aX h.root (cs.extract 33 65)∧cs[65]?=some (ag h.time)∧cs[66]?=some (ag h.bits)∧cs[67]?=some (ag h.dO):=by
 have hg : ∀ k,cs[k]?=h.cells[k]?:=fun k=>by rw[←hA.l,Array.getElem?_toList]
 refine⟨(hg 0).trans rfl,a5I hA.l 1 hk.1 ?_,a5I hA.l 33 hk.2 ?_,(hg 65).trans (F8 hk 0),(hg 66).trans (F8 hk 1),(hg 67).trans (F8 hk 2)⟩
 ·unfold Hd.cells
  rw[List.drop_succ_cons,List.drop_zero,List.take_left' (by simp[hk.1])]
 ·unfold Hd.cells
  rw[List.drop_succ_cons,List.drop_left' (by simp[hk.1]),List.take_left' (by simp[hk.2])]
def eqF (P:Program) (d:Nat) (xs ys:Array Value):List (Bool × TypeId × Nat)→Sem Bool
 | []=>pure true
 | f::fs =>
   if f.1=true then do
    let a ←part f.2.1 xs f.2.2
    let b ←part f.2.1 ys f.2.2
    let r ←Op.equalIn d f.2.1 a b
    if(!r)=true then pure false else eqF P d xs ys fs
   else eqF P d xs ys fs
theorem U2 (P : Program) (d : Nat) (xs ys : Array Value) : ∀ fs : List Field, Op.eqFields d xs ys fs = eqF P d xs ys (fs.map fun f => (f.name != "_", f.type, f.offset))
 | []=>rfl
 | f::fs=>by
   rw[List.map_cons,Op.eqFields,eqF,U2 P d xs ys fs];simp
theorem AX {P:Program} {d:Nat} {xs ys:Array Value} {t:TypeId} {o:Nat} {fs:List (Bool × TypeId × Nat)} {a b:Value} {r s:Bool} {w:World} (ha:(part t xs o).run P w = .ok a w) (hb:(part t ys o).run P w = .ok b w)
  (hr:(Op.equalIn d t a b).run P w = .ok r w) (hs:(eqF P d xs ys fs).run P w = .ok s w):(eqF P d xs ys ((true,t,o)::fs)).run P w = .ok (r&&s) w:=by
 rw[eqF,if_pos rfl];simp only[Sem.run_bind,ha,hb,hr,Result.andThen_ok]
 cases r
 ·simp
 ·simpa using hs
theorem b4t : ((prog.fieldsOf 29).toList.map fun f => (f.name != "_", f.type, f.offset)) = [(true, 22, 0), (true, 27, 1), (true, 27, 33), (true, 22, 65), (true, 22, 66), (true, 22, 67)] := by kernel_rfl
theorem b4y:prog.underlying 29=some (.struct (prog.fieldsOf 29)):=by kernel_rfl
theorem b4s (d:Nat) {h g:Hd} {cs ds:Array Value} (hc:bF h cs) (hd:bF g ds) (hk:h.ok) (gk:g.ok) (w:World) :
  (Op.equalIn (d+3) 29 (.agg cs) (.agg ds)).run prog w = .ok (F7 h g) w:=by
 obtain⟨a0,a1,a2,a3,a4,a5⟩:=hc.parts hk;obtain⟨b0,b1,b2,b3,b4,b5⟩:=hd.parts gk;rw[run_equalIn_agg w (d+2) _ _ _ b4y b4x,U2 prog,b4t];have e:F7 h g=(h.bz==g.bz&&(h.prev==g.prev&&(h.root==g.root&&(h.time==g.time&&(h.bits==g.bits&&(h.dO==g.dO&&true)))))):=by rw[Bool.and_true];rfl
 rw[e];refine AX (Bq a0 w) (Bq b0 w) (O4 _ _ _ w) (AX (Qj _ _ w) (Qj _ _ w) (J7 d a1 b1 hk.1 gk.1 w) (AX (Qj _ _ w) (Qj _ _ w) (J7 d a2 b2 hk.2 gk.2 w) (AX (Bq a3 w) (Bq b3 w) (O4 _ _ _ w) (AX (Bq a4 w) (Bq b4 w) (O4 _ _ _ w) (AX (Bq a5 w) (Bq b5 w) (O4 _ _ _ w) ?_)))));rw[eqF];rfl
theorem a2X {h g:Hd} {cs ds:Array Value} (hc:bF h cs) (hd:bF g ds) (hk:h.ok) (gk:g.ok) (w:World) :
  (Go.binOp .eql 29 (.agg cs) (.agg ds)).run prog w = .ok (.bool (F7 h g)) w:=by
 rw[run_eql_struct,show(10000:Nat)=9997+3 from rfl,b4s 9997 hc hd hk gk];rfl
theorem dw {P:Program} {w:World} {ops:Array Oper} {rest:List Oper} {a:Act} {Q:Exit→Act→World→Prop} {x:Operand} {dst:Option Tmp} {ty ty':TypeId} {pos:String} {eG:Array Edge} {gd:Option (Nat × Bool)}
  (g off:Nat) (cs:Array Value) (hx:a.eval x = .pointer (some ⟨g,off,none⟩)) (hr:w.rangeAt g off cs.toList) (d:TypeDesc) (hu:P.underlying ty=some d) (hd:d.isRow=true) (hi:(P.info? ty).map (·.size)=some cs.size)
  (hw:Region.wanted { dst:=dst,op:=.load ty x,type:=ty',pos:=pos,after:=eG,guard:=gd} (yielded ops a.tmps)=true)
  (h:wpList P ops Q rest (a.put dst (.agg cs)) w):wpList P ops Q ({ dst:=dst,op:=.load ty x,type:=ty',pos:=pos,after:=eG,guard:=gd}::rest) a w:=by
 unfold wpList;rw[if_pos hw]
 left
 exact wp_load_mid ty x rfl g off hx cs.toList d hr hu hd (by simpa using hi) h
theorem jY {P:Program} {w0:World} {ops:Array Oper} {rest:List Oper} {a:Act} {Q:Act→Prop} {x:Operand} {dst:Option Tmp} {ty ty':TypeId} {pos:String} {eG:Array Edge} {gd:Option (Nat × Bool)}
  (g off:Nat) (cs:Array Value) (hx:a.eval x = .pointer (some ⟨g,off,none⟩)) (hr:w0.rangeAt g off cs.toList) (d:TypeDesc) (hu:P.underlying ty=some d) (hd:d.isRow=true) (hi:(P.info? ty).map (·.size)=some cs.size)
  (hw:Region.wanted { dst:=dst,op:=.load ty x,type:=ty',pos:=pos,after:=eG,guard:=gd} (yielded ops a.tmps)=true)
  (h:wpQuiet P ops (fun w' => ∃ x,w'=dn w0 x) Q rest (a.put dst (.agg cs))) :
  wpQuiet P ops (fun w' => ∃ x,w'=dn w0 x) Q ({ dst:=dst,op:=.load ty x,type:=ty',pos:=pos,after:=eG,guard:=gd}::rest) a:=by
 refine BigFrame.wpQuiet_want hw fun K hK=>⟨.agg cs,fun w hw=>?_,hK _ h⟩
 obtain⟨y,rfl⟩:=hw;unfold Oper.quietAt execOp;have hl:=run_loadVar_mid (P:=P) (dn w0 y) g off ty cs.toList d (fun j v hv=>aC (jg w0 y) (hr j v hv)) hu hd (by simpa using hi);simp only[hx,Instr.loadAt,Instr.sureAddr,Sem.run_bind,Sem.run_pure,Result.andThen_ok,hl,Array.toArray_toList];exact⟨rfl,rfl⟩
def df (h:Hd):List UInt8:=jH (ji h)
theorem uB (h:Hd):(df h).length=32:=uw _
theorem D5 (h:Hd) (cs:Array Value) (w:World) (hS:bV w) (hk:h.ok) (hcs:bF h cs) :
  Calls prog 19 #[.agg cs] w fun e w' => ∃ ds,e = .returned (.agg ds)∧aX (df h) ds∧Keep w w':=by
 have hpl:=DW hk;have A1:Hid (∀ w',Calls prog 33 #[.agg cs] w' fun e w''=>e = .returned (.agg ((ji h).map ah).toArray)∧Keep w' w''):=fun w'=>a0V h cs w' hk hcs;obtain⟨ds,hds⟩ : ∃ ds,aX (df h) ds:=⟨_,aX.of (uB h)⟩
 have D1:Hid (∀ (A:Option Addr) W,Keep w W→Rd W A ((ji h).map ah)→Calls prog 34 #[.slice A 80 80] W fun e w'=>e = .returned (.agg ds)∧Keep W w'):=hid fun A W hW hr=>by
  have h1:=JQ A (ji h) 80 W (hS.keep hW) hr (by omega) (by decide) (by omega);rw[hpl]at h1;exact h1.mono fun e w'' ⟨h2,h3⟩=>⟨by rw[h2];show Ending.returned (.agg ((jH (ji h)).map ah).toArray)=_;rw[show((jH (ji h)).map ah).toArray=ds from hds.e],h3⟩
 have HI:Hid (∀ I,df h=I→aX I ds):=hid fun I e=>by rw[←e];exact hds
 replace HI:=hid (HI.out _ rfl);generalize df h=I at *;generalize ji h=p at *;obtain⟨ps,hps⟩ : ∃ ps:Array Value,ps.toList=p.map ah:=⟨(p.map ah).toArray,rfl⟩
 have hpz:ps.size=80:=by rw[←Array.length_toList,hps,List.length_map,hpl]
 have hpn : ¬ ps = #[]:=by intro h;rw[h]at hpz;simp at hpz
 have hpi:(prog.info? 120).map (·.size)=some ps.size:=by rw[hpz];kernel_rfl
 rw[show(p.map ah).toArray=ps by rw[←hps,Array.toArray_toList]]at A1;obtain⟨zs,hz1,hz2,hz3⟩:=a7p;obtain⟨ys,hy1,hy2,hy3,hy4⟩:=BD
 have hst : ∀ ww:World,(storeCells ⟨ww.heap.size,0,none⟩ ps.toList 0).run prog (ww.alloc (.cells zs 120)) = .ok () (ww.alloc (.cells ps 120)):=fun ww =>
  run_storeCells_new (P:=prog) ww 120 zs ps hpi (hz1.trans hpz.symm) (by have:=all_oneCell_toArray (show ∀ v∈ps.toList,v.oneCell'=true by rw[hps];exact jL _);rwa[Array.toArray_toList]at this)
 have vS:=hid hps;have hcz:=hcs.z;have hcn:=hcs.n;have hci:=hcs.i
 have hdz:=hds.z;have hdn:=hds.n;have hdi:=hds.i
 have dZ:=hid hds;clear hps hcs hpl hS hds hy4;go_enter func19,ntmps19
 go_upto_region 1 with fail
 obtain⟨w1,hw1,vM,HR1,ai,-⟩:=qF w 29 27 cs ys;rw[←hw1];clear hw1;go_wp2_with ((with_reducible refine bY w.heap.size cs (Eq.trans ?_ rfl) vM.out _ underlying29 rfl hci ?_);rfl)
 refine(A1.out _).mono ?_;rintro e w2 ⟨rfl,k2⟩;have HR2:=hid (HR1.out.keep k2);have ay:=hid (af ai.out k2)
 have hz2':w.heap.size+1<w2.heap.size:=HR2.out.lt;clear k2 A1 vM HR1 ai;go_upto_region 2 with fail
 clear hst;obtain⟨w3,hw3⟩ : ∃ w3,w3=w2.alloc (.cells ps 120):=⟨_,rfl⟩
 have fZ:Hid (ae w3 w2.heap.size 120 (p.map ah)):=by rw[hw3,←vS.out];exact ae.new w2 _ ps.toList
 have HR3:Hid (ae w3 (w.heap.size+1) 27 ys.toList):=by rw[hw3];exact HR2.out.alloc _
 have aA:Hid (Keep w w3):=by rw[hw3];exact af ay.out (aB _ _)
 rw[←hw3];clear hw3 HR2 ay;generalize w2.heap.size=B at *;go_wp2_with fail
 refine(D1.out _ _ aA.out fZ.out.rd).mono ?_;rintro e w4 ⟨rfl,k4⟩;have HR4:=hid (HR3.out.keep k4);have aQ:=hid (af aA.out k4)
 clear k4 fZ HR3 aA D1;obtain⟨w5,hst5,Hb5,vP⟩:=jo ds.toList HR4.out (by simp[hy1,hdz]) dZ.out.o;go_wp2
 have hb5:=Hb5.out;exact bodyPost_ret (v:=.agg ds) (results_cell_row results19 _ _ (w.heap.size+1) _ _ _ (.array 32 5) rfl hb5 kG rfl (by rw[List.size_toArray,Array.length_toList];exact hdi)) rfl ⟨ds,rfl,HI.out,aK aQ.out vP.out (by omega)⟩
end Go.Proofs.YtiagcenlnekdeaaGreatDoor
namespace Go.Proofs.YtiagcenlnekdeaaGreatDoor
def limb (N i : Nat) : Nat := N / 2 ^ (64 * i) % 2 ^ 64
theorem gX (N i : Nat) : limb N i < 2 ^ 64 := Nat.mod_lt _ (by decide)
theorem o7 (N i j : Nat) : (limb N i).testBit j = (decide (j < 64) && N.testBit (64 * i + j)) := by
  unfold limb;rw [Nat.testBit_mod_two_pow, Nat.testBit_div_two_pow, Nat.add_comm]
theorem FK {N j p : Nat} (h : N < 2 ^ p) (hj : p ≤ j) : N.testBit j = false :=
  Nat.testBit_lt_two_pow (Nat.lt_of_lt_of_le h (Nat.pow_le_pow_right (by decide) hj))
theorem Wh {N M : Nat} (hN : N < 2 ^ 256) (hM : M < 2 ^ 256) (h : ∀ i, i < 4 → limb N i = limb M i) : N = M := by
  apply Nat.eq_of_testBit_eq
  intro j;by_cases hj : j < 256
  · have h1 := congrArg (fun x => x.testBit (j % 64)) (h (j / 64) (by omega))
    simp only [o7] at h1;have e : 64 * (j / 64) + j % 64 = j := by omega
    have e2 : j % 64 < 64 := Nat.mod_lt _ (by decide);simpa [e, e2] using h1
  · rw [FK hN (by omega), FK hM (by omega)]
theorem Ea (i : Nat) : limb 0 i = 0 := by simp [limb]
theorem b6Q {N : Nat} (h : N < 2 ^ 64) (i : Nat) : limb N i = if i = 0 then N else 0 := by
  by_cases hi : i = 0
  · subst hi; rw [if_pos rfl]; unfold limb; rw [Nat.mul_zero, Nat.pow_zero, Nat.div_one, Nat.mod_eq_of_lt h]
  · rw [if_neg hi]; unfold limb
    rw [Nat.div_eq_of_lt (Nat.lt_of_lt_of_le h (Nat.pow_le_pow_right (by decide) (by omega))), Nat.zero_mod]
theorem UD {N : Nat} (h : N < 2 ^ 256) : N = limb N 0 + 2 ^ 64 * limb N 1 + 2 ^ 128 * limb N 2 + 2 ^ 192 * limb N 3 := by
  unfold limb;simp only [Nat.mul_zero, Nat.mul_one, Nat.reduceMul, Nat.reducePow, Nat.div_one] at *;omega
def kF (a b : Nat) : Int := if a < b then -1 else if b < a then 1 else 0
theorem a1n {a b k : Nat} (ha : a < 2 ^ 256) (hb : b < 2 ^ 256) (hk : k < 4) (he : ∀ j, k < j → j < 4 → limb a j = limb b j) (hl : limb a k < limb b k) : a < b := by
  have h1 := UD ha; have h2 := UD hb
  have a0 := gX a 0; have a1 := gX a 1; have a2 := gX a 2; have a3 := gX a 3
  have b0 := gX b 0; have b1 := gX b 1; have b2 := gX b 2; have b3 := gX b 3
  have e3 : k < 3 → limb a 3 = limb b 3 := fun h => he 3 h (by decide);have e2 : k < 2 → limb a 2 = limb b 2 := fun h => he 2 h (by decide);have e1 : k < 1 → limb a 1 = limb b 1 := fun h => he 1 h (by decide);rcases (show k = 0 ∨ k = 1 ∨ k = 2 ∨ k = 3 by omega) with rfl | rfl | rfl | rfl <;> simp only [Nat.reducePow] at * <;> omega
theorem b9s (N n i : Nat) (hi : i < 4) : limb (N * 2 ^ n % 2 ^ 256) i =
    if i < n / 64 then 0 else ((limb N (i - n / 64) * 2 ^ (n % 64)) % 2 ^ 64) ||| (if n / 64 < i then limb N (i - n / 64 - 1) / 2 ^ (64 - n % 64) else 0) := by
  apply Nat.eq_of_testBit_eq
  intro j;rw [o7, Nat.testBit_mod_two_pow, Nat.mul_comm N, Nat.testBit_two_pow_mul];by_cases hj : j < 64
  · have e1 : decide (j < 64) = true := by simpa using hj
    have e2 : decide (64 * i + j < 256) = true := by simp; omega
    rw [e1, e2, Bool.true_and, Bool.true_and];by_cases h1 : i < n / 64
    · rw [if_pos h1, Nat.zero_testBit]
      have : decide (64 * i + j ≥ n) = false := by simp; omega
      rw [this, Bool.false_and]
    · rw [if_neg h1, Nat.testBit_or, Nat.testBit_mod_two_pow, e1, Bool.true_and, Nat.mul_comm (limb N _), Nat.testBit_two_pow_mul, o7]
      by_cases h2 : n % 64 ≤ j
      · have e3 : decide (j ≥ n % 64) = true := by simpa using h2
        have e4 : decide (j - n % 64 < 64) = true := by simp; omega
        have e5 : decide (64 * i + j ≥ n) = true := by simp; omega
        have e6 : 64 * (i - n / 64) + (j - n % 64) = 64 * i + j - n := by omega
        rw [e3, e4, e5, e6];simp only [Bool.true_and]
        have e7 : (if n / 64 < i then limb N (i - n / 64 - 1) / 2 ^ (64 - n % 64) else 0).testBit j = false := by
          split
          · rw [Nat.testBit_div_two_pow, o7]
            have : decide (j + (64 - n % 64) < 64) = false := by simp; omega
            rw [this, Bool.false_and]
          · exact Nat.zero_testBit j
        rw [e7, Bool.or_false]
      · have e3 : decide (j ≥ n % 64) = false := by simp; omega
        rw [e3, Bool.false_and, Bool.false_or];by_cases h3 : n / 64 < i
        · rw [if_pos h3, Nat.testBit_div_two_pow, o7]
          have e4 : decide (j + (64 - n % 64) < 64) = true := by simp; omega
          have e5 : decide (64 * i + j ≥ n) = true := by simp; omega
          have e6 : 64 * (i - n / 64 - 1) + (j + (64 - n % 64)) = 64 * i + j - n := by omega
          rw [e4, e5, e6]
        · rw [if_neg h3, Nat.zero_testBit]
          have e5 : decide (64 * i + j ≥ n) = false := by simp; omega
          rw [e5, Bool.false_and]
  · have e1 : decide (j < 64) = false := by simpa using hj
    rw [e1, Bool.false_and]
    symm
    split
    · exact Nat.zero_testBit j
    · rw [Nat.testBit_or, Nat.testBit_mod_two_pow, e1, Bool.false_and, Bool.false_or]
      split
      · rw [Nat.testBit_div_two_pow, o7]
        have : decide (j + (64 - n % 64) < 64) = false := by simp; omega
        rw [this, Bool.false_and]
      · exact Nat.zero_testBit j
theorem b9t (N n i : Nat) (hN : N < 2 ^ 256) : limb (N / 2 ^ n) i =
    if i + n / 64 < 4 then (limb N (i + n / 64) / 2 ^ (n % 64)) ||| (if i + n / 64 < 3 then (limb N (i + n / 64 + 1) * 2 ^ (64 - n % 64)) % 2 ^ 64 else 0) else 0 := by
  apply Nat.eq_of_testBit_eq
  intro j;rw [o7, Nat.testBit_div_two_pow];by_cases h4 : i + n / 64 < 4
  · rw [if_pos h4, Nat.testBit_or, Nat.testBit_div_two_pow, o7]
    by_cases hj : j < 64
    · have e1 : decide (j < 64) = true := by simpa using hj
      rw [e1, Bool.true_and];by_cases h1 : j + n % 64 < 64
      · have e2 : decide (j + n % 64 < 64) = true := by simpa using h1
        have e3 : 64 * (i + n / 64) + (j + n % 64) = 64 * i + j + n := by omega
        rw [e2, e3, Bool.true_and]
        have e7 : (if i + n / 64 < 3 then (limb N (i + n / 64 + 1) * 2 ^ (64 - n % 64)) % 2 ^ 64 else 0).testBit j = false := by
          split
          · rw [Nat.testBit_mod_two_pow, Nat.mul_comm (limb N _), Nat.testBit_two_pow_mul]
            have : decide (j ≥ 64 - n % 64) = false := by simp; omega
            rw [this, Bool.false_and, Bool.and_false]
          · exact Nat.zero_testBit j
        rw [e7, Bool.or_false]
      · have e2 : decide (j + n % 64 < 64) = false := by simpa using h1
        rw [e2, Bool.false_and, Bool.false_or];by_cases h3 : i + n / 64 < 3
        · rw [if_pos h3, Nat.testBit_mod_two_pow, Nat.mul_comm (limb N _), Nat.testBit_two_pow_mul, o7, e1]
          have e4 : decide (j ≥ 64 - n % 64) = true := by simp; omega
          have e5 : decide (j - (64 - n % 64) < 64) = true := by simp; omega
          have e6 : 64 * (i + n / 64 + 1) + (j - (64 - n % 64)) = 64 * i + j + n := by omega
          rw [e4, e5, e6]; simp
        · rw [if_neg h3, Nat.zero_testBit]
          exact FK hN (by omega)
    · have e1 : decide (j < 64) = false := by simpa using hj
      have e2 : decide (j + n % 64 < 64) = false := by simp; omega
      rw [e1, e2, Bool.false_and, Bool.false_and, Bool.false_or]
      symm
      split
      · rw [Nat.testBit_mod_two_pow, e1, Bool.false_and]
      · exact Nat.zero_testBit j
  · rw [if_neg h4, Nat.zero_testBit, FK hN (by omega), Bool.and_false]
def fC : List UInt8 → Nat
  | [] => 0
  | x :: l => x.toNat + 256 * fC l
theorem V9 : ∀ l : List UInt8, fC l < 2 ^ (8 * l.length)
  | [] => by decide
  | x :: l => by
    have h := V9 l;have hx := x.toNat_lt;rw [List.length_cons, Nat.mul_add, Nat.pow_add];unfold fC;simp only [Nat.mul_one, Nat.reducePow] at *;omega
theorem a4y : ∀ (l : List UInt8) (x : UInt8), fC (l ++ [x]) = fC l + 2 ^ (8 * l.length) * x.toNat
  | [], x => by simp [fC]
  | y :: l, x => by
    rw [List.cons_append, fC, a4y l x, fC, List.length_cons, Nat.mul_add 8, Nat.pow_add];simp only [Nat.mul_one, Nat.reducePow];rw [Nat.mul_add, Nat.add_assoc, Nat.mul_comm (2 ^ (8 * l.length)) 256, Nat.mul_assoc]
theorem Ur (N x p : Nat) (h : N < 2 ^ p) : N + 2 ^ p * x = N ||| (2 ^ p * x) := by
  rw [Nat.add_comm, Nat.two_pow_add_eq_or_of_lt h x, Nat.or_comm]
theorem OO (N x k j : Nat) (hN : N < 2 ^ (8 * k)) (hx : x < 256) : limb (N + 2 ^ (8 * k) * x) j =
    if j = k / 8 then limb N j ||| (x * 2 ^ (8 * (k % 8))) else limb N j := by
  rw [Ur N x _ hN]
  apply Nat.eq_of_testBit_eq
  intro m;have a3V : x < 2 ^ 8 := hx;by_cases hj : j = k / 8
  · rw [if_pos hj, o7, Nat.testBit_or, Nat.testBit_two_pow_mul, Nat.testBit_or, o7, Nat.mul_comm x, Nat.testBit_two_pow_mul]
    by_cases hm : m < 64
    · have e1 : decide (m < 64) = true := by simpa using hm
      rw [e1, Bool.true_and, Bool.true_and]
      congr 1
      have e2 : decide (64 * j + m ≥ 8 * k) = decide (m ≥ 8 * (k % 8)) := by rw [decide_eq_decide]; omega
      rw [e2];have e3 : 64 * j + m - 8 * k = m - 8 * (k % 8) := by omega
      rw [e3]
    · have e1 : decide (m < 64) = false := by simpa using hm
      rw [e1, Bool.false_and, Bool.false_and, Bool.false_or, FK a3V (by omega), Bool.and_false]
  · rw [if_neg hj, o7, o7, Nat.testBit_or, Nat.testBit_two_pow_mul]
    by_cases hm : m < 64
    · have : (decide (64 * j + m ≥ 8 * k) && x.testBit (64 * j + m - 8 * k)) = false := by
        by_cases h1 : 8 * k ≤ 64 * j + m
        · rw [FK a3V (by omega), Bool.and_false]
        · have : decide (64 * j + m ≥ 8 * k) = false := by simp; omega
          rw [this, Bool.false_and]
      rw [this, Bool.or_false]
    · have e1 : decide (m < 64) = false := by simpa using hm
      rw [e1, Bool.false_and, Bool.false_and]
def dU (N : Nat) : Nat := if N = 0 then 0 else Nat.log2 N + 1
theorem a4z {N n : Nat} (h1 : 2 ^ n ≤ N) (h2 : N < 2 ^ (n + 1)) : dU N = n + 1 := by
  have h0 : N ≠ 0 := by have := Nat.two_pow_pos n; omega
  unfold dU;rw [if_neg h0];have a := (Nat.le_log2 h0).2 h1;have b := (Nat.log2_lt h0).2 h2;omega
theorem Gj {N : Nat} (h : N ≠ 0) : ∃ n, dU N = n + 1 ∧ 2 ^ n ≤ N ∧ N < 2 ^ (n + 1) := by
  refine ⟨Nat.log2 N, by unfold dU; rw [if_neg h], Nat.log2_self_le h, Nat.lt_log2_self⟩
theorem b6G (N : Nat) : N < 2 ^ dU N := by
  by_cases h : N = 0
  · subst h; exact Nat.two_pow_pos _
  · obtain ⟨n, h1, _, h3⟩ := Gj h; rw [h1]; exact h3
theorem Gi {N p : Nat} (h : N < 2 ^ p) : dU N ≤ p := by
  by_cases h0 : N = 0
  · subst h0; exact Nat.zero_le _
  · obtain ⟨n, h1, h2, _⟩ := Gj h0
    have : 2 ^ n < 2 ^ p := Nat.lt_of_le_of_lt h2 h;have := (Nat.pow_lt_pow_iff_right (by decide : 1 < 2)).1 this;omega
theorem b6F {N i : Nat} (hN : N < 2 ^ (64 * i + 64)) (hi : limb N i ≠ 0) : dU N = 64 * i + dU (limb N i) := by
  obtain ⟨n, h1, h2, h3⟩ := Gj hi
  have hd : N / 2 ^ (64 * i) < 2 ^ 64 := by
    rw [Nat.div_lt_iff_lt_mul (Nat.two_pow_pos _), ← Nat.pow_add, Nat.add_comm]; exact hN
  have hl : limb N i = N / 2 ^ (64 * i) := Nat.mod_eq_of_lt hd;rw [hl] at h1 h2 h3 ⊢;rw [h1, ← Nat.add_assoc];refine a4z ?_ ?_
  · rw [Nat.add_comm, Nat.pow_add, ← Nat.le_div_iff_mul_le (Nat.two_pow_pos _)]; exact h2
  · rw [Nat.add_assoc, Nat.add_comm, Nat.pow_add, ← Nat.div_lt_iff_lt_mul (Nat.two_pow_pos _)]; exact h3
theorem b66 {N i : Nat} (hN : N < 2 ^ 256) (hi : i < 4) (h : ∀ j, i < j → j < 4 → limb N j = 0) : N < 2 ^ (64 * i + 64) := by
  have h1 := UD hN;have a0 := gX N 0; have a1 := gX N 1; have a2 := gX N 2; have a3 := gX N 3
  have e3 : i < 3 → limb N 3 = 0 := fun h' => h 3 h' (by decide);have e2 : i < 2 → limb N 2 = 0 := fun h' => h 2 h' (by decide);have e1 : i < 1 → limb N 1 = 0 := fun h' => h 1 h' (by decide);rcases (show i = 0 ∨ i = 1 ∨ i = 2 ∨ i = 3 by omega) with rfl | rfl | rfl | rfl <;> simp only [Nat.reducePow, Nat.reduceMul, Nat.reduceAdd] at * <;> omega
theorem c1C {N : Nat} (hN : N < 2 ^ 256) (h : ∀ j, j < 4 → limb N j = 0) : N = 0 := Wh hN (by decide) (fun i hi => by rw [h i hi, Ea])
theorem b7Z {N n : Nat} (hn : n < 256) : 256 < dU N + n ↔ 2 ^ 256 ≤ N * 2 ^ n := by
  by_cases h0 : N = 0
  · subst h0
    have : dU 0 = 0 := rfl;rw [this, Nat.zero_mul];constructor
    · intro h; omega
    · intro h; have := Nat.two_pow_pos 256; omega
  · obtain ⟨k, h1, h2, h3⟩ := Gj h0
    constructor
    · intro h
      have e : 2 ^ 256 ≤ 2 ^ (k + n) := Nat.pow_le_pow_right (by decide) (by omega);exact Nat.le_trans e (by rw [Nat.pow_add]; exact Nat.mul_le_mul_right _ h2)
    · intro h
      apply Nat.lt_of_not_le
      intro hle;have e : N * 2 ^ n < 2 ^ (k + 1 + n) := by rw [Nat.pow_add]; exact Nat.mul_lt_mul_of_pos_right h3 (Nat.two_pow_pos _)
      have e2 : 2 ^ (k + 1 + n) ≤ 2 ^ 256 := Nat.pow_le_pow_right (by decide) (by omega);omega
def JU (b : UInt32) : Nat := if b.toNat / 16777216 < 3 then b.toNat % 8388608 / 2 ^ (8 * (3 - b.toNat / 16777216)) else b.toNat % 8388608 * 2 ^ (8 * (b.toNat / 16777216 - 3))
def bM (b : UInt32) : Nat × Int :=
  if b.toNat % 8388608 ≠ 0 ∧ b.toNat / 8388608 % 2 = 1 then (0, 7) else if 2 ^ 256 ≤ JU b ∨ JU b = 0 then (0, 7) else (JU b, 0)
theorem JS (b : UInt32) : (bM b).1 < 2 ^ 256 := by
  unfold bM
  split
  · exact Nat.two_pow_pos _
  · split
    · exact Nat.two_pow_pos _
    · rename_i h; exact Nat.lt_of_not_le fun e => h (Or.inl e)
theorem a1X (b : UInt32) : (bM b).2 = 0 ∨ (bM b).2 = 7 := by
  unfold bM
  split
  · exact Or.inr rfl
  · split
    · exact Or.inr rfl
    · exact Or.inl rfl
def o8 (h : Nat) (bits limit : UInt32) : Int :=
  if (bM bits).2 ≠ 0 then 7 else if (bM limit).2 ≠ 0 ∨ (bM limit).1 < (bM bits).1 then 7 else if (bM bits).1 < h then 6 else 0
def yz (t : Nat) : UInt32 :=
  if t = 0 then 0 else
  let e := (dU t + 7) / 8
  let m := (if e < 3 then t * 2 ^ (8 * (3 - e)) else t / 2 ^ (8 * (e - 3))) % 4294967296
  if m / 8388608 % 2 = 1 then UInt32.ofNat ((e + 1) * 16777216 ||| m / 256) else UInt32.ofNat (e * 16777216 ||| m)
def L9 (bits : UInt32) (num den : Nat) (limit : UInt32) : UInt32 :=
  if (bM bits).2 ≠ 0 ∨ num = 0 ∨ den = 0 then limit else if (bM limit).2 ≠ 0 then limit else
  let q := (bM bits).1 * num / den
  yz (if 2 ^ 256 ≤ q ∨ q = 0 ∨ (bM limit).1 < q then (bM limit).1 else q)
theorem a1C {P den i : Nat} (hd : 0 < den) : P / 2 ^ (64 * i) / den = P / 2 ^ (64 * (i + 1)) / den * 2 ^ 64 + (P / 2 ^ (64 * (i + 1)) % den * 2 ^ 64 + limb P i) / den ∧
    P / 2 ^ (64 * i) % den = (P / 2 ^ (64 * (i + 1)) % den * 2 ^ 64 + limb P i) % den ∧ (P / 2 ^ (64 * (i + 1)) % den * 2 ^ 64 + limb P i) / den < 2 ^ 64 := by
  have e : P / 2 ^ (64 * i) = P / 2 ^ (64 * (i + 1)) * 2 ^ 64 + limb P i := by
    unfold limb;have h : P / 2 ^ (64 * (i + 1)) = P / 2 ^ (64 * i) / 2 ^ 64 := by rw [Nat.div_div_eq_div_mul, ← Nat.pow_add]; congr 1
    rw [h];have := Nat.div_add_mod (P / 2 ^ (64 * i)) (2 ^ 64);omega
  generalize P / 2 ^ (64 * (i + 1)) = X at *;rw [e]
  have hX : X * 2 ^ 64 + limb P i = (X % den * 2 ^ 64 + limb P i) + den * (X / den * 2 ^ 64) := by
    have := Nat.div_add_mod X den
    calc X * 2 ^ 64 + limb P i = (den * (X / den) + X % den) * 2 ^ 64 + limb P i := by rw [this]
      _ = _ := by rw [Nat.add_mul, Nat.mul_assoc]; omega
  refine ⟨?_, ?_, ?_⟩
  · rw [hX, Nat.add_mul_div_left _ _ hd, Nat.add_comm]
  · rw [hX, Nat.add_mul_mod_self_left]
  · rw [Nat.div_lt_iff_lt_mul hd]
    have h1 := Nat.mod_lt X hd;have h2 := gX P i
    calc X % den * 2 ^ 64 + limb P i < X % den * 2 ^ 64 + 2 ^ 64 := by omega
      _ = (X % den + 1) * 2 ^ 64 := by rw [Nat.add_mul, Nat.one_mul]
      _ ≤ den * 2 ^ 64 := Nat.mul_le_mul_right _ h1
      _ = 2 ^ 64 * den := Nat.mul_comm _ _
def lZ (N M k:Nat):Nat:=(N%2^(64*k)+M%2^(64*k))/2^(64*k)
theorem b09 (N M:Nat):lZ N M 0=0:=by simp[lZ,Nat.mod_one]
theorem Us (N M k:Nat):lZ N M k≤1:=by
 unfold lZ;have hp:0<2^(64*k):=Nat.two_pow_pos _;have h1:=Nat.mod_lt N hp;have h2:=Nat.mod_lt M hp;exact Nat.le_of_lt_succ ((Nat.div_lt_iff_lt_mul hp).2 (by omega))
theorem b08 (N M k:Nat):limb N k+limb M k+lZ N M k=limb (N+M) k+2^64*lZ N M (k+1):=by
 unfold limb lZ;rw[show 64*(k+1)=64*k+64 by omega,Nat.pow_add,Nat.mod_mul,Nat.mod_mul];have hp:0<2^(64*k):=Nat.two_pow_pos _;generalize 2^(64*k)=B at *
 have e1:(N%B+B*(N/B%2^64)+(M%B+B*(M/B%2^64)))/(B*2^64)=((N%B+M%B)/B+(N/B%2^64+M/B%2^64))/2^64:=by
  rw[←Nat.div_div_eq_div_mul]
  congr 1
  rw[show N%B+B*(N/B%2^64)+(M%B+B*(M/B%2^64))=(N%B+M%B)+B*(N/B%2^64+M/B%2^64) by rw[Nat.mul_add];omega];exact Nat.add_mul_div_left _ _ hp
 have e2:(N+M)/B=(N%B+M%B)/B+(N/B+M/B):=by
  have a1:=Nat.mod_add_div N B;have a2:=Nat.mod_add_div M B
  conv=>lhs;rw[←a1,←a2,show N%B+B*(N/B)+(M%B+B*(M/B))=(N%B+M%B)+B*(N/B+M/B) by rw[Nat.mul_add];omega]
  exact Nat.add_mul_div_left _ _ hp
 rw[e1,e2];omega
theorem b07 {N M:Nat} (hN:N<2^256) (hM:M<2^256):lZ N M 4=if 2^256≤N+M then 1 else 0:=by
 have e:lZ N M 4=(N%2^256+M%2^256)/2^256:=rfl;rw[e,Nat.mod_eq_of_lt hN,Nat.mod_eq_of_lt hM]
 split <;> omega
theorem b6N (X k:Nat) (hk:k<4):limb (X%2^256) k=limb X k:=by
 unfold limb;rcases(show k=0∨k=1∨k=2∨k=3 by omega)with rfl | rfl | rfl | rfl <;> simp only[Nat.reduceMul,Nat.reducePow,Nat.div_one] <;> omega
def iU (N M:Nat):Nat:=(N+M)%2^256
theorem a6F (N M:Nat):iU N M<2^256:=Nat.mod_lt _ (by decide)
theorem a6G (N M k:Nat) (hk:k<4):(limb N k+limb M k+lZ N M k)%18446744073709551616=limb (iU N M) k∧(limb N k+limb M k+lZ N M k)/18446744073709551616=lZ N M (k+1):=by
 have h:=b08 N M k;have h2:=gX (N+M) k;rw[iU,b6N _ _ hk,h];simp only[Nat.reducePow]at h2 ⊢;omega
def oD (N M k:Nat):Nat:=if N%2^(64*k)<M%2^(64*k)then 1 else 0
def nU (N M:Nat):Nat:=(N+2^256 - M)%2^256
theorem Xm (N M k:Nat):oD N M k≤1:=by unfold oD;split <;> omega
theorem b91 (N M:Nat):oD N M 0=0:=by simp[oD,Nat.mod_one]
theorem b90 (N M k:Nat):oD N M (k+1)=if limb N k<limb M k+oD N M k then 1 else 0:=by
 unfold limb oD;rw[show 64*(k+1)=64*k+64 by omega,Nat.pow_add,Nat.mod_mul,Nat.mod_mul];have hp:0<2^(64*k):=Nat.two_pow_pos _;generalize 2^(64*k)=B at *;have h1:=Nat.mod_lt N hp;have h2:=Nat.mod_lt M hp;generalize N%B=r at *;generalize M%B=s at *;generalize N/B%2^64=n at *;generalize M/B%2^64=m at *;by_cases hnm:n=m
 ·subst hnm
  by_cases h:r<s
  ·rw[if_pos h,if_pos (by omega),if_pos (by omega)]
  ·rw[if_neg h,if_neg (by omega),if_neg (by omega)]
 ·by_cases h:n<m
  ·have h3:B*(n+1)≤B*m:=Nat.mul_le_mul_left B (by omega)
   rw[Nat.mul_add,Nat.mul_one]at h3;rw[if_pos (by omega),if_pos (by split <;> omega)]
  ·have h3:B*(m+1)≤B*n:=Nat.mul_le_mul_left B (by omega)
   rw[Nat.mul_add,Nat.mul_one]at h3;rw[if_neg (by omega),if_neg (by split <;> omega)]
theorem b2W {N M:Nat} (hN:N<2^256) (hM:M<2^256) (k:Nat) (hk:k<4):(limb N k+18446744073709551616 - limb M k - oD N M k)%18446744073709551616=limb (nU N M) k:=by
 have hD:iU (nU N M) M=N:=by unfold iU nU;omega
 have hs:=(a6G (nU N M) M k hk).1;rw[hD]at hs
 have hb:lZ (nU N M) M k=oD N M k:=by
  have hle:=Us (nU N M) M k;unfold lZ oD at *;have hp:0<2^(64*k):=Nat.two_pow_pos _
  have hm:N%2^(64*k)=((nU N M)%2^(64*k)+M%2^(64*k))%2^(64*k):=by
   rw[←Nat.add_mod]
   conv=>lhs;rw[←hD]
   unfold iU;exact Nat.mod_mod_of_dvd _ (Nat.pow_dvd_pow 2 (by omega))
  have h1:=Nat.mod_lt (nU N M) hp;have h2:=Nat.mod_lt M hp;generalize nU N M%2^(64*k)=r at *;generalize M%2^(64*k)=s at *;rw[hm];generalize 2^(64*k)=B at *;by_cases h:r+s<B
  ·rw[Nat.div_eq_of_lt h,Nat.mod_eq_of_lt h,if_neg (by omega)]
  ·have e:(r+s)/B=1:=Nat.div_eq_of_lt_le (by omega) (by omega)
   have e2:(r+s)%B=r+s - B:=by rw[Nat.mod_eq_sub_mod (by omega),Nat.mod_eq_of_lt (by omega)]
   rw[e,e2,if_pos (by omega)]
 rw[hb]at hs;have h1:=gX (nU N M) k;have h2:=gX N k;have h3:=gX M k;have h4:=Xm N M k;simp only[Nat.reducePow]at h1 h2 h3;omega
theorem b9Z {N M:Nat} (hN:N<2^256) (hM:M<2^256):oD N M 4=if N<M then 1 else 0:=by
 have e:oD N M 4=if N%2^256<M%2^256 then 1 else 0:=rfl
 rw[e,Nat.mod_eq_of_lt hN,Nat.mod_eq_of_lt hM]
def ou (N:Nat):Nat:=2^256 - 1 - N
theorem P8 {N:Nat} (hN:N<2^256) (k:Nat) (hk:k<4):limb (ou N) k=18446744073709551615 - limb N k:=by
 unfold limb ou;rcases(show k=0∨k=1∨k=2∨k=3 by omega)with rfl | rfl | rfl | rfl <;> simp only[Nat.reduceMul,Nat.reducePow,Nat.div_one]at * <;> omega
theorem b6O (N M i:Nat):limb (N ||| M) i=limb N i ||| limb M i:=by
 unfold limb;rw[←Nat.shiftRight_eq_div_pow,←Nat.shiftRight_eq_div_pow,←Nat.shiftRight_eq_div_pow,Nat.shiftRight_or_distrib,Nat.or_mod_two_pow]
theorem b6P (i j:Nat):limb (2^i) j=if j=i/64 then 2^(i%64)else 0:=by
 apply Nat.eq_of_testBit_eq
 intro b;rw[o7];by_cases h:j=i/64
 ·rw[if_pos h,Nat.testBit_two_pow,Nat.testBit_two_pow,Bool.eq_iff_iff]
  simp only[Bool.and_eq_true,decide_eq_true_eq];omega
 ·rw[if_neg h,Nat.testBit_two_pow,Nat.zero_testBit]
  simp only[Bool.and_eq_false_iff,decide_eq_false_iff_not];omega
theorem b9n (q i:Nat):2^(i+1)*q ||| 2^i=2^(i+1)*q+2^i:=by
 have h:=Ur (2^i) q (i+1) (Nat.pow_lt_pow_right (by decide) (by omega));rw[Nat.or_comm,←h,Nat.add_comm]
theorem or_one {a b:Nat} (ha:a%2=0) (hb:b<2):a ||| b=a+b:=by
 have h:=Ur b (a/2) 1 (by omega);rw[Nat.pow_one]at h;have e:2*(a/2)=a:=by omega
 rw[e]at h;rw[Nat.or_comm,←h,Nat.add_comm]
theorem b2Y {a b i:Nat} (hb:0<b) :
  a/2^i=2*(a/2^(i+1))+a/2^i%2 ∧
  (b≤2*(a/2^(i+1)%b)+a/2^i%2→a/2^i%b=2*(a/2^(i+1)%b)+a/2^i%2 - b∧a/2^i/b=2*(a/2^(i+1)/b)+1) ∧
  (2*(a/2^(i+1)%b)+a/2^i%2<b→a/2^i%b=2*(a/2^(i+1)%b)+a/2^i%2∧a/2^i/b=2*(a/2^(i+1)/b)):=by
 have e:a/2^(i+1)=a/2^i/2:=by rw[Nat.pow_succ,Nat.div_div_eq_div_mul]
 rw[e];generalize a/2^i=x;have h0:x=2*(x/2)+x%2:=by omega
 have h1:=Nat.mod_add_div (x/2) b;have h2:=Nat.mod_lt (x/2) hb;refine⟨h0,fun h=>?_,fun h=>?_⟩
 ·have hx:x=(2*(x/2%b)+x%2 - b)+b*(2*(x/2/b)+1):=by
   have:b*(2*(x/2/b)+1)=2*(b*(x/2/b))+b:=by rw[Nat.mul_add,Nat.mul_one,Nat.mul_left_comm]
   omega
  have hlt:2*(x/2%b)+x%2 - b<b:=by omega
  constructor
  ·conv=>lhs;rw[hx]
   rw[Nat.add_mul_mod_self_left,Nat.mod_eq_of_lt hlt]
  ·conv=>lhs;rw[hx]
   rw[Nat.add_mul_div_left _ _ hb,Nat.div_eq_of_lt hlt,Nat.zero_add]
 ·have hx:x=(2*(x/2%b)+x%2)+b*(2*(x/2/b)):=by
   have:b*(2*(x/2/b))=2*(b*(x/2/b)):=by rw[Nat.mul_left_comm]
   omega
  constructor
  ·conv=>lhs;rw[hx]
   rw[Nat.add_mul_mod_self_left,Nat.mod_eq_of_lt h]
  ·conv=>lhs;rw[hx]
   rw[Nat.add_mul_div_left _ _ hb,Nat.div_eq_of_lt h,Nat.zero_add]
def jl (a b i:Nat):Nat:=a/2^i/b*2^i
theorem a5m {a b i:Nat} (h:a/2^i/b=2*(a/2^(i+1)/b)+1):jl a b i=jl a b (i+1) ||| 2^i:=by
 unfold jl;rw[h,Nat.mul_comm (a/2^(i+1)/b),b9n];generalize a/2^(i+1)/b=X;rw[Nat.pow_succ];generalize 2^i=B;rw[Nat.add_mul,Nat.one_mul,Nat.mul_assoc,Nat.mul_assoc,Nat.mul_left_comm B,Nat.mul_comm X B]
theorem b7I {a b i:Nat} (h:a/2^i/b=2*(a/2^(i+1)/b)):jl a b i=jl a b (i+1):=by
 unfold jl;rw[h];generalize a/2^(i+1)/b=X;rw[Nat.pow_succ];generalize 2^i=B;rw[Nat.mul_comm B 2,←Nat.mul_assoc,Nat.mul_comm X 2]
theorem b7K (a b:Nat):jl a b 0=a/b:=by unfold jl;simp
def uS (x:UInt32):Nat:=if(bM x).2≠0 then 0 else(2^256 - 1 - (bM x).1)/((bM x).1+1)+1
theorem Xz (x:UInt32):uS x<2^256:=by
 unfold uS;by_cases h:(bM x).2≠0
 ·rw[if_pos h];decide
 ·rw[if_neg h]
  have h1:(2^256 - 1 - (bM x).1)/((bM x).1+1)≤2^256 - 1 - (bM x).1:=Nat.div_le_self _ _;by_cases h0:(bM x).1=0
  ·exfalso
   unfold bM at h h0
   split at h
   ·exact absurd (by decide) h
   ·split at h
    ·exact absurd (by decide) h
    ·rename_i h2 h3
     rw[if_neg h2,if_neg h3]at h0;exact h3 (Or.inr h0)
  ·omega
end Go.Proofs.YtiagcenlnekdeaaGreatDoor
namespace Go.Proofs.YtiagcenlnekdeaaGreatDoor
open Go.RowKit
attribute [local go_sem ↓] Go.wp_at_zero Go.wp_at_succ
abbrev n64 (n:Nat):Value:=.int .u64 (n:Int)
def uL (N:Nat):List Value:=[n64 (limb N 0),n64 (limb N 1),n64 (limb N 2),n64 (limb N 3)]
abbrev aO (N:Nat):Value:=.agg #[n64 (limb N 0),n64 (limb N 1),n64 (limb N 2),n64 (limb N 3)]
theorem oG (N k:Nat) (h:k<4):(uL N)[k]?=some (n64 (limb N k)):=by
 rcases(show k=0∨k=1∨k=2∨k=3 by omega)with rfl | rfl | rfl | rfl <;> rfl
theorem c0y (N:Nat) : ∀ v∈uL N,v.oneCell'=true:=by
 intro v hv;simp[uL]at hv;rcases hv with rfl | rfl | rfl | rfl <;> rfl
theorem JO (N M:Nat) (w:World) (hN:N<2^256) (hM:M<2^256) :
  Calls prog 60 #[aO N,aO M] w fun e w'=>e = .returned (.int .i64 (kF N M))∧Keep w w':=by
 have HC:Hid (∀ c,kF N M=c→(N<M→c = -1)∧(M<N→c=1)∧(N=M→c=0)):=fun c e=>by
  subst e;unfold kF;refine⟨fun h=>if_pos h,fun h=>?_,fun h=>?_⟩
  ·rw[if_neg (by omega),if_pos h]
  ·rw[if_neg (by omega),if_neg (by omega)]
 replace HC:=hid (HC.out _ rfl);generalize kF N M=c at *;have HN:=hid hN;have HM:=hid hM
 clear hN hM;go_enter func60,ntmps60
 go_upto_region 1 with fail
 obtain⟨w1,hw1,-,-,ai,-⟩:=FN w 79 79 [n64 (limb N 0),n64 (limb N 1),n64 (limb N 2),n64 (limb N 3)] [n64 (limb M 0),n64 (limb M 1),n64 (limb M 2),n64 (limb M 3)]
 have hc1 : ∀ k,k<4→w1.cell? ⟨w.heap.size,k,none⟩=some (n64 (limb N k)):=fun k hk=>by
  have h1:ae w1 w.heap.size 79 (uL N):=by rw[hw1];exact(ae.new w 79 (uL N)).alloc _
  rw[h1.cell,oG N k hk]
 have hc2 : ∀ k,k<4→w1.cell? ⟨w.heap.size+1,k,none⟩=some (n64 (limb M k)):=fun k hk=>by
  have h1:ae w1 (w.heap.size+1) 79 (uL M):=by
   rw[hw1];have h2:=ae.new (w.alloc (.cells #[n64 (limb N 0),n64 (limb N 1),n64 (limb N 2),n64 (limb N 3)] 79)) 79 (uL M);rw[World.size_alloc]at h2;exact h2
  rw[h1.cell,oG M k hk]
 rw[←hw1];have Tu:=hid hc1;have a9R:=hid hc2
 clear hw1 hc1 hc2;go_wp2_with fail
 go_loopw [5] (fun i wr => ∃ k:Nat,k≤4∧i = .int .i64 ((k:Int) - 1)∧Hid (∀ j,k≤j→j<4→limb N j=limb M j)∧Hid (Keep w1 wr)) (fun i _=>(intOf i+1).toNat)
 case atStart=>exact⟨4,by omega,rfl,hid (fun j h1 h2=>by omega),hid (Below.refl _ _)⟩
 case round =>
  obtain⟨k,hk,rfl,he,hkr⟩:=hrel
  cases k with
  | zero =>
    have h1:=HC.out.2.2 (Wh HN.out HM.out (fun i hi=>he.out i (Nat.zero_le _) hi));subst h1;clear HC;go_wp2
    go_ret
    exact⟨rfl,af ai.out hkr.out⟩
  | succ k =>
    have hi:((k+1:Nat):Int) - 1=(k:Int):=by omega
    rw[hi];have a0:=aC hkr.out (Tu.out k (by omega));have a1:=aC hkr.out (a9R.out k (by omega))
    have hl:=gX N k;have hm:=gX M k
    have hk4:k<4:=by omega
    have hx:Hid (limb N k<limb M k→N<M):=hid fun h=>a1n HN.out HM.out hk4 (fun j h1 h2=>he.out j (by omega) h2) h;have hy:Hid (limb M k<limb N k→M<N):=hid fun h=>a1n HM.out HN.out hk4 (fun j h1 h2=>(he.out j (by omega) h2).symm) h
    have heq:Hid (limb N k=limb M k → ∀ j,k≤j→j<4→limb N j=limb M j):=hid fun h j h1 h2=>by
     by_cases e:j=k
     ·subst e;exact h
     ·exact he.out j (by omega) h2
    generalize limb N k=x at *;generalize limb M k=y at *;clear hi he;have b0:=aF a0;have b1:=aF a1
    have hxi:(x:Int)<18446744073709551616:=by omega
    have hyi:(y:Int)<18446744073709551616:=by omega
    clear hl hm;by_cases h1:x<y
    ·have h2:=HC.out.1 (hx.out h1)
     subst h2;have d1:decide (x<y)=true:=decide_eq_true (by omega);clear HC hx hy heq h1 HN HM;go_upto_region 4 with fail
     refine lC (by kernel_rfl) (by kernel_rfl) wr (Below.refl _ _) ?_;repeat(go_big_quiet_step (fail))
     refine wpQuiet_nil ?_;rintro _ ⟨y',rfl⟩;have j:=jg wr y';generalize dn wr y'=jP at j ⊢;clear b0 b1;go_wp2
     go_ret
     exact⟨rfl,af ai.out (af hkr.out j)⟩
    ·have d1:decide (x<y)=false:=decide_eq_false (by omega)
     go_upto_region 4 with fail
     refine lC (by kernel_rfl) (by kernel_rfl) wr (Below.refl _ _) ?_;repeat(go_big_quiet_step (fail))
     refine wpQuiet_nil ?_;rintro _ ⟨y',rfl⟩;have j:=jg wr y';generalize dn wr y'=jP at j ⊢;have c0:=aF (aC j a0);have c1:=aF (aC j a1)
     clear b0 b1;by_cases h2:y<x
     ·have h3:=HC.out.2.1 (hy.out h2)
      subst h3;have d2:decide (y<x)=true:=decide_eq_true (by omega);clear HC hx hy heq h1 h2;go_upto_region 6 with fail
      refine lC (by kernel_rfl) (by kernel_rfl) jP (Below.refl _ _) ?_;repeat(go_big_quiet_step (fail))
      refine wpQuiet_nil ?_;rintro _ ⟨y',rfl⟩;have j2:=jg jP y';generalize dn jP y'=wy at j2 ⊢;clear c0 c1;go_wp2
      go_ret
      exact⟨rfl,af ai.out (af hkr.out (af j j2))⟩
     ·have hxy:x=y:=by omega
      have CP:=hid (heq.out hxy);have d2:decide (y<x)=false:=decide_eq_false (by omega);clear hx hy heq h1 h2;go_upto_region 6 with fail
      refine lC (by kernel_rfl) (by kernel_rfl) jP (Below.refl _ _) ?_;repeat(go_big_quiet_step (fail))
      refine wpQuiet_nil ?_;rintro _ ⟨y',rfl⟩;have j2:=jg jP y';generalize dn jP y'=wy at j2 ⊢;clear c0 c1;go_wp2
      go_roundw
      case rel=>exact⟨k,by omega,by go_num,CP,hid (af hkr.out (af j j2))⟩
      case measure=>simp[intOf]
end Go.Proofs.YtiagcenlnekdeaaGreatDoor
