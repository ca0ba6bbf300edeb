/- Texts merged by pack.py: Bd, Rn, Rm, Ei, Hi, Hm, Rp, NSb, NSc. -/
import Derived.Test.YtmbbknjddebhoaaGreatDoorCx4
import Derived.Great.BuildSlice
import Derived.Test.YtmbbknjddebhoaaGreatDoorCx6
import Derived.LaidEql
import Derived.Stop.Asserts
import Derived.RowKitTokens
import Derived.Lib.IfaceEq
import Derived.Test.YtmbbknjddebhoaaGreatDoorCx5
/- A slice of one built; lists of 32. -/
set_option linter.unusedSimpArgs false
set_option linter.unusedVariables false
namespace Go.Proofs.YtmbbknjddebhoaaGreatDoor
open Go.RowKit
attribute [local go_sem ↓] Go.wp_at_zero Go.wp_at_succ
theorem foldl_setb : ∀ (l : List Value) (k : Nat) (acc : Array Value),k + l.length = acc.size → (l.zipIdx k).foldl (fun cs x => cs.setIfInBounds (0 + x.2) x.1) acc = (acc.toList.take k ++ l).toArray
 | [],k,acc,h => by
   have : acc.toList.take k = acc.toList:=List.take_of_length_le (by simp at h ⊢;omega)
   simp [this]
 | v :: r,k,acc,h => by
   rw [List.zipIdx_cons,List.foldl_cons,foldl_setb r (k + 1) _ (by simp at h ⊢;omega)]
   have hk : k < acc.size:=by simp at h;omega
   congr 1
   rw [Array.toList_setIfInBounds,Nat.zero_add,List.take_succ_eq_append_getElem (by simpa using hk),List.getElem_set_self,List.take_set_of_le (Nat.le_refl _)]
   simp
theorem wp_build1b {P : Program} {t e : TypeId} {zc : Array Value} {size bytes : Nat} (T : ElT P t e (.agg zc) size bytes) {o : Oper} {a : Act} {w : World} {K : Act → World → Prop} {Q : Exit → Act → World → Prop} (x : Operand) (ho : o.op = .buildSlice t 1 #[(0,x)])
  (cs : Array Value) (hz : cs.size = size) (hsm : size ≤ 1000) (hx : a.eval x = .agg cs)
  (h : K (a.put o.dst (.slice (some ⟨w.heap.size,0,none⟩) 1 1)) (w.alloc (.cells cs e))) : o.wp P a w K Q:=by
 obtain ⟨i,hi,hiz,his,_⟩:=T.info
 have hzc : zc.size = size:=T.zs
 have hp:=T.pos
 refine wp_buildSlice t e 1 _ ho cs i (.agg zc) T.und hi hiz (by rw [his];omega) (by rw [his];omega) ?_ h
 have hc : (Value.agg cs).cells = cs:=rfl
 simp only [List.map_toArray,List.map_cons,List.map_nil,hx,Instr.fill,hc,his,hz,Nat.zero_mul,Nat.one_mul]
 rw [if_neg (by simp)]
 congr 1
 rw [← Array.foldl_toList,Array.toList_zipIdx]
 have hf:=foldl_setb cs.toList 0 ((Array.range size).map fun j => zc[j % zc.size]!) (by simp [hz])
 simp only [List.take_zero,List.nil_append,Array.toArray_toList] at hf
 exact hf
set_option maxRecDepth 100000 in
theorem headTb : ElT Tryz.prog 26 30 (Value.agg zhead) 68 80:=ElT.mk' Tryz.underlying26 (by kernel_rfl) zhead_size (by omega)
set_option maxRecDepth 100000 in
theorem list32b {l : List UInt8} (h : l.length = 32) : ∃ a0 a1 a2 a3 a4 a5 a6 a7 a8 a9 b0 b1 b2 b3 b4 b5 b6 b7 b8 b9 c0 c1 c2 c3 c4 c5 c6 c7 c8 c9 d0 d1 : UInt8,l = [a0,a1,a2,a3,a4,a5,a6,a7,a8,a9,b0,b1,b2,b3,b4,b5,b6,b7,b8,b9,c0,c1,c2,c3,c4,c5,c6,c7,c8,c9,d0,d1]:=by
 match l,h with
 | [a0,a1,a2,a3,a4,a5,a6,a7,a8,a9,b0,b1,b2,b3,b4,b5,b6,b7,b8,b9,c0,c1,c2,c3,c4,c5,c6,c7,c8,c9,d0,d1],_ => exact ⟨a0,a1,a2,a3,a4,a5,a6,a7,a8,a9,b0,b1,b2,b3,b4,b5,b6,b7,b8,b9,c0,c1,c2,c3,c4,c5,c6,c7,c8,c9,d0,d1,rfl⟩
theorem heads_at {w : World} {B : Option Addr} {l : List Hd} (hr : Rd w B (l.flatMap Hd.cells)) (hk : ∀ h ∈ l,h.ok) {k : Nat} (h : k < l.length) :
  ∃ b off,B = some ⟨b,off,none⟩∧b < w.heap.size∧w.rangeAt b (off + k * 68) l[k].cells:=by
 have hlen : ∀ a ∈ l,a.cells.length = 68:=fun a ha => Hd.len (hk a ha)
 obtain ⟨b,off,rfl,hb,F⟩:=hr.at (k:=k * 68) (by rw [flatMap_len' _ 68 _ hlen];omega)
 refine ⟨b,off,rfl,hb,fun j v hv => ?_⟩
 have hj : j < 68:=by rw [← hlen l[k] (List.getElem_mem h)];exact (List.getElem?_eq_some_iff.1 hv).1
 have hg:=flatMap_get' Hd.cells 68 l hlen k j h hj
 have hlt : k * 68 + j < (l.flatMap Hd.cells).length:=by rw [flatMap_len' _ 68 _ hlen];omega
 have hc:=F (k * 68 + j) hlt
 rw [Nat.add_assoc,hc,← hv,← hg,List.getElem?_eq_getElem hlt]
end Go.Proofs.YtmbbknjddebhoaaGreatDoor
/- retarget.Next, Chain. -/
set_option linter.unusedSimpArgs false
set_option linter.unusedVariables false
namespace Go.Proofs.YtmbbknjddebhoaaGreatDoor
open Go.RowKit
attribute [local go_sem ↓] Go.wp_at_zero Go.wp_at_succ
def hd0 : Hd:=⟨0,[],[],0,0,0⟩
def actR (p : Par) (h : Hd) (f : UInt32) : Nat:=(btw ((h.time.toNat : Int) - f.toNat) (p.span.tdiv 4) (4 * p.span)).toNat
def nextR (p : Par) (n : Int) (h : Hd) (f : UInt32) : UInt32 :=
 if saneR p = false then p.limit else if n.tmod p.itv ≠ 0 then h.bits else scaN h.bits (actR p h f) p.span.toNat p.limit
def chainR (p : Par) (l : List Hd) : UInt32 :=
 if l.length = 0 then p.limit else nextR p l.length (l.getD (l.length - 1) hd0) (l.getD (firstI l.length p.itv).toNat hd0).time
theorem hd_time {h : Hd} (hk : h.ok) : h.cells[65]? = some (u32v h.time):=by
 have e : h.cells = (u32v h.ver :: (h.prev.map u8v ++ h.root.map u8v)) ++ (u32v h.time :: [u32v h.bits,u32v h.nonce]):=by simp [Hd.cells]
 rw [e,List.getElem?_append_right (by simp [hk.1,hk.2])]
 simp [hk.1,hk.2]
theorem hd_bits {h : Hd} (hk : h.ok) : h.cells[66]? = some (u32v h.bits):=by
 have e : h.cells = (u32v h.ver :: (h.prev.map u8v ++ h.root.map u8v) ++ [u32v h.time]) ++ (u32v h.bits :: [u32v h.nonce]):=by simp [Hd.cells]
 rw [e,List.getElem?_append_right (by simp [hk.1,hk.2])]
 simp [hk.1,hk.2]
set_option maxRecDepth 100000 in
set_option maxHeartbeats 4000000 in
theorem next_any (p : Par) (A : Option Addr) (c : Nat) (n : Int) (h : Hd) (cs : Array Value) (f : UInt32) (w : World) (hn : 1 ≤ n) (hn2 : n ≤ 1000000) (hk : h.ok) (hcs : HdA h cs) :
  Calls Tryz.prog 37 #[parV p A c,iv n,.agg cs,u32v f] w fun e w' => e = .returned (u32v (nextR p n h f))∧Keep w w':=by
 have S1 : Hid (∀ y,Calls Tryz.prog 17 #[parV p A c] y fun e w' => e = .returned (.bool (saneR p))∧Keep y w'):=Lib.hid fun y => sane_any p A c y
 have ht:=hd_time hk;have hbt:=hd_bits hk
 have HI:=Lib.hid (saneR_iff p)
 have HN : Hid (∀ r,nextR p n h f = r → r = if saneR p = false then p.limit else if n.tmod p.itv ≠ 0 then h.bits else scaN h.bits (actR p h f) p.span.toNat p.limit):=Lib.hid fun r e => by subst e;rfl
 replace HN:=Lib.hid (HN.out _ rfl)
 have HA : Hid (actR p h f = (btw ((h.time.toNat : Int) - f.toNat) (p.span.tdiv 4) (4 * p.span)).toNat):=Lib.hid rfl
 generalize nextR p n h f = R at *
 generalize actR p h f = k at *
 unfold parV at *
 generalize saneR p = S at *
 generalize p.limit = limit at *
 generalize p.itv = itv at *
 generalize p.span = span at *
 generalize p.fut = fut at *
 generalize p.idx = idx at *
 generalize p.orp = orp at *
 generalize hm : p.chks.length = m at *
 clear hm
 obtain ⟨tm,htm⟩ : ∃ x,h.time = x:=⟨_,rfl⟩
 obtain ⟨bt,hbi⟩ : ∃ x,h.bits = x:=⟨_,rfl⟩
 rw [htm] at ht HA;rw [hbi] at hbt HN
 have hcz:=hcs.z;have hcn:=hcs.n;have hci:=hcs.i
 rw [← hcs.l] at ht hbt
 have Ht:=Lib.hid ht;have Hbt:=Lib.hid hbt
 clear htm hbi ht hbt hk hcs
 go_enter Tryz.func37,Tryz.ntmps37
 go_upto_region 1 with fail
 obtain ⟨w1,hw1⟩ : ∃ w1,w1 = (w.alloc (.cells #[u32v limit,iv itv,iv span,iv fut,iv idx,iv orp,.slice A m c] 25)).alloc (.cells cs 30):=⟨_,rfl⟩
 have HP1 : Hid (Blk w1 w.heap.size 25 [u32v limit,iv itv,iv span,iv fut,iv idx,iv orp,.slice A m c]):=by rw [hw1];exact Lib.hid ((Blk.new w 25 [u32v limit,iv itv,iv span,iv fut,iv idx,iv orp,.slice A m c]).alloc _)
 have HH1 : Hid (Blk w1 (w.heap.size + 1) 30 cs.toList):=by
  rw [hw1]
  have h2:=Blk.new (w.alloc (.cells #[u32v limit,iv itv,iv span,iv fut,iv idx,iv orp,.slice A m c] 25)) 30 cs.toList
  rw [World.size_alloc] at h2
  exact Lib.hid h2
 have HK1 : Hid (Keep w w1):=by rw [hw1];exact Lib.hid (keep_trans (keep_new _ _) (keep_new _ _))
 rw [← hw1]
 clear hw1
 have p0:=HP1.out.cell 0
 have p1:=HP1.out.cell 1
 have p2:=HP1.out.cell 2
 have p3:=HP1.out.cell 3
 have p4:=HP1.out.cell 4
 have p5:=HP1.out.cell 5
 have p6:=HP1.out.cell 6
 simp only [List.getElem?_cons_succ,List.getElem?_cons_zero] at p0 p1 p2 p3 p4 p5 p6
 go_wp2_with fail
 refine (S1.out _).mono ?_
 clear S1 p0 p1 p2 p3 p4 p5 p6
 rintro e w2 ⟨rfl,k2⟩
 have p0:=(HP1.out.keep k2).cell 0
 have p1:=(HP1.out.keep k2).cell 1
 have p2:=(HP1.out.keep k2).cell 2
 have q0:=(HH1.out.keep k2).cell 65
 have q1:=(HH1.out.keep k2).cell 66
 rw [Ht.out] at q0
 rw [Hbt.out] at q1
 simp only [List.getElem?_cons_succ,List.getElem?_cons_zero] at p0 p1 p2
 have HK2:=Lib.hid (keep_trans HK1.out k2)
 clear k2 HP1 HH1 HK1 Ht Hbt
 cases S with
 | false =>
   have hR:=HN.out
   rw [if_pos rfl] at hR
   subst hR
   clear HN HI
   go_wp2
   exact bodyPost_ret (v:=u32v R) (by simp [results,Tryz.results37]) rfl ⟨rfl,HK2.out⟩
 | true =>
   obtain ⟨⟨i1,i2⟩,⟨s1,s2⟩,-⟩:=HI.out.1 rfl
   clear HI
   have hR:=HN.out
   rw [if_neg (by simp)] at hR
   replace HN:=Lib.hid hR
   clear hR
   have g1 : ¬ n ≤ 0:=by omega
   have g2 : ¬ itv = 0:=by omega
   have g3 : (itv == 0) = false:=by simp [g2]
   have tb1 : 0 ≤ n.tmod itv:=Int.tmod_nonneg _ (by omega)
   have tb2 : n.tmod itv ≤ n:=by rw [Int.tmod_eq_emod_of_nonneg (by omega)];by_cases hq : n < itv;(· rw [Int.emod_eq_of_lt (by omega) hq];omega);(· have:=Int.emod_lt_of_pos n (show 0 < itv by omega);omega)
   have g4 : IntKind.i64.wrap (n.tmod itv) = n.tmod itv:=IntWalk.i64_in _ (by omega)
   clear tb1 tb2
   obtain ⟨x,hx⟩ : ∃ x,n.tmod itv = x:=⟨_,rfl⟩
   rw [hx] at g4 HN
   by_cases h0 : x = 0
   ·subst h0
    have hR:=HN.out
    rw [if_neg (by simp)] at hR
    clear HN g4
    have hd4 : span.tdiv 4 = span / 4:=Int.tdiv_eq_ediv_of_nonneg (by omega)
    have bt1:=tm.toNat_lt
    have bt2:=f.toNat_lt
    have hkb : btw ((tm.toNat : Int) - f.toNat) (span.tdiv 4) (4 * span) = (k : Int)∧k < 18446744073709551616:=by
     have h1:=HA.out
     unfold btw at h1 ⊢
     omega
    have C1 : Hid (∀ y,Calls Tryz.prog 57 #[iv ((tm.toNat : Int) - f.toNat),iv span] y fun e w' => e = .returned (iv k)∧w' = y):=Lib.hid fun y => by
     have h1:=clamp_any ((tm.toNat : Int) - f.toNat) span y s1 s2
     rw [hkb.1] at h1
     exact h1
    have hk2:=hkb.2
    have v1 : IntKind.i64.wrap (tm.toNat : Int) = tm.toNat:=IntWalk.i64_in _ (by omega)
    have v2 : IntKind.i64.wrap (f.toNat : Int) = f.toNat:=IntWalk.i64_in _ (by omega)
    have v3 : IntKind.i64.wrap ((tm.toNat : Int) - f.toNat) = (tm.toNat : Int) - f.toNat:=IntWalk.i64_in _ (by omega)
    obtain ⟨s,rfl⟩ : ∃ s : Nat,span = s:=⟨span.toNat,by omega⟩
    have hs2 : s < 18446744073709551616:=by omega
    have v4 : IntKind.u64.wrap (k : Int) = k:=IntWalk.u64_in _ (by omega)
    have v5 : IntKind.u64.wrap (s : Int) = s:=IntWalk.u64_in _ (by omega)
    rw [Int.toNat_natCast] at hR
    have C2 : Hid (∀ y,Calls Tryz.prog 58 #[u32v bt,n64 k,n64 s,u32v limit] y fun e w' => e = .returned (u32v R)∧Keep y w'):=Lib.hid fun y => by
     rw [hR]
     exact scale_any bt limit k s y hk2 hs2
    obtain ⟨d,hd⟩ : ∃ d,(tm.toNat : Int) - f.toNat = d:=⟨_,rfl⟩
    rw [hd] at C1 v3
    clear hR HA hd4 hkb bt1 bt2 hk2 hs2 s1 s2
    go_wp2_with fail
    refine (C1.out _).mono ?_
    clear C1
    rintro e w3 ⟨rfl,rfl⟩
    go_wp2_with fail
    refine (C2.out _).mono ?_
    clear C2
    rintro e w4 ⟨rfl,k4⟩
    go_wp2
    exact bodyPost_ret (v:=u32v R) (by simp [results,Tryz.results37]) rfl ⟨rfl,keep_trans HK2.out k4⟩
   ·have hR:=HN.out
    rw [if_pos h0] at hR
    subst hR
    have g5 : (x != 0) = true:=by simp [h0]
    have g6 : (x == 0) = false:=by simp [h0]
    clear HN
    go_wp2
    exact bodyPost_ret (v:=u32v R) (by simp [results,Tryz.results37]) rfl ⟨rfl,HK2.out⟩
end Go.Proofs.YtmbbknjddebhoaaGreatDoor
/- retarget.Chain. -/
set_option linter.unusedSimpArgs false
set_option linter.unusedVariables false
namespace Go.Proofs.YtmbbknjddebhoaaGreatDoor
open Go.RowKit
attribute [local go_sem ↓] Go.wp_at_zero Go.wp_at_succ
set_option maxRecDepth 100000 in
set_option maxHeartbeats 4000000 in
theorem chain_any (p : Par) (A : Option Addr) (c : Nat) (B : Option Addr) (l : List Hd) (d : Nat) (w : World) (hl : l.length ≤ 1000) (hd : l.length ≤ d) (hr : Rd w B (l.flatMap Hd.cells)) (hk : ∀ h ∈ l,h.ok) :
  Calls Tryz.prog 18 #[parV p A c,.slice B l.length d] w fun e w' => e = .returned (u32v (chainR p l))∧Keep w w':=by
 by_cases h0 : l.length = 0
 ·have hR : chainR p l = p.limit:=by unfold chainR;rw [if_pos h0]
  rw [hR,h0]
  clear hR h0 hr hk hl hd
  unfold parV
  generalize p.limit = limit
  generalize hm : p.chks.length = m
  clear hm
  go_enter Tryz.func18,Tryz.ntmps18
  go_wp2
  exact bodyPost_ret (v:=u32v limit) (by simp [results,Tryz.results18]) rfl ⟨rfl,keep_new _ _⟩
 ·have hb : 1 ≤ btw p.itv 1 1048576:=by unfold btw;omega
  obtain ⟨k,hkI,hkl⟩ : ∃ k : Nat,firstI (l.length : Int) p.itv = k∧k < l.length:=by
   refine ⟨(firstI (l.length : Int) p.itv).toNat,?_,?_⟩ <;> (unfold firstI;split <;> omega)
  have hkl2 : l.length - 1 < l.length:=by omega
  have F1 : Hid (∀ y,Calls Tryz.prog 36 #[iv l.length,iv p.itv] y fun e w' => e = .returned (iv k)∧w' = y):=Lib.hid fun y => by
   have h1:=first_any (l.length : Int) p.itv y (by omega) (by omega)
   rw [hkI] at h1
   exact h1
  have hR : chainR p l = nextR p l.length l[l.length - 1] l[k].time:=by
   unfold chainR
   rw [if_neg h0,hkI,Int.toNat_natCast]
   simp only [List.getD_eq_getElem?_getD,List.getElem?_eq_getElem hkl,List.getElem?_eq_getElem hkl2,Option.getD_some]
  have ok1:=hk _ (List.getElem_mem hkl)
  have ok2:=hk _ (List.getElem_mem hkl2)
  obtain ⟨b,off,rfl,hbw,r1⟩:=heads_at hr hk hkl
  obtain ⟨b',off',hB,hbw',r2⟩:=heads_at hr hk hkl2
  cases hB
  have N1 : Hid (∀ y cs,HdA l[l.length - 1] cs → Calls Tryz.prog 37 #[parV p A c,iv l.length,.agg cs,u32v l[k].time] y fun e w' => e = .returned (u32v (chainR p l))∧Keep y w'):=Lib.hid fun y cs hcs => by
   rw [hR]
   exact next_any p A c l.length _ cs _ y (by omega) (by omega) ok2 hcs
  have ht:=hd_time ok1
  have hcs1:=HdA.of ok1
  have hcs2:=HdA.of ok2
  rw [← hcs1.l] at r1 ht
  rw [← hcs2.l] at r2
  obtain ⟨c1,hc1⟩ : ∃ x,l[k].cells.toArray = x:=⟨_,rfl⟩
  obtain ⟨c2,hc2⟩ : ∃ x,l[l.length - 1].cells.toArray = x:=⟨_,rfl⟩
  rw [hc1] at hcs1 r1 ht
  rw [hc2] at hcs2 r2
  replace N1:=Lib.hid fun y => N1.out y c2 hcs2
  have i1:=hcs1.i;have i2:=hcs2.i;have z1:=hcs1.z;have n1:=hcs1.n;have o1:=Lib.hid hcs1.o
  have R1:=Lib.hid r1;have R2:=Lib.hid r2;have Ht:=Lib.hid ht
  obtain ⟨tm,htm⟩ : ∃ x,l[k].time = x:=⟨_,rfl⟩
  rw [htm] at N1 Ht
  clear hR hc1 hc2 hcs1 hcs2 r1 r2 ht htm hb hkI hr ok1 ok2 hbw' hk
  generalize chainR p l = R at *
  obtain ⟨n,hnn⟩ : ∃ n,l.length = n:=⟨_,rfl⟩
  rw [hnn] at hl hd h0 hkl hkl2 F1 R2 N1
  rw [hnn]
  clear hnn
  unfold parV at *
  generalize p.limit = limit at *
  generalize p.itv = itv at *
  generalize p.span = span at *
  generalize p.fut = fut at *
  generalize p.idx = idx at *
  generalize p.orp = orp at *
  generalize hm : p.chks.length = m at *
  clear hm
  obtain ⟨zs,hz1,hz2,hz3,-⟩:=zhead_letter
  have g1 : (n == 0) = false:=by simp [h0]
  have g2 : ((n : Int) == 0) = false:=by rw [beq_eq_false_iff_ne];omega
  go_enter Tryz.func18,Tryz.ntmps18
  go_upto_region 3 with fail
  obtain ⟨w1,hw1⟩ : ∃ w1,w1 = w.alloc (.cells #[u32v limit,iv itv,iv span,iv fut,iv idx,iv orp,.slice A m c] 25):=⟨_,rfl⟩
  have HP1 : Hid (Blk w1 w.heap.size 25 [u32v limit,iv itv,iv span,iv fut,iv idx,iv orp,.slice A m c]):=by rw [hw1];exact Lib.hid (Blk.new w 25 [u32v limit,iv itv,iv span,iv fut,iv idx,iv orp,.slice A m c])
  have HK1 : Hid (Keep w w1):=by rw [hw1];exact Lib.hid (keep_new _ _)
  rw [← hw1]
  clear hw1
  have p1:=HP1.out.cell 1
  simp only [List.getElem?_cons_succ,List.getElem?_cons_zero] at p1
  have hst : (storeCells ⟨w1.heap.size,0,none⟩ c1.toList 0).run Tryz.prog (w1.alloc (.cells zs 30)) = .ok () (w1.alloc (.cells c1 30)):=run_storeCells_new (P:=Tryz.prog) w1 30 zs c1 i1 (hz1.trans z1.symm) (by have:=all_oneCell_toArray o1.out;rwa [Array.toArray_toList] at this)
  have RA : Hid (w1.rangeAt b (off + k * 68) c1.toList):=Lib.hid fun j v hv => keep_cell HK1.out (R1.out j v hv)
  go_wp2_with fail
  refine (F1.out _).mono ?_
  clear F1
  rintro e w2 ⟨rfl,rfl⟩
  go_upto_region 4 with ((with_reducible refine load_partg b (off + k * 68) c1 (Eq.trans ?_ rfl) RA.out _ Tryz.underlying30 rfl i1 rfl ?_);rfl)
  obtain ⟨j,hj⟩ : ∃ j,n - 1 = j:=⟨_,rfl⟩
  have hj2 : (n : Int) - 1 = j:=by omega
  rw [hj] at R2 hkl2
  obtain ⟨w3,hw3⟩ : ∃ w3,w3 = w2.alloc (.cells c1 30):=⟨_,rfl⟩
  have k3 : Keep w2 w3:=by rw [hw3];exact keep_new _ _
  have HP3 : Hid (Blk w3 w.heap.size 25 [u32v limit,iv itv,iv span,iv fut,iv idx,iv orp,.slice A m c]):=by rw [hw3];exact Lib.hid (HP1.out.alloc _)
  have HH3 : Hid (Blk w3 w2.heap.size 30 c1.toList):=by rw [hw3];exact Lib.hid (Blk.new w2 30 c1.toList)
  rw [← hw3]
  clear hw3 hst p1 hj
  have HK3:=Lib.hid (keep_trans HK1.out k3)
  generalize w2.heap.size = g at *
  clear k3 RA HP1 HK1 R1
  refine wp_region_tree (.take [0,1,2,3,4,5,6,7,8,9,10] (.force [11] (.take [12] .done))) [] (by kernel_rfl) (by kernel_rfl) (fun w9 k9 => ?_)
  have HB9:=HP3.out.keep k9
  have HG9:=HH3.out.keep k9
  have HK9:=Lib.hid (keep_trans HK3.out k9)
  have RA : Hid (w9.rangeAt b (off + j * 68) c2.toList):=Lib.hid fun i v hv => keep_cell HK9.out (R2.out i v hv)
  have q0:=aft_cell (HB9.cell 0)
  have q1:=aft_cell (HB9.cell 1)
  have q2:=aft_cell (HB9.cell 2)
  have q3:=aft_cell (HB9.cell 3)
  have q4:=aft_cell (HB9.cell 4)
  have q5:=aft_cell (HB9.cell 5)
  have q6:=aft_cell (HB9.cell 6)
  have q7:=aft_cell ((HG9.cell 65).trans Ht.out)
  clear HB9 HG9 HP3 HH3 HK3 Ht R2 k9
  refine mt_take w9 (Below.refl _ _) ?_
  simp only [pick_cons,pick_nil,nth_zero,nth_succ]
  repeat (first
   | ((with_reducible refine wpQuiet_load_partg b (off + j * 68) c2 (Eq.trans ?_ rfl) RA.out _ Tryz.underlying30 rfl i2 rfl ?_);rfl;simp only [Act.put,Array.set!_eq_setIfInBounds,List.setIfInBounds_toArray,List.set_cons_succ,List.set_cons_zero])
   | go_big_quiet_step (fail))
  refine wpQuiet_nil ?_
  clear q0 q1 q2 q3 q4 q5 q6 q7
  refine mt_force ?_
  simp only [pick_cons,pick_nil,nth_zero,nth_succ]
  refine fc_step rfl (fun K hK => ?_)
  go_simp
  (with_reducible refine (N1.out _).mono ?_)
  rintro e w4 ⟨rfl,k4⟩
  refine hK _ _ k4 ?_
  clear hK K
  refine fc_nil ?_
  refine mt_take _ (Below.refl _ _) ?_
  simp only [pick_cons,pick_nil,nth_zero,nth_succ]
  repeat (go_big_quiet_step (fail))
  refine wpQuiet_nil ?_
  refine mt_end ?_
  go_wp2
  exact bodyPost_ret (v:=u32v R) (by simp [results,Tryz.results18]) rfl ⟨rfl,keep_trans HK9.out k4⟩
end Go.Proofs.YtmbbknjddebhoaaGreatDoor
/- errors.Is of an api.Errno, and rules.wrong. -/
set_option linter.unusedSimpArgs false
set_option linter.unusedVariables false
namespace Go.Proofs.YtmbbknjddebhoaaGreatDoor
open Go.RowKit Go.Extern.Stop Go.Stop Go.Extern
attribute [local go_sem ↓] Go.wp_at_zero Go.wp_at_succ
theorem errno_comp : (Tryz.prog.info? 32).map (·.comparable) = some true:=by kernel_rfl
theorem ei_typeOf (v : Value) (w : World) : (Extern.ReflectliteType.typeOf #[.iface 32 v]).run Tryz.prog w = .ok (.iface 110 (.agg #[.pointer (some ⟨4,32,none⟩)])) w:=by kernel_rfl
def compE : Array Value → Sem Value := Extern.ReflectliteType.method fun t => do Extern.Rtype.noPackHeld "Comparable" t; pure (.bool (← typeInfo t).comparable)
theorem ei_comparable (w : World) : (compE #[.agg #[.pointer (some ⟨4,32,none⟩)]]).run Tryz.prog w = .ok (.bool true) w:=by kernel_rfl
theorem ei_method (v : Value) (w : World) : (Go.method 294 110 v "Comparable").run Tryz.prog w = .ok (135, v) w := by kernel_rfl
theorem ei_noIs (v : Value) (xT : TypeId) (w : World) : (Instr.typeAssert (.iface 32 v) xT 112 true).run Tryz.prog w = .ok (.tuple #[.nilIface,.bool false]) w:=run_typeAssert_lacksB Tryz.underlying112 (by kernel_rfl) (by kernel_rfl) v xT w
theorem ei_noUn (v : Value) (xT : TypeId) (w : World) : (Instr.typeAssert (.iface 32 v) xT 115 true).run Tryz.prog w = .ok (.tuple #[.nilIface,.bool false]) w:=run_typeAssert_lacksB Tryz.underlying115 (by kernel_rfl) (by kernel_rfl) v xT w
theorem ei_noUns (v : Value) (xT : TypeId) (w : World) : (Instr.typeAssert (.iface 32 v) xT 117 true).run Tryz.prog w = .ok (.tuple #[.nilIface,.bool false]) w:=run_typeAssert_lacksB Tryz.underlying117 (by kernel_rfl) (by kernel_rfl) v xT w
set_option maxRecDepth 100000 in
set_option maxHeartbeats 4000000 in
theorem errors_Is (e : Int) (w : World) : Calls Tryz.prog 32 #[.iface 32 (.int .i64 e),.iface 32 (.int .i64 0)] w fun x w' => x = .returned (.bool (e == 0))∧w' = w:=by
 have h8:=@run_callFunc_extern Tryz.prog 51 _ Extern.ReflectliteType.typeOf Tryz.func51 (by kernel_rfl) (by kernel_rfl) (by kernel_rfl) (by kernel_rfl)
 have h32:=@run_callFunc_extern Tryz.prog 135 _ compE Tryz.func135 (by kernel_rfl) (by kernel_rfl) (by kernel_rfl) (by kernel_rfl)
 have tT:=ei_typeOf
 have cT:=ei_comparable
 have mR:=ei_method
 have nE:=ei_noIs
 have uE:=ei_noUn
 have vE:=ei_noUns
 have heq:=Lib.run_eql_iface_int (P:=Tryz.prog) w (k:=.i64) e 0 Tryz.underlying80 errno_comp Tryz.underlying32
 go_enter Tryz.func32,Tryz.ntmps32
 by_cases h0 : e = 0
 ·subst h0
  have hb : ((0 : Int) == 0) = true:=rfl
  rw [hb] at heq
  go_wp2
  refine wp_loop_rounds 1 ?_
  rw [rounds_succ]
  go_wp2
  go_ret
  exact ⟨rfl,rfl⟩
 ·have hb : (e == 0) = false:=by simp [h0]
  rw [hb] at heq ⊢
  clear h0
  go_wp2
  refine wp_loop_rounds 1 ?_
  rw [rounds_succ]
  go_wp2
  go_ret
  exact ⟨rfl,rfl⟩
set_option maxRecDepth 100000 in
set_option maxHeartbeats 4000000 in
theorem wrong_any (e : Int) (w : World) : Calls Tryz.prog 16 #[.int .i64 e] w fun x w' => x = .returned (.bool (e != 0))∧w' = w:=by
 go_enter Tryz.func16,Tryz.ntmps16
 go_wp2_with fail
 refine (errors_Is e _).mono ?_
 rintro x w' ⟨rfl,rfl⟩
 go_wp2
 exact bodyPost_ret (v:=.bool (e != 0)) (by simp [results,Tryz.results16,bne]) rfl ⟨rfl,rfl⟩
end Go.Proofs.YtmbbknjddebhoaaGreatDoor
/- header.Id. -/
set_option linter.unusedSimpArgs false
set_option linter.unusedVariables false
namespace Go.Proofs.YtmbbknjddebhoaaGreatDoor
open Go.RowKit
attribute [local go_sem ↓] Go.wp_at_zero Go.wp_at_succ
def idL (h : Hd) : List UInt8:=dblL (hputL h)
theorem idL_len (h : Hd) : (idL h).length = 32:=dblL_len _
set_option maxRecDepth 100000 in
set_option maxHeartbeats 2000000 in
theorem id_any (h : Hd) (cs : Array Value) (w : World) (hS : ShaOk w) (hk : h.ok) (hcs : HdA h cs) :
  Calls Tryz.prog 14 #[.agg cs] w fun e w' => ∃ ds,e = .returned (.agg ds)∧HashA (idL h) ds∧Keep w w':=by
 have hpl:=hputL_len hk
 have A1 : Hid (∀ w',Calls Tryz.prog 30 #[.agg cs] w' fun e w'' => e = .returned (.agg ((hputL h).map u8v).toArray)∧Keep w' w''):=fun w' => array_any h cs w' hk hcs
 obtain ⟨ds,hds⟩ : ∃ ds,HashA (idL h) ds:=⟨_,HashA.of (idL_len h)⟩
 have D1 : Hid (∀ (A : Option Addr) W,Keep w W → Rd W A ((hputL h).map u8v) → Calls Tryz.prog 31 #[.slice A 80 80] W fun e w' => e = .returned (.agg ds)∧Keep W w'):=Lib.hid fun A W hW hr => by
  have h1:=double_any A (hputL h) 80 W (hS.keep hW) hr (by omega) (by decide) (by omega)
  rw [hpl] at h1
  exact h1.mono fun e w'' ⟨h2,h3⟩ => ⟨by rw [h2];show Ending.returned (.agg ((dblL (hputL h)).map u8v).toArray) = _;rw [show ((dblL (hputL h)).map u8v).toArray = ds from hds.e],h3⟩
 have HI : Hid (∀ I,idL h = I → HashA I ds):=Lib.hid fun I e => by rw [← e];exact hds
 replace HI:=Lib.hid (HI.out _ rfl)
 generalize idL h = I at *
 generalize hputL h = p at *
 obtain ⟨ps,hps⟩ : ∃ ps : Array Value,ps.toList = p.map u8v:=⟨(p.map u8v).toArray,rfl⟩
 have hpz : ps.size = 80:=by rw [← Array.length_toList,hps,List.length_map,hpl]
 have hpn : ¬ ps = #[]:=by intro h;rw [h] at hpz;simp at hpz
 have hpi : (Tryz.prog.info? 55).map (·.size) = some ps.size:=by rw [hpz];kernel_rfl
 rw [show (p.map u8v).toArray = ps by rw [← hps,Array.toArray_toList]] at A1
 obtain ⟨zs,hz1,hz2,hz3⟩:=z80_letter
 obtain ⟨ys,hy1,hy2,hy3,hy4⟩:=zhash_letter
 have hst : ∀ ww : World,(storeCells ⟨ww.heap.size,0,none⟩ ps.toList 0).run Tryz.prog (ww.alloc (.cells zs 55)) = .ok () (ww.alloc (.cells ps 55)):=fun ww =>
  run_storeCells_new (P:=Tryz.prog) ww 55 zs ps hpi (hz1.trans hpz.symm) (by have:=all_oneCell_toArray (show ∀ v ∈ ps.toList,v.oneCell' = true by rw [hps];exact one_w8 _);rwa [Array.toArray_toList] at this)
 have Hps:=Lib.hid hps
 have hcz:=hcs.z;have hcn:=hcs.n;have hci:=hcs.i
 have hdz:=hds.z;have hdn:=hds.n;have hdi:=hds.i
 have Hds:=Lib.hid hds
 clear hps hcs hpl hS hds hy4
 go_enter Tryz.func14,Tryz.ntmps14
 go_upto_region 1 with fail
 obtain ⟨w1,hw1⟩ : ∃ w1,w1 = (w.alloc (.cells cs 30)).alloc (.cells ys 28):=⟨_,rfl⟩
 have Hbx : Hid (Blk w1 w.heap.size 30 cs.toList):=by rw [hw1];exact (Blk.new w _ cs.toList).alloc _
 have HR1 : Hid (Blk w1 (w.heap.size + 1) 28 ys.toList):=by
  rw [hw1]
  have h2:=Blk.new (w.alloc (.cells cs 30)) 28 ys.toList
  rw [World.size_alloc] at h2
  exact h2
 have HK1 : Hid (Keep w w1):=by rw [hw1];exact keep_trans (keep_new _ _) (keep_new _ _)
 rw [← hw1]
 clear hw1
 go_wp2_with ((with_reducible refine load_arr w.heap.size cs (Eq.trans ?_ rfl) Hbx.out _ Tryz.underlying30 rfl hci ?_);rfl)
 refine (A1.out _).mono ?_
 rintro e w2 ⟨rfl,k2⟩
 have HR2:=Lib.hid (HR1.out.keep k2);have HK2:=Lib.hid (keep_trans HK1.out k2)
 have hz2' : w.heap.size + 1 < w2.heap.size:=HR2.out.lt
 clear k2 A1 Hbx HR1 HK1
 go_upto_region 2 with fail
 clear hst
 obtain ⟨w3,hw3⟩ : ∃ w3,w3 = w2.alloc (.cells ps 55):=⟨_,rfl⟩
 have HP3 : Hid (Blk w3 w2.heap.size 55 (p.map u8v)):=by rw [hw3,← Hps.out];exact Blk.new w2 _ ps.toList
 have HR3 : Hid (Blk w3 (w.heap.size + 1) 28 ys.toList):=by rw [hw3];exact HR2.out.alloc _
 have HK3 : Hid (Keep w w3):=by rw [hw3];exact keep_trans HK2.out (keep_new _ _)
 rw [← hw3]
 clear hw3 HR2 HK2
 generalize w2.heap.size = B at *
 go_wp2_with fail
 refine (D1.out _ _ HK3.out HP3.out.rd).mono ?_
 rintro e w4 ⟨rfl,k4⟩
 have HR4:=Lib.hid (HR3.out.keep k4);have HK4:=Lib.hid (keep_trans HK3.out k4)
 clear k4 HP3 HR3 HK3 D1
 obtain ⟨w5,hst5,hb5,hg5⟩:=run_store_blk (P:=Tryz.prog) ds.toList HR4.out (by simp [hy1,hdz]) Hds.out.o
 have Hb5:=Lib.hid hb5;have Hg5:=Lib.hid hg5
 clear hb5 hg5
 go_wp2
 have hb5:=Hb5.out
 exact bodyPost_ret (v:=.agg ds) (results_cell_row Tryz.results14 _ _ (w.heap.size + 1) _ _ _ (.array 32 5) rfl hb5 hash_under rfl (by rw [List.size_toArray,Array.length_toList];exact hdi)) rfl ⟨ds,rfl,HI.out,HK4.out.grown Hg5.out HK4.out.size (fun q hq => by injection hq with hq;omega)⟩
end Go.Proofs.YtmbbknjddebhoaaGreatDoor
/- header.Mine, where a nonce is found. -/
set_option linter.unusedSimpArgs false
set_option linter.unusedVariables false
namespace Go.Proofs.YtmbbknjddebhoaaGreatDoor
open Go.RowKit
attribute [local go_sem ↓] Go.wp_at_zero Go.wp_at_succ
def Hd.bump (h : Hd) (k : Nat) : Hd:=⟨h.ver,h.prev,h.root,h.time,h.bits,h.nonce + UInt32.ofNat k⟩
theorem bump_ok {h : Hd} (hk : h.ok) (k : Nat) : (h.bump k).ok:=hk
theorem bump_zero (h : Hd) : h.bump 0 = h:=by cases h;simp [Hd.bump]
theorem bump_succ (h : Hd) (k : Nat) : (h.bump (k + 1)).nonce = w32 (((h.bump k).nonce.toNat + 1 : Int) % 4294967296):=by
 apply UInt32.toNat.inj
 have e : (w32 (((h.bump k).nonce.toNat + 1 : Int) % 4294967296)).toNat = ((h.bump k).nonce.toNat + 1) % 4294967296:=by
  unfold w32;rw [UInt32.toNat_ofNat'];omega
 rw [e]
 simp only [Hd.bump,UInt32.toNat_add,UInt32.toNat_ofNat']
 omega
theorem bump_cells {h : Hd} (hk : h.ok) (k : Nat) : (h.bump k).cells.set 67 (u32v (h.bump (k + 1)).nonce) = (h.bump (k + 1)).cells:=by
 have e1 : (h.bump k).cells = (u32v h.ver :: (h.prev.map u8v ++ (h.root.map u8v ++ [u32v h.time,u32v h.bits]))) ++ [u32v (h.bump k).nonce]:=by simp [Hd.cells,Hd.bump]
 have e2 : (h.bump (k + 1)).cells = (u32v h.ver :: (h.prev.map u8v ++ (h.root.map u8v ++ [u32v h.time,u32v h.bits]))) ++ [u32v (h.bump (k + 1)).nonce]:=by simp [Hd.cells,Hd.bump]
 have hl : (u32v h.ver :: (h.prev.map u8v ++ (h.root.map u8v ++ [u32v h.time,u32v h.bits]))).length = 67:=by simp [hk.1,hk.2]
 rw [e1,e2,List.set_append_right _ _ (by rw [hl];omega),hl]
 rfl
set_option maxRecDepth 100000 in
set_option maxHeartbeats 4000000 in
theorem mine_any (h : Hd) (cs : Array Value) (limit : UInt32) (tries : Int) (k : Nat) (w : World) (hS : ShaOk w) (hk : h.ok) (hcs : HdA h cs) (ht : (k : Int) < tries) (ht2 : tries ≤ 4096)
  (m1 : ∀ j,j < k → meetN (leN (idL (h.bump j))) h.bits limit ≠ 0) (m2 : meetN (leN (idL (h.bump k))) h.bits limit = 0) :
  Calls Tryz.prog 13 #[.agg cs,u32v limit,.int .i64 tries] w fun e w' => ∃ ds,e = .returned (.tuple #[.agg ds,.bool true])∧HdA (h.bump k) ds∧Keep w w':=by
 have I1 : Hid (∀ j cs y,Keep w y → HdA (h.bump j) cs → Calls Tryz.prog 14 #[.agg cs] y fun e w' => ∃ ds,e = .returned (.agg ds)∧HashA (idL (h.bump j)) ds∧Keep y w'):=Lib.hid fun j cs y hy hc => id_any (h.bump j) cs y (hS.keep hy) (bump_ok hk j) hc
 have M1 : Hid (∀ j,∃ m : Int,(j < k → m ≠ 0)∧(j = k → m = 0)∧∀ ds y,HashA (idL (h.bump j)) ds → Calls Tryz.prog 19 #[.agg ds,u32v h.bits,u32v limit] y fun e w' => e = .returned (.int .i64 m)∧Keep y w'):=Lib.hid fun j =>
  ⟨_,m1 j,fun e => by rw [e];exact m2,fun ds y hd => meets_any (idL (h.bump j)) ds h.bits limit y (idL_len _) hd⟩
 clear m1 m2
 obtain ⟨zs,hz1,hz2,hz3,hz4⟩:=zhead_letter
 have hcz:=hcs.z;have hcn:=hcs.n;have hci:=hcs.i
 have Hcs:=Lib.hid hcs;have Hk:=Lib.hid hk
 have hmx : max tries 0 = tries:=by omega
 have hmn : min tries 4096 = tries:=by omega
 clear hcs hk hS hz4
 have hst : ∀ ww : World,(storeCells ⟨ww.heap.size,0,none⟩ cs.toList 0).run Tryz.prog (ww.alloc (.cells zs 30)) = .ok () (ww.alloc (.cells cs 30)):=fun ww => run_storeCells_new (P:=Tryz.prog) ww 30 zs cs Hcs.out.i (hz1.trans hcz.symm) (by have:=all_oneCell_toArray Hcs.out.o;rwa [Array.toArray_toList] at this)
 go_enter Tryz.func13,Tryz.ntmps13
 go_upto_region 1 with fail
 obtain ⟨w1,hw1⟩ : ∃ w1,w1 = (w.alloc (.cells cs 30)).alloc (.cells zs 30):=⟨_,rfl⟩
 have Hbx : Hid (Blk w1 w.heap.size 30 cs.toList):=by rw [hw1];exact (Blk.new w _ cs.toList).alloc _
 have HR1 : Hid (Blk w1 (w.heap.size + 1) 30 zs.toList):=by
  rw [hw1]
  have h2:=Blk.new (w.alloc (.cells cs 30)) 30 zs.toList
  rw [World.size_alloc] at h2
  exact h2
 have HK1 : Hid (Keep w w1):=by rw [hw1];exact keep_trans (keep_new _ _) (keep_new _ _)
 rw [← hw1]
 clear hw1
 have hz1w : w.heap.size + 1 < w1.heap.size:=HR1.out.lt
 go_upto_region 2 with ((with_reducible refine load_arr w.heap.size cs (Eq.trans ?_ rfl) Hbx.out _ Tryz.underlying30 rfl hci ?_);rfl)
 obtain ⟨w3,hw3⟩ : ∃ w3,w3 = w1.alloc (.cells cs 30):=⟨_,rfl⟩
 have HM3 : Hid (Blk w3 w1.heap.size 30 (h.bump 0).cells):=by rw [hw3,bump_zero,← Hcs.out.l];exact Blk.new w1 _ cs.toList
 have HR3 : Hid (Blk w3 (w.heap.size + 1) 30 zs.toList):=by rw [hw3];exact HR1.out.alloc _
 have HK3 : Hid (Keep w w3):=by rw [hw3];exact keep_trans HK1.out (keep_new _ _)
 rw [← hw3]
 clear hw3 HR1 HK1 Hbx hst
 generalize w1.heap.size = M at *
 go_wp2_with fail
 go_loopw [13] (fun i wr => ∃ j : Nat,j ≤ k∧i = .int .i64 (j : Int)∧Hid (Blk wr M 30 (h.bump j).cells)∧Hid (Blk wr (w.heap.size + 1) 30 zs.toList)∧Hid (Keep w wr)) (fun i _ => (4096 - intOf i).toNat)
 case atStart => exact ⟨0,by omega,rfl,HM3,HR3,HK3⟩
 case round =>
  obtain ⟨j,hj,rfl,HM,HR,HK⟩:=hrel
  have i1 : (j : Int) < tries:=by omega
  obtain ⟨hv,hhv⟩ : ∃ hv,HdA (h.bump j) hv:=⟨_,HdA.of (bump_ok Hk.out j)⟩
  have hvz:=hhv.z;have hvn:=hhv.n;have hvi:=hhv.i
  have Hhv:=Lib.hid hhv
  obtain ⟨m,mm1,mm2,mm3⟩:=M1.out j
  have Mm1:=Lib.hid mm1;have Mm2:=Lib.hid mm2;have Mm3:=Lib.hid mm3
  clear hhv mm1 mm2 mm3
  go_upto_region 4 with fail
  refine wp_region_tree (.take [0,2,3,4] (.force [1,5] (.take [6] .done))) [] (by kernel_rfl) (by kernel_rfl) (fun w9 k9 => ?_)
  have HM9:=Lib.hid (HM.out.keep k9);have HR9:=Lib.hid (HR.out.keep k9);have HK9:=Lib.hid (keep_trans HK.out k9)
  have c66:=aft_cell (show w9.cell? ⟨M,66,none⟩ = some (u32v h.bits) from hd_cell66 (h:=h.bump j) HM9.out (bump_ok Hk.out j))
  have Hrg : Hid (w9.rangeAt M 0 hv.toList):=Lib.hid (range_of HM9.out 0 hv.toList (by rw [Hhv.out.l,List.drop_zero,List.take_of_length_le (Nat.le_refl _)]))
  clear k9 HM HR HK
  refine mt_take w9 (Below.refl _ _) ?_
  simp only [pick_cons,pick_nil,nth_zero,nth_succ]
  (with_reducible refine wpQuiet_load_partg M 0 hv (Eq.trans ?_ rfl) Hrg.out _ Tryz.underlying30 rfl hvi (Eq.trans ?_ rfl) ?_)
  rfl
  rfl
  simp only [Act.put,Array.set!_eq_setIfInBounds,List.setIfInBounds_toArray,List.set_cons_succ,List.set_cons_zero]
  repeat (go_big_quiet_step (fail))
  refine wpQuiet_nil (mt_force ?_)
  simp only [pick_cons,pick_nil,nth_zero,nth_succ]
  refine fc_step rfl (fun K hK => ?_)
  go_simp
  (with_reducible refine (I1.out j hv w9 HK9.out Hhv.out).mono ?_)
  rintro e wa ⟨ds,rfl,hds,ka⟩
  refine hK _ _ ka ?_
  have HMa:=Lib.hid (HM9.out.keep ka);have HRa:=Lib.hid (HR9.out.keep ka);have HKa:=Lib.hid (keep_trans HK9.out ka)
  have Hds:=Lib.hid hds
  clear hK K c66 ka hds Hrg HM9 HR9 HK9
  refine fc_step rfl (fun K hK => ?_)
  go_simp
  (with_reducible refine (Mm3.out ds wa Hds.out).mono ?_)
  rintro e wb ⟨rfl,kb⟩
  refine hK _ _ kb ?_
  have HMb:=Lib.hid (HMa.out.keep kb);have HRb:=Lib.hid (HRa.out.keep kb);have HKb:=Lib.hid (keep_trans HKa.out kb)
  clear hK K kb HMa HRa HKa Hds Mm3
  refine fc_nil (mt_take wb (Below.refl _ _) ?_)
  simp only [pick_cons,pick_nil,nth_zero,nth_succ]
  repeat (go_big_quiet_step (fail))
  refine wpQuiet_nil (mt_end ?_)
  by_cases hjk : j = k
  ·obtain rfl : m = 0:=Mm2.out hjk
   obtain ⟨w8,hst8,hb8,hg8⟩:=run_store_blk (P:=Tryz.prog) hv.toList HRb.out (by simp [hz1,hvz]) Hhv.out.o
   have Hb8:=Lib.hid hb8;have Hg8:=Lib.hid hg8
   have HMb' : Hid (Blk wb M 30 hv.toList):=by rw [Hhv.out.l];exact HMb.out
   subst hjk
   clear hb8 hg8 Mm1 Mm2
   go_wp2_with ((with_reducible refine load_arr M hv (Eq.trans ?_ rfl) HMb'.out _ Tryz.underlying30 rfl hvi ?_);rfl)
   have hb8:=Hb8.out
   exact bodyPost_ret (v:=.tuple #[.agg hv,.bool true]) (results_cell_tmp_row Tryz.results13 _ _ (w.heap.size + 1) _ _ _ _ rfl hb8 Tryz.underlying30 rfl (by rw [List.size_toArray,Array.length_toList];exact hvi)) rfl ⟨hv,rfl,Hhv.out,HKb.out.grown Hg8.out HKb.out.size (fun q hq => by injection hq with hq;omega)⟩
  ·have hm0:=Mm1.out (by omega)
   have d1 : (m == 0) = false:=by simp [hm0]
   have c67:=hd_cell67 HMb.out (bump_ok Hk.out j)
   have f67:=HMb.out.frozen 67
   have hn32:=(h.bump j).nonce.toNat_lt
   have HB:=Lib.hid (bump_succ h j);have HC:=Lib.hid (bump_cells Hk.out j)
   generalize (h.bump j).nonce = nn at *
   clear Mm1 Mm2 hm0
   go_wp2
   go_roundw
   case rel =>
    have e : Value.int .u32 (((nn.toNat : Int) + 1) % 4294967296) = u32v (h.bump (j + 1)).nonce:=by
     rw [HB.out]
     unfold u32v
     rw [← w32_of (by omega) (by omega)]
    rw [e]
    refine ⟨j + 1,by omega,by go_num,Lib.hid ?_,Lib.hid (HRb.out.far (by simp;omega) _),Lib.hid (Below.setCell HKb.out (by simp;omega) _)⟩
    have h1:=HMb.out.set_ 67 (u32v (h.bump (j + 1)).nonce)
    rw [HC.out] at h1
    exact h1
   case measure => simp [intOf];omega
end Go.Proofs.YtmbbknjddebhoaaGreatDoor
/- rules.Point. -/
set_option linter.unusedSimpArgs false
set_option linter.unusedVariables false
namespace Go.Proofs.YtmbbknjddebhoaaGreatDoor
open Go.RowKit
attribute [local go_sem ↓] Go.wp_at_zero Go.wp_at_succ
theorem zhash_Br : Tryz.prog.built 28 [] = some zhash:=by kernel_rfl
theorem list_buildr {P : Program} {w : World} {ops : Array Oper} {rest : List Oper} {a : Act} {Q : Exit → Act → World → Prop} {parts : Array (Nat × Operand)} {dst : Option Tmp} {t ty' : TypeId} {pos : String} {af : Array Edge}
  (ps : List (Nat × Value)) (cells : Array Value) (hx : (parts.toList.map fun p => (p.1,a.eval p.2)) = ps) (hb : P.built t ps = some cells)
  (h : wpList P ops Q rest (a.put dst (.agg cells)) w) : wpList P ops Q ({ dst:=dst,op:=.build t parts,type:=ty',pos:=pos,after:=af,guard:=none } :: rest) a w :=
 wpList_plain rfl fun _ hK => wp_build t parts rfl (by rw [show (parts.map fun (i,x) => (i,a.eval x)).toList = ps by rw [Array.toList_map];exact hx,hb];rfl) (by rw [show (parts.map fun (i,x) => (i,a.eval x)).toList = ps by rw [Array.toList_map];exact hx,hb];exact hK _ _ h)
def chkC (x : Int × List UInt8) : List Value:=iv x.1 :: x.2.map u8v
theorem chkC_len {x : Int × List UInt8} (h : x.2.length = 32) : (chkC x).length = 33:=by simp [chkC,h]
theorem chkC_one (x : Int × List UInt8) : ∀ v ∈ chkC x,v.oneCell' = true:=by
 intro v hv
 rcases List.mem_cons.1 hv with rfl | hv
 ·rfl
 ·exact one_w8 _ v hv
def Chks (p : Par) (A : Option Addr) (w : World) : Prop:=Rd w A (p.chks.flatMap chkC)∧(∀ x ∈ p.chks,x.2.length = 32)∧p.chks.length ≤ 1000
theorem Chks.keep {p : Par} {A : Option Addr} {w w' : World} (h : Chks p A w) (hk : Keep w w') : Chks p A w':=⟨h.1.keep hk,h.2⟩
theorem chks_at {p : Par} {w : World} {A : Option Addr} (hr : Chks p A w) {k : Nat} (h : k < p.chks.length) :
  ∃ b off,A = some ⟨b,off,none⟩∧b < w.heap.size∧w.rangeAt b (off + k * 33) (chkC p.chks[k]):=by
 have hlen : ∀ a ∈ p.chks,(chkC a).length = 33:=fun a ha => chkC_len (hr.2.1 a ha)
 obtain ⟨b,off,rfl,hb,F⟩:=hr.1.at (k:=k * 33) (by rw [flatMap_len' _ 33 _ hlen];omega)
 refine ⟨b,off,rfl,hb,fun j v hv => ?_⟩
 have hj : j < 33:=by rw [← hlen p.chks[k] (List.getElem_mem h)];exact (List.getElem?_eq_some_iff.1 hv).1
 have hg:=flatMap_get' chkC 33 p.chks hlen k j h hj
 have hlt : k * 33 + j < (p.chks.flatMap chkC).length:=by rw [flatMap_len' _ 33 _ hlen];omega
 have hc:=F (k * 33 + j) hlt
 rw [Nat.add_assoc,hc,← hv,← hg,List.getElem?_eq_getElem hlt]
noncomputable def zchk : Array Value:=match (Tryz.prog.info? 46).bind (·.zero) with | some (.agg c) => c | _ => #[]
theorem zchk_size : zchk.size = 33:=by kernel_rfl
theorem zchk_zero (w : World) : (zeroValue 46).run Tryz.prog w = .ok (.agg zchk) w:=by kernel_rfl
theorem chk_size : (Tryz.prog.info? 46).map (·.size) = some 33:=by kernel_rfl
def pointR (p : Par) (n : Int) : Option (List UInt8):=(p.chks.find? fun x => x.1 == n).map (·.2)
def pointH (p : Par) (n : Int) : List UInt8:=(pointR p n).getD (List.replicate 32 0)
set_option maxRecDepth 100000 in
set_option maxHeartbeats 4000000 in
theorem point_any (p : Par) (A : Option Addr) (c : Nat) (n : Int) (w : World) (hr : Chks p A w) :
  Calls Tryz.prog 7 #[parV p A c,iv n] w fun e w' => ∃ cs,e = .returned (.tuple #[.agg cs,.bool (pointR p n).isSome])∧HashA (pointH p n) cs∧Keep w w':=by
 obtain ⟨zs,hzs⟩ : ∃ zs,zs = zhash:=⟨_,rfl⟩
 have hz1 : zs.size = 32:=by rw [hzs];exact zhash_size
 have hz2 : ∀ w,(zeroValue 28).run Tryz.prog w = .ok (.agg zs) w:=fun w => by rw [hzs];exact zhash_zero w
 have hz3 : ¬ zs = #[]:=fun h => by rw [h] at hz1;cases hz1
 have hz4 : Hid (zs.toList = (List.replicate 32 (0 : UInt8)).map u8v):=Lib.hid (by rw [hzs];exact zhash_list)
 have hz5 : Hid (Tryz.prog.built 28 [] = some zs):=Lib.hid (by rw [hzs];exact zhash_Br)
 clear hzs
 obtain ⟨ys,hys⟩ : ∃ ys,ys = zchk:=⟨_,rfl⟩
 have hy1 : ys.size = 33:=by rw [hys];exact zchk_size
 have hy2 : ∀ w,(zeroValue 46).run Tryz.prog w = .ok (.agg ys) w:=fun w => by rw [hys];exact zchk_zero w
 have hy3 : ¬ ys = #[]:=fun h => by rw [h] at hy1;cases hy1
 clear hys
 have HAT : Hid (∀ k (h : k < p.chks.length),∃ b off,A = some ⟨b,off,none⟩∧w.rangeAt b (off + k * 33) (chkC p.chks[k])∧p.chks[k].2.length = 32):=Lib.hid fun k h => by
  obtain ⟨b,off,h1,-,h2⟩:=chks_at hr h
  exact ⟨b,off,h1,h2,hr.2.1 _ (List.getElem_mem h)⟩
 have hl : p.chks.length ≤ 1000:=hr.2.2
 have HP : Hid (∀ r hsh,(pointR p n).isSome = r → pointH p n = hsh → r = ((p.chks.find? fun x => x.1 == n).map (·.2)).isSome∧hsh = ((p.chks.find? fun x => x.1 == n).map (·.2)).getD (List.replicate 32 0)):=Lib.hid fun r hsh e1 e2 => by subst e1 e2;exact ⟨rfl,rfl⟩
 replace HP:=Lib.hid (HP.out _ _ rfl rfl)
 clear hr
 generalize (pointR p n).isSome = R at *
 generalize pointH p n = H at *
 unfold parV
 generalize p.chks = L at *
 generalize p.limit = limit at *
 generalize p.itv = itv at *
 generalize p.span = span at *
 generalize p.fut = fut at *
 generalize p.idx = idx at *
 generalize p.orp = orp at *
 clear p
 go_enter Tryz.func7,Tryz.ntmps7
 go_upto_region 1 with fail
 obtain ⟨w1,hw1⟩ : ∃ w1,w1 = (w.alloc (.cells #[u32v limit,iv itv,iv span,iv fut,iv idx,iv orp,.slice A L.length c] 25)).alloc (.cells zs 28):=⟨_,rfl⟩
 have HP1 : Hid (Blk w1 w.heap.size 25 [u32v limit,iv itv,iv span,iv fut,iv idx,iv orp,.slice A L.length c]):=by rw [hw1];exact Lib.hid ((Blk.new w 25 [u32v limit,iv itv,iv span,iv fut,iv idx,iv orp,.slice A L.length c]).alloc _)
 have HR1 : Hid (Blk w1 (w.heap.size + 1) 28 zs.toList):=by
  rw [hw1]
  have h2:=Blk.new (w.alloc (.cells #[u32v limit,iv itv,iv span,iv fut,iv idx,iv orp,.slice A L.length c] 25)) 28 zs.toList
  rw [World.size_alloc] at h2
  exact Lib.hid h2
 have HK1 : Hid (Keep w w1):=by rw [hw1];exact Lib.hid (keep_trans (keep_new _ _) (keep_new _ _))
 rw [← hw1]
 clear hw1
 have p6:=HP1.out.cell 6
 simp only [List.getElem?_cons_succ,List.getElem?_cons_zero] at p6
 go_wp2_with fail
 clear p6 HP1
 go_loopw [11] (fun i wr => ∃ k : Nat,k ≤ L.length∧i = .int .i64 k∧Hid ((L.take k).find? (fun x => x.1 == n) = none)∧Hid (Blk wr (w.heap.size + 1) 28 zs.toList)∧Hid (Keep w wr)) (fun i _ => L.length - (intOf i).toNat)
 case atStart => exact ⟨0,Nat.zero_le _,rfl,Lib.hid rfl,HR1,HK1⟩
 case round =>
  obtain ⟨k,hk,rfl,hno,HR,HK⟩:=hrel
  by_cases hlt : k < L.length
  ·obtain ⟨b,off,rfl,hrg,hh⟩:=HAT.out k hlt
   have RA : Hid (wr.rangeAt b (off + k * 33) (chkC L[k]).toArray.toList):=Lib.hid fun j v hv => keep_cell HK.out (hrg j v hv)
   have hone:=chkC_one L[k]
   have hsz:=chkC_len hh
   have hf : (L.take (k + 1)).find? (fun x => x.1 == n) = if L[k].1 = n then some L[k] else none:=by
    rw [List.take_succ_eq_append_getElem hlt,List.find?_append,hno.out,Option.none_or]
    simp only [List.find?_cons,List.find?_nil,beq_iff_eq]
    by_cases e : L[k].1 = n
    ·simp [e]
    ·have e2 : (L[k].1 == n) = false:=by simpa using e
     simp [e,e2]
   have hall : (L.find? fun x => x.1 == n) = (((L.take (k + 1)).find? fun x => x.1 == n).or ((L.drop (k + 1)).find? fun x => x.1 == n)):=by
    rw [← List.find?_append,List.take_append_drop]
   have HF:=Lib.hid hf;have HL:=Lib.hid hall
   clear hf hall hrg
   generalize L[k] = x at *
   obtain ⟨m,hsh⟩:=x
   simp only at hh HF
   obtain ⟨ck,hck⟩ : ∃ ck,(chkC (m,hsh)).toArray = ck:=⟨_,rfl⟩
   have hcl : ck.toList = iv m :: hsh.map u8v:=by rw [← hck];rfl
   have hc1 : ck.size = 33:=by rw [← hck,List.size_toArray,hsz]
   have hc2 : (Tryz.prog.info? 46).map (·.size) = some ck.size:=by rw [hc1];exact chk_size
   have hc3 : ¬ ck = #[]:=fun h => by rw [h] at hc1;cases hc1
   have hc4:=Lib.hid (show ∀ v ∈ ck.toList,v.oneCell' = true by rw [← hck];exact hone)
   rw [hck] at RA
   have hst : (storeCells ⟨wr.heap.size,0,none⟩ ck.toList 0).run Tryz.prog (wr.alloc (.cells ys 46)) = .ok () (wr.alloc (.cells ck 46)):=run_storeCells_new (P:=Tryz.prog) wr 46 ys ck hc2 (hy1.trans hc1.symm) (by have:=all_oneCell_toArray hc4.out;rwa [Array.toArray_toList] at this)
   have Hcl:=Lib.hid hcl
   have Hh:=Lib.hid hh
   clear hck hsz hone hcl hh
   go_upto_region 4 with ((with_reducible refine load_partg b (off + k * 33) ck (Eq.trans ?_ rfl) RA.out _ Tryz.underlying46 rfl hc2 rfl ?_);rfl)
   obtain ⟨w3,hw3⟩ : ∃ w3,w3 = wr.alloc (.cells ck 46):=⟨_,rfl⟩
   have HC3 : Hid (Blk w3 wr.heap.size 46 (iv m :: hsh.map u8v)):=by rw [hw3,← Hcl.out];exact Lib.hid (Blk.new wr 46 ck.toList)
   have HR3 : Hid (Blk w3 (w.heap.size + 1) 28 zs.toList):=by rw [hw3];exact Lib.hid (HR.out.alloc _)
   have HK3 : Hid (Keep w w3):=by rw [hw3];exact Lib.hid (keep_trans HK.out (keep_new _ _))
   rw [← hw3]
   clear hw3 hst RA HR HK
   have hg1 : w.heap.size + 1 < w3.heap.size:=HR3.out.lt
   generalize wr.heap.size = g at *
   have c0:=HC3.out.cell 0
   simp only [List.getElem?_cons_zero] at c0
   by_cases hmn : m = n
   ·subst hmn
    have hR:=HP.out.1
    have hH:=HP.out.2
    rw [HL.out,HF.out,if_pos rfl] at hR hH
    simp only [Option.some_or,Option.map_some,Option.isSome_some,Option.getD_some] at hR hH
    subst hR hH
    obtain ⟨hv,hhv⟩ : ∃ hv,HashA H hv:=⟨_,HashA.of Hh.out⟩
    have hvz:=hhv.z;have hvn:=hhv.n;have hvi:=hhv.i
    have Hhv:=Lib.hid hhv
    have hrg : Hid (w3.rangeAt g 1 hv.toList):=Lib.hid (range_of HC3.out 1 hv.toList (by rw [hhv.l];simp [List.take_of_length_le]))
    obtain ⟨w8,hst8,hb8,hg8⟩:=run_store_blk (P:=Tryz.prog) hv.toList HR3.out (by simp [hz1,hvz]) hhv.o
    have Hb8:=Lib.hid hb8;have Hg8:=Lib.hid hg8
    clear hb8 hg8 hhv HP HL HF hno HC3 HAT
    go_wp2_with ((with_reducible refine load_partg g 1 hv (Eq.trans ?_ rfl) hrg.out _ Tryz.underlying28 rfl hvi rfl ?_);rfl)
    have hb8:=Hb8.out
    exact bodyPost_ret (v:=.tuple #[.agg hv,.bool true]) (results_cell_tmp_row Tryz.results7 _ _ (w.heap.size + 1) _ _ _ _ rfl hb8 Tryz.underlying28 rfl (by rw [List.size_toArray,Array.length_toList];exact hvi)) rfl ⟨hv,rfl,Hhv.out,HK3.out.grown Hg8.out HK3.out.size (fun q hq => by injection hq with hq;omega)⟩
   ·have d1 : (m == n) = false:=by simp [hmn]
    have hno2:=HF.out
    rw [if_neg hmn] at hno2
    have Hno2:=Lib.hid hno2
    clear hno2 HF HL hmn
    go_wp2
    go_roundw
    case rel => exact ⟨k + 1,by omega,by go_num,Hno2,HR3,HK3⟩
    case measure => simp [intOf];omega
  ·obtain rfl : L.length = k:=by omega
   have hR:=HP.out.1
   have hH:=HP.out.2
   have hno2:=hno.out
   rw [List.take_length] at hno2
   rw [hno2] at hR hH
   simp only [Option.map_none,Option.isSome_none,Option.getD_none] at hR hH
   subst hR hH
   have hzo : ∀ v ∈ zs.toList,v.oneCell' = true:=by rw [hz4.out];exact one_w8 _
   have hzi : (Tryz.prog.info? 28).map (·.size) = some zs.size:=by rw [hz1];kernel_rfl
   obtain ⟨w8,hst8,hb8,hg8⟩:=run_store_blk (P:=Tryz.prog) zs.toList HR.out rfl hzo
   have Hb8:=Lib.hid hb8;have Hg8:=Lib.hid hg8
   have hg1 : w.heap.size + 1 < wr.heap.size:=HR.out.lt
   clear hb8 hg8 hno2 HP hno hzo HAT
   go_wp2_with ((with_reducible refine list_buildr [] zs (Eq.trans ?_ rfl) hz5.out ?_);rfl)
   have hb8:=Hb8.out
   have hza : HashA (List.replicate 32 0) zs:=by
    have h:=HashA.of (h:=List.replicate 32 (0 : UInt8)) rfl
    have e : ((List.replicate 32 (0 : UInt8)).map u8v).toArray = zs:=by rw [← hz4.out,Array.toArray_toList]
    rw [e] at h
    exact h
   exact bodyPost_ret (v:=.tuple #[.agg zs,.bool false]) (results_cell_tmp_row Tryz.results7 _ _ (w.heap.size + 1) _ _ _ _ rfl hb8 Tryz.underlying28 rfl (by rw [List.size_toArray,Array.length_toList];exact hzi)) rfl ⟨zs,rfl,hza,HK.out.grown Hg8.out HK.out.size (fun q hq => by injection hq with hq;omega)⟩
end Go.Proofs.YtmbbknjddebhoaaGreatDoor
/- florinref02: constants, Block. (printed by gen_nsb.py out of XSha) -/
set_option linter.unusedSimpArgs false
set_option linter.unusedVariables false
namespace Go.Proofs.YtmbbknjddebhoaaGreatDoor
open Go.RowKit
attribute [local go_sem ↓] Go.wp_at_zero Go.wp_at_succ
noncomputable def kps : List (Nat × Value):=kTab.zipIdx.map fun x => (x.2,u32v x.1)
noncomputable def kcs : Array Value:=(kTab.map u32v).toArray
theorem kcs_list : kcs.toList = kTab.map u32v:=by unfold kcs;rfl
theorem kcs_size : kcs.size = 64:=by kernel_rfl
theorem kcs_built : Tryz.prog.built 152 kps = some kcs:=by kernel_rfl
theorem kcs_letter : ∃ (ps : List (Nat × Value)) (ks : Array Value),ps = kps∧ks.toList = kTab.map u32v∧ks.size = 64∧Tryz.prog.built 152 ps = some ks∧ks = kcs:=⟨kps,kcs,rfl,kcs_list,kcs_size,kcs_built,rfl⟩
set_option maxRecDepth 1000000 in
set_option maxHeartbeats 4000000 in
theorem rconst_any (w : World) : Calls Tryz.prog 112 #[] w fun e w' => e = .returned (.agg kcs)∧Keep w w':=by
 obtain ⟨ps,ks,hps,hkl,hkz,hkb,hke⟩:=kcs_letter
 rw [← hke]
 have hki : (Tryz.prog.info? 152).map (·.size) = some ks.size:=by rw [hkz];kernel_rfl
 have hkn : ¬ ks = #[]:=by intro h;rw [h] at hkz;simp at hkz
 have hk1 : ks.all (·.oneCell') = true:=by
  rw [show ks = (kTab.map u32v).toArray from by rw [← hkl,Array.toArray_toList]];exact all_oneCell_toArray (one_w32 _)
 obtain ⟨zs,hzs⟩ : ∃ zs,zs = zw64:=⟨_,rfl⟩
 have hz1 : zs.size = 64:=by rw [hzs];exact zw64_size
 have hz2 : ∀ w,(zeroValue 152).run Tryz.prog w = .ok (.agg zs) w:=fun w => by rw [hzs];exact zw64_zero w
 have hz3 : ¬ zs = #[]:=fun h => by rw [h] at hz1;cases hz1
 have hst : (storeCells ⟨w.heap.size,0,none⟩ ks.toList 0).run Tryz.prog (w.alloc (.cells zs 152)) = .ok () (w.alloc (.cells ks 152)):=run_storeCells_new (P:=Tryz.prog) w 152 zs ks hki (hz1.trans hkz.symm) hk1
 have HP:=Lib.hid hps;have HB:=Lib.hid hkb
 have HN : Hid (Blk (w.alloc (.cells ks 152)) w.heap.size 152 ks.toList):=Lib.hid (Blk.new w 152 ks.toList)
 clear hzs hps hkb hkl hke hk1
 go_enter Tryz.func112,Tryz.ntmps112
 go_upto_region 1 with fail
 go_wp2_with ((with_reducible refine list_buildr ps ks (Eq.trans ?_ HP.out.symm) HB.out ?_);kernel_rfl)
 exact bodyPost_ret (v:=.agg ks) (results_cell_row Tryz.results112 _ _ w.heap.size _ _ _ _ rfl HN.out Tryz.underlying152 rfl hki) rfl ⟨rfl,keep_new _ _⟩
end Go.Proofs.YtmbbknjddebhoaaGreatDoor
/- florinref02.Block. (printed by gen_nsc.py) -/
set_option linter.unusedSimpArgs false
set_option linter.unusedVariables false
namespace Go.Proofs.YtmbbknjddebhoaaGreatDoor
open Go.RowKit
attribute [local go_sem ↓] Go.wp_at_zero Go.wp_at_succ
set_option maxRecDepth 100000 in
set_option maxHeartbeats 4000000 in
theorem rblock_any (v : H8) (A : Option Addr) (b : List UInt8) (c : Nat) (w : World) (hb : b.length = 64) (hr : Rd w A (b.map u8v)) :
  Calls Tryz.prog 101 #[v.agg,.slice A 64 c] w fun e w' => e = .returned (blockH v b).agg∧Keep w w':=by
 obtain ⟨R,hR⟩ : ∃ R,blockH v b = R:=⟨_,rfl⟩
 rw [hR]
 have HR : Hid ((rnds (wordsL b) v 64).add v = R):=hR
 clear hR
 have hwl : (wordsL b).length = 64:=by unfold wordsL;rw [wd2_len,wd1_len]
 have W1 : ∀ w',Keep w w' → Calls Tryz.prog 111 #[.slice A 64 c] w' fun e w'' => e = .returned (.agg ((wordsL b).map u32v).toArray)∧Keep w' w'':=fun w' hk => rwords_any A b c w' hb (hr.keep hk)
 generalize wordsL b = ws at *
 obtain ⟨cs,hcs⟩ : ∃ cs : Array Value,cs.toList = ws.map u32v:=⟨(ws.map u32v).toArray,rfl⟩
 have hcz : cs.size = 64:=by rw [← Array.length_toList,hcs,List.length_map,hwl]
 have hci : (Tryz.prog.info? 152).map (·.size) = some cs.size:=by rw [hcz];kernel_rfl
 have hcn : ¬ cs = #[]:=by intro h;rw [h] at hcz;simp at hcz
 have hc1 : cs.all (·.oneCell') = true:=by
  rw [show cs = (ws.map u32v).toArray from by rw [← hcs,Array.toArray_toList]];exact all_oneCell_toArray (one_w32 _)
 rw [show (ws.map u32v).toArray = cs from by rw [← hcs,Array.toArray_toList]] at W1
 have HW1:=Lib.hid W1;have Hcs:=Lib.hid hcs;clear W1 hcs hr
 obtain ⟨ps,ks,-,hkl,hkz,-,hke⟩:=kcs_letter
 have HKC : Hid (∀ y,Calls Tryz.prog 112 #[] y fun e w' => e = .returned (.agg ks)∧Keep y w'):=Lib.hid fun y => by rw [hke];exact rconst_any y
 have hki : (Tryz.prog.info? 152).map (·.size) = some ks.size:=by rw [hkz];kernel_rfl
 have hkn : ¬ ks = #[]:=by intro h;rw [h] at hkz;simp at hkz
 have hk1 : ks.all (·.oneCell') = true:=by
  rw [show ks = (kTab.map u32v).toArray from by rw [← hkl,Array.toArray_toList]];exact all_oneCell_toArray (one_w32 _)
 have Hkl:=Lib.hid hkl;clear hkl hke
 obtain ⟨zs,hzs⟩ : ∃ zs,zs = zw64:=⟨_,rfl⟩
 have hz1 : zs.size = 64:=by rw [hzs];exact zw64_size
 have hz2 : ∀ w,(zeroValue 152).run Tryz.prog w = .ok (.agg zs) w:=fun w => by rw [hzs];exact zw64_zero w
 have hz3 : ¬ zs = #[]:=fun h => by rw [h] at hz1;cases hz1
 have hst : ∀ ww : World,(storeCells ⟨ww.heap.size,0,none⟩ cs.toList 0).run Tryz.prog (ww.alloc (.cells zs 152)) = .ok () (ww.alloc (.cells cs 152)):=fun ww => run_storeCells_new (P:=Tryz.prog) ww 152 zs cs hci (hz1.trans hcz.symm) hc1
 have hst2 : ∀ ww : World,(storeCells ⟨ww.heap.size,0,none⟩ ks.toList 0).run Tryz.prog (ww.alloc (.cells zs 152)) = .ok () (ww.alloc (.cells ks 152)):=fun ww => run_storeCells_new (P:=Tryz.prog) ww 152 zs ks hki (hz1.trans hkz.symm) hk1
 clear hzs hci hc1 hki hk1
 go_enter Tryz.func101,Tryz.ntmps101
 go_upto_region 1 with fail
 obtain ⟨w1,hw1⟩ : ∃ x,x = (w.alloc (.cells #[u32v v.a,u32v v.b,u32v v.c,u32v v.d,u32v v.e,u32v v.f,u32v v.g,u32v v.h] 104)).alloc (.cells #[.int .u32 0,.int .u32 0,.int .u32 0,.int .u32 0,.int .u32 0,.int .u32 0,.int .u32 0,.int .u32 0] 104):=⟨_,rfl⟩
 have HX1 : Hid (Blk w1 w.heap.size 104 v.cells):=by rw [hw1];exact Lib.hid ((h8_blk w w.heap.size 104 v rfl).alloc _)
 have HR1 : Hid (Blk w1 (w.heap.size + 1) 104 h80.cells):=by rw [hw1];exact Lib.hid (h80_blk _ (w.heap.size + 1) 104 (by simp))
 have HK1 : Hid (Keep w w1):=by rw [hw1];exact Lib.hid (keep_trans (keep_new _ _) (keep_new _ _))
 rw [← hw1]
 clear hw1
 obtain ⟨g,hg⟩ : ∃ g,w.heap.size = g:=⟨_,rfl⟩
 have HG:=Lib.hid hg
 rw [hg] at HX1 HR1
 obtain ⟨r,hrr⟩ : ∃ r,g + 1 = r:=⟨_,rfl⟩
 rw [hrr] at HR1
 simp only [hg,hrr]
 have hgr : g < r:=by omega
 clear hg hrr
 go_upto_region 4 with (go_at_call 111;refine (HW1.out _ HK1.out).mono ?_;rintro e w2 ⟨rfl,k2⟩;have HX2:=Lib.hid (HX1.out.keep k2);have HR2:=Lib.hid (HR1.out.keep k2);have HK2:=Lib.hid (keep_trans HK1.out k2);clear k2 HW1)
 obtain ⟨w3,hw3⟩ : ∃ x,x = w2.alloc (.cells cs 152):=⟨_,rfl⟩
 have HW3 : Hid (Blk w3 w2.heap.size 152 cs.toList):=by rw [hw3];exact Lib.hid (Blk.new w2 152 cs.toList)
 have k3 : Keep w2 w3:=by rw [hw3];exact keep_new _ _
 have HX3:=Lib.hid (HX2.out.keep k3);have HR3:=Lib.hid (HR2.out.keep k3);have HK3:=Lib.hid (keep_trans HK2.out k3)
 have hlt1 : r < w2.heap.size:=HR2.out.lt
 rw [← hw3]
 clear hw3 k3 HX1 HR1 HK1 HX2 HR2 HK2 hst
 obtain ⟨W,hW⟩ : ∃ X,w2.heap.size = X:=⟨_,rfl⟩
 rw [hW] at HW3 hlt1
 simp only [hW]
 clear hW
 go_upto_region 5 with (go_at_call 112;refine (HKC.out _).mono ?_;rintro e w4 ⟨rfl,k4⟩;have HX4:=Lib.hid (HX3.out.keep k4);have HR4:=Lib.hid (HR3.out.keep k4);have HW4:=Lib.hid (HW3.out.keep k4);have HK4:=Lib.hid (keep_trans HK3.out k4);clear k4 HKC)
 obtain ⟨w5,hw5⟩ : ∃ x,x = w4.alloc (.cells ks 152):=⟨_,rfl⟩
 have HC5 : Hid (Blk w5 w4.heap.size 152 ks.toList):=by rw [hw5];exact Lib.hid (Blk.new w4 152 ks.toList)
 have k5 : Keep w4 w5:=by rw [hw5];exact keep_new _ _
 have HX5:=Lib.hid (HX4.out.keep k5);have HR5:=Lib.hid (HR4.out.keep k5);have HW5:=Lib.hid (HW4.out.keep k5);have HK5:=Lib.hid (keep_trans HK4.out k5)
 have hlt2 : W < w4.heap.size:=HW4.out.lt
 rw [← hw5]
 clear hw5 k5 HX3 HR3 HW3 HK3 HX4 HR4 HW4 HK4 hst2
 obtain ⟨C,hC⟩ : ∃ X,w4.heap.size = X:=⟨_,rfl⟩
 rw [hC] at HC5 hlt2
 simp only [hC]
 clear hC
 obtain ⟨x0,x1,x2,x3,x4,x5,x6,x7⟩:=h8 HX5.out
 go_upto_region 6 with fail
 clear x0 x1 x2 x3 x4 x5 x6 x7
 obtain ⟨w6,hw6⟩ : ∃ x,x = w5.alloc (.cells #[u32v v.a,u32v v.b,u32v v.c,u32v v.d,u32v v.e,u32v v.f,u32v v.g,u32v v.h] 104):=⟨_,rfl⟩
 have HV6 : Hid (Blk w6 w5.heap.size 104 v.cells):=by rw [hw6];exact Lib.hid (h8_blk w5 w5.heap.size 104 v rfl)
 have k6 : Keep w5 w6:=by rw [hw6];exact keep_new _ _
 have HX6:=Lib.hid (HX5.out.keep k6);have HR6:=Lib.hid (HR5.out.keep k6);have HW6:=Lib.hid (HW5.out.keep k6);have HC6:=Lib.hid (HC5.out.keep k6);have HK6:=Lib.hid (keep_trans HK5.out k6)
 have hlt3 : C < w5.heap.size:=HC5.out.lt
 rw [← hw6]
 clear hw6 k6 HX5 HR5 HW5 HC5 HK5
 obtain ⟨V,hV⟩ : ∃ X,w5.heap.size = X:=⟨_,rfl⟩
 rw [hV] at HV6 hlt3
 simp only [hV]
 clear hV
 go_wp2_with fail
 go_loopw [8] (fun i wr => ∃ k : Nat,k ≤ 64∧i = .int .i64 k∧Hid (Keep w wr)∧Hid (Blk wr g 104 v.cells)∧Hid (Blk wr r 104 h80.cells)∧Hid (Blk wr W 152 cs.toList)∧Hid (Blk wr C 152 ks.toList)∧Hid (Blk wr V 104 (rnds ws v k).cells)) (fun i _ => 64 - (intOf i).toNat)
 case atStart => exact ⟨0,by omega,rfl,HK6,HX6,HR6,HW6,HC6,HV6⟩
 case round =>
  obtain ⟨k,hk,rfl,HK,HX,HRR,HW,HC,HV⟩:=hrel
  clear HK6 HX6 HR6 HW6 HC6 HV6
  by_cases hlt : k < 64
  ·have d1 : (k : Int) < 64:=by omega
   obtain ⟨y,hy⟩ : ∃ y,ws[k]? = some y:=⟨_,List.getElem?_eq_getElem (by omega)⟩
   obtain ⟨kk,hkk⟩ : ∃ y,kTab[k]? = some y:=⟨_,List.getElem?_eq_getElem (by exact hlt)⟩
   have Hrn:=Lib.hid (show rnds ws v (k + 1) = rnd (rnds ws v k) kk y by rw [rnds,getD_of hy,getD_of hkk])
   have cw:=HW.out.cell k;rw [Hcs.out,List.getElem?_map,hy,Option.map_some] at cw
   have ck:=HC.out.cell k;rw [Hkl.out,List.getElem?_map,hkk,Option.map_some] at ck
   generalize rnds ws v k = u at HV Hrn
   obtain ⟨x0,x1,x2,x3,x4,x5,x6,x7⟩:=h8 HV.out
   clear hy hkk
   go_upto_region 9 with fail
   have a4:=aft_cell x4;have a5:=aft_cell x5;have a6:=aft_cell x6;have a7:=aft_cell x7;have aw:=aft_cell cw;have ak:=aft_cell ck
   refine wp_region_aft (by kernel_rfl) (by kernel_rfl) wr (Below.refl _ _) ?_
   repeat (go_big_quiet_step ((go_at_call 113;exact quiet_aft_same (rturn_any _ _ _ (by decide)))))
   refine wpQuiet_nil ?_
   rintro _ ⟨z,rfl⟩
   have j3:=aft_keep wr z
   generalize aft wr z = w3 at j3 ⊢
   clear a4 a5 a6 a7 aw ak cw ck x0 x1 x2 x3 x4 x5 x6 x7
   obtain ⟨x0,x1,x2,x3,x4,x5,x6,x7⟩:=h8 (HV.out.keep j3)
   have a0:=aft_cell x0;have a1:=aft_cell x1;have a2:=aft_cell x2
   go_upto_region 10 with fail
   refine wp_region_aft (by kernel_rfl) (by kernel_rfl) w3 (Below.refl _ _) ?_
   repeat (go_big_quiet_step ((go_at_call 113;exact quiet_aft_same (rturn_any _ _ _ (by decide)))))
   refine wpQuiet_nil ?_
   rintro _ ⟨z5,rfl⟩
   have j5:=aft_keep w3 z5
   generalize aft w3 z5 = w5 at j5 ⊢
   clear a0 a1 a2 x0 x1 x2 x3 x4 x5 x6 x7
   have j2:=keep_trans j3 j5
   have HK5:=Lib.hid (keep_trans HK.out j2);have HX5:=Lib.hid (HX.out.keep j2);have HR5:=Lib.hid (HRR.out.keep j2);have HW5:=Lib.hid (HW.out.keep j2);have HC5:=Lib.hid (HC.out.keep j2);have HV5:=Lib.hid (HV.out.keep j2)
   clear j2 j3 j5 HK HX HRR HW HC HV
   obtain ⟨x0,x1,x2,x3,x4,x5,x6,x7⟩:=h8 HV5.out
   have f0:=HV5.out.frozen 0;have f1:=HV5.out.frozen 1;have f2:=HV5.out.frozen 2;have f3:=HV5.out.frozen 3;have f4:=HV5.out.frozen 4;have f5:=HV5.out.frozen 5;have f6:=HV5.out.frozen 6;have f7:=HV5.out.frozen 7
   go_wp2
   go_roundw
   case rel =>
    refine ⟨k + 1,by omega,by go_num,Lib.hid ?_,Lib.hid ?_,Lib.hid ?_,Lib.hid ?_,Lib.hid ?_,Lib.hid ?_⟩
    ·iterate 8 (refine Below.setCell ?_ (by have:=HG.out;simp;omega) _)
     exact HK5.out
    ·iterate 8 (refine Blk.far ?_ (by simp;omega) _)
     exact HX5.out
    ·iterate 8 (refine Blk.far ?_ (by simp;omega) _)
     exact HR5.out
    ·iterate 8 (refine Blk.far ?_ (by simp;omega) _)
     exact HW5.out
    ·iterate 8 (refine Blk.far ?_ (by simp;omega) _)
     exact HC5.out
    ·rw [Hrn.out,rnd_cells]
     exact h8_set HV5.out _ _ _ _ _ _ _ _
   case measure => simp [intOf];omega
  ·have Hk:=Lib.hid (show k = 64 by omega)
   have d1 : ¬ (k : Int) < 64:=by omega
   generalize hu : rnds ws v k = u at HV
   have Hu:=Lib.hid hu
   clear hu HW HC
   go_wp2_with fail
   go_loopw [11] (fun i w9 => ∃ j : Nat,j ≤ 8∧i = .int .i64 j∧Hid (Keep w w9)∧Hid (Blk w9 g 104 (v.l.map u32v))∧Hid (Blk w9 r 104 h80.cells)∧Hid (Blk w9 V 104 ((addL u.l v.l j).map u32v))) (fun i _ => 8 - (intOf i).toNat)
   case atStart => exact ⟨0,by omega,rfl,HK,HX,HRR,HV⟩
   case round =>
    obtain ⟨j,hj,rfl,HK,HX,HRR,HV⟩:=hrel
    by_cases hlt : j < 8
    ·have d2 : (j : Int) < 8:=by omega
     obtain ⟨y,hy⟩ : ∃ y,v.l[j]? = some y:=⟨_,List.getElem?_eq_getElem (by exact hlt)⟩
     obtain ⟨x,hx⟩ : ∃ x,u.l[j]? = some x:=⟨_,List.getElem?_eq_getElem (by exact hlt)⟩
     have Had:=Lib.hid (show addL u.l v.l (j + 1) = (addL u.l v.l j).set j (w32 ((x.toNat + y.toNat : Int) % 4294967296)) by rw [addL,getD_of hy,getD_of hx])
     have c0:=HV.out.cell j;rw [List.getElem?_map,addL_get _ _ _ _ (Nat.le_refl _),hx,Option.map_some] at c0
     have c1:=HX.out.cell j;rw [List.getElem?_map,hy,Option.map_some] at c1
     clear hy hx
     go_upto_region 15 with fail
     refine wp_region_tree (.take [0,1,2,3,4,5,6,7,8] .done) [9] (by kernel_rfl) (by kernel_rfl) (fun w3 k3 => ?_)
     have a0:=aft_cell (keep_cell k3 c0);have a1:=aft_cell (keep_cell k3 c1)
     refine mt_take w3 (Below.refl _ _) ?_
     simp only [pick_cons,pick_nil,nth_zero,nth_succ]
     repeat (go_big_quiet_step (fail))
     refine wpQuiet_nil (mt_end ?_)
     have HK4:=Lib.hid (keep_trans HK.out k3);have HX4:=Lib.hid (HX.out.keep k3);have HR4:=Lib.hid (HRR.out.keep k3);have HV4:=Lib.hid (HV.out.keep k3)
     replace c0:=keep_cell k3 c0
     have f0:=HV4.out.frozen j
     clear a0 a1 c1 k3 HK HX HRR HV
     go_wp2
     go_roundw
     case rel =>
      refine ⟨j + 1,by omega,by go_num,Lib.hid (HK4.out.setCell (by have:=HG.out;simp;omega) _),Lib.hid (HX4.out.far (by simp;omega) _),Lib.hid (HR4.out.far (by simp;omega) _),Lib.hid ?_⟩
      rw [Had.out,set_map _ _ _ (by omega) (by omega)]
      exact HV4.out.set_ _ _
     case measure => simp [intOf];omega
    ·have Hj:=Lib.hid (show j = 8 by omega)
     have d2 : ¬ (j : Int) < 8:=by omega
     have e8 : addL u.l v.l j = (u.add v).l:=by rw [Hj.out];exact addL_h8 u v
     rw [e8,← H8.cells_eq] at HV
     clear e8
     have HR2 : Hid (u.add v = R):=by
      have h:=HR.out
      rw [← Hk.out,Hu.out] at h
      exact h
     generalize u.add v = s at HV HR2
     obtain ⟨x0,x1,x2,x3,x4,x5,x6,x7⟩:=h8 HV.out
     have c0:=HRR.out.cell 0;have c1:=HRR.out.cell 1;have c2:=HRR.out.cell 2;have c3:=HRR.out.cell 3;have c4:=HRR.out.cell 4;have c5:=HRR.out.cell 5;have c6:=HRR.out.cell 6;have c7:=HRR.out.cell 7
     have f0:=HRR.out.frozen 0;have f1:=HRR.out.frozen 1;have f2:=HRR.out.frozen 2;have f3:=HRR.out.frozen 3;have f4:=HRR.out.frozen 4;have f5:=HRR.out.frozen 5;have f6:=HRR.out.frozen 6;have f7:=HRR.out.frozen 7
     simp only [H8.cells,List.getElem?_cons_zero,List.getElem?_cons_succ] at c0 c1 c2 c3 c4 c5 c6 c7
     go_wp2
     refine bodyPost_ret (v:=s.agg) (results_cell_row Tryz.results101 _ _ r _ _ _ _ rfl (h8_set HRR.out _ _ _ _ _ _ _ _) Tryz.underlying104 rfl (by kernel_rfl)) rfl ⟨by rw [← HR2.out],?_⟩
     iterate 8 (refine Below.setCell ?_ (by have:=HG.out;simp;omega) _)
     exact HK.out
end Go.Proofs.YtmbbknjddebhoaaGreatDoor
