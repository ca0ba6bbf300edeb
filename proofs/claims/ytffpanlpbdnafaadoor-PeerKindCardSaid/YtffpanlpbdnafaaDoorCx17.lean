/- Texts merged by pack.py: Rfu, Qi, Rkw, OpB, OpY, MgO, OpM. -/
import Derived.Test.YtffpanlpbdnafaaDoorCx13
import Derived.Test.YtffpanlpbdnafaaDoorCx14
import Derived.Test.YtffpanlpbdnafaaDoorCx15
import Derived.Test.YtffpanlpbdnafaaDoorCx16
import Derived.Test.YtffpanlpbdnafaaDoorCx12
import Derived.Deep.CutBlock
import Derived.Test.YtffpanlpbdnafaaDoorCx7
import Derived.Test.YtffpanlpbdnafaaDoorCx2
import Derived.WalkKit
import Derived.ProofKit
import Derived.OpenShut
import Derived.Test.YtffpanlpbdnafaaDoorCards
import Derived.Test.YtffpanlpbdnafaaDoorTie
import Derived.Deep.DeepHandedRow
import Derived.Lib.LaidTab
import Derived.Test.YtffpanlpbdnafaaDoorCx10
/- florinref09.Fits. (printed by gen_rft.py) -/
set_option linter.unusedSimpArgs false
set_option linter.unusedVariables false
namespace Go.Proofs.YtffpanlpbdnafaaDoor
open Go.RowKit
attribute [local go_sem ↓] Go.wp_at_zero Go.wp_at_succ
theorem rfits_any (m : MsgR) (cs : Array Value) (hA : MsB m cs) (w : World) (h : m.at_ w) :
  Calls Tryd.prog 23 #[.agg cs] w fun e w' => e = .returned (.bool (fitsB m))∧Keep w w':=by
 obtain ⟨zh,hzA,hz0⟩:=zhash_letter32
 obtain ⟨zd,hzD,hd0⟩:=zhead_letterA
 have hk:=h.o
 obtain ⟨ss,hss⟩ : ∃ ss,HashA m.stop ss:=⟨_,HashA.of hk.s⟩
 obtain ⟨hv,hhv⟩ : ∃ hv,HdA m.bh hv:=⟨_,HdA.of hk.b⟩
 have HE4 : Hid (∀ w,(Op.equalIn 10000 39 (.agg ss) (.agg zh)).run Tryd.prog w = .ok (m.stop == z32) w):=Lib.hid fun w => hash_inR hss hzA hk.s rfl w
 have HE8 : Hid (∀ w,(Op.equalIn 10000 42 (.agg hv) (.agg zd)).run Tryd.prog w = .ok (hdEq m.bh zHdr) w):=Lib.hid fun w => hd_inN hhv hzD hk.b ⟨rfl,rfl⟩ w
 have TS : Hid (∀ y,Keep w y → Calls Tryd.prog 51 #[.agg #[u32v m.t.ver,.slice m.t.iA m.t.ins.length m.t.ic,.slice m.t.oA m.t.outs.length m.t.oc,u32v m.t.lock]] y fun e w' => e = .returned (.bool (saneT m.t))∧Keep y w'):=Lib.hid fun y q => rtsane_any m.t y (h.t.keep q)
 have IT:=Lib.hid (ritems_any m.kind)
 have HB : Blk (w.alloc (.cells cs 63)) w.heap.size 63 m.cells:=by rw [← hA.l];exact Blk.new w _ cs.toList
 have HC : Hid (∀ y,Keep (w.alloc (.cells cs 63)) y → FtC m ss hv w.heap.size y):=Lib.hid fun y k => FtC.of (HB.keep k) hk hss hhv
 have HL : FtL m (m.kind == 0) (m.kind == 2) (m.kind == 3) (m.kind == 4) (m.kind == 5) (m.kind == 9) (m.kind == 10) (decide (6 ≤ m.kind) && decide (m.kind ≤ 8)) ((m.proto.toNat : Int) == 0) ((m.nonce : Int) == 0) ((m.height.toNat : Int) == 0) (m.stop == z32) ((m.hs.length : Int) == 0) ((m.ls.length : Int) == 0) ((m.is.length : Int) == 0) (hdEq m.bh zHdr) ((m.total.toNat : Int) == 0) ((m.shs.length : Int) == 0) ((m.fs.length : Int) == 0) ((m.t.ver.toNat : Int) == 0) ((m.t.ins.length : Int) == 0) ((m.t.outs.length : Int) == 0) ((m.t.lock.toNat : Int) == 0):=by constructor <;> rfl
 have HR:=fits_ref m
 cases hb : bigM m with
 | true =>
   rw [hb] at HR
   rw [HR]
   refine rfits_big m cs ss hv zh zd (saneT m.t) (m.kind == 0) (m.kind == 2) (m.kind == 3) (m.kind == 4) (m.kind == 5) (m.kind == 9) (m.kind == 10) (decide (6 ≤ m.kind) && decide (m.kind ≤ 8)) ((m.proto.toNat : Int) == 0) ((m.nonce : Int) == 0) ((m.height.toNat : Int) == 0) (m.stop == z32) ((m.hs.length : Int) == 0) ((m.ls.length : Int) == 0) ((m.is.length : Int) == 0) (hdEq m.bh zHdr) ((m.total.toNat : Int) == 0) ((m.shs.length : Int) == 0) ((m.fs.length : Int) == 0) ((m.t.ver.toNat : Int) == 0) ((m.t.ins.length : Int) == 0) ((m.t.outs.length : Int) == 0) ((m.t.lock.toNat : Int) == 0) w hz0 hd0 hss.i hhv.i HE4 HE8 HC TS IT (Lib.hid HL) (Lib.hid fun q => ?_)
   simp [bigM] at hb
   omega
 | false =>
   rw [hb] at HR
   have hB : ¬ m.kind < 0∧¬ (10 : Int) < m.kind∧¬ (101 : Int) < m.ls.length∧¬ (2000 : Int) < m.hs.length∧¬ (50000 : Int) < m.is.length∧¬ (4096 : Int) < m.shs.length∧¬ (1024 : Int) < m.fs.length:=by
    simp [bigM] at hb
    omega
   have hk : m.kind = 0 ∨ m.kind = 2 ∨ m.kind = 3 ∨ m.kind = 4 ∨ m.kind = 5 ∨ (6 ≤ m.kind∧m.kind ≤ 8) ∨ m.kind = 9 ∨ (m.kind = 1 ∨ m.kind = 10):=by omega
   rcases hk with hk | hk | hk | hk | hk | hk | hk | hk
   ·exact rfits_zero m cs ss hv zh zd (fitsB m) (saneT m.t) _ _ _ _ _ _ _ _ _ _ _ _ _ _ _ _ _ _ _ _ _ _ _ w hz0 hd0 hss.i hhv.i HE4 HE8 HC TS IT (Lib.hid HL) (Lib.hid HR) (Lib.hid hB) (by rw [beq_iff_eq];omega) (by rw [beq_eq_false_iff_ne];omega) (by rw [beq_eq_false_iff_ne];omega) (by rw [beq_eq_false_iff_ne];omega) (by rw [beq_eq_false_iff_ne];omega) (by rw [beq_eq_false_iff_ne];omega) (by rw [beq_eq_false_iff_ne];omega) (by simp;omega)
   ·exact rfits_two m cs ss hv zh zd (fitsB m) (saneT m.t) _ _ _ _ _ _ _ _ _ _ _ _ _ _ _ _ _ _ _ _ _ _ _ w hz0 hd0 hss.i hhv.i HE4 HE8 HC TS IT (Lib.hid HL) (Lib.hid HR) (Lib.hid hB) (by rw [beq_eq_false_iff_ne];omega) (by rw [beq_iff_eq];omega) (by rw [beq_eq_false_iff_ne];omega) (by rw [beq_eq_false_iff_ne];omega) (by rw [beq_eq_false_iff_ne];omega) (by rw [beq_eq_false_iff_ne];omega) (by rw [beq_eq_false_iff_ne];omega) (by simp;omega)
   ·exact rfits_three m cs ss hv zh zd (fitsB m) (saneT m.t) _ _ _ _ _ _ _ _ _ _ _ _ _ _ _ _ _ _ _ _ _ _ _ w hz0 hd0 hss.i hhv.i HE4 HE8 HC TS IT (Lib.hid HL) (Lib.hid HR) (Lib.hid hB) (by rw [beq_eq_false_iff_ne];omega) (by rw [beq_eq_false_iff_ne];omega) (by rw [beq_iff_eq];omega) (by rw [beq_eq_false_iff_ne];omega) (by rw [beq_eq_false_iff_ne];omega) (by rw [beq_eq_false_iff_ne];omega) (by rw [beq_eq_false_iff_ne];omega) (by simp;omega)
   ·exact rfits_four m cs ss hv zh zd (fitsB m) (saneT m.t) _ _ _ _ _ _ _ _ _ _ _ _ _ _ _ _ _ _ _ _ _ _ _ w hz0 hd0 hss.i hhv.i HE4 HE8 HC TS IT (Lib.hid HL) (Lib.hid HR) (Lib.hid hB) (by rw [beq_eq_false_iff_ne];omega) (by rw [beq_eq_false_iff_ne];omega) (by rw [beq_eq_false_iff_ne];omega) (by rw [beq_iff_eq];omega) (by rw [beq_eq_false_iff_ne];omega) (by rw [beq_eq_false_iff_ne];omega) (by rw [beq_eq_false_iff_ne];omega) (by simp;omega)
   ·exact rfits_five m cs ss hv zh zd (fitsB m) (saneT m.t) _ _ _ _ _ _ _ _ _ _ _ _ _ _ _ _ _ _ _ _ _ _ _ w hz0 hd0 hss.i hhv.i HE4 HE8 HC TS IT (Lib.hid HL) (Lib.hid HR) (Lib.hid hB) (by rw [beq_eq_false_iff_ne];omega) (by rw [beq_eq_false_iff_ne];omega) (by rw [beq_eq_false_iff_ne];omega) (by rw [beq_eq_false_iff_ne];omega) (by rw [beq_iff_eq];omega) (by rw [beq_eq_false_iff_ne];omega) (by rw [beq_eq_false_iff_ne];omega) (by simp;omega)
   ·exact rfits_items m cs ss hv zh zd (fitsB m) (saneT m.t) _ _ _ _ _ _ _ _ _ _ _ _ _ _ _ _ _ _ _ _ _ _ _ w hz0 hd0 hss.i hhv.i HE4 HE8 HC TS IT (Lib.hid HL) (Lib.hid HR) (Lib.hid hB) (by rw [beq_eq_false_iff_ne];omega) (by rw [beq_eq_false_iff_ne];omega) (by rw [beq_eq_false_iff_ne];omega) (by rw [beq_eq_false_iff_ne];omega) (by rw [beq_eq_false_iff_ne];omega) (by rw [beq_eq_false_iff_ne];omega) (by rw [beq_eq_false_iff_ne];omega) (by simp;omega)
   ·exact rfits_nine m cs ss hv zh zd (fitsB m) (saneT m.t) _ _ _ _ _ _ _ _ _ _ _ _ _ _ _ _ _ _ _ _ _ _ _ w hz0 hd0 hss.i hhv.i HE4 HE8 HC TS IT (Lib.hid HL) (Lib.hid HR) (Lib.hid hB) (by rw [beq_eq_false_iff_ne];omega) (by rw [beq_eq_false_iff_ne];omega) (by rw [beq_eq_false_iff_ne];omega) (by rw [beq_eq_false_iff_ne];omega) (by rw [beq_eq_false_iff_ne];omega) (by rw [beq_iff_eq];omega) (by rw [beq_eq_false_iff_ne];omega) (by simp;omega)
   ·exact rfits_rest m cs ss hv zh zd (fitsB m) (saneT m.t) _ _ _ _ _ _ _ _ _ _ _ _ _ _ _ _ _ _ _ _ _ _ _ w hz0 hd0 hss.i hhv.i HE4 HE8 HC TS IT (Lib.hid HL) (Lib.hid HR) (Lib.hid hB) (by rw [beq_eq_false_iff_ne];omega) (by rw [beq_eq_false_iff_ne];omega) (by rw [beq_eq_false_iff_ne];omega) (by rw [beq_eq_false_iff_ne];omega) (by rw [beq_eq_false_iff_ne];omega) (by rw [beq_eq_false_iff_ne];omega) (by simp;omega)
end Go.Proofs.YtffpanlpbdnafaaDoor
/- PeerMisses (printed by gen_qi.py) -/
set_option linter.unusedSimpArgs false
set_option linter.unusedVariables false
namespace Go.Proofs.YtffpanlpbdnafaaDoor
open Go.RowKit
attribute [local go_sem ↓] Go.wp_at_zero Go.wp_at_succ
theorem low24 (n : Int) : bits .and .i64 n 16777215 = n % 16777216:=by
 have h127 : (BitVec.ofInt 64 16777215).toNat = 2 ^ 24 - 1:=by decide
 have key : (BitVec.ofInt 64 n &&& BitVec.ofInt 64 16777215).toNat = (n % ((2 ^ 64 : Nat) : Int)).toNat % 2 ^ 24:=by
  rw [BitVec.toNat_and,BitVec.toNat_ofInt,h127,Nat.and_two_pow_sub_one_eq_mod]
 show IntKind.i64.wrap ((BitVec.ofInt 64 n &&& BitVec.ofInt 64 16777215).toNat : Nat) = n % 16777216
 rw [key,IntKind.wrap_i64]
 omega
end Go.Proofs.YtffpanlpbdnafaaDoor
/- PeerKind (printed by gen_rkw.py) -/
set_option linter.unusedSimpArgs false
set_option linter.unusedVariables false
namespace Go.Proofs.YtffpanlpbdnafaaDoor
open Go.RowKit
attribute [local go_sem ↓] Go.wp_at_zero Go.wp_at_succ
theorem rmsg_at {w : World} {A : Option Addr} {l : List MsgR} (hr : Rd w A (l.flatMap MsgR.cells)) (hk : ∀ x ∈ l,x.ok) {k : Nat} (h : k < l.length) :
  ∃ b off,A = some ⟨b,off,none⟩∧b < w.heap.size∧w.rangeAt b (off + k * 114) l[k].cells:=by
 have hlen : ∀ a ∈ l,a.cells.length = 114:=fun a ha => MsgR.len (hk a ha)
 obtain ⟨b,off,rfl,hb,F⟩:=hr.at (k:=k * 114) (by rw [flatMap_len' _ 114 _ hlen];omega)
 refine ⟨b,off,rfl,hb,fun j v hv => ?_⟩
 have hj : j < 114:=by rw [← hlen l[k] (List.getElem_mem h)];exact (List.getElem?_eq_some_iff.1 hv).1
 have hg:=flatMap_get' MsgR.cells 114 l hlen k j h hj
 have hlt : k * 114 + j < (l.flatMap MsgR.cells).length:=by rw [flatMap_len' _ 114 _ hlen];omega
 have hc:=F (k * 114 + j) hlt
 rw [Nat.add_assoc,hc,← hv,← hg,List.getElem?_eq_getElem hlt]
set_option maxRecDepth 100000 in
set_option maxHeartbeats 16000000 in
theorem kind_walk (g : UInt32) (A : Option Addr) (N c : Nat) (ml : List MsgR) (now : Int) (w : World) (hN : ml.length = N) (hr : Rd w A (ml.flatMap MsgR.cells)) (hc : N ≤ c∧c ≤ maxLen) (hm : ∀ m ∈ ml,m.at_ w) (hS : ShaOk w) :
  Calls Tryd.prog 5 #[u32v g,.slice A N c,iv now] w fun e w' => e = .returned (.bool true)∧Keep w w':=by
 have AW : Hid (∀ y,Calls Tryd.prog 7 #[] y fun e w' => e = .returned (.bool true)∧Keep y w'):=Lib.hid awake22
 by_cases hbig : 20 < N
 ·have d1 : (20 : Int) < N:=by omega
  clear hm hc hr hS
  go_enter Tryd.func5,Tryd.ntmps5
  go_wp2_with (go_at_call 7;refine (AW.out _).mono ?_;rintro e w1 ⟨rfl,k1⟩;have K1:=Lib.hid k1;clear k1)
  exact bodyPost_ret (v:=.bool true) (by simp [results,Tryd.results5]) rfl ⟨rfl,K1.out⟩
 have d1 : ¬ (20 : Int) < N:=by omega
 have ROW : Hid (∀ k (h : k < N),∃ b off m cs,A = some ⟨b,off,none⟩∧MsB m cs∧m.at_ w∧(∀ W,Keep w W → W.rangeAt b (off + k * 114) cs.toList)):=Lib.hid fun k h => by
  obtain ⟨b,off,rfl,hb,hcell⟩:=rmsg_at hr (fun x hx => (hm x hx).o) (k:=k) (by omega)
  have hA:=MsB.of (hm _ (List.getElem_mem (show k < ml.length by omega))).o
  exact ⟨b,off,_,_,rfl,hA,hm _ (List.getElem_mem (by omega)),fun W hW j v hv => keep_cell hW (hcell j v (by rw [← hA.l];exact hv))⟩
 have HS:=Lib.hid hS
 clear hr hN hm hS hc
 obtain ⟨zs,hz0,hzA⟩:=zpeer_letter
 obtain ⟨k0,h0A,h0b⟩:=ver_built 9 (by omega)
 obtain ⟨k1,h1A,h1b⟩:=kind_built 1 (by omega)
 have B0 : Hid (Tryd.prog.built 50 [(0,.int .i64 0),(2,.int .u64 9)] = some k0):=Lib.hid h0b
 have B1:=Lib.hid h1b
 have NP : Hid (∀ y,Calls Tryd.prog 9 #[u32v g,iv 4000000] y fun e w' => ∃ ps,e = .returned (.agg ps)∧PeA (newP g 4000000) ps∧Keep y w'):=Lib.hid fun y => pnew_any g 4000000 y
 have H0 : Hid (∀ ps y,PeA (newP g 4000000) ps → Calls Tryd.prog 8 #[.agg ps,.agg k0] y fun e w' => ∃ ds A n,e = .returned (.tuple #[.agg ds,.slice A 2 n,iv 0])∧PeA (p1K g) ds∧Keep y w'):=Lib.hid fun ps y hp =>
  (handle_as ps hp rfl _ k0 h0A (hdl_vK g) y (by
   have z:=msgZ_at 0 (by omega) y
   exact ⟨⟨z.o.k,(by show 9 < 2 ^ 64;omega),z.o.s,z.o.b,z.o.h,z.o.l,z.o.i,z.o.z⟩,z.h,z.hc,z.l,z.lc,z.i,z.ic,z.s,z.sc,z.f,z.fc,z.t⟩)).mono fun e w' ⟨ds,A,n,h1,h2,_,_,_,h3⟩ => ⟨ds,A,n,h1,h2,h3⟩
 have H1 : Hid (∀ ps y,PeA (p1K g) ps → Calls Tryd.prog 8 #[.agg ps,.agg k1] y fun e w' => ∃ ds A n,e = .returned (.tuple #[.agg ds,.slice A 0 n,iv 0])∧PeA { p1K g with stage:=2 } ds∧Keep y w'):=Lib.hid fun ps y hp =>
  (handle_as ps hp rfl _ k1 h1A (hdl_kK g) y (msgZ_at 1 (by omega) y)).mono fun e w' ⟨ds,A,n,h1,h2,_,_,_,h3⟩ => ⟨ds,A,n,h1,h2,h3⟩
 have hzn:=hzA.n;have hzz:=hzA.z
 have HZ:=Lib.hid hzA
 clear h0A h1A h0b h1b hzA hbig
 obtain ⟨T,hT⟩ : ∃ T : Int,bits .and .i64 now 16777215 = T∧0 ≤ T∧T < 16777216:=⟨_,low24 now,by omega,by omega⟩
 obtain ⟨hTe,hT0,hT1⟩:=hT
 go_enter Tryd.func5,Tryd.ntmps5
 go_upto_region 2 with (go_at_call 7;refine (AW.out _).mono ?_;rintro e w1 ⟨rfl,k1⟩;have HK1:=Lib.hid k1;clear k1 AW)
 go_upto_region 5 with (first | (go_at_call 9;refine (NP.out _).mono ?_;rintro e w1a ⟨ps,rfl,hpA,k⟩;have HPA:=Lib.hid hpA;have HK1a:=Lib.hid (keep_trans HK1.out k);clear k hpA HK1) | ((with_reducible refine list_bldg [(0,.int .i64 0),(2,.int .u64 9)] k0 (Eq.trans ?_ rfl) B0.out (Eq.trans ?_ rfl) ?_);rfl;rfl) | (go_at_call 8;refine (H0.out _ _ HPA.out).mono ?_;rintro e w2 ⟨da,Ax,nx,rfl,hdA,k⟩; have HK2:=Lib.hid (keep_trans HK1a.out k);have hst:=pst_new HZ.out hdA w2;have hna:=hdA.n;have hza:=hdA.z;have hia:=hdA.i;have HAa:=Lib.hid hdA; clear k hdA))
 obtain ⟨w3,hw⟩ : ∃ y,y = w2.alloc (.cells da 31):=⟨_,rfl⟩
 have HBa : Hid (Blk w3 w2.heap.size 31 da.toList):=by rw [hw];exact Lib.hid (Blk.new w2 _ da.toList)
 have kq : Keep w2 w3:=by rw [hw];exact keep_new _ _
 have HK3 : Hid (Keep w w3):=Lib.hid (keep_trans HK2.out kq)
 rw [← hw]
 have hlea : w.heap.size ≤ w2.heap.size:=HK2.out.size
 clear hst hw HK2 kq
 generalize w2.heap.size = b8 at *
 clear HPA H0 NP B0 HK1a
 go_upto_region 6 with (first | ((with_reducible refine load_arr b8 da (Eq.trans ?_ rfl) HBa.out _ Tryd.underlying31 rfl hia ?_);rfl) | ((with_reducible refine list_bldg [(0,.int .i64 1)] k1 (Eq.trans ?_ rfl) B1.out (Eq.trans ?_ rfl) ?_);rfl;rfl) | (go_at_call 8;refine (H1.out _ _ HAa.out).mono ?_;rintro e w4 ⟨db,Ay,ny,rfl,hdA,k⟩;replace HBa:=Lib.hid (HBa.out.keep k);have HK4:=Lib.hid (keep_trans HK3.out k);have hst:=pst_new HZ.out hdA w4;have hnb:=hdA.n;have hzb:=hdA.z;have hib:=hdA.i;have HAb:=Lib.hid hdA; clear k hdA))
 obtain ⟨w5,hw⟩ : ∃ y,y = w4.alloc (.cells db 31):=⟨_,rfl⟩
 have HBb : Hid (Blk w5 w4.heap.size 31 db.toList):=by rw [hw];exact Lib.hid (Blk.new w4 _ db.toList)
 have kq : Keep w4 w5:=by rw [hw];exact keep_new _ _
 replace HBa:=Lib.hid (HBa.out.keep kq)
 have HK5 : Hid (Keep w w5):=Lib.hid (keep_trans HK4.out kq)
 rw [← hw]
 have hleb : w.heap.size ≤ w4.heap.size:=HK4.out.size
 clear hst hw HK4 kq
 generalize w4.heap.size = b11 at *
 clear H1 B1 HK3
 obtain ⟨w6,hst,hb6,hg6⟩:=run_store_blk (P:=Tryd.prog) db.toList HBa.out (by rw [Array.length_toList,Array.length_toList,hza,hzb]) HAb.out.o
 have HB6:=Lib.hid hb6
 have HK6 : Hid (Keep w w6):=Lib.hid (HK5.out.grown hg6 HK5.out.size (fun q hq => by injection hq with hq;omega))
 clear hb6 hg6
 go_upto_region 7 with ((with_reducible refine load_arr b11 db (Eq.trans ?_ rfl) HBb.out _ Tryd.underlying31 rfl hib ?_);rfl)
 clear hst HBa HBb HK5 HAa hna hza hia hleb
 have HPK0:=Lib.hid (pk_start g)
 go_wp2_with fail
 clear hTe
 go_loopw [15] (fun iv_ wr => ∃ (n : Nat) (V : Int) (q : PeR) (ds : Array Value),n ≤ N∧iv_ = .int .i64 n∧Hid (0 ≤ V∧V ≤ 1099511627776)∧Hid (Pk g false V q)∧Hid (PeA q ds)∧Hid (Blk wr b8 31 ds.toList)∧Hid (Keep w wr)) (fun iv_ _ => N - (intOf iv_).toNat)
 case atStart => exact ⟨0,0,_,db,Nat.zero_le _,rfl,Lib.hid ⟨by omega,by omega⟩,HPK0,HAb,HB6,HK6⟩
 case round =>
  obtain ⟨n,V,q,ds,hn,rfl,HV,HP0,HA0,HB0,HK0⟩:=hrel
  clear HB6 HK6 HPK0
  have hi0:=HA0.out.i;have hn0:=HA0.out.n;have hz0s:=HA0.out.z
  by_cases hlt : n < N
  ·have hlt2 : (n : Int) < N:=by omega
   obtain ⟨b,off,m,cs,rfl,hcA,hmw,hrg⟩:=ROW.out n hlt
   have hci:=hcA.i;have hcn:=hcA.n;have hcz:=hcA.z
   have HCA:=Lib.hid hcA;have HMW:=Lib.hid hmw;have HRG:=Lib.hid hrg
   have hmk:=hmw.o.k
   have RX:=Lib.hid (hrg wr HK0.out)
   have FT : Hid (∀ y,Keep w y → Calls Tryd.prog 23 #[.agg cs] y fun e w' => e = .returned (.bool (fitsB m))∧Keep y w'):=Lib.hid fun y h => rfits_any m cs hcA y (hmw.keep h)
   have FW : Hid (∀ y,Keep w y → Calls Tryd.prog 13 #[.agg cs] y fun e w' => e = .returned (.bool (fewM m))∧Keep y w'):=Lib.hid fun y h => few09_any m cs hcA y (hmw.keep h)
   clear hcA hmw hrg ROW
   cases hf : fitsB m with
   | false =>
     rw [hf] at FT
     clear FW hf hT0 hT1
     go_wp2_with (first | ((with_reducible refine load_partg b (off + n * 114) cs (Eq.trans ?_ rfl) RX.out _ Tryd.underlying63 rfl hci rfl ?_);rfl) | ((with_reducible refine load_partg b (off + n * 114) cs (Eq.trans ?_ rfl) RXa.out _ Tryd.underlying63 rfl hci (Eq.trans ?_ rfl) ?_);rfl;rfl) | (go_at_call 23;refine (FT.out _ HK0.out).mono ?_;rintro e wa ⟨rfl,k⟩;replace HB0:=Lib.hid (HB0.out.keep k);have HKa:=Lib.hid (keep_trans HK0.out k);have cK : wa.cell? ⟨b,off + n * 114,none⟩ = some (.int .i64 m.kind):=(show _ = _ from HRG.out wa HKa.out 0 _ (by rw [HCA.out.l];rfl));have RXa:=Lib.hid (HRG.out wa HKa.out);clear k))
     go_roundw
     case rel => exact ⟨n + 1,V,_,ds,by omega,by go_num,HV,HP0,HA0,HB0,HKa⟩
     case measure => simp [intOf];omega
   | true =>
   rw [hf] at FT
   by_cases hk1 : m.kind ≤ 1
   ·clear FW hf hT0 hT1
    go_wp2_with (first | ((with_reducible refine load_partg b (off + n * 114) cs (Eq.trans ?_ rfl) RX.out _ Tryd.underlying63 rfl hci rfl ?_);rfl) | ((with_reducible refine load_partg b (off + n * 114) cs (Eq.trans ?_ rfl) RXa.out _ Tryd.underlying63 rfl hci (Eq.trans ?_ rfl) ?_);rfl;rfl) | (go_at_call 23;refine (FT.out _ HK0.out).mono ?_;rintro e wa ⟨rfl,k⟩;replace HB0:=Lib.hid (HB0.out.keep k);have HKa:=Lib.hid (keep_trans HK0.out k);have cK : wa.cell? ⟨b,off + n * 114,none⟩ = some (.int .i64 m.kind):=(show _ = _ from HRG.out wa HKa.out 0 _ (by rw [HCA.out.l];rfl));have RXa:=Lib.hid (HRG.out wa HKa.out);clear k))
    go_roundw
    case rel => exact ⟨n + 1,V,_,ds,by omega,by go_num,HV,HP0,HA0,HB0,HKa⟩
    case measure => simp [intOf];omega
   have hk2 : ¬ m.kind ≤ 1:=hk1
   have hk3 : decide (m.kind ≤ 1) = false:=decide_eq_false hk1
   cases hw : fewM m with
   | false =>
     rw [hw] at FW
     clear hf hw hT0 hT1 hk1
     go_wp2_with (first | ((with_reducible refine load_partg b (off + n * 114) cs (Eq.trans ?_ rfl) RX.out _ Tryd.underlying63 rfl hci rfl ?_);rfl) | ((with_reducible refine load_partg b (off + n * 114) cs (Eq.trans ?_ rfl) RXa.out _ Tryd.underlying63 rfl hci (Eq.trans ?_ rfl) ?_);rfl;rfl) | (go_at_call 23;refine (FT.out _ HK0.out).mono ?_;rintro e wa ⟨rfl,k⟩;replace HB0:=Lib.hid (HB0.out.keep k);have HKa:=Lib.hid (keep_trans HK0.out k);have cK : wa.cell? ⟨b,off + n * 114,none⟩ = some (.int .i64 m.kind):=(show _ = _ from HRG.out wa HKa.out 0 _ (by rw [HCA.out.l];rfl));have RXa:=Lib.hid (HRG.out wa HKa.out);clear k) | (go_at_call 13;refine (FW.out _ HKa.out).mono ?_;rintro e wb ⟨rfl,k⟩;replace HB0:=Lib.hid (HB0.out.keep k);have HKb:=Lib.hid (keep_trans HKa.out k);clear k))
     go_roundw
     case rel => exact ⟨n + 1,V,_,ds,by omega,by go_num,HV,HP0,HA0,HB0,HKb⟩
     case measure => simp [intOf];omega
   | true =>
   rw [hw] at FW
   have hq : (m.hs.length ≤ 40∧m.ls.length ≤ 150∧m.is.length ≤ 100∧m.shs.length ≤ 100∧m.fs.length ≤ 1100)∧fewT m.t = true:=by
    have h2:=hw
    unfold fewM at h2
    rwa [Bool.and_eq_true,decide_eq_true_eq] at h2
   have hqt:=hq.2
   unfold fewT at hqt
   rw [decide_eq_true_eq] at hqt
   have L1:=hqt.2.2.1;have L2:=hqt.2.2.2
   have MS : Hid (∀ y,Keep w y → Calls Tryd.prog 15 #[.agg cs] y fun e w' => ∃ m' ds,e = .returned (.agg ds)∧MsA m' ds∧m'.pl = m.pl∧m'.at_ w'∧Keep y w'):=Lib.hid fun y hy => lmsg_any m cs HCA.out y (HMW.out.keep hy) (by omega) (by omega) (by have:=hq.1.2.2.1;omega)
   have hpl:=put_few HMW.out hw
   obtain ⟨fb,hfb⟩ : ∃ fb,putF g (nameL m.kind) (putL m) = fb:=⟨_,rfl⟩
   obtain ⟨M,hM⟩ : ∃ M,24 + (putL m).length = M:=⟨_,rfl⟩
   have SE : Hid (∀ ps q V m' ds y,Pk g true V q → (0 ≤ V∧V ≤ 1099511627776) → PeA q ps → MsA m' ds → m'.pl = m.pl → m'.at_ y → Keep w y → Calls Tryd.prog 14 #[.agg ps,.agg ds] y fun e w' => ∃ A c,e = .returned (.tuple #[.slice A M c,iv 0])∧(M ≤ c∧c ≤ maxLen)∧Rd w' A (fb.map u8v)∧Keep y w'):=Lib.hid fun ps q V m' ds y h1 hV h2 h3 h4 h5 h6 => by
    have z:=pk_send h1 hV ps h2 m' ds h3 y h5 (HS.out.keep h6) (by rw [(pl_atP h4).2.1,hf]) (by rw [(pl_atP h4).2.2];exact hpl)
    rwa [(pl_atP h4).2.2,(pl_atP h4).1,hfb,hM] at z
   have FD : Hid (∀ ps q V A c y,Pk g true V q → (0 ≤ V∧V ≤ 1099511627776) → PeA q ps → Keep w y → (M ≤ c∧c ≤ maxLen) → Rd y A (fb.map u8v) → Calls Tryd.prog 17 #[.agg ps,.slice A M c] y fun e w' => ∃ (ds : Array Value) (z : PeR) (b off lc : Nat) (m' : MsgR) (gs : Array Value),e = .returned (.tuple #[.agg ds,.slice (some ⟨b,off,none⟩) 1 lc,iv 0])∧PeA z ds∧Pk g true V z∧MsA m' gs∧m'.pl = m.pl∧m'.at_ w'∧w'.rangeAt b off gs.toList∧Keep y w'):=Lib.hid fun ps q V A c y h1 hV h2 h3 h4 h5 => pk_feed h1 hV ps h2 HMW.out hf hw A M c hM h4 y (by rw [hfb];exact h5) (HS.out.keep h3)
   have HD : Hid (∀ ps q V m' gs y,Pk g true V q → (0 ≤ V∧V ≤ 1099511627776) → PeA q ps → MsA m' gs → m'.pl = m.pl → m'.at_ y → Calls Tryd.prog 8 #[.agg ps,.agg gs] y fun e w' => ∃ ds q' A len n,e = .returned (.tuple #[.agg ds,.slice A len n,iv 0])∧PeA q' ds∧Pk g (decide (m.kind ≠ 5)) V q'∧len ≤ n∧RepQ m.kind m.nonce w' A len∧Keep y w'):=Lib.hid fun ps q V m' gs y h1 hV h2 h3 h4 h5 => by
    have z:=pk_handle h1 hV ps h2 m' gs h3 y h5 (by rw [(pl_atP h4).2.1,hf]) (by rw [(pl_atP h4).1];omega)
    rwa [(pl_atP h4).1,show m'.nonce = m.nonce from (congrArg MsgR.nonce h4 : m'.pl.nonce = m.pl.nonce)] at z
   have PL : Hid (∀ m' ds y,MsA m' ds → m'.pl = m.pl → m'.at_ y → Calls Tryd.prog 20 #[.agg ds] y fun e w' => ∃ m2 ds2,e = .returned (.agg ds2)∧MsB m2 ds2∧m2.pl = m.pl∧m2.at_ w'∧Keep y w'):=Lib.hid fun m' ds y h1 h2 h3 => by
    obtain ⟨e1,e2,e3,-⟩:=fewM_pl h2
    refine (plainly_any m' ds h1 y h3 (by omega) (by omega) (by have:=hq.1.2.2.1;omega)).mono ?_
    rintro e w' ⟨m2,d2,rfl,a1,a2,a3,a4⟩
    exact ⟨m2,d2,rfl,a1,a2.trans h2,a3,a4⟩
   have SM : Hid (∀ m2 ds2 y,MsB m2 ds2 → m2.pl = m.pl → m2.at_ y → Keep w y → Calls Tryd.prog 19 #[.agg ds2,.agg cs] y fun e w' => e = .returned (.bool true)∧Keep y w'):=Lib.hid fun m2 ds2 y h1 h2 h3 hk => by
    obtain ⟨e1,e2,e3,e4,e5,e6⟩:=fewM_pl h2
    obtain ⟨z1,z2,z3,z4,z5⟩:=hq.1
    exact same09 m2 m ds2 cs h1 HCA.out y h3 (HMW.out.keep hk) h2 (by omega) (by omega) (by omega) (by omega) (by omega) (by omega)
   have hnn:=HMW.out.o.n
   clear hq hqt L1 L2 hpl hfb hM hf hw
   go_upto_region 12 with (first | ((with_reducible refine load_partg b (off + n * 114) cs (Eq.trans ?_ rfl) RX.out _ Tryd.underlying63 rfl hci rfl ?_);rfl) | ((with_reducible refine load_partg b (off + n * 114) cs (Eq.trans ?_ rfl) RXa.out _ Tryd.underlying63 rfl hci (Eq.trans ?_ rfl) ?_);rfl;rfl) | (go_at_call 23;refine (FT.out _ HK0.out).mono ?_;rintro e wa ⟨rfl,k⟩;replace HB0:=Lib.hid (HB0.out.keep k);have HKa:=Lib.hid (keep_trans HK0.out k);have cK : wa.cell? ⟨b,off + n * 114,none⟩ = some (.int .i64 m.kind):=(show _ = _ from HRG.out wa HKa.out 0 _ (by rw [HCA.out.l];rfl));have RXa:=Lib.hid (HRG.out wa HKa.out);clear k) | (go_at_call 13;refine (FW.out _ HKa.out).mono ?_;rintro e wb ⟨rfl,k⟩;replace HB0:=Lib.hid (HB0.out.keep k);have HKb:=Lib.hid (keep_trans HKa.out k);clear k))
   clear cK RXa RX HKa HK0 FT FW
   obtain ⟨U,hU⟩ : ∃ U : Int,U = T + n:=⟨_,rfl⟩
   have HUB : Hid (0 ≤ U∧U ≤ 549755813888):=Lib.hid ⟨by omega,by omega⟩
   have HUV : Hid (0 ≤ U + 5∧U + 5 ≤ 1099511627776):=Lib.hid ⟨by omega,by omega⟩
   have AKc : Hid (∀ y,Calls Tryd.prog 10 #[.agg ds,iv (T + n),iv 5] y fun e w' => ∃ ds q',e = .returned (.tuple #[.agg ds,.bool true])∧PeA q' ds∧Pk g true (U + 5) q'∧Keep y w'):=Lib.hid fun y => by rw [← hU];exact pk_ask HP0.out HV.out HUB.out ds HA0.out y
   go_upto_region 13 with (first | ((with_reducible refine load_arr b8 ds (Eq.trans ?_ rfl) HB0.out _ Tryd.underlying31 rfl hi0 ?_);rfl) | (go_at_call 10;refine (AKc.out _).mono ?_;rintro e wc ⟨d1,q1,rfl,hdA,hp1,k⟩;replace HB0:=Lib.hid (HB0.out.keep k);have HKc:=Lib.hid (keep_trans HKb.out k);have hst:=pst_new HZ.out hdA wc;have hn1:=hdA.n;have hz1:=hdA.z;have hi1:=hdA.i;have HA1:=Lib.hid hdA;have HP1:=Lib.hid hp1;clear hp1;clear k hdA))
   have HNE0 : Hid (b8 ≠ wc.heap.size):=Lib.hid (Nat.ne_of_lt HB0.out.lt)
   obtain ⟨wd,hw⟩ : ∃ y,y = wc.alloc (.cells d1 31):=⟨_,rfl⟩
   have HB1 : Hid (Blk wd wc.heap.size 31 d1.toList):=by rw [hw];exact Lib.hid (Blk.new wc _ d1.toList)
   have kq : Keep wc wd:=by rw [hw];exact keep_new _ _
   replace HB0:=Lib.hid (HB0.out.keep kq)
   have HKd : Hid (Keep w wd):=Lib.hid (keep_trans HKc.out kq)
   rw [← hw]
   have hle1 : w.heap.size ≤ wc.heap.size:=HKc.out.size
   clear hst hw HKc kq
   generalize wc.heap.size = b16 at *
   clear HKb AKc
   refine wp_region_tree (.take [0,1,2,3,4] (.force [5,6] (.take [7,8,9,10,11] .done))) [] (by kernel_rfl) (by kernel_rfl) (fun y0 hk => ?_)
   replace HB0:=Lib.hid (HB0.out.keep hk);have HB1:=Lib.hid (HB1.out.keep hk);have HK0:=Lib.hid (keep_trans HKd.out hk)
   clear hk HKd
   have RP : Hid (y0.rangeAt b16 0 d1.toList):=(range_of HB1.out 0 d1.toList (by simp [List.take_of_length_le]))
   have RC:=Lib.hid (HRG.out y0 HK0.out)
   refine mt_take y0 (Below.refl _ _) ?_
   simp only [pick_cons,pick_nil,nth_zero,nth_succ]
   repeat (first | ((with_reducible refine wpQuiet_load_partg b16 0 d1 (Eq.trans ?_ rfl) RP.out _ Tryd.underlying31 rfl hi1 (Eq.trans ?_ rfl) ?_);rfl;rfl;simp only [Act.put,Array.set!_eq_setIfInBounds,List.setIfInBounds_toArray,List.set_cons_succ,List.set_cons_zero]) | ((with_reducible refine wpQuiet_load_partg b (off + n * 114) cs (Eq.trans ?_ rfl) RC.out _ Tryd.underlying63 rfl hci (Eq.trans ?_ rfl) ?_);rfl;rfl;simp only [Act.put,Array.set!_eq_setIfInBounds,List.setIfInBounds_toArray,List.set_cons_succ,List.set_cons_zero]) | go_big_quiet_step (fail))
   clear RP RC
   refine wpQuiet_nil (mt_force ?_)
   simp only [pick_cons,pick_nil,nth_zero,nth_succ]
   refine fc_step rfl (fun K hK => ?_)
   go_simp
   (with_reducible refine (MS.out _ HK0.out).mono ?_)
   rintro e y1 ⟨m1,e1,rfl,a1,a2,a3,hk⟩
   refine hK _ _ hk ?_
   clear hK K
   replace HB0:=Lib.hid (HB0.out.keep hk);replace HB1:=Lib.hid (HB1.out.keep hk);replace HK0:=Lib.hid (keep_trans HK0.out hk)
   clear hk
   refine fc_step rfl (fun K hK => ?_)
   go_simp
   (with_reducible refine (SE.out d1 q1 _ m1 e1 _ HP1.out HUV.out HA1.out a1 a2 a3 HK0.out).mono ?_)
   clear a1 a2 a3
   rintro e y2 ⟨A2,c2,rfl,hc2,hr2,hk⟩
   refine hK _ _ hk ?_
   clear hK K
   replace HB0:=Lib.hid (HB0.out.keep hk);replace HB1:=Lib.hid (HB1.out.keep hk);replace HK0:=Lib.hid (keep_trans HK0.out hk)
   have HC2:=Lib.hid hc2;have HR2:=Lib.hid hr2
   clear hk SE MS hc2 hr2
   refine fc_nil (mt_take _ (Below.refl _ _) ?_)
   simp only [pick_cons,pick_nil,nth_zero,nth_succ]
   repeat (go_big_quiet_step (fail))
   refine wpQuiet_nil (mt_end ?_)
   have HK2:=HK0
   clear HK0
   go_upto_region 15 with (first | ((with_reducible refine load_arr b16 d1 (Eq.trans ?_ rfl) HB1.out _ Tryd.underlying31 rfl hi1 ?_);rfl) | (go_at_call 17;refine (FD.out d1 q1 _ A2 c2 _ HP1.out HUV.out HA1.out HK2.out HC2.out HR2.out).mono ?_;rintro e we ⟨d2,z,b3,off3,lc3,m3,gs,rfl,hdA,hp2,hg1,hg2,hg3,hg4,k⟩;replace HB0:=Lib.hid (HB0.out.keep k);have HKe:=Lib.hid (keep_trans HK2.out k);have hst:=pst_new HZ.out hdA we;have hn2:=hdA.n;have hz2:=hdA.z;have hi2:=hdA.i;have HA2:=Lib.hid hdA;have HP2:=Lib.hid hp2;have hgi:=hg1.i;have hgn:=hg1.n;have hgz:=hg1.z;have HG1:=Lib.hid hg1;have HG2:=Lib.hid hg2;have HG3:=Lib.hid hg3;have HG4 : Hid (∀ W,Keep we W → W.rangeAt b3 off3 gs.toList):=Lib.hid (fun W hW j v hv => keep_cell hW (hg4 j v hv));clear hp2 hg1 hg2 hg3 hg4;clear k hdA))
   clear HB1 HR2 HC2 FD
   obtain ⟨wf,hw⟩ : ∃ y,y = we.alloc (.cells d2 31):=⟨_,rfl⟩
   have HB2 : Hid (Blk wf we.heap.size 31 d2.toList):=by rw [hw];exact Lib.hid (Blk.new we _ d2.toList)
   have kq : Keep we wf:=by rw [hw];exact keep_new _ _
   replace HB0:=Lib.hid (HB0.out.keep kq)
   have KZ:=Lib.hid kq
   have HKf : Hid (Keep w wf):=Lib.hid (keep_trans HKe.out kq)
   rw [← hw]
   have hle2 : w.heap.size ≤ we.heap.size:=HKe.out.size
   clear hst hw HKe kq
   generalize we.heap.size = b20 at *
   refine wp_region_tree (.take [0,1,2,3,4,5,6,7,8,9,10,11,12,13,14,16,17,18,19] (.force [15,20] (.take [21,22] .done))) [] (by kernel_rfl) (by kernel_rfl) (fun y3 hk => ?_)
   replace HB0:=Lib.hid (HB0.out.keep hk);replace HB2:=Lib.hid (HB2.out.keep hk);replace KZ:=Lib.hid (keep_trans KZ.out hk);have HK3:=Lib.hid (keep_trans HKf.out hk)
   clear hk HKf
   have RG:=Lib.hid (HG4.out y3 KZ.out)
   have RC:=Lib.hid (HRG.out y3 HK3.out)
   refine mt_take y3 (Below.refl _ _) ?_
   simp only [pick_cons,pick_nil,nth_zero,nth_succ]
   repeat (first | ((with_reducible refine wpQuiet_load_partg b3 off3 gs (Eq.trans ?_ rfl) RG.out _ Tryd.underlying50 rfl hgi (Eq.trans ?_ rfl) ?_);rfl;rfl;simp only [Act.put,Array.set!_eq_setIfInBounds,List.setIfInBounds_toArray,List.set_cons_succ,List.set_cons_zero]) | ((with_reducible refine wpQuiet_load_partg b (off + n * 114) cs (Eq.trans ?_ rfl) RC.out _ Tryd.underlying63 rfl hci (Eq.trans ?_ rfl) ?_);rfl;rfl;simp only [Act.put,Array.set!_eq_setIfInBounds,List.setIfInBounds_toArray,List.set_cons_succ,List.set_cons_zero]) | go_big_quiet_step (fail))
   clear RG RC
   refine wpQuiet_nil (mt_force ?_)
   simp only [pick_cons,pick_nil,nth_zero,nth_succ]
   refine fc_step rfl (fun K hK => ?_)
   go_simp
   refine (PL.out m3 gs _ HG1.out HG2.out (HG3.out.keep KZ.out)).mono ?_
   rintro e y4 ⟨m5,d5,rfl,a1,a2,a3,hk⟩
   refine hK _ _ hk ?_
   clear hK K
   replace HB0:=Lib.hid (HB0.out.keep hk);replace HB2:=Lib.hid (HB2.out.keep hk);replace KZ:=Lib.hid (keep_trans KZ.out hk);replace HK3:=Lib.hid (keep_trans HK3.out hk)
   clear hk
   refine fc_step rfl (fun K hK => ?_)
   go_simp
   refine (SM.out m5 d5 _ a1 a2 a3 HK3.out).mono ?_
   rintro e y5 ⟨rfl,hk⟩
   refine hK _ _ hk ?_
   clear hK K a1 a2 a3
   replace HB0:=Lib.hid (HB0.out.keep hk);replace HB2:=Lib.hid (HB2.out.keep hk);replace KZ:=Lib.hid (keep_trans KZ.out hk);replace HK3:=Lib.hid (keep_trans HK3.out hk)
   clear hk PL SM
   refine fc_nil (mt_take y5 (Below.refl _ _) ?_)
   simp only [pick_cons,pick_nil,nth_zero,nth_succ]
   repeat (go_big_quiet_step (fail))
   refine wpQuiet_nil (mt_end ?_)
   go_upto_region 17 with fail
   go_cut [23,24,25] (fun p r er wx => ∃ (b23 : Nat) (d3 : Array Value) (q3 : PeR) (A3 : Option Addr) (l3 n3 : Nat),p = .pointer (some ⟨b23,0,none⟩)∧r = .slice A3 l3 n3∧er = .int .i64 0∧Hid (w.heap.size ≤ b23)∧Hid (b23 ≠ b8)∧Hid (Blk wx b23 31 d3.toList)∧Hid (PeA q3 d3)∧Hid (Pk g (decide (m.kind ≠ 5)) (U + 5) q3)∧l3 ≤ n3∧Hid (RepQ m.kind m.nonce wx A3 l3)∧Hid (Keep y5 wx))
   case first =>
    have b8lt:=HB0.out.lt
    have hwy : w.heap.size ≤ y5.heap.size:=HK3.out.size
    refine wp_region_tree (.take [0,1,2,3] (.fork 4 (.take [5,6,7,8] (.force [9] .done)) 9 (.force [4] (.take [5,6,7,8] .done)))) [10,11,12] (by kernel_rfl) (by kernel_rfl) (fun y0 hk => ?_)
    have Q:=Lib.hid hk
    have HB2:=Lib.hid (HB2.out.keep hk)
    have KZ:=Lib.hid (keep_trans KZ.out hk)
    clear hk
    refine mt_take y0 (Below.refl _ _) ?_
    simp only [pick_cons,pick_nil,nth_zero,nth_succ]
    have RP : Hid (y0.rangeAt b20 0 d2.toList):=(range_of HB2.out 0 d2.toList (by simp [List.take_of_length_le]))
    have RG:=Lib.hid (HG4.out y0 KZ.out)
    repeat (first | ((with_reducible refine wpQuiet_load_partg b20 0 d2 (Eq.trans ?_ rfl) RP.out _ Tryd.underlying31 rfl hi2 (Eq.trans ?_ rfl) ?_);rfl;rfl;simp only [Act.put,Array.set!_eq_setIfInBounds,List.setIfInBounds_toArray,List.set_cons_succ,List.set_cons_zero]) | ((with_reducible refine wpQuiet_load_partg b3 off3 gs (Eq.trans ?_ rfl) RG.out _ Tryd.underlying50 rfl hgi (Eq.trans ?_ rfl) ?_);rfl;rfl;simp only [Act.put,Array.set!_eq_setIfInBounds,List.setIfInBounds_toArray,List.set_cons_succ,List.set_cons_zero]) | go_big_quiet_step (fail))
    clear RP RG
    refine wpQuiet_nil (mt_fork ?_ ?_)
    ·simp only [pick_cons,pick_nil,nth_zero,nth_succ]
     refine fc_step rfl (fun K hK => ?_)
     go_simp
     (with_reducible refine (HD.out d2 z _ m3 gs y0 HP2.out HUV.out HA2.out HG1.out HG2.out (HG3.out.keep KZ.out)).mono ?_)
     rintro e y1 ⟨d3,q3,A3,l3,n3,rfl,hdA,hp3,hl3,hrp,hk⟩
     refine hK _ _ hk ?_
     clear hK K
     have HQ4 : y5.heap.size ≤ y0.heap.size:=Q.out.size
     have Hprev:=Q
     replace Q:=Lib.hid (keep_trans Q.out hk)
     have hs_y1 : y0.heap.size ≤ y1.heap.size:=hk.size
     replace HB2:=Lib.hid (HB2.out.keep hk)
     replace KZ:=Lib.hid (keep_trans KZ.out hk)
     have hd3n:=hdA.n;have hd3z:=hdA.z;have HA3:=Lib.hid hdA;have HP3:=Lib.hid hp3;have HL3:=Lib.hid hl3;have HRP:=Lib.hid hrp
     clear hdA hp3 hl3 hrp
     clear hk
     refine fc_nil (mt_take y1 (Below.refl _ _) ?_)
     simp only [pick_cons,pick_nil,nth_zero,nth_succ]
     repeat (go_big_quiet_step (fail))
     refine wpQuiet_nil (mt_force ?_)
     simp only [pick_cons,pick_nil,nth_zero,nth_succ]
     refine fc_step rfl (fun K hK => ?_)
     go_simp
     refine hK _ _ (keep_new _ _) ?_
     clear hK K
     obtain ⟨y2,hy⟩ : ∃ y2,y2 = y1.alloc (.cells zs 31):=⟨_,rfl⟩
     have HN : Hid (Blk y2 y1.heap.size 31 zs.toList):=by rw [hy];exact Blk.new y1 _ zs.toList
     have hk : Keep y1 y2:=by rw [hy];exact keep_new _ _
     rw [← hy]
     clear hy
     have HNs : y1.heap.size < y2.heap.size:=HN.out.lt
     have HNn:=Q.out.size
     replace Q:=Lib.hid (keep_trans Q.out hk)
     have hs_y2 : y1.heap.size ≤ y2.heap.size:=hk.size
     replace HB2:=Lib.hid (HB2.out.keep hk)
     replace KZ:=Lib.hid (keep_trans KZ.out hk)
     replace HRP:=Lib.hid (HRP.out.keep hk)
     clear hk
     generalize hp : y1.heap.size = b23 at *
     have HNa : y1.heap.size ≤ b23:=Nat.le_of_eq hp
     have HNb : b23 ≤ y1.heap.size:=Nat.le_of_eq hp.symm
     clear hp
     refine fc_nil (mt_end ?_)
     obtain ⟨wq,hst,hbq,hgq⟩:=run_store_blk (P:=Tryd.prog) d3.toList HN.out (by rw [Array.length_toList,Array.length_toList,hzz,hd3z]) HA3.out.o
     have HBq:=Lib.hid hbq
     have hgq':=hgq
     have Kq : Hid (Keep y5 wq):=Lib.hid (Q.out.grown hgq Q.out.size (fun q hq => by injection hq with hq;omega))
     have HR5 : Hid (RepQ m.kind m.nonce wq A3 l3):=Lib.hid (HRP.out.far HN.out HZ.out hgq)
     have h23 : Hid (w.heap.size ≤ b23):=Lib.hid (by omega)
     have h23b : Hid (b23 ≠ b8):=Lib.hid (by omega)
     clear hbq hgq hgq'
     go_wp2
     go_meet
     exact ⟨b23,d3,q3,A3,l3,n3,rfl,rfl,rfl,h23,h23b,HBq,HA3,HP3,HL3.out,HR5,Kq⟩
    ·simp only [pick_cons,pick_nil,nth_zero,nth_succ]
     refine fc_step rfl (fun K hK => ?_)
     go_simp
     refine hK _ _ (keep_new _ _) ?_
     clear hK K
     obtain ⟨y3,hy⟩ : ∃ y3,y3 = y0.alloc (.cells zs 31):=⟨_,rfl⟩
     have HN : Hid (Blk y3 y0.heap.size 31 zs.toList):=by rw [hy];exact Blk.new y0 _ zs.toList
     have hk : Keep y0 y3:=by rw [hy];exact keep_new _ _
     rw [← hy]
     clear hy
     have HNs : y0.heap.size < y3.heap.size:=HN.out.lt
     have HNn:=Q.out.size
     replace Q:=Lib.hid (keep_trans Q.out hk)
     have hs_y3 : y0.heap.size ≤ y3.heap.size:=hk.size
     replace HB2:=Lib.hid (HB2.out.keep hk)
     replace KZ:=Lib.hid (keep_trans KZ.out hk)
     clear hk
     generalize hp : y0.heap.size = b23 at *
     have HNa : y0.heap.size ≤ b23:=Nat.le_of_eq hp
     have HNb : b23 ≤ y0.heap.size:=Nat.le_of_eq hp.symm
     clear hp
     refine fc_nil (mt_force ?_)
     simp only [pick_cons,pick_nil,nth_zero,nth_succ]
     refine fc_step rfl (fun K hK => ?_)
     go_simp
     (with_reducible refine (HD.out d2 z _ m3 gs y3 HP2.out HUV.out HA2.out HG1.out HG2.out (HG3.out.keep KZ.out)).mono ?_)
     rintro e y4 ⟨d3,q3,A3,l3,n3,rfl,hdA,hp3,hl3,hrp,hk⟩
     refine hK _ _ hk ?_
     clear hK K
     have HQ4 : y5.heap.size ≤ y3.heap.size:=Q.out.size
     have Hprev:=Q
     replace Q:=Lib.hid (keep_trans Q.out hk)
     have hs_y4 : y3.heap.size ≤ y4.heap.size:=hk.size
     replace HB2:=Lib.hid (HB2.out.keep hk)
     replace KZ:=Lib.hid (keep_trans KZ.out hk)
     replace HN:=Lib.hid (HN.out.keep hk)
     have hd3n:=hdA.n;have hd3z:=hdA.z;have HA3:=Lib.hid hdA;have HP3:=Lib.hid hp3;have HL3:=Lib.hid hl3;have HRP:=Lib.hid hrp
     clear hdA hp3 hl3 hrp
     clear hk
     refine fc_nil (mt_take y4 (Below.refl _ _) ?_)
     simp only [pick_cons,pick_nil,nth_zero,nth_succ]
     repeat (go_big_quiet_step (fail))
     refine wpQuiet_nil (mt_end ?_)
     obtain ⟨wq,hst,hbq,hgq⟩:=run_store_blk (P:=Tryd.prog) d3.toList HN.out (by rw [Array.length_toList,Array.length_toList,hzz,hd3z]) HA3.out.o
     have HBq:=Lib.hid hbq
     have hgq':=hgq
     have Kq : Hid (Keep y5 wq):=Lib.hid (Q.out.grown hgq Q.out.size (fun q hq => by injection hq with hq;omega))
     have HR5 : Hid (RepQ m.kind m.nonce wq A3 l3):=Lib.hid (HRP.out.far HN.out HZ.out hgq)
     have h23 : Hid (w.heap.size ≤ b23):=Lib.hid (by omega)
     have h23b : Hid (b23 ≠ b8):=Lib.hid (by omega)
     clear hbq hgq hgq'
     go_wp2
     go_meet
     exact ⟨b23,d3,q3,A3,l3,n3,rfl,rfl,rfl,h23,h23b,HBq,HA3,HP3,HL3.out,HR5,Kq⟩
   obtain ⟨b23,d3,q3,A3,l3,n3,rfl,rfl,rfl,H23,H23B,HB3,HA3,HP3,hl3,HRP,Kc⟩:=hcut
   replace HB0:=Lib.hid (HB0.out.keep Kc.out);have HK4:=Lib.hid (keep_trans HK3.out Kc.out)
   have hi3:=HA3.out.i;have hn3:=HA3.out.n;have hz3:=HA3.out.z
   clear HB2 KZ HK3 Kc HD HG1 HG2 HG3 HG4
   have TKc : Hid (∀ y,Calls Tryd.prog 11 #[.agg d3,iv (T + n + 5)] y fun e w' => ∃ ds q',e = .returned (.tuple #[.agg ds,.bool false])∧PeA q' ds∧Pk g (decide (m.kind ≠ 5)) (U + 5) q'∧Keep y w'):=Lib.hid fun y => by rw [← hU];exact pk_tick HP3.out HUV.out d3 HA3.out y
   go_upto_region 18 with fail
   go_upto_region 19 with (first | ((with_reducible refine load_arr b23 d3 (Eq.trans ?_ rfl) HB3.out _ Tryd.underlying31 rfl hi3 ?_);rfl) | (go_at_call 11;refine (TKc.out _).mono ?_;rintro e wh ⟨d4,q4,rfl,hdA,hp4,k⟩;replace HB0:=Lib.hid (HB0.out.keep k);replace HB3:=Lib.hid (HB3.out.keep k);have HKh:=Lib.hid (keep_trans HK4.out k);have hst:=pst_new HZ.out hdA wh;have hn4:=hdA.n;have hz4:=hdA.z;have hi4:=hdA.i;have HA4:=Lib.hid hdA;have HP4:=Lib.hid hp4;clear hp4;have HRPh:=Lib.hid (HRP.out.keep k);clear k hdA))
   have H26 : Hid (b8 ≠ wh.heap.size):=Lib.hid (Nat.ne_of_lt HB0.out.lt)
   obtain ⟨wi,hw⟩ : ∃ y,y = wh.alloc (.cells d4 31):=⟨_,rfl⟩
   have HB4 : Hid (Blk wi wh.heap.size 31 d4.toList):=by rw [hw];exact Lib.hid (Blk.new wh _ d4.toList)
   have kq : Keep wh wi:=by rw [hw];exact keep_new _ _
   replace HB0:=Lib.hid (HB0.out.keep kq)
   replace HB3:=Lib.hid (HB3.out.keep kq)
   replace HRPh:=Lib.hid (HRPh.out.keep kq)
   have HKi : Hid (Keep w wi):=Lib.hid (keep_trans HKh.out kq)
   rw [← hw]
   have hle4 : w.heap.size ≤ wh.heap.size:=HKh.out.size
   clear hst hw HKh kq
   generalize wh.heap.size = b26 at *
   clear TKc HRP HK4
   have c26:=aft_cell (show wi.cell? ⟨b26,0,none⟩ = some (iv 2) from (HB4.out.cell 0).trans (by rw [HA4.out.l];show some (iv q4.stage) = _;rw [HP4.out.st]))
   have c265:=aft_cell (show wi.cell? ⟨b26,5,none⟩ = some (iv 0) from (HB4.out.cell 5).trans (by rw [HA4.out.l];show some (iv q4.misses) = _;rw [HP4.out.mi]))
   have c233:=aft_cell (show wi.cell? ⟨b23,3,none⟩ = some (.bool (decide (m.kind ≠ 5))) from (HB3.out.cell 3).trans (by rw [HA3.out.l];show some (Value.bool q3.asked) = _;rw [HP3.out.ask]))
   have cK:=aft_cell (show wi.cell? ⟨b,off + n * 114,none⟩ = some (.int .i64 m.kind) from HRG.out wi HKi.out 0 _ (by rw [HCA.out.l];rfl))
   have cN:=aft_cell (show wi.cell? ⟨b,off + n * 114 + 2,none⟩ = some (u64v m.nonce) from HRG.out wi HKi.out 2 _ (by rw [HCA.out.l];rfl))
   have hrep:=HRPh.out
   clear HRPh
   go_cut [197] (fun v wx => v = .bool false∧Hid (Keep wi wx))
   case first =>
    by_cases h2 : m.kind = 2
    ·obtain ⟨rfl,rb,ro,rfl,hcn⟩:=hrep.1 h2
     have cR:=aft_cell hcn
     have g2 : (m.kind == 2) = true:=by rw [beq_iff_eq];exact h2
     have g5 : (m.kind == 5) = false:=by rw [beq_eq_false_iff_ne];omega
     clear hcn hrep h2 hk1 hk2 hk3 hmk
     refine wp_region_aft (by kernel_rfl) (by kernel_rfl) wi (Below.refl _ _) ?_
     try simp only [List.append_eq,List.cons_append,List.nil_append]
     repeat (go_big_quiet_step (fail))
     refine wpQuiet_nil ?_
     rintro _ ⟨y,rfl⟩
     have j:=Lib.hid (aft_keep wi y)
     go_wp2
     go_meet
     exact ⟨rfl,j⟩
    ·obtain rfl:=hrep.2 h2
     have g2 : (m.kind == 2) = false:=by rw [beq_eq_false_iff_ne];omega
     by_cases h5 : m.kind = 5
     ·have g5 : (m.kind == 5) = true:=by rw [beq_iff_eq];exact h5
      have h5b : decide (m.kind ≠ 5) = false:=by rw [decide_eq_false_iff_not];omega
      rw [h5b] at c233
      clear h5 h5b hrep h2 hk1 hk2 hk3 hmk
      refine wp_region_aft (by kernel_rfl) (by kernel_rfl) wi (Below.refl _ _) ?_
      try simp only [List.append_eq,List.cons_append,List.nil_append]
      repeat (go_big_quiet_step (fail))
      refine wpQuiet_nil ?_
      rintro _ ⟨y,rfl⟩
      have j:=Lib.hid (aft_keep wi y)
      go_wp2
      go_meet
      exact ⟨rfl,j⟩
     ·have g5 : (m.kind == 5) = false:=by rw [beq_eq_false_iff_ne];omega
      clear h5 hrep h2 hk1 hk2 hk3 hmk
      refine wp_region_aft (by kernel_rfl) (by kernel_rfl) wi (Below.refl _ _) ?_
      try simp only [List.append_eq,List.cons_append,List.nil_append]
      repeat (go_big_quiet_step (fail))
      refine wpQuiet_nil ?_
      rintro _ ⟨y,rfl⟩
      have j:=Lib.hid (aft_keep wi y)
      go_wp2
      go_meet
      exact ⟨rfl,j⟩
   obtain ⟨rfl,Kc⟩:=hcut
   replace HB0:=Lib.hid (HB0.out.keep Kc.out);replace HB4:=Lib.hid (HB4.out.keep Kc.out);have HKj:=Lib.hid (keep_trans HKi.out Kc.out)
   clear c26 c265 c233 cK cN hrep HB3 HKi Kc hk1 hk2 hk3 hmk
   go_upto_region 21 with fail
   obtain ⟨wk,hst,hbk,hgk⟩:=run_store_blk (P:=Tryd.prog) d4.toList HB0.out (by rw [Array.length_toList,Array.length_toList,hz0s,hz4]) HA4.out.o
   have HBk:=Lib.hid hbk
   have HKk : Hid (Keep w wk):=Lib.hid (HKj.out.grown hgk HKj.out.size (fun q hq => by injection hq with hq;omega))
   clear hbk hgk
   go_upto_region 22 with ((with_reducible refine load_arr b26 d4 (Eq.trans ?_ rfl) HB4.out _ Tryd.underlying31 rfl hi4 ?_);rfl)
   clear hst HB4 HB0 HKj
   have r3 : wk.cell? ⟨b8,3,none⟩ = some (.bool (decide (m.kind ≠ 5))):=(HBk.out.cell 3).trans (by rw [HA4.out.l];show some (Value.bool q4.asked) = _;rw [HP4.out.ask])
   have f3:=HBk.out.frozen 3
   have HAz : Hid (PeA { q4 with asked:=false } (PeR.cells { q4 with asked:=false }).toArray):=Lib.hid (PeA.of _)
   have HPz : Hid (Pk g false (U + 5) { q4 with asked:=false }):=Lib.hid ⟨HP4.out.st,rfl,HP4.out.un,HP4.out.mi,HP4.out.rs,HP4.out.bad,HP4.out.mag,HP4.out.cap⟩
   have HBz : Hid (Blk (wk.setCell ⟨b8,3,none⟩ (.bool false)) b8 31 (PeR.cells { q4 with asked:=false }).toArray.toList):=Lib.hid (by have q:=HBk.out.set_ 3 (.bool false);rw [HA4.out.l] at q;exact q)
   have HKz : Hid (Keep w (wk.setCell ⟨b8,3,none⟩ (.bool false))):=Lib.hid (Below.setCell HKk.out (by show w.heap.size ≤ b8;omega) _)
   generalize (PeR.cells { q4 with asked:=false }).toArray = dz at *
   go_wp2
   obtain ⟨wl,hwl⟩ : ∃ x,x = wk.setCell ⟨b8,3,none⟩ (.bool false):=⟨_,rfl⟩
   rw [← hwl] at HBz HKz ⊢
   clear hwl
   go_roundw
   case rel => exact ⟨n + 1,(U + 5),_,dz,by omega,by go_num,HUV,HPz,HAz,HBz,HKz⟩
   case measure => simp [intOf];omega
  ·obtain rfl : n = N:=by omega
   have hlt2 : ¬ (n : Int) < n:=by omega
   have r0 : wr.cell? ⟨b8,0,none⟩ = some (iv 2):=(HB0.out.cell 0).trans (by rw [HA0.out.l];show some (iv q.stage) = _;rw [HP0.out.st])
   go_wp2
   exact bodyPost_ret (v:=.bool true) (by simp [results,Tryd.results5]) rfl ⟨rfl,HK0.out⟩
end Go.Proofs.YtffpanlpbdnafaaDoor
/- Numbers, hashes and headers that came in, opened. -/
set_option linter.unusedSimpArgs false
set_option linter.unusedVariables false
namespace Go.Proofs.YtffpanlpbdnafaaDoor
open Go.RowKit Go.ChangeShapes Go.WideShapes Go.ChangeAt Go.Deep
theorem cellsByte : Tryd.prog.cellsOf 5 = 1:=by kernel_rfl
theorem word_ofJ {x : Int} (h : 0 ≤ x∧x ≤ 4294967295) : ∃ t : UInt32,x = (t.toNat : Int):=⟨w32 x,w32_of h.1 h.2⟩
theorem byte_ofJ {x : Int} (h : 0 ≤ x∧x ≤ 255) : ∃ t : UInt8,x = (t.toNat : Int):=⟨w8 x,w8_of h.1 h.2⟩
theorem word_openJ {H : Type} {enc : TypeId × Value → H} {w : World} {spare : Nat → Bool} {held : Bool} {fuel : Nat} {cs : List Value} {x : DataW H × List MemPlace}
  (h : DataW.trod enc Tryd.prog w 0 spare held fuel 22 cs = some x) : ∃ t : UInt32,cs = [u32v t]:=by
 obtain ⟨k,ek,_,wk⟩:=DataW.trod_int Tryd.underlying22 h
 obtain ⟨t,rfl⟩:=word_ofJ (x:=k) (by simpa [Lit.wf,IntKind.min,IntKind.max,IntKind.signed,IntKind.bits] using wk)
 exact ⟨t,ek⟩
theorem cellsHeaderJ : Tryd.prog.cellsOf 42 = 68:=by kernel_rfl
theorem cellsHashJ : Tryd.prog.cellsOf 39 = 32:=by kernel_rfl
theorem cellsWordJ : Tryd.prog.cellsOf 22 = 1:=by kernel_rfl
theorem underHashJ : Tryd.prog.underlying 39 = some (.array 32 5):=by kernel_rfl
theorem hash_openJ {H : Type} {enc : TypeId × Value → H} {w : World} {spare : Nat → Bool} {held : Bool} {fuel : Nat} {cs : List Value} {x : DataW H × List MemPlace}
  (h : DataW.trod enc Tryd.prog w 0 spare held fuel 39 cs = some x) : ∃ l : List UInt8,cs = l.map u8v∧l.length = 32:=by
 obtain ⟨xs,m,_,_,h1,h2,h3⟩:=DataW.trod_array underHashJ h
 rw [cellsHashJ] at h1
 obtain ⟨l,rfl,_⟩:=list_choose (f:=u8v) (p:=fun _ => True) cs fun u hu => by
  obtain ⟨i,hi,rfl⟩:=List.mem_iff_getElem.1 hu
  have h4:=h3 i (by omega)
  rw [cellsByte,Nat.mul_one,List.getElem?_eq_getElem (by omega)] at h4
  obtain ⟨k,ek,_,wk⟩:=DataW.trod_int Tryd.underlying5 h4
  obtain ⟨t,rfl⟩:=byte_ofJ (x:=k) (by simpa [Lit.wf,IntKind.min,IntKind.max,IntKind.signed,IntKind.bits] using wk)
  rw [List.drop_eq_getElem_cons hi,List.take_succ_cons,List.take_zero] at ek
  exact ⟨t,(List.cons.inj ek).1,trivial⟩
 exact ⟨l,rfl,by simpa using h1⟩
theorem header_openJ {H : Type} {enc : TypeId × Value → H} {w : World} {spare : Nat → Bool} {held : Bool} {fuel : Nat} {cs : List Value} {x : DataW H × List MemPlace}
  (h : DataW.trod enc Tryd.prog w 0 spare held fuel 42 cs = some x) : ∃ r : Hd,cs = r.cells∧r.ok:=by
 obtain ⟨xs,n,_,_,hl,hx,F⟩:=DataW.trod_struct Tryd.underlying42 h
 rw [cellsHeaderJ] at hl
 have hx' : xs.length = 6:=hx
 have g : ∀ (i : Nat) (hi : i < 6),xs[i]? = some (xs[i]'(by omega)):=fun i hi => List.getElem?_eq_getElem (by omega)
 have f0 : DataW.trod enc Tryd.prog w 0 spare held n 22 ((cs.drop 0).take (Tryd.prog.cellsOf 22)) = some _:=(F 0 _ rfl).trans (g 0 (by omega))
 have f1 : DataW.trod enc Tryd.prog w 0 spare held n 39 ((cs.drop 1).take (Tryd.prog.cellsOf 39)) = some _:=(F 1 _ rfl).trans (g 1 (by omega))
 have f2 : DataW.trod enc Tryd.prog w 0 spare held n 39 ((cs.drop 33).take (Tryd.prog.cellsOf 39)) = some _:=(F 2 _ rfl).trans (g 2 (by omega))
 have f3 : DataW.trod enc Tryd.prog w 0 spare held n 22 ((cs.drop 65).take (Tryd.prog.cellsOf 22)) = some _:=(F 3 _ rfl).trans (g 3 (by omega))
 have f4 : DataW.trod enc Tryd.prog w 0 spare held n 22 ((cs.drop 66).take (Tryd.prog.cellsOf 22)) = some _:=(F 4 _ rfl).trans (g 4 (by omega))
 have f5 : DataW.trod enc Tryd.prog w 0 spare held n 22 ((cs.drop 67).take (Tryd.prog.cellsOf 22)) = some _:=(F 5 _ rfl).trans (g 5 (by omega))
 simp only [cellsWordJ,cellsHashJ] at f0 f1 f2 f3 f4 f5
 obtain ⟨a,ea⟩:=word_openJ f0
 obtain ⟨p,ep,hp⟩:=hash_openJ f1
 obtain ⟨q,eq,hq⟩:=hash_openJ f2
 obtain ⟨t,et⟩:=word_openJ f3
 obtain ⟨b,eb⟩:=word_openJ f4
 obtain ⟨c,ec⟩:=word_openJ f5
 have key : ∀ (l : List Value) (i k : Nat),l.drop i = (l.drop i).take k ++ l.drop (i + k):=fun l i k => by
  have h1:=(List.take_append_drop k (l.drop i)).symm
  rwa [List.drop_drop] at h1
 refine ⟨⟨a,p,q,t,b,c⟩,?_,hp,hq⟩
 have e : cs = cs.drop 0:=rfl
 rw [e,key cs 0 1,ea,key cs (0 + 1) 32,ep,key cs (0 + 1 + 32) 32,eq,key cs (0 + 1 + 32 + 32) 1,et,key cs (0 + 1 + 32 + 32 + 1) 1,eb,key cs (0 + 1 + 32 + 32 + 1 + 1) 1,ec,List.drop_eq_nil_of_le (by omega)]
 simp [Hd.cells]
theorem heads_openJ {H : Type} {enc : TypeId × Value → H} {w : World} {spare : Nat → Bool} {held : Bool} {fuel : Nat} {cs : List Value} {x : DataW H × List MemPlace}
  (h : DataW.trod enc Tryd.prog w 0 spare held fuel 36 cs = some x) :
  ∃ (A : Option Addr) (l : List Hd) (c : Nat),cs = [.slice A l.length c]∧l.length ≤ c∧c ≤ maxLen∧Rd w A (l.flatMap Hd.cells)∧∀ y ∈ l,y.ok:=by
 obtain ⟨A,n,c,Cs,rfl,h1,h2,rfl,h3,h4⟩:=slice_open Tryd.underlying36 cellsHeaderJ (by omega) h
 obtain ⟨l,rfl,hok⟩:=list_choose (f:=Hd.cells) (p:=Hd.ok) Cs fun y hy => by
  obtain ⟨_,m,z,hz⟩:=h4 y hy
  exact header_openJ hz
 refine ⟨A,l,c,by simp,by simpa using h1,h2,?_,hok⟩
 rwa [← List.flatMap_def] at h3
end Go.Proofs.YtffpanlpbdnafaaDoor
/- What the laid tables give where two of Go's own tables are laid as well (chapters 22, 24). -/
set_option linter.unusedSimpArgs false
set_option linter.unusedVariables false
namespace Go.Proofs.YtffpanlpbdnafaaDoor
open Go.RowKit Go.ChangeShapes Go.WideShapes Go.ChangeAt Go.Deep
theorem gK : Tryd.prog.globalNamed "florin/sha2.constants" = some 3 := by kernel_rfl
theorem gH : Tryd.prog.globalNamed "florin/sha2.initials" = some 0 := by kernel_rfl
theorem gKT : (Tryd.prog.globals[3]?).map (·.type) = some 199:=by kernel_rfl
theorem gHT : (Tryd.prog.globals[0]?).map (·.type) = some 171:=by kernel_rfl
theorem cellsK : Tryd.prog.cellsOf 199 = 64:=by kernel_rfl
theorem cells8 : Tryd.prog.cellsOf 171 = 8:=by kernel_rfl
theorem tab_cell {W : World} {name : String} {l : List UInt32} {g : Nat} (h : Lib.TabIs Tryd.prog W name .u32 (l.map fun y => (y.toNat : Int))) (hg : Tryd.prog.globalNamed name = some g) (i : Nat) (y : UInt32) (hy : l[i]? = some y) :
  W.cell? ⟨g,i,none⟩ = some (u32v y):=by
 have hi : i < l.length:=(List.getElem?_eq_some_iff.1 hy).1
 have h1:=h.cell hg i (by rw [List.length_map];exact hi)
 rw [h1,List.getD_eq_getElem?_getD,List.getElem?_map,hy]
 rfl
theorem tab_tail {x : String × DataW Unit} {rest : List (String × DataW Unit)} {W : World} (h : laidMet Tryd.prog (x :: rest) W) : ∃ ps,DataW.LaidVars Tryd.prog W rest ps:=by
 obtain ⟨ps,⟨_,_,_,_,_,q,_,_,_,_,hq,_⟩,_⟩:=h
 exact ⟨q,hq⟩
theorem laid_eqK {H : Type} : (Rows.laid_florin_sha2_constants : DataW H) = Lib.tabData .u32 (kTab.map fun y => (y.toNat : Int)):=by kernel_rfl
theorem laid_eqH {H : Type} : (Rows.laid_florin_sha2_initials : DataW H) = Lib.tabData .u32 (hTab.map fun y => (y.toNat : Int)):=by kernel_rfl
theorem laid_word {W : World} {name : String} {l : List UInt32} {g n : Nat} {d : DataW Unit} {rest : List (String × DataW Unit)} {at_ : TypeId} (hd0 : d = Lib.tabData .u32 (l.map fun y => (y.toNat : Int))) (hg : Tryd.prog.globalNamed name = some g) (hT : (Tryd.prog.globals[g]?).map (·.type) = some at_)
  (ha : Tryd.prog.underlying at_ = some (.array n 22)) (hc : Tryd.prog.cellsOf at_ = n) (h : ∃ ps,DataW.LaidVars Tryd.prog W ((name,d) :: rest) ps) : Lib.TabIs Tryd.prog W name .u32 (l.map fun y => (y.toNat : Int)):=by
 subst hd0
 obtain ⟨qs,g',t',cs,fuel,p,q,hg',ht',hvar,hd,_,_⟩:=h
 obtain rfl:=Option.some.inj (hg.symm.trans hg')
 obtain rfl:=Option.some.inj (hT.symm.trans ht')
 unfold Lib.TabIs
 rw [hvar,← Lib.cells_of_tab ha Tryd.underlying22 cellsWordJ hc hd]
theorem vars_tail {x : String × DataW Unit} {rest : List (String × DataW Unit)} {W : World} (h : ∃ ps,DataW.LaidVars Tryd.prog W (x :: rest) ps) : ∃ ps,DataW.LaidVars Tryd.prog W rest ps:=by
 obtain ⟨ps,_,_,_,_,_,q,_,_,_,_,hq,_⟩:=h
 exact ⟨q,hq⟩
theorem sha_ok {W : World} {d3 d4 : DataW Unit} (h : laidMet Tryd.prog [("unicode/utf8.acceptRanges", d3), ("florin/sha2.constants", Rows.laid_florin_sha2_constants), ("florin/sha2.initials", Rows.laid_florin_sha2_initials), ("unicode/utf8.first", d4)] W) : ShaOk W := by
 have h1:=tab_tail h
 have hK:=laid_word (l:=kTab) laid_eqK gK gKT Tryd.underlying199 cellsK h1
 have hH:=laid_word (l:=hTab) laid_eqH gH gHT Tryd.underlying171 cells8 (vars_tail h1)
 exact ⟨fun i y hy => tab_cell hK gK i y hy,fun i y hy => tab_cell hH gH i y hy⟩
def layTab (g : Nat) (cs : Array Value) (h : Array Obj) : Array Obj:=h.modify g fun
 | .cells _ t frozen => .cells cs t frozen
 | o => o
def accT : List Value:=[128,191,160,191,128,159,144,191,128,143,0,0,0,0,0,0,0,0,0,0,0,0,0,0,0,0,0,0,0,0,0,0].map (Value.int .u8)
def fstT : List Value:=Go.Pinned.utf8FirstZ.map fun n : Nat => Value.int .u8 (n : Int)
noncomputable def laidWorld (os : Os) : World :=
 { World.holding Tryd.prog os ⟨#[],#[],[]⟩ with heap:=layTab 1 fstT.toArray (layTab 2 accT.toArray (layTab 0 (hTab.map u32v).toArray (layTab 3 (kTab.map u32v).toArray (World.holding Tryd.prog os ⟨#[],#[],[]⟩).heap))) }
end Go.Proofs.YtffpanlpbdnafaaDoor
/- Messages and transactions that came in, opened. (printed by gen_mgo.py) -/
set_option linter.unusedSimpArgs false
set_option linter.unusedVariables false
namespace Go.Proofs.YtffpanlpbdnafaaDoor
open Go.RowKit Go.ChangeShapes Go.WideShapes Go.ChangeAt Go.Deep
theorem u64_openJ {H : Type} {enc : TypeId × Value → H} {w : World} {spare : Nat → Bool} {held : Bool} {fuel : Nat} {cs : List Value} {x : DataW H × List MemPlace}
  (h : DataW.trod enc Tryd.prog w 0 spare held fuel 25 cs = some x) : ∃ n : Nat,cs = [u64v n]∧n < 2 ^ 64:=by
 obtain ⟨k,ek,_,wk⟩:=DataW.trod_int Tryd.underlying25 h
 have hb : 0 ≤ k∧k ≤ 18446744073709551615:=by simpa [Lit.wf,IntKind.min,IntKind.max,IntKind.signed,IntKind.bits] using wk
 refine ⟨k.toNat,?_,by omega⟩
 rw [ek];congr 1
 show Value.int .u64 k = Value.int .u64 ((k.toNat : Nat) : Int)
 rw [show ((k.toNat : Nat) : Int) = k by omega]
theorem int_openJ {H : Type} {enc : TypeId × Value → H} {w : World} {spare : Nat → Bool} {held : Bool} {fuel : Nat} {cs : List Value} {x : DataW H × List MemPlace}
  (h : DataW.trod enc Tryd.prog w 0 spare held fuel 3 cs = some x) : ∃ n : Int,cs = [.int .i64 n]∧-9223372036854775808 ≤ n∧n ≤ 9223372036854775807:=by
 obtain ⟨k,ek,_,wk⟩:=DataW.trod_int Tryd.underlying3 h
 exact ⟨k,ek,by simpa [Lit.wf,IntKind.min,IntKind.max,IntKind.signed,IntKind.bits] using wk⟩
theorem byteS_openJ {H : Type} {enc : TypeId × Value → H} {w : World} {spare : Nat → Bool} {held : Bool} {fuel : Nat} {cs : List Value} {x : DataW H × List MemPlace}
  (h : DataW.trod enc Tryd.prog w 0 spare held fuel 26 cs = some x) : ∃ (A : Option Addr) (l : List UInt8) (c : Nat),cs = [.slice A l.length c]∧l.length ≤ c∧c ≤ maxLen∧Rd w A (l.map u8v) :=
 bytes_open Tryd.underlying26 Tryd.underlying5 cellsByte h
theorem hashs_openJ {H : Type} {enc : TypeId × Value → H} {w : World} {spare : Nat → Bool} {held : Bool} {fuel : Nat} {cs : List Value} {x : DataW H × List MemPlace}
  (h : DataW.trod enc Tryd.prog w 0 spare held fuel 37 cs = some x) : ∃ (A : Option Addr) (l : List (List UInt8)) (c : Nat),cs = [.slice A l.length c]∧l.length ≤ c∧c ≤ maxLen∧Rd w A (hsL l)∧∀ y ∈ l,y.length = 32:=by
 obtain ⟨A,n,c,Cs,rfl,h1,h2,rfl,h3,h4⟩:=slice_open Tryd.underlying37 cellsHashJ (by omega) h
 obtain ⟨l,rfl,hok⟩:=list_choose (f:=fun z : List UInt8 => z.map u8v) (p:=fun z => z.length = 32) Cs fun y hy => by
  obtain ⟨_,m,z,hz⟩:=h4 y hy
  exact hash_openJ hz
 refine ⟨A,l,c,by simp,by simpa using h1,h2,?_,hok⟩
 rwa [← List.flatMap_def] at h3
theorem key_openJ (l : List Value) (i k : Nat) : l.drop i = (l.drop i).take k ++ l.drop (i + k):=by
 have h1:=(List.take_append_drop k (l.drop i)).symm
 rwa [List.drop_drop] at h1
theorem cells_ritem : Tryd.prog.cellsOf 97 = 33:=by kernel_rfl
theorem cells_ritem_0 : Tryd.prog.cellsOf 22 = 1:=by kernel_rfl
theorem cells_ritem_1 : Tryd.prog.cellsOf 39 = 32:=by kernel_rfl
theorem ritem_openJ {H : Type} {enc : TypeId × Value → H} {w : World} {spare : Nat → Bool} {held : Bool} {fuel : Nat} {cs : List Value} {x : DataW H × List MemPlace}
  (h : DataW.trod enc Tryd.prog w 0 spare held fuel 97 cs = some x) : ∃ r : Itm,cs = r.cells∧r.ok:=by
 obtain ⟨xs,n,_,_,hl,hx,F⟩:=DataW.trod_struct Tryd.underlying97 h
 rw [cells_ritem] at hl
 have hx' : xs.length = 2:=hx
 have g : ∀ (i : Nat) (hi : i < 2),xs[i]? = some (xs[i]'(by omega)):=fun i hi => List.getElem?_eq_getElem (by omega)
 have f0 : DataW.trod enc Tryd.prog w 0 spare held n 22 ((cs.drop 0).take (Tryd.prog.cellsOf 22)) = some _:=(F 0 _ rfl).trans (g 0 (by omega))
 have f1 : DataW.trod enc Tryd.prog w 0 spare held n 39 ((cs.drop 1).take (Tryd.prog.cellsOf 39)) = some _:=(F 1 _ rfl).trans (g 1 (by omega))
 rw [cells_ritem_0] at f0
 rw [cells_ritem_1] at f1
 obtain ⟨t,e0⟩:=word_openJ f0
 obtain ⟨l,e1,hl⟩:=hash_openJ f1
 have e : cs = cs.drop 0:=rfl
 have hcs : cs = u32v t :: l.map u8v:=by
  rw [e,key_openJ cs 0 1,e0,key_openJ cs (0 + 1) 32,e1,List.drop_eq_nil_of_le (by omega)]
  simp
 exact ⟨⟨t,l⟩,hcs,hl⟩
theorem cells_rin : Tryd.prog.cellsOf 119 = 35:=by kernel_rfl
theorem cells_rin_0 : Tryd.prog.cellsOf 39 = 32:=by kernel_rfl
theorem cells_rin_1 : Tryd.prog.cellsOf 22 = 1:=by kernel_rfl
theorem cells_rin_2 : Tryd.prog.cellsOf 26 = 1:=by kernel_rfl
theorem cells_rin_3 : Tryd.prog.cellsOf 22 = 1:=by kernel_rfl
theorem rin_openJ {H : Type} {enc : TypeId × Value → H} {w : World} {spare : Nat → Bool} {held : Bool} {fuel : Nat} {cs : List Value} {x : DataW H × List MemPlace}
  (h : DataW.trod enc Tryd.prog w 0 spare held fuel 119 cs = some x) : ∃ r : InR,cs = r.cells∧r.at w:=by
 obtain ⟨xs,n,_,_,hl,hx,F⟩:=DataW.trod_struct Tryd.underlying119 h
 rw [cells_rin] at hl
 have hx' : xs.length = 4:=hx
 have g : ∀ (i : Nat) (hi : i < 4),xs[i]? = some (xs[i]'(by omega)):=fun i hi => List.getElem?_eq_getElem (by omega)
 have f0 : DataW.trod enc Tryd.prog w 0 spare held n 39 ((cs.drop 0).take (Tryd.prog.cellsOf 39)) = some _:=(F 0 _ rfl).trans (g 0 (by omega))
 have f1 : DataW.trod enc Tryd.prog w 0 spare held n 22 ((cs.drop 32).take (Tryd.prog.cellsOf 22)) = some _:=(F 1 _ rfl).trans (g 1 (by omega))
 have f2 : DataW.trod enc Tryd.prog w 0 spare held n 26 ((cs.drop 33).take (Tryd.prog.cellsOf 26)) = some _:=(F 2 _ rfl).trans (g 2 (by omega))
 have f3 : DataW.trod enc Tryd.prog w 0 spare held n 22 ((cs.drop 34).take (Tryd.prog.cellsOf 22)) = some _:=(F 3 _ rfl).trans (g 3 (by omega))
 rw [cells_rin_0] at f0
 rw [cells_rin_1] at f1
 rw [cells_rin_2] at f2
 rw [cells_rin_3] at f3
 obtain ⟨p,e0,hp⟩:=hash_openJ f0
 obtain ⟨t,e1⟩:=word_openJ f1
 obtain ⟨A,l,c,e2,h1,h2,h3⟩:=byteS_openJ f2
 obtain ⟨s,e3⟩:=word_openJ f3
 have e : cs = cs.drop 0:=rfl
 have hcs : cs = p.map u8v ++ [u32v t,.slice A l.length c,u32v s]:=by
  rw [e,key_openJ cs 0 32,e0,key_openJ cs (0 + 32) 1,e1,key_openJ cs (0 + 32 + 1) 1,e2,key_openJ cs (0 + 32 + 1 + 1) 1,e3,List.drop_eq_nil_of_le (by omega)]
  simp
 exact ⟨⟨p,t,A,l,c,s⟩,hcs,hp,⟨h1,h2⟩,h3⟩
theorem cells_rout : Tryd.prog.cellsOf 121 = 2:=by kernel_rfl
theorem cells_rout_0 : Tryd.prog.cellsOf 25 = 1:=by kernel_rfl
theorem cells_rout_1 : Tryd.prog.cellsOf 26 = 1:=by kernel_rfl
theorem rout_openJ {H : Type} {enc : TypeId × Value → H} {w : World} {spare : Nat → Bool} {held : Bool} {fuel : Nat} {cs : List Value} {x : DataW H × List MemPlace}
  (h : DataW.trod enc Tryd.prog w 0 spare held fuel 121 cs = some x) : ∃ r : OutR,cs = r.cells∧r.at w:=by
 obtain ⟨xs,n,_,_,hl,hx,F⟩:=DataW.trod_struct Tryd.underlying121 h
 rw [cells_rout] at hl
 have hx' : xs.length = 2:=hx
 have g : ∀ (i : Nat) (hi : i < 2),xs[i]? = some (xs[i]'(by omega)):=fun i hi => List.getElem?_eq_getElem (by omega)
 have f0 : DataW.trod enc Tryd.prog w 0 spare held n 25 ((cs.drop 0).take (Tryd.prog.cellsOf 25)) = some _:=(F 0 _ rfl).trans (g 0 (by omega))
 have f1 : DataW.trod enc Tryd.prog w 0 spare held n 26 ((cs.drop 1).take (Tryd.prog.cellsOf 26)) = some _:=(F 1 _ rfl).trans (g 1 (by omega))
 rw [cells_rout_0] at f0
 rw [cells_rout_1] at f1
 obtain ⟨n1,e0,hn⟩:=u64_openJ f0
 obtain ⟨A,l,c,e1,h1,h2,h3⟩:=byteS_openJ f1
 have e : cs = cs.drop 0:=rfl
 have hcs : cs = [u64v n1,.slice A l.length c]:=by
  rw [e,key_openJ cs 0 1,e0,key_openJ cs (0 + 1) 1,e1,List.drop_eq_nil_of_le (by omega)]
  simp
 exact ⟨⟨n1,A,l,c⟩,hcs,hn,⟨h1,h2⟩,h3⟩
theorem ritems_openJ {H : Type} {enc : TypeId × Value → H} {w : World} {spare : Nat → Bool} {held : Bool} {fuel : Nat} {cs : List Value} {x : DataW H × List MemPlace}
  (h : DataW.trod enc Tryd.prog w 0 spare held fuel 56 cs = some x) : ∃ (A : Option Addr) (l : List Itm) (c : Nat),cs = [.slice A l.length c]∧l.length ≤ c∧c ≤ maxLen∧Rd w A (l.flatMap Itm.cells)∧∀ y ∈ l,y.ok:=by
 obtain ⟨A,n,c,Cs,rfl,h1,h2,rfl,h3,h4⟩:=slice_open Tryd.underlying56 cells_ritem (by omega) h
 obtain ⟨l,rfl,hok⟩:=list_choose (f:=Itm.cells) (p:=fun y => y.ok) Cs fun y hy => by
  obtain ⟨_,m,z,hz⟩:=h4 y hy
  exact ritem_openJ hz
 refine ⟨A,l,c,by simp,by simpa using h1,h2,?_,hok⟩
 rwa [← List.flatMap_def] at h3
theorem rins_openJ {H : Type} {enc : TypeId × Value → H} {w : World} {spare : Nat → Bool} {held : Bool} {fuel : Nat} {cs : List Value} {x : DataW H × List MemPlace}
  (h : DataW.trod enc Tryd.prog w 0 spare held fuel 58 cs = some x) : ∃ (A : Option Addr) (l : List InR) (c : Nat),cs = [.slice A l.length c]∧l.length ≤ c∧c ≤ maxLen∧Rd w A (l.flatMap InR.cells)∧∀ y ∈ l,y.at w:=by
 obtain ⟨A,n,c,Cs,rfl,h1,h2,rfl,h3,h4⟩:=slice_open Tryd.underlying58 cells_rin (by omega) h
 obtain ⟨l,rfl,hok⟩:=list_choose (f:=InR.cells) (p:=fun y => y.at w) Cs fun y hy => by
  obtain ⟨_,m,z,hz⟩:=h4 y hy
  exact rin_openJ hz
 refine ⟨A,l,c,by simp,by simpa using h1,h2,?_,hok⟩
 rwa [← List.flatMap_def] at h3
theorem routs_openJ {H : Type} {enc : TypeId × Value → H} {w : World} {spare : Nat → Bool} {held : Bool} {fuel : Nat} {cs : List Value} {x : DataW H × List MemPlace}
  (h : DataW.trod enc Tryd.prog w 0 spare held fuel 59 cs = some x) : ∃ (A : Option Addr) (l : List OutR) (c : Nat),cs = [.slice A l.length c]∧l.length ≤ c∧c ≤ maxLen∧Rd w A (l.flatMap OutR.cells)∧∀ y ∈ l,y.at w:=by
 obtain ⟨A,n,c,Cs,rfl,h1,h2,rfl,h3,h4⟩:=slice_open Tryd.underlying59 cells_rout (by omega) h
 obtain ⟨l,rfl,hok⟩:=list_choose (f:=OutR.cells) (p:=fun y => y.at w) Cs fun y hy => by
  obtain ⟨_,m,z,hz⟩:=h4 y hy
  exact rout_openJ hz
 refine ⟨A,l,c,by simp,by simpa using h1,h2,?_,hok⟩
 rwa [← List.flatMap_def] at h3
theorem cells_rtx : Tryd.prog.cellsOf 61 = 4:=by kernel_rfl
theorem cells_rtx_0 : Tryd.prog.cellsOf 22 = 1:=by kernel_rfl
theorem cells_rtx_1 : Tryd.prog.cellsOf 58 = 1:=by kernel_rfl
theorem cells_rtx_2 : Tryd.prog.cellsOf 59 = 1:=by kernel_rfl
theorem cells_rtx_3 : Tryd.prog.cellsOf 22 = 1:=by kernel_rfl
theorem rtx_openJ {H : Type} {enc : TypeId × Value → H} {w : World} {spare : Nat → Bool} {held : Bool} {fuel : Nat} {cs : List Value} {x : DataW H × List MemPlace}
  (h : DataW.trod enc Tryd.prog w 0 spare held fuel 61 cs = some x) : ∃ t : TxR,cs = t.cells∧t.at w:=by
 obtain ⟨xs,n,_,_,hl,hx,F⟩:=DataW.trod_struct Tryd.underlying61 h
 rw [cells_rtx] at hl
 have hx' : xs.length = 4:=hx
 have g : ∀ (i : Nat) (hi : i < 4),xs[i]? = some (xs[i]'(by omega)):=fun i hi => List.getElem?_eq_getElem (by omega)
 have f0 : DataW.trod enc Tryd.prog w 0 spare held n 22 ((cs.drop 0).take (Tryd.prog.cellsOf 22)) = some _:=(F 0 _ rfl).trans (g 0 (by omega))
 have f1 : DataW.trod enc Tryd.prog w 0 spare held n 58 ((cs.drop 1).take (Tryd.prog.cellsOf 58)) = some _:=(F 1 _ rfl).trans (g 1 (by omega))
 have f2 : DataW.trod enc Tryd.prog w 0 spare held n 59 ((cs.drop 2).take (Tryd.prog.cellsOf 59)) = some _:=(F 2 _ rfl).trans (g 2 (by omega))
 have f3 : DataW.trod enc Tryd.prog w 0 spare held n 22 ((cs.drop 3).take (Tryd.prog.cellsOf 22)) = some _:=(F 3 _ rfl).trans (g 3 (by omega))
 rw [cells_rtx_0] at f0
 rw [cells_rtx_1] at f1
 rw [cells_rtx_2] at f2
 rw [cells_rtx_3] at f3
 obtain ⟨v,e0⟩:=word_openJ f0
 obtain ⟨A,l,c,e1,h1,h2,h3,h4⟩:=rins_openJ f1
 obtain ⟨B,r,d,e2,g1,g2,g3,g4⟩:=routs_openJ f2
 obtain ⟨k,e3⟩:=word_openJ f3
 have e : cs = cs.drop 0:=rfl
 have hcs : cs = [u32v v,.slice A l.length c,.slice B r.length d,u32v k]:=by
  rw [e,key_openJ cs 0 1,e0,key_openJ cs (0 + 1) 1,e1,key_openJ cs (0 + 1 + 1) 1,e2,key_openJ cs (0 + 1 + 1 + 1) 1,e3,List.drop_eq_nil_of_le (by omega)]
  simp
 exact ⟨⟨v,A,l,c,B,r,d,k⟩,hcs,⟨h3,g3,⟨h1,h2⟩,⟨g1,g2⟩,h4,g4⟩⟩
theorem cells_rblock : Tryd.prog.cellsOf 57 = 71:=by kernel_rfl
theorem cells_rblock_0 : Tryd.prog.cellsOf 42 = 68:=by kernel_rfl
theorem cells_rblock_1 : Tryd.prog.cellsOf 22 = 1:=by kernel_rfl
theorem cells_rblock_2 : Tryd.prog.cellsOf 37 = 1:=by kernel_rfl
theorem cells_rblock_3 : Tryd.prog.cellsOf 26 = 1:=by kernel_rfl
theorem rblock_openJ {H : Type} {enc : TypeId × Value → H} {w : World} {spare : Nat → Bool} {held : Bool} {fuel : Nat} {cs : List Value} {x : DataW H × List MemPlace}
  (h : DataW.trod enc Tryd.prog w 0 spare held fuel 57 cs = some x) : ∃ (r : Hd) (t : UInt32) (A : Option Addr) (l : List (List UInt8)) (c : Nat) (B : Option Addr) (f : List UInt8) (d : Nat),cs = r.cells ++ [u32v t,.slice A l.length c,.slice B f.length d]∧r.ok∧(l.length ≤ c∧c ≤ maxLen)∧Rd w A (hsL l)∧(∀ y ∈ l,y.length = 32)∧(f.length ≤ d∧d ≤ maxLen)∧Rd w B (f.map u8v):=by
 obtain ⟨xs,n,_,_,hl,hx,F⟩:=DataW.trod_struct Tryd.underlying57 h
 rw [cells_rblock] at hl
 have hx' : xs.length = 4:=hx
 have g : ∀ (i : Nat) (hi : i < 4),xs[i]? = some (xs[i]'(by omega)):=fun i hi => List.getElem?_eq_getElem (by omega)
 have f0 : DataW.trod enc Tryd.prog w 0 spare held n 42 ((cs.drop 0).take (Tryd.prog.cellsOf 42)) = some _:=(F 0 _ rfl).trans (g 0 (by omega))
 have f1 : DataW.trod enc Tryd.prog w 0 spare held n 22 ((cs.drop 68).take (Tryd.prog.cellsOf 22)) = some _:=(F 1 _ rfl).trans (g 1 (by omega))
 have f2 : DataW.trod enc Tryd.prog w 0 spare held n 37 ((cs.drop 69).take (Tryd.prog.cellsOf 37)) = some _:=(F 2 _ rfl).trans (g 2 (by omega))
 have f3 : DataW.trod enc Tryd.prog w 0 spare held n 26 ((cs.drop 70).take (Tryd.prog.cellsOf 26)) = some _:=(F 3 _ rfl).trans (g 3 (by omega))
 rw [cells_rblock_0] at f0
 rw [cells_rblock_1] at f1
 rw [cells_rblock_2] at f2
 rw [cells_rblock_3] at f3
 obtain ⟨r,e0,hr⟩:=header_openJ f0
 obtain ⟨t,e1⟩:=word_openJ f1
 obtain ⟨A,l,c,e2,h1,h2,h3,h4⟩:=hashs_openJ f2
 obtain ⟨B,f,d,e3,g1,g2,g3⟩:=byteS_openJ f3
 have e : cs = cs.drop 0:=rfl
 have hcs : cs = r.cells ++ [u32v t,.slice A l.length c,.slice B f.length d]:=by
  rw [e,key_openJ cs 0 68,e0,key_openJ cs (0 + 68) 1,e1,key_openJ cs (0 + 68 + 1) 1,e2,key_openJ cs (0 + 68 + 1 + 1) 1,e3,List.drop_eq_nil_of_le (by omega)]
  simp
 exact ⟨r,t,A,l,c,B,f,d,hcs,hr,⟨h1,h2⟩,h3,h4,⟨g1,g2⟩,g3⟩
theorem cells_rmsg : Tryd.prog.cellsOf 63 = 114:=by kernel_rfl
theorem cells_rmsg_0 : Tryd.prog.cellsOf 3 = 1:=by kernel_rfl
theorem cells_rmsg_1 : Tryd.prog.cellsOf 22 = 1:=by kernel_rfl
theorem cells_rmsg_2 : Tryd.prog.cellsOf 25 = 1:=by kernel_rfl
theorem cells_rmsg_3 : Tryd.prog.cellsOf 22 = 1:=by kernel_rfl
theorem cells_rmsg_4 : Tryd.prog.cellsOf 36 = 1:=by kernel_rfl
theorem cells_rmsg_5 : Tryd.prog.cellsOf 37 = 1:=by kernel_rfl
theorem cells_rmsg_6 : Tryd.prog.cellsOf 39 = 32:=by kernel_rfl
theorem cells_rmsg_7 : Tryd.prog.cellsOf 56 = 1:=by kernel_rfl
theorem cells_rmsg_8 : Tryd.prog.cellsOf 57 = 71:=by kernel_rfl
theorem cells_rmsg_9 : Tryd.prog.cellsOf 61 = 4:=by kernel_rfl
theorem rmsg_openJ {H : Type} {enc : TypeId × Value → H} {w : World} {spare : Nat → Bool} {held : Bool} {fuel : Nat} {cs : List Value} {x : DataW H × List MemPlace}
  (h : DataW.trod enc Tryd.prog w 0 spare held fuel 63 cs = some x) : ∃ m : MsgR,cs = m.cells∧m.at_ w:=by
 obtain ⟨xs,n,_,_,hl,hx,F⟩:=DataW.trod_struct Tryd.underlying63 h
 rw [cells_rmsg] at hl
 have hx' : xs.length = 10:=hx
 have g : ∀ (i : Nat) (hi : i < 10),xs[i]? = some (xs[i]'(by omega)):=fun i hi => List.getElem?_eq_getElem (by omega)
 have f0 : DataW.trod enc Tryd.prog w 0 spare held n 3 ((cs.drop 0).take (Tryd.prog.cellsOf 3)) = some _:=(F 0 _ rfl).trans (g 0 (by omega))
 have f1 : DataW.trod enc Tryd.prog w 0 spare held n 22 ((cs.drop 1).take (Tryd.prog.cellsOf 22)) = some _:=(F 1 _ rfl).trans (g 1 (by omega))
 have f2 : DataW.trod enc Tryd.prog w 0 spare held n 25 ((cs.drop 2).take (Tryd.prog.cellsOf 25)) = some _:=(F 2 _ rfl).trans (g 2 (by omega))
 have f3 : DataW.trod enc Tryd.prog w 0 spare held n 22 ((cs.drop 3).take (Tryd.prog.cellsOf 22)) = some _:=(F 3 _ rfl).trans (g 3 (by omega))
 have f4 : DataW.trod enc Tryd.prog w 0 spare held n 36 ((cs.drop 4).take (Tryd.prog.cellsOf 36)) = some _:=(F 4 _ rfl).trans (g 4 (by omega))
 have f5 : DataW.trod enc Tryd.prog w 0 spare held n 37 ((cs.drop 5).take (Tryd.prog.cellsOf 37)) = some _:=(F 5 _ rfl).trans (g 5 (by omega))
 have f6 : DataW.trod enc Tryd.prog w 0 spare held n 39 ((cs.drop 6).take (Tryd.prog.cellsOf 39)) = some _:=(F 6 _ rfl).trans (g 6 (by omega))
 have f7 : DataW.trod enc Tryd.prog w 0 spare held n 56 ((cs.drop 38).take (Tryd.prog.cellsOf 56)) = some _:=(F 7 _ rfl).trans (g 7 (by omega))
 have f8 : DataW.trod enc Tryd.prog w 0 spare held n 57 ((cs.drop 39).take (Tryd.prog.cellsOf 57)) = some _:=(F 8 _ rfl).trans (g 8 (by omega))
 have f9 : DataW.trod enc Tryd.prog w 0 spare held n 61 ((cs.drop 110).take (Tryd.prog.cellsOf 61)) = some _:=(F 9 _ rfl).trans (g 9 (by omega))
 rw [cells_rmsg_0] at f0
 rw [cells_rmsg_1] at f1
 rw [cells_rmsg_2] at f2
 rw [cells_rmsg_3] at f3
 rw [cells_rmsg_4] at f4
 rw [cells_rmsg_5] at f5
 rw [cells_rmsg_6] at f6
 rw [cells_rmsg_7] at f7
 rw [cells_rmsg_8] at f8
 rw [cells_rmsg_9] at f9
 obtain ⟨k,e0,k0,k1⟩:=int_openJ f0
 obtain ⟨p,e1⟩:=word_openJ f1
 obtain ⟨nn,e2,hn⟩:=u64_openJ f2
 obtain ⟨hh,e3⟩:=word_openJ f3
 obtain ⟨hA,hs,hc,e4,a1,a2,a3,a4⟩:=heads_openJ f4
 obtain ⟨lA,ls,lc,e5,b1,b2,b3,b4⟩:=hashs_openJ f5
 obtain ⟨stop,e6,hst⟩:=hash_openJ f6
 obtain ⟨iA,is,ic,e7,c1,c2,c3,c4⟩:=ritems_openJ f7
 obtain ⟨bh,total,sA,shs,sc,fA,fs,fc,e8,d1,d2,d3,d4,d5,d6⟩:=rblock_openJ f8
 obtain ⟨t,e9,ht⟩:=rtx_openJ f9
 have e : cs = cs.drop 0:=rfl
 have hcs : cs = MsgR.cells ⟨k,p,nn,hh,hA,hs,hc,lA,ls,lc,stop,iA,is,ic,bh,total,sA,shs,sc,fA,fs,fc,t⟩:=by
  unfold MsgR.cells MsgR.blk TxR.cells
  rw [e,key_openJ cs 0 1,e0,key_openJ cs (0 + 1) 1,e1,key_openJ cs (0 + 1 + 1) 1,e2,key_openJ cs (0 + 1 + 1 + 1) 1,e3,key_openJ cs (0 + 1 + 1 + 1 + 1) 1,e4,key_openJ cs (0 + 1 + 1 + 1 + 1 + 1) 1,e5,key_openJ cs (0 + 1 + 1 + 1 + 1 + 1 + 1) 32,e6,key_openJ cs (0 + 1 + 1 + 1 + 1 + 1 + 1 + 32) 1,e7,key_openJ cs (0 + 1 + 1 + 1 + 1 + 1 + 1 + 32 + 1) 71,e8,key_openJ cs (0 + 1 + 1 + 1 + 1 + 1 + 1 + 32 + 1 + 71) 4,e9,List.drop_eq_nil_of_le (by omega)]
  simp [TxR.cells]
 exact ⟨⟨k,p,nn,hh,hA,hs,hc,lA,ls,lc,stop,iA,is,ic,bh,total,sA,shs,sc,fA,fs,fc,t⟩,hcs,⟨⟨⟨k0,k1⟩,hn,hst,d1,a4,b4,c4,d4⟩,a3,⟨a1,a2⟩,b3,⟨b1,b2⟩,c3,⟨c1,c2⟩,d3,d2,d6,d5,ht⟩⟩
end Go.Proofs.YtffpanlpbdnafaaDoor
/- Openings: a slice of the document's messages. -/
set_option linter.unusedSimpArgs false
set_option linter.unusedVariables false
namespace Go.Proofs.YtffpanlpbdnafaaDoor
open Go.RowKit Go.ChangeShapes Go.WideShapes Go.ChangeAt Go.Deep
theorem rmsgs_openJ {H : Type} {enc : TypeId × Value → H} {w : World} {spare : Nat → Bool} {held : Bool} {fuel : Nat} {cs : List Value} {x : DataW H × List MemPlace}
  (h : DataW.trod enc Tryd.prog w 0 spare held fuel 79 cs = some x) :
  ∃ (A : Option Addr) (l : List MsgR) (c : Nat),cs = [.slice A l.length c]∧l.length ≤ c∧c ≤ maxLen∧Rd w A (l.flatMap MsgR.cells)∧∀ y ∈ l,y.at_ w:=by
 obtain ⟨A,n,c,Cs,rfl,h1,h2,rfl,h3,h4⟩:=slice_open Tryd.underlying79 cells_rmsg (by omega) h
 obtain ⟨l,rfl,hok⟩:=list_choose (f:=MsgR.cells) (p:=fun m => m.at_ w) Cs fun y hy => by
  obtain ⟨_,m,z,hz⟩:=h4 y hy
  obtain ⟨r,h5,h6⟩:=rmsg_openJ hz
  exact ⟨r,h5,h6⟩
 refine ⟨A,l,c,by simp,by simpa using h1,h2,?_,hok⟩
 rwa [← List.flatMap_def] at h3
end Go.Proofs.YtffpanlpbdnafaaDoor
