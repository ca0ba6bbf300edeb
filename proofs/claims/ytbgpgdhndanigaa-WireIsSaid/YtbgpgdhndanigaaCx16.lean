/- Texts merged by pack.py: Ks, Kt, Pf, Pg, Ph. -/
import Derived.Test.YtbgpgdhndanigaaCx15
import Derived.Test.YtbgpgdhndanigaaCx9
/- florinref09's reader: message. (printed by gen_ks.py) -/
set_option linter.unusedSimpArgs false
set_option linter.unusedVariables false
namespace Go.Proofs.Ytbgpgdhndanigaa
open Go.RowKit
attribute [local go_sem ↓] Go.wp_at_zero Go.wp_at_succ
theorem rmsg_built0 (k : Int) : Try.prog.built 39 [(0,.int .i64 k)] = some (msgZ k).cells.toArray:=by kernel_rfl
theorem own_gr {w w' : World} {base : Nat} {e : TypeId} {size : Nat} {v : Value} {n : Nat} {xs : List Value} {g : Nat} (h : w.ownsRow base e size v n xs) (hg : w.grownBy w' (some g)) (hb : g < base) : w'.ownsRow base e size v n xs :=
 own_kx h ((KeepX.of (Below.refl _ _)).grown (X:=fun j => j = g) hg fun j _ q => (Option.some.inj q).symm) fun j q e => by have:=(h.lt j q).1;omega
theorem own_kb {w w' : World} {base : Nat} {e : TypeId} {size : Nat} {v : Value} {n : Nat} {xs : List Value} {S : Nat} (h : w.ownsRow base e size v n xs) (k : KeepB S w w') (hb : S < base) : w'.ownsRow base e size v n xs :=
 own_kx h k fun j q e => by have:=(h.lt j q).1;omega
theorem own_lens {w : World} {base : Nat} {e : TypeId} {size n c : Nat} {A : Option Addr} {xs : List Value} (h : w.ownsRow base e size (.slice A n c) n xs) : n ≤ c∧c ≤ maxLen:=own_capR h
def Msd (S : Nat) (src : SP → List Value) (b : List UInt8) (k : Int) (w : World) (e : Ending) (w' : World) : Prop :=
 ∃ (m : MsgR) (cs : Array Value) (p' : SP) (qs : List PV),e = .returned (.agg cs)∧MsB m cs∧(m.at_ w'∧∀ W,MidF (fun _ => True) w w' W → m.at_ W)∧m.pl = msgOf k (qs.map PV.pl)∧GS (partsM (msgZ k)) b (0,0) p' qs∧Blk w' S 85 (src p')∧KeepB S w w'
section
variable (S : Nat) (A : Option Addr) (b : List UInt8) (c : Nat) (w : World)
theorem set38r {m : MsgR} (h : m.ok) {A : Option Addr} {l : List Itm} {c : Nat} : m.cells.set 38 (.slice A l.length c) = MsgR.cells { m with iA:=A,is:=l,ic:=c }:=by
 unfold MsgR.cells
 rw [List.set_append_right _ _ (by simp),List.set_append_right _ _ (by simp [h.s])]
 simp [h.s,MsgR.blk]
set_option maxRecDepth 100000 in
set_option maxHeartbeats 8000000 in
theorem r9msg_0 (hb : Blk w S 85 (srcL A b.length c (0,0))) (hc : b.length ≤ c) (hl : b.length ≤ 1000000000) (hcm : c ≤ maxLen) (hr : RdX (some S) w A (b.map u8v)) :
  Calls Try.prog 31 #[.pointer (some ⟨S,0,none⟩),.int .i64 0] w (Msd S (srcL A b.length c) b 0 w):=by
 have hrr : ∀ y,KeepB S w y → RdX (some S) y A (b.map u8v):=fun y k => hr.kb k
 have NUM : Hid (∀ (m : Nat) (p : SP) (y : World),KeepB S w y → Blk y S 85 (srcL A b.length c p) → p.1 ≤ b.length → m ≤ 8 → 0 < m → Calls Try.prog 58 #[.pointer (some ⟨S,0,none⟩),iv m] y (Red S 85 (srcL A b.length c (tkP b m p)) (u64v (nmV b m p)) y)):=Lib.hid fun m p y k h2 h3 h4 h5 => r9num_any S A b c p m y h2 h3 hc hl hcm (hrr y k) h4 h5
 have ITQ : Hid (∀ y,Calls Try.prog 36 #[.int .i64 0] y fun e w' => e = .returned (.bool false)∧Keep y w'):=Lib.hid fun y => ritems_any 0 y
 have hSw:=hb.lt
 have HB:=Lib.hid hb
 have HZ0 : Hid ((msgZ 0).at_ w):=Lib.hid (msgZ_at 0 (by omega) w)
 obtain ⟨zs,hz2,hzM⟩:=zrmsg_letter
 have hz1:=hzM.z;have hz3:=hzM.n
 have HBU:=Lib.hid (rmsg_built0 0)
 obtain ⟨bs,hbs⟩ : ∃ x,(msgZ 0).cells.toArray = x:=⟨_,rfl⟩
 have hbM : MsB (msgZ 0) bs:=by rw [← hbs];exact MsB.of (msgZ_ok 0 (by omega))
 rw [hbs] at HBU
 have hbz:=hbM.z;have hbi:=hbM.i;have hbn:=hbM.n
 have HBM:=Lib.hid hbM
 have Hst : Hid (∀ ww : World,(storeCells ⟨ww.heap.size,0,none⟩ bs.toList 0).run Try.prog (ww.alloc (.cells zs 39)) = .ok () (ww.alloc (.cells bs 39))):=Lib.hid fun ww => run_storeCells_new (P:=Try.prog) ww 39 zs bs hbi (hz1.trans hbz.symm) (by have:=all_oneCell_toArray hbM.o;rwa [Array.toArray_toList] at this)
 clear hb hr hrr hzM hbM hbs
 obtain ⟨L,hL⟩ : ∃ L,b.length = L:=⟨_,rfl⟩
 have HLL:=Lib.hid hL
 rw [hL] at HB NUM hl ⊢
 clear hL
 go_enter Try.func31,Try.ntmps31
 go_upto_region 1 with fail
 obtain ⟨w0,hw0⟩ : ∃ x,x = w.alloc (.cells zs 39):=⟨_,rfl⟩
 have HR0 : Hid (Blk w0 w.heap.size 39 zs.toList):=by rw [hw0];exact Lib.hid (Blk.new w _ zs.toList)
 have hk0 : Keep w w0:=by rw [hw0];exact keep_new _ _
 have HSZ : Hid (w0.heap.size = w.heap.size + 1):=Lib.hid (by rw [hw0];simp)
 rw [← hw0]
 clear hw0
 have hst:=Hst.out w0
 go_upto_region 2 with ((with_reducible refine list_bldg _ bs (Eq.trans ?_ rfl) HBU.out (Eq.trans ?_ rfl) ?_);rfl;rfl)
 obtain ⟨w1,hw1⟩ : ∃ x,x = w0.alloc (.cells bs 39):=⟨_,rfl⟩
 have HR1 : Hid (Blk w1 w.heap.size 39 zs.toList):=by rw [hw1];exact Lib.hid (HR0.out.alloc _)
 have HT1 : Hid (Blk w1 (w.heap.size + 1) 39 (msgZ 0).cells):=by
  rw [hw1,← HSZ.out,← HBM.out.l]
  exact Lib.hid (Blk.new w0 _ bs.toList)
 have hk1 : Keep w w1:=by rw [hw1];exact keep_trans hk0 (keep_new _ _)
 have HS1 : Hid (Blk w1 S 85 (srcL A L c (0,0))):=Lib.hid (HB.out.keep hk1)
 have KB1 : Hid (KeepB S w w1):=Lib.hid (KeepX.of hk1)
 have e0 : w0.heap.size = w.heap.size + 1:=HSZ.out
 rw [← hw1]
 simp only [e0]
 clear hw1 hk1 hk0 HB hst Hst HR0 HBU HBM hbz hbi hbn e0
 obtain ⟨r,hrr⟩ : ∃ r,w.heap.size = r:=⟨_,rfl⟩
 obtain ⟨T,hT⟩ : ∃ T,r + 1 = T:=⟨_,rfl⟩
 have HRW:=Lib.hid hrr
 rw [hrr] at HR1 hSw;rw [hrr,hT] at HT1
 simp only [hrr,hT]
 have hrT : r < T:=by omega
 have h01 : T < w1.heap.size:=HT1.out.lt
 clear hrr hT
 have hp0 : (0 : Nat) ≤ L:=Nat.zero_le _
 have HOK1 : Hid (MsgR.ok (msgZ 0)):=Lib.hid HZ0.out.o
 have N1:=Lib.hid (NUM.out 4 (0,0) w1 KB1.out HS1.out hp0 (by omega) (by omega))
 have HPL2 : Hid ((0,0).1 ≤ b.length):=Lib.hid (by rw [HLL.out];exact hp0)
 have G2:=Lib.hid (rd_u32 (p:=(0,0)) HPL2.out 0)
 have hp2l : (tkP b 4 (0,0)).1 ≤ L:=by rw [← HLL.out];exact tkP_le HPL2.out
 obtain ⟨V1,hV1⟩ : ∃ V,nmV b 4 (0,0) = V:=⟨_,rfl⟩
 obtain ⟨proto,hx⟩ : ∃ v : UInt32,v = UInt32.ofNat V1:=⟨_,rfl⟩
 have hvv : (V1 : Int) % 4294967296 = (proto.toNat : Int):=by rw [hx,UInt32.toNat_ofNat'];omega
 have hvw : IntKind.u32.wrap (V1 : Int) = (proto.toNat : Int):=by rw [IntKind.wrap_u32];exact hvv
 rw [hV1] at N1 G2
 rw [← hx] at G2
 clear hV1 hx
 obtain ⟨p2,hpn⟩ : ∃ x,tkP b 4 (0,0) = x:=⟨_,rfl⟩
 rw [hpn] at N1 G2 hp2l
 clear hpn
 go_upto_region 4 with (go_at_call 58;refine N1.out.mono ?_;rintro e w2 ⟨rfl,hbX,hkX⟩;have xc:=(KeepB.blk hkX HT1.out (by omega)).cell 1;have fc:=(KeepB.blk hkX HT1.out (by omega)).frozen 1;rw [show (MsgR.cells (msgZ 0))[1]? = some (u32v 0) from rfl] at xc;have HBX:=Lib.hid hbX;have HKX:=Lib.hid hkX;clear hbX hkX)
 have HS2:=Lib.hid HBX.out;have HR2:=Lib.hid (KeepB.blk HKX.out HR1.out (by omega));have HT2:=Lib.hid (KeepB.blk HKX.out HT1.out (by omega));have KB2 : Hid (KeepB S w w2):=Lib.hid (KB1.out.trans HKX.out (fun _ _ q => q))
 clear HBX HKX N1 HS1 HR1 HT1 KB1
 obtain ⟨w3,hwn⟩ : ∃ x,x = w2.setCell ⟨T,1,none⟩ (.int .u32 proto.toNat):=⟨_,rfl⟩
 have HT3 : Hid (Blk w3 T 39 (MsgR.cells { msgZ 0 with proto:=proto })):=by rw [hwn];exact Lib.hid (by have q:=HT2.out.set_ 1 (.int .u32 proto.toNat);skip;exact q)
 have hg : w2.grownBy w3 (some T):=by rw [hwn];exact grown_set (grown_refl _ _)
 have HS3:=Lib.hid (HS2.out.grown hg (fun q => by have:=Option.some.inj q;omega));have HR3:=Lib.hid (HR2.out.grown hg (fun q => by have:=Option.some.inj q;omega));have KB3 : Hid (KeepB S w w3):=Lib.hid (KB2.out.new hg (by have:=HRW.out;omega))
 have HOK3 : Hid (MsgR.ok { msgZ 0 with proto:=proto }):=Lib.hid ⟨HOK1.out.k,HOK1.out.n,HOK1.out.s,HOK1.out.b,HOK1.out.h,HOK1.out.l,HOK1.out.i,HOK1.out.z⟩
 rw [← hwn]
 clear hwn hg HOK1
 clear HS2 HR2 HT2 KB2
 clear xc fc hvv hvw
 have N1:=Lib.hid (NUM.out 8 p2 w3 KB3.out HS3.out hp2l (by omega) (by omega))
 have HPL4 : Hid (p2.1 ≤ b.length):=Lib.hid (by rw [HLL.out];exact hp2l)
 have G4:=Lib.hid (rd_u64 (p:=p2) HPL4.out 0)
 have hp4l : (tkP b 8 p2).1 ≤ L:=by rw [← HLL.out];exact tkP_le HPL4.out
 obtain ⟨nonce,hV1⟩ : ∃ V,nmV b 8 p2 = V:=⟨_,rfl⟩
 have HNX : Hid (nonce < 2 ^ 64):=Lib.hid (by rw [← hV1];exact numN_lt8 _ _)
 rw [hV1] at N1 G4
 clear hV1
 obtain ⟨p4,hpn⟩ : ∃ x,tkP b 8 p2 = x:=⟨_,rfl⟩
 rw [hpn] at N1 G4 hp4l
 clear hpn
 go_upto_region 6 with (go_at_call 58;refine N1.out.mono ?_;rintro e w4 ⟨rfl,hbX,hkX⟩;have xc:=(KeepB.blk hkX HT3.out (by omega)).cell 2;have fc:=(KeepB.blk hkX HT3.out (by omega)).frozen 2;rw [show (MsgR.cells { msgZ 0 with proto:=proto })[2]? = some (u64v 0) from rfl] at xc;have HBX:=Lib.hid hbX;have HKX:=Lib.hid hkX;clear hbX hkX)
 have HS4:=Lib.hid HBX.out;have HR4:=Lib.hid (KeepB.blk HKX.out HR3.out (by omega));have HT4:=Lib.hid (KeepB.blk HKX.out HT3.out (by omega));have KB4 : Hid (KeepB S w w4):=Lib.hid (KB3.out.trans HKX.out (fun _ _ q => q))
 clear HBX HKX N1 HS3 HR3 HT3 KB3
 obtain ⟨w5,hwn⟩ : ∃ x,x = w4.setCell ⟨T,2,none⟩ (.int .u64 nonce):=⟨_,rfl⟩
 have HT5 : Hid (Blk w5 T 39 (MsgR.cells { msgZ 0 with proto:=proto,nonce:=nonce })):=by rw [hwn];exact Lib.hid (by have q:=HT4.out.set_ 2 (.int .u64 nonce);skip;exact q)
 have hg : w4.grownBy w5 (some T):=by rw [hwn];exact grown_set (grown_refl _ _)
 have HS5:=Lib.hid (HS4.out.grown hg (fun q => by have:=Option.some.inj q;omega));have HR5:=Lib.hid (HR4.out.grown hg (fun q => by have:=Option.some.inj q;omega));have KB5 : Hid (KeepB S w w5):=Lib.hid (KB4.out.new hg (by have:=HRW.out;omega))
 have HOK5 : Hid (MsgR.ok { msgZ 0 with proto:=proto,nonce:=nonce }):=Lib.hid ⟨HOK3.out.k,HNX.out,HOK3.out.s,HOK3.out.b,HOK3.out.h,HOK3.out.l,HOK3.out.i,HOK3.out.z⟩
 rw [← hwn]
 clear hwn hg HOK3
 clear HS4 HR4 HT4 KB4
 clear xc fc
 have N1:=Lib.hid (NUM.out 4 p4 w5 KB5.out HS5.out hp4l (by omega) (by omega))
 have HPL6 : Hid (p4.1 ≤ b.length):=Lib.hid (by rw [HLL.out];exact hp4l)
 have G6:=Lib.hid (rd_u32 (p:=p4) HPL6.out 0)
 have hp6l : (tkP b 4 p4).1 ≤ L:=by rw [← HLL.out];exact tkP_le HPL6.out
 obtain ⟨V1,hV1⟩ : ∃ V,nmV b 4 p4 = V:=⟨_,rfl⟩
 obtain ⟨height,hx⟩ : ∃ v : UInt32,v = UInt32.ofNat V1:=⟨_,rfl⟩
 have hvv : (V1 : Int) % 4294967296 = (height.toNat : Int):=by rw [hx,UInt32.toNat_ofNat'];omega
 have hvw : IntKind.u32.wrap (V1 : Int) = (height.toNat : Int):=by rw [IntKind.wrap_u32];exact hvv
 rw [hV1] at N1 G6
 rw [← hx] at G6
 clear hV1 hx
 obtain ⟨p6,hpn⟩ : ∃ x,tkP b 4 p4 = x:=⟨_,rfl⟩
 rw [hpn] at N1 G6 hp6l
 clear hpn
 go_upto_region 8 with (go_at_call 58;refine N1.out.mono ?_;rintro e w6 ⟨rfl,hbX,hkX⟩;have xc:=(KeepB.blk hkX HT5.out (by omega)).cell 3;have fc:=(KeepB.blk hkX HT5.out (by omega)).frozen 3;rw [show (MsgR.cells { msgZ 0 with proto:=proto,nonce:=nonce })[3]? = some (u32v 0) from rfl] at xc;have HBX:=Lib.hid hbX;have HKX:=Lib.hid hkX;clear hbX hkX)
 have HS6:=Lib.hid HBX.out;have HR6:=Lib.hid (KeepB.blk HKX.out HR5.out (by omega));have HT6:=Lib.hid (KeepB.blk HKX.out HT5.out (by omega));have KB6 : Hid (KeepB S w w6):=Lib.hid (KB5.out.trans HKX.out (fun _ _ q => q))
 clear HBX HKX N1 HS5 HR5 HT5 KB5
 obtain ⟨w7,hwn⟩ : ∃ x,x = w6.setCell ⟨T,3,none⟩ (.int .u32 height.toNat):=⟨_,rfl⟩
 have HT7 : Hid (Blk w7 T 39 (MsgR.cells { msgZ 0 with proto:=proto,nonce:=nonce,height:=height })):=by rw [hwn];exact Lib.hid (by have q:=HT6.out.set_ 3 (.int .u32 height.toNat);skip;exact q)
 have hg : w6.grownBy w7 (some T):=by rw [hwn];exact grown_set (grown_refl _ _)
 have HS7:=Lib.hid (HS6.out.grown hg (fun q => by have:=Option.some.inj q;omega));have HR7:=Lib.hid (HR6.out.grown hg (fun q => by have:=Option.some.inj q;omega));have KB7 : Hid (KeepB S w w7):=Lib.hid (KB6.out.new hg (by have:=HRW.out;omega))
 have HOK7 : Hid (MsgR.ok { msgZ 0 with proto:=proto,nonce:=nonce,height:=height }):=Lib.hid ⟨HOK5.out.k,HOK5.out.n,HOK5.out.s,HOK5.out.b,HOK5.out.h,HOK5.out.l,HOK5.out.i,HOK5.out.z⟩
 rw [← hwn]
 clear hwn hg HOK5
 clear HS6 HR6 HT6 KB6
 clear xc fc hvv hvw
 go_wp2_with fail
 refine (ITQ.out _).mono ?_
 clear ITQ
 rintro e w8 ⟨rfl,kq⟩
 have HKX:=Lib.hid (KeepX.of kq : KeepB S w7 w8);have HBX:=Lib.hid (HS7.out.keep kq)
 clear kq
 have HS8:=Lib.hid HBX.out;have HR8:=Lib.hid (KeepB.blk HKX.out HR7.out (by omega));have HT8:=Lib.hid (KeepB.blk HKX.out HT7.out (by omega));have KB8 : Hid (KeepB S w w8):=Lib.hid (KB7.out.trans HKX.out (fun _ _ q => q))
 clear HBX HKX HS7 HR7 HT7 KB7
 obtain ⟨m,hm⟩ : ∃ m : MsgR,{ msgZ 0 with proto:=proto,nonce:=nonce,height:=height } = m:=⟨_,rfl⟩
 have HGS : Hid (GS (partsM (msgZ 0)) b (0,0) p6 [.u32 proto,.u64 nonce,.u32 height]):=Lib.hid (GS.cons G2.out (GS.cons G4.out (GS.cons G6.out (GS.nil (by rw [HLL.out];exact hp6l)))))
 have HMO : Hid (m.pl = msgOf 0 (([.u32 proto,.u64 nonce,.u32 height] : List PV).map PV.pl)):=Lib.hid (by rw [← hm];rfl)
 obtain ⟨ds,hds⟩ : ∃ ds,MsB m ds:=⟨_,MsB.of (by rw [← hm];exact HOK7.out)⟩
 have hdz:=hds.z;have hdi:=hds.i;have hdn:=hds.n
 have HDS:=Lib.hid hds
 have HM:=Lib.hid hm
 have HTD : Hid (Blk w8 T 39 ds.toList):=Lib.hid (by rw [hds.l,← hm];exact HT8.out)
 obtain ⟨w99,hst,hb99,hg99⟩:=run_store_blk (P:=Try.prog) ds.toList HR8.out (by rw [Array.length_toList,Array.length_toList,hz1,hdz]) hds.o
 have Hb99:=Lib.hid hb99;have HG99:=Lib.hid hg99
 have HS99:=Lib.hid (HS8.out.grown hg99 (fun q => by have:=Option.some.inj q;omega));have KB99 : Hid (KeepB S w w99):=Lib.hid (KB8.out.new hg99 (by have:=HRW.out;omega))
 clear hb99 hg99 hds hm HT8
 go_wp2_with ((with_reducible refine load_arr T ds (Eq.trans ?_ rfl) HTD.out _ Try.underlying39 rfl hdi ?_);rfl)
 have hb99:=Hb99.out
 have hsz : w8.heap.size ≤ w99.heap.size:=HG99.out.size
 have HAT : ∀ W,MidF (fun _ => True) w w99 W → m.at_ W:=fun W hW => by
  rw [← HM.out]
  exact ⟨HOK7.out,Rd.nil _ _,⟨Nat.le_refl _,Nat.zero_le _⟩,Rd.nil _ _,⟨Nat.le_refl _,Nat.zero_le _⟩,Rd.nil _ _,⟨Nat.le_refl _,Nat.zero_le _⟩,Rd.nil _ _,⟨Nat.le_refl _,Nat.zero_le _⟩,Rd.nil _ _,⟨Nat.le_refl _,Nat.zero_le _⟩,txZ_at _⟩
 exact bodyPost_ret (v:=.agg ds) (results_cell_row Try.results31 _ _ r _ _ _ _ rfl hb99 Try.underlying39 rfl (by rw [List.size_toArray,Array.length_toList];exact hdi)) rfl
  ⟨m,ds,p6,[.u32 proto,.u64 nonce,.u32 height],rfl,HDS.out,⟨HAT w99 ⟨trivial,fun _ _ _ => rfl⟩,HAT⟩,HMO.out,HGS.out,HS99.out,KB99.out⟩
set_option maxRecDepth 100000 in
set_option maxHeartbeats 8000000 in
theorem r9msg_1 (hb : Blk w S 85 (srcL A b.length c (0,0))) (hc : b.length ≤ c) (hl : b.length ≤ 1000000000) (hcm : c ≤ maxLen) (hr : RdX (some S) w A (b.map u8v)) :
  Calls Try.prog 31 #[.pointer (some ⟨S,0,none⟩),.int .i64 1] w (Msd S (srcL A b.length c) b 1 w):=by
 have hrr : ∀ y,KeepB S w y → RdX (some S) y A (b.map u8v):=fun y k => hr.kb k
 have ITQ : Hid (∀ y,Calls Try.prog 36 #[.int .i64 1] y fun e w' => e = .returned (.bool false)∧Keep y w'):=Lib.hid fun y => ritems_any 1 y
 have hSw:=hb.lt
 have HB:=Lib.hid hb
 have HZ0 : Hid ((msgZ 1).at_ w):=Lib.hid (msgZ_at 1 (by omega) w)
 obtain ⟨zs,hz2,hzM⟩:=zrmsg_letter
 have hz1:=hzM.z;have hz3:=hzM.n
 have HBU:=Lib.hid (rmsg_built0 1)
 obtain ⟨bs,hbs⟩ : ∃ x,(msgZ 1).cells.toArray = x:=⟨_,rfl⟩
 have hbM : MsB (msgZ 1) bs:=by rw [← hbs];exact MsB.of (msgZ_ok 1 (by omega))
 rw [hbs] at HBU
 have hbz:=hbM.z;have hbi:=hbM.i;have hbn:=hbM.n
 have HBM:=Lib.hid hbM
 have Hst : Hid (∀ ww : World,(storeCells ⟨ww.heap.size,0,none⟩ bs.toList 0).run Try.prog (ww.alloc (.cells zs 39)) = .ok () (ww.alloc (.cells bs 39))):=Lib.hid fun ww => run_storeCells_new (P:=Try.prog) ww 39 zs bs hbi (hz1.trans hbz.symm) (by have:=all_oneCell_toArray hbM.o;rwa [Array.toArray_toList] at this)
 clear hb hr hrr hzM hbM hbs
 obtain ⟨L,hL⟩ : ∃ L,b.length = L:=⟨_,rfl⟩
 have HLL:=Lib.hid hL
 rw [hL] at HB hl ⊢
 clear hL
 go_enter Try.func31,Try.ntmps31
 go_upto_region 1 with fail
 obtain ⟨w0,hw0⟩ : ∃ x,x = w.alloc (.cells zs 39):=⟨_,rfl⟩
 have HR0 : Hid (Blk w0 w.heap.size 39 zs.toList):=by rw [hw0];exact Lib.hid (Blk.new w _ zs.toList)
 have hk0 : Keep w w0:=by rw [hw0];exact keep_new _ _
 have HSZ : Hid (w0.heap.size = w.heap.size + 1):=Lib.hid (by rw [hw0];simp)
 rw [← hw0]
 clear hw0
 have hst:=Hst.out w0
 go_upto_region 2 with ((with_reducible refine list_bldg _ bs (Eq.trans ?_ rfl) HBU.out (Eq.trans ?_ rfl) ?_);rfl;rfl)
 obtain ⟨w1,hw1⟩ : ∃ x,x = w0.alloc (.cells bs 39):=⟨_,rfl⟩
 have HR1 : Hid (Blk w1 w.heap.size 39 zs.toList):=by rw [hw1];exact Lib.hid (HR0.out.alloc _)
 have HT1 : Hid (Blk w1 (w.heap.size + 1) 39 (msgZ 1).cells):=by
  rw [hw1,← HSZ.out,← HBM.out.l]
  exact Lib.hid (Blk.new w0 _ bs.toList)
 have hk1 : Keep w w1:=by rw [hw1];exact keep_trans hk0 (keep_new _ _)
 have HS1 : Hid (Blk w1 S 85 (srcL A L c (0,0))):=Lib.hid (HB.out.keep hk1)
 have KB1 : Hid (KeepB S w w1):=Lib.hid (KeepX.of hk1)
 have e0 : w0.heap.size = w.heap.size + 1:=HSZ.out
 rw [← hw1]
 simp only [e0]
 clear hw1 hk1 hk0 HB hst Hst HR0 HBU HBM hbz hbi hbn e0
 obtain ⟨r,hrr⟩ : ∃ r,w.heap.size = r:=⟨_,rfl⟩
 obtain ⟨T,hT⟩ : ∃ T,r + 1 = T:=⟨_,rfl⟩
 have HRW:=Lib.hid hrr
 rw [hrr] at HR1 hSw;rw [hrr,hT] at HT1
 simp only [hrr,hT]
 have hrT : r < T:=by omega
 have h01 : T < w1.heap.size:=HT1.out.lt
 clear hrr hT
 have hp0 : (0 : Nat) ≤ L:=Nat.zero_le _
 have HOK1 : Hid (MsgR.ok (msgZ 1)):=Lib.hid HZ0.out.o
 go_wp2_with fail
 refine (ITQ.out _).mono ?_
 clear ITQ
 rintro e w2 ⟨rfl,kq⟩
 have HKX:=Lib.hid (KeepX.of kq : KeepB S w1 w2);have HBX:=Lib.hid (HS1.out.keep kq)
 clear kq
 have HS2:=Lib.hid HBX.out;have HR2:=Lib.hid (KeepB.blk HKX.out HR1.out (by omega));have HT2:=Lib.hid (KeepB.blk HKX.out HT1.out (by omega));have KB2 : Hid (KeepB S w w2):=Lib.hid (KB1.out.trans HKX.out (fun _ _ q => q))
 clear HBX HKX HS1 HR1 HT1 KB1
 obtain ⟨m,hm⟩ : ∃ m : MsgR,(msgZ 1) = m:=⟨_,rfl⟩
 have HGS : Hid (GS (partsM (msgZ 1)) b (0,0) (0,0) []):=Lib.hid (GS.nil (by rw [HLL.out];exact hp0))
 have HMO : Hid (m.pl = msgOf 1 (([] : List PV).map PV.pl)):=Lib.hid (by rw [← hm];rfl)
 obtain ⟨ds,hds⟩ : ∃ ds,MsB m ds:=⟨_,MsB.of (by rw [← hm];exact HOK1.out)⟩
 have hdz:=hds.z;have hdi:=hds.i;have hdn:=hds.n
 have HDS:=Lib.hid hds
 have HM:=Lib.hid hm
 have HTD : Hid (Blk w2 T 39 ds.toList):=Lib.hid (by rw [hds.l,← hm];exact HT2.out)
 obtain ⟨w99,hst,hb99,hg99⟩:=run_store_blk (P:=Try.prog) ds.toList HR2.out (by rw [Array.length_toList,Array.length_toList,hz1,hdz]) hds.o
 have Hb99:=Lib.hid hb99;have HG99:=Lib.hid hg99
 have HS99:=Lib.hid (HS2.out.grown hg99 (fun q => by have:=Option.some.inj q;omega));have KB99 : Hid (KeepB S w w99):=Lib.hid (KB2.out.new hg99 (by have:=HRW.out;omega))
 clear hb99 hg99 hds hm HT2
 go_wp2_with ((with_reducible refine load_arr T ds (Eq.trans ?_ rfl) HTD.out _ Try.underlying39 rfl hdi ?_);rfl)
 have hb99:=Hb99.out
 have hsz : w2.heap.size ≤ w99.heap.size:=HG99.out.size
 have HAT : ∀ W,MidF (fun _ => True) w w99 W → m.at_ W:=fun W hW => by
  rw [← HM.out]
  exact ⟨HOK1.out,Rd.nil _ _,⟨Nat.le_refl _,Nat.zero_le _⟩,Rd.nil _ _,⟨Nat.le_refl _,Nat.zero_le _⟩,Rd.nil _ _,⟨Nat.le_refl _,Nat.zero_le _⟩,Rd.nil _ _,⟨Nat.le_refl _,Nat.zero_le _⟩,Rd.nil _ _,⟨Nat.le_refl _,Nat.zero_le _⟩,txZ_at _⟩
 exact bodyPost_ret (v:=.agg ds) (results_cell_row Try.results31 _ _ r _ _ _ _ rfl hb99 Try.underlying39 rfl (by rw [List.size_toArray,Array.length_toList];exact hdi)) rfl
  ⟨m,ds,(0,0),[],rfl,HDS.out,⟨HAT w99 ⟨trivial,fun _ _ _ => rfl⟩,HAT⟩,HMO.out,HGS.out,HS99.out,KB99.out⟩
set_option maxRecDepth 100000 in
set_option maxHeartbeats 8000000 in
theorem r9msg_2 (hb : Blk w S 85 (srcL A b.length c (0,0))) (hc : b.length ≤ c) (hl : b.length ≤ 1000000000) (hcm : c ≤ maxLen) (hr : RdX (some S) w A (b.map u8v)) :
  Calls Try.prog 31 #[.pointer (some ⟨S,0,none⟩),.int .i64 2] w (Msd S (srcL A b.length c) b 2 w):=by
 have hrr : ∀ y,KeepB S w y → RdX (some S) y A (b.map u8v):=fun y k => hr.kb k
 have NUM : Hid (∀ (m : Nat) (p : SP) (y : World),KeepB S w y → Blk y S 85 (srcL A b.length c p) → p.1 ≤ b.length → m ≤ 8 → 0 < m → Calls Try.prog 58 #[.pointer (some ⟨S,0,none⟩),iv m] y (Red S 85 (srcL A b.length c (tkP b m p)) (u64v (nmV b m p)) y)):=Lib.hid fun m p y k h2 h3 h4 h5 => r9num_any S A b c p m y h2 h3 hc hl hcm (hrr y k) h4 h5
 have ITQ : Hid (∀ y,Calls Try.prog 36 #[.int .i64 2] y fun e w' => e = .returned (.bool false)∧Keep y w'):=Lib.hid fun y => ritems_any 2 y
 have hSw:=hb.lt
 have HB:=Lib.hid hb
 have HZ0 : Hid ((msgZ 2).at_ w):=Lib.hid (msgZ_at 2 (by omega) w)
 obtain ⟨zs,hz2,hzM⟩:=zrmsg_letter
 have hz1:=hzM.z;have hz3:=hzM.n
 have HBU:=Lib.hid (rmsg_built0 2)
 obtain ⟨bs,hbs⟩ : ∃ x,(msgZ 2).cells.toArray = x:=⟨_,rfl⟩
 have hbM : MsB (msgZ 2) bs:=by rw [← hbs];exact MsB.of (msgZ_ok 2 (by omega))
 rw [hbs] at HBU
 have hbz:=hbM.z;have hbi:=hbM.i;have hbn:=hbM.n
 have HBM:=Lib.hid hbM
 have Hst : Hid (∀ ww : World,(storeCells ⟨ww.heap.size,0,none⟩ bs.toList 0).run Try.prog (ww.alloc (.cells zs 39)) = .ok () (ww.alloc (.cells bs 39))):=Lib.hid fun ww => run_storeCells_new (P:=Try.prog) ww 39 zs bs hbi (hz1.trans hbz.symm) (by have:=all_oneCell_toArray hbM.o;rwa [Array.toArray_toList] at this)
 clear hb hr hrr hzM hbM hbs
 obtain ⟨L,hL⟩ : ∃ L,b.length = L:=⟨_,rfl⟩
 have HLL:=Lib.hid hL
 rw [hL] at HB NUM hl ⊢
 clear hL
 go_enter Try.func31,Try.ntmps31
 go_upto_region 1 with fail
 obtain ⟨w0,hw0⟩ : ∃ x,x = w.alloc (.cells zs 39):=⟨_,rfl⟩
 have HR0 : Hid (Blk w0 w.heap.size 39 zs.toList):=by rw [hw0];exact Lib.hid (Blk.new w _ zs.toList)
 have hk0 : Keep w w0:=by rw [hw0];exact keep_new _ _
 have HSZ : Hid (w0.heap.size = w.heap.size + 1):=Lib.hid (by rw [hw0];simp)
 rw [← hw0]
 clear hw0
 have hst:=Hst.out w0
 go_upto_region 2 with ((with_reducible refine list_bldg _ bs (Eq.trans ?_ rfl) HBU.out (Eq.trans ?_ rfl) ?_);rfl;rfl)
 obtain ⟨w1,hw1⟩ : ∃ x,x = w0.alloc (.cells bs 39):=⟨_,rfl⟩
 have HR1 : Hid (Blk w1 w.heap.size 39 zs.toList):=by rw [hw1];exact Lib.hid (HR0.out.alloc _)
 have HT1 : Hid (Blk w1 (w.heap.size + 1) 39 (msgZ 2).cells):=by
  rw [hw1,← HSZ.out,← HBM.out.l]
  exact Lib.hid (Blk.new w0 _ bs.toList)
 have hk1 : Keep w w1:=by rw [hw1];exact keep_trans hk0 (keep_new _ _)
 have HS1 : Hid (Blk w1 S 85 (srcL A L c (0,0))):=Lib.hid (HB.out.keep hk1)
 have KB1 : Hid (KeepB S w w1):=Lib.hid (KeepX.of hk1)
 have e0 : w0.heap.size = w.heap.size + 1:=HSZ.out
 rw [← hw1]
 simp only [e0]
 clear hw1 hk1 hk0 HB hst Hst HR0 HBU HBM hbz hbi hbn e0
 obtain ⟨r,hrr⟩ : ∃ r,w.heap.size = r:=⟨_,rfl⟩
 obtain ⟨T,hT⟩ : ∃ T,r + 1 = T:=⟨_,rfl⟩
 have HRW:=Lib.hid hrr
 rw [hrr] at HR1 hSw;rw [hrr,hT] at HT1
 simp only [hrr,hT]
 have hrT : r < T:=by omega
 have h01 : T < w1.heap.size:=HT1.out.lt
 clear hrr hT
 have hp0 : (0 : Nat) ≤ L:=Nat.zero_le _
 have HOK1 : Hid (MsgR.ok (msgZ 2)):=Lib.hid HZ0.out.o
 have N1:=Lib.hid (NUM.out 8 (0,0) w1 KB1.out HS1.out hp0 (by omega) (by omega))
 have HPL2 : Hid ((0,0).1 ≤ b.length):=Lib.hid (by rw [HLL.out];exact hp0)
 have G2:=Lib.hid (rd_u64 (p:=(0,0)) HPL2.out 0)
 have hp2l : (tkP b 8 (0,0)).1 ≤ L:=by rw [← HLL.out];exact tkP_le HPL2.out
 obtain ⟨nonce,hV1⟩ : ∃ V,nmV b 8 (0,0) = V:=⟨_,rfl⟩
 have HNX : Hid (nonce < 2 ^ 64):=Lib.hid (by rw [← hV1];exact numN_lt8 _ _)
 rw [hV1] at N1 G2
 clear hV1
 obtain ⟨p2,hpn⟩ : ∃ x,tkP b 8 (0,0) = x:=⟨_,rfl⟩
 rw [hpn] at N1 G2 hp2l
 clear hpn
 go_upto_region 6 with (go_at_call 58;refine N1.out.mono ?_;rintro e w2 ⟨rfl,hbX,hkX⟩;have xc:=(KeepB.blk hkX HT1.out (by omega)).cell 2;have fc:=(KeepB.blk hkX HT1.out (by omega)).frozen 2;rw [show (MsgR.cells (msgZ 2))[2]? = some (u64v 0) from rfl] at xc;have HBX:=Lib.hid hbX;have HKX:=Lib.hid hkX;clear hbX hkX)
 have HS2:=Lib.hid HBX.out;have HR2:=Lib.hid (KeepB.blk HKX.out HR1.out (by omega));have HT2:=Lib.hid (KeepB.blk HKX.out HT1.out (by omega));have KB2 : Hid (KeepB S w w2):=Lib.hid (KB1.out.trans HKX.out (fun _ _ q => q))
 clear HBX HKX N1 HS1 HR1 HT1 KB1
 obtain ⟨w3,hwn⟩ : ∃ x,x = w2.setCell ⟨T,2,none⟩ (.int .u64 nonce):=⟨_,rfl⟩
 have HT3 : Hid (Blk w3 T 39 (MsgR.cells { msgZ 2 with nonce:=nonce })):=by rw [hwn];exact Lib.hid (by have q:=HT2.out.set_ 2 (.int .u64 nonce);skip;exact q)
 have hg : w2.grownBy w3 (some T):=by rw [hwn];exact grown_set (grown_refl _ _)
 have HS3:=Lib.hid (HS2.out.grown hg (fun q => by have:=Option.some.inj q;omega));have HR3:=Lib.hid (HR2.out.grown hg (fun q => by have:=Option.some.inj q;omega));have KB3 : Hid (KeepB S w w3):=Lib.hid (KB2.out.new hg (by have:=HRW.out;omega))
 have HOK3 : Hid (MsgR.ok { msgZ 2 with nonce:=nonce }):=Lib.hid ⟨HOK1.out.k,HNX.out,HOK1.out.s,HOK1.out.b,HOK1.out.h,HOK1.out.l,HOK1.out.i,HOK1.out.z⟩
 rw [← hwn]
 clear hwn hg HOK1
 clear HS2 HR2 HT2 KB2
 clear xc fc
 go_wp2_with fail
 refine (ITQ.out _).mono ?_
 clear ITQ
 rintro e w4 ⟨rfl,kq⟩
 have HKX:=Lib.hid (KeepX.of kq : KeepB S w3 w4);have HBX:=Lib.hid (HS3.out.keep kq)
 clear kq
 have HS4:=Lib.hid HBX.out;have HR4:=Lib.hid (KeepB.blk HKX.out HR3.out (by omega));have HT4:=Lib.hid (KeepB.blk HKX.out HT3.out (by omega));have KB4 : Hid (KeepB S w w4):=Lib.hid (KB3.out.trans HKX.out (fun _ _ q => q))
 clear HBX HKX HS3 HR3 HT3 KB3
 obtain ⟨m,hm⟩ : ∃ m : MsgR,{ msgZ 2 with nonce:=nonce } = m:=⟨_,rfl⟩
 have HGS : Hid (GS (partsM (msgZ 2)) b (0,0) p2 [.u64 nonce]):=Lib.hid (GS.cons G2.out (GS.nil (by rw [HLL.out];exact hp2l)))
 have HMO : Hid (m.pl = msgOf 2 (([.u64 nonce] : List PV).map PV.pl)):=Lib.hid (by rw [← hm];rfl)
 obtain ⟨ds,hds⟩ : ∃ ds,MsB m ds:=⟨_,MsB.of (by rw [← hm];exact HOK3.out)⟩
 have hdz:=hds.z;have hdi:=hds.i;have hdn:=hds.n
 have HDS:=Lib.hid hds
 have HM:=Lib.hid hm
 have HTD : Hid (Blk w4 T 39 ds.toList):=Lib.hid (by rw [hds.l,← hm];exact HT4.out)
 obtain ⟨w99,hst,hb99,hg99⟩:=run_store_blk (P:=Try.prog) ds.toList HR4.out (by rw [Array.length_toList,Array.length_toList,hz1,hdz]) hds.o
 have Hb99:=Lib.hid hb99;have HG99:=Lib.hid hg99
 have HS99:=Lib.hid (HS4.out.grown hg99 (fun q => by have:=Option.some.inj q;omega));have KB99 : Hid (KeepB S w w99):=Lib.hid (KB4.out.new hg99 (by have:=HRW.out;omega))
 clear hb99 hg99 hds hm HT4
 go_wp2_with ((with_reducible refine load_arr T ds (Eq.trans ?_ rfl) HTD.out _ Try.underlying39 rfl hdi ?_);rfl)
 have hb99:=Hb99.out
 have hsz : w4.heap.size ≤ w99.heap.size:=HG99.out.size
 have HAT : ∀ W,MidF (fun _ => True) w w99 W → m.at_ W:=fun W hW => by
  rw [← HM.out]
  exact ⟨HOK3.out,Rd.nil _ _,⟨Nat.le_refl _,Nat.zero_le _⟩,Rd.nil _ _,⟨Nat.le_refl _,Nat.zero_le _⟩,Rd.nil _ _,⟨Nat.le_refl _,Nat.zero_le _⟩,Rd.nil _ _,⟨Nat.le_refl _,Nat.zero_le _⟩,Rd.nil _ _,⟨Nat.le_refl _,Nat.zero_le _⟩,txZ_at _⟩
 exact bodyPost_ret (v:=.agg ds) (results_cell_row Try.results31 _ _ r _ _ _ _ rfl hb99 Try.underlying39 rfl (by rw [List.size_toArray,Array.length_toList];exact hdi)) rfl
  ⟨m,ds,p2,[.u64 nonce],rfl,HDS.out,⟨HAT w99 ⟨trivial,fun _ _ _ => rfl⟩,HAT⟩,HMO.out,HGS.out,HS99.out,KB99.out⟩
set_option maxRecDepth 100000 in
set_option maxHeartbeats 8000000 in
theorem r9msg_3 (hb : Blk w S 85 (srcL A b.length c (0,0))) (hc : b.length ≤ c) (hl : b.length ≤ 1000000000) (hcm : c ≤ maxLen) (hr : RdX (some S) w A (b.map u8v)) :
  Calls Try.prog 31 #[.pointer (some ⟨S,0,none⟩),.int .i64 3] w (Msd S (srcL A b.length c) b 3 w):=by
 have hrr : ∀ y,KeepB S w y → RdX (some S) y A (b.map u8v):=fun y k => hr.kb k
 have NUM : Hid (∀ (m : Nat) (p : SP) (y : World),KeepB S w y → Blk y S 85 (srcL A b.length c p) → p.1 ≤ b.length → m ≤ 8 → 0 < m → Calls Try.prog 58 #[.pointer (some ⟨S,0,none⟩),iv m] y (Red S 85 (srcL A b.length c (tkP b m p)) (u64v (nmV b m p)) y)):=Lib.hid fun m p y k h2 h3 h4 h5 => r9num_any S A b c p m y h2 h3 hc hl hcm (hrr y k) h4 h5
 have ITQ : Hid (∀ y,Calls Try.prog 36 #[.int .i64 3] y fun e w' => e = .returned (.bool false)∧Keep y w'):=Lib.hid fun y => ritems_any 3 y
 have hSw:=hb.lt
 have HB:=Lib.hid hb
 have HZ0 : Hid ((msgZ 3).at_ w):=Lib.hid (msgZ_at 3 (by omega) w)
 obtain ⟨zs,hz2,hzM⟩:=zrmsg_letter
 have hz1:=hzM.z;have hz3:=hzM.n
 have HBU:=Lib.hid (rmsg_built0 3)
 obtain ⟨bs,hbs⟩ : ∃ x,(msgZ 3).cells.toArray = x:=⟨_,rfl⟩
 have hbM : MsB (msgZ 3) bs:=by rw [← hbs];exact MsB.of (msgZ_ok 3 (by omega))
 rw [hbs] at HBU
 have hbz:=hbM.z;have hbi:=hbM.i;have hbn:=hbM.n
 have HBM:=Lib.hid hbM
 have Hst : Hid (∀ ww : World,(storeCells ⟨ww.heap.size,0,none⟩ bs.toList 0).run Try.prog (ww.alloc (.cells zs 39)) = .ok () (ww.alloc (.cells bs 39))):=Lib.hid fun ww => run_storeCells_new (P:=Try.prog) ww 39 zs bs hbi (hz1.trans hbz.symm) (by have:=all_oneCell_toArray hbM.o;rwa [Array.toArray_toList] at this)
 clear hb hr hrr hzM hbM hbs
 obtain ⟨L,hL⟩ : ∃ L,b.length = L:=⟨_,rfl⟩
 have HLL:=Lib.hid hL
 rw [hL] at HB NUM hl ⊢
 clear hL
 go_enter Try.func31,Try.ntmps31
 go_upto_region 1 with fail
 obtain ⟨w0,hw0⟩ : ∃ x,x = w.alloc (.cells zs 39):=⟨_,rfl⟩
 have HR0 : Hid (Blk w0 w.heap.size 39 zs.toList):=by rw [hw0];exact Lib.hid (Blk.new w _ zs.toList)
 have hk0 : Keep w w0:=by rw [hw0];exact keep_new _ _
 have HSZ : Hid (w0.heap.size = w.heap.size + 1):=Lib.hid (by rw [hw0];simp)
 rw [← hw0]
 clear hw0
 have hst:=Hst.out w0
 go_upto_region 2 with ((with_reducible refine list_bldg _ bs (Eq.trans ?_ rfl) HBU.out (Eq.trans ?_ rfl) ?_);rfl;rfl)
 obtain ⟨w1,hw1⟩ : ∃ x,x = w0.alloc (.cells bs 39):=⟨_,rfl⟩
 have HR1 : Hid (Blk w1 w.heap.size 39 zs.toList):=by rw [hw1];exact Lib.hid (HR0.out.alloc _)
 have HT1 : Hid (Blk w1 (w.heap.size + 1) 39 (msgZ 3).cells):=by
  rw [hw1,← HSZ.out,← HBM.out.l]
  exact Lib.hid (Blk.new w0 _ bs.toList)
 have hk1 : Keep w w1:=by rw [hw1];exact keep_trans hk0 (keep_new _ _)
 have HS1 : Hid (Blk w1 S 85 (srcL A L c (0,0))):=Lib.hid (HB.out.keep hk1)
 have KB1 : Hid (KeepB S w w1):=Lib.hid (KeepX.of hk1)
 have e0 : w0.heap.size = w.heap.size + 1:=HSZ.out
 rw [← hw1]
 simp only [e0]
 clear hw1 hk1 hk0 HB hst Hst HR0 HBU HBM hbz hbi hbn e0
 obtain ⟨r,hrr⟩ : ∃ r,w.heap.size = r:=⟨_,rfl⟩
 obtain ⟨T,hT⟩ : ∃ T,r + 1 = T:=⟨_,rfl⟩
 have HRW:=Lib.hid hrr
 rw [hrr] at HR1 hSw;rw [hrr,hT] at HT1
 simp only [hrr,hT]
 have hrT : r < T:=by omega
 have h01 : T < w1.heap.size:=HT1.out.lt
 clear hrr hT
 have hp0 : (0 : Nat) ≤ L:=Nat.zero_le _
 have HOK1 : Hid (MsgR.ok (msgZ 3)):=Lib.hid HZ0.out.o
 have N1:=Lib.hid (NUM.out 8 (0,0) w1 KB1.out HS1.out hp0 (by omega) (by omega))
 have HPL2 : Hid ((0,0).1 ≤ b.length):=Lib.hid (by rw [HLL.out];exact hp0)
 have G2:=Lib.hid (rd_u64 (p:=(0,0)) HPL2.out 0)
 have hp2l : (tkP b 8 (0,0)).1 ≤ L:=by rw [← HLL.out];exact tkP_le HPL2.out
 obtain ⟨nonce,hV1⟩ : ∃ V,nmV b 8 (0,0) = V:=⟨_,rfl⟩
 have HNX : Hid (nonce < 2 ^ 64):=Lib.hid (by rw [← hV1];exact numN_lt8 _ _)
 rw [hV1] at N1 G2
 clear hV1
 obtain ⟨p2,hpn⟩ : ∃ x,tkP b 8 (0,0) = x:=⟨_,rfl⟩
 rw [hpn] at N1 G2 hp2l
 clear hpn
 go_upto_region 6 with (go_at_call 58;refine N1.out.mono ?_;rintro e w2 ⟨rfl,hbX,hkX⟩;have xc:=(KeepB.blk hkX HT1.out (by omega)).cell 2;have fc:=(KeepB.blk hkX HT1.out (by omega)).frozen 2;rw [show (MsgR.cells (msgZ 3))[2]? = some (u64v 0) from rfl] at xc;have HBX:=Lib.hid hbX;have HKX:=Lib.hid hkX;clear hbX hkX)
 have HS2:=Lib.hid HBX.out;have HR2:=Lib.hid (KeepB.blk HKX.out HR1.out (by omega));have HT2:=Lib.hid (KeepB.blk HKX.out HT1.out (by omega));have KB2 : Hid (KeepB S w w2):=Lib.hid (KB1.out.trans HKX.out (fun _ _ q => q))
 clear HBX HKX N1 HS1 HR1 HT1 KB1
 obtain ⟨w3,hwn⟩ : ∃ x,x = w2.setCell ⟨T,2,none⟩ (.int .u64 nonce):=⟨_,rfl⟩
 have HT3 : Hid (Blk w3 T 39 (MsgR.cells { msgZ 3 with nonce:=nonce })):=by rw [hwn];exact Lib.hid (by have q:=HT2.out.set_ 2 (.int .u64 nonce);skip;exact q)
 have hg : w2.grownBy w3 (some T):=by rw [hwn];exact grown_set (grown_refl _ _)
 have HS3:=Lib.hid (HS2.out.grown hg (fun q => by have:=Option.some.inj q;omega));have HR3:=Lib.hid (HR2.out.grown hg (fun q => by have:=Option.some.inj q;omega));have KB3 : Hid (KeepB S w w3):=Lib.hid (KB2.out.new hg (by have:=HRW.out;omega))
 have HOK3 : Hid (MsgR.ok { msgZ 3 with nonce:=nonce }):=Lib.hid ⟨HOK1.out.k,HNX.out,HOK1.out.s,HOK1.out.b,HOK1.out.h,HOK1.out.l,HOK1.out.i,HOK1.out.z⟩
 rw [← hwn]
 clear hwn hg HOK1
 clear HS2 HR2 HT2 KB2
 clear xc fc
 go_wp2_with fail
 refine (ITQ.out _).mono ?_
 clear ITQ
 rintro e w4 ⟨rfl,kq⟩
 have HKX:=Lib.hid (KeepX.of kq : KeepB S w3 w4);have HBX:=Lib.hid (HS3.out.keep kq)
 clear kq
 have HS4:=Lib.hid HBX.out;have HR4:=Lib.hid (KeepB.blk HKX.out HR3.out (by omega));have HT4:=Lib.hid (KeepB.blk HKX.out HT3.out (by omega));have KB4 : Hid (KeepB S w w4):=Lib.hid (KB3.out.trans HKX.out (fun _ _ q => q))
 clear HBX HKX HS3 HR3 HT3 KB3
 obtain ⟨m,hm⟩ : ∃ m : MsgR,{ msgZ 3 with nonce:=nonce } = m:=⟨_,rfl⟩
 have HGS : Hid (GS (partsM (msgZ 3)) b (0,0) p2 [.u64 nonce]):=Lib.hid (GS.cons G2.out (GS.nil (by rw [HLL.out];exact hp2l)))
 have HMO : Hid (m.pl = msgOf 3 (([.u64 nonce] : List PV).map PV.pl)):=Lib.hid (by rw [← hm];rfl)
 obtain ⟨ds,hds⟩ : ∃ ds,MsB m ds:=⟨_,MsB.of (by rw [← hm];exact HOK3.out)⟩
 have hdz:=hds.z;have hdi:=hds.i;have hdn:=hds.n
 have HDS:=Lib.hid hds
 have HM:=Lib.hid hm
 have HTD : Hid (Blk w4 T 39 ds.toList):=Lib.hid (by rw [hds.l,← hm];exact HT4.out)
 obtain ⟨w99,hst,hb99,hg99⟩:=run_store_blk (P:=Try.prog) ds.toList HR4.out (by rw [Array.length_toList,Array.length_toList,hz1,hdz]) hds.o
 have Hb99:=Lib.hid hb99;have HG99:=Lib.hid hg99
 have HS99:=Lib.hid (HS4.out.grown hg99 (fun q => by have:=Option.some.inj q;omega));have KB99 : Hid (KeepB S w w99):=Lib.hid (KB4.out.new hg99 (by have:=HRW.out;omega))
 clear hb99 hg99 hds hm HT4
 go_wp2_with ((with_reducible refine load_arr T ds (Eq.trans ?_ rfl) HTD.out _ Try.underlying39 rfl hdi ?_);rfl)
 have hb99:=Hb99.out
 have hsz : w4.heap.size ≤ w99.heap.size:=HG99.out.size
 have HAT : ∀ W,MidF (fun _ => True) w w99 W → m.at_ W:=fun W hW => by
  rw [← HM.out]
  exact ⟨HOK3.out,Rd.nil _ _,⟨Nat.le_refl _,Nat.zero_le _⟩,Rd.nil _ _,⟨Nat.le_refl _,Nat.zero_le _⟩,Rd.nil _ _,⟨Nat.le_refl _,Nat.zero_le _⟩,Rd.nil _ _,⟨Nat.le_refl _,Nat.zero_le _⟩,Rd.nil _ _,⟨Nat.le_refl _,Nat.zero_le _⟩,txZ_at _⟩
 exact bodyPost_ret (v:=.agg ds) (results_cell_row Try.results31 _ _ r _ _ _ _ rfl hb99 Try.underlying39 rfl (by rw [List.size_toArray,Array.length_toList];exact hdi)) rfl
  ⟨m,ds,p2,[.u64 nonce],rfl,HDS.out,⟨HAT w99 ⟨trivial,fun _ _ _ => rfl⟩,HAT⟩,HMO.out,HGS.out,HS99.out,KB99.out⟩
set_option maxRecDepth 100000 in
set_option maxHeartbeats 8000000 in
theorem r9msg_4 (hb : Blk w S 85 (srcL A b.length c (0,0))) (hc : b.length ≤ c) (hl : b.length ≤ 1000000000) (hcm : c ≤ maxLen) (hr : RdX (some S) w A (b.map u8v)) :
  Calls Try.prog 31 #[.pointer (some ⟨S,0,none⟩),.int .i64 4] w (Msd S (srcL A b.length c) b 4 w):=by
 have hrr : ∀ y,KeepB S w y → RdX (some S) y A (b.map u8v):=fun y k => hr.kb k
 have NUM : Hid (∀ (m : Nat) (p : SP) (y : World),KeepB S w y → Blk y S 85 (srcL A b.length c p) → p.1 ≤ b.length → m ≤ 8 → 0 < m → Calls Try.prog 58 #[.pointer (some ⟨S,0,none⟩),iv m] y (Red S 85 (srcL A b.length c (tkP b m p)) (u64v (nmV b m p)) y)):=Lib.hid fun m p y k h2 h3 h4 h5 => r9num_any S A b c p m y h2 h3 hc hl hcm (hrr y k) h4 h5
 have HHS : Hid (∀ (p : SP) (y : World),KeepB S w y → Blk y S 85 (srcL A b.length c p) → p.1 ≤ b.length → Calls Try.prog 59 #[.pointer (some ⟨S,0,none⟩),u64v 101] y (RowD S 85 (srcL A b.length c) 27 32 hsL b p (fun d => thsN d 101) (fun x => x.length = 32) 101 y)):=Lib.hid fun p y k h2 h3 => r9hashes_any S A b c 101 p y h2 h3 hc hl hcm (hrr y k) (by omega)
 have HSH : Hid (∀ (p : SP) (y : World),KeepB S w y → Blk y S 85 (srcL A b.length c p) → p.1 ≤ b.length → Calls Try.prog 60 #[.pointer (some ⟨S,0,none⟩)] y (Had S 85 (srcL A b.length c (tkP b 32 p)) (padH (tkB b 32 p)) y)):=Lib.hid fun p y k h2 h3 => r9hash_any S A b c p y h2 h3 hc hl hcm (hrr y k)
 have ITQ : Hid (∀ y,Calls Try.prog 36 #[.int .i64 4] y fun e w' => e = .returned (.bool false)∧Keep y w'):=Lib.hid fun y => ritems_any 4 y
 have hSw:=hb.lt
 have HB:=Lib.hid hb
 have HZ0 : Hid ((msgZ 4).at_ w):=Lib.hid (msgZ_at 4 (by omega) w)
 obtain ⟨zs,hz2,hzM⟩:=zrmsg_letter
 have hz1:=hzM.z;have hz3:=hzM.n
 have HBU:=Lib.hid (rmsg_built0 4)
 obtain ⟨bs,hbs⟩ : ∃ x,(msgZ 4).cells.toArray = x:=⟨_,rfl⟩
 have hbM : MsB (msgZ 4) bs:=by rw [← hbs];exact MsB.of (msgZ_ok 4 (by omega))
 rw [hbs] at HBU
 have hbz:=hbM.z;have hbi:=hbM.i;have hbn:=hbM.n
 have HBM:=Lib.hid hbM
 have Hst : Hid (∀ ww : World,(storeCells ⟨ww.heap.size,0,none⟩ bs.toList 0).run Try.prog (ww.alloc (.cells zs 39)) = .ok () (ww.alloc (.cells bs 39))):=Lib.hid fun ww => run_storeCells_new (P:=Try.prog) ww 39 zs bs hbi (hz1.trans hbz.symm) (by have:=all_oneCell_toArray hbM.o;rwa [Array.toArray_toList] at this)
 clear hb hr hrr hzM hbM hbs
 obtain ⟨L,hL⟩ : ∃ L,b.length = L:=⟨_,rfl⟩
 have HLL:=Lib.hid hL
 rw [hL] at HB NUM HHS HSH hl ⊢
 clear hL
 go_enter Try.func31,Try.ntmps31
 go_upto_region 1 with fail
 obtain ⟨w0,hw0⟩ : ∃ x,x = w.alloc (.cells zs 39):=⟨_,rfl⟩
 have HR0 : Hid (Blk w0 w.heap.size 39 zs.toList):=by rw [hw0];exact Lib.hid (Blk.new w _ zs.toList)
 have hk0 : Keep w w0:=by rw [hw0];exact keep_new _ _
 have HSZ : Hid (w0.heap.size = w.heap.size + 1):=Lib.hid (by rw [hw0];simp)
 rw [← hw0]
 clear hw0
 have hst:=Hst.out w0
 go_upto_region 2 with ((with_reducible refine list_bldg _ bs (Eq.trans ?_ rfl) HBU.out (Eq.trans ?_ rfl) ?_);rfl;rfl)
 obtain ⟨w1,hw1⟩ : ∃ x,x = w0.alloc (.cells bs 39):=⟨_,rfl⟩
 have HR1 : Hid (Blk w1 w.heap.size 39 zs.toList):=by rw [hw1];exact Lib.hid (HR0.out.alloc _)
 have HT1 : Hid (Blk w1 (w.heap.size + 1) 39 (msgZ 4).cells):=by
  rw [hw1,← HSZ.out,← HBM.out.l]
  exact Lib.hid (Blk.new w0 _ bs.toList)
 have hk1 : Keep w w1:=by rw [hw1];exact keep_trans hk0 (keep_new _ _)
 have HS1 : Hid (Blk w1 S 85 (srcL A L c (0,0))):=Lib.hid (HB.out.keep hk1)
 have KB1 : Hid (KeepB S w w1):=Lib.hid (KeepX.of hk1)
 have e0 : w0.heap.size = w.heap.size + 1:=HSZ.out
 rw [← hw1]
 simp only [e0]
 clear hw1 hk1 hk0 HB hst Hst HR0 HBU HBM hbz hbi hbn e0
 obtain ⟨r,hrr⟩ : ∃ r,w.heap.size = r:=⟨_,rfl⟩
 obtain ⟨T,hT⟩ : ∃ T,r + 1 = T:=⟨_,rfl⟩
 have HRW:=Lib.hid hrr
 rw [hrr] at HR1 hSw;rw [hrr,hT] at HT1
 simp only [hrr,hT]
 have hrT : r < T:=by omega
 have h01 : T < w1.heap.size:=HT1.out.lt
 clear hrr hT
 have hp0 : (0 : Nat) ≤ L:=Nat.zero_le _
 have HOK1 : Hid (MsgR.ok (msgZ 4)):=Lib.hid HZ0.out.o
 have N1:=Lib.hid (NUM.out 4 (0,0) w1 KB1.out HS1.out hp0 (by omega) (by omega))
 have HPL2 : Hid ((0,0).1 ≤ b.length):=Lib.hid (by rw [HLL.out];exact hp0)
 have G2:=Lib.hid (rd_u32 (p:=(0,0)) HPL2.out 0)
 have hp2l : (tkP b 4 (0,0)).1 ≤ L:=by rw [← HLL.out];exact tkP_le HPL2.out
 obtain ⟨V1,hV1⟩ : ∃ V,nmV b 4 (0,0) = V:=⟨_,rfl⟩
 obtain ⟨proto,hx⟩ : ∃ v : UInt32,v = UInt32.ofNat V1:=⟨_,rfl⟩
 have hvv : (V1 : Int) % 4294967296 = (proto.toNat : Int):=by rw [hx,UInt32.toNat_ofNat'];omega
 have hvw : IntKind.u32.wrap (V1 : Int) = (proto.toNat : Int):=by rw [IntKind.wrap_u32];exact hvv
 rw [hV1] at N1 G2
 rw [← hx] at G2
 clear hV1 hx
 obtain ⟨p2,hpn⟩ : ∃ x,tkP b 4 (0,0) = x:=⟨_,rfl⟩
 rw [hpn] at N1 G2 hp2l
 clear hpn
 go_upto_region 4 with (go_at_call 58;refine N1.out.mono ?_;rintro e w2 ⟨rfl,hbX,hkX⟩;have xc:=(KeepB.blk hkX HT1.out (by omega)).cell 1;have fc:=(KeepB.blk hkX HT1.out (by omega)).frozen 1;rw [show (MsgR.cells (msgZ 4))[1]? = some (u32v 0) from rfl] at xc;have HBX:=Lib.hid hbX;have HKX:=Lib.hid hkX;clear hbX hkX)
 have HS2:=Lib.hid HBX.out;have HR2:=Lib.hid (KeepB.blk HKX.out HR1.out (by omega));have HT2:=Lib.hid (KeepB.blk HKX.out HT1.out (by omega));have KB2 : Hid (KeepB S w w2):=Lib.hid (KB1.out.trans HKX.out (fun _ _ q => q))
 clear HBX HKX N1 HS1 HR1 HT1 KB1
 obtain ⟨w3,hwn⟩ : ∃ x,x = w2.setCell ⟨T,1,none⟩ (.int .u32 proto.toNat):=⟨_,rfl⟩
 have HT3 : Hid (Blk w3 T 39 (MsgR.cells { msgZ 4 with proto:=proto })):=by rw [hwn];exact Lib.hid (by have q:=HT2.out.set_ 1 (.int .u32 proto.toNat);skip;exact q)
 have hg : w2.grownBy w3 (some T):=by rw [hwn];exact grown_set (grown_refl _ _)
 have HS3:=Lib.hid (HS2.out.grown hg (fun q => by have:=Option.some.inj q;omega));have HR3:=Lib.hid (HR2.out.grown hg (fun q => by have:=Option.some.inj q;omega));have KB3 : Hid (KeepB S w w3):=Lib.hid (KB2.out.new hg (by have:=HRW.out;omega))
 have HOK3 : Hid (MsgR.ok { msgZ 4 with proto:=proto }):=Lib.hid ⟨HOK1.out.k,HOK1.out.n,HOK1.out.s,HOK1.out.b,HOK1.out.h,HOK1.out.l,HOK1.out.i,HOK1.out.z⟩
 rw [← hwn]
 clear hwn hg HOK1
 clear HS2 HR2 HT2 KB2
 clear xc fc hvv hvw
 have N1:=Lib.hid (HHS.out p2 w3 KB3.out HS3.out hp2l)
 have BZ4 : Hid (T < w3.heap.size):=Lib.hid HT3.out.lt;have BS4 : Hid (S < w3.heap.size):=Lib.hid HS3.out.lt
 go_upto_region 10 with (go_at_call 59;refine N1.out.mono ?_;rintro e w4 ⟨lA,lc,p4,ls,rfl,hbq,hbX,hrd,hsl,hsn⟩;have xc:=(hbq.k.blk HT3.out (by omega)).cell 5;have fc:=(hbq.k.blk HT3.out (by omega)).frozen 5;rw [show (MsgR.cells { msgZ 4 with proto:=proto })[5]? = some (.slice none 0 0) from rfl] at xc;have HBX:=Lib.hid hbX;have HKX:=Lib.hid hbq.k;have OWN:=Lib.hid hbq.o;have G4:=Lib.hid hrd;have HSL:=Lib.hid hsl;clear hbq hbX hrd hsl)
 have hp4l : p4.1 ≤ L:=by rw [← HLL.out];exact G4.out.1
 have HS4:=Lib.hid HBX.out;have HR4:=Lib.hid (KeepB.blk HKX.out HR3.out (by omega));have HT4:=Lib.hid (KeepB.blk HKX.out HT3.out (by omega));have KB4 : Hid (KeepB S w w4):=Lib.hid (KB3.out.trans HKX.out (fun _ _ q => q))
 obtain ⟨B4,hB⟩ : ∃ k,w3.heap.size = k:=⟨_,rfl⟩
 rw [hB] at OWN BZ4 BS4
 have ROW4:=OWN
 have BO4 : Hid (r < B4∧T < B4∧S < B4):=Lib.hid ⟨by have:=BZ4.out;omega,BZ4.out,BS4.out⟩
 clear hB HBX HKX OWN N1 BZ4 BS4 HS3 HR3 HT3 KB3
 have RW4_4:=ROW4
 clear ROW4
 obtain ⟨w5,hwn⟩ : ∃ x,x = w4.setCell ⟨T,5,none⟩ (.slice lA ls.length lc):=⟨_,rfl⟩
 have HT5 : Hid (Blk w5 T 39 (MsgR.cells { msgZ 4 with proto:=proto,lA:=lA,ls:=ls,lc:=lc })):=by rw [hwn];exact Lib.hid (by have q:=HT4.out.set_ 5 (.slice lA ls.length lc);skip;exact q)
 have hg : w4.grownBy w5 (some T):=by rw [hwn];exact grown_set (grown_refl _ _)
 have HS5:=Lib.hid (HS4.out.grown hg (fun q => by have:=Option.some.inj q;omega));have HR5:=Lib.hid (HR4.out.grown hg (fun q => by have:=Option.some.inj q;omega));have KB5 : Hid (KeepB S w w5):=Lib.hid (KB4.out.new hg (by have:=HRW.out;omega))
 have RW4_5:=Lib.hid (own_gr RW4_4.out hg (by have:=BO4.out;omega))
 have HOK5 : Hid (MsgR.ok { msgZ 4 with proto:=proto,lA:=lA,ls:=ls,lc:=lc }):=Lib.hid ⟨HOK3.out.k,HOK3.out.n,HOK3.out.s,HOK3.out.b,HOK3.out.h,HSL.out,HOK3.out.i,HOK3.out.z⟩
 rw [← hwn]
 clear hwn hg HOK3
 clear HS4 HR4 HT4 KB4 RW4_4
 clear xc fc
 have H1:=Lib.hid (HSH.out p4 w5 KB5.out HS5.out hp4l)
 have HPL6 : Hid (p4.1 ≤ b.length):=Lib.hid (by rw [HLL.out];exact hp4l)
 have G6:=Lib.hid (rd_h32 (p:=p4) HPL6.out z32)
 have hp6l : (tkP b 32 p4).1 ≤ L:=by rw [← HLL.out];exact tkP_le HPL6.out
 have hpd : (padH (tkB b 32 p4)).length = 32:=padH_len
 obtain ⟨stop,hstop⟩ : ∃ l,padH (tkB b 32 p4) = l:=⟨_,rfl⟩
 obtain ⟨p6,hpn⟩ : ∃ x,tkP b 32 p4 = x:=⟨_,rfl⟩
 rw [hstop] at H1 G6 hpd
 rw [hpn] at H1 G6 hp6l
 clear hstop hpn
 go_wp2_with fail
 refine H1.out.mono ?_
 clear H1
 rintro e w6 ⟨hs,rfl,hhs,hbX,hkX⟩
 have hdz:=hhs.z;have hdn:=hhs.n;have hdi:=hhs.i
 have HBX:=Lib.hid hbX;have HKX:=Lib.hid hkX
 clear hbX hkX
 have HS6:=Lib.hid HBX.out;have HR6:=Lib.hid (KeepB.blk HKX.out HR5.out (by omega));have HT6:=Lib.hid (KeepB.blk HKX.out HT5.out (by omega));have KB6 : Hid (KeepB S w w6):=Lib.hid (KB5.out.trans HKX.out (fun _ _ q => q))
 have RW4_6:=Lib.hid (own_kb RW4_5.out HKX.out (by have:=BO4.out;omega))
 clear HBX HKX HS5 HR5 HT5 KB5 RW4_5
 obtain ⟨w7,hst,hbX,hgX⟩:=run_store_prt (P:=Try.prog) 6 hs.toList HT6.out (by rw [Array.length_toList,hdz,MsgR.len HOK5.out];omega) hhs.o
 rw [hhs.l,MsgR.splice_stop HOK5.out hpd] at hbX
 have HT7 : Hid (Blk w7 T 39 (MsgR.cells { msgZ 4 with proto:=proto,lA:=lA,ls:=ls,lc:=lc,stop:=stop })):=Lib.hid hbX
 have HS7:=Lib.hid (HS6.out.grown hgX (fun q => by have:=Option.some.inj q;omega));have HR7:=Lib.hid (HR6.out.grown hgX (fun q => by have:=Option.some.inj q;omega));have KB7 : Hid (KeepB S w w7):=Lib.hid (KB6.out.new hgX (by have:=HRW.out;omega))
 have RW4_7:=Lib.hid (own_gr RW4_6.out hgX (by have:=BO4.out;omega))
 have HOK7 : Hid (MsgR.ok { msgZ 4 with proto:=proto,lA:=lA,ls:=ls,lc:=lc,stop:=stop }):=Lib.hid ⟨HOK5.out.k,HOK5.out.n,hpd,HOK5.out.b,HOK5.out.h,HOK5.out.l,HOK5.out.i,HOK5.out.z⟩
 clear hbX hgX hhs HOK5 HS6 HR6 HT6 KB6 RW4_6
 go_upto_region 11 with fail
 clear hst hdz hdn hdi
 go_wp2_with fail
 refine (ITQ.out _).mono ?_
 clear ITQ
 rintro e w8 ⟨rfl,kq⟩
 have HKX:=Lib.hid (KeepX.of kq : KeepB S w7 w8);have HBX:=Lib.hid (HS7.out.keep kq)
 clear kq
 have HS8:=Lib.hid HBX.out;have HR8:=Lib.hid (KeepB.blk HKX.out HR7.out (by omega));have HT8:=Lib.hid (KeepB.blk HKX.out HT7.out (by omega));have KB8 : Hid (KeepB S w w8):=Lib.hid (KB7.out.trans HKX.out (fun _ _ q => q))
 have RW4_8:=Lib.hid (own_kb RW4_7.out HKX.out (by have:=BO4.out;omega))
 clear HBX HKX HS7 HR7 HT7 KB7 RW4_7
 obtain ⟨m,hm⟩ : ∃ m : MsgR,{ msgZ 4 with proto:=proto,lA:=lA,ls:=ls,lc:=lc,stop:=stop } = m:=⟨_,rfl⟩
 have HGS : Hid (GS (partsM (msgZ 4)) b (0,0) p6 [.u32 proto,.hsh lA ls lc 101,.h32 stop]):=Lib.hid (GS.cons G2.out (GS.cons (RdS.map (fun l => PV.hsh none l 0 101) G4.out fun d => rfl) (GS.cons G6.out (GS.nil (by rw [HLL.out];exact hp6l)))))
 have HMO : Hid (m.pl = msgOf 4 (([.u32 proto,.hsh lA ls lc 101,.h32 stop] : List PV).map PV.pl)):=Lib.hid (by rw [← hm];rfl)
 obtain ⟨ds,hds⟩ : ∃ ds,MsB m ds:=⟨_,MsB.of (by rw [← hm];exact HOK7.out)⟩
 have hdz:=hds.z;have hdi:=hds.i;have hdn:=hds.n
 have HDS:=Lib.hid hds
 have HM:=Lib.hid hm
 have HTD : Hid (Blk w8 T 39 ds.toList):=Lib.hid (by rw [hds.l,← hm];exact HT8.out)
 obtain ⟨w99,hst,hb99,hg99⟩:=run_store_blk (P:=Try.prog) ds.toList HR8.out (by rw [Array.length_toList,Array.length_toList,hz1,hdz]) hds.o
 have Hb99:=Lib.hid hb99;have HG99:=Lib.hid hg99
 have HS99:=Lib.hid (HS8.out.grown hg99 (fun q => by have:=Option.some.inj q;omega));have KB99 : Hid (KeepB S w w99):=Lib.hid (KB8.out.new hg99 (by have:=HRW.out;omega))
 clear hb99 hg99 hds hm HT8
 go_wp2_with ((with_reducible refine load_arr T ds (Eq.trans ?_ rfl) HTD.out _ Try.underlying39 rfl hdi ?_);rfl)
 have hb99:=Hb99.out
 have hsz : w8.heap.size ≤ w99.heap.size:=HG99.out.size
 have HAT : ∀ W,MidF (fun _ => True) w w99 W → m.at_ W:=fun W hW => by
  rw [← HM.out]
  exact ⟨HOK7.out,Rd.nil _ _,⟨Nat.le_refl _,Nat.zero_le _⟩,(own_mid (own_gr RW4_8.out HG99.out (by have:=BO4.out;omega)) (by have:=BO4.out;have:=HRW.out;omega) hW),own_lens RW4_8.out,Rd.nil _ _,⟨Nat.le_refl _,Nat.zero_le _⟩,Rd.nil _ _,⟨Nat.le_refl _,Nat.zero_le _⟩,Rd.nil _ _,⟨Nat.le_refl _,Nat.zero_le _⟩,txZ_at _⟩
 exact bodyPost_ret (v:=.agg ds) (results_cell_row Try.results31 _ _ r _ _ _ _ rfl hb99 Try.underlying39 rfl (by rw [List.size_toArray,Array.length_toList];exact hdi)) rfl
  ⟨m,ds,p6,[.u32 proto,.hsh lA ls lc 101,.h32 stop],rfl,HDS.out,⟨HAT w99 ⟨trivial,fun _ _ _ => rfl⟩,HAT⟩,HMO.out,HGS.out,HS99.out,KB99.out⟩
set_option maxRecDepth 100000 in
set_option maxHeartbeats 8000000 in
theorem r9msg_5 (hb : Blk w S 85 (srcL A b.length c (0,0))) (hc : b.length ≤ c) (hl : b.length ≤ 1000000000) (hcm : c ≤ maxLen) (hr : RdX (some S) w A (b.map u8v)) :
  Calls Try.prog 31 #[.pointer (some ⟨S,0,none⟩),.int .i64 5] w (Msd S (srcL A b.length c) b 5 w):=by
 have hrr : ∀ y,KeepB S w y → RdX (some S) y A (b.map u8v):=fun y k => hr.kb k
 have HEA : Hid (∀ (y : World),KeepB S w y → Blk y S 85 (srcL A b.length c (0,0)) → Calls Try.prog 61 #[.pointer (some ⟨S,0,none⟩)] y (RowD S 85 (srcL A b.length c) 30 68 (List.flatMap Hd.cells) b (0,0) (fun d => ((hgall d).1,d.length,(hgall d).2)) Hd.ok 2000 y)):=Lib.hid fun y k h2 => r9heads_any S A b c y h2 hc hl hcm (hrr y k)
 have ITQ : Hid (∀ y,Calls Try.prog 36 #[.int .i64 5] y fun e w' => e = .returned (.bool false)∧Keep y w'):=Lib.hid fun y => ritems_any 5 y
 have hSw:=hb.lt
 have HB:=Lib.hid hb
 have HZ0 : Hid ((msgZ 5).at_ w):=Lib.hid (msgZ_at 5 (by omega) w)
 obtain ⟨zs,hz2,hzM⟩:=zrmsg_letter
 have hz1:=hzM.z;have hz3:=hzM.n
 have HBU:=Lib.hid (rmsg_built0 5)
 obtain ⟨bs,hbs⟩ : ∃ x,(msgZ 5).cells.toArray = x:=⟨_,rfl⟩
 have hbM : MsB (msgZ 5) bs:=by rw [← hbs];exact MsB.of (msgZ_ok 5 (by omega))
 rw [hbs] at HBU
 have hbz:=hbM.z;have hbi:=hbM.i;have hbn:=hbM.n
 have HBM:=Lib.hid hbM
 have Hst : Hid (∀ ww : World,(storeCells ⟨ww.heap.size,0,none⟩ bs.toList 0).run Try.prog (ww.alloc (.cells zs 39)) = .ok () (ww.alloc (.cells bs 39))):=Lib.hid fun ww => run_storeCells_new (P:=Try.prog) ww 39 zs bs hbi (hz1.trans hbz.symm) (by have:=all_oneCell_toArray hbM.o;rwa [Array.toArray_toList] at this)
 clear hb hr hrr hzM hbM hbs
 obtain ⟨L,hL⟩ : ∃ L,b.length = L:=⟨_,rfl⟩
 have HLL:=Lib.hid hL
 rw [hL] at HB HEA hl ⊢
 clear hL
 go_enter Try.func31,Try.ntmps31
 go_upto_region 1 with fail
 obtain ⟨w0,hw0⟩ : ∃ x,x = w.alloc (.cells zs 39):=⟨_,rfl⟩
 have HR0 : Hid (Blk w0 w.heap.size 39 zs.toList):=by rw [hw0];exact Lib.hid (Blk.new w _ zs.toList)
 have hk0 : Keep w w0:=by rw [hw0];exact keep_new _ _
 have HSZ : Hid (w0.heap.size = w.heap.size + 1):=Lib.hid (by rw [hw0];simp)
 rw [← hw0]
 clear hw0
 have hst:=Hst.out w0
 go_upto_region 2 with ((with_reducible refine list_bldg _ bs (Eq.trans ?_ rfl) HBU.out (Eq.trans ?_ rfl) ?_);rfl;rfl)
 obtain ⟨w1,hw1⟩ : ∃ x,x = w0.alloc (.cells bs 39):=⟨_,rfl⟩
 have HR1 : Hid (Blk w1 w.heap.size 39 zs.toList):=by rw [hw1];exact Lib.hid (HR0.out.alloc _)
 have HT1 : Hid (Blk w1 (w.heap.size + 1) 39 (msgZ 5).cells):=by
  rw [hw1,← HSZ.out,← HBM.out.l]
  exact Lib.hid (Blk.new w0 _ bs.toList)
 have hk1 : Keep w w1:=by rw [hw1];exact keep_trans hk0 (keep_new _ _)
 have HS1 : Hid (Blk w1 S 85 (srcL A L c (0,0))):=Lib.hid (HB.out.keep hk1)
 have KB1 : Hid (KeepB S w w1):=Lib.hid (KeepX.of hk1)
 have e0 : w0.heap.size = w.heap.size + 1:=HSZ.out
 rw [← hw1]
 simp only [e0]
 clear hw1 hk1 hk0 HB hst Hst HR0 HBU HBM hbz hbi hbn e0
 obtain ⟨r,hrr⟩ : ∃ r,w.heap.size = r:=⟨_,rfl⟩
 obtain ⟨T,hT⟩ : ∃ T,r + 1 = T:=⟨_,rfl⟩
 have HRW:=Lib.hid hrr
 rw [hrr] at HR1 hSw;rw [hrr,hT] at HT1
 simp only [hrr,hT]
 have hrT : r < T:=by omega
 have h01 : T < w1.heap.size:=HT1.out.lt
 clear hrr hT
 have hp0 : (0 : Nat) ≤ L:=Nat.zero_le _
 have HOK1 : Hid (MsgR.ok (msgZ 5)):=Lib.hid HZ0.out.o
 have N1:=Lib.hid (HEA.out w1 KB1.out HS1.out)
 have BZ2 : Hid (T < w1.heap.size):=Lib.hid HT1.out.lt;have BS2 : Hid (S < w1.heap.size):=Lib.hid HS1.out.lt
 go_upto_region 13 with (go_at_call 61;refine N1.out.mono ?_;rintro e w2 ⟨hA,hc,p2,hs,rfl,hbq,hbX,hrd,hsl,hsn⟩;have xc:=(hbq.k.blk HT1.out (by omega)).cell 4;have fc:=(hbq.k.blk HT1.out (by omega)).frozen 4;rw [show (MsgR.cells (msgZ 5))[4]? = some (.slice none 0 0) from rfl] at xc;have HBX:=Lib.hid hbX;have HKX:=Lib.hid hbq.k;have OWN:=Lib.hid hbq.o;have G2:=Lib.hid hrd;have HSL:=Lib.hid hsl;clear hbq hbX hrd hsl)
 have hp2l : p2.1 ≤ L:=by rw [← HLL.out];exact G2.out.1
 have HS2:=Lib.hid HBX.out;have HR2:=Lib.hid (KeepB.blk HKX.out HR1.out (by omega));have HT2:=Lib.hid (KeepB.blk HKX.out HT1.out (by omega));have KB2 : Hid (KeepB S w w2):=Lib.hid (KB1.out.trans HKX.out (fun _ _ q => q))
 obtain ⟨B2,hB⟩ : ∃ k,w1.heap.size = k:=⟨_,rfl⟩
 rw [hB] at OWN BZ2 BS2
 have ROW2:=OWN
 have BO2 : Hid (r < B2∧T < B2∧S < B2):=Lib.hid ⟨by have:=BZ2.out;omega,BZ2.out,BS2.out⟩
 clear hB HBX HKX OWN N1 BZ2 BS2 HS1 HR1 HT1 KB1
 have RW2_2:=ROW2
 clear ROW2
 obtain ⟨w3,hwn⟩ : ∃ x,x = w2.setCell ⟨T,4,none⟩ (.slice hA hs.length hc):=⟨_,rfl⟩
 have HT3 : Hid (Blk w3 T 39 (MsgR.cells { msgZ 5 with hA:=hA,hs:=hs,hc:=hc })):=by rw [hwn];exact Lib.hid (by have q:=HT2.out.set_ 4 (.slice hA hs.length hc);skip;exact q)
 have hg : w2.grownBy w3 (some T):=by rw [hwn];exact grown_set (grown_refl _ _)
 have HS3:=Lib.hid (HS2.out.grown hg (fun q => by have:=Option.some.inj q;omega));have HR3:=Lib.hid (HR2.out.grown hg (fun q => by have:=Option.some.inj q;omega));have KB3 : Hid (KeepB S w w3):=Lib.hid (KB2.out.new hg (by have:=HRW.out;omega))
 have RW2_3:=Lib.hid (own_gr RW2_2.out hg (by have:=BO2.out;omega))
 have HOK3 : Hid (MsgR.ok { msgZ 5 with hA:=hA,hs:=hs,hc:=hc }):=Lib.hid ⟨HOK1.out.k,HOK1.out.n,HOK1.out.s,HOK1.out.b,HSL.out,HOK1.out.l,HOK1.out.i,HOK1.out.z⟩
 rw [← hwn]
 clear hwn hg HOK1
 clear HS2 HR2 HT2 KB2 RW2_2
 clear xc fc
 go_wp2_with fail
 refine (ITQ.out _).mono ?_
 clear ITQ
 rintro e w4 ⟨rfl,kq⟩
 have HKX:=Lib.hid (KeepX.of kq : KeepB S w3 w4);have HBX:=Lib.hid (HS3.out.keep kq)
 clear kq
 have HS4:=Lib.hid HBX.out;have HR4:=Lib.hid (KeepB.blk HKX.out HR3.out (by omega));have HT4:=Lib.hid (KeepB.blk HKX.out HT3.out (by omega));have KB4 : Hid (KeepB S w w4):=Lib.hid (KB3.out.trans HKX.out (fun _ _ q => q))
 have RW2_4:=Lib.hid (own_kb RW2_3.out HKX.out (by have:=BO2.out;omega))
 clear HBX HKX HS3 HR3 HT3 KB3 RW2_3
 obtain ⟨m,hm⟩ : ∃ m : MsgR,{ msgZ 5 with hA:=hA,hs:=hs,hc:=hc } = m:=⟨_,rfl⟩
 have HGS : Hid (GS (partsM (msgZ 5)) b (0,0) p2 [.heads hA hs hc]):=Lib.hid (GS.cons (RdS.map (fun l => PV.heads none l 0) G2.out fun d => rfl) (GS.nil (by rw [HLL.out];exact hp2l)))
 have HMO : Hid (m.pl = msgOf 5 (([.heads hA hs hc] : List PV).map PV.pl)):=Lib.hid (by rw [← hm];rfl)
 obtain ⟨ds,hds⟩ : ∃ ds,MsB m ds:=⟨_,MsB.of (by rw [← hm];exact HOK3.out)⟩
 have hdz:=hds.z;have hdi:=hds.i;have hdn:=hds.n
 have HDS:=Lib.hid hds
 have HM:=Lib.hid hm
 have HTD : Hid (Blk w4 T 39 ds.toList):=Lib.hid (by rw [hds.l,← hm];exact HT4.out)
 obtain ⟨w99,hst,hb99,hg99⟩:=run_store_blk (P:=Try.prog) ds.toList HR4.out (by rw [Array.length_toList,Array.length_toList,hz1,hdz]) hds.o
 have Hb99:=Lib.hid hb99;have HG99:=Lib.hid hg99
 have HS99:=Lib.hid (HS4.out.grown hg99 (fun q => by have:=Option.some.inj q;omega));have KB99 : Hid (KeepB S w w99):=Lib.hid (KB4.out.new hg99 (by have:=HRW.out;omega))
 clear hb99 hg99 hds hm HT4
 go_wp2_with ((with_reducible refine load_arr T ds (Eq.trans ?_ rfl) HTD.out _ Try.underlying39 rfl hdi ?_);rfl)
 have hb99:=Hb99.out
 have hsz : w4.heap.size ≤ w99.heap.size:=HG99.out.size
 have HAT : ∀ W,MidF (fun _ => True) w w99 W → m.at_ W:=fun W hW => by
  rw [← HM.out]
  exact ⟨HOK3.out,(own_mid (own_gr RW2_4.out HG99.out (by have:=BO2.out;omega)) (by have:=BO2.out;have:=HRW.out;omega) hW),own_lens RW2_4.out,Rd.nil _ _,⟨Nat.le_refl _,Nat.zero_le _⟩,Rd.nil _ _,⟨Nat.le_refl _,Nat.zero_le _⟩,Rd.nil _ _,⟨Nat.le_refl _,Nat.zero_le _⟩,Rd.nil _ _,⟨Nat.le_refl _,Nat.zero_le _⟩,txZ_at _⟩
 exact bodyPost_ret (v:=.agg ds) (results_cell_row Try.results31 _ _ r _ _ _ _ rfl hb99 Try.underlying39 rfl (by rw [List.size_toArray,Array.length_toList];exact hdi)) rfl
  ⟨m,ds,p2,[.heads hA hs hc],rfl,HDS.out,⟨HAT w99 ⟨trivial,fun _ _ _ => rfl⟩,HAT⟩,HMO.out,HGS.out,HS99.out,KB99.out⟩
set_option maxRecDepth 100000 in
set_option maxHeartbeats 8000000 in
theorem r9msg_6 (hb : Blk w S 85 (srcL A b.length c (0,0))) (hc : b.length ≤ c) (hl : b.length ≤ 1000000000) (hcm : c ≤ maxLen) (hr : RdX (some S) w A (b.map u8v)) :
  Calls Try.prog 31 #[.pointer (some ⟨S,0,none⟩),.int .i64 6] w (Msd S (srcL A b.length c) b 6 w):=by
 have hrr : ∀ y,KeepB S w y → RdX (some S) y A (b.map u8v):=fun y k => hr.kb k
 have ITM : Hid (∀ (p : SP) (y : World),KeepB S w y → Blk y S 85 (srcL A b.length c p) → p.1 ≤ b.length → Calls Try.prog 62 #[.pointer (some ⟨S,0,none⟩)] y (RowD S 85 (srcL A b.length c) 69 33 (List.flatMap Itm.cells) b p titN Itm.ok 50000 y)):=Lib.hid fun p y k h2 h3 => r9items_any S A b c p y h2 h3 hc hl hcm (hrr y k)
 have ITQ : Hid (∀ y,Calls Try.prog 36 #[.int .i64 6] y fun e w' => e = .returned (.bool true)∧Keep y w'):=Lib.hid fun y => ritems_any 6 y
 have hSw:=hb.lt
 have HB:=Lib.hid hb
 have HZ0 : Hid ((msgZ 6).at_ w):=Lib.hid (msgZ_at 6 (by omega) w)
 obtain ⟨zs,hz2,hzM⟩:=zrmsg_letter
 have hz1:=hzM.z;have hz3:=hzM.n
 have HBU:=Lib.hid (rmsg_built0 6)
 obtain ⟨bs,hbs⟩ : ∃ x,(msgZ 6).cells.toArray = x:=⟨_,rfl⟩
 have hbM : MsB (msgZ 6) bs:=by rw [← hbs];exact MsB.of (msgZ_ok 6 (by omega))
 rw [hbs] at HBU
 have hbz:=hbM.z;have hbi:=hbM.i;have hbn:=hbM.n
 have HBM:=Lib.hid hbM
 have Hst : Hid (∀ ww : World,(storeCells ⟨ww.heap.size,0,none⟩ bs.toList 0).run Try.prog (ww.alloc (.cells zs 39)) = .ok () (ww.alloc (.cells bs 39))):=Lib.hid fun ww => run_storeCells_new (P:=Try.prog) ww 39 zs bs hbi (hz1.trans hbz.symm) (by have:=all_oneCell_toArray hbM.o;rwa [Array.toArray_toList] at this)
 clear hb hr hrr hzM hbM hbs
 obtain ⟨L,hL⟩ : ∃ L,b.length = L:=⟨_,rfl⟩
 have HLL:=Lib.hid hL
 rw [hL] at HB ITM hl ⊢
 clear hL
 go_enter Try.func31,Try.ntmps31
 go_upto_region 1 with fail
 obtain ⟨w0,hw0⟩ : ∃ x,x = w.alloc (.cells zs 39):=⟨_,rfl⟩
 have HR0 : Hid (Blk w0 w.heap.size 39 zs.toList):=by rw [hw0];exact Lib.hid (Blk.new w _ zs.toList)
 have hk0 : Keep w w0:=by rw [hw0];exact keep_new _ _
 have HSZ : Hid (w0.heap.size = w.heap.size + 1):=Lib.hid (by rw [hw0];simp)
 rw [← hw0]
 clear hw0
 have hst:=Hst.out w0
 go_upto_region 2 with ((with_reducible refine list_bldg _ bs (Eq.trans ?_ rfl) HBU.out (Eq.trans ?_ rfl) ?_);rfl;rfl)
 obtain ⟨w1,hw1⟩ : ∃ x,x = w0.alloc (.cells bs 39):=⟨_,rfl⟩
 have HR1 : Hid (Blk w1 w.heap.size 39 zs.toList):=by rw [hw1];exact Lib.hid (HR0.out.alloc _)
 have HT1 : Hid (Blk w1 (w.heap.size + 1) 39 (msgZ 6).cells):=by
  rw [hw1,← HSZ.out,← HBM.out.l]
  exact Lib.hid (Blk.new w0 _ bs.toList)
 have hk1 : Keep w w1:=by rw [hw1];exact keep_trans hk0 (keep_new _ _)
 have HS1 : Hid (Blk w1 S 85 (srcL A L c (0,0))):=Lib.hid (HB.out.keep hk1)
 have KB1 : Hid (KeepB S w w1):=Lib.hid (KeepX.of hk1)
 have e0 : w0.heap.size = w.heap.size + 1:=HSZ.out
 rw [← hw1]
 simp only [e0]
 clear hw1 hk1 hk0 HB hst Hst HR0 HBU HBM hbz hbi hbn e0
 obtain ⟨r,hrr⟩ : ∃ r,w.heap.size = r:=⟨_,rfl⟩
 obtain ⟨T,hT⟩ : ∃ T,r + 1 = T:=⟨_,rfl⟩
 have HRW:=Lib.hid hrr
 rw [hrr] at HR1 hSw;rw [hrr,hT] at HT1
 simp only [hrr,hT]
 have hrT : r < T:=by omega
 have h01 : T < w1.heap.size:=HT1.out.lt
 clear hrr hT
 have hp0 : (0 : Nat) ≤ L:=Nat.zero_le _
 have HOK1 : Hid (MsgR.ok (msgZ 6)):=Lib.hid HZ0.out.o
 go_wp2_with fail
 refine (ITQ.out _).mono ?_
 clear ITQ
 rintro e w2 ⟨rfl,kq⟩
 have HKX:=Lib.hid (KeepX.of kq : KeepB S w1 w2);have HBX:=Lib.hid (HS1.out.keep kq)
 clear kq
 have HS2:=Lib.hid HBX.out;have HR2:=Lib.hid (KeepB.blk HKX.out HR1.out (by omega));have HT2:=Lib.hid (KeepB.blk HKX.out HT1.out (by omega));have KB2 : Hid (KeepB S w w2):=Lib.hid (KB1.out.trans HKX.out (fun _ _ q => q))
 clear HBX HKX HS1 HR1 HT1 KB1
 have N1:=Lib.hid (ITM.out (0,0) w2 KB2.out HS2.out hp0)
 have BZ3 : Hid (T < w2.heap.size):=Lib.hid HT2.out.lt;have BS3 : Hid (S < w2.heap.size):=Lib.hid HS2.out.lt
 go_upto_region 15 with (go_at_call 62;refine N1.out.mono ?_;rintro e w3 ⟨iA,ic,p3,is,rfl,hbq,hbX,hrd,hsl,hsn⟩;have xc:=(hbq.k.blk HT2.out (by omega)).cell 38;have fc:=(hbq.k.blk HT2.out (by omega)).frozen 38;rw [show (MsgR.cells (msgZ 6))[38]? = some (.slice none 0 0) from (MsgR.tail_get HOK1.out 0).trans rfl] at xc;have HBX:=Lib.hid hbX;have HKX:=Lib.hid hbq.k;have OWN:=Lib.hid hbq.o;have G3:=Lib.hid hrd;have HSL:=Lib.hid hsl;clear hbq hbX hrd hsl)
 have hp3l : p3.1 ≤ L:=by rw [← HLL.out];exact G3.out.1
 have HS3:=Lib.hid HBX.out;have HR3:=Lib.hid (KeepB.blk HKX.out HR2.out (by omega));have HT3:=Lib.hid (KeepB.blk HKX.out HT2.out (by omega));have KB3 : Hid (KeepB S w w3):=Lib.hid (KB2.out.trans HKX.out (fun _ _ q => q))
 obtain ⟨B3,hB⟩ : ∃ k,w2.heap.size = k:=⟨_,rfl⟩
 rw [hB] at OWN BZ3 BS3
 have ROW3:=OWN
 have BO3 : Hid (r < B3∧T < B3∧S < B3):=Lib.hid ⟨by have:=BZ3.out;omega,BZ3.out,BS3.out⟩
 clear hB HBX HKX OWN N1 BZ3 BS3 HS2 HR2 HT2 KB2
 have RW3_3:=ROW3
 clear ROW3
 obtain ⟨w4,hwn⟩ : ∃ x,x = w3.setCell ⟨T,38,none⟩ (.slice iA is.length ic):=⟨_,rfl⟩
 have HT4 : Hid (Blk w4 T 39 (MsgR.cells { msgZ 6 with iA:=iA,is:=is,ic:=ic })):=by rw [hwn];exact Lib.hid (by have q:=HT3.out.set_ 38 (.slice iA is.length ic);rw [set38r HOK1.out] at q;exact q)
 have hg : w3.grownBy w4 (some T):=by rw [hwn];exact grown_set (grown_refl _ _)
 have HS4:=Lib.hid (HS3.out.grown hg (fun q => by have:=Option.some.inj q;omega));have HR4:=Lib.hid (HR3.out.grown hg (fun q => by have:=Option.some.inj q;omega));have KB4 : Hid (KeepB S w w4):=Lib.hid (KB3.out.new hg (by have:=HRW.out;omega))
 have RW3_4:=Lib.hid (own_gr RW3_3.out hg (by have:=BO3.out;omega))
 have HOK4 : Hid (MsgR.ok { msgZ 6 with iA:=iA,is:=is,ic:=ic }):=Lib.hid ⟨HOK1.out.k,HOK1.out.n,HOK1.out.s,HOK1.out.b,HOK1.out.h,HOK1.out.l,HSL.out,HOK1.out.z⟩
 rw [← hwn]
 clear hwn hg HOK1
 clear HS3 HR3 HT3 KB3 RW3_3
 clear xc fc
 obtain ⟨m,hm⟩ : ∃ m : MsgR,{ msgZ 6 with iA:=iA,is:=is,ic:=ic } = m:=⟨_,rfl⟩
 have HGS : Hid (GS (partsM (msgZ 6)) b (0,0) p3 [.items iA is ic]):=Lib.hid (GS.cons (RdS.map (fun l => PV.items none l 0) G3.out fun d => rfl) (GS.nil (by rw [HLL.out];exact hp3l)))
 have HMO : Hid (m.pl = msgOf 6 (([.items iA is ic] : List PV).map PV.pl)):=Lib.hid (by rw [← hm];rfl)
 obtain ⟨ds,hds⟩ : ∃ ds,MsB m ds:=⟨_,MsB.of (by rw [← hm];exact HOK4.out)⟩
 have hdz:=hds.z;have hdi:=hds.i;have hdn:=hds.n
 have HDS:=Lib.hid hds
 have HM:=Lib.hid hm
 have HTD : Hid (Blk w4 T 39 ds.toList):=Lib.hid (by rw [hds.l,← hm];exact HT4.out)
 obtain ⟨w99,hst,hb99,hg99⟩:=run_store_blk (P:=Try.prog) ds.toList HR4.out (by rw [Array.length_toList,Array.length_toList,hz1,hdz]) hds.o
 have Hb99:=Lib.hid hb99;have HG99:=Lib.hid hg99
 have HS99:=Lib.hid (HS4.out.grown hg99 (fun q => by have:=Option.some.inj q;omega));have KB99 : Hid (KeepB S w w99):=Lib.hid (KB4.out.new hg99 (by have:=HRW.out;omega))
 clear hb99 hg99 hds hm HT4
 go_wp2_with ((with_reducible refine load_arr T ds (Eq.trans ?_ rfl) HTD.out _ Try.underlying39 rfl hdi ?_);rfl)
 have hb99:=Hb99.out
 have hsz : w4.heap.size ≤ w99.heap.size:=HG99.out.size
 have HAT : ∀ W,MidF (fun _ => True) w w99 W → m.at_ W:=fun W hW => by
  rw [← HM.out]
  exact ⟨HOK4.out,Rd.nil _ _,⟨Nat.le_refl _,Nat.zero_le _⟩,Rd.nil _ _,⟨Nat.le_refl _,Nat.zero_le _⟩,(own_mid (own_gr RW3_4.out HG99.out (by have:=BO3.out;omega)) (by have:=BO3.out;have:=HRW.out;omega) hW),own_lens RW3_4.out,Rd.nil _ _,⟨Nat.le_refl _,Nat.zero_le _⟩,Rd.nil _ _,⟨Nat.le_refl _,Nat.zero_le _⟩,txZ_at _⟩
 exact bodyPost_ret (v:=.agg ds) (results_cell_row Try.results31 _ _ r _ _ _ _ rfl hb99 Try.underlying39 rfl (by rw [List.size_toArray,Array.length_toList];exact hdi)) rfl
  ⟨m,ds,p3,[.items iA is ic],rfl,HDS.out,⟨HAT w99 ⟨trivial,fun _ _ _ => rfl⟩,HAT⟩,HMO.out,HGS.out,HS99.out,KB99.out⟩
set_option maxRecDepth 100000 in
set_option maxHeartbeats 8000000 in
theorem r9msg_7 (hb : Blk w S 85 (srcL A b.length c (0,0))) (hc : b.length ≤ c) (hl : b.length ≤ 1000000000) (hcm : c ≤ maxLen) (hr : RdX (some S) w A (b.map u8v)) :
  Calls Try.prog 31 #[.pointer (some ⟨S,0,none⟩),.int .i64 7] w (Msd S (srcL A b.length c) b 7 w):=by
 have hrr : ∀ y,KeepB S w y → RdX (some S) y A (b.map u8v):=fun y k => hr.kb k
 have ITM : Hid (∀ (p : SP) (y : World),KeepB S w y → Blk y S 85 (srcL A b.length c p) → p.1 ≤ b.length → Calls Try.prog 62 #[.pointer (some ⟨S,0,none⟩)] y (RowD S 85 (srcL A b.length c) 69 33 (List.flatMap Itm.cells) b p titN Itm.ok 50000 y)):=Lib.hid fun p y k h2 h3 => r9items_any S A b c p y h2 h3 hc hl hcm (hrr y k)
 have ITQ : Hid (∀ y,Calls Try.prog 36 #[.int .i64 7] y fun e w' => e = .returned (.bool true)∧Keep y w'):=Lib.hid fun y => ritems_any 7 y
 have hSw:=hb.lt
 have HB:=Lib.hid hb
 have HZ0 : Hid ((msgZ 7).at_ w):=Lib.hid (msgZ_at 7 (by omega) w)
 obtain ⟨zs,hz2,hzM⟩:=zrmsg_letter
 have hz1:=hzM.z;have hz3:=hzM.n
 have HBU:=Lib.hid (rmsg_built0 7)
 obtain ⟨bs,hbs⟩ : ∃ x,(msgZ 7).cells.toArray = x:=⟨_,rfl⟩
 have hbM : MsB (msgZ 7) bs:=by rw [← hbs];exact MsB.of (msgZ_ok 7 (by omega))
 rw [hbs] at HBU
 have hbz:=hbM.z;have hbi:=hbM.i;have hbn:=hbM.n
 have HBM:=Lib.hid hbM
 have Hst : Hid (∀ ww : World,(storeCells ⟨ww.heap.size,0,none⟩ bs.toList 0).run Try.prog (ww.alloc (.cells zs 39)) = .ok () (ww.alloc (.cells bs 39))):=Lib.hid fun ww => run_storeCells_new (P:=Try.prog) ww 39 zs bs hbi (hz1.trans hbz.symm) (by have:=all_oneCell_toArray hbM.o;rwa [Array.toArray_toList] at this)
 clear hb hr hrr hzM hbM hbs
 obtain ⟨L,hL⟩ : ∃ L,b.length = L:=⟨_,rfl⟩
 have HLL:=Lib.hid hL
 rw [hL] at HB ITM hl ⊢
 clear hL
 go_enter Try.func31,Try.ntmps31
 go_upto_region 1 with fail
 obtain ⟨w0,hw0⟩ : ∃ x,x = w.alloc (.cells zs 39):=⟨_,rfl⟩
 have HR0 : Hid (Blk w0 w.heap.size 39 zs.toList):=by rw [hw0];exact Lib.hid (Blk.new w _ zs.toList)
 have hk0 : Keep w w0:=by rw [hw0];exact keep_new _ _
 have HSZ : Hid (w0.heap.size = w.heap.size + 1):=Lib.hid (by rw [hw0];simp)
 rw [← hw0]
 clear hw0
 have hst:=Hst.out w0
 go_upto_region 2 with ((with_reducible refine list_bldg _ bs (Eq.trans ?_ rfl) HBU.out (Eq.trans ?_ rfl) ?_);rfl;rfl)
 obtain ⟨w1,hw1⟩ : ∃ x,x = w0.alloc (.cells bs 39):=⟨_,rfl⟩
 have HR1 : Hid (Blk w1 w.heap.size 39 zs.toList):=by rw [hw1];exact Lib.hid (HR0.out.alloc _)
 have HT1 : Hid (Blk w1 (w.heap.size + 1) 39 (msgZ 7).cells):=by
  rw [hw1,← HSZ.out,← HBM.out.l]
  exact Lib.hid (Blk.new w0 _ bs.toList)
 have hk1 : Keep w w1:=by rw [hw1];exact keep_trans hk0 (keep_new _ _)
 have HS1 : Hid (Blk w1 S 85 (srcL A L c (0,0))):=Lib.hid (HB.out.keep hk1)
 have KB1 : Hid (KeepB S w w1):=Lib.hid (KeepX.of hk1)
 have e0 : w0.heap.size = w.heap.size + 1:=HSZ.out
 rw [← hw1]
 simp only [e0]
 clear hw1 hk1 hk0 HB hst Hst HR0 HBU HBM hbz hbi hbn e0
 obtain ⟨r,hrr⟩ : ∃ r,w.heap.size = r:=⟨_,rfl⟩
 obtain ⟨T,hT⟩ : ∃ T,r + 1 = T:=⟨_,rfl⟩
 have HRW:=Lib.hid hrr
 rw [hrr] at HR1 hSw;rw [hrr,hT] at HT1
 simp only [hrr,hT]
 have hrT : r < T:=by omega
 have h01 : T < w1.heap.size:=HT1.out.lt
 clear hrr hT
 have hp0 : (0 : Nat) ≤ L:=Nat.zero_le _
 have HOK1 : Hid (MsgR.ok (msgZ 7)):=Lib.hid HZ0.out.o
 go_wp2_with fail
 refine (ITQ.out _).mono ?_
 clear ITQ
 rintro e w2 ⟨rfl,kq⟩
 have HKX:=Lib.hid (KeepX.of kq : KeepB S w1 w2);have HBX:=Lib.hid (HS1.out.keep kq)
 clear kq
 have HS2:=Lib.hid HBX.out;have HR2:=Lib.hid (KeepB.blk HKX.out HR1.out (by omega));have HT2:=Lib.hid (KeepB.blk HKX.out HT1.out (by omega));have KB2 : Hid (KeepB S w w2):=Lib.hid (KB1.out.trans HKX.out (fun _ _ q => q))
 clear HBX HKX HS1 HR1 HT1 KB1
 have N1:=Lib.hid (ITM.out (0,0) w2 KB2.out HS2.out hp0)
 have BZ3 : Hid (T < w2.heap.size):=Lib.hid HT2.out.lt;have BS3 : Hid (S < w2.heap.size):=Lib.hid HS2.out.lt
 go_upto_region 15 with (go_at_call 62;refine N1.out.mono ?_;rintro e w3 ⟨iA,ic,p3,is,rfl,hbq,hbX,hrd,hsl,hsn⟩;have xc:=(hbq.k.blk HT2.out (by omega)).cell 38;have fc:=(hbq.k.blk HT2.out (by omega)).frozen 38;rw [show (MsgR.cells (msgZ 7))[38]? = some (.slice none 0 0) from (MsgR.tail_get HOK1.out 0).trans rfl] at xc;have HBX:=Lib.hid hbX;have HKX:=Lib.hid hbq.k;have OWN:=Lib.hid hbq.o;have G3:=Lib.hid hrd;have HSL:=Lib.hid hsl;clear hbq hbX hrd hsl)
 have hp3l : p3.1 ≤ L:=by rw [← HLL.out];exact G3.out.1
 have HS3:=Lib.hid HBX.out;have HR3:=Lib.hid (KeepB.blk HKX.out HR2.out (by omega));have HT3:=Lib.hid (KeepB.blk HKX.out HT2.out (by omega));have KB3 : Hid (KeepB S w w3):=Lib.hid (KB2.out.trans HKX.out (fun _ _ q => q))
 obtain ⟨B3,hB⟩ : ∃ k,w2.heap.size = k:=⟨_,rfl⟩
 rw [hB] at OWN BZ3 BS3
 have ROW3:=OWN
 have BO3 : Hid (r < B3∧T < B3∧S < B3):=Lib.hid ⟨by have:=BZ3.out;omega,BZ3.out,BS3.out⟩
 clear hB HBX HKX OWN N1 BZ3 BS3 HS2 HR2 HT2 KB2
 have RW3_3:=ROW3
 clear ROW3
 obtain ⟨w4,hwn⟩ : ∃ x,x = w3.setCell ⟨T,38,none⟩ (.slice iA is.length ic):=⟨_,rfl⟩
 have HT4 : Hid (Blk w4 T 39 (MsgR.cells { msgZ 7 with iA:=iA,is:=is,ic:=ic })):=by rw [hwn];exact Lib.hid (by have q:=HT3.out.set_ 38 (.slice iA is.length ic);rw [set38r HOK1.out] at q;exact q)
 have hg : w3.grownBy w4 (some T):=by rw [hwn];exact grown_set (grown_refl _ _)
 have HS4:=Lib.hid (HS3.out.grown hg (fun q => by have:=Option.some.inj q;omega));have HR4:=Lib.hid (HR3.out.grown hg (fun q => by have:=Option.some.inj q;omega));have KB4 : Hid (KeepB S w w4):=Lib.hid (KB3.out.new hg (by have:=HRW.out;omega))
 have RW3_4:=Lib.hid (own_gr RW3_3.out hg (by have:=BO3.out;omega))
 have HOK4 : Hid (MsgR.ok { msgZ 7 with iA:=iA,is:=is,ic:=ic }):=Lib.hid ⟨HOK1.out.k,HOK1.out.n,HOK1.out.s,HOK1.out.b,HOK1.out.h,HOK1.out.l,HSL.out,HOK1.out.z⟩
 rw [← hwn]
 clear hwn hg HOK1
 clear HS3 HR3 HT3 KB3 RW3_3
 clear xc fc
 obtain ⟨m,hm⟩ : ∃ m : MsgR,{ msgZ 7 with iA:=iA,is:=is,ic:=ic } = m:=⟨_,rfl⟩
 have HGS : Hid (GS (partsM (msgZ 7)) b (0,0) p3 [.items iA is ic]):=Lib.hid (GS.cons (RdS.map (fun l => PV.items none l 0) G3.out fun d => rfl) (GS.nil (by rw [HLL.out];exact hp3l)))
 have HMO : Hid (m.pl = msgOf 7 (([.items iA is ic] : List PV).map PV.pl)):=Lib.hid (by rw [← hm];rfl)
 obtain ⟨ds,hds⟩ : ∃ ds,MsB m ds:=⟨_,MsB.of (by rw [← hm];exact HOK4.out)⟩
 have hdz:=hds.z;have hdi:=hds.i;have hdn:=hds.n
 have HDS:=Lib.hid hds
 have HM:=Lib.hid hm
 have HTD : Hid (Blk w4 T 39 ds.toList):=Lib.hid (by rw [hds.l,← hm];exact HT4.out)
 obtain ⟨w99,hst,hb99,hg99⟩:=run_store_blk (P:=Try.prog) ds.toList HR4.out (by rw [Array.length_toList,Array.length_toList,hz1,hdz]) hds.o
 have Hb99:=Lib.hid hb99;have HG99:=Lib.hid hg99
 have HS99:=Lib.hid (HS4.out.grown hg99 (fun q => by have:=Option.some.inj q;omega));have KB99 : Hid (KeepB S w w99):=Lib.hid (KB4.out.new hg99 (by have:=HRW.out;omega))
 clear hb99 hg99 hds hm HT4
 go_wp2_with ((with_reducible refine load_arr T ds (Eq.trans ?_ rfl) HTD.out _ Try.underlying39 rfl hdi ?_);rfl)
 have hb99:=Hb99.out
 have hsz : w4.heap.size ≤ w99.heap.size:=HG99.out.size
 have HAT : ∀ W,MidF (fun _ => True) w w99 W → m.at_ W:=fun W hW => by
  rw [← HM.out]
  exact ⟨HOK4.out,Rd.nil _ _,⟨Nat.le_refl _,Nat.zero_le _⟩,Rd.nil _ _,⟨Nat.le_refl _,Nat.zero_le _⟩,(own_mid (own_gr RW3_4.out HG99.out (by have:=BO3.out;omega)) (by have:=BO3.out;have:=HRW.out;omega) hW),own_lens RW3_4.out,Rd.nil _ _,⟨Nat.le_refl _,Nat.zero_le _⟩,Rd.nil _ _,⟨Nat.le_refl _,Nat.zero_le _⟩,txZ_at _⟩
 exact bodyPost_ret (v:=.agg ds) (results_cell_row Try.results31 _ _ r _ _ _ _ rfl hb99 Try.underlying39 rfl (by rw [List.size_toArray,Array.length_toList];exact hdi)) rfl
  ⟨m,ds,p3,[.items iA is ic],rfl,HDS.out,⟨HAT w99 ⟨trivial,fun _ _ _ => rfl⟩,HAT⟩,HMO.out,HGS.out,HS99.out,KB99.out⟩
set_option maxRecDepth 100000 in
set_option maxHeartbeats 8000000 in
theorem r9msg_8 (hb : Blk w S 85 (srcL A b.length c (0,0))) (hc : b.length ≤ c) (hl : b.length ≤ 1000000000) (hcm : c ≤ maxLen) (hr : RdX (some S) w A (b.map u8v)) :
  Calls Try.prog 31 #[.pointer (some ⟨S,0,none⟩),.int .i64 8] w (Msd S (srcL A b.length c) b 8 w):=by
 have hrr : ∀ y,KeepB S w y → RdX (some S) y A (b.map u8v):=fun y k => hr.kb k
 have ITM : Hid (∀ (p : SP) (y : World),KeepB S w y → Blk y S 85 (srcL A b.length c p) → p.1 ≤ b.length → Calls Try.prog 62 #[.pointer (some ⟨S,0,none⟩)] y (RowD S 85 (srcL A b.length c) 69 33 (List.flatMap Itm.cells) b p titN Itm.ok 50000 y)):=Lib.hid fun p y k h2 h3 => r9items_any S A b c p y h2 h3 hc hl hcm (hrr y k)
 have ITQ : Hid (∀ y,Calls Try.prog 36 #[.int .i64 8] y fun e w' => e = .returned (.bool true)∧Keep y w'):=Lib.hid fun y => ritems_any 8 y
 have hSw:=hb.lt
 have HB:=Lib.hid hb
 have HZ0 : Hid ((msgZ 8).at_ w):=Lib.hid (msgZ_at 8 (by omega) w)
 obtain ⟨zs,hz2,hzM⟩:=zrmsg_letter
 have hz1:=hzM.z;have hz3:=hzM.n
 have HBU:=Lib.hid (rmsg_built0 8)
 obtain ⟨bs,hbs⟩ : ∃ x,(msgZ 8).cells.toArray = x:=⟨_,rfl⟩
 have hbM : MsB (msgZ 8) bs:=by rw [← hbs];exact MsB.of (msgZ_ok 8 (by omega))
 rw [hbs] at HBU
 have hbz:=hbM.z;have hbi:=hbM.i;have hbn:=hbM.n
 have HBM:=Lib.hid hbM
 have Hst : Hid (∀ ww : World,(storeCells ⟨ww.heap.size,0,none⟩ bs.toList 0).run Try.prog (ww.alloc (.cells zs 39)) = .ok () (ww.alloc (.cells bs 39))):=Lib.hid fun ww => run_storeCells_new (P:=Try.prog) ww 39 zs bs hbi (hz1.trans hbz.symm) (by have:=all_oneCell_toArray hbM.o;rwa [Array.toArray_toList] at this)
 clear hb hr hrr hzM hbM hbs
 obtain ⟨L,hL⟩ : ∃ L,b.length = L:=⟨_,rfl⟩
 have HLL:=Lib.hid hL
 rw [hL] at HB ITM hl ⊢
 clear hL
 go_enter Try.func31,Try.ntmps31
 go_upto_region 1 with fail
 obtain ⟨w0,hw0⟩ : ∃ x,x = w.alloc (.cells zs 39):=⟨_,rfl⟩
 have HR0 : Hid (Blk w0 w.heap.size 39 zs.toList):=by rw [hw0];exact Lib.hid (Blk.new w _ zs.toList)
 have hk0 : Keep w w0:=by rw [hw0];exact keep_new _ _
 have HSZ : Hid (w0.heap.size = w.heap.size + 1):=Lib.hid (by rw [hw0];simp)
 rw [← hw0]
 clear hw0
 have hst:=Hst.out w0
 go_upto_region 2 with ((with_reducible refine list_bldg _ bs (Eq.trans ?_ rfl) HBU.out (Eq.trans ?_ rfl) ?_);rfl;rfl)
 obtain ⟨w1,hw1⟩ : ∃ x,x = w0.alloc (.cells bs 39):=⟨_,rfl⟩
 have HR1 : Hid (Blk w1 w.heap.size 39 zs.toList):=by rw [hw1];exact Lib.hid (HR0.out.alloc _)
 have HT1 : Hid (Blk w1 (w.heap.size + 1) 39 (msgZ 8).cells):=by
  rw [hw1,← HSZ.out,← HBM.out.l]
  exact Lib.hid (Blk.new w0 _ bs.toList)
 have hk1 : Keep w w1:=by rw [hw1];exact keep_trans hk0 (keep_new _ _)
 have HS1 : Hid (Blk w1 S 85 (srcL A L c (0,0))):=Lib.hid (HB.out.keep hk1)
 have KB1 : Hid (KeepB S w w1):=Lib.hid (KeepX.of hk1)
 have e0 : w0.heap.size = w.heap.size + 1:=HSZ.out
 rw [← hw1]
 simp only [e0]
 clear hw1 hk1 hk0 HB hst Hst HR0 HBU HBM hbz hbi hbn e0
 obtain ⟨r,hrr⟩ : ∃ r,w.heap.size = r:=⟨_,rfl⟩
 obtain ⟨T,hT⟩ : ∃ T,r + 1 = T:=⟨_,rfl⟩
 have HRW:=Lib.hid hrr
 rw [hrr] at HR1 hSw;rw [hrr,hT] at HT1
 simp only [hrr,hT]
 have hrT : r < T:=by omega
 have h01 : T < w1.heap.size:=HT1.out.lt
 clear hrr hT
 have hp0 : (0 : Nat) ≤ L:=Nat.zero_le _
 have HOK1 : Hid (MsgR.ok (msgZ 8)):=Lib.hid HZ0.out.o
 go_wp2_with fail
 refine (ITQ.out _).mono ?_
 clear ITQ
 rintro e w2 ⟨rfl,kq⟩
 have HKX:=Lib.hid (KeepX.of kq : KeepB S w1 w2);have HBX:=Lib.hid (HS1.out.keep kq)
 clear kq
 have HS2:=Lib.hid HBX.out;have HR2:=Lib.hid (KeepB.blk HKX.out HR1.out (by omega));have HT2:=Lib.hid (KeepB.blk HKX.out HT1.out (by omega));have KB2 : Hid (KeepB S w w2):=Lib.hid (KB1.out.trans HKX.out (fun _ _ q => q))
 clear HBX HKX HS1 HR1 HT1 KB1
 have N1:=Lib.hid (ITM.out (0,0) w2 KB2.out HS2.out hp0)
 have BZ3 : Hid (T < w2.heap.size):=Lib.hid HT2.out.lt;have BS3 : Hid (S < w2.heap.size):=Lib.hid HS2.out.lt
 go_upto_region 15 with (go_at_call 62;refine N1.out.mono ?_;rintro e w3 ⟨iA,ic,p3,is,rfl,hbq,hbX,hrd,hsl,hsn⟩;have xc:=(hbq.k.blk HT2.out (by omega)).cell 38;have fc:=(hbq.k.blk HT2.out (by omega)).frozen 38;rw [show (MsgR.cells (msgZ 8))[38]? = some (.slice none 0 0) from (MsgR.tail_get HOK1.out 0).trans rfl] at xc;have HBX:=Lib.hid hbX;have HKX:=Lib.hid hbq.k;have OWN:=Lib.hid hbq.o;have G3:=Lib.hid hrd;have HSL:=Lib.hid hsl;clear hbq hbX hrd hsl)
 have hp3l : p3.1 ≤ L:=by rw [← HLL.out];exact G3.out.1
 have HS3:=Lib.hid HBX.out;have HR3:=Lib.hid (KeepB.blk HKX.out HR2.out (by omega));have HT3:=Lib.hid (KeepB.blk HKX.out HT2.out (by omega));have KB3 : Hid (KeepB S w w3):=Lib.hid (KB2.out.trans HKX.out (fun _ _ q => q))
 obtain ⟨B3,hB⟩ : ∃ k,w2.heap.size = k:=⟨_,rfl⟩
 rw [hB] at OWN BZ3 BS3
 have ROW3:=OWN
 have BO3 : Hid (r < B3∧T < B3∧S < B3):=Lib.hid ⟨by have:=BZ3.out;omega,BZ3.out,BS3.out⟩
 clear hB HBX HKX OWN N1 BZ3 BS3 HS2 HR2 HT2 KB2
 have RW3_3:=ROW3
 clear ROW3
 obtain ⟨w4,hwn⟩ : ∃ x,x = w3.setCell ⟨T,38,none⟩ (.slice iA is.length ic):=⟨_,rfl⟩
 have HT4 : Hid (Blk w4 T 39 (MsgR.cells { msgZ 8 with iA:=iA,is:=is,ic:=ic })):=by rw [hwn];exact Lib.hid (by have q:=HT3.out.set_ 38 (.slice iA is.length ic);rw [set38r HOK1.out] at q;exact q)
 have hg : w3.grownBy w4 (some T):=by rw [hwn];exact grown_set (grown_refl _ _)
 have HS4:=Lib.hid (HS3.out.grown hg (fun q => by have:=Option.some.inj q;omega));have HR4:=Lib.hid (HR3.out.grown hg (fun q => by have:=Option.some.inj q;omega));have KB4 : Hid (KeepB S w w4):=Lib.hid (KB3.out.new hg (by have:=HRW.out;omega))
 have RW3_4:=Lib.hid (own_gr RW3_3.out hg (by have:=BO3.out;omega))
 have HOK4 : Hid (MsgR.ok { msgZ 8 with iA:=iA,is:=is,ic:=ic }):=Lib.hid ⟨HOK1.out.k,HOK1.out.n,HOK1.out.s,HOK1.out.b,HOK1.out.h,HOK1.out.l,HSL.out,HOK1.out.z⟩
 rw [← hwn]
 clear hwn hg HOK1
 clear HS3 HR3 HT3 KB3 RW3_3
 clear xc fc
 obtain ⟨m,hm⟩ : ∃ m : MsgR,{ msgZ 8 with iA:=iA,is:=is,ic:=ic } = m:=⟨_,rfl⟩
 have HGS : Hid (GS (partsM (msgZ 8)) b (0,0) p3 [.items iA is ic]):=Lib.hid (GS.cons (RdS.map (fun l => PV.items none l 0) G3.out fun d => rfl) (GS.nil (by rw [HLL.out];exact hp3l)))
 have HMO : Hid (m.pl = msgOf 8 (([.items iA is ic] : List PV).map PV.pl)):=Lib.hid (by rw [← hm];rfl)
 obtain ⟨ds,hds⟩ : ∃ ds,MsB m ds:=⟨_,MsB.of (by rw [← hm];exact HOK4.out)⟩
 have hdz:=hds.z;have hdi:=hds.i;have hdn:=hds.n
 have HDS:=Lib.hid hds
 have HM:=Lib.hid hm
 have HTD : Hid (Blk w4 T 39 ds.toList):=Lib.hid (by rw [hds.l,← hm];exact HT4.out)
 obtain ⟨w99,hst,hb99,hg99⟩:=run_store_blk (P:=Try.prog) ds.toList HR4.out (by rw [Array.length_toList,Array.length_toList,hz1,hdz]) hds.o
 have Hb99:=Lib.hid hb99;have HG99:=Lib.hid hg99
 have HS99:=Lib.hid (HS4.out.grown hg99 (fun q => by have:=Option.some.inj q;omega));have KB99 : Hid (KeepB S w w99):=Lib.hid (KB4.out.new hg99 (by have:=HRW.out;omega))
 clear hb99 hg99 hds hm HT4
 go_wp2_with ((with_reducible refine load_arr T ds (Eq.trans ?_ rfl) HTD.out _ Try.underlying39 rfl hdi ?_);rfl)
 have hb99:=Hb99.out
 have hsz : w4.heap.size ≤ w99.heap.size:=HG99.out.size
 have HAT : ∀ W,MidF (fun _ => True) w w99 W → m.at_ W:=fun W hW => by
  rw [← HM.out]
  exact ⟨HOK4.out,Rd.nil _ _,⟨Nat.le_refl _,Nat.zero_le _⟩,Rd.nil _ _,⟨Nat.le_refl _,Nat.zero_le _⟩,(own_mid (own_gr RW3_4.out HG99.out (by have:=BO3.out;omega)) (by have:=BO3.out;have:=HRW.out;omega) hW),own_lens RW3_4.out,Rd.nil _ _,⟨Nat.le_refl _,Nat.zero_le _⟩,Rd.nil _ _,⟨Nat.le_refl _,Nat.zero_le _⟩,txZ_at _⟩
 exact bodyPost_ret (v:=.agg ds) (results_cell_row Try.results31 _ _ r _ _ _ _ rfl hb99 Try.underlying39 rfl (by rw [List.size_toArray,Array.length_toList];exact hdi)) rfl
  ⟨m,ds,p3,[.items iA is ic],rfl,HDS.out,⟨HAT w99 ⟨trivial,fun _ _ _ => rfl⟩,HAT⟩,HMO.out,HGS.out,HS99.out,KB99.out⟩
set_option maxRecDepth 100000 in
set_option maxHeartbeats 8000000 in
theorem r9msg_9 (hb : Blk w S 85 (srcL A b.length c (0,0))) (hc : b.length ≤ c) (hl : b.length ≤ 1000000000) (hcm : c ≤ maxLen) (hr : RdX (some S) w A (b.map u8v)) :
  Calls Try.prog 31 #[.pointer (some ⟨S,0,none⟩),.int .i64 9] w (Msd S (srcL A b.length c) b 9 w):=by
 have hrr : ∀ y,KeepB S w y → RdX (some S) y A (b.map u8v):=fun y k => hr.kb k
 have BLK : Hid (∀ (p : SP) (y : World),KeepB S w y → Blk y S 85 (srcL A b.length c p) → p.1 ≤ b.length → Calls Try.prog 63 #[.pointer (some ⟨S,0,none⟩)] y (Bld S (srcL A b.length c) b p y)):=Lib.hid fun p y k h2 h3 => r9block_any S A b c p y h2 h3 hc hl hcm (hrr y k)
 have ITQ : Hid (∀ y,Calls Try.prog 36 #[.int .i64 9] y fun e w' => e = .returned (.bool false)∧Keep y w'):=Lib.hid fun y => ritems_any 9 y
 have hSw:=hb.lt
 have HB:=Lib.hid hb
 have HZ0 : Hid ((msgZ 9).at_ w):=Lib.hid (msgZ_at 9 (by omega) w)
 obtain ⟨zs,hz2,hzM⟩:=zrmsg_letter
 have hz1:=hzM.z;have hz3:=hzM.n
 have HBU:=Lib.hid (rmsg_built0 9)
 obtain ⟨bs,hbs⟩ : ∃ x,(msgZ 9).cells.toArray = x:=⟨_,rfl⟩
 have hbM : MsB (msgZ 9) bs:=by rw [← hbs];exact MsB.of (msgZ_ok 9 (by omega))
 rw [hbs] at HBU
 have hbz:=hbM.z;have hbi:=hbM.i;have hbn:=hbM.n
 have HBM:=Lib.hid hbM
 have Hst : Hid (∀ ww : World,(storeCells ⟨ww.heap.size,0,none⟩ bs.toList 0).run Try.prog (ww.alloc (.cells zs 39)) = .ok () (ww.alloc (.cells bs 39))):=Lib.hid fun ww => run_storeCells_new (P:=Try.prog) ww 39 zs bs hbi (hz1.trans hbz.symm) (by have:=all_oneCell_toArray hbM.o;rwa [Array.toArray_toList] at this)
 clear hb hr hrr hzM hbM hbs
 obtain ⟨L,hL⟩ : ∃ L,b.length = L:=⟨_,rfl⟩
 have HLL:=Lib.hid hL
 rw [hL] at HB BLK hl ⊢
 clear hL
 go_enter Try.func31,Try.ntmps31
 go_upto_region 1 with fail
 obtain ⟨w0,hw0⟩ : ∃ x,x = w.alloc (.cells zs 39):=⟨_,rfl⟩
 have HR0 : Hid (Blk w0 w.heap.size 39 zs.toList):=by rw [hw0];exact Lib.hid (Blk.new w _ zs.toList)
 have hk0 : Keep w w0:=by rw [hw0];exact keep_new _ _
 have HSZ : Hid (w0.heap.size = w.heap.size + 1):=Lib.hid (by rw [hw0];simp)
 rw [← hw0]
 clear hw0
 have hst:=Hst.out w0
 go_upto_region 2 with ((with_reducible refine list_bldg _ bs (Eq.trans ?_ rfl) HBU.out (Eq.trans ?_ rfl) ?_);rfl;rfl)
 obtain ⟨w1,hw1⟩ : ∃ x,x = w0.alloc (.cells bs 39):=⟨_,rfl⟩
 have HR1 : Hid (Blk w1 w.heap.size 39 zs.toList):=by rw [hw1];exact Lib.hid (HR0.out.alloc _)
 have HT1 : Hid (Blk w1 (w.heap.size + 1) 39 (msgZ 9).cells):=by
  rw [hw1,← HSZ.out,← HBM.out.l]
  exact Lib.hid (Blk.new w0 _ bs.toList)
 have hk1 : Keep w w1:=by rw [hw1];exact keep_trans hk0 (keep_new _ _)
 have HS1 : Hid (Blk w1 S 85 (srcL A L c (0,0))):=Lib.hid (HB.out.keep hk1)
 have KB1 : Hid (KeepB S w w1):=Lib.hid (KeepX.of hk1)
 have e0 : w0.heap.size = w.heap.size + 1:=HSZ.out
 rw [← hw1]
 simp only [e0]
 clear hw1 hk1 hk0 HB hst Hst HR0 HBU HBM hbz hbi hbn e0
 obtain ⟨r,hrr⟩ : ∃ r,w.heap.size = r:=⟨_,rfl⟩
 obtain ⟨T,hT⟩ : ∃ T,r + 1 = T:=⟨_,rfl⟩
 have HRW:=Lib.hid hrr
 rw [hrr] at HR1 hSw;rw [hrr,hT] at HT1
 simp only [hrr,hT]
 have hrT : r < T:=by omega
 have h01 : T < w1.heap.size:=HT1.out.lt
 clear hrr hT
 have hp0 : (0 : Nat) ≤ L:=Nat.zero_le _
 have HOK1 : Hid (MsgR.ok (msgZ 9)):=Lib.hid HZ0.out.o
 go_wp2_with fail
 refine (ITQ.out _).mono ?_
 clear ITQ
 rintro e w2 ⟨rfl,kq⟩
 have HKX:=Lib.hid (KeepX.of kq : KeepB S w1 w2);have HBX:=Lib.hid (HS1.out.keep kq)
 clear kq
 have HS2:=Lib.hid HBX.out;have HR2:=Lib.hid (KeepB.blk HKX.out HR1.out (by omega));have HT2:=Lib.hid (KeepB.blk HKX.out HT1.out (by omega));have KB2 : Hid (KeepB S w w2):=Lib.hid (KB1.out.trans HKX.out (fun _ _ q => q))
 clear HBX HKX HS1 HR1 HT1 KB1
 have N1:=Lib.hid (BLK.out (0,0) w2 KB2.out HS2.out hp0)
 have BZ : Hid (T < w2.heap.size):=Lib.hid HT2.out.lt
 go_wp2_with fail
 refine N1.out.mono ?_
 clear N1
 rintro e w3 ⟨bm,bs2,pb,rfl,hbl,hbo,hbz,hq1,hq2,hbX,hgs⟩
 have HKX:=Lib.hid hq1.k;have HBX:=Lib.hid hbX;have HGSB:=Lib.hid hgs;have Q1_3:=Lib.hid hq1.o;have Q2_3:=Lib.hid hq2.o
 have HBO:=Lib.hid hbo;have HBZ:=Lib.hid hbz
 clear hq1 hq2 hbX hgs
 have HS3:=Lib.hid HBX.out;have HR3:=Lib.hid (KeepB.blk HKX.out HR2.out (by omega));have HT3:=Lib.hid (KeepB.blk HKX.out HT2.out (by omega));have KB3 : Hid (KeepB S w w3):=Lib.hid (KB2.out.trans HKX.out (fun _ _ q => q))
 obtain ⟨B9,hB⟩ : ∃ k,w2.heap.size = k:=⟨_,rfl⟩
 rw [hB] at Q1_3 Q2_3 BZ
 have BO9 : Hid (r < B9∧T < B9):=Lib.hid ⟨by have:=BZ.out;omega,BZ.out⟩
 clear hB HBX HKX BZ HS2 HR2 HT2 KB2
 have hdz : bs2.size = 71:=by rw [← Array.length_toList,hbl];exact MsgR.blk_len hbo
 have hdn : ¬ bs2 = #[]:=fun q => by rw [q] at hdz;cases hdz
 have hdi : (Try.prog.info? 33).map (·.size) = some bs2.size:=by rw [hdz];exact rblk_info
 have hb1 : ∀ v ∈ bs2.toList,v.oneCell' = true:=by
  rw [hbl]
  intro u hu
  unfold MsgR.blk at hu
  rcases List.mem_append.1 hu with q | q
  ·exact Hd.one _ u q
  ·simp only [List.mem_cons,List.not_mem_nil,or_false] at q
   rcases q with rfl | rfl | rfl <;> rfl
 obtain ⟨w4,hst,hbX,hgX⟩:=run_store_prt (P:=Try.prog) 39 bs2.toList HT3.out (by rw [Array.length_toList,hdz,MsgR.len HOK1.out];omega) hb1
 rw [hbl,MsgR.splice_blk HOK1.out hbo] at hbX
 have HT4 : Hid (Blk w4 T 39 (MsgR.cells { msgZ 9 with bh:=bm.bh,total:=bm.total,sA:=bm.sA,shs:=bm.shs,sc:=bm.sc,fA:=bm.fA,fs:=bm.fs,fc:=bm.fc })):=Lib.hid hbX
 have HS4:=Lib.hid (HS3.out.grown hgX (fun q => by have:=Option.some.inj q;omega));have HR4:=Lib.hid (HR3.out.grown hgX (fun q => by have:=Option.some.inj q;omega));have KB4 : Hid (KeepB S w w4):=Lib.hid (KB3.out.new hgX (by have:=HRW.out;omega))
 have Q1_4:=Lib.hid (own_gr Q1_3.out hgX (by have:=BO9.out;omega));have Q2_4:=Lib.hid (own_gr Q2_3.out hgX (by have:=BO9.out;omega))
 have HOK4 : Hid (MsgR.ok { msgZ 9 with bh:=bm.bh,total:=bm.total,sA:=bm.sA,shs:=bm.shs,sc:=bm.sc,fA:=bm.fA,fs:=bm.fs,fc:=bm.fc }):=Lib.hid ⟨HOK1.out.k,HOK1.out.n,HOK1.out.s,HBO.out,HOK1.out.h,HOK1.out.l,HOK1.out.i,HBZ.out⟩
 clear hbX hgX hb1 hbl hbo hbz HS3 HR3 HT3 KB3
 go_upto_region 17 with fail
 clear hst hdz hdn hdi
 obtain ⟨m,hm⟩ : ∃ m : MsgR,{ msgZ 9 with bh:=bm.bh,total:=bm.total,sA:=bm.sA,shs:=bm.shs,sc:=bm.sc,fA:=bm.fA,fs:=bm.fs,fc:=bm.fc } = m:=⟨_,rfl⟩
 have HGS : Hid (GS (partsM (msgZ 9)) b (0,0) pb [.head bm.bh,.u32 bm.total,.hsh bm.sA bm.shs bm.sc 4096,.bytes bm.fA bm.fs bm.fc]):=Lib.hid (HGSB.out)
 have HMO : Hid (m.pl = msgOf 9 (([.head bm.bh,.u32 bm.total,.hsh bm.sA bm.shs bm.sc 4096,.bytes bm.fA bm.fs bm.fc] : List PV).map PV.pl)):=Lib.hid (by rw [← hm];rfl)
 obtain ⟨ds,hds⟩ : ∃ ds,MsB m ds:=⟨_,MsB.of (by rw [← hm];exact HOK4.out)⟩
 have hdz:=hds.z;have hdi:=hds.i;have hdn:=hds.n
 have HDS:=Lib.hid hds
 have HM:=Lib.hid hm
 have HTD : Hid (Blk w4 T 39 ds.toList):=Lib.hid (by rw [hds.l,← hm];exact HT4.out)
 obtain ⟨w99,hst,hb99,hg99⟩:=run_store_blk (P:=Try.prog) ds.toList HR4.out (by rw [Array.length_toList,Array.length_toList,hz1,hdz]) hds.o
 have Hb99:=Lib.hid hb99;have HG99:=Lib.hid hg99
 have HS99:=Lib.hid (HS4.out.grown hg99 (fun q => by have:=Option.some.inj q;omega));have KB99 : Hid (KeepB S w w99):=Lib.hid (KB4.out.new hg99 (by have:=HRW.out;omega))
 clear hb99 hg99 hds hm HT4
 go_wp2_with ((with_reducible refine load_arr T ds (Eq.trans ?_ rfl) HTD.out _ Try.underlying39 rfl hdi ?_);rfl)
 have hb99:=Hb99.out
 have hsz : w4.heap.size ≤ w99.heap.size:=HG99.out.size
 have HAT : ∀ W,MidF (fun _ => True) w w99 W → m.at_ W:=fun W hW => by
  rw [← HM.out]
  exact ⟨HOK4.out,Rd.nil _ _,⟨Nat.le_refl _,Nat.zero_le _⟩,Rd.nil _ _,⟨Nat.le_refl _,Nat.zero_le _⟩,Rd.nil _ _,⟨Nat.le_refl _,Nat.zero_le _⟩,(own_mid (own_gr Q1_4.out HG99.out (by have:=BO9.out;omega)) (by have:=BO9.out;have:=HRW.out;omega) hW),own_lens Q1_4.out,(own_mid (own_gr Q2_4.out HG99.out (by have:=BO9.out;omega)) (by have:=BO9.out;have:=HRW.out;omega) hW),own_lens Q2_4.out,txZ_at _⟩
 exact bodyPost_ret (v:=.agg ds) (results_cell_row Try.results31 _ _ r _ _ _ _ rfl hb99 Try.underlying39 rfl (by rw [List.size_toArray,Array.length_toList];exact hdi)) rfl
  ⟨m,ds,pb,[.head bm.bh,.u32 bm.total,.hsh bm.sA bm.shs bm.sc 4096,.bytes bm.fA bm.fs bm.fc],rfl,HDS.out,⟨HAT w99 ⟨trivial,fun _ _ _ => rfl⟩,HAT⟩,HMO.out,HGS.out,HS99.out,KB99.out⟩
set_option maxRecDepth 100000 in
set_option maxHeartbeats 8000000 in
theorem r9msg_10 (hb : Blk w S 85 (srcL A b.length c (0,0))) (hc : b.length ≤ c) (hl : b.length ≤ 1000000000) (hcm : c ≤ maxLen) (hr : RdX (some S) w A (b.map u8v)) :
  Calls Try.prog 31 #[.pointer (some ⟨S,0,none⟩),.int .i64 10] w (Msd S (srcL A b.length c) b 10 w):=by
 have hrr : ∀ y,KeepB S w y → RdX (some S) y A (b.map u8v):=fun y k => hr.kb k
 have TXR : Hid (∀ (y : World),KeepB S w y → Blk y S 85 (srcL A b.length c (0,0)) → Calls Try.prog 64 #[.pointer (some ⟨S,0,none⟩)] y (Txd S (srcL A b.length c) b y)):=Lib.hid fun y k h2 => r9tx_any S A b c y h2 hc hl hcm (hrr y k)
 have ITQ : Hid (∀ y,Calls Try.prog 36 #[.int .i64 10] y fun e w' => e = .returned (.bool false)∧Keep y w'):=Lib.hid fun y => ritems_any 10 y
 have hSw:=hb.lt
 have HB:=Lib.hid hb
 have HZ0 : Hid ((msgZ 10).at_ w):=Lib.hid (msgZ_at 10 (by omega) w)
 obtain ⟨zs,hz2,hzM⟩:=zrmsg_letter
 have hz1:=hzM.z;have hz3:=hzM.n
 have HBU:=Lib.hid (rmsg_built0 10)
 obtain ⟨bs,hbs⟩ : ∃ x,(msgZ 10).cells.toArray = x:=⟨_,rfl⟩
 have hbM : MsB (msgZ 10) bs:=by rw [← hbs];exact MsB.of (msgZ_ok 10 (by omega))
 rw [hbs] at HBU
 have hbz:=hbM.z;have hbi:=hbM.i;have hbn:=hbM.n
 have HBM:=Lib.hid hbM
 have Hst : Hid (∀ ww : World,(storeCells ⟨ww.heap.size,0,none⟩ bs.toList 0).run Try.prog (ww.alloc (.cells zs 39)) = .ok () (ww.alloc (.cells bs 39))):=Lib.hid fun ww => run_storeCells_new (P:=Try.prog) ww 39 zs bs hbi (hz1.trans hbz.symm) (by have:=all_oneCell_toArray hbM.o;rwa [Array.toArray_toList] at this)
 clear hb hr hrr hzM hbM hbs
 obtain ⟨L,hL⟩ : ∃ L,b.length = L:=⟨_,rfl⟩
 have HLL:=Lib.hid hL
 rw [hL] at HB TXR hl ⊢
 clear hL
 go_enter Try.func31,Try.ntmps31
 go_upto_region 1 with fail
 obtain ⟨w0,hw0⟩ : ∃ x,x = w.alloc (.cells zs 39):=⟨_,rfl⟩
 have HR0 : Hid (Blk w0 w.heap.size 39 zs.toList):=by rw [hw0];exact Lib.hid (Blk.new w _ zs.toList)
 have hk0 : Keep w w0:=by rw [hw0];exact keep_new _ _
 have HSZ : Hid (w0.heap.size = w.heap.size + 1):=Lib.hid (by rw [hw0];simp)
 rw [← hw0]
 clear hw0
 have hst:=Hst.out w0
 go_upto_region 2 with ((with_reducible refine list_bldg _ bs (Eq.trans ?_ rfl) HBU.out (Eq.trans ?_ rfl) ?_);rfl;rfl)
 obtain ⟨w1,hw1⟩ : ∃ x,x = w0.alloc (.cells bs 39):=⟨_,rfl⟩
 have HR1 : Hid (Blk w1 w.heap.size 39 zs.toList):=by rw [hw1];exact Lib.hid (HR0.out.alloc _)
 have HT1 : Hid (Blk w1 (w.heap.size + 1) 39 (msgZ 10).cells):=by
  rw [hw1,← HSZ.out,← HBM.out.l]
  exact Lib.hid (Blk.new w0 _ bs.toList)
 have hk1 : Keep w w1:=by rw [hw1];exact keep_trans hk0 (keep_new _ _)
 have HS1 : Hid (Blk w1 S 85 (srcL A L c (0,0))):=Lib.hid (HB.out.keep hk1)
 have KB1 : Hid (KeepB S w w1):=Lib.hid (KeepX.of hk1)
 have e0 : w0.heap.size = w.heap.size + 1:=HSZ.out
 rw [← hw1]
 simp only [e0]
 clear hw1 hk1 hk0 HB hst Hst HR0 HBU HBM hbz hbi hbn e0
 obtain ⟨r,hrr⟩ : ∃ r,w.heap.size = r:=⟨_,rfl⟩
 obtain ⟨T,hT⟩ : ∃ T,r + 1 = T:=⟨_,rfl⟩
 have HRW:=Lib.hid hrr
 rw [hrr] at HR1 hSw;rw [hrr,hT] at HT1
 simp only [hrr,hT]
 have hrT : r < T:=by omega
 have h01 : T < w1.heap.size:=HT1.out.lt
 clear hrr hT
 have hp0 : (0 : Nat) ≤ L:=Nat.zero_le _
 have HOK1 : Hid (MsgR.ok (msgZ 10)):=Lib.hid HZ0.out.o
 go_wp2_with fail
 refine (ITQ.out _).mono ?_
 clear ITQ
 rintro e w2 ⟨rfl,kq⟩
 have HKX:=Lib.hid (KeepX.of kq : KeepB S w1 w2);have HBX:=Lib.hid (HS1.out.keep kq)
 clear kq
 have HS2:=Lib.hid HBX.out;have HR2:=Lib.hid (KeepB.blk HKX.out HR1.out (by omega));have HT2:=Lib.hid (KeepB.blk HKX.out HT1.out (by omega));have KB2 : Hid (KeepB S w w2):=Lib.hid (KB1.out.trans HKX.out (fun _ _ q => q))
 clear HBX HKX HS1 HR1 HT1 KB1
 have N1:=Lib.hid (TXR.out w2 KB2.out HS2.out)
 have BZ : Hid (T < w2.heap.size):=Lib.hid HT2.out.lt
 go_wp2_with fail
 refine N1.out.mono ?_
 clear N1
 rintro e w3 ⟨t,pb,rfl,hrd,⟨-,hmid⟩,hbX,hkX⟩
 have HKX:=Lib.hid hkX;have HBX:=Lib.hid hbX;have HRD:=Lib.hid hrd;have HMID:=Lib.hid hmid
 have hsz3 : w2.heap.size ≤ w3.heap.size:=hkX.2.2.2.1
 clear hrd hbX hkX hmid
 have HS3:=Lib.hid HBX.out;have HR3:=Lib.hid (KeepB.blk HKX.out HR2.out (by omega));have HT3:=Lib.hid (KeepB.blk HKX.out HT2.out (by omega));have KB3 : Hid (KeepB S w w3):=Lib.hid (KB2.out.trans HKX.out (fun _ _ q => q))
 have BO9 : Hid (r < w2.heap.size∧T < w2.heap.size):=Lib.hid ⟨by have:=BZ.out;omega,BZ.out⟩
 clear HBX HKX BZ HS2 HR2 HT2 KB2
 obtain ⟨ts,hts⟩ : ∃ x,t.cells.toArray = x:=⟨_,rfl⟩
 have htl : ts.toList = t.cells:=by rw [← hts]
 have hdz : ts.size = 4:=by rw [← hts];rfl
 have hdn : ¬ ts = #[]:=fun q => by rw [q] at hdz;cases hdz
 have hdi : (Try.prog.info? 37).map (·.size) = some ts.size:=by rw [hdz];exact rtx_info
 have hb1 : ∀ v ∈ ts.toList,v.oneCell' = true:=by
  rw [htl]
  intro u hu
  unfold TxR.cells at hu
  simp only [List.mem_cons,List.not_mem_nil,or_false] at hu
  rcases hu with rfl | rfl | rfl | rfl <;> rfl
 obtain ⟨w4,hst,hbX,hgX⟩:=run_store_prt (P:=Try.prog) 110 ts.toList HT3.out (by rw [Array.length_toList,hdz,MsgR.len HOK1.out];omega) hb1
 rw [htl,MsgR.splice_tx HOK1.out t] at hbX
 have HT4 : Hid (Blk w4 T 39 (MsgR.cells { msgZ 10 with t:=t })):=Lib.hid hbX
 have HS4:=Lib.hid (HS3.out.grown hgX (fun q => by have:=Option.some.inj q;omega));have HR4:=Lib.hid (HR3.out.grown hgX (fun q => by have:=Option.some.inj q;omega));have KB4 : Hid (KeepB S w w4):=Lib.hid (KB3.out.new hgX (by have:=HRW.out;omega))
 have HGX:=Lib.hid hgX
 have HOK4 : Hid (MsgR.ok { msgZ 10 with t:=t }):=Lib.hid ⟨HOK1.out.k,HOK1.out.n,HOK1.out.s,HOK1.out.b,HOK1.out.h,HOK1.out.l,HOK1.out.i,HOK1.out.z⟩
 rw [hts]
 clear hts htl hbX hgX hb1 HS3 HR3 HT3 KB3
 go_upto_region 19 with fail
 clear hst hdz hdn hdi
 obtain ⟨m,hm⟩ : ∃ m : MsgR,{ msgZ 10 with t:=t } = m:=⟨_,rfl⟩
 have HGS : Hid (GS (partsM (msgZ 10)) b (0,0) pb [.tx t]):=Lib.hid (GS.cons (RdS.map PV.tx HRD.out fun d => rfl) (GS.nil (by rw [HLL.out];exact (by rw [← HLL.out];exact HRD.out.1))))
 have HMO : Hid (m.pl = msgOf 10 (([.tx t] : List PV).map PV.pl)):=Lib.hid (by rw [← hm];rfl)
 obtain ⟨ds,hds⟩ : ∃ ds,MsB m ds:=⟨_,MsB.of (by rw [← hm];exact HOK4.out)⟩
 have hdz:=hds.z;have hdi:=hds.i;have hdn:=hds.n
 have HDS:=Lib.hid hds
 have HM:=Lib.hid hm
 have HTD : Hid (Blk w4 T 39 ds.toList):=Lib.hid (by rw [hds.l,← hm];exact HT4.out)
 obtain ⟨w99,hst,hb99,hg99⟩:=run_store_blk (P:=Try.prog) ds.toList HR4.out (by rw [Array.length_toList,Array.length_toList,hz1,hdz]) hds.o
 have Hb99:=Lib.hid hb99;have HG99:=Lib.hid hg99
 have HS99:=Lib.hid (HS4.out.grown hg99 (fun q => by have:=Option.some.inj q;omega));have KB99 : Hid (KeepB S w w99):=Lib.hid (KB4.out.new hg99 (by have:=HRW.out;omega))
 clear hb99 hg99 hds hm HT4
 go_wp2_with ((with_reducible refine load_arr T ds (Eq.trans ?_ rfl) HTD.out _ Try.underlying39 rfl hdi ?_);rfl)
 have hb99:=Hb99.out
 have hsz : w4.heap.size ≤ w99.heap.size:=HG99.out.size
 have HAT : ∀ W,MidF (fun _ => True) w w99 W → m.at_ W:=fun W hW => by
  rw [← HM.out]
  exact ⟨HOK4.out,Rd.nil _ _,⟨Nat.le_refl _,Nat.zero_le _⟩,Rd.nil _ _,⟨Nat.le_refl _,Nat.zero_le _⟩,Rd.nil _ _,⟨Nat.le_refl _,Nat.zero_le _⟩,Rd.nil _ _,⟨Nat.le_refl _,Nat.zero_le _⟩,Rd.nil _ _,⟨Nat.le_refl _,Nat.zero_le _⟩,(HMID.out W ⟨trivial,fun k q1 q2 => by rw [hW.2 k (by have:=HRW.out;have:=BO9.out;omega) (by have:=HGX.out.size;omega),HG99.out.block k (by have:=HGX.out.size;omega) (by intro q;have:=Option.some.inj q;have:=BO9.out;omega),HGX.out.block k q2 (by intro q;have:=Option.some.inj q;have:=BO9.out;omega)]⟩)⟩
 exact bodyPost_ret (v:=.agg ds) (results_cell_row Try.results31 _ _ r _ _ _ _ rfl hb99 Try.underlying39 rfl (by rw [List.size_toArray,Array.length_toList];exact hdi)) rfl
  ⟨m,ds,pb,[.tx t],rfl,HDS.out,⟨HAT w99 ⟨trivial,fun _ _ _ => rfl⟩,HAT⟩,HMO.out,HGS.out,HS99.out,KB99.out⟩
end
end Go.Proofs.Ytbgpgdhndanigaa
/- florinref09.Get. (printed by gen_kt.py) -/
set_option linter.unusedSimpArgs false
set_option linter.unusedVariables false
namespace Go.Proofs.Ytbgpgdhndanigaa
open Go.RowKit
attribute [local go_sem ↓] Go.wp_at_zero Go.wp_at_succ
theorem zrmsg_letterB : ∃ zs : Array Value,(∀ w,(zeroValue 39).run Try.prog w = .ok (.agg zs) w)∧MsB (msgZ 0) zs∧Try.prog.built 39 [] = some zs :=
 ⟨zrmsg,zrmsg_zero,by
  have h:=MsB.of (msgZ_ok 0 (by omega))
  rwa [← zrmsg_list,Array.toArray_toList] at h,by kernel_rfl⟩
def Rgd (R : MsgR × Int) (w : World) (e : Ending) (w' : World) : Prop:=∃ (m : MsgR) (cs : Array Value),e = .returned (.tuple #[.agg cs,iv R.2])∧MsB m cs∧m.pl = R.1∧m.at_ w'∧Keep w w'
theorem r9msg_any (k : Nat) (hk : k < 11) (S : Nat) (A : Option Addr) (b : List UInt8) (c : Nat) (w : World) (hb : Blk w S 85 (srcL A b.length c (0,0))) (hc : b.length ≤ c) (hl : b.length ≤ 1000000000) (hcm : c ≤ maxLen) (hr : RdX (some S) w A (b.map u8v)) :
  Calls Try.prog 31 #[.pointer (some ⟨S,0,none⟩),iv k] w (Msd S (srcL A b.length c) b k w):=by
 obtain rfl | rfl | rfl | rfl | rfl | rfl | rfl | rfl | rfl | rfl | rfl : k = 0 ∨ k = 1 ∨ k = 2 ∨ k = 3 ∨ k = 4 ∨ k = 5 ∨ k = 6 ∨ k = 7 ∨ k = 8 ∨ k = 9 ∨ k = 10:=by omega
 ·exact r9msg_0 S A b c w hb hc hl hcm hr
 ·exact r9msg_1 S A b c w hb hc hl hcm hr
 ·exact r9msg_2 S A b c w hb hc hl hcm hr
 ·exact r9msg_3 S A b c w hb hc hl hcm hr
 ·exact r9msg_4 S A b c w hb hc hl hcm hr
 ·exact r9msg_5 S A b c w hb hc hl hcm hr
 ·exact r9msg_6 S A b c w hb hc hl hcm hr
 ·exact r9msg_7 S A b c w hb hc hl hcm hr
 ·exact r9msg_8 S A b c w hb hc hl hcm hr
 ·exact r9msg_9 S A b c w hb hc hl hcm hr
 ·exact r9msg_10 S A b c w hb hc hl hcm hr
theorem gs_get {k : Nat} {b : List UInt8} {a : Nat} {e : Int} {qs : List PV} {M : MsgR} {ok : Bool} {s : List UInt8} (hk : kindN s = (k,true)) (h : GS (partsM (msgZ k)) b (0,0) (a,e) qs) (hm : M = msgOf k (qs.map PV.pl)) :
  a ≤ b.length∧wgetN s b = if e = 0 then (if a < b.length then (msgZ 0,2) else (M,0)) else (msgZ 0,e):=by
 obtain ⟨h1,-,h3,h4⟩:=h
 refine ⟨h1,?_⟩
 unfold wgetN
 rw [hk,if_pos rfl]
 simp only [List.drop_zero] at h3 h4 ⊢
 by_cases h0 : (getsN (partsM (msgZ k)) b).2.2 = 0
 ·obtain ⟨q1,q2,q3⟩:=h3 trivial h0
  have q2 : e = 0:=q2
  have q3 : b.drop a = _:=q3
  rw [if_pos h0,if_pos q2,← q3,hm,q1]
  by_cases hl : a < b.length
  ·rw [if_pos hl,if_neg (fun q => by have:=congrArg List.length q;rw [List.length_drop,List.length_nil] at this;omega)]
  ·rw [if_neg hl,if_pos (List.drop_eq_nil_of_le (by omega))]
 ·have q : e = _:=h4 trivial h0
  rw [if_neg h0,if_neg (by rw [q];exact h0),q]
set_option maxRecDepth 100000 in
set_option maxHeartbeats 8000000 in
theorem rget_any (s : List UInt8) (A : Option Addr) (b : List UInt8) (c : Nat) (w : World) (hl : b.length ≤ 1000000000) (hc : b.length ≤ c) (hcm : c ≤ maxLen) (hr : Rd w A (b.map u8v)) :
  Calls Try.prog 10 #[.string (str s),.slice A b.length c] w (Rgd (wgetN s b) w):=by
 obtain ⟨ys,hyz,hyA,hyb⟩:=zrmsg_letterB
 have hyn:=hyA.n;have hyi:=hyA.i;have hys:=hyA.z
 have HY:=Lib.hid hyA;have HB0:=Lib.hid hyb
 have KT : Hid (∀ y,Calls Try.prog 12 #[.string (str s)] y fun e w' => e = .returned (.tuple #[iv (kindN s).1,.bool (kindN s).2])∧Keep y w'):=Lib.hid fun y => rkind_any s y
 have HRR : Hid ((kindN s).2 = false → wgetN s b = (msgZ 0,2)):=Lib.hid fun h => by unfold wgetN;rw [h,if_neg (by simp)]
 have HGT : Hid (∀ (a : Nat) (e : Int) (qs : List PV) (M : MsgR),(kindN s).2 = true → GS (partsM (msgZ (kindN s).1)) b (0,0) (a,e) qs → M = msgOf (kindN s).1 (qs.map PV.pl) → a ≤ b.length∧wgetN s b = if e = 0 then (if a < b.length then (msgZ 0,2) else (M,0)) else (msgZ 0,e)):=Lib.hid fun a e qs M h1 h2 h3 => gs_get (ok:=true) (by rw [← h1]) h2 h3
 have MSG : Hid ((kindN s).2 = true → ∀ (S : Nat) (y : World),Keep w y → w.heap.size ≤ S → Blk y S 85 (srcL A b.length c (0,0)) → Calls Try.prog 31 #[.pointer (some ⟨S,0,none⟩),iv (kindN s).1] y (Msd S (srcL A b.length c) b (kindN s).1 y)):=Lib.hid fun h S y hy hS hb => r9msg_any _ (kindN_spec h).2 S A b c y hb hc hl hcm ((RdX.of_old hr (fun k q => by cases q;exact hS)).keep hy)
 clear hyA hyb hr hl hc hcm
 generalize wgetN s b = R at *
 generalize kindN s = kn at *
 obtain ⟨k,ok⟩:=kn
 simp only at KT HRR HGT MSG
 obtain ⟨L,hL⟩ : ∃ L,b.length = L:=⟨_,rfl⟩
 rw [hL] at HGT MSG ⊢
 clear hL
 go_enter Try.func10,Try.ntmps10
 go_upto_region 1 with fail
 obtain ⟨w1,hw1⟩ : ∃ w1,w1 = w.alloc (.cells ys 39):=⟨_,rfl⟩
 have HR1 : Hid (Blk w1 w.heap.size 39 ys.toList):=by rw [hw1];exact Lib.hid (Blk.new w _ ys.toList)
 have HK1 : Hid (Keep w w1):=by rw [hw1];exact Lib.hid (keep_new _ _)
 rw [← hw1]
 clear hw1
 obtain ⟨r,hrr⟩ : ∃ r,w.heap.size = r:=⟨_,rfl⟩
 have HRW:=Lib.hid hrr
 rw [hrr] at HR1
 simp only [hrr]
 clear hrr
 cases ok with
 | false =>
   have HR:=Lib.hid (HRR.out rfl)
   clear HRR HGT MSG
   go_upto_region 3 with (go_at_call 12;refine (KT.out _).mono ?_;rintro e w2 ⟨rfl,k2⟩;have HK2:=Lib.hid (keep_trans HK1.out k2);have HR2:=Lib.hid (HR1.out.keep k2);clear k2)
   obtain ⟨w8,hst8,hb8,hg8⟩:=run_store_blk (P:=Try.prog) ys.toList HR2.out rfl HY.out.o
   have Hb8:=Lib.hid hb8;have Hg8:=Lib.hid hg8
   clear hb8 hg8
   go_wp2_with ((with_reducible refine list_bldg [] ys (Eq.trans ?_ rfl) HB0.out (Eq.trans ?_ rfl) ?_);rfl;rfl)
   exact bodyPost_ret (v:=.tuple #[.agg ys,iv 2]) (results_cell_tmp_row Try.results10 _ _ r _ _ _ _ rfl Hb8.out Try.underlying39 rfl (by rw [List.size_toArray,Array.length_toList];exact hyi)) rfl ⟨msgZ 0,ys,by rw [HR.out],HY.out,by rw [HR.out];rfl,msgZ_at 0 (by omega) _,HK2.out.grown Hg8.out HK2.out.size (fun q hq => by injection hq with hq;have:=HRW.out;omega)⟩
 | true =>
   have MG:=Lib.hid (MSG.out rfl)
   have GT:=Lib.hid fun a e qs M => HGT.out a e qs M rfl
   clear HRR HGT MSG
   go_upto_region 5 with (go_at_call 12;refine (KT.out _).mono ?_;rintro e w2 ⟨rfl,k2⟩;have HK2:=Lib.hid (keep_trans HK1.out k2);have HR2:=Lib.hid (HR1.out.keep k2);clear k2 HK1 HR1 KT)
   obtain ⟨w3,hw3⟩ : ∃ x,x = w2.alloc (.cells #[.slice A L c,.int .i64 0,.int .i64 0] 85):=⟨_,rfl⟩
   have HS3 : Hid (Blk w3 w2.heap.size 85 (srcL A L c (0,0))):=by rw [hw3];exact Lib.hid (Blk.new w2 _ [.slice A L c,.int .i64 0,.int .i64 0])
   have HR3 : Hid (Blk w3 r 39 ys.toList):=by rw [hw3];exact Lib.hid (HR2.out.alloc _)
   have HK3 : Hid (Keep w w3):=by rw [hw3];exact Lib.hid (keep_trans HK2.out (keep_new _ _))
   have hrS : r < w2.heap.size:=HR2.out.lt
   rw [← hw3]
   clear hw3 HK2 HR2
   obtain ⟨S,hS⟩ : ∃ S,w2.heap.size = S:=⟨_,rfl⟩
   rw [hS] at HS3 hrS
   simp only [hS]
   clear hS
   have MG3:=Lib.hid (MG.out S w3 HK3.out (by have:=HRW.out;omega) HS3.out)
   go_wp2_with fail
   refine MG3.out.mono ?_
   clear MG MG3
   rintro e w4 ⟨m,cs,⟨a,e0⟩,qs,rfl,hms,⟨-,hat⟩,hpl,hgs,hb4,hk4⟩
   have HMS:=Lib.hid hms;have HAT:=Lib.hid hat;have HPL:=Lib.hid hpl
   obtain ⟨hal,hR⟩:=GT.out a e0 qs m.pl hgs hpl
   have HRR:=Lib.hid hR
   have HS4:=Lib.hid hb4;have HR4:=Lib.hid (KeepB.blk hk4 HR3.out (by omega))
   have HK4 : Hid (Keep w w4):=Lib.hid (hk4.keep HK3.out fun j q => by have:=HRW.out;omega)
   have hcz:=hms.z;have hcn:=hms.n;have hci:=hms.i
   have h34 : w3.heap.size ≤ w4.heap.size:=hk4.2.2.2.1
   have hS3 : S < w3.heap.size:=HS3.out.lt
   have Hst : Hid (∀ ww : World,(storeCells ⟨ww.heap.size,0,none⟩ cs.toList 0).run Try.prog (ww.alloc (.cells ys 39)) = .ok () (ww.alloc (.cells cs 39))):=Lib.hid fun ww => run_storeCells_new (P:=Try.prog) ww 39 ys cs hci (hys.trans hcz.symm) (by have:=all_oneCell_toArray hms.o;rwa [Array.toArray_toList] at this)
   clear hms hat hpl hgs hb4 hk4 HS3 HR3 HK3 GT hR
   have hst:=Hst.out w4
   go_upto_region 6 with fail
   obtain ⟨w5,hw5⟩ : ∃ x,x = w4.alloc (.cells cs 39):=⟨_,rfl⟩
   have HT5 : Hid (Blk w5 w4.heap.size 39 cs.toList):=by rw [hw5];exact Lib.hid (Blk.new w4 _ cs.toList)
   have HS5 : Hid (Blk w5 S 85 (srcL A L c (a,e0))):=by rw [hw5];exact Lib.hid (HS4.out.alloc _)
   have HR5 : Hid (Blk w5 r 39 ys.toList):=by rw [hw5];exact Lib.hid (HR4.out.alloc _)
   have HK5 : Hid (Keep w w5):=by rw [hw5];exact Lib.hid (keep_trans HK4.out (keep_new _ _))
   have HO5 : Hid (∀ k,k < w4.heap.size → w5.heap[k]? = w4.heap[k]?):=by rw [hw5];exact Lib.hid fun k h => (keep_new w4 _).block k h
   have hrT : r < w4.heap.size:=HR4.out.lt
   rw [← hw5]
   clear hw5 hst Hst HS4 HR4 HK4
   obtain ⟨T,hT⟩ : ∃ T,w4.heap.size = T:=⟨_,rfl⟩
   have HTW:=Lib.hid hT
   rw [hT] at HT5 HO5 hrT h34
   simp only [hT]
   clear hT
   have s1:=HS5.out.cell 1;have s2:=HS5.out.cell 2
   simp only [List.getElem?_cons_succ,List.getElem?_cons_zero] at s1 s2
   by_cases h0 : e0 = 0
   case neg =>
    have d1 : (e0 != 0) = true:=by rw [bne_iff_ne];exact h0
    have hR:=HRR.out
    rw [if_neg h0] at hR
    have HR:=Lib.hid hR
    have hrS2 : r ≠ S:=by omega
    clear HRR h0 hR HT5 HO5
    go_upto_region 7 with fail
    letI iM : G.Mk:=⟨some r⟩
    refine G.wp_region_tree (.take [0,1,2,3,4] (.force [5] (.take [6] .done))) [] (by kernel_rfl) (by kernel_rfl) (fun wa ka => ?_)
    have hneS : G.Mk.m ≠ some S:=fun q => hrS2 (Option.some.inj q)
    have HSa:=Lib.hid (HS5.out.keep ka);have HRa:=Lib.hid (HR5.out.keep ka);have HKa:=Lib.hid (keep_trans HK5.out ka)
    have b1:=G.aftG_cell (HSa.out.cell 2) hneS
    clear ka HS5 HR5 HK5 s1 s2
    refine G.mt_take wa (G.Gr.refl _) ?_
    simp only [pick_cons,pick_nil,nth_zero,nth_succ]
    repeat (first | ((with_reducible refine wpQuiet_buildm [] ys (Eq.trans ?_ rfl) HB0.out ?_);rfl;simp only [Act.put,Array.set!_eq_setIfInBounds,List.setIfInBounds_toArray,List.set_cons_succ,List.set_cons_zero]) | go_big_quiet_step (fail))
    refine wpQuiet_nil (G.mt_force ?_)
    clear b1 hneS
    simp only [pick_cons,pick_nil,nth_zero,nth_succ]
    refine G.fc_step rfl (fun K hK => ?_)
    obtain ⟨w8,hst8,hb8,hg8⟩:=run_store_blk (P:=Try.prog) ys.toList HRa.out rfl HY.out.o
    have Hb8:=Lib.hid hb8;have Hg8:=Lib.hid hg8
    clear hb8 hg8
    go_simp
    refine hK _ _ (show G.Gr wa _ from Hg8.out) ?_
    clear hK K hst8
    refine G.fc_nil (G.mt_take _ (G.Gr.refl _) ?_)
    simp only [pick_cons,pick_nil,nth_zero,nth_succ]
    repeat (go_big_quiet_step (fail))
    refine wpQuiet_nil (G.mt_end ?_)
    clear iM
    go_wp2_with fail
    exact bodyPost_ret (v:=.tuple #[.agg ys,iv e0]) (results_cell_tmp_row Try.results10 _ _ r _ _ _ _ rfl Hb8.out Try.underlying39 rfl (by rw [List.size_toArray,Array.length_toList];exact hyi)) rfl ⟨msgZ 0,ys,by rw [HR.out],HY.out,by rw [HR.out];rfl,msgZ_at 0 (by omega) _,HKa.out.grown Hg8.out HKa.out.size (fun q hq => by injection hq with hq;have:=HRW.out;omega)⟩
   subst h0
   have hR:=HRR.out
   rw [if_pos rfl] at hR
   clear HRR
   by_cases hlt : a < L
   ·have d1 : (a : Int) < L:=by omega
    rw [if_pos hlt] at hR
    have HR:=Lib.hid hR
    clear hR hlt hal HT5 HO5
    go_upto_region 9 with fail
    obtain ⟨w8,hst8,hb8,hg8⟩:=run_store_blk (P:=Try.prog) ys.toList HR5.out rfl HY.out.o
    have Hb8:=Lib.hid hb8;have Hg8:=Lib.hid hg8
    clear hb8 hg8
    go_wp2_with ((with_reducible refine list_bldg [] ys (Eq.trans ?_ rfl) HB0.out (Eq.trans ?_ rfl) ?_);rfl;rfl)
    exact bodyPost_ret (v:=.tuple #[.agg ys,iv 2]) (results_cell_tmp_row Try.results10 _ _ r _ _ _ _ rfl Hb8.out Try.underlying39 rfl (by rw [List.size_toArray,Array.length_toList];exact hyi)) rfl ⟨msgZ 0,ys,by rw [HR.out],HY.out,by rw [HR.out];rfl,msgZ_at 0 (by omega) _,HK5.out.grown Hg8.out HK5.out.size (fun q hq => by injection hq with hq;have:=HRW.out;omega)⟩
   ·have d1 : ¬ (a : Int) < L:=by omega
    rw [if_neg hlt] at hR
    have HR:=Lib.hid hR
    clear hR hlt hal
    obtain ⟨w8,hst8,hb8,hg8⟩:=run_store_blk (P:=Try.prog) cs.toList HR5.out (by rw [Array.length_toList,Array.length_toList,hcz,hys]) HMS.out.o
    have Hb8:=Lib.hid hb8;have Hg8:=Lib.hid hg8
    clear hb8 hg8
    go_upto_region 10 with fail
    go_wp2_with ((with_reducible refine load_arr T cs (Eq.trans ?_ rfl) HT5.out _ Try.underlying39 rfl hci ?_);rfl)
    have hat8 : m.at_ w8:=HAT.out w8 ⟨trivial,fun k h1 h2 => (Hg8.out.block k (by have:=HT5.out.lt;have:=HTW.out;omega) (fun e => by have:=Option.some.inj e;omega)).trans (HO5.out k (by have:=HTW.out;omega))⟩
    exact bodyPost_ret (v:=.tuple #[.agg cs,iv 0]) (results_cell_tmp_row Try.results10 _ _ r _ _ _ _ rfl Hb8.out Try.underlying39 rfl (by rw [List.size_toArray,Array.length_toList];exact hci)) rfl ⟨m,cs,by rw [HR.out],HMS.out,by rw [HR.out],hat8,HK5.out.grown Hg8.out HK5.out.size (fun q hq => by injection hq with hq;have:=HRW.out;omega)⟩
end Go.Proofs.Ytbgpgdhndanigaa
/- Few: has a transaction, a message, few parts? (printed by gen_pf.py) -/
set_option linter.unusedSimpArgs false
set_option linter.unusedVariables false
namespace Go.Proofs.Ytbgpgdhndanigaa
open Go.RowKit
attribute [local go_sem ↓] Go.wp_at_zero Go.wp_at_succ
def fewT (t : TxR) : Bool:=decide ((∀ x ∈ t.ins,x.sc.length ≤ 300)∧(∀ x ∈ t.outs,x.sc.length ≤ 300)∧t.ins.length ≤ 20∧t.outs.length ≤ 20)
def fewM (m : MsgR) : Bool:=decide (m.hs.length ≤ 40∧m.ls.length ≤ 150∧m.is.length ≤ 100∧m.shs.length ≤ 100∧m.fs.length ≤ 1100) && fewT m.t
set_option maxRecDepth 100000 in
set_option maxHeartbeats 4000000 in
theorem few08_any (t : TxR) (w : World) (h : t.at w) :
  Calls Try.prog 19 #[.agg #[u32v t.ver,.slice t.iA t.ins.length t.ic,.slice t.oA t.outs.length t.oc,u32v t.lock]] w fun e w' => e = .returned (.bool (fewT t))∧Keep w w':=by
 have HI : Hid (∀ k (h : k < t.ins.length),∃ (b off : Nat) (x : InR),t.iA = some ⟨b,off,none⟩∧w.cell? ⟨b,off + k * 35 + 33,none⟩ = some (.slice x.A x.sc.length x.cap)∧t.ins[k]? = some x):=Lib.hid fun k hk => by
  have hp:=(h.is _ (List.getElem_mem hk)).p
  obtain ⟨b,off,h1,-,h2⟩:=in_at h.i (fun x hx => (h.is x hx).p) hk
  exact ⟨b,off,_,h1,h2 33 _ (by unfold InR.cells;rw [List.getElem?_append_right (by simp [hp])];simp [hp]),List.getElem?_eq_getElem hk⟩
 have HO : Hid (∀ k (h : k < t.outs.length),∃ (b off : Nat) (x : OutR),t.oA = some ⟨b,off,none⟩∧w.cell? ⟨b,off + k * 2 + 1,none⟩ = some (.slice x.A x.sc.length x.cap)∧t.outs[k]? = some x):=Lib.hid fun k hk => by
  obtain ⟨b,off,h1,-,h2,h3⟩:=out_at h.o hk
  exact ⟨b,off,_,h1,h3,List.getElem?_eq_getElem hk⟩
 have hi9:=h.ic;have ho9:=h.oc
 unfold maxLen at hi9 ho9
 obtain ⟨R,hR⟩ : ∃ R,fewT t = R:=⟨_,rfl⟩
 have HD : Hid (R = true ↔ ((∀ x ∈ t.ins,x.sc.length ≤ 300)∧(∀ x ∈ t.outs,x.sc.length ≤ 300)∧t.ins.length ≤ 20∧t.outs.length ≤ 20)):=Lib.hid (by rw [← hR];unfold fewT;rw [decide_eq_true_eq])
 rw [hR]
 obtain ⟨ver,iA,ins,ic,oA,outs,oc,lock⟩:=t
 simp only at *
 clear h hR
 obtain ⟨n,hn⟩ : ∃ n,ins.length = n:=⟨_,rfl⟩
 obtain ⟨m,hm⟩ : ∃ m,outs.length = m:=⟨_,rfl⟩
 rw [hn] at HI hi9 HD ⊢
 rw [hm] at HO ho9 HD ⊢
 have HNN:=Lib.hid hn;have HMM:=Lib.hid hm
 clear hn hm
 have bad : Hid (∀ P : Prop,¬ P → (R = true → P) → R = false):=Lib.hid fun P h1 h2 => by
  cases R with
  | false => rfl
  | true => exact absurd (h2 rfl) h1
 go_enter Try.func19,Try.ntmps19
 go_upto_region 1 with fail
 obtain ⟨w1,hw1⟩ : ∃ w1,w1 = w.alloc (.cells #[u32v ver,.slice iA n ic,.slice oA m oc,u32v lock] 37):=⟨_,rfl⟩
 have HT1 : Hid (Blk w1 w.heap.size 37 [u32v ver,.slice iA n ic,.slice oA m oc,u32v lock]):=by rw [hw1];exact Lib.hid (Blk.new w 37 [u32v ver,.slice iA n ic,.slice oA m oc,u32v lock])
 have HK1 : Hid (Keep w w1):=by rw [hw1];exact Lib.hid (keep_new _ _)
 rw [← hw1]
 clear hw1
 have t1:=HT1.out.cell 1;have t2:=HT1.out.cell 2
 simp only [List.getElem?_cons_succ,List.getElem?_cons_zero] at t1 t2
 generalize w.heap.size = gt at *
 have HI1 : Hid (∀ k (h : k < n),∃ (b off : Nat) (x : InR),iA = some ⟨b,off,none⟩∧w1.cell? ⟨b,off + k * 35 + 33,none⟩ = some (.slice x.A x.sc.length x.cap)∧ins[k]? = some x):=Lib.hid fun k h => by
  obtain ⟨b,off,x,h1,h2,h3⟩:=HI.out k h
  exact ⟨b,off,x,h1,keep_cell HK1.out h2,h3⟩
 have HO1 : Hid (∀ k (h : k < m),∃ (b off : Nat) (x : OutR),oA = some ⟨b,off,none⟩∧w1.cell? ⟨b,off + k * 2 + 1,none⟩ = some (.slice x.A x.sc.length x.cap)∧outs[k]? = some x):=Lib.hid fun k h => by
  obtain ⟨b,off,x,h1,h2,h3⟩:=HO.out k h
  exact ⟨b,off,x,h1,keep_cell HK1.out h2,h3⟩
 clear HI HO HT1
 go_wp2_with fail
 go_loopw [3] (fun x wr => ∃ k : Nat,k ≤ n∧x = .int .i64 k∧Hid (∀ y ∈ ins.take k,y.sc.length ≤ 300)∧Hid (Keep w wr)∧wr.cell? ⟨gt,1,none⟩ = some (.slice iA n ic)∧wr.cell? ⟨gt,2,none⟩ = some (.slice oA m oc)∧Hid (∀ k (h : k < n),∃ (b off : Nat) (x : InR),iA = some ⟨b,off,none⟩∧wr.cell? ⟨b,off + k * 35 + 33,none⟩ = some (.slice x.A x.sc.length x.cap)∧ins[k]? = some x)∧Hid (∀ k (h : k < m),∃ (b off : Nat) (x : OutR),oA = some ⟨b,off,none⟩∧wr.cell? ⟨b,off + k * 2 + 1,none⟩ = some (.slice x.A x.sc.length x.cap)∧outs[k]? = some x)) (fun x _ => n - (intOf x).toNat)
 case atStart => exact ⟨0,Nat.zero_le _,rfl,Lib.hid (by simp),HK1,t1,t2,HI1,HO1⟩
 case round =>
  clear t1 t2 HI1 HO1 HK1
  obtain ⟨k,hk,rfl,HS,HK1,t1,t2,HI1,HO1⟩:=hrel
  by_cases hlt : k < n
  ·obtain ⟨b,off,x,rfl,c33,hget⟩:=HI1.out k hlt
   have d4 : (k : Int) < n:=by omega
   have HGE:=Lib.hid hget
   clear hget
   by_cases hs : 300 < x.sc.length
   ·have hv:=bad.out (∀ y ∈ ins,y.sc.length ≤ 300) (fun q => by have:=q x (List.mem_of_getElem? HGE.out);omega) fun q => (HD.out.1 q).1
    subst hv
    have d5 : (300 : Int) < x.sc.length:=by omega
    clear HD bad
    go_wp2
    exact bodyPost_ret (v:=.bool false) (by simp [results,Try.results19]) rfl ⟨rfl,HK1.out⟩
   ·have d5 : ¬ (300 : Int) < x.sc.length:=by omega
    have HS2 : Hid (∀ y ∈ ins.take (k + 1),y.sc.length ≤ 300):=Lib.hid fun y hy => by
     rw [List.take_add_one,HGE.out] at hy
     rcases List.mem_append.1 hy with q | q
     ·exact HS.out y q
     ·simp at q;subst q;omega
    clear HS bad
    go_wp2
    go_roundw
    case rel => exact ⟨k + 1,by omega,by go_num,HS2,HK1,t1,t2,HI1,HO1⟩
    case measure => simp [intOf];omega
  ·obtain rfl : k = n:=by omega
   have d4 : ¬ (k : Int) < k:=by omega
   have HSA : Hid (∀ y ∈ ins,y.sc.length ≤ 300):=Lib.hid (by have:=HS.out;rwa [List.take_of_length_le (by rw [HNN.out];omega)] at this)
   clear HS HI1
   go_wp2_with fail
   clear d4
   go_loopw [4] (fun x wr => ∃ j : Nat,j ≤ m∧x = .int .i64 j∧Hid (∀ y ∈ outs.take j,y.sc.length ≤ 300)∧Hid (Keep w wr)∧wr.cell? ⟨gt,1,none⟩ = some (.slice iA k ic)∧wr.cell? ⟨gt,2,none⟩ = some (.slice oA m oc) ∧Hid (∀ k (h : k < m),∃ (b off : Nat) (x : OutR),oA = some ⟨b,off,none⟩∧wr.cell? ⟨b,off + k * 2 + 1,none⟩ = some (.slice x.A x.sc.length x.cap)∧outs[k]? = some x)) (fun x _ => m - (intOf x).toNat)
   case atStart => exact ⟨0,Nat.zero_le _,rfl,Lib.hid (by simp),HK1,t1,t2,HO1⟩
   case round =>
    clear t1 t2
    obtain ⟨j,hj,rfl,HS,HKr,t1,t2,HO2⟩:=hrel
    clear HO1
    by_cases hlt2 : j < m
    ·obtain ⟨b,off,x,rfl,c1,hget⟩:=HO2.out j hlt2
     have d4 : (j : Int) < m:=by omega
     have HGE:=Lib.hid hget
     clear hget
     by_cases hs : 300 < x.sc.length
     ·have hv:=bad.out (∀ y ∈ outs,y.sc.length ≤ 300) (fun q => by have:=q x (List.mem_of_getElem? HGE.out);omega) fun q => (HD.out.1 q).2.1
      subst hv
      have d5 : (300 : Int) < x.sc.length:=by omega
      clear HD bad
      go_wp2
      exact bodyPost_ret (v:=.bool false) (by simp [results,Try.results19]) rfl ⟨rfl,HKr.out⟩
     ·have d5 : ¬ (300 : Int) < x.sc.length:=by omega
      have HS2 : Hid (∀ y ∈ outs.take (j + 1),y.sc.length ≤ 300):=Lib.hid fun y hy => by
       rw [List.take_add_one,HGE.out] at hy
       rcases List.mem_append.1 hy with q | q
       ·exact HS.out y q
       ·simp at q;subst q;omega
      clear HS bad
      go_wp2
      go_roundw
      case rel => exact ⟨j + 1,by omega,by go_num,HS2,HKr,t1,t2,HO2⟩
      case measure => simp [intOf];omega
    ·obtain rfl : j = m:=by omega
     have d4 : ¬ (j : Int) < j:=by omega
     have HSB : Hid (∀ y ∈ outs,y.sc.length ≤ 300):=Lib.hid (by have:=HS.out;rwa [List.take_of_length_le (by rw [HMM.out];omega)] at this)
     clear HS HO2
     by_cases hn : k ≤ 20
     ·have e1 : (k : Int) ≤ 20:=by omega
      by_cases hm : j ≤ 20
      ·have e2 : (j : Int) ≤ 20:=by omega
       have hv : R = true:=HD.out.2 ⟨HSA.out,HSB.out,hn,hm⟩
       subst hv
       clear HD bad hn hm
       go_wp2
       exact bodyPost_ret (v:=.bool true) (by simp [results,Try.results19]) rfl ⟨rfl,HKr.out⟩
      ·have e2 : ¬ (j : Int) ≤ 20:=by omega
       have hv:=bad.out (j ≤ 20) hm fun q => (HD.out.1 q).2.2.2
       subst hv
       clear HD bad hn hm
       go_wp2
       exact bodyPost_ret (v:=.bool false) (by simp [results,Try.results19]) rfl ⟨rfl,HKr.out⟩
     ·have e1 : ¬ (k : Int) ≤ 20:=by omega
      have hv:=bad.out (k ≤ 20) hn fun q => (HD.out.1 q).2.2.1
      subst hv
      clear HD bad hn
      go_wp2
      exact bodyPost_ret (v:=.bool false) (by simp [results,Try.results19]) rfl ⟨rfl,HKr.out⟩
set_option maxRecDepth 100000 in
set_option maxHeartbeats 4000000 in
theorem few09_any (m : MsgR) (cs : Array Value) (hA : MsB m cs) (w : World) (h : m.at_ w) :
  Calls Try.prog 5 #[.agg cs] w fun e w' => e = .returned (.bool (fewM m))∧Keep w w':=by
 have hcn:=hA.n;have hcz:=hA.z;have hci:=hA.i
 have HA:=Lib.hid hA;have HO:=Lib.hid h.o
 have FT : Hid (∀ y,Keep w y → Calls Try.prog 19 #[.agg #[u32v m.t.ver,.slice m.t.iA m.t.ins.length m.t.ic,.slice m.t.oA m.t.outs.length m.t.oc,u32v m.t.lock]] y fun e w' => e = .returned (.bool (fewT m.t))∧Keep y w'):=Lib.hid fun y hy => few08_any m.t y (h.t.keep hy)
 have HD : Hid (fewM m = (decide (m.hs.length ≤ 40∧m.ls.length ≤ 150∧m.is.length ≤ 100∧m.shs.length ≤ 100∧m.fs.length ≤ 1100) && fewT m.t)):=Lib.hid rfl
 clear hA h
 generalize fewM m = R at *
 generalize fewT m.t = B at *
 go_enter Try.func5,Try.ntmps5
 go_upto_region 1 with fail
 obtain ⟨w1,hw1⟩ : ∃ w1,w1 = w.alloc (.cells cs 39):=⟨_,rfl⟩
 have HB1 : Hid (Blk w1 w.heap.size 39 m.cells):=by rw [hw1,← HA.out.l];exact Lib.hid (Blk.new w _ cs.toList)
 have HK1 : Hid (Keep w w1):=by rw [hw1];exact Lib.hid (keep_new _ _)
 rw [← hw1]
 clear hw1
 have c4 : w1.cell? ⟨w.heap.size,4,none⟩ = some (.slice m.hA m.hs.length m.hc):=(HB1.out.cell 4).trans rfl
 have c5 : w1.cell? ⟨w.heap.size,5,none⟩ = some (.slice m.lA m.ls.length m.lc):=(HB1.out.cell 5).trans rfl
 have c38 : w1.cell? ⟨w.heap.size,38,none⟩ = some (.slice m.iA m.is.length m.ic):=(HB1.out.cell 38).trans ((MsgR.tail_get HO.out 0).trans rfl)
 have r108 : w1.cell? ⟨w.heap.size,108,none⟩ = some (.slice m.sA m.shs.length m.sc):=(HB1.out.cell 108).trans ((MsgR.blk_tail HO.out 1 (by omega)).trans rfl)
 have r109 : w1.cell? ⟨w.heap.size,109,none⟩ = some (.slice m.fA m.fs.length m.fc):=(HB1.out.cell 109).trans ((MsgR.blk_tail HO.out 2 (by omega)).trans rfl)
 have t0 : w1.cell? ⟨w.heap.size,110,none⟩ = some (u32v m.t.ver):=(HB1.out.cell 110).trans ((MsgR.tx_get HO.out 0).trans rfl)
 have t1 : w1.cell? ⟨w.heap.size,111,none⟩ = some (.slice m.t.iA m.t.ins.length m.t.ic):=(HB1.out.cell 111).trans ((MsgR.tx_get HO.out 1).trans rfl)
 have t2 : w1.cell? ⟨w.heap.size,112,none⟩ = some (.slice m.t.oA m.t.outs.length m.t.oc):=(HB1.out.cell 112).trans ((MsgR.tx_get HO.out 2).trans rfl)
 have t3 : w1.cell? ⟨w.heap.size,113,none⟩ = some (u32v m.t.lock):=(HB1.out.cell 113).trans ((MsgR.tx_get HO.out 3).trans rfl)
 have bad : Hid (¬ (m.hs.length ≤ 40∧m.ls.length ≤ 150∧m.is.length ≤ 100∧m.shs.length ≤ 100∧m.fs.length ≤ 1100) → R = false):=Lib.hid fun h => by rw [HD.out,decide_eq_false h];rfl
 by_cases gh : m.hs.length ≤ 40
 case neg =>
  have hv:=bad.out (by omega)
  subst hv
  have eh : ¬ ((m.hs.length : Nat) : Int) ≤ 40:=by omega
  clear HD bad gh
  try simp only [List.append_eq,List.cons_append,List.nil_append]
  go_wp2
  exact bodyPost_ret (v:=.bool false) (by simp [results,Try.results5]) rfl ⟨rfl,HK1.out⟩
 have eh : ((m.hs.length : Nat) : Int) ≤ 40:=by omega
 by_cases gl : m.ls.length ≤ 150
 case neg =>
  have hv:=bad.out (by omega)
  subst hv
  have el : ¬ ((m.ls.length : Nat) : Int) ≤ 150:=by omega
  clear HD bad gl
  try simp only [List.append_eq,List.cons_append,List.nil_append]
  go_wp2
  exact bodyPost_ret (v:=.bool false) (by simp [results,Try.results5]) rfl ⟨rfl,HK1.out⟩
 have el : ((m.ls.length : Nat) : Int) ≤ 150:=by omega
 by_cases gi : m.is.length ≤ 100
 case neg =>
  have hv:=bad.out (by omega)
  subst hv
  have ei : ¬ ((m.is.length : Nat) : Int) ≤ 100:=by omega
  clear HD bad gi
  try simp only [List.append_eq,List.cons_append,List.nil_append]
  go_wp2
  exact bodyPost_ret (v:=.bool false) (by simp [results,Try.results5]) rfl ⟨rfl,HK1.out⟩
 have ei : ((m.is.length : Nat) : Int) ≤ 100:=by omega
 by_cases gs : m.shs.length ≤ 100
 case neg =>
  have hv:=bad.out (by omega)
  subst hv
  have es : ¬ ((m.shs.length : Nat) : Int) ≤ 100:=by omega
  clear HD bad gs
  try simp only [List.append_eq,List.cons_append,List.nil_append]
  go_wp2
  exact bodyPost_ret (v:=.bool false) (by simp [results,Try.results5]) rfl ⟨rfl,HK1.out⟩
 have es : ((m.shs.length : Nat) : Int) ≤ 100:=by omega
 by_cases gf : m.fs.length ≤ 1100
 case neg =>
  have hv:=bad.out (by omega)
  subst hv
  have ef : ¬ ((m.fs.length : Nat) : Int) ≤ 1100:=by omega
  clear HD bad gf
  try simp only [List.append_eq,List.cons_append,List.nil_append]
  go_wp2
  exact bodyPost_ret (v:=.bool false) (by simp [results,Try.results5]) rfl ⟨rfl,HK1.out⟩
 have ef : ((m.fs.length : Nat) : Int) ≤ 1100:=by omega
 have hv : R = B:=by rw [HD.out,decide_eq_true ⟨gh,gl,gi,gs,gf⟩];rfl
 subst hv
 clear HD bad gh gl gi gs gf
 try simp only [List.append_eq,List.cons_append,List.nil_append]
 go_wp2_with (go_at_call 19;refine (FT.out _ HK1.out).mono ?_;rintro e w2 ⟨rfl,k2⟩;have HK2:=Lib.hid (keep_trans HK1.out k2);clear k2)
 exact bodyPost_ret (v:=.bool R) (by simp [results,Try.results5]) rfl ⟨rfl,HK2.out⟩
end Go.Proofs.Ytbgpgdhndanigaa
/- Same: of what is the same. (printed by gen_pg.py) -/
set_option linter.unusedSimpArgs false
set_option linter.unusedVariables false
namespace Go.Proofs.Ytbgpgdhndanigaa
open Go.RowKit
attribute [local go_sem ↓] Go.wp_at_zero Go.wp_at_succ
theorem hash_neqS {l : List UInt8} {cs ds : Array Value} (h : HashA l cs) (g : HashA l ds) (hl : l.length = 32) (w : World) :
  (Go.binOp .neq 27 (.agg cs) (.agg ds)).run Try.prog w = .ok (.bool false) w:=by
 rw [run_neq_struct,show (10000 : Nat) = 9998 + 2 from rfl,hash_eqIn 9998 h g hl hl,beq_self_eq_true]
 rfl
theorem hash_inS {l : List UInt8} {cs ds : Array Value} (h : HashA l cs) (g : HashA l ds) (hl : l.length = 32) (w : World) :
  (Op.equalIn 10000 27 (.agg cs) (.agg ds)).run Try.prog w = .ok true w:=by
 rw [show (10000 : Nat) = 9998 + 2 from rfl,hash_eqIn 9998 h g hl hl,beq_self_eq_true]
theorem hdEq_self (x : Hd) : hdEq x x = true:=(hdEq_iff x x).2 rfl
theorem hd_neqS {x : Hd} {cs ds : Array Value} (h : HdA x cs) (g : HdA x ds) (hl : x.ok) (w : World) :
  (Go.binOp .neq 30 (.agg cs) (.agg ds)).run Try.prog w = .ok (.bool false) w:=by
 rw [hd_neq h g hl hl,hdEq_self];rfl
theorem hd_inS {x : Hd} {cs ds : Array Value} (h : HdA x cs) (g : HdA x ds) (hl : x.ok) (w : World) :
  (Op.equalIn 10000 30 (.agg cs) (.agg ds)).run Try.prog w = .ok true w:=by
 rw [show (10000 : Nat) = 9997 + 3 from rfl,hd_eqIn 9997 h g hl hl,hdEq_self]
theorem hd_eqlS {x : Hd} {cs ds : Array Value} (h : HdA x cs) (g : HdA x ds) (hl : x.ok) (w : World) :
  (Go.binOp .eql 30 (.agg cs) (.agg ds)).run Try.prog w = .ok (.bool true) w:=by
 rw [hd_eql h g hl hl,hdEq_self]
theorem ritem_fields : ((Try.prog.fieldsOf 69).toList.map fun f => (f.name != "_", f.type, f.offset)) = [(true, 22, 0), (true, 27, 1)] := by kernel_rfl
theorem ritem_struct : Try.prog.underlying 69 = some (.struct (Try.prog.fieldsOf 69)):=by kernel_rfl
theorem ritem_stood : Try.prog.stoodInHeld 69 = false:=by kernel_rfl
theorem ritem_guard : Try.prog.eqGuardType Try.prog.depth 69 = false:=by kernel_rfl
theorem ritem_info : (Try.prog.info? 69).map (·.size) = some 33:=by kernel_rfl
structure ItB (x : Itm) (cs : Array Value) : Prop where
 l : cs.toList = x.cells
 z : cs.size = 33
 i : (Try.prog.info? 69).map (·.size) = some cs.size
 n : ¬ cs = #[]
 o : ∀ v ∈ cs.toList,v.oneCell' = true
theorem ItB.of {x : Itm} (h : x.ok) : ItB x x.cells.toArray:=by
 have hz : x.cells.toArray.size = 33:=by simpa using Itm.len h
 exact ⟨rfl,hz,by rw [hz];exact ritem_info,fun e => by rw [e] at hz;simp at hz,by simpa using x.one⟩
theorem ritem_inS {x : Itm} {cs ds : Array Value} (hc : ItB x cs) (hd : ItB x ds) (hk : x.ok) (w : World) :
  (Op.equalIn 10000 69 (.agg cs) (.agg ds)).run Try.prog w = .ok true w:=by
 have gc : ∀ k,cs[k]? = x.cells[k]?:=fun k => by rw [← hc.l,Array.getElem?_toList]
 have gd : ∀ k,ds[k]? = x.cells[k]?:=fun k => by rw [← hd.l,Array.getElem?_toList]
 have p1 : HashA x.h (cs.extract 1 33):=part_of hc.l 1 hk (by unfold Itm.cells;rw [List.drop_succ_cons,List.drop_zero,List.take_of_length_le (by rw [List.length_map];rw [show x.h.length = 32 from hk];omega)])
 have p2 : HashA x.h (ds.extract 1 33):=part_of hd.l 1 hk (by unfold Itm.cells;rw [List.drop_succ_cons,List.drop_zero,List.take_of_length_le (by rw [List.length_map];rw [show x.h.length = 32 from hk];omega)])
 rw [show (10000 : Nat) = 9999 + 1 from rfl,run_equalIn_agg w 9999 _ _ _ ritem_struct ritem_stood,eqF_of Try.prog,ritem_fields]
 have q:=eqF_step (P:=Try.prog) (d:=9999) (fs:=[(true,27,1)]) (part_u32 ((gc 0).trans rfl) w) (part_u32 ((gd 0).trans rfl) w) (eq_u32 9998 x.ty x.ty w) (eqF_step (fs:=[]) (s:=true) (part_hash _ _ w) (part_hash _ _ w) (hash_eqIn 9997 p1 p2 hk hk w) rfl)
 rw [beq_self_eq_true,beq_self_eq_true] at q
 exact q
theorem ritem_neqS {x : Itm} {cs ds : Array Value} (hc : ItB x cs) (hd : ItB x ds) (hk : x.ok) (w : World) :
  (Go.binOp .neq 69 (.agg cs) (.agg ds)).run Try.prog w = .ok (.bool false) w:=by
 rw [run_neq_struct,ritem_inS hc hd hk]
 rfl
set_option maxRecDepth 100000 in
set_option maxHeartbeats 2000000 in
theorem same03 (A : Option Addr) (l : List (List UInt8)) (c : Nat) (B : Option Addr) (d : Nat) (w : World) (ha : Rd w A (hsL l)) (hb : Rd w B (hsL l)) (ho : ∀ x ∈ l,x.length = 32) (hl : l.length ≤ 1000000) :
  Calls Try.prog 39 #[.slice A l.length c,.slice B l.length d] w fun e w' => e = .returned (.bool true)∧Keep w w':=by
 have hn1 : ((l.length : Int) != (l.length : Int)) = false:=by simp
 go_enter Try.func39,Try.ntmps39
 go_wp2_with fail
 go_loopw [5] (fun i wr => ∃ k : Nat,k ≤ l.length∧i = .int .i64 k∧Keep w wr) (fun i _ => l.length - (intOf i).toNat)
 case atStart => exact ⟨0,Nat.zero_le _,rfl,Below.refl _ _⟩
 case round =>
  obtain ⟨k,hk,rfl,hkr⟩:=hrel
  by_cases hlt : k < l.length
  ·obtain ⟨b,off,rfl,hbb,G1⟩:=hash_at ha ho hlt
   obtain ⟨b',off',rfl,hbb',G2⟩:=hash_at hb ho hlt
   have hx:=ho _ (List.getElem_mem hlt)
   generalize l[k] = x at G1 G2 hx
   obtain ⟨xv,hxv⟩ : ∃ xv,HashA x xv:=⟨_,HashA.of hx⟩
   have xz:=hxv.z;have xn:=hxv.n;have xi:=hxv.i
   have Hx0 : Hid (wr.rangeAt b (off + k * 32) xv.toList):=by rw [hxv.l];exact Lib.hid fun j v hv => keep_cell hkr (G1 j v hv)
   have Hy0 : Hid (wr.rangeAt b' (off' + k * 32) xv.toList):=by rw [hxv.l];exact Lib.hid fun j v hv => keep_cell hkr (G2 j v hv)
   have he : ∀ w,(Go.binOp .neq 27 (.agg xv) (.agg xv)).run Try.prog w = .ok (.bool false) w:=fun w => hash_neqS hxv hxv hx w
   have hi : ∀ w,(Op.equalIn 10000 27 (.agg xv) (.agg xv)).run Try.prog w = .ok true w:=fun w => hash_inS hxv hxv hx w
   have hgd:=hash_guard
   clear G1 G2 hxv hx
   go_upto_region 6 with fail
   refine wp_region_tree (.take [0,1,2,3,4,5,6,7,8] .done) [] (by kernel_rfl) (by kernel_rfl) (fun w3 k3 => ?_)
   have HK3:=Lib.hid (keep_trans hkr k3)
   have Hx : Hid (w3.rangeAt b (off + k * 32) xv.toList):=Lib.hid fun j v hv => keep_cell k3 (Hx0.out j v hv)
   have Hy : Hid (w3.rangeAt b' (off' + k * 32) xv.toList):=Lib.hid fun j v hv => keep_cell k3 (Hy0.out j v hv)
   clear k3 Hx0 Hy0 hkr
   refine mt_take w3 (Below.refl _ _) ?_
   simp only [pick_cons,pick_nil,nth_zero,nth_succ]
   repeat (first
    | ((with_reducible refine wpQuiet_load_partg b (off + k * 32) xv (Eq.trans ?_ rfl) Hx.out _ hash_under rfl xi (Eq.trans ?_ rfl) ?_);rfl;rfl;simp only [Act.put,Array.set!_eq_setIfInBounds,List.setIfInBounds_toArray,List.set_cons_succ,List.set_cons_zero])
    | ((with_reducible refine wpQuiet_load_partg b' (off' + k * 32) xv (Eq.trans ?_ rfl) Hy.out _ hash_under rfl xi (Eq.trans ?_ rfl) ?_);rfl;rfl;simp only [Act.put,Array.set!_eq_setIfInBounds,List.setIfInBounds_toArray,List.set_cons_succ,List.set_cons_zero])
    | go_big_quiet_step (fail))
   refine wpQuiet_nil (mt_end ?_)
   clear he hi
   go_wp2
   go_roundw
   case rel => exact ⟨k + 1,by omega,by go_num,HK3.out⟩
   case measure => simp [intOf];omega
  ·obtain rfl : k = l.length:=by omega
   have d4 : ¬ (l.length : Int) < l.length:=by omega
   go_wp2
   exact bodyPost_ret (v:=.bool true) (by simp [results,Try.results39]) rfl ⟨rfl,hkr⟩
set_option maxRecDepth 100000 in
set_option maxHeartbeats 2000000 in
theorem same07 (A : Option Addr) (l : List (Hd)) (c : Nat) (B : Option Addr) (d : Nat) (w : World) (ha : Rd w A (l.flatMap Hd.cells)) (hb : Rd w B (l.flatMap Hd.cells)) (ho : ∀ x ∈ l,x.ok) (hl : l.length ≤ 1000000) :
  Calls Try.prog 38 #[.slice A l.length c,.slice B l.length d] w fun e w' => e = .returned (.bool true)∧Keep w w':=by
 have hn1 : ((l.length : Int) != (l.length : Int)) = false:=by simp
 go_enter Try.func38,Try.ntmps38
 go_wp2_with fail
 go_loopw [5] (fun i wr => ∃ k : Nat,k ≤ l.length∧i = .int .i64 k∧Keep w wr) (fun i _ => l.length - (intOf i).toNat)
 case atStart => exact ⟨0,Nat.zero_le _,rfl,Below.refl _ _⟩
 case round =>
  obtain ⟨k,hk,rfl,hkr⟩:=hrel
  by_cases hlt : k < l.length
  ·obtain ⟨b,off,rfl,hbb,G1⟩:=heads_at ha ho hlt
   obtain ⟨b',off',rfl,hbb',G2⟩:=heads_at hb ho hlt
   have hx:=ho _ (List.getElem_mem hlt)
   generalize l[k] = x at G1 G2 hx
   obtain ⟨xv,hxv⟩ : ∃ xv,HdA x xv:=⟨_,HdA.of hx⟩
   have xz:=hxv.z;have xn:=hxv.n;have xi:=hxv.i
   have Hx0 : Hid (wr.rangeAt b (off + k * 68) xv.toList):=by rw [hxv.l];exact Lib.hid fun j v hv => keep_cell hkr (G1 j v hv)
   have Hy0 : Hid (wr.rangeAt b' (off' + k * 68) xv.toList):=by rw [hxv.l];exact Lib.hid fun j v hv => keep_cell hkr (G2 j v hv)
   have he : ∀ w,(Go.binOp .neq 30 (.agg xv) (.agg xv)).run Try.prog w = .ok (.bool false) w:=fun w => hd_neqS hxv hxv hx w
   have hi : ∀ w,(Op.equalIn 10000 30 (.agg xv) (.agg xv)).run Try.prog w = .ok true w:=fun w => hd_inS hxv hxv hx w
   have hgd:=hd_guard
   clear G1 G2 hxv hx
   go_upto_region 6 with fail
   refine wp_region_tree (.take [0,1,2,3,4,5,6,7,8] .done) [] (by kernel_rfl) (by kernel_rfl) (fun w3 k3 => ?_)
   have HK3:=Lib.hid (keep_trans hkr k3)
   have Hx : Hid (w3.rangeAt b (off + k * 68) xv.toList):=Lib.hid fun j v hv => keep_cell k3 (Hx0.out j v hv)
   have Hy : Hid (w3.rangeAt b' (off' + k * 68) xv.toList):=Lib.hid fun j v hv => keep_cell k3 (Hy0.out j v hv)
   clear k3 Hx0 Hy0 hkr
   refine mt_take w3 (Below.refl _ _) ?_
   simp only [pick_cons,pick_nil,nth_zero,nth_succ]
   repeat (first
    | ((with_reducible refine wpQuiet_load_partg b (off + k * 68) xv (Eq.trans ?_ rfl) Hx.out _ Try.underlying30 rfl xi (Eq.trans ?_ rfl) ?_);rfl;rfl;simp only [Act.put,Array.set!_eq_setIfInBounds,List.setIfInBounds_toArray,List.set_cons_succ,List.set_cons_zero])
    | ((with_reducible refine wpQuiet_load_partg b' (off' + k * 68) xv (Eq.trans ?_ rfl) Hy.out _ Try.underlying30 rfl xi (Eq.trans ?_ rfl) ?_);rfl;rfl;simp only [Act.put,Array.set!_eq_setIfInBounds,List.setIfInBounds_toArray,List.set_cons_succ,List.set_cons_zero])
    | go_big_quiet_step (fail))
   refine wpQuiet_nil (mt_end ?_)
   clear he hi
   go_wp2
   go_roundw
   case rel => exact ⟨k + 1,by omega,by go_num,HK3.out⟩
   case measure => simp [intOf];omega
  ·obtain rfl : k = l.length:=by omega
   have d4 : ¬ (l.length : Int) < l.length:=by omega
   go_wp2
   exact bodyPost_ret (v:=.bool true) (by simp [results,Try.results38]) rfl ⟨rfl,hkr⟩
end Go.Proofs.Ytbgpgdhndanigaa
/- Same: of transactions and messages that are the same. (printed by gen_ph.py) -/
set_option linter.unusedSimpArgs false
set_option linter.unusedVariables false
namespace Go.Proofs.Ytbgpgdhndanigaa
open Go.RowKit
attribute [local go_sem ↓] Go.wp_at_zero Go.wp_at_succ
theorem map_get {α β : Type} {f : α → β} {l r : List α} (h : l.map f = r.map f) {k : Nat} {x y : α} (hx : l[k]? = some x) (hy : r[k]? = some y) : f x = f y:=by
 have q:=congrArg (fun z : List β => z[k]?) h
 simp only [List.getElem?_map,hx,hy,Option.map_some] at q
 exact Option.some.inj q
set_option maxRecDepth 100000 in
set_option maxHeartbeats 8000000 in
theorem same08 (t s : TxR) (w : World) (ht : t.at w) (hs : s.at w) (hp : t.pl = s.pl) (hi : t.ins.length ≤ 1000000) (ho : t.outs.length ≤ 1000000) :
  Calls Try.prog 40 #[.agg #[u32v t.ver,.slice t.iA t.ins.length t.ic,.slice t.oA t.outs.length t.oc,u32v t.lock],.agg #[u32v s.ver,.slice s.iA s.ins.length s.ic,.slice s.oA s.outs.length s.oc,u32v s.lock]] w fun e w' => e = .returned (.bool true)∧Keep w w':=by
 have e1 : t.ver = s.ver:=(congrArg TxR.ver hp : t.pl.ver = s.pl.ver)
 have e2 : t.lock = s.lock:=(congrArg TxR.lock hp : t.pl.lock = s.pl.lock)
 have e3 : t.ins.map InR.pl = s.ins.map InR.pl:=congrArg TxR.ins hp
 have e4 : t.outs.map OutR.pl = s.outs.map OutR.pl:=congrArg TxR.outs hp
 have l3 : s.ins.length = t.ins.length:=by have:=congrArg List.length e3;simpa using this.symm
 have l4 : s.outs.length = t.outs.length:=by have:=congrArg List.length e4;simpa using this.symm
 have HI : Hid (∀ k,k < t.ins.length → ∃ (b off b' off' : Nat) (x y : InR) (xs ys : Array Value),t.iA = some ⟨b,off,none⟩∧s.iA = some ⟨b',off',none⟩∧InB x xs∧InB y ys∧w.rangeAt b (off + k * 35) xs.toList∧w.rangeAt b' (off' + k * 35) ys.toList∧x.at w∧y.at w∧x.prev = y.prev∧x.ix = y.ix∧x.sc = y.sc∧x.seq = y.seq):=Lib.hid fun k hk => by
  have hk2 : k < s.ins.length:=by omega
  obtain ⟨b,off,h1,-,h2⟩:=in_at ht.i (fun x hx => (ht.is x hx).p) hk
  obtain ⟨b',off',h1',-,h2'⟩:=in_at hs.i (fun x hx => (hs.is x hx).p) hk2
  have a1:=ht.is _ (List.getElem_mem hk);have a2:=hs.is _ (List.getElem_mem hk2)
  have q:=map_get e3 (List.getElem?_eq_getElem hk) (List.getElem?_eq_getElem hk2)
  exact ⟨b,off,b',off',_,_,_,_,h1,h1',InB.of a1.p,InB.of a2.p,by rw [(InB.of a1.p).l];exact h2,by rw [(InB.of a2.p).l];exact h2',a1,a2,(congrArg InR.prev q : (t.ins[k]).pl.prev = (s.ins[k]).pl.prev),(congrArg InR.ix q : (t.ins[k]).pl.ix = (s.ins[k]).pl.ix),(congrArg InR.sc q : (t.ins[k]).pl.sc = (s.ins[k]).pl.sc),(congrArg InR.seq q : (t.ins[k]).pl.seq = (s.ins[k]).pl.seq)⟩
 have HO : Hid (∀ k,k < t.outs.length → ∃ (b off b' off' : Nat) (x y : OutR),t.oA = some ⟨b,off,none⟩∧s.oA = some ⟨b',off',none⟩∧w.cell? ⟨b,off + k * 2,none⟩ = some (u64v x.val)∧w.cell? ⟨b,off + k * 2 + 1,none⟩ = some (.slice x.A x.sc.length x.cap)∧w.cell? ⟨b',off' + k * 2,none⟩ = some (u64v x.val)∧w.cell? ⟨b',off' + k * 2 + 1,none⟩ = some (.slice y.A x.sc.length y.cap)∧Rd w x.A (x.sc.map u8v)∧Rd w y.A (x.sc.map u8v)):=Lib.hid fun k hk => by
  have hk2 : k < s.outs.length:=by omega
  obtain ⟨b,off,h1,-,h2,h3⟩:=out_at ht.o hk
  obtain ⟨b',off',h1',-,h2',h3'⟩:=out_at hs.o hk2
  have a1:=ht.os _ (List.getElem_mem hk);have a2:=hs.os _ (List.getElem_mem hk2)
  have q:=map_get e4 (List.getElem?_eq_getElem hk) (List.getElem?_eq_getElem hk2)
  have q1 : t.outs[k].val = s.outs[k].val:=(congrArg OutR.val q : (t.outs[k]).pl.val = (s.outs[k]).pl.val)
  have q2 : t.outs[k].sc = s.outs[k].sc:=(congrArg OutR.sc q : (t.outs[k]).pl.sc = (s.outs[k]).pl.sc)
  refine ⟨b,off,b',off',_,s.outs[k],h1,h1',h2,h3,by rw [q1];exact h2',by rw [q2];exact h3',a1.r,by rw [q2];exact a2.r⟩
 rw [l3,l4,← e1,← e2]
 clear e3 e4 e1 e2 l3 l4 hp ht hs
 obtain ⟨ver,iA,ins,ic,oA,outs,oc,lock⟩:=t
 obtain ⟨ver',jA,ins',jc,pA,outs',pc,lock'⟩:=s
 simp only at *
 obtain ⟨n,hn⟩ : ∃ n,ins.length = n:=⟨_,rfl⟩
 obtain ⟨m,hm⟩ : ∃ m,outs.length = m:=⟨_,rfl⟩
 rw [hn] at HI hi ⊢
 rw [hm] at HO ho ⊢
 clear hn hm
 obtain ⟨zs,hz1,hz2,hz3⟩:=zrin_letter
 go_enter Try.func40,Try.ntmps40
 go_upto_region 1 with fail
 obtain ⟨w1,hw1⟩ : ∃ w1,w1 = (w.alloc (.cells #[u32v ver,.slice iA n ic,.slice oA m oc,u32v lock] 37)).alloc (.cells #[u32v ver,.slice jA n jc,.slice pA m pc,u32v lock] 37):=⟨_,rfl⟩
 have HX1 : Hid (Blk w1 w.heap.size 37 [u32v ver,.slice iA n ic,.slice oA m oc,u32v lock]):=by rw [hw1];exact Lib.hid ((Blk.new w 37 [u32v ver,.slice iA n ic,.slice oA m oc,u32v lock]).alloc _)
 have HY1 : Hid (Blk w1 (w.heap.size + 1) 37 [u32v ver,.slice jA n jc,.slice pA m pc,u32v lock]):=by
  rw [hw1]
  have q:=Blk.new (w.alloc (.cells #[u32v ver,.slice iA n ic,.slice oA m oc,u32v lock] 37)) 37 [u32v ver,.slice jA n jc,.slice pA m pc,u32v lock]
  rw [World.size_alloc] at q
  exact Lib.hid q
 have HK1 : Hid (Keep w w1):=by rw [hw1];exact Lib.hid (keep_trans (keep_new _ _) (keep_new _ _))
 rw [← hw1]
 clear hw1
 have x0:=HX1.out.cell 0;have x1:=HX1.out.cell 1;have x2:=HX1.out.cell 2;have x3:=HX1.out.cell 3
 have y0:=HY1.out.cell 0;have y1:=HY1.out.cell 1;have y2:=HY1.out.cell 2;have y3:=HY1.out.cell 3
 simp only [List.getElem?_cons_succ,List.getElem?_cons_zero] at x0 x1 x2 x3 y0 y1 y2 y3
 have X1:=Lib.hid x1;have Y1:=Lib.hid y1;have X2:=Lib.hid x2;have Y2:=Lib.hid y2
 try simp only [List.append_eq,List.cons_append,List.nil_append]
 go_upto_region 3 with fail
 clear x0 x1 x2 x3 y0 y1 y2 y3 HX1 HY1
 go_upto_block 0 with fail
 go_cut [] (fun wx => Hid (Keep w1 wx))
 case first =>
  go_wp2_with fail
  go_loopw [5] (fun i wr => ∃ k : Nat,k ≤ n∧i = .int .i64 k∧Hid (Keep w1 wr)) (fun i _ => n - (intOf i).toNat)
  case atStart => exact ⟨0,Nat.zero_le _,rfl,Lib.hid (Below.refl _ _)⟩
  case round =>
   obtain ⟨k,hk,rfl,HKr⟩:=hrel
   have x1:=keep_cell HKr.out X1.out;have y1:=keep_cell HKr.out Y1.out
   by_cases hlt : k < n
   ·obtain ⟨b,off,b',off',x,y,xs,ys,rfl,rfl,hxs,hys,hr1,hr2,a1,a2,q1,q2,q3,q4⟩:=HI.out k hlt
    have hxz:=hxs.z;have hxn:=hxs.n;have hxi:=hxs.i
    have hyz:=hys.z;have hyn:=hys.n;have hyi:=hys.i
    have kw:=keep_trans HK1.out HKr.out
    have RX:=Lib.hid (range_keep kw hr1);have RY:=Lib.hid (range_keep kw hr2)
    have hst : ∀ yy : World,(storeCells ⟨yy.heap.size,0,none⟩ xs.toList 0).run Try.prog (yy.alloc (.cells zs 97)) = .ok () (yy.alloc (.cells xs 97)):=fun yy => run_storeCells_new (P:=Try.prog) yy 97 zs xs hxi (hz1.trans hxz.symm) (by have:=all_oneCell_toArray hxs.o;rwa [Array.toArray_toList] at this)
    have hst2 : ∀ yy : World,(storeCells ⟨yy.heap.size,0,none⟩ ys.toList 0).run Try.prog (yy.alloc (.cells zs 97)) = .ok () (yy.alloc (.cells ys 97)):=fun yy => run_storeCells_new (P:=Try.prog) yy 97 zs ys hyi (hz1.trans hyz.symm) (by have:=all_oneCell_toArray hys.o;rwa [Array.toArray_toList] at this)
    have d4 : (k : Int) < n:=by omega
    have HXS:=Lib.hid hxs;have HYS:=Lib.hid hys
    have A1:=Lib.hid (a1.keep kw);have A2:=Lib.hid (a2.keep kw)
    have Q1:=Lib.hid q1;have Q2:=Lib.hid q2;have Q3:=Lib.hid q3;have Q4:=Lib.hid q4
    clear hxs hys hr1 hr2 a1 a2 q1 q2 q3 q4 kw HI
    go_upto_region 7 with ((with_reducible refine load_partg b (off + k * 35) xs (Eq.trans ?_ rfl) RX.out _ Try.underlying97 rfl hxi rfl ?_);rfl)
    obtain ⟨w2,hw2⟩ : ∃ w2,w2 = wr.alloc (.cells xs 97):=⟨_,rfl⟩
    have k2 : Keep wr w2:=by rw [hw2];exact keep_new _ _
    have HG2 : Hid (Blk w2 wr.heap.size 97 xs.toList):=by rw [hw2];exact Lib.hid (Blk.new wr _ xs.toList)
    rw [← hw2]
    have x1:=keep_cell k2 x1;have y1:=keep_cell k2 y1
    have RY2:=Lib.hid (range_keep k2 RY.out)
    have K2:=Lib.hid k2
    clear hw2 hst k2 RX RY
    go_upto_region 8 with ((with_reducible refine load_partg b' (off' + k * 35) ys (Eq.trans ?_ rfl) RY2.out _ Try.underlying97 rfl hyi rfl ?_);rfl)
    obtain ⟨w3,hw3⟩ : ∃ w3,w3 = w2.alloc (.cells ys 97):=⟨_,rfl⟩
    have k3 : Keep w2 w3:=by rw [hw3];exact keep_new _ _
    have HG3 : Hid (Blk w3 w2.heap.size 97 ys.toList):=by rw [hw3];exact Lib.hid (Blk.new w2 _ ys.toList)
    have HF3:=Lib.hid (HG2.out.keep k3)
    have K3:=Lib.hid (keep_trans K2.out k3)
    rw [← hw3]
    clear hw3 hst2 RY2 HG2 K2 k3 x1 y1
    generalize wr.heap.size = gx at *
    generalize w2.heap.size = gy at *
    obtain ⟨ss,hss⟩ : ∃ ss,HashA x.prev ss:=⟨_,HashA.of A1.out.p⟩
    have hsn:=hss.n;have hsz:=hss.z;have hsi:=hss.i
    have ne1 : ∀ w,(Go.binOp .neq 27 (.agg ss) (.agg ss)).run Try.prog w = .ok (.bool false) w:=fun w => hash_neqS hss hss A1.out.p w
    have ne2 : ∀ w,(Op.equalIn 10000 27 (.agg ss) (.agg ss)).run Try.prog w = .ok true w:=fun w => hash_inS hss hss A1.out.p w
    have hgd:=hash_guard
    have hsl : xs.toList = ss.toList ++ [u32v x.ix,.slice x.A x.sc.length x.cap,u32v x.seq]:=by rw [HXS.out.l,hss.l];rfl
    have hsl2 : ys.toList = ss.toList ++ [u32v x.ix,.slice y.A x.sc.length y.cap,u32v x.seq]:=by rw [HYS.out.l,hss.l,Q1.out,Q2.out,Q3.out,Q4.out];rfl
    have hsll : ss.toList.length = 32:=by rw [Array.length_toList];exact hsz
    have RS1 : Hid (w3.rangeAt gx 0 ss.toList):=Lib.hid (range_of HF3.out 0 ss.toList (by rw [hsl,List.drop_zero,List.take_left' rfl]))
    have RS2 : Hid (w3.rangeAt gy 0 ss.toList):=Lib.hid (range_of HG3.out 0 ss.toList (by rw [hsl2,List.drop_zero,List.take_left' rfl]))
    have x32 : w3.cell? ⟨gx,32,none⟩ = some (u32v x.ix):=by rw [HF3.out.cell,hsl,List.getElem?_append_right (by omega),hsll];rfl
    have x33 : w3.cell? ⟨gx,33,none⟩ = some (.slice x.A x.sc.length x.cap):=by rw [HF3.out.cell,hsl,List.getElem?_append_right (by omega),hsll];rfl
    have x34 : w3.cell? ⟨gx,34,none⟩ = some (u32v x.seq):=by rw [HF3.out.cell,hsl,List.getElem?_append_right (by omega),hsll];rfl
    have y32 : w3.cell? ⟨gy,32,none⟩ = some (u32v x.ix):=by rw [HG3.out.cell,hsl2,List.getElem?_append_right (by omega),hsll];rfl
    have y33 : w3.cell? ⟨gy,33,none⟩ = some (.slice y.A x.sc.length y.cap):=by rw [HG3.out.cell,hsl2,List.getElem?_append_right (by omega),hsll];rfl
    have y34 : w3.cell? ⟨gy,34,none⟩ = some (u32v x.seq):=by rw [HG3.out.cell,hsl2,List.getElem?_append_right (by omega),hsll];rfl
    have cv1 : (convert 31 9 (.slice x.A x.sc.length x.cap)).run Try.prog w3 = .ok (.string (str x.sc)) w3:=run_bytes_str Try.underlying31 Try.underlying5 Try.underlying9 x.cap (A1.out.r.keep K3.out)
    have cv2 : (convert 31 9 (.slice y.A x.sc.length y.cap)).run Try.prog w3 = .ok (.string (str x.sc)) w3:=run_bytes_str Try.underlying31 Try.underlying5 Try.underlying9 y.cap (by have q:=A2.out.r.keep K3.out;rwa [← Q3.out] at q)
    have s1 : (str x.sc == str x.sc) = true:=by rw [str_beq];exact decide_eq_true rfl
    have s2 : (x.sc == x.sc) = true:=beq_self_eq_true _
    have s3 : (str x.sc != str x.sc) = false:=by rw [str_bne,decide_eq_true rfl];rfl
    have s4 : (x.sc != x.sc) = false:=by rw [bne,s2];rfl
    have HKn:=Lib.hid (keep_trans HKr.out K3.out)
    clear hss hsl hsl2 hsll HXS HYS HG3 HF3 A1 A2 Q1 Q2 Q3 Q4 K3 HKr
    try simp only [List.append_eq,List.cons_append,List.nil_append]
    go_wp2_with (first | ((with_reducible refine load_partg gx 0 ss (Eq.trans ?_ rfl) RS1.out _ hash_under rfl hsi rfl ?_);rfl) | ((with_reducible refine load_partg gy 0 ss (Eq.trans ?_ rfl) RS2.out _ hash_under rfl hsi rfl ?_);rfl))
    clear cv1 cv2 x32 x33 x34 y32 y33 y34 ne1 ne2 s1 s2 s3 s4 RS1 RS2
    go_roundw
    case rel => exact ⟨k + 1,by omega,by go_num,HKn⟩
    case measure => simp [intOf];omega
   ·obtain rfl : k = n:=by omega
    have d4 : ¬ (k : Int) < k:=by omega
    clear HI
    go_wp2
    go_meet
    exact HKr
 case rest =>
  have HKC:=Lib.hid hcut.out
  clear hcut HI X1 Y1
  go_wp2_with fail
  go_loopw [8] (fun i wr => ∃ k : Nat,k ≤ m∧i = .int .i64 k∧Hid (Keep w1 wr)) (fun i _ => m - (intOf i).toNat)
  case atStart => exact ⟨0,Nat.zero_le _,rfl,HKC⟩
  case round =>
   obtain ⟨k,hk,rfl,HKr⟩:=hrel
   have x2:=keep_cell HKr.out X2.out;have y2:=keep_cell HKr.out Y2.out
   by_cases hlt : k < m
   ·obtain ⟨b,off,b',off',x,y,rfl,rfl,c0,c1,e0,e1,r1,r2⟩:=HO.out k hlt
    have d4 : (k : Int) < m:=by omega
    have kw:=keep_trans HK1.out HKr.out
    have c0:=keep_cell kw c0;have c1:=keep_cell kw c1;have e0:=keep_cell kw e0;have e1:=keep_cell kw e1
    have R1:=Lib.hid (r1.keep kw);have R2:=Lib.hid (r2.keep kw)
    clear r1 r2 kw HO
    go_upto_region 13 with fail
    refine wp_region_tree (.take [0,1,2,3,4,5,6,7,8,9,10,11,12,13,14,15,16,17,18,19,20,21,22,23,24,25,26,27,28,29] .done) [] (by kernel_rfl) (by kernel_rfl) (fun w3 k3 => ?_)
    have HK3:=Lib.hid (keep_trans HKr.out k3)
    have b0:=aft_cell (keep_cell k3 c0);have b1:=aft_cell (keep_cell k3 c1);have b2:=aft_cell (keep_cell k3 e0);have b3:=aft_cell (keep_cell k3 e1)
    have b4:=aft_cell (keep_cell k3 x2);have b5:=aft_cell (keep_cell k3 y2)
    have cv1 : ∀ z,(convert 31 9 (.slice x.A x.sc.length x.cap)).run Try.prog (aft w3 z) = .ok (.string (str x.sc)) (aft w3 z):=fun z => run_bytes_str Try.underlying31 Try.underlying5 Try.underlying9 x.cap ((R1.out.keep k3).keep (aft_keep w3 z))
    have cv2 : ∀ z,(convert 31 9 (.slice y.A x.sc.length y.cap)).run Try.prog (aft w3 z) = .ok (.string (str x.sc)) (aft w3 z):=fun z => run_bytes_str Try.underlying31 Try.underlying5 Try.underlying9 y.cap ((R2.out.keep k3).keep (aft_keep w3 z))
    have s1 : (str x.sc == str x.sc) = true:=by rw [str_beq];exact decide_eq_true rfl
    have s2 : (x.sc == x.sc) = true:=beq_self_eq_true _
    have s3 : (str x.sc != str x.sc) = false:=by rw [str_bne,decide_eq_true rfl];rfl
    have s4 : (x.sc != x.sc) = false:=by rw [bne,s2];rfl
    clear k3 c0 c1 e0 e1 x2 y2 R1 R2
    refine mt_take w3 (Below.refl _ _) ?_
    simp only [pick_cons,pick_nil,nth_zero,nth_succ]
    repeat (go_big_quiet_step (fail))
    refine wpQuiet_nil (mt_end ?_)
    clear b0 b1 b2 b3 b4 b5 cv1 cv2 s1 s2 s3 s4 HKr
    go_wp2
    go_roundw
    case rel => exact ⟨k + 1,by omega,by go_num,HK3⟩
    case measure => simp [intOf];omega
   ·obtain rfl : k = m:=by omega
    have d4 : ¬ (k : Int) < k:=by omega
    clear HO
    go_wp2
    exact bodyPost_ret (v:=.bool true) (by simp [results,Try.results40]) rfl ⟨rfl,keep_trans HK1.out HKr.out⟩
end Go.Proofs.Ytbgpgdhndanigaa
