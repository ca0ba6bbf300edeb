/- Texts merged by pack.py: Vq, Kf, Kg, Kh, Ki, Pa, Vr. -/
import Derived.Test.YtbgpgdhndanigaaCx4
import Derived.Deep.CutBlock
import Derived.Test.YtbgpgdhndanigaaCx3
/- tx.Get. (printed by gen_vq.py) -/
set_option linter.unusedSimpArgs false
set_option linter.unusedVariables false
namespace Go.Proofs.Ytbgpgdhndanigaa
open Go.RowKit
attribute [local go_sem ↓] Go.wp_at_zero Go.wp_at_succ
def Tgd (R : TxR × Nat × Int) (w : World) (e : Ending) (w' : World) : Prop:=∃ t : TxR,e = .returned (.tuple #[.agg t.cells.toArray,iv R.2.1,iv R.2.2])∧t.pl = R.1∧(t.at w'∧∀ W,MidF (fun _ => True) w w' W → t.at W)∧t.ins.length ≤ 1000∧t.outs.length ≤ 1000∧Keep w w'
theorem InR.set32 (x : InR) (h : x.prev.length = 32) (v : UInt32) : x.cells.set 32 (u32v v) = InR.cells { x with ix:=v }:=by
 unfold InR.cells;rw [List.set_append_right _ _ (by simp [h])];simp [h]
theorem InR.set33 (x : InR) (h : x.prev.length = 32) (A : Option Addr) (s : List UInt8) (c : Nat) : x.cells.set 33 (.slice A s.length c) = InR.cells { x with A:=A,sc:=s,cap:=c }:=by
 unfold InR.cells;rw [List.set_append_right _ _ (by simp [h])];simp [h]
theorem InR.set34 (x : InR) (h : x.prev.length = 32) (v : UInt32) : x.cells.set 34 (u32v v) = InR.cells { x with seq:=v }:=by
 unfold InR.cells;rw [List.set_append_right _ _ (by simp [h])];simp [h]
theorem InR.cell32 (x : InR) (h : x.prev.length = 32) : x.cells[32]? = some (u32v x.ix)∧x.cells[33]? = some (.slice x.A x.sc.length x.cap)∧x.cells[34]? = some (u32v x.seq):=by
 unfold InR.cells
 refine ⟨?_,?_,?_⟩ <;> (rw [List.getElem?_append_right (by simp [h])];simp [h])
theorem pad_splice {b : List UInt8} {p : SP} : splice (InR.cells ⟨z32,0,none,[],0,0⟩) 0 (((tkB b 32 p).map u8v).take 32) = InR.cells ⟨padH (tkB b 32 p),0,none,[],0,0⟩:=by
 rcases tkB_len b 32 p with q | q
 ·have h2 : ((tkB b 32 p).map u8v).length = 32:=by rw [List.length_map,q]
  rw [List.take_of_length_le (by omega)]
  unfold splice InR.cells padH
  rw [List.take_zero,List.nil_append,h2,Nat.zero_add,q]
  rw [show z32.drop 32 = [] from rfl,List.append_nil,List.drop_append_of_le_length (by decide),show (z32.map u8v).drop 32 = [] from rfl,List.nil_append]
 ·rw [q];rfl
theorem KeepB.gr {S : Nat} {w w' : World} (k : KeepB S w w') : w.grownBy w' (some S):=⟨k.1,k.2.1,k.2.2.1,k.2.2.2.1,fun j hj hn => k.2.2.2.2 j hj fun e => hn (by rw [e])⟩
theorem KeepB.new {S g : Nat} {w w1 w2 : World} (h : KeepB S w w1) (hg : w1.grownBy w2 (some g)) (hn : w.heap.size ≤ g) : KeepB S w w2 :=
 KeepX.grown h hg fun j hj q => by cases q;omega
theorem KeepB.blk {S g : Nat} {w w' : World} {t : TypeId} {cs : List Value} (k : KeepB S w w') (h : Blk w g t cs) (hn : g ≠ S) : Blk w' g t cs:=h.kx k hn
theorem tgetS_eq (b : List UInt8) : tgetS b = (⟨UInt32.ofNat (nmV b 4 (0,0)),none,(insS b (ctV b 1000 (tkP b 4 (0,0))) (cntE (ctV b 1000 (tkP b 4 (0,0))) (ctP b 1000 (tkP b 4 (0,0))))).1,0,none,
  (outsS b (ctV b 1000 (insS b (ctV b 1000 (tkP b 4 (0,0))) (cntE (ctV b 1000 (tkP b 4 (0,0))) (ctP b 1000 (tkP b 4 (0,0))))).2) (ctP b 1000 (insS b (ctV b 1000 (tkP b 4 (0,0))) (cntE (ctV b 1000 (tkP b 4 (0,0))) (ctP b 1000 (tkP b 4 (0,0))))).2)).1,0,
  UInt32.ofNat (nmV b 4 (outsS b (ctV b 1000 (insS b (ctV b 1000 (tkP b 4 (0,0))) (cntE (ctV b 1000 (tkP b 4 (0,0))) (ctP b 1000 (tkP b 4 (0,0))))).2) (ctP b 1000 (insS b (ctV b 1000 (tkP b 4 (0,0))) (cntE (ctV b 1000 (tkP b 4 (0,0))) (ctP b 1000 (tkP b 4 (0,0))))).2)).2)⟩,
  tkP b 4 (outsS b (ctV b 1000 (insS b (ctV b 1000 (tkP b 4 (0,0))) (cntE (ctV b 1000 (tkP b 4 (0,0))) (ctP b 1000 (tkP b 4 (0,0))))).2) (ctP b 1000 (insS b (ctV b 1000 (tkP b 4 (0,0))) (cntE (ctV b 1000 (tkP b 4 (0,0))) (ctP b 1000 (tkP b 4 (0,0))))).2)).2):=rfl
theorem GSt.tx {S T D r : Nat} {w0 w w' : World} {src : List Value} {ver lock : UInt32} {iA oA : Option Addr} {ic oc : Nat} {ds : List InR} {es : List OutR} (h : GSt S T D w0 w src ver (.slice iA ds.length ic) ds (.slice oA es.length oc) es)
  (hz : Blk w r 47 [.int .u32 0,.slice none 0 0,.slice none 0 0,.int .u32 0]) (hr : r < D) (k : KeepX (fun k => k = T ∨ k = r) w w') (hi : ds.length ≤ ic∧ic ≤ maxLen) (ho : es.length ≤ oc∧oc ≤ maxLen) :
  TxR.at ⟨ver,iA,ds,ic,oA,es,oc,lock⟩ w'∧∀ W,MidF (fun _ => True) w0 w' W → TxR.at ⟨ver,iA,ds,ic,oA,es,oc,lock⟩ W:=by
 have o1:=own_kx h.oi k (fun g q e => by have:=(h.iS g q).1;have:=h.st.2.2.1;omega)
 have o2:=own_kx h.oo k (fun g q e => by have:=(h.oS g q).1;have:=h.st.2.2.1;omega)
 have hY : ∀ g,g < w.heap.size → (g = T ∨ g = r) → GX S T D (.slice iA ds.length ic) (.slice oA es.length oc) g:=fun g _ q => q.elim (fun q => .inr (.inl q)) (fun q => .inr (.inr (.inr (.inr (by omega)))))
 have hX : ∀ g,g < w.heap.size → g < w0.heap.size → GX S T D (.slice iA ds.length ic) (.slice oA es.length oc) g:=fun g _ q => .inr (.inr (.inr (.inr (by have:=h.st.2.2.2;omega))))
 have hM : ∀ W,MidF (fun _ => True) w0 w' W → TxR.at ⟨ver,iA,ds,ic,oA,es,oc,lock⟩ W:=fun W hm =>
  ⟨own_mid o1 (by have:=h.st.2.2.2;omega) hm,own_mid o2 (by have:=h.st.2.2.2;omega) hm,hi,ho,fun x hx => ⟨(h.is x hx).1,(h.is x hx).2.1,((h.is x hx).2.2.kx k hY hX).mid hm⟩,fun x hx => ⟨(h.os x hx).1,(h.os x hx).2.1,((h.os x hx).2.2.kx k hY hX).mid hm⟩⟩
 exact ⟨hM w' ⟨trivial,fun _ _ _ => rfl⟩,hM⟩
theorem results_cell_tmp_tmp {P : Program} {fn : Func} {p u v : Tmp} {ty : TypeId} (h : fn.results = #[.cell p ty,.tmp u,.tmp v]) (tmps : Array Value) (w : World) (g : Nat) (t : TypeId) (cs : Array Value) (fr : Nat × Nat) (d : TypeDesc)
  (hp : tmps.getD p undef = .pointer (some ⟨g,0,none⟩)) (hg : w.heap[g]? = some (.cells cs t fr)) (hu : P.underlying ty = some d) (hd : (match d with | .struct _ | .array _ _ => true | _ => false) = true) (hi : (P.info? ty).map (·.size) = some cs.size) :
  (results fn tmps).run P w = .ok (.tuple #[.agg cs,tmps.getD u undef,tmps.getD v undef]) w:=by
 have hp' : tmps[p]?.getD undef = .pointer (some ⟨g,0,none⟩):=by simpa using hp
 simp [results,h,hp',asAddr,run_loadVar_row w g t ty cs fr d hg hu hd hi]
theorem txZ_at (w : World) : txZ.at w:=⟨Rd.nil _ _,Rd.nil _ _,⟨Nat.le_refl _,Nat.zero_le _⟩,⟨Nat.le_refl _,Nat.zero_le _⟩,(fun x q => by cases q),fun x q => by cases q⟩
theorem tx_info : (Try.prog.info? 47).map (·.size) = some 4:=by kernel_rfl
theorem KeepX.wide {X Y : Nat → Prop} {a b : World} (h : KeepX X a b) (hY : ∀ k,X k → Y k) : KeepX Y a b:=⟨h.1,h.2.1,h.2.2.1,h.2.2.2.1,fun k hk hn => h.2.2.2.2 k hk fun q => hn (hY k q)⟩
set_option maxRecDepth 100000 in
set_option maxHeartbeats 8000000 in
theorem tget_any (A : Option Addr) (b : List UInt8) (c : Nat) (w : World) (hl : b.length ≤ 1000000000) (hc : b.length ≤ c) (hcm : c ≤ maxLen) (hr : Rd w A (b.map u8v)) :
  Calls Try.prog 57 #[.slice A b.length c] w (Tgd (tgetN b) w):=by
 obtain ⟨ver,hver⟩ : ∃ v : UInt32,v = UInt32.ofNat (nmV b 4 (0,0)):=⟨_,rfl⟩
 have HRB:=Lib.hid hr
 have hl0 : (tkP b 4 (0,0)).1 ≤ b.length:=tkP_le (Nat.zero_le _)
 obtain ⟨L,hL⟩ : ∃ L,b.length = L:=⟨_,rfl⟩
 have HLL:=Lib.hid hL
 -- the reader's functions,at a world in which the reader lies at S
 have NUM : Hid (∀ (PB S m : Nat) (p : SP) (y : World),Keep w y → w.heap.size ≤ S → y.cell? ⟨PB,0,none⟩ = some (.pointer (some ⟨S,0,none⟩)) → Blk y S 145 (srcL A L c p) → p.1 ≤ L → m ≤ 8 → 0 < m →
   Calls Try.prog 75 #[iv m,.pointer (some ⟨PB,0,none⟩)] y (Red S 145 (srcL A L c (tkP b m p)) (u64v (nmV b m p)) y)):=Lib.hid fun PB S m p y hy hS h1 h2 h3 h4 h5 => by
  rw [← hL] at h2 h3 ⊢
  exact snum_any PB S _ A b c m p y h1 h2 h3 hc hl hcm h4 h5 (RdX.of_old (hr) (fun k q => by cases q;exact hS) |>.keep hy)
 have CNT : Hid (∀ (S : Nat) (p : SP) (y : World),Keep w y → w.heap.size ≤ S → Blk y S 145 (srcL A L c p) → p.1 ≤ L →
   Calls Try.prog 77 #[.pointer (some ⟨S,0,none⟩),u64v 1000] y (Red S 145 (srcL A L c (ctP b 1000 p)) (iv (ctV b 1000 p)) y)):=Lib.hid fun S p y hy hS h2 h3 => by
  rw [← hL] at h2 h3 ⊢
  exact scount_any S _ A b c 1000 (by omega) p y h2 h3 hc hl hcm (RdX.of_old (hr) (fun k q => by cases q;exact hS) |>.keep hy)
 have SCR : Hid (∀ (S : Nat) (p : SP) (y : World),Keep w y → w.heap.size ≤ S → Blk y S 145 (srcL A L c p) → p.1 ≤ L →
   Calls Try.prog 78 #[.pointer (some ⟨S,0,none⟩)] y (Scd S 145 (srcL A L c (scP b p)) (scV b p) y)):=Lib.hid fun S p y hy hS h2 h3 => by
  rw [← hL] at h2 h3 ⊢
  exact sscript_any S _ A b c p y h2 h3 hc hl hcm (RdX.of_old (hr) (fun k q => by cases q;exact hS) |>.keep hy)
 have TAK : Hid (∀ (S : Nat) (p : SP) (y : World),Keep w y → w.heap.size ≤ S → Blk y S 145 (srcL A L c p) → p.1 ≤ L →
   Calls Try.prog 76 #[.pointer (some ⟨S,0,none⟩),iv 32] y (Tkd S 145 (srcL A L c (tkP b 32 p)) (tkB b 32 p) y)):=Lib.hid fun S p y hy hS h2 h3 => by
  rw [← hL] at h2 h3 ⊢
  exact stake_any S _ A b c 32 p y h2 h3 hc hl hcm (by omega) (by omega) (RdX.of_old (hr) (fun k q => by cases q;exact hS) |>.keep hy)
 have HRR : Hid (tgetN b = if (tgetS b).2.2 = 0 then ((tgetS b).1,(tgetS b).2.1,0) else (txZ,0,(tgetS b).2.2)):=Lib.hid rfl
 rw [tgetS_eq,← hver] at HRR
 generalize tgetN b = R at *
 have HVER:=Lib.hid hver
 rw [hL] at hl0 hl hc ⊢
 clear hr hver hL
 go_enter Try.func57,Try.ntmps57
 go_upto_region 4 with fail
 obtain ⟨w0,hw0⟩ : ∃ w0,w0 = (((w.alloc (.cells #[.int .u32 0,.slice none 0 0,.slice none 0 0,.int .u32 0] 47)).alloc (.cells #[.slice A L c,.int .i64 0,.int .i64 0] 145)).alloc (.cells #[.pointer (some ⟨w.heap.size + 1,0,none⟩)] 143)).alloc (.cells #[.int .u32 0,.slice none 0 0,.slice none 0 0,.int .u32 0] 47):=⟨_,rfl⟩
 have HZ0 : Hid (Blk w0 w.heap.size 47 [.int .u32 0,.slice none 0 0,.slice none 0 0,.int .u32 0]):=by rw [hw0];exact Lib.hid ((((Blk.new w 47 [.int .u32 0,.slice none 0 0,.slice none 0 0,.int .u32 0]).alloc _).alloc _).alloc _)
 have HS0 : Hid (Blk w0 (w.heap.size + 1) 145 [.slice A L c,.int .i64 0,.int .i64 0]):=by
  rw [hw0]
  have q:=Blk.new (w.alloc (.cells #[.int .u32 0,.slice none 0 0,.slice none 0 0,.int .u32 0] 47)) 145 [.slice A L c,.int .i64 0,.int .i64 0]
  rw [World.size_alloc] at q
  exact Lib.hid ((q.alloc _).alloc _)
 have HP0 : Hid (Blk w0 (w.heap.size + 1 + 1) 143 [.pointer (some ⟨w.heap.size + 1,0,none⟩)]):=by
  rw [hw0]
  have q:=Blk.new ((w.alloc (.cells #[.int .u32 0,.slice none 0 0,.slice none 0 0,.int .u32 0] 47)).alloc (.cells #[.slice A L c,.int .i64 0,.int .i64 0] 145)) 143 [.pointer (some ⟨w.heap.size + 1,0,none⟩)]
  rw [World.size_alloc,World.size_alloc] at q
  exact Lib.hid (q.alloc _)
 have HT0 : Hid (Blk w0 (w.heap.size + 1 + 1 + 1) 47 [.int .u32 0,.slice none 0 0,.slice none 0 0,.int .u32 0]):=by
  rw [hw0]
  have q:=Blk.new (((w.alloc (.cells #[.int .u32 0,.slice none 0 0,.slice none 0 0,.int .u32 0] 47)).alloc (.cells #[.slice A L c,.int .i64 0,.int .i64 0] 145)).alloc (.cells #[.pointer (some ⟨w.heap.size + 1,0,none⟩)] 143)) 47 [.int .u32 0,.slice none 0 0,.slice none 0 0,.int .u32 0]
  rw [World.size_alloc,World.size_alloc,World.size_alloc] at q
  exact Lib.hid q
 have HK0 : Hid (Keep w w0):=by rw [hw0];exact Lib.hid (keep_trans (keep_trans (keep_trans (keep_new _ _) (keep_new _ _)) (keep_new _ _)) (keep_new _ _))
 have hsz0 : w.heap.size + 1 + 1 + 1 < w0.heap.size:=HT0.out.lt
 rw [← hw0]
 clear hw0
 obtain ⟨r,hr⟩ : ∃ r,w.heap.size = r:=⟨_,rfl⟩
 obtain ⟨S,hS⟩ : ∃ S,r + 1 = S:=⟨_,rfl⟩
 obtain ⟨PB,hPB⟩ : ∃ PB,S + 1 = PB:=⟨_,rfl⟩
 obtain ⟨T,hT⟩ : ∃ T,PB + 1 = T:=⟨_,rfl⟩
 have HRW : Hid (w.heap.size = r):=Lib.hid hr
 rw [hr,hS] at HS0;rw [hr,hS,hPB] at HP0;rw [hr,hS,hPB,hT] at HT0 hsz0;rw [hr] at HZ0
 simp only [hr,hS,hPB,hT]
 have l1 : r < S:=by omega
 have l2 : S < PB:=by omega
 have l3 : PB < T:=by omega
 have HWS : Hid (w.heap.size ≤ S):=Lib.hid (by omega)
 clear hr hS hPB hT
 have G0 : Hid (GSt S T w0.heap.size w0 w0 (srcL A L c (0,0)) 0 (.slice none 0 0) [] (.slice none 0 0) []):=Lib.hid ⟨HS0.out,HT0.out,World.ownsRow_nil _ _ _ _,World.ownsRow_nil _ _ _ _,(fun g q => by cases q),(fun x hx => by cases hx),(fun x hx => by cases hx),KeepX.of (Below.refl _ _),by omega,by omega,by omega,rfl⟩
 clear HS0 HT0
 obtain ⟨V0,hV0⟩ : ∃ V,nmV b 4 (0,0) = V:=⟨_,rfl⟩
 have hvv : (V0 : Int) % 4294967296 = (ver.toNat : Int):=by rw [HVER.out,hV0,UInt32.toNat_ofNat'];omega
 have hvw : IntKind.u32.wrap (V0 : Int) = (ver.toNat : Int):=by rw [IntKind.wrap_u32];exact hvv
 have N0:=NUM.out PB S 4 (0,0) w0 HK0.out HWS.out (HP0.out.cell 0) G0.out.hs (Nat.zero_le _) (by omega) (by omega)
 rw [hV0] at N0
 have N0:=Lib.hid N0
 clear hV0 HVER
 obtain ⟨p1,hp1⟩ : ∃ p,tkP b 4 (0,0) = p:=⟨_,rfl⟩
 rw [hp1] at hl0 HRR N0
 clear hp1
 have KW : Hid (∀ y src ver vi ds vo es,GSt S T w0.heap.size w0 y src ver vi ds vo es → Keep w y):=Lib.hid fun y src ver vi ds vo es h => h.kx.keep HK0.out (fun j q => by have:=HWS.out;rcases q with q | q <;> omega)
 have PBC : Hid (∀ y src ver vi ds vo es,GSt S T w0.heap.size w0 y src ver vi ds vo es → y.cell? ⟨PB,0,none⟩ = some (.pointer (some ⟨S,0,none⟩))):=Lib.hid fun y src ver vi ds vo es h => h.far (HP0.out.cell 0) (by omega) (by omega)
 go_upto_region 5 with (go_at_call 75;refine N0.out.mono ?_;rintro e w1 ⟨rfl,hb1,hk1⟩;have G1:=Lib.hid (G0.out.read hb1 hk1);have t0:=G1.out.ht.cell 0;have f0:=G1.out.ht.frozen 0;try simp only [List.getElem?_cons_zero] at t0;clear hb1 hk1)
 obtain ⟨w2,hw2⟩ : ∃ w2,w2 = w1.setCell ⟨T,0,none⟩ (.int .u32 ver.toNat):=⟨_,rfl⟩
 have G2 : Hid (GSt S T w0.heap.size w0 w2 (srcL A L c p1) ver (.slice none 0 0) [] (.slice none 0 0) []):=by rw [hw2];exact Lib.hid (G1.out.vers ver)
 rw [← hw2]
 clear hw2 G0 G1 t0 f0 N0 hvv hvw
 have pb:=PBC.out _ _ _ _ _ _ _ G2.out
 have C2:=Lib.hid (CNT.out S p1 w2 (KW.out _ _ _ _ _ _ _ G2.out) HWS.out G2.out.hs hl0)
 obtain ⟨n,hn⟩ : ∃ n,ctV b 1000 p1 = n:=⟨_,rfl⟩
 obtain ⟨p2,hp2⟩ : ∃ p,ctP b 1000 p1 = p:=⟨_,rfl⟩
 have hn1000 : n ≤ 1000:=by rw [← hn];exact ctV_le _ _ _
 have hl2 : p2.1 ≤ L:=by rw [← hp2,← HLL.out];exact ctP_le (by rw [HLL.out];exact hl0)
 rw [hn,hp2] at C2 HRR
 clear hn hp2
 go_upto_region 6 with (go_at_call 77;refine C2.out.mono ?_;rintro e w3 ⟨rfl,hb3,hk3⟩;have G3:=Lib.hid (G2.out.read hb3 hk3);clear hb3 hk3)
 clear pb C2 G2
 obtain ⟨a2,e2⟩:=p2
 obtain ⟨p3,hp3⟩ : ∃ p,cntE n (a2,e2) = p:=⟨_,rfl⟩
 have hl3 : p3.1 ≤ L:=by rw [← hp3];unfold cntE;split <;> exact hl2
 rw [hp3] at HRR
 have HP3:=Lib.hid hp3
 clear hp3 hl0 hl2
 obtain ⟨Q,hQ⟩ : ∃ Q,decide (e2 = 0∧n = 0) = Q:=⟨_,rfl⟩
 have HQ:=Lib.hid hQ
 clear hQ
 go_cut [8,32] (fun v q wx => v = .int .i64 n∧q = .bool Q∧wx = w3)
 case first =>
  have pb:=PBC.out _ _ _ _ _ _ _ G3.out
  have s2:=G3.out.hs.cell 2
  try simp only [List.getElem?_cons_succ,List.getElem?_cons_zero] at s2
  have hq:=HQ.out
  by_cases q0 : e2 = 0
  ·have d1 : (e2 == 0) = true:=by rw [q0];rfl
   by_cases qn : n = 0
   ·have d2 : ((n : Int) == 0) = true:=by rw [qn];rfl
    rw [decide_eq_true (show e2 = 0∧n = 0 from ⟨q0,qn⟩)] at hq
    subst hq
    clear q0 qn HQ HP3
    go_wp2_with fail
    go_meet
    exact ⟨rfl,rfl,rfl⟩
   ·have d2 : ((n : Int) == 0) = false:=by rw [beq_eq_false_iff_ne];omega
    rw [decide_eq_false (show ¬ (e2 = 0∧n = 0) from fun q => qn q.2)] at hq
    subst hq
    clear q0 qn HQ HP3
    go_wp2_with fail
    go_meet
    exact ⟨rfl,rfl,rfl⟩
  ·have d1 : (e2 == 0) = false:=by rw [beq_eq_false_iff_ne];exact q0
   rw [decide_eq_false (show ¬ (e2 = 0∧n = 0) from fun q => q0 q.1)] at hq
   subst hq
   clear q0 HQ HP3
   go_wp2_with fail
   go_meet
   exact ⟨rfl,rfl,rfl⟩
 case rest =>
 obtain ⟨rfl,rfl,rfl⟩:=hcut
 go_upto_if 32 with fail
 go_cut [8] (fun v wx => v = .int .i64 n∧Hid (GSt S T w0.heap.size w0 wx (srcL A L c p3) ver (.slice none 0 0) [] (.slice none 0 0) []))
 case first =>
  have pb:=PBC.out _ _ _ _ _ _ _ G3.out
  have f2:=G3.out.hs.frozen 2;have s2:=G3.out.hs.cell 2
  try simp only [List.getElem?_cons_succ,List.getElem?_cons_zero] at s2
  have hp3:=HP3.out
  unfold cntE at hp3
  simp only at hp3
  cases Q with
  | true =>
    rw [if_pos (of_decide_eq_true HQ.out)] at hp3
    subst hp3
    have HZ : Hid (GSt S T w0.heap.size w0 (wc.setCell ⟨S,2,none⟩ (.int .i64 2)) (srcL A L c (a2,2)) ver (.slice none 0 0) [] (.slice none 0 0) []):=Lib.hid (G3.out.read (G3.out.hs.set_ 2 _) (KeepB.set (KeepX.of (Below.refl _ _)) 2 _))
    clear HP3 HQ
    go_wp2_with fail
    go_meet
    exact ⟨rfl,HZ⟩
  | false =>
    rw [if_neg (of_decide_eq_false HQ.out)] at hp3
    subst hp3
    clear HP3 HQ
    go_wp2_with fail
    go_meet
    exact ⟨rfl,G3⟩
 case rest =>
  obtain ⟨rfl,G4⟩:=hcut
  clear HP3 G3
  have HI0 : Hid (insS b n p3 = (([] : List InR).map InR.pl ++ (insS b (n - 0) p3).1,(insS b (n - 0) p3).2)):=Lib.hid (by simp)
  obtain ⟨zs,hz1,hz2,hz3,hzA⟩:=zin_letter
  have HZA:=Lib.hid hzA
  clear hzA
  go_upto_block 0 with fail
  go_cut [8] (fun v wx => v = .int .i64 n∧∃ (vi : Value) (ds : List InR),Hid (GSt S T w0.heap.size w0 wx (srcL A L c (insS b n p3).2) ver vi ds (.slice none 0 0) [])∧Hid (ds.map InR.pl = (insS b n p3).1)∧ds.length ≤ 1000)
  case first =>
   go_wp2_with fail
   go_loopw [9] (fun x wr => ∃ (i : Nat) (p : SP) (vi : Value) (ds : List InR),i ≤ n∧x = .int .i64 i∧ds.length = i∧p.1 ≤ L∧Hid (GSt S T w0.heap.size w0 wr (srcL A L c p) ver vi ds (.slice none 0 0) [])∧Hid (insS b n p3 = (ds.map InR.pl ++ (insS b (n - i) p).1,(insS b (n - i) p).2))) (fun x _ => n - (intOf x).toNat)
   case atStart => exact ⟨0,p3,.slice none 0 0,[],Nat.zero_le _,rfl,rfl,hl3,G4,HI0⟩
   case round =>
    obtain ⟨i,p,vi,ds,hi,rfl,hdl,hpl,Gr,HIr⟩:=hrel
    obtain ⟨a,e0⟩:=p
    have HDL:=Lib.hid hdl
    have pb:=PBC.out _ _ _ _ _ _ _ Gr.out
    have s2:=Gr.out.hs.cell 2
    try simp only [List.getElem?_cons_succ,List.getElem?_cons_zero] at s2
    clear hdl
    by_cases hlt : i < n
    case neg =>
     obtain rfl : i = n:=by omega
     have d1 : ¬ (i : Int) < i:=by omega
     have hE:=HIr.out
     rw [Nat.sub_self] at hE
     have HE : Hid (insS b i p3 = (ds.map InR.pl,(a,e0))):=Lib.hid (by rw [hE];simp [insS])
     clear hE HIr
     go_wp2_with fail
     go_meet
     exact ⟨rfl,vi,ds,by rw [HE.out];exact Gr,Lib.hid (by rw [HE.out]),by rw [HDL.out];omega⟩
    by_cases h0 : e0 = 0
    case neg =>
     have d1 : (i : Int) < n:=by omega
     have d2 : (e0 == 0) = false:=by rw [beq_eq_false_iff_ne];exact h0
     have HE : Hid (insS b n p3 = (ds.map InR.pl,(a,e0))):=Lib.hid (by rw [HIr.out,insS_err b _ h0];simp)
     clear HIr h0
     go_wp2_with fail
     go_meet
     exact ⟨rfl,vi,ds,by rw [HE.out];exact Gr,Lib.hid (by rw [HE.out]),by rw [HDL.out];omega⟩
    subst h0
    have d1 : (i : Int) < n:=by omega
    have HIn : Hid (insS b n p3 = ((ds ++ [(inS b (a,0)).1]).map InR.pl ++ (insS b (n - (i + 1)) (inS b (a,0)).2).1,(insS b (n - (i + 1)) (inS b (a,0)).2).2)):=Lib.hid (by
     rw [HIr.out,show n - i = (n - (i + 1)) + 1 by omega]
     show _ = _
     rw [insS,if_pos rfl]
     simp [InR.pl,inS])
    have KR:=Lib.hid (KW.out _ _ _ _ _ _ _ Gr.out)
    have PBR:=Lib.hid pb
    have KRB : Hid (∀ y,KeepB S wr y → Keep w y):=Lib.hid fun y k => k.keep KR.out fun j q => by have:=HWS.out;omega
    have PRB : Hid (∀ y,KeepB S wr y → y.cell? ⟨PB,0,none⟩ = some (.pointer (some ⟨S,0,none⟩))):=Lib.hid fun y k => k.cell PBR.out (by omega)
    clear HIr PBR
    go_upto_region 12 with fail
    obtain ⟨w5,hw5⟩ : ∃ w5,w5 = wr.alloc (.cells zs 100):=⟨_,rfl⟩
    have HX5 : Hid (Blk w5 wr.heap.size 100 (InR.cells ⟨z32,0,none,[],0,0⟩)):=by rw [hw5,← HZA.out.l];exact Lib.hid (Blk.new wr 100 zs.toList)
    have HK5 : Hid (KeepB S wr w5):=by rw [hw5];exact Lib.hid (KeepX.of (keep_new _ _))
    have HS5 : Hid (Blk w5 S 145 (srcL A L c (a,0))):=by rw [hw5];exact Lib.hid (Gr.out.hs.alloc _)
    have KR5 : Hid (Keep w w5):=by rw [hw5];exact Lib.hid (keep_trans KR.out (keep_new _ _))
    have pb5 : w5.cell? ⟨PB,0,none⟩ = some (.pointer (some ⟨S,0,none⟩)):=by rw [hw5];exact keep_cell (keep_new _ _) pb
    have HPB5:=Lib.hid pb5
    have hgS : wr.heap.size ≠ S:=by have:=Gr.out.hs.lt;omega
    have hszw : w.heap.size ≤ wr.heap.size:=KR.out.size
    rw [← hw5]
    clear hw5 pb pb5 s2 KR
    obtain ⟨gi,hgi⟩ : ∃ g,wr.heap.size = g:=⟨_,rfl⟩
    have HGI:=Lib.hid hgi
    rw [hgi] at HX5 hgS hszw
    simp only [hgi]
    clear hgi
    letI iM : G.Mk:=⟨some S⟩
    refine G.wp_region_tree (.take [0,1,2] (.force [3] .done)) [4] (by kernel_rfl) (by kernel_rfl) (fun w6 k6 => ?_)
    have HX6:=Lib.hid (HX5.out.keep k6);have HK6 : Hid (KeepB S wr w6):=Lib.hid (HK5.out.trans (KeepX.of k6) fun _ _ q => q);have HS6:=Lib.hid (HS5.out.keep k6);have KR6:=Lib.hid (keep_trans KR5.out k6)
    have hneP : G.Mk.m ≠ some PB:=fun q => by have e : S = PB:=Option.some.inj q;omega
    have b1:=G.aftG_cell (keep_cell k6 HPB5.out) hneP
    clear k6 HX5 HK5 HS5 KR5 HPB5
    refine G.mt_take w6 (G.Gr.refl _) ?_
    simp only [pick_cons,pick_nil,nth_zero,nth_succ]
    repeat (go_big_quiet_step (fail))
    refine wpQuiet_nil (G.mt_force ?_)
    clear b1 hneP
    simp only [pick_cons,pick_nil,nth_zero,nth_succ]
    refine G.fc_step rfl (fun K hK => ?_)
    go_simp
    (with_reducible refine (TAK.out S (a,0) w6 KR6.out HWS.out HS6.out hpl).mono ?_)
    rintro e w7 ⟨A7,c7,rfl,hr7,hb7,hk7⟩
    refine hK _ _ hk7.gr ?_
    clear hK K
    have HX7:=Lib.hid (hk7.blk HX6.out hgS);have HK7 : Hid (KeepB S wr w7):=Lib.hid (HK6.out.trans hk7 fun _ _ q => q);have HS7:=Lib.hid hb7;have HR7:=Lib.hid hr7
    clear hr7 hb7 hk7 HX6 HK6 HS6
    refine G.fc_nil (G.mt_end ?_)
    clear iM
    refine wpList_cpy byteT (by rfl) _ _ (by rfl) gi 0 32 32 (by rfl) A7 (tkB b 32 (a,0)).length c7 ((tkB b 32 (a,0)).map u8v) (by rfl) (by rw [List.length_map]) HR7.out.rd (one_bytes _) (InR.cells ⟨z32,0,none,[],0,0⟩) _ HX7.out (by rw [InR.len rfl];rcases tkB_len b 32 (a,0) with q | q <;> rw [q] <;> simp) ?_
    intro w8 hw8 hg8
    simp only [Act.put,Array.set!_eq_setIfInBounds,List.setIfInBounds_toArray,List.set_cons_succ,List.set_cons_zero]
    have HX8 : Hid (Blk w8 gi 100 (InR.cells ⟨padH (tkB b 32 (a,0)),0,none,[],0,0⟩)):=Lib.hid (by have q:=hw8.out;rw [pad_splice] at q;exact q)
    have HS8:=Lib.hid (HS7.out.grown hg8 (fun q => hgS (Option.some.inj q)))
    have hgr : wr.heap.size ≤ gi:=Nat.le_of_eq HGI.out
    have HK8:=Lib.hid (HK7.out.new hg8 hgr)
    have hpd : (padH (tkB b 32 (a,0))).length = 32:=padH_len
    clear hw8 hg8 HX7 HS7 HK7 HR7 KR6
    obtain ⟨PV,hPV⟩ : ∃ l,padH (tkB b 32 (a,0)) = l:=⟨_,rfl⟩
    obtain ⟨q1,hq1⟩ : ∃ p,tkP b 32 (a,0) = p:=⟨_,rfl⟩
    have hq1l : q1.1 ≤ L:=by rw [← hq1,← HLL.out];exact tkP_le (by rw [HLL.out];exact hpl)
    rw [hPV] at HX8 hpd
    rw [hq1] at HS8
    have HPV:=Lib.hid hPV;have HQ1:=Lib.hid hq1
    clear hPV hq1
    -- the index
    obtain ⟨ix,hix⟩ : ∃ v : UInt32,v = UInt32.ofNat (nmV b 4 q1):=⟨_,rfl⟩
    obtain ⟨V1,hV1⟩ : ∃ V,nmV b 4 q1 = V:=⟨_,rfl⟩
    have hvv : (V1 : Int) % 4294967296 = (ix.toNat : Int):=by rw [hix,hV1,UInt32.toNat_ofNat'];omega
    have hvw : IntKind.u32.wrap (V1 : Int) = (ix.toNat : Int):=by rw [IntKind.wrap_u32];exact hvv
    have N1:=NUM.out PB S 4 q1 w8 (KRB.out _ HK8.out) HWS.out (PRB.out _ HK8.out) HS8.out hq1l (by omega) (by omega)
    obtain ⟨q2,hq2⟩ : ∃ p,tkP b 4 q1 = p:=⟨_,rfl⟩
    have hq2l : q2.1 ≤ L:=by rw [← hq2,← HLL.out];exact tkP_le (by rw [HLL.out];exact hq1l)
    rw [hV1,hq2] at N1
    have N1:=Lib.hid N1
    have HIX:=Lib.hid hix;have HQ2:=Lib.hid hq2
    clear hix hV1 hq2
    go_upto_region 14 with (go_at_call 75;refine N1.out.mono ?_;rintro e w9 ⟨rfl,hb9,hk9⟩;have HX9:=Lib.hid (hk9.blk HX8.out hgS);have HK9 : Hid (KeepB S wr w9):=Lib.hid (HK8.out.trans hk9 fun _ _ q => q);have HS9:=Lib.hid hb9;have x32:=HX9.out.cell 32;have f32:=HX9.out.frozen 32;rw [(InR.cell32 _ hpd).1] at x32;clear hb9 hk9)
    obtain ⟨w10,hw10⟩ : ∃ w10,w10 = w9.setCell ⟨gi,32,none⟩ (.int .u32 ix.toNat):=⟨_,rfl⟩
    have HX10 : Hid (Blk w10 gi 100 (InR.cells ⟨PV,ix,none,[],0,0⟩)):=by rw [hw10];exact Lib.hid (by have q:=HX9.out.set_ 32 (u32v ix);rw [InR.set32 _ hpd] at q;exact q)
    have HS10 : Hid (Blk w10 S 145 (srcL A L c q2)):=by rw [hw10];exact Lib.hid (HS9.out.far (fun q => hgS q.symm) _)
    have HK10 : Hid (KeepB S wr w10):=by rw [hw10];exact Lib.hid (HK9.out.new (grown_set (grown_refl w9 _)) hgr)
    rw [← hw10]
    clear hw10 x32 f32 HX8 HS8 HK8 HX9 HS9 HK9 N1 hvv hvw
    -- the script
    have S1:=SCR.out S q2 w10 (KRB.out _ HK10.out) HWS.out HS10.out hq2l
    have hsl:=scV_le b q2
    obtain ⟨sc,hsc⟩ : ∃ s,scV b q2 = s:=⟨_,rfl⟩
    obtain ⟨q3,hq3⟩ : ∃ p,scP b q2 = p:=⟨_,rfl⟩
    have hq3l : q3.1 ≤ L:=by rw [← hq3,← HLL.out];exact scP_le (by rw [HLL.out];exact hq2l)
    rw [hsc] at S1 hsl
    rw [hq3] at S1
    have S1:=Lib.hid S1
    have HSC:=Lib.hid hsc;have HQ3:=Lib.hid hq3
    have pb:=PRB.out _ HK10.out
    have hg10:=HX10.out.lt
    clear hsc hq3
    go_upto_region 15 with (go_at_call 78;refine S1.out.mono ?_;rintro e w11 ⟨v11,rfl,hown11,hb11,hk11⟩;obtain ⟨Av,cv,rfl,hcv1,hcv2,-⟩:=own_form hown11;have HX11:=Lib.hid (hk11.blk HX10.out hgS);have HK11 : Hid (KeepB S wr w11):=Lib.hid (HK10.out.trans hk11 fun _ _ q => q);have HS11:=Lib.hid hb11;have OW11:=Lib.hid hown11;have x33:=HX11.out.cell 33;have f33:=HX11.out.frozen 33;rw [(InR.cell32 _ hpd).2.1] at x33;clear hb11 hk11 hown11)
    obtain ⟨w12,hw12⟩ : ∃ w12,w12 = w11.setCell ⟨gi,33,none⟩ (.slice Av sc.length cv):=⟨_,rfl⟩
    have HX12 : Hid (Blk w12 gi 100 (InR.cells ⟨PV,ix,Av,sc,cv,0⟩)):=by rw [hw12];exact Lib.hid (by have q:=HX11.out.set_ 33 (.slice Av sc.length cv);rw [InR.set33 _ hpd] at q;exact q)
    have HS12 : Hid (Blk w12 S 145 (srcL A L c q3)):=by rw [hw12];exact Lib.hid (HS11.out.far (fun q => hgS q.symm) _)
    have HK12 : Hid (KeepB S wr w12):=by rw [hw12];exact Lib.hid (HK11.out.new (grown_set (grown_refl w11 _)) hgr)
    have OW12 : Hid (w12.ownsRow w10.heap.size 5 1 (.slice Av sc.length cv) sc.length (sc.map u8v)):=by rw [hw12];exact Lib.hid (ownsRow_setCell_below OW11.out (a:=⟨gi,33,none⟩) hg10 _)
    rw [← hw12]
    clear hw12 x33 f33 HX10 HS10 HK10 HX11 HS11 HK11 OW11 S1 pb
    obtain ⟨B10,hB10⟩ : ∃ k,w10.heap.size = k:=⟨_,rfl⟩
    rw [hB10] at OW12 hg10
    clear hB10
    -- the sequence
    obtain ⟨sq,hsq⟩ : ∃ v : UInt32,v = UInt32.ofNat (nmV b 4 q3):=⟨_,rfl⟩
    obtain ⟨V1,hV1⟩ : ∃ V,nmV b 4 q3 = V:=⟨_,rfl⟩
    have hvv : (V1 : Int) % 4294967296 = (sq.toNat : Int):=by rw [hsq,hV1,UInt32.toNat_ofNat'];omega
    have hvw : IntKind.u32.wrap (V1 : Int) = (sq.toNat : Int):=by rw [IntKind.wrap_u32];exact hvv
    have N1:=NUM.out PB S 4 q3 w12 (KRB.out _ HK12.out) HWS.out (PRB.out _ HK12.out) HS12.out hq3l (by omega) (by omega)
    obtain ⟨q4,hq4⟩ : ∃ p,tkP b 4 q3 = p:=⟨_,rfl⟩
    have hq4l : q4.1 ≤ L:=by rw [← hq4,← HLL.out];exact tkP_le (by rw [HLL.out];exact hq3l)
    rw [hV1,hq4] at N1
    have N1:=Lib.hid N1
    have HSQ:=Lib.hid hsq;have HQ4:=Lib.hid hq4
    clear hsq hV1 hq4
    go_upto_region 16 with (go_at_call 75;refine N1.out.mono ?_;rintro e w13 ⟨rfl,hb13,hk13⟩;have HX13:=Lib.hid (hk13.blk HX12.out hgS);have HK13 : Hid (KeepB S wr w13):=Lib.hid (HK12.out.trans hk13 fun _ _ q => q);have HS13:=Lib.hid hb13;have OW13:=Lib.hid (own_kx OW12.out hk13 (fun g q e => by have:=(OW12.out.lt g q).1;have:=Gr.out.hs.lt;omega));have x34:=HX13.out.cell 34;have f34:=HX13.out.frozen 34;rw [(InR.cell32 _ hpd).2.2] at x34;clear hb13 hk13)
    obtain ⟨w14,hw14⟩ : ∃ w14,w14 = w13.setCell ⟨gi,34,none⟩ (.int .u32 sq.toNat):=⟨_,rfl⟩
    have HX14 : Hid (Blk w14 gi 100 (InR.cells ⟨PV,ix,Av,sc,cv,sq⟩)):=by rw [hw14];exact Lib.hid (by have q:=HX13.out.set_ 34 (u32v sq);rw [InR.set34 _ hpd] at q;exact q)
    have HS14 : Hid (Blk w14 S 145 (srcL A L c q4)):=by rw [hw14];exact Lib.hid (HS13.out.far (fun q => hgS q.symm) _)
    have HK14 : Hid (KeepB S wr w14):=by rw [hw14];exact Lib.hid (HK13.out.new (grown_set (grown_refl w13 _)) hgr)
    have OW14 : Hid (w14.ownsRow B10 5 1 (.slice Av sc.length cv) sc.length (sc.map u8v)):=by rw [hw14];exact Lib.hid (ownsRow_setCell_below OW13.out (a:=⟨gi,34,none⟩) hg10 _)
    rw [← hw14]
    clear hw14 x34 f34 HX12 HS12 HK12 HX13 HS13 HK13 OW12 OW13 N1 hvv hvw
    have G14:=Lib.hid (Gr.out.read HS14.out HK14.out)
    obtain ⟨x4,hx4⟩ : ∃ x : InR,(⟨PV,ix,Av,sc,cv,sq⟩ : InR) = x:=⟨_,rfl⟩
    have HX4 : Hid (x4.pl = (inS b (a,0)).1∧(inS b (a,0)).2 = q4):=Lib.hid (by
     rw [← hx4]
     unfold inS InR.pl
     simp only [HQ1.out,HQ2.out,HQ3.out,HQ4.out,HPV.out,HIX.out,HSC.out,HSQ.out,and_self])
    obtain ⟨xs,hxs⟩ : ∃ xs,InA x4 xs:=⟨_,InA.of (by rw [← hx4];exact hpd)⟩
    rw [hx4,← hxs.l] at HX14
    have hxz:=hxs.z;have hxn:=hxs.n;have hxi:=hxs.i
    have HXO:=Lib.hid hxs.o
    have HXC : Hid (x4.prev.length = 32∧(x4.sc.length ≤ x4.cap∧x4.cap ≤ maxLen)∧RdN (GX S T w0.heap.size vi (.slice none 0 0)) w14 x4.A (x4.sc.map u8v)):=Lib.hid (by
     rw [← hx4]
     refine ⟨hpd,⟨hcv1,hcv2⟩,RdN.of_own OW14.out fun g hg q => ?_⟩
     have hz1:=Gr.out.hs.lt;have hz2:=Gr.out.ht.lt;have hz3:=HGI.out
     have hz4:=Gr.out.size
     rcases q with q | q | q | q | q
     ·omega
     ·omega
     ·have:=(Gr.out.iS g q).2;omega
     ·cases q
     ·omega)
    have HXL:=Lib.hid hxs.l
    clear hx4 hxs HPV HQ1 HQ2 HQ3 HQ4 HIX HSC HSQ OW14 HS14 hcv1 hcv2 hsl
    have RX : Hid (w14.rangeAt gi 0 xs.toList):=Lib.hid (range_of HX14.out 0 xs.toList (by simp [List.take_of_length_le]))
    have t1:=G14.out.ht.cell 1
    try simp only [List.getElem?_cons_succ,List.getElem?_cons_zero] at t1
    have hsz14:=G14.out.size
    obtain ⟨Avi,cvi,rfl,-,-,-⟩:=own_form G14.out.oi
    have hdl1 : ds.length ≤ 1000:=by have:=HDL.out;omega
    go_wp2_with (first
     | ((with_reducible refine load_partg gi 0 xs (Eq.trans ?_ rfl) RX.out _ Try.underlying100 rfl hxi rfl ?_);rfl)
     | ((with_reducible refine list_build1h inT xs hxz (by omega) (Eq.trans ?_ rfl) ?_);rfl)
     | (at_builtin;refine wpList_app inT (by rfl) _ _ (by rfl) w0.heap.size _ ds.length _ (by rfl) (G14.out.oi.alloc _) _ 1 1 xs.toList (by rfl) (by rw [Array.length_toList,hxz]) (by simpa using Rd.new w14 xs.toList 100) HXO.out (by omega) (by unfold maxLen;omega) (by simp;omega) ?_;intro v15 w15 own15 hg15 hat15;obtain ⟨Aw,cw,rfl,-,-,-⟩:=own_form own15;have HT15:=(G14.out.ht.alloc (.cells xs 100)).grown hg15 (fun q => absurd (G14.out.iS T q).1 (by have:=G14.out.st.2.2.1;omega));have t15:=HT15.cell 1;have f15:=HT15.frozen 1;simp only [List.getElem?_cons_succ,List.getElem?_cons_zero] at t15;have Own15:=Lib.hid own15;have Gg15:=Lib.hid hg15;have At15:=Lib.hid hat15;clear own15 hg15 hat15 HT15))
    have GN : Hid (GSt S T w0.heap.size w0 (w15.setCell ⟨T,1,none⟩ (.slice Aw (ds.length + 1) cw)) (srcL A L c q4) ver (.slice Aw (ds.length + 1) cw) (ds ++ [x4]) (.slice none 0 0) []):=Lib.hid (by
     have o2:=Own15.out
     rw [HXL.out] at o2
     exact (G14.out.keep (keep_new _ _)).inp o2 Gg15.out (At15.out.imp id fun e => ⟨_,e,Nat.le_refl _⟩) ⟨HXC.out.1,HXC.out.2.1,HXC.out.2.2.kx (Y:=fun _ => False) (KeepX.of (keep_new _ _)) (fun _ _ q => q.elim) (fun _ _ q => q)⟩)
    have HIe : Hid (insS b n p3 = ((ds ++ [x4]).map InR.pl ++ (insS b (n - (i + 1)) q4).1,(insS b (n - (i + 1)) q4).2)):=Lib.hid (by
     rw [HIn.out,HX4.out.2]
     have e : InR.pl (inS b (a,0)).1 = x4.pl:=by rw [HX4.out.1];rfl
     simp [e])
    clear Own15 Gg15 At15 HXC HXL HXO t15 f15 t1 RX HIn HX4
    go_roundw
    case rel => exact ⟨i + 1,q4,_,ds ++ [x4],by omega,by go_num,by rw [List.length_append,HDL.out];rfl,hq4l,GN,HIe⟩
    case measure => simp [intOf];omega
  case rest =>
   obtain ⟨rfl,vi,ds,G5,HDS,hdl⟩:=hcut
   have hI5 : (insS b n p3).2.1 ≤ L:=by rw [← HLL.out];exact insS_le n (by rw [HLL.out];exact hl3)
   clear G4 HI0
   generalize insS b n p3 = IR at *
   obtain ⟨is,p5⟩:=IR
   simp only at G5 HDS hI5 HRR
   have pb:=PBC.out _ _ _ _ _ _ _ G5.out
   have C2:=Lib.hid (CNT.out S p5 wc (KW.out _ _ _ _ _ _ _ G5.out) HWS.out G5.out.hs hI5)
   obtain ⟨m,hm⟩ : ∃ m,ctV b 1000 p5 = m:=⟨_,rfl⟩
   obtain ⟨p6,hp6⟩ : ∃ p,ctP b 1000 p5 = p:=⟨_,rfl⟩
   have hm1000 : m ≤ 1000:=by rw [← hm];exact ctV_le _ _ _
   have hl6 : p6.1 ≤ L:=by rw [← hp6,← HLL.out];exact ctP_le (by rw [HLL.out];exact hI5)
   rw [hm,hp6] at C2 HRR
   clear hm hp6
   go_upto_region 18 with (go_at_call 77;refine C2.out.mono ?_;rintro e w3 ⟨rfl,hb3,hk3⟩;have G6:=Lib.hid (G5.out.read hb3 hk3);clear hb3 hk3)
   clear pb C2 G5
   have HO0 : Hid (outsS b m p6 = (([] : List OutR).map OutR.pl ++ (outsS b (m - 0) p6).1,(outsS b (m - 0) p6).2)):=Lib.hid (by simp)
   have HDLI:=Lib.hid hdl
   go_upto_block 2 with fail
   go_cut [11] (fun v wx => v = .int .i64 m∧∃ (vo : Value) (es : List OutR),Hid (GSt S T w0.heap.size w0 wx (srcL A L c (outsS b m p6).2) ver vi ds vo es)∧Hid (es.map OutR.pl = (outsS b m p6).1)∧es.length ≤ 1000)
   case first =>
    go_wp2_with fail
    go_loopw [12] (fun x wr => ∃ (i : Nat) (p : SP) (vo : Value) (es : List OutR),i ≤ m∧x = .int .i64 i∧es.length = i∧p.1 ≤ L∧Hid (GSt S T w0.heap.size w0 wr (srcL A L c p) ver vi ds vo es)∧Hid (outsS b m p6 = (es.map OutR.pl ++ (outsS b (m - i) p).1,(outsS b (m - i) p).2))) (fun x _ => m - (intOf x).toNat)
    case atStart => exact ⟨0,p6,.slice none 0 0,[],Nat.zero_le _,rfl,rfl,hl6,G6,HO0⟩
    case round =>
     obtain ⟨i,p,vo,es,hi,rfl,hdl2,hpl,Gr,HIr⟩:=hrel
     obtain ⟨a,e0⟩:=p
     have HDL:=Lib.hid hdl2
     have pb:=PBC.out _ _ _ _ _ _ _ Gr.out
     have s2:=Gr.out.hs.cell 2
     try simp only [List.getElem?_cons_succ,List.getElem?_cons_zero] at s2
     clear hdl2
     by_cases hlt : i < m
     case neg =>
      obtain rfl : i = m:=by omega
      have d1 : ¬ (i : Int) < i:=by omega
      have hE:=HIr.out
      rw [Nat.sub_self] at hE
      have HE : Hid (outsS b i p6 = (es.map OutR.pl,(a,e0))):=Lib.hid (by rw [hE];simp [outsS])
      clear hE HIr
      go_wp2_with fail
      go_meet
      exact ⟨rfl,vo,es,by rw [HE.out];exact Gr,Lib.hid (by rw [HE.out]),by rw [HDL.out];omega⟩
     by_cases h0 : e0 = 0
     case neg =>
      have d1 : (i : Int) < m:=by omega
      have d2 : (e0 == 0) = false:=by rw [beq_eq_false_iff_ne];exact h0
      have HE : Hid (outsS b m p6 = (es.map OutR.pl,(a,e0))):=Lib.hid (by rw [HIr.out,outsS_err b _ h0];simp)
      clear HIr h0
      go_wp2_with fail
      go_meet
      exact ⟨rfl,vo,es,by rw [HE.out];exact Gr,Lib.hid (by rw [HE.out]),by rw [HDL.out];omega⟩
     subst h0
     have d1 : (i : Int) < m:=by omega
     have HIn : Hid (outsS b m p6 = ((es ++ [(outS b (a,0)).1]).map OutR.pl ++ (outsS b (m - (i + 1)) (outS b (a,0)).2).1,(outsS b (m - (i + 1)) (outS b (a,0)).2).2)):=Lib.hid (by
      rw [HIr.out,show m - i = (m - (i + 1)) + 1 by omega]
      show _ = _
      rw [outsS,if_pos rfl]
      simp [OutR.pl,outS])
     have KR:=Lib.hid (KW.out _ _ _ _ _ _ _ Gr.out)
     have PBR:=Lib.hid pb
     have KRB : Hid (∀ y,KeepB S wr y → Keep w y):=Lib.hid fun y k => k.keep KR.out fun j q => by have:=HWS.out;omega
     have PRB : Hid (∀ y,KeepB S wr y → y.cell? ⟨PB,0,none⟩ = some (.pointer (some ⟨S,0,none⟩))):=Lib.hid fun y k => k.cell PBR.out (by omega)
     clear HIr PBR
     go_upto_region 22 with fail
     obtain ⟨w5,hw5⟩ : ∃ w5,w5 = wr.alloc (.cells #[.int .u64 0,.slice none 0 0] 101):=⟨_,rfl⟩
     have HX5 : Hid (Blk w5 wr.heap.size 101 [.int .u64 0,.slice none 0 0]):=by rw [hw5];exact Lib.hid (Blk.new wr 101 [.int .u64 0,.slice none 0 0])
     have HK5 : Hid (KeepB S wr w5):=by rw [hw5];exact Lib.hid (KeepX.of (keep_new _ _))
     have HS5 : Hid (Blk w5 S 145 (srcL A L c (a,0))):=by rw [hw5];exact Lib.hid (Gr.out.hs.alloc _)
     have hgS : wr.heap.size ≠ S:=by have:=Gr.out.hs.lt;omega
     rw [← hw5]
     clear hw5 pb s2 KR
     obtain ⟨gi,hgi⟩ : ∃ g,wr.heap.size = g:=⟨_,rfl⟩
     have HGI:=Lib.hid hgi
     have hgr : wr.heap.size ≤ gi:=Nat.le_of_eq hgi
     rw [hgi] at HX5 hgS
     simp only [hgi]
     clear hgi
     -- the value
     obtain ⟨V1,hV1⟩ : ∃ V,nmV b 8 (a,0) = V:=⟨_,rfl⟩
     have hV64 : V1 < 2 ^ 64:=by rw [← hV1];exact numN_lt8 _ _
     have N1:=NUM.out PB S 8 (a,0) w5 (KRB.out _ HK5.out) HWS.out (PRB.out _ HK5.out) HS5.out hpl (by omega) (by omega)
     obtain ⟨q2,hq2⟩ : ∃ p,tkP b 8 (a,0) = p:=⟨_,rfl⟩
     have hq2l : q2.1 ≤ L:=by rw [← hq2,← HLL.out];exact tkP_le (by rw [HLL.out];exact hpl)
     rw [hV1,hq2] at N1
     have N1:=Lib.hid N1
     have HV1:=Lib.hid hV1;have HQ2:=Lib.hid hq2
     clear hV1 hq2
     go_upto_region 23 with (go_at_call 75;refine N1.out.mono ?_;rintro e w9 ⟨rfl,hb9,hk9⟩;have HX9:=Lib.hid (hk9.blk HX5.out hgS);have HK9 : Hid (KeepB S wr w9):=Lib.hid (HK5.out.trans hk9 fun _ _ q => q);have HS9:=Lib.hid hb9;have x32:=HX9.out.cell 0;have f32:=HX9.out.frozen 0;try simp only [List.getElem?_cons_zero] at x32;clear hb9 hk9)
     obtain ⟨w10,hw10⟩ : ∃ w10,w10 = w9.setCell ⟨gi,0,none⟩ (.int .u64 V1):=⟨_,rfl⟩
     have HX10 : Hid (Blk w10 gi 101 [.int .u64 V1,.slice none 0 0]):=by rw [hw10];exact Lib.hid (HX9.out.set_ 0 _)
     have HS10 : Hid (Blk w10 S 145 (srcL A L c q2)):=by rw [hw10];exact Lib.hid (HS9.out.far (fun q => hgS q.symm) _)
     have HK10 : Hid (KeepB S wr w10):=by rw [hw10];exact Lib.hid (HK9.out.new (grown_set (grown_refl w9 _)) hgr)
     rw [← hw10]
     clear hw10 x32 f32 HX5 HS5 HK5 HX9 HS9 HK9 N1
     -- the script
     have S1:=SCR.out S q2 w10 (KRB.out _ HK10.out) HWS.out HS10.out hq2l
     obtain ⟨sc,hsc⟩ : ∃ s,scV b q2 = s:=⟨_,rfl⟩
     obtain ⟨q3,hq3⟩ : ∃ p,scP b q2 = p:=⟨_,rfl⟩
     have hq3l : q3.1 ≤ L:=by rw [← hq3,← HLL.out];exact scP_le (by rw [HLL.out];exact hq2l)
     rw [hsc,hq3] at S1
     have S1:=Lib.hid S1
     have HSC:=Lib.hid hsc;have HQ3:=Lib.hid hq3
     have pb:=PRB.out _ HK10.out
     have hg10:=HX10.out.lt
     clear hsc hq3
     go_upto_region 24 with (go_at_call 78;refine S1.out.mono ?_;rintro e w11 ⟨v11,rfl,hown11,hb11,hk11⟩;obtain ⟨Av,cv,rfl,hcv1,hcv2,-⟩:=own_form hown11;have HX11:=Lib.hid (hk11.blk HX10.out hgS);have HK11 : Hid (KeepB S wr w11):=Lib.hid (HK10.out.trans hk11 fun _ _ q => q);have HS11:=Lib.hid hb11;have OW11:=Lib.hid hown11;have x33:=HX11.out.cell 1;have f33:=HX11.out.frozen 1;try simp only [List.getElem?_cons_succ,List.getElem?_cons_zero] at x33;clear hb11 hk11 hown11)
     obtain ⟨w14,hw14⟩ : ∃ w14,w14 = w11.setCell ⟨gi,1,none⟩ (.slice Av sc.length cv):=⟨_,rfl⟩
     have HX14 : Hid (Blk w14 gi 101 [.int .u64 V1,.slice Av sc.length cv]):=by rw [hw14];exact Lib.hid (HX11.out.set_ 1 _)
     have HS14 : Hid (Blk w14 S 145 (srcL A L c q3)):=by rw [hw14];exact Lib.hid (HS11.out.far (fun q => hgS q.symm) _)
     have HK14 : Hid (KeepB S wr w14):=by rw [hw14];exact Lib.hid (HK11.out.new (grown_set (grown_refl w11 _)) hgr)
     have OW14 : Hid (w14.ownsRow w10.heap.size 5 1 (.slice Av sc.length cv) sc.length (sc.map u8v)):=by rw [hw14];exact Lib.hid (ownsRow_setCell_below OW11.out (a:=⟨gi,1,none⟩) hg10 _)
     rw [← hw14]
     clear hw14 x33 f33 HX10 HS10 HK10 HX11 HS11 HK11 OW11 S1 pb
     obtain ⟨B10,hB10⟩ : ∃ k,w10.heap.size = k:=⟨_,rfl⟩
     rw [hB10] at OW14 hg10
     clear hB10
     have G14:=Lib.hid (Gr.out.read HS14.out HK14.out)
     obtain ⟨x4,hx4⟩ : ∃ x : OutR,(⟨V1,Av,sc,cv⟩ : OutR) = x:=⟨_,rfl⟩
     have HX4 : Hid (x4.pl = (outS b (a,0)).1∧(outS b (a,0)).2 = q3):=Lib.hid (by
      rw [← hx4]
      unfold outS OutR.pl
      simp only [HQ2.out,HQ3.out,HV1.out,HSC.out,and_self])
     have HXC : Hid (x4.val < 2 ^ 64∧(x4.sc.length ≤ x4.cap∧x4.cap ≤ maxLen)∧RdN (GX S T w0.heap.size vi vo) w14 x4.A (x4.sc.map u8v)):=Lib.hid (by
      rw [← hx4]
      refine ⟨hV64,⟨hcv1,hcv2⟩,RdN.of_own OW14.out fun g hg q => ?_⟩
      have hz1:=Gr.out.hs.lt;have hz2:=Gr.out.ht.lt;have hz3:=HGI.out
      have hz4:=Gr.out.size
      rcases q with q | q | q | q | q
      ·omega
      ·omega
      ·have:=(Gr.out.iS g q).2;omega
      ·have:=(Gr.out.oS g q).2;omega
      ·omega)
     have HXL : Hid ([.int .u64 V1,.slice Av sc.length cv] = x4.cells):=Lib.hid (by rw [← hx4];rfl)
     clear hx4 HQ2 HQ3 HV1 HSC OW14 HS14 hcv1 hcv2
     have x0:=HX14.out.cell 0;have x1:=HX14.out.cell 1
     have t1:=G14.out.ht.cell 2
     try simp only [List.getElem?_cons_succ,List.getElem?_cons_zero] at t1 x0 x1
     have hsz14:=G14.out.size
     obtain ⟨Avi,cvi,rfl,-,-,-⟩:=own_form G14.out.oo
     have hdl1 : es.length ≤ 1000:=by have:=HDL.out;omega
     go_wp2_with (at_builtin;refine wpList_app outT (by rfl) _ _ (by rfl) w0.heap.size _ es.length _ (by rfl) (G14.out.oo.alloc _) _ 1 1 [.int .u64 V1,.slice Av sc.length cv] (by rfl) (by rfl) (Rd.new _ _ _) (by simp [Value.oneCell']) (by omega) (by unfold maxLen;omega) (by simp;omega) ?_;intro v15 w15 own15 hg15 hat15;obtain ⟨Aw,cw,rfl,-,-,-⟩:=own_form own15;have HT15:=(G14.out.ht.alloc (.cells #[.int .u64 V1,.slice Av sc.length cv] 101)).grown hg15 (fun q => absurd (G14.out.oS T q).1 (by have:=G14.out.st.2.2.1;omega));have t15:=HT15.cell 2;have f15:=HT15.frozen 2;simp only [List.getElem?_cons_succ,List.getElem?_cons_zero] at t15;have Own15:=Lib.hid own15;have Gg15:=Lib.hid hg15;have At15:=Lib.hid hat15;clear own15 hg15 hat15 HT15)
     have GN : Hid (GSt S T w0.heap.size w0 (w15.setCell ⟨T,2,none⟩ (.slice Aw (es.length + 1) cw)) (srcL A L c q3) ver vi ds (.slice Aw (es.length + 1) cw) (es ++ [x4])):=Lib.hid (by
      have o2:=Own15.out
      rw [HXL.out] at o2
      exact (G14.out.keep (keep_new _ _)).outp o2 Gg15.out (At15.out.imp id fun e => ⟨_,e,Nat.le_refl _⟩) ⟨HXC.out.1,HXC.out.2.1,HXC.out.2.2.kx (Y:=fun _ => False) (KeepX.of (keep_new _ _)) (fun _ _ q => q.elim) (fun _ _ q => q)⟩)
     have HIe : Hid (outsS b m p6 = ((es ++ [x4]).map OutR.pl ++ (outsS b (m - (i + 1)) q3).1,(outsS b (m - (i + 1)) q3).2)):=Lib.hid (by
      rw [HIn.out,HX4.out.2]
      have e : OutR.pl (outS b (a,0)).1 = x4.pl:=by rw [HX4.out.1];rfl
      simp [e])
     clear Own15 Gg15 At15 HXC HXL t15 f15 t1 x0 x1 HIn HX4
     go_roundw
     case rel => exact ⟨i + 1,q3,_,es ++ [x4],by omega,by go_num,by rw [List.length_append,HDL.out];rfl,hq3l,GN,HIe⟩
     case measure => simp [intOf];omega
   case rest =>
    obtain ⟨rfl,vo,es,G7,HES,hel⟩:=hcut
    clear HO0 G6
    have hO7 : (outsS b m p6).2.1 ≤ L:=by rw [← HLL.out];exact outsS_le m (by rw [HLL.out];exact hl6)
    generalize outsS b m p6 = OR at *
    obtain ⟨os,p7⟩:=OR
    simp only at G7 HES hO7 HRR
    obtain ⟨V7,hV7⟩ : ∃ V,nmV b 4 p7 = V:=⟨_,rfl⟩
    obtain ⟨lock,hlk⟩ : ∃ v : UInt32,v = UInt32.ofNat V7:=⟨_,rfl⟩
    have hvv : (V7 : Int) % 4294967296 = (lock.toNat : Int):=by rw [hlk,UInt32.toNat_ofNat'];omega
    have hvw : IntKind.u32.wrap (V7 : Int) = (lock.toNat : Int):=by rw [IntKind.wrap_u32];exact hvv
    have N7:=NUM.out PB S 4 p7 _ (KW.out _ _ _ _ _ _ _ G7.out) HWS.out (PBC.out _ _ _ _ _ _ _ G7.out) G7.out.hs hO7 (by omega) (by omega)
    obtain ⟨p8,hp8⟩ : ∃ p,tkP b 4 p7 = p:=⟨_,rfl⟩
    rw [hV7,hp8] at N7 HRR
    rw [← hlk] at HRR
    have N7:=Lib.hid N7
    have pb:=PBC.out _ _ _ _ _ _ _ G7.out
    clear hp8 hlk hV7
    go_upto_region 26 with (go_at_call 75;refine N7.out.mono ?_;rintro e w1 ⟨rfl,hb1,hk1⟩;have G8:=Lib.hid (G7.out.read hb1 hk1);have t3:=G8.out.ht.cell 3;have f3:=G8.out.ht.frozen 3;try simp only [List.getElem?_cons_succ,List.getElem?_cons_zero] at t3;clear hb1 hk1)
    obtain ⟨iA,ic,rfl,hic1,hic2,-⟩:=own_form G8.out.oi
    obtain ⟨oA,oc,rfl,hoc1,hoc2,-⟩:=own_form G8.out.oo
    obtain ⟨w9,hw9⟩ : ∃ w9,w9 = w1.setCell ⟨T,3,none⟩ (.int .u32 lock.toNat):=⟨_,rfl⟩
    have HT9 : Hid (Blk w9 T 47 [u32v ver,.slice iA ds.length ic,.slice oA es.length oc,u32v lock]):=by rw [hw9];exact Lib.hid (G8.out.ht.set_ 3 _)
    have HS9 : Hid (Blk w9 S 145 (srcL A L c p8)):=by rw [hw9];exact Lib.hid (G8.out.hs.far (by simp <;> omega) _)
    have HZ8 : Hid (Blk w1 r 47 [.int .u32 0,.slice none 0 0,.slice none 0 0,.int .u32 0]):=Lib.hid (HZ0.out.kx G8.out.kx (by rintro (q | q) <;> omega))
    have HZ9 : Hid (Blk w9 r 47 [.int .u32 0,.slice none 0 0,.slice none 0 0,.int .u32 0]):=by rw [hw9];exact Lib.hid (HZ8.out.far (by simp <;> omega) _)
    have HK9 : Hid (KeepX (fun k => k = T ∨ k = r) w1 w9):=by rw [hw9];exact Lib.hid ((KeepB.set (KeepX.of (Below.refl _ _)) 3 _ : KeepX (fun k => k = T) _ _).wide fun _ q => .inl q)
    have HPB : Hid (w9.cell? ⟨PB,0,none⟩ = some (.pointer (some ⟨S,0,none⟩))):=Lib.hid (HK9.out.cell (PBC.out _ _ _ _ _ _ _ G8.out) (by rintro (q | q) <;> omega))
    have HK1 : Hid (Keep w w1):=Lib.hid (KW.out _ _ _ _ _ _ _ G8.out)
    rw [← hw9]
    clear hw9 t3 f3 pb N7 NUM CNT SCR TAK KW PBC HZ0 hvv hvw
    obtain ⟨a8,e8⟩:=p8
    have pb:=HPB.out
    have s1:=HS9.out.cell 1;have s2:=HS9.out.cell 2
    try simp only [List.getElem?_cons_succ,List.getElem?_cons_zero] at s1 s2
    have hrT : r ≠ T:=by omega
    have hrS : r ≠ S:=by omega
    have hrP : r ≠ PB:=by omega
    by_cases h8 : e8 = 0
    ·subst h8
     have d1 : ((0 : Int) != 0) = false:=rfl
     have hR:=HRR.out
     rw [if_pos rfl] at hR
     simp only at hR
     obtain ⟨R1,R2,R3⟩:=R
     obtain ⟨hR1,hR2,hR3⟩ : R1 = ⟨ver,none,is,0,none,os,0,lock⟩∧R2 = a8∧R3 = 0:=by cases hR;exact ⟨rfl,rfl,rfl⟩
     subst hR2 hR3
     have HR1:=Lib.hid hR1
     clear hR hR1 HRR
     go_upto_region 28 with fail
     letI iM : G.Mk:=⟨some r⟩
     refine G.wp_region_tree (.take [0,1,2,3,4] (.force [5] (.take [6,7] .done))) [] (by kernel_rfl) (by kernel_rfl) (fun wa ka => ?_)
     have hneT : G.Mk.m ≠ some T:=fun q => hrT (Option.some.inj q)
     have hneS : G.Mk.m ≠ some S:=fun q => hrS (Option.some.inj q)
     have hneP : G.Mk.m ≠ some PB:=fun q => hrP (Option.some.inj q)
     have HTa:=Lib.hid (HT9.out.keep ka);have HSa:=Lib.hid (HS9.out.keep ka);have HZa:=Lib.hid (HZ9.out.keep ka)
     have HKa : Hid (KeepX (fun k => k = T ∨ k = r) w1 wa):=Lib.hid (HK9.out.trans (KeepX.of ka) fun _ _ q => q)
     have b0:=G.aftG_cell (keep_cell ka HPB.out) hneP
     have b1:=G.aftG_cell (HSa.out.cell 1) hneS
     have b2:=G.aftG_cell (HTa.out.cell 0) hneT;have b3:=G.aftG_cell (HTa.out.cell 1) hneT;have b4:=G.aftG_cell (HTa.out.cell 2) hneT;have b5:=G.aftG_cell (HTa.out.cell 3) hneT
     clear ka HT9 HS9 HZ9 HK9 HPB pb s1 s2
     refine G.mt_take wa (G.Gr.refl _) ?_
     simp only [pick_cons,pick_nil,nth_zero,nth_succ]
     repeat (go_big_quiet_step (fail))
     refine wpQuiet_nil (G.mt_force ?_)
     clear b0 b1 b2 b3 b4 b5 hneT hneS hneP
     simp only [pick_cons,pick_nil,nth_zero,nth_succ]
     refine G.fc_step rfl (fun K hK => ?_)
     have z0:=HZa.out.cell 0;have z1:=HZa.out.cell 1;have z2:=HZa.out.cell 2;have z3:=HZa.out.cell 3
     have y0:=HZa.out.frozen 0;have y1:=HZa.out.frozen 1;have y2:=HZa.out.frozen 2;have y3:=HZa.out.frozen 3
     simp only [List.getElem?_cons_succ,List.getElem?_cons_zero] at z0 z1 z2 z3
     go_simp
     refine hK _ _ (show G.Gr wa _ from grown_set (grown_set (grown_set (grown_set (grown_refl wa _))))) ?_
     clear hK K z0 z1 z2 z3 y0 y1 y2 y3
     obtain ⟨wb,hwb⟩ : ∃ wb,wb = (((wa.setCell ⟨r,0,none⟩ (u32v ver)).setCell ⟨r,1,none⟩ (.slice iA ds.length ic)).setCell ⟨r,2,none⟩ (.slice oA es.length oc)).setCell ⟨r,3,none⟩ (u32v lock):=⟨_,rfl⟩
     have HBB : Hid (Blk wb r 47 [u32v ver,.slice iA ds.length ic,.slice oA es.length oc,u32v lock]):=by rw [hwb];exact Lib.hid ((((HZa.out.set_ 0 _).set_ 1 _).set_ 2 _).set_ 3 _)
     have HGB : Hid (wa.grownBy wb (some r)):=by rw [hwb];exact Lib.hid (grown_set (grown_set (grown_set (grown_set (grown_refl wa _)))))
     rw [← hwb]
     clear hwb
     refine G.fc_nil (G.mt_take _ (G.Gr.refl _) ?_)
     simp only [pick_cons,pick_nil,nth_zero,nth_succ]
     repeat (go_big_quiet_step (fail))
     refine wpQuiet_nil (G.mt_end ?_)
     clear iM
     go_wp2_with fail
     have HKb : Hid (KeepX (fun k => k = T ∨ k = r) w1 wb):=Lib.hid (HKa.out.grown HGB.out fun j _ q => by cases q;exact .inr rfl)
     exact bodyPost_ret (v:=.tuple #[.agg #[u32v ver,.slice iA ds.length ic,.slice oA es.length oc,u32v lock],iv R2,iv 0]) (results_cell_tmp_tmp Try.results57 _ _ r _ _ _ _ rfl HBB.out Try.underlying47 rfl tx_info) rfl
      ⟨⟨ver,iA,ds,ic,oA,es,oc,lock⟩,rfl,by rw [HR1.out];unfold TxR.pl;simp only [HES.out,HDS.out],⟨(G8.out.tx HZ8.out (by omega) HKb.out ⟨hic1,hic2⟩ ⟨hoc1,hoc2⟩).1,fun W hm => (G8.out.tx HZ8.out (by omega) HKb.out ⟨hic1,hic2⟩ ⟨hoc1,hoc2⟩).2 W ⟨trivial,fun k h1 h2 => hm.2 k (by have:=HWS.out;have:=HRW.out;have:=G8.out.st;omega) h2⟩⟩,HDLI.out,hel,HKb.out.keep HK1.out (fun j q => by have:=HWS.out;have:=HRW.out;rcases q with q | q <;> omega)⟩
    ·have d1 : (e8 != 0) = true:=by rw [bne_iff_ne];exact h8
     have hR:=HRR.out
     rw [if_neg h8] at hR
     subst hR
     clear HRR h8
     go_upto_region 27 with fail
     letI iM : G.Mk:=⟨some r⟩
     refine G.wp_region_tree (.take [0,1,2,3,4] (.force [5] (.take [6,7] .done))) [] (by kernel_rfl) (by kernel_rfl) (fun wa ka => ?_)
     have hneS : G.Mk.m ≠ some S:=fun q => hrS (Option.some.inj q)
     have hneP : G.Mk.m ≠ some PB:=fun q => hrP (Option.some.inj q)
     have HSa:=Lib.hid (HS9.out.keep ka);have HZa:=Lib.hid (HZ9.out.keep ka)
     have HKa : Hid (KeepX (fun k => k = T ∨ k = r) w1 wa):=Lib.hid (HK9.out.trans (KeepX.of ka) fun _ _ q => q)
     have b0:=G.aftG_cell (keep_cell ka HPB.out) hneP
     have b1:=G.aftG_cell (HSa.out.cell 2) hneS
     clear ka HT9 HS9 HZ9 HK9 HPB pb s1 s2
     refine G.mt_take wa (G.Gr.refl _) ?_
     simp only [pick_cons,pick_nil,nth_zero,nth_succ]
     repeat (go_big_quiet_step (fail))
     refine wpQuiet_nil (G.mt_force ?_)
     clear b0 b1 hneS hneP
     simp only [pick_cons,pick_nil,nth_zero,nth_succ]
     refine G.fc_step rfl (fun K hK => ?_)
     have z0:=HZa.out.cell 0;have z1:=HZa.out.cell 1;have z2:=HZa.out.cell 2;have z3:=HZa.out.cell 3
     have y0:=HZa.out.frozen 0;have y1:=HZa.out.frozen 1;have y2:=HZa.out.frozen 2;have y3:=HZa.out.frozen 3
     simp only [List.getElem?_cons_succ,List.getElem?_cons_zero] at z0 z1 z2 z3
     go_simp
     refine hK _ _ (show G.Gr wa _ from grown_set (grown_set (grown_set (grown_set (grown_refl wa _))))) ?_
     clear hK K z0 z1 z2 z3 y0 y1 y2 y3
     obtain ⟨wb,hwb⟩ : ∃ wb,wb = (((wa.setCell ⟨r,0,none⟩ (.int .u32 0)).setCell ⟨r,1,none⟩ (.slice none 0 0)).setCell ⟨r,2,none⟩ (.slice none 0 0)).setCell ⟨r,3,none⟩ (.int .u32 0):=⟨_,rfl⟩
     have HBB : Hid (Blk wb r 47 [.int .u32 0,.slice none 0 0,.slice none 0 0,.int .u32 0]):=by rw [hwb];exact Lib.hid ((((HZa.out.set_ 0 _).set_ 1 _).set_ 2 _).set_ 3 _)
     have HGB : Hid (wa.grownBy wb (some r)):=by rw [hwb];exact Lib.hid (grown_set (grown_set (grown_set (grown_set (grown_refl wa _)))))
     rw [← hwb]
     clear hwb
     refine G.fc_nil (G.mt_take _ (G.Gr.refl _) ?_)
     simp only [pick_cons,pick_nil,nth_zero,nth_succ]
     repeat (go_big_quiet_step (fail))
     refine wpQuiet_nil (G.mt_end ?_)
     clear iM
     go_wp2_with fail
     have HKb : Hid (KeepX (fun k => k = T ∨ k = r) w1 wb):=Lib.hid (HKa.out.grown HGB.out fun j _ q => by cases q;exact .inr rfl)
     exact bodyPost_ret (v:=.tuple #[.agg #[.int .u32 0,.slice none 0 0,.slice none 0 0,.int .u32 0],iv 0,iv e8]) (results_cell_tmp_tmp Try.results57 _ _ r _ _ _ _ rfl HBB.out Try.underlying47 rfl tx_info) rfl
      ⟨txZ,rfl,rfl,⟨txZ_at _,fun W _ => txZ_at W⟩,Nat.zero_le _,Nat.zero_le _,HKb.out.keep HK1.out (fun j q => by have:=HWS.out;have:=HRW.out;rcases q with q | q <;> omega)⟩
end Go.Proofs.Ytbgpgdhndanigaa
/- florinref08's reader. (printed by gen_kf.py) -/
set_option linter.unusedSimpArgs false
set_option linter.unusedVariables false
namespace Go.Proofs.Ytbgpgdhndanigaa
open Go.RowKit
attribute [local go_sem ↓] Go.wp_at_zero Go.wp_at_succ
def flP (code : Int) (p : SP) : SP:=if p.2 = 0 then (p.1,code) else p
set_option maxRecDepth 100000 in
set_option maxHeartbeats 4000000 in
theorem r8fail_any (S : Nat) (A : Option Addr) (b : List UInt8) (c : Nat) (p : SP) (code : Int) (w : World) (hb : Blk w S 157 (srcL A b.length c p)) :
  Calls Try.prog 92 #[.pointer (some ⟨S,0,none⟩),iv code] w (Red S 157 (srcL A b.length c (flP code p)) (.tuple #[]) w):=by
 obtain ⟨a,e0⟩:=p
 unfold srcL flP at *
 have HB:=Lib.hid hb
 have c0:=hb.cell 0;have c1:=hb.cell 1;have c2:=hb.cell 2
 have f1:=hb.frozen 1;have f2:=hb.frozen 2
 try simp only [List.getElem?_cons_succ,List.getElem?_cons_zero] at c0 c1 c2
 clear hb
 simp only
 by_cases h0 : e0 = 0
 ·rw [if_pos h0]
  have d1 : (e0 == 0) = true:=by rw [h0];rfl
  go_enter Try.func92,Try.ntmps92
  go_wp2
  exact bodyPost_end (v:=.tuple #[]) (by simp [results,Try.results92]) rfl ⟨rfl,HB.out.set_ 2 _,KeepB.set (KeepX.of (Below.refl _ _)) 2 _⟩
 ·rw [if_neg h0]
  have d1 : (e0 == 0) = false:=by rw [beq_eq_false_iff_ne];exact h0
  go_enter Try.func92,Try.ntmps92
  go_wp2
  exact bodyPost_end (v:=.tuple #[]) (by simp [results,Try.results92]) rfl ⟨rfl,HB.out,KeepX.of (Below.refl _ _)⟩
theorem tkP_no {b : List UInt8} {m : Nat} {p : SP} (h : ¬ (p.2 = 0∧p.1 + m ≤ b.length)) : tkP b m p = flP 1 p∧tkB b m p = []:=by
 unfold tkP flP tkB
 refine ⟨?_,if_neg h⟩
 split
 ·rename_i q;rw [if_neg (fun e => h ⟨q,e⟩)]
 ·rfl
theorem tkP_ok {b : List UInt8} {m : Nat} {p : SP} (h : p.2 = 0∧p.1 + m ≤ b.length) : tkP b m p = (p.1 + m,0)∧tkB b m p = (b.drop p.1).take m:=by
 unfold tkP tkB
 exact ⟨by rw [if_pos h.1,if_pos h.2],if_pos h⟩
theorem nmV_no {b : List UInt8} {m : Nat} {p : SP} (h : ¬ (p.2 = 0∧p.1 + m ≤ b.length)) : nmV b m p = 0:=by unfold nmV;rw [(tkP_no h).2];rfl
theorem nmV_ok {b : List UInt8} {m : Nat} {p : SP} (h : p.2 = 0∧p.1 + m ≤ b.length) : nmV b m p = numN (b.drop p.1) m:=by
 have hl : ((b.drop p.1).take m).length = m:=by rw [List.length_take,List.length_drop];omega
 unfold nmV
 rw [(tkP_ok h).2,hl,← numF_take (b.drop p.1) m (by rw [List.length_drop];omega)]
 have:=numF_take ((b.drop p.1).take m) m (by omega)
 rw [← this,List.take_of_length_le (by omega)]
set_option maxRecDepth 100000 in
set_option maxHeartbeats 4000000 in
theorem r8num_any (S : Nat) (A : Option Addr) (b : List UInt8) (c : Nat) (p : SP) (m : Nat) (w : World) (hb : Blk w S 157 (srcL A b.length c p)) (hp : p.1 ≤ b.length) (hc : b.length ≤ c) (hl : b.length ≤ 1000000000) (hcm : c ≤ maxLen) (hr : RdX (some S) w A (b.map u8v)) (hm : m ≤ 8) (hm0 : 0 < m) :
  Calls Try.prog 90 #[.pointer (some ⟨S,0,none⟩),iv m] w (Red S 157 (srcL A b.length c (tkP b m p)) (u64v (nmV b m p)) w):=by
 have FL : Hid (∀ code y,Blk y S 157 (srcL A b.length c p) → Calls Try.prog 92 #[.pointer (some ⟨S,0,none⟩),iv code] y (Red S 157 (srcL A b.length c (flP code p)) (.tuple #[]) y)):=Lib.hid fun code y h => r8fail_any S A b c p code y h
 obtain ⟨a,e0⟩:=p
 have HB:=Lib.hid hb;have HR:=Lib.hid hr
 have KB : Hid (KeepB S w w):=Lib.hid (KeepX.of (Below.refl _ _))
 unfold maxLen at hcm
 simp only at hp
 have hk8 : (m : Int) ≤ 8:=by omega
 by_cases hok : e0 = 0∧a + m ≤ b.length
 case neg =>
  have e1:=(tkP_no (b:=b) (m:=m) (p:=(a,e0)) hok).1
  have e2:=nmV_no (b:=b) (m:=m) (p:=(a,e0)) hok
  rw [e1,e2]
  clear e1 e2
  generalize b.length = L at *
  have hw1 : IntKind.i64.wrap ((L : Int) - a) = (L : Int) - a:=IntWalk.i64_in _ (by omega)
  go_enter Try.func90,Try.ntmps90
  by_cases h0 : e0 = 0
  ·have d1 : (e0 != 0) = false:=by rw [h0];rfl
   have d2 : (L : Int) - a < m:=by omega
   clear hok
   go_upto_region 1 with fail
   refine wp_region_tree (.take [0,1,2,3,4,5,6,7,8,9,10,11,12,13,14,15,16,17,18] .done) [] (by kernel_rfl) (by kernel_rfl) (fun w3 k3 => ?_)
   have HB3:=Lib.hid (HB.out.keep k3);have KB3 : Hid (KeepB S w w3):=Lib.hid (KB.out.trans (KeepX.of k3) (fun _ _ q => q))
   clear k3
   have a0:=aft_cell (HB3.out.cell 0);have a1:=aft_cell (HB3.out.cell 1);have a2:=aft_cell (HB3.out.cell 2)
   try simp only [List.getElem?_cons_succ,List.getElem?_cons_zero] at  a0 a1 a2
   refine mt_take w3 (Below.refl _ _) ?_
   simp only [pick_cons,pick_nil,nth_zero,nth_succ]
   repeat (go_big_quiet_step (fail))
   refine wpQuiet_nil (mt_end ?_)
   clear a0 a1 a2
   go_wp2_with fail
   refine (FL.out 1 _ HB3.out).mono ?_
   rintro e w4 ⟨rfl,hb4,hk4⟩
   have HB4:=Lib.hid hb4;have KB4 : Hid (KeepB S w w4):=Lib.hid (KB3.out.trans hk4 (fun _ _ q => q))
   clear hb4 hk4 FL
   go_wp2
   exact bodyPost_ret (v:=.int .u64 0) (by simp [results,Try.results90]) rfl ⟨rfl,HB4.out,KB4.out⟩
  ·have d1 : (e0 != 0) = true:=by rw [bne_iff_ne];exact h0
   clear hok
   go_upto_region 1 with fail
   refine wp_region_tree (.take [0,1,2,3,4,5,6,7,8,9,10,11,12,13,14,15,16,17,18] .done) [] (by kernel_rfl) (by kernel_rfl) (fun w3 k3 => ?_)
   have HB3:=Lib.hid (HB.out.keep k3);have KB3 : Hid (KeepB S w w3):=Lib.hid (KB.out.trans (KeepX.of k3) (fun _ _ q => q))
   clear k3
   have a0:=aft_cell (HB3.out.cell 0);have a1:=aft_cell (HB3.out.cell 1);have a2:=aft_cell (HB3.out.cell 2)
   try simp only [List.getElem?_cons_succ,List.getElem?_cons_zero] at  a0 a1 a2
   refine mt_take w3 (Below.refl _ _) ?_
   simp only [pick_cons,pick_nil,nth_zero,nth_succ]
   repeat (go_big_quiet_step (fail))
   refine wpQuiet_nil (mt_end ?_)
   clear a0 a1 a2
   go_wp2_with fail
   refine (FL.out 1 _ HB3.out).mono ?_
   rintro e w4 ⟨rfl,hb4,hk4⟩
   have HB4:=Lib.hid hb4;have KB4 : Hid (KeepB S w w4):=Lib.hid (KB3.out.trans hk4 (fun _ _ q => q))
   clear hb4 hk4 FL
   go_wp2
   exact bodyPost_ret (v:=.int .u64 0) (by simp [results,Try.results90]) rfl ⟨rfl,HB4.out,KB4.out⟩
 have e1:=(tkP_ok (b:=b) (m:=m) (p:=(a,e0)) hok).1
 have e2:=nmV_ok (b:=b) (m:=m) (p:=(a,e0)) hok
 simp only at e1 e2
 rw [e1,e2]
 clear e1 e2
 obtain ⟨rfl,hlt⟩:=hok
 obtain ⟨g,off,rfl,hgS,hcc⟩ : ∃ g off,A = some ⟨g,off,none⟩∧S ≠ g∧∀ j,j < m → w.cell? ⟨g,off + (a + j),none⟩ = some (u8v ((b.drop a).getD j 0)):=by
  rcases HR.out with q | ⟨g,off,q1,q2,q3⟩
  ·have : b = []:=by simpa using q
   rw [this] at hlt;simp at hlt;omega
  ·refine ⟨g,off,q1,fun q => q2 (by rw [q]),fun j hj => ?_⟩
   rw [q3 (a + j) (by rw [List.length_map];omega)]
   simp [List.getD_eq_getElem?_getD,List.getElem?_drop,List.getElem?_eq_getElem (show a + j < b.length by omega)]
 have HC:=Lib.hid hcc
 have HND : Hid (∀ k,k < m → numD (b.drop a) m k = numD (b.drop a) m (k + 1) * 256 + ((b.drop a).getD k 0).toNat∧numD (b.drop a) m (k + 1) < 2 ^ 56):=Lib.hid fun k h2 => ⟨numD_step _ m k (by rw [List.length_drop];omega) h2,numD_lt _ m (k + 1) hm (by omega)⟩
 have HN0 : Hid (numD (b.drop a) m 0 = numN (b.drop a) m):=Lib.hid (numD_all _ m (by rw [List.length_drop];omega))
 have HNE : Hid (numD (b.drop a) m m = 0):=Lib.hid (numD_end _ m)
 generalize numN (b.drop a) m = NN at *
 generalize b.drop a = t at *
 obtain ⟨tt,htt⟩ : ∃ f : Nat → UInt8,(fun k => t.getD k 0) = f:=⟨_,rfl⟩
 have htt' : ∀ k,t.getD k 0 = tt k:=fun k => by rw [← htt]
 simp only [htt'] at HC HND
 obtain ⟨nd,hnd⟩ : ∃ f : Nat → Nat,(fun k => numD t m k) = f:=⟨_,rfl⟩
 have hnd' : ∀ k,numD t m k = nd k:=fun k => by rw [← hnd]
 simp only [hnd'] at HND HN0 HNE
 clear htt htt' hnd hnd' t hcc HR hr hb
 generalize b.length = L at *
 have hw1 : IntKind.i64.wrap ((L : Int) - a) = (L : Int) - a:=IntWalk.i64_in _ (by omega)
 have d1 : ((0 : Int) != 0) = false:=rfl
 have d2 : ¬ ((L : Int) - a < m):=by omega
 clear FL
 go_enter Try.func90,Try.ntmps90
 go_upto_region 1 with fail
 refine wp_region_tree (.take [0,1,2,3,4,5,6,7,8,9,10,11,12,13,14,15,16,17,18] .done) [] (by kernel_rfl) (by kernel_rfl) (fun w3 k3 => ?_)
 have HB3:=Lib.hid (HB.out.keep k3);have KB3 : Hid (KeepB S w w3):=Lib.hid (KB.out.trans (KeepX.of k3) (fun _ _ q => q))
 clear k3
 have a0:=aft_cell (HB3.out.cell 0);have a1:=aft_cell (HB3.out.cell 1);have a2:=aft_cell (HB3.out.cell 2)
 try simp only [List.getElem?_cons_succ,List.getElem?_cons_zero] at  a0 a1 a2
 refine mt_take w3 (Below.refl _ _) ?_
 simp only [pick_cons,pick_nil,nth_zero,nth_succ]
 repeat (go_big_quiet_step (fail))
 refine wpQuiet_nil (mt_end ?_)
 clear a0 a1 a2
 clear HB KB
 go_wp2_with fail
 go_loopw [5,6] (fun v x wr => ∃ k : Nat,k ≤ m∧x = .int .i64 ((k : Int) - 1)∧v = .int .u64 (nd k : Nat)∧Hid (Blk wr S 157 (srcL (some ⟨g,off,none⟩) L c (a,0)))∧Hid (KeepB S w wr)) (fun _ x _ => (intOf x + 1).toNat)
 case atStart => exact ⟨m,Nat.le_refl _,rfl,by rw [HNE.out];rfl,HB3,KB3⟩
 case round =>
  obtain ⟨k,hk,rfl,rfl,HBr,KBr⟩:=hrel
  clear HB3 KB3
  by_cases hlt2 : 0 < k
  ·obtain ⟨k,rfl⟩ : ∃ j,k = j + 1:=⟨k - 1,by omega⟩
   have hkk : (((k + 1 : Nat) : Int) - 1) = (k : Int):=by omega
   have c0:=KBr.out.cell (HC.out k (by omega)) (fun q => hgS q.symm)
   obtain ⟨h1,h2⟩:=HND.out k (by omega)
   have hy:=(tt k).toNat_lt
   have hm1 : IntKind.u64.wrap ((nd (k + 1) : Int) * 256) = (nd (k + 1) : Int) * 256:=by rw [IntKind.wrap_u64];omega
   have hm2 : IntKind.u64.wrap ((nd (k + 1) : Int) * 256 + ((tt k).toNat : Int)) = ((nd k : Nat) : Int):=by rw [IntKind.wrap_u64,h1];omega
   have hw9 : IntKind.u64.wrap ((tt k).toNat : Int) = (tt k).toNat:=by rw [IntKind.wrap_u64];omega
   have hwa : IntKind.i64.wrap ((a : Int) + k) = (a : Int) + k:=IntWalk.i64_in _ (by omega)
   have hwk : IntKind.i64.wrap ((k : Int) - 1) = (k : Int) - 1:=IntWalk.i64_in _ (by omega)
   have d2 : (0 : Int) ≤ (k : Int):=by omega
   have d3 : (a : Int) + k < (L : Int):=by omega
   have HNX : Hid (∀ n1,nd k = n1 → n1 = nd k):=Lib.hid fun _ h => h.symm
   clear h1 h2
   generalize nd (k + 1) = n0 at *
   obtain ⟨n1,hn1⟩ : ∃ n1,nd k = n1:=⟨_,rfl⟩
   rw [hn1] at hm2
   replace HNX:=Lib.hid hn1.symm
   clear hn1
   generalize tt k = y at *
   simp only [hkk]
   go_upto_region 8 with fail
   refine wp_region_tree (.take [0,1,2,3,4,5,6,7,8,9,10,11,12,13,14,15,16] .done) [] (by kernel_rfl) (by kernel_rfl) (fun w5 k3 => ?_)
   have HB5:=Lib.hid (HBr.out.keep k3);have KB5 : Hid (KeepB S w w5):=Lib.hid (KBr.out.trans (KeepX.of k3) (fun _ _ q => q))
   have KBx5:=Lib.hid (keep_cell k3 c0)
   clear k3
   have a0:=aft_cell (HB5.out.cell 0);have a1:=aft_cell (HB5.out.cell 1);have a2:=aft_cell (HB5.out.cell 2)
   try simp only [List.getElem?_cons_succ,List.getElem?_cons_zero] at  a0 a1 a2
   have a9:=aft_cell (KBx5.out)
   refine mt_take w5 (Below.refl _ _) ?_
   simp only [pick_cons,pick_nil,nth_zero,nth_succ]
   repeat (go_big_quiet_step (fail))
   refine wpQuiet_nil (mt_end ?_)
   clear a0 a1 a2
   clear a9 KBx5
   go_wp2
   go_roundw
   case rel => exact ⟨k,by omega,rfl,by rw [← HNX.out],HB5,KB5⟩
   case measure => simp [intOf]
  ·obtain rfl : k = 0:=by omega
   have d2 : ¬ (0 : Int) ≤ ((0 : Nat) : Int) - 1:=by omega
   have hwa : IntKind.i64.wrap ((a : Int) + m) = (a : Int) + m:=IntWalk.i64_in _ (by omega)
   rw [HN0.out]
   clear HN0 HND HNE HC
   have c0:=HBr.out.cell 0;have c1:=HBr.out.cell 1;have c2:=HBr.out.cell 2
   have f1:=HBr.out.frozen 1;have f2:=HBr.out.frozen 2
   try simp only [List.getElem?_cons_succ,List.getElem?_cons_zero] at c0 c1 c2
   have HZ:=Lib.hid (HBr.out.set_ 1 (iv ((a : Int) + m)));have KZ : Hid (KeepB S w (wr.setCell ⟨S,1,none⟩ (iv ((a : Int) + m)))):=Lib.hid (KBr.out.set 1 _)
   go_wp2
   exact bodyPost_ret (v:=.int .u64 NN) (by simp [results,Try.results90]) rfl ⟨rfl,HZ.out,KZ.out⟩
end Go.Proofs.Ytbgpgdhndanigaa
/- florinref09's reader. (printed by gen_kf.py) -/
set_option linter.unusedSimpArgs false
set_option linter.unusedVariables false
namespace Go.Proofs.Ytbgpgdhndanigaa
open Go.RowKit
attribute [local go_sem ↓] Go.wp_at_zero Go.wp_at_succ
set_option maxRecDepth 100000 in
set_option maxHeartbeats 4000000 in
theorem r9fail_any (S : Nat) (A : Option Addr) (b : List UInt8) (c : Nat) (p : SP) (code : Int) (w : World) (hb : Blk w S 85 (srcL A b.length c p)) :
  Calls Try.prog 82 #[.pointer (some ⟨S,0,none⟩),iv code] w (Red S 85 (srcL A b.length c (flP code p)) (.tuple #[]) w):=by
 obtain ⟨a,e0⟩:=p
 unfold srcL flP at *
 have HB:=Lib.hid hb
 have c0:=hb.cell 0;have c1:=hb.cell 1;have c2:=hb.cell 2
 have f1:=hb.frozen 1;have f2:=hb.frozen 2
 try simp only [List.getElem?_cons_succ,List.getElem?_cons_zero] at c0 c1 c2
 clear hb
 simp only
 by_cases h0 : e0 = 0
 ·rw [if_pos h0]
  have d1 : (e0 == 0) = true:=by rw [h0];rfl
  go_enter Try.func82,Try.ntmps82
  go_wp2
  exact bodyPost_end (v:=.tuple #[]) (by simp [results,Try.results82]) rfl ⟨rfl,HB.out.set_ 2 _,KeepB.set (KeepX.of (Below.refl _ _)) 2 _⟩
 ·rw [if_neg h0]
  have d1 : (e0 == 0) = false:=by rw [beq_eq_false_iff_ne];exact h0
  go_enter Try.func82,Try.ntmps82
  go_wp2
  exact bodyPost_end (v:=.tuple #[]) (by simp [results,Try.results82]) rfl ⟨rfl,HB.out,KeepX.of (Below.refl _ _)⟩
def hasB (L m : Nat) (p : SP) : Bool:=decide (p.2 = 0∧p.1 + m ≤ L)
def hasP (L m : Nat) (p : SP) : SP:=if p.1 + m ≤ L then p else flP 1 p
theorem hasP_ok {L m : Nat} {p : SP} (h : hasB L m p = true) : hasP L m p = p:=if_pos (of_decide_eq_true h).2
theorem hasP_no {L m : Nat} {p : SP} (h : hasB L m p = false) : hasP L m p = flP 1 p:=by
 have h:=of_decide_eq_false h
 unfold hasP flP
 split
 ·rename_i q;rw [if_neg (fun e => h ⟨e,q⟩)]
 ·rfl
set_option maxRecDepth 100000 in
set_option maxHeartbeats 4000000 in
theorem r9has_any (S : Nat) (A : Option Addr) (b : List UInt8) (c : Nat) (p : SP) (m : Nat) (w : World) (hb : Blk w S 85 (srcL A b.length c p)) (hp : p.1 ≤ b.length) (hl : b.length ≤ 1000000000) (hm : m ≤ 1000000000) :
  Calls Try.prog 79 #[.pointer (some ⟨S,0,none⟩),iv m] w (Red S 85 (srcL A b.length c (hasP b.length m p)) (.bool (hasB b.length m p)) w):=by
 have FL : Hid (∀ code y,Blk y S 85 (srcL A b.length c p) → Calls Try.prog 82 #[.pointer (some ⟨S,0,none⟩),iv code] y (Red S 85 (srcL A b.length c (flP code p)) (.tuple #[]) y)):=Lib.hid fun code y h => r9fail_any S A b c p code y h
 obtain ⟨a,e0⟩:=p
 have HB:=Lib.hid hb
 have KB : Hid (KeepB S w w):=Lib.hid (KeepX.of (Below.refl _ _))
 have HHO : Hid (hasB b.length m (a,e0) = true → hasP b.length m (a,e0) = (a,e0)):=Lib.hid hasP_ok
 have HHN : Hid (hasB b.length m (a,e0) = false → hasP b.length m (a,e0) = flP 1 (a,e0)):=Lib.hid hasP_no
 have HH : Hid (hasB b.length m (a,e0) = decide (e0 = 0∧a + m ≤ b.length)):=Lib.hid rfl
 clear hb
 simp only at hp
 generalize hasP b.length m (a,e0) = P at *
 generalize hasB b.length m (a,e0) = V at *
 generalize b.length = L at *
 have hw1 : IntKind.i64.wrap ((L : Int) - a) = (L : Int) - a:=IntWalk.i64_in _ (by omega)
 go_enter Try.func79,Try.ntmps79
 by_cases h0 : e0 = 0
 ·subst h0
  have d1 : ((0 : Int) != 0) = false:=rfl
  by_cases h1 : a + m ≤ L
  ·have d2 : ¬ ((L : Int) - a < m):=by omega
   obtain rfl : V = true:=HH.out.trans (decide_eq_true ⟨rfl,h1⟩)
   obtain rfl : P = (a,0):=HHO.out rfl
   clear HH HHO HHN FL
   go_upto_region 1 with fail
   refine wp_region_tree (.take [0,1,2,3,4,5,6,7,8,9,10,11,12,13,14,15,16,17,18] .done) [] (by kernel_rfl) (by kernel_rfl) (fun w3 k3 => ?_)
   have HB3:=Lib.hid (HB.out.keep k3);have KB3 : Hid (KeepB S w w3):=Lib.hid (KB.out.trans (KeepX.of k3) (fun _ _ q => q))
   clear k3
   have a0:=aft_cell (HB3.out.cell 0);have a1:=aft_cell (HB3.out.cell 1);have a2:=aft_cell (HB3.out.cell 2)
   try simp only [List.getElem?_cons_succ,List.getElem?_cons_zero] at  a0 a1 a2
   refine mt_take w3 (Below.refl _ _) ?_
   simp only [pick_cons,pick_nil,nth_zero,nth_succ]
   repeat (go_big_quiet_step (fail))
   refine wpQuiet_nil (mt_end ?_)
   clear a0 a1 a2
   go_wp2
   exact bodyPost_ret (v:=.bool true) (by simp [results,Try.results79]) rfl ⟨rfl,HB3.out,KB3.out⟩
  ·have d2 : (L : Int) - a < m:=by omega
   obtain rfl : V = false:=HH.out.trans (decide_eq_false fun q => h1 q.2)
   obtain rfl : P = flP 1 (a,0):=HHN.out rfl
   clear HH HHO HHN
   go_upto_region 1 with fail
   refine wp_region_tree (.take [0,1,2,3,4,5,6,7,8,9,10,11,12,13,14,15,16,17,18] .done) [] (by kernel_rfl) (by kernel_rfl) (fun w3 k3 => ?_)
   have HB3:=Lib.hid (HB.out.keep k3);have KB3 : Hid (KeepB S w w3):=Lib.hid (KB.out.trans (KeepX.of k3) (fun _ _ q => q))
   clear k3
   have a0:=aft_cell (HB3.out.cell 0);have a1:=aft_cell (HB3.out.cell 1);have a2:=aft_cell (HB3.out.cell 2)
   try simp only [List.getElem?_cons_succ,List.getElem?_cons_zero] at  a0 a1 a2
   refine mt_take w3 (Below.refl _ _) ?_
   simp only [pick_cons,pick_nil,nth_zero,nth_succ]
   repeat (go_big_quiet_step (fail))
   refine wpQuiet_nil (mt_end ?_)
   clear a0 a1 a2
   go_wp2_with fail
   refine (FL.out 1 _ HB3.out).mono ?_
   rintro e w4 ⟨rfl,hb4,hk4⟩
   have HB4:=Lib.hid hb4;have KB4 : Hid (KeepB S w w4):=Lib.hid (KB3.out.trans hk4 (fun _ _ q => q))
   clear hb4 hk4 FL
   go_wp2
   exact bodyPost_ret (v:=.bool false) (by simp [results,Try.results79]) rfl ⟨rfl,HB4.out,KB4.out⟩
 ·have d1 : (e0 != 0) = true:=by rw [bne_iff_ne];exact h0
  obtain rfl : V = false:=HH.out.trans (decide_eq_false fun q => h0 q.1)
  obtain rfl : P = flP 1 (a,e0):=HHN.out rfl
  clear HH HHO HHN
  go_upto_region 1 with fail
  refine wp_region_tree (.take [0,1,2,3,4,5,6,7,8,9,10,11,12,13,14,15,16,17,18] .done) [] (by kernel_rfl) (by kernel_rfl) (fun w3 k3 => ?_)
  have HB3:=Lib.hid (HB.out.keep k3);have KB3 : Hid (KeepB S w w3):=Lib.hid (KB.out.trans (KeepX.of k3) (fun _ _ q => q))
  clear k3
  have a0:=aft_cell (HB3.out.cell 0);have a1:=aft_cell (HB3.out.cell 1);have a2:=aft_cell (HB3.out.cell 2)
  try simp only [List.getElem?_cons_succ,List.getElem?_cons_zero] at  a0 a1 a2
  refine mt_take w3 (Below.refl _ _) ?_
  simp only [pick_cons,pick_nil,nth_zero,nth_succ]
  repeat (go_big_quiet_step (fail))
  refine wpQuiet_nil (mt_end ?_)
  clear a0 a1 a2
  go_wp2_with fail
  refine (FL.out 1 _ HB3.out).mono ?_
  rintro e w4 ⟨rfl,hb4,hk4⟩
  have HB4:=Lib.hid hb4;have KB4 : Hid (KeepB S w w4):=Lib.hid (KB3.out.trans hk4 (fun _ _ q => q))
  clear hb4 hk4 FL
  go_wp2
  exact bodyPost_ret (v:=.bool false) (by simp [results,Try.results79]) rfl ⟨rfl,HB4.out,KB4.out⟩
set_option maxRecDepth 100000 in
set_option maxHeartbeats 4000000 in
theorem r9num_any (S : Nat) (A : Option Addr) (b : List UInt8) (c : Nat) (p : SP) (m : Nat) (w : World) (hb : Blk w S 85 (srcL A b.length c p)) (hp : p.1 ≤ b.length) (hc : b.length ≤ c) (hl : b.length ≤ 1000000000) (hcm : c ≤ maxLen) (hr : RdX (some S) w A (b.map u8v)) (hm : m ≤ 8) (hm0 : 0 < m) :
  Calls Try.prog 58 #[.pointer (some ⟨S,0,none⟩),iv m] w (Red S 85 (srcL A b.length c (tkP b m p)) (u64v (nmV b m p)) w):=by
 have HA : Hid (∀ y,Blk y S 85 (srcL A b.length c p) → Calls Try.prog 79 #[.pointer (some ⟨S,0,none⟩),iv m] y (Red S 85 (srcL A b.length c (hasP b.length m p)) (.bool (hasB b.length m p)) y)):=Lib.hid fun y h => r9has_any S A b c p m y h hp hl (by omega)
 obtain ⟨a,e0⟩:=p
 have HB:=Lib.hid hb;have HR:=Lib.hid hr
 have KB : Hid (KeepB S w w):=Lib.hid (KeepX.of (Below.refl _ _))
 unfold maxLen at hcm
 simp only at hp
 have hk8 : (m : Int) ≤ 8:=by omega
 by_cases hok : e0 = 0∧a + m ≤ b.length
 case neg =>
  have e1:=(tkP_no (b:=b) (m:=m) (p:=(a,e0)) hok).1
  have e2:=nmV_no (b:=b) (m:=m) (p:=(a,e0)) hok
  rw [e1,e2]
  have hB : hasB b.length m (a,e0) = false:=decide_eq_false hok
  have hP:=hasP_no hB
  rw [hB,hP] at HA
  clear hB hP e1 e2
  generalize b.length = L at *
  go_enter Try.func58,Try.ntmps58
  go_wp2_with fail
  refine (HA.out _ HB.out).mono ?_
  rintro e w4 ⟨rfl,hb4,hk4⟩
  have HB4:=Lib.hid hb4;have KB4 : Hid (KeepB S w w4):=Lib.hid hk4
  clear hb4 hk4 HA
  go_wp2
  exact bodyPost_ret (v:=.int .u64 0) (by simp [results,Try.results58]) rfl ⟨rfl,HB4.out,KB4.out⟩
 have e1:=(tkP_ok (b:=b) (m:=m) (p:=(a,e0)) hok).1
 have e2:=nmV_ok (b:=b) (m:=m) (p:=(a,e0)) hok
 simp only at e1 e2
 rw [e1,e2]
 clear e1 e2
 obtain ⟨rfl,hlt⟩:=hok
 obtain ⟨g,off,rfl,hgS,hcc⟩ : ∃ g off,A = some ⟨g,off,none⟩∧S ≠ g∧∀ j,j < m → w.cell? ⟨g,off + (a + j),none⟩ = some (u8v ((b.drop a).getD j 0)):=by
  rcases HR.out with q | ⟨g,off,q1,q2,q3⟩
  ·have : b = []:=by simpa using q
   rw [this] at hlt;simp at hlt;omega
  ·refine ⟨g,off,q1,fun q => q2 (by rw [q]),fun j hj => ?_⟩
   rw [q3 (a + j) (by rw [List.length_map];omega)]
   simp [List.getD_eq_getElem?_getD,List.getElem?_drop,List.getElem?_eq_getElem (show a + j < b.length by omega)]
 have HC:=Lib.hid hcc
 have HND : Hid (∀ k,k < m → numD (b.drop a) m k = numD (b.drop a) m (k + 1) * 256 + ((b.drop a).getD k 0).toNat∧numD (b.drop a) m (k + 1) < 2 ^ 56):=Lib.hid fun k h2 => ⟨numD_step _ m k (by rw [List.length_drop];omega) h2,numD_lt _ m (k + 1) hm (by omega)⟩
 have HN0 : Hid (numD (b.drop a) m 0 = numN (b.drop a) m):=Lib.hid (numD_all _ m (by rw [List.length_drop];omega))
 have HNE : Hid (numD (b.drop a) m m = 0):=Lib.hid (numD_end _ m)
 generalize numN (b.drop a) m = NN at *
 generalize b.drop a = t at *
 obtain ⟨tt,htt⟩ : ∃ f : Nat → UInt8,(fun k => t.getD k 0) = f:=⟨_,rfl⟩
 have htt' : ∀ k,t.getD k 0 = tt k:=fun k => by rw [← htt]
 simp only [htt'] at HC HND
 obtain ⟨nd,hnd⟩ : ∃ f : Nat → Nat,(fun k => numD t m k) = f:=⟨_,rfl⟩
 have hnd' : ∀ k,numD t m k = nd k:=fun k => by rw [← hnd]
 simp only [hnd'] at HND HN0 HNE
 clear htt htt' hnd hnd' t hcc HR hr hb
 have hB : hasB b.length m (a,0) = true:=decide_eq_true ⟨rfl,hlt⟩
 have hP:=hasP_ok hB
 rw [hB,hP] at HA
 clear hB hP
 generalize b.length = L at *
 go_enter Try.func58,Try.ntmps58
 go_wp2_with fail
 refine (HA.out _ HB.out).mono ?_
 rintro e w3 ⟨rfl,hb4,hk4⟩
 have HB3:=Lib.hid hb4;have KB3 : Hid (KeepB S w w3):=Lib.hid hk4
 clear hb4 hk4 HA HB KB
 go_wp2_with fail
 go_loopw [5,6] (fun v x wr => ∃ k : Nat,k ≤ m∧x = .int .i64 ((k : Int) - 1)∧v = .int .u64 (nd k : Nat)∧Hid (Blk wr S 85 (srcL (some ⟨g,off,none⟩) L c (a,0)))∧Hid (KeepB S w wr)) (fun _ x _ => (intOf x + 1).toNat)
 case atStart => exact ⟨m,Nat.le_refl _,rfl,by rw [HNE.out];rfl,HB3,KB3⟩
 case round =>
  obtain ⟨k,hk,rfl,rfl,HBr,KBr⟩:=hrel
  clear HB3 KB3
  by_cases hlt2 : 0 < k
  ·obtain ⟨k,rfl⟩ : ∃ j,k = j + 1:=⟨k - 1,by omega⟩
   have hkk : (((k + 1 : Nat) : Int) - 1) = (k : Int):=by omega
   have c0:=KBr.out.cell (HC.out k (by omega)) (fun q => hgS q.symm)
   obtain ⟨h1,h2⟩:=HND.out k (by omega)
   have hy:=(tt k).toNat_lt
   have hm1 : IntKind.u64.wrap ((nd (k + 1) : Int) * 256) = (nd (k + 1) : Int) * 256:=by rw [IntKind.wrap_u64];omega
   have hm2 : IntKind.u64.wrap ((nd (k + 1) : Int) * 256 + ((tt k).toNat : Int)) = ((nd k : Nat) : Int):=by rw [IntKind.wrap_u64,h1];omega
   have hw9 : IntKind.u64.wrap ((tt k).toNat : Int) = (tt k).toNat:=by rw [IntKind.wrap_u64];omega
   have hwa : IntKind.i64.wrap ((a : Int) + k) = (a : Int) + k:=IntWalk.i64_in _ (by omega)
   have hwk : IntKind.i64.wrap ((k : Int) - 1) = (k : Int) - 1:=IntWalk.i64_in _ (by omega)
   have d2 : (0 : Int) ≤ (k : Int):=by omega
   have d3 : (a : Int) + k < (L : Int):=by omega
   have HNX : Hid (∀ n1,nd k = n1 → n1 = nd k):=Lib.hid fun _ h => h.symm
   clear h1 h2
   generalize nd (k + 1) = n0 at *
   obtain ⟨n1,hn1⟩ : ∃ n1,nd k = n1:=⟨_,rfl⟩
   rw [hn1] at hm2
   replace HNX:=Lib.hid hn1.symm
   clear hn1
   generalize tt k = y at *
   simp only [hkk]
   go_upto_region 7 with fail
   refine wp_region_tree (.take [0,1,2,3,4,5,6,7,8,9,10,11,12,13,14,15,16] .done) [] (by kernel_rfl) (by kernel_rfl) (fun w5 k3 => ?_)
   have HB5:=Lib.hid (HBr.out.keep k3);have KB5 : Hid (KeepB S w w5):=Lib.hid (KBr.out.trans (KeepX.of k3) (fun _ _ q => q))
   have KBx5:=Lib.hid (keep_cell k3 c0)
   clear k3
   have a0:=aft_cell (HB5.out.cell 0);have a1:=aft_cell (HB5.out.cell 1);have a2:=aft_cell (HB5.out.cell 2)
   try simp only [List.getElem?_cons_succ,List.getElem?_cons_zero] at  a0 a1 a2
   have a9:=aft_cell (KBx5.out)
   refine mt_take w5 (Below.refl _ _) ?_
   simp only [pick_cons,pick_nil,nth_zero,nth_succ]
   repeat (go_big_quiet_step (fail))
   refine wpQuiet_nil (mt_end ?_)
   clear a0 a1 a2
   clear a9 KBx5
   go_wp2
   go_roundw
   case rel => exact ⟨k,by omega,rfl,by rw [← HNX.out],HB5,KB5⟩
   case measure => simp [intOf]
  ·obtain rfl : k = 0:=by omega
   have d2 : ¬ (0 : Int) ≤ ((0 : Nat) : Int) - 1:=by omega
   have hwa : IntKind.i64.wrap ((a : Int) + m) = (a : Int) + m:=IntWalk.i64_in _ (by omega)
   rw [HN0.out]
   clear HN0 HND HNE HC
   have c0:=HBr.out.cell 0;have c1:=HBr.out.cell 1;have c2:=HBr.out.cell 2
   have f1:=HBr.out.frozen 1;have f2:=HBr.out.frozen 2
   try simp only [List.getElem?_cons_succ,List.getElem?_cons_zero] at c0 c1 c2
   have HZ:=Lib.hid (HBr.out.set_ 1 (iv ((a : Int) + m)));have KZ : Hid (KeepB S w (wr.setCell ⟨S,1,none⟩ (iv ((a : Int) + m)))):=Lib.hid (KBr.out.set 1 _)
   go_wp2
   exact bodyPost_ret (v:=.int .u64 NN) (by simp [results,Try.results58]) rfl ⟨rfl,HZ.out,KZ.out⟩
end Go.Proofs.Ytbgpgdhndanigaa
/- florinref08's reader: hash, count. (printed by gen_kh.py) -/
set_option linter.unusedSimpArgs false
set_option linter.unusedVariables false
namespace Go.Proofs.Ytbgpgdhndanigaa
open Go.RowKit
attribute [local go_sem ↓] Go.wp_at_zero Go.wp_at_succ
def Had (S : Nat) (t : TypeId) (src : List Value) (h : List UInt8) (w : World) (e : Ending) (w' : World) : Prop:=∃ ds,e = .returned (.agg ds)∧HashA h ds∧Blk w' S t src∧KeepB S w w'
def hasZ (k : Nat) (T : List UInt8) : List UInt8:=T.take k ++ z32.drop k
theorem hasZ_len {k : Nat} {T : List UInt8} (h : T.length = 32) (hk : k ≤ 32) : (hasZ k T).length = 32:=by
 unfold hasZ;simp only [List.length_append,List.length_take,List.length_drop,z32_len];omega
theorem hasZ_set {k : Nat} {T : List UInt8} (h : T.length = 32) (hk : k < 32) : ((hasZ k T).map u8v).set k (u8v (T.getD k 0)) = (hasZ (k + 1) T).map u8v:=by
 unfold hasZ;rw [← List.map_set,tk_set T z32 k (by omega) (by rw [z32_len];omega)]
theorem hasZ_all {T : List UInt8} (h : T.length = 32) : hasZ 32 T = T:=by
 unfold hasZ;rw [List.take_of_length_le (by omega),List.drop_of_length_le (by rw [z32_len];omega),List.append_nil]
theorem padH_full {T : List UInt8} (h : T.length = 32) : padH T = T:=by unfold padH;rw [List.drop_of_length_le (by rw [z32_len];omega),List.append_nil]
set_option maxRecDepth 100000 in
set_option maxHeartbeats 8000000 in
theorem r8hash_any (S : Nat) (A : Option Addr) (b : List UInt8) (c : Nat) (p : SP) (w : World) (hb : Blk w S 157 (srcL A b.length c p)) (hp : p.1 ≤ b.length) (hc : b.length ≤ c) (hl : b.length ≤ 1000000000) (hcm : c ≤ maxLen) (hr : RdX (some S) w A (b.map u8v)) :
  Calls Try.prog 93 #[.pointer (some ⟨S,0,none⟩)] w (Had S 157 (srcL A b.length c (tkP b 32 p)) (padH (tkB b 32 p)) w):=by
 have FL : Hid (∀ code y,Blk y S 157 (srcL A b.length c p) → Calls Try.prog 92 #[.pointer (some ⟨S,0,none⟩),iv code] y (Red S 157 (srcL A b.length c (flP code p)) (.tuple #[]) y)):=Lib.hid fun code y h => r8fail_any S A b c p code y h
 obtain ⟨a,e0⟩:=p
 have HB:=Lib.hid hb;have HR:=Lib.hid hr
 have hSw:=hb.lt
 unfold maxLen at hcm
 simp only at hp
 obtain ⟨zs,hz1,hz2,hz3,hz4⟩:=zhash_letter
 have HZ0 : Hid (HashA z32 zs):=Lib.hid (by
  have h:=HashA.of (h:=z32) rfl
  rwa [show z32.map u8v = zs.toList from hz4.symm,Array.toArray_toList] at h)
 have hz5:=HZ0.out.i
 clear hb hr hz4
 by_cases hok : e0 = 0∧a + 32 ≤ b.length
 case neg =>
  obtain ⟨e1,e2⟩:=tkP_no (b:=b) (m:=32) (p:=(a,e0)) hok
  rw [e1,e2]
  clear e1 e2
  go_enter Try.func93,Try.ntmps93
  go_upto_region 2 with fail
  obtain ⟨w1,hw1⟩ : ∃ x,x = (w.alloc (.cells zs 27)).alloc (.cells zs 27):=⟨_,rfl⟩
  have HR1 : Hid (Blk w1 w.heap.size 27 zs.toList):=by rw [hw1];exact Lib.hid ((Blk.new w _ zs.toList).alloc _)
  have HG1 : Hid (Blk w1 (w.heap.size + 1) 27 zs.toList):=by
   rw [hw1]
   have q:=Blk.new (w.alloc (.cells zs 27)) 27 zs.toList
   rw [World.size_alloc] at q
   exact Lib.hid q
  have hk1 : Keep w w1:=by rw [hw1];exact keep_trans (keep_new _ _) (keep_new _ _)
  have HB1:=Lib.hid (HB.out.keep hk1)
  have KB1 : Hid (KeepB S w w1):=Lib.hid (KeepX.of hk1)
  rw [← hw1]
  clear hw1 hk1 HB
  obtain ⟨r,hrr⟩ : ∃ r,w.heap.size = r:=⟨_,rfl⟩
  obtain ⟨G,hG⟩ : ∃ G,r + 1 = G:=⟨_,rfl⟩
  have HRW:=Lib.hid hrr
  rw [hrr] at HR1 hSw;rw [hrr,hG] at HG1
  simp only [hrr,hG]
  have hrG : r < G:=by omega
  clear hrr hG
  generalize b.length = L at *
  have hw1 : IntKind.i64.wrap ((L : Int) - a) = (L : Int) - a:=IntWalk.i64_in _ (by omega)
  by_cases h0 : e0 = 0
  ·have d1 : (e0 != 0) = false:=by rw [h0];rfl
   have d2 : (L : Int) - a < 32:=by omega
   clear hok
   go_upto_region 2 with fail
   refine wp_region_tree (.take [0,1,2,3,4,5,6,7,8,9,10,11,12,13,14,15,16,17] .done) [] (by kernel_rfl) (by kernel_rfl) (fun w3 k3 => ?_)
   have HB3:=Lib.hid (HB1.out.keep k3);have KB3 : Hid (KeepB S w w3):=Lib.hid (KB1.out.trans (KeepX.of k3) (fun _ _ q => q))
   have HR3:=Lib.hid (HR1.out.keep k3)
   have HG3:=Lib.hid (HG1.out.keep k3)
   clear k3
   have a0:=aft_cell (HB3.out.cell 0);have a1:=aft_cell (HB3.out.cell 1);have a2:=aft_cell (HB3.out.cell 2)
   try simp only [List.getElem?_cons_succ,List.getElem?_cons_zero] at  a0 a1 a2
   refine mt_take w3 (Below.refl _ _) ?_
   simp only [pick_cons,pick_nil,nth_zero,nth_succ]
   repeat (go_big_quiet_step (fail))
   refine wpQuiet_nil (mt_end ?_)
   clear a0 a1 a2
   go_wp2_with fail
   refine (FL.out 1 _ HB3.out).mono ?_
   rintro e w4 ⟨rfl,hb4,hk4⟩
   have HB4:=Lib.hid hb4;have KB4 : Hid (KeepB S w w4):=Lib.hid (KB3.out.trans hk4 (fun _ _ q => q));have HK4:=Lib.hid hk4
   clear hb4 hk4 FL
   have HR9:=Lib.hid (HK4.out.blk HR3.out (by omega))
   have HG9:=Lib.hid (HK4.out.blk HG3.out (by omega))
   obtain ⟨w8,hst,hb8,hg8⟩:=run_store_blk (P:=Try.prog) zs.toList HR9.out rfl HZ0.out.o
   have Hb8:=Lib.hid hb8
   have HBz:=Lib.hid (HB4.out.grown hg8 (fun q => by injection q with q;omega));have KBz : Hid (KeepB S w w8):=Lib.hid (KB4.out.new hg8 (by have:=HRW.out;omega))
   clear hb8 hg8
   go_wp2_with ((with_reducible refine load_arr G zs (Eq.trans ?_ rfl) HG9.out _ Try.underlying27 rfl hz5 ?_);rfl)
   have hb8:=Hb8.out
   exact bodyPost_ret (v:=.agg zs) (results_cell_row Try.results93 _ _ r _ _ _ _ rfl hb8 Try.underlying27 rfl (by rw [List.size_toArray,Array.length_toList];exact hz5)) rfl ⟨zs,rfl,HZ0.out,HBz.out,KBz.out⟩
  ·have d1 : (e0 != 0) = true:=by rw [bne_iff_ne];exact h0
   clear hok
   go_upto_region 2 with fail
   refine wp_region_tree (.take [0,1,2,3,4,5,6,7,8,9,10,11,12,13,14,15,16,17] .done) [] (by kernel_rfl) (by kernel_rfl) (fun w3 k3 => ?_)
   have HB3:=Lib.hid (HB1.out.keep k3);have KB3 : Hid (KeepB S w w3):=Lib.hid (KB1.out.trans (KeepX.of k3) (fun _ _ q => q))
   have HR3:=Lib.hid (HR1.out.keep k3)
   have HG3:=Lib.hid (HG1.out.keep k3)
   clear k3
   have a0:=aft_cell (HB3.out.cell 0);have a1:=aft_cell (HB3.out.cell 1);have a2:=aft_cell (HB3.out.cell 2)
   try simp only [List.getElem?_cons_succ,List.getElem?_cons_zero] at  a0 a1 a2
   refine mt_take w3 (Below.refl _ _) ?_
   simp only [pick_cons,pick_nil,nth_zero,nth_succ]
   repeat (go_big_quiet_step (fail))
   refine wpQuiet_nil (mt_end ?_)
   clear a0 a1 a2
   go_wp2_with fail
   refine (FL.out 1 _ HB3.out).mono ?_
   rintro e w4 ⟨rfl,hb4,hk4⟩
   have HB4:=Lib.hid hb4;have KB4 : Hid (KeepB S w w4):=Lib.hid (KB3.out.trans hk4 (fun _ _ q => q));have HK4:=Lib.hid hk4
   clear hb4 hk4 FL
   have HR9:=Lib.hid (HK4.out.blk HR3.out (by omega))
   have HG9:=Lib.hid (HK4.out.blk HG3.out (by omega))
   obtain ⟨w8,hst,hb8,hg8⟩:=run_store_blk (P:=Try.prog) zs.toList HR9.out rfl HZ0.out.o
   have Hb8:=Lib.hid hb8
   have HBz:=Lib.hid (HB4.out.grown hg8 (fun q => by injection q with q;omega));have KBz : Hid (KeepB S w w8):=Lib.hid (KB4.out.new hg8 (by have:=HRW.out;omega))
   clear hb8 hg8
   go_wp2_with ((with_reducible refine load_arr G zs (Eq.trans ?_ rfl) HG9.out _ Try.underlying27 rfl hz5 ?_);rfl)
   have hb8:=Hb8.out
   exact bodyPost_ret (v:=.agg zs) (results_cell_row Try.results93 _ _ r _ _ _ _ rfl hb8 Try.underlying27 rfl (by rw [List.size_toArray,Array.length_toList];exact hz5)) rfl ⟨zs,rfl,HZ0.out,HBz.out,KBz.out⟩
 obtain ⟨e1,e2⟩:=tkP_ok (b:=b) (m:=32) (p:=(a,e0)) hok
 simp only at e1 e2
 have hT32 : ((b.drop a).take 32).length = 32:=by rw [List.length_take,List.length_drop];omega
 rw [e1,e2,padH_full hT32]
 clear e1 e2
 obtain ⟨rfl,hlt⟩:=hok
 go_enter Try.func93,Try.ntmps93
 go_upto_region 2 with fail
 obtain ⟨w1,hw1⟩ : ∃ x,x = (w.alloc (.cells zs 27)).alloc (.cells zs 27):=⟨_,rfl⟩
 have HR1 : Hid (Blk w1 w.heap.size 27 zs.toList):=by rw [hw1];exact Lib.hid ((Blk.new w _ zs.toList).alloc _)
 have HG1 : Hid (Blk w1 (w.heap.size + 1) 27 zs.toList):=by
  rw [hw1]
  have q:=Blk.new (w.alloc (.cells zs 27)) 27 zs.toList
  rw [World.size_alloc] at q
  exact Lib.hid q
 have hk1 : Keep w w1:=by rw [hw1];exact keep_trans (keep_new _ _) (keep_new _ _)
 have HB1:=Lib.hid (HB.out.keep hk1)
 have KB1 : Hid (KeepB S w w1):=Lib.hid (KeepX.of hk1)
 rw [← hw1]
 clear hw1 hk1 HB
 obtain ⟨r,hrr⟩ : ∃ r,w.heap.size = r:=⟨_,rfl⟩
 obtain ⟨G,hG⟩ : ∃ G,r + 1 = G:=⟨_,rfl⟩
 have HRW:=Lib.hid hrr
 rw [hrr] at HR1 hSw;rw [hrr,hG] at HG1
 simp only [hrr,hG]
 have hrG : r < G:=by omega
 clear hrr hG
 have HTG : Hid (∀ k,k < 32 → ((b.drop a).take 32).getD k 0 = b.getD (a + k) 0):=Lib.hid fun k hk => by simp [List.getD_eq_getElem?_getD,List.getElem?_take,hk]
 obtain ⟨g,off,rfl,hgS,hcc⟩ : ∃ g off,A = some ⟨g,off,none⟩∧S ≠ g∧∀ j,j < b.length → w.cell? ⟨g,off + j,none⟩ = some (u8v (b.getD j 0)):=by
  rcases HR.out with q | ⟨g,off,q1,q2,q3⟩
  ·have : b = []:=by simpa using q
   rw [this] at hlt;simp at hlt
  ·refine ⟨g,off,q1,fun q => q2 (by rw [q]),fun j hj => ?_⟩
   rw [q3 j (by rw [List.length_map];omega)]
   simp [List.getD_eq_getElem?_getD,List.getElem?_eq_getElem hj]
 have HC : Hid (∀ k,k < 32 → w.cell? ⟨g,off + (a + k),none⟩ = some (u8v (((b.drop a).take 32).getD k 0))):=Lib.hid fun k hk => by rw [HTG.out k hk];exact hcc (a + k) (by omega)
 have hgr : g < r:=by rw [← HRW.out];exact cell_lt (HC.out 0 (by omega))
 clear hcc HTG HR
 have HSET : Hid (∀ k,k < 32 → _):=Lib.hid fun k (hk : k < 32) => hasZ_set hT32 hk
 have HALL:=Lib.hid (hasZ_all hT32)
 have HLN : Hid (∀ k,k ≤ 32 → _):=Lib.hid fun k (hk : k ≤ 32) => hasZ_len hT32 hk
 obtain ⟨ds,hds⟩ : ∃ ds,HashA ((b.drop a).take 32) ds:=⟨_,HashA.of hT32⟩
 have hdz:=hds.z;have hdn:=hds.n;have hdi:=hds.i
 have HDS:=Lib.hid hds
 replace HG1 : Hid (Blk w1 G 27 ((hasZ 0 ((b.drop a).take 32)).map u8v)):=by
  have:=HG1.out;rw [HZ0.out.l] at this;exact Lib.hid this
 clear hT32 hds
 generalize (b.drop a).take 32 = T at *
 obtain ⟨tt,htt⟩ : ∃ f : Nat → UInt8,(fun k => T.getD k 0) = f:=⟨_,rfl⟩
 have htt' : ∀ k,T.getD k 0 = tt k:=fun k => by rw [← htt]
 simp only [htt'] at HC HSET
 clear htt htt'
 obtain ⟨zz,hzz⟩ : ∃ f : Nat → List UInt8,(fun k => hasZ k T) = f:=⟨_,rfl⟩
 have hzz' : ∀ k,hasZ k T = zz k:=fun k => by rw [← hzz]
 simp only [hzz'] at HSET HALL HLN HG1
 clear hzz hzz'
 clear FL
 generalize b.length = L at *
 have hw1 : IntKind.i64.wrap ((L : Int) - a) = (L : Int) - a:=IntWalk.i64_in _ (by omega)
 have d1 : ((0 : Int) != 0) = false:=rfl
 have d2 : ¬ ((L : Int) - a < 32):=by omega
 go_upto_region 2 with fail
 refine wp_region_tree (.take [0,1,2,3,4,5,6,7,8,9,10,11,12,13,14,15,16,17] .done) [] (by kernel_rfl) (by kernel_rfl) (fun w3 k3 => ?_)
 have HB3:=Lib.hid (HB1.out.keep k3);have KB3 : Hid (KeepB S w w3):=Lib.hid (KB1.out.trans (KeepX.of k3) (fun _ _ q => q))
 have HR3:=Lib.hid (HR1.out.keep k3)
 have HG3:=Lib.hid (HG1.out.keep k3)
 clear k3
 have a0:=aft_cell (HB3.out.cell 0);have a1:=aft_cell (HB3.out.cell 1);have a2:=aft_cell (HB3.out.cell 2)
 try simp only [List.getElem?_cons_succ,List.getElem?_cons_zero] at  a0 a1 a2
 refine mt_take w3 (Below.refl _ _) ?_
 simp only [pick_cons,pick_nil,nth_zero,nth_succ]
 repeat (go_big_quiet_step (fail))
 refine wpQuiet_nil (mt_end ?_)
 clear a0 a1 a2
 clear HB1 KB1 HR1 HG1
 go_wp2_with fail
 go_loopw [4] (fun x wr => ∃ k : Nat,k ≤ 32∧x = .int .i64 k∧Hid (Blk wr S 157 (srcL (some ⟨g,off,none⟩) L c (a,0)))∧Hid (KeepB S w wr)∧Hid (Blk wr r 27 zs.toList)∧Hid (Blk wr G 27 ((zz k).map u8v))) (fun x _ => 32 - (intOf x).toNat)
 case atStart => exact ⟨0,by omega,rfl,HB3,KB3,HR3,HG3⟩
 case round =>
  obtain ⟨k,hk,rfl,HBr,KBr,HRr,HGr⟩:=hrel
  clear HB3 KB3 HR3 HG3
  by_cases hlt2 : k < 32
  ·have c9:=KBr.out.cell (HC.out k hlt2) (fun q => hgS q.symm)
   have hwa : IntKind.i64.wrap ((a : Int) + k) = (a : Int) + k:=IntWalk.i64_in _ (by omega)
   have d3 : (a : Int) + k < (L : Int):=by omega
   have HSk:=Lib.hid (HSET.out k hlt2)
   obtain ⟨o,ho⟩ : ∃ o,((zz k).map u8v)[k]? = some o:=⟨_,List.getElem?_eq_getElem (by rw [List.length_map,HLN.out k (by omega)];omega)⟩
   have HO:=Lib.hid ho
   clear ho
   go_upto_region 8 with fail
   refine wp_region_tree (.take [0,1,2,3,4,5,6,7,8,9,10,11,12,13] .done) [14] (by kernel_rfl) (by kernel_rfl) (fun w5 k3 => ?_)
   have HB5:=Lib.hid (HBr.out.keep k3);have KB5 : Hid (KeepB S w w5):=Lib.hid (KBr.out.trans (KeepX.of k3) (fun _ _ q => q))
   have HR5:=Lib.hid (HRr.out.keep k3)
   have HG5:=Lib.hid (HGr.out.keep k3)
   have KBx5:=Lib.hid (keep_cell k3 c9)
   clear k3
   have a0:=aft_cell (HB5.out.cell 0);have a1:=aft_cell (HB5.out.cell 1);have a2:=aft_cell (HB5.out.cell 2)
   try simp only [List.getElem?_cons_succ,List.getElem?_cons_zero] at  a0 a1 a2
   have a9:=aft_cell (KBx5.out)
   refine mt_take w5 (Below.refl _ _) ?_
   simp only [pick_cons,pick_nil,nth_zero,nth_succ]
   repeat (go_big_quiet_step (fail))
   refine wpQuiet_nil (mt_end ?_)
   clear a0 a1 a2 a9 c9 KBx5
   have r9:=HG5.out.cell k;rw [HO.out] at r9
   have f9:=HG5.out.frozen k
   obtain ⟨w6,hw6⟩ : ∃ x,x = w5.setCell ⟨G,k,none⟩ (u8v (tt k)):=⟨_,rfl⟩
   have HG6 : Hid (Blk w6 G 27 ((zz (k + 1)).map u8v)):=by rw [hw6,← HSk.out];exact Lib.hid (HG5.out.set_ _ _)
   have HGW : w5.grownBy w6 (some G):=by rw [hw6];exact grown_set (grown_refl _ _)
   have HB6:=Lib.hid (HB5.out.grown HGW (fun q => by injection q with q;omega));have HR6:=Lib.hid (HR5.out.grown HGW (fun q => by injection q with q;omega));have KB6 : Hid (KeepB S w w6):=Lib.hid (KB5.out.new HGW (by have:=HRW.out;omega))
   clear HGW HSk HO
   go_wp2_with fail
   rw [← hw6]
   clear hw6 r9 f9
   go_roundw
   case rel => exact ⟨k + 1,by omega,by go_num,HB6,KB6,HR6,HG6⟩
   case measure => simp [intOf];omega
  ·obtain rfl : k = 32:=by omega
   have hwa : IntKind.i64.wrap ((a : Int) + 32) = (a : Int) + 32:=IntWalk.i64_in _ (by omega)
   have hG9:=HGr.out
   rw [HALL.out,← HDS.out.l] at hG9
   have HG9:=Lib.hid hG9
   clear hG9 HGr HSET HLN HC HALL
   have c0:=HBr.out.cell 0;have c1:=HBr.out.cell 1;have c2:=HBr.out.cell 2
   have f1:=HBr.out.frozen 1;have f2:=HBr.out.frozen 2
   try simp only [List.getElem?_cons_succ,List.getElem?_cons_zero] at c0 c1 c2
   obtain ⟨w6,hw6⟩ : ∃ x,x = wr.setCell ⟨S,1,none⟩ (iv ((a : Int) + 32)):=⟨_,rfl⟩
   have HB6 : Hid (Blk w6 S 157 (srcL (some ⟨g,off,none⟩) L c (a + 32,0))):=by rw [hw6];exact Lib.hid (HBr.out.set_ 1 (iv ((a : Int) + 32)))
   have KB6 : Hid (KeepB S w w6):=by rw [hw6];exact Lib.hid (KBr.out.set 1 _)
   have kk : KeepB S wr w6:=by rw [hw6];exact KeepB.set (KeepX.of (Below.refl _ _)) 1 _
   have HR6:=Lib.hid (kk.blk HRr.out (by omega));have HG6:=Lib.hid (kk.blk HG9.out (by omega))
   clear kk HBr KBr HRr HG9
   go_upto_region 10 with fail
   rw [← hw6]
   clear hw6 c0 c1 c2 f1 f2
   obtain ⟨w8,hst,hb8,hg8⟩:=run_store_blk (P:=Try.prog) ds.toList HR6.out (by simp [hz1,hdz]) HDS.out.o
   have Hb8:=Lib.hid hb8
   have HBz:=Lib.hid (HB6.out.grown hg8 (fun q => by injection q with q;omega));have KBz : Hid (KeepB S w w8):=Lib.hid (KB6.out.new hg8 (by have:=HRW.out;omega))
   clear hb8 hg8
   go_wp2_with ((with_reducible refine load_arr G ds (Eq.trans ?_ rfl) HG6.out _ Try.underlying27 rfl hdi ?_);rfl)
   have hb8:=Hb8.out
   exact bodyPost_ret (v:=.agg ds) (results_cell_row Try.results93 _ _ r _ _ _ _ rfl hb8 Try.underlying27 rfl (by rw [List.size_toArray,Array.length_toList];exact hdi)) rfl ⟨ds,rfl,HDS.out,HBz.out,KBz.out⟩
theorem slice_K (A : Option Addr) (N c k : Nat) (h : k ≤ N) (hc : N ≤ c) : ∃ P,(∀ y : World,(Instr.slice 31 (.slice A N c) (some (.int .i64 (k : Int))) none none).run Try.prog y = .ok (.slice P (N - k) (c - k)) y)∧P = if c = k then A else A.map (·.add (k * 1)):=by
 refine ⟨_,fun y => ?_,rfl⟩
 have eb : Try.prog.elem 31 = 5:=by kernel_rfl
 have es : ∀ y : World,(sizeOf 5).run Try.prog y = .ok 1 y:=fun y => by kernel_rfl
 rw [run_slice_l y 31 A N c (by rw [eb];exact Try.underlying31) .i64 (k : Int) (by omega) (by omega),eb,es,Result.andThen_ok,sliced]
 rfl
set_option maxRecDepth 100000 in
set_option maxHeartbeats 8000000 in
theorem r8count_any (S : Nat) (A : Option Addr) (b : List UInt8) (c : Nat) (p : SP) (most : Nat) (w : World) (hb : Blk w S 157 (srcL A b.length c p)) (hp : p.1 ≤ b.length) (hc : b.length ≤ c) (hl : b.length ≤ 1000000000) (hcm : c ≤ maxLen) (hr : RdX (some S) w A (b.map u8v)) (hmo : most ≤ 1000000) :
  Calls Try.prog 91 #[.pointer (some ⟨S,0,none⟩),u64v most] w (Red S 157 (srcL A b.length c (ctP b most p)) (iv (ctV b most p : Nat)) w):=by
 have FL : Hid (∀ code y,Blk y S 157 (srcL A b.length c p) → Calls Try.prog 92 #[.pointer (some ⟨S,0,none⟩),iv code] y (Red S 157 (srcL A b.length c (flP code p)) (.tuple #[]) y)):=Lib.hid fun code y h => r8fail_any S A b c p code y h
 obtain ⟨a,e0⟩:=p
 have HB:=Lib.hid hb;have HR:=Lib.hid hr
 have KB : Hid (KeepB S w w):=Lib.hid (KeepX.of (Below.refl _ _))
 simp only at hp
 obtain ⟨P,hsl,hP⟩:=slice_K A b.length c a hp hc
 have RP : Hid (Rd w P ((b.drop a).map u8v)):=Lib.hid (by
  have q:=Rd.drop (k:=a) (cap:=c) hr.rd (by rw [List.length_map];exact hp) (by rw [List.length_map];exact hc)
  rw [← hP,← List.map_drop] at q
  exact q)
 clear hP
 have BN : Hid (∀ y,Keep w y → Calls Try.prog 88 #[.slice P (b.length - a) (c - a),u64v most] y fun e w' => e = .returned (.tuple #[iv (bndN (b.drop a) most).1,iv (bndN (b.drop a) most).2.1,iv (bndN (b.drop a) most).2.2])∧Keep y w'):=Lib.hid fun y hy => by
  have q:=rbnd_any P (b.drop a) (c - a) most y (by rw [List.length_drop];omega) (RP.out.keep hy)
  rw [List.length_drop] at q;exact q
 have HT : Hid (ctP b most (a,e0) = if e0 = 0 then (a + (bndN (b.drop a) most).2.1,(bndN (b.drop a) most).2.2) else (a,e0)):=Lib.hid rfl
 have HV : Hid (ctV b most (a,e0) = if e0 = 0 then (bndN (b.drop a) most).1 else 0):=Lib.hid rfl
 have hk9:=(bnd_le (b.drop a) most).1
 have HZ : Hid ((bndN (b.drop a) most).2.2 ≠ 0 → (bndN (b.drop a) most).1 = 0∧(bndN (b.drop a) most).2.1 = 0):=Lib.hid fun h => by
  unfold bndN at h ⊢
  split
  ·rename_i q;rw [if_pos q] at h
   split
   ·exact ⟨rfl,rfl⟩
   ·rename_i q2;rw [if_neg q2] at h;exact absurd q h
  ·exact ⟨rfl,rfl⟩
 rw [List.length_drop] at hk9
 generalize ctP b most (a,e0) = PP at *
 generalize ctV b most (a,e0) = V at *
 generalize bndN (b.drop a) most = G at *
 obtain ⟨n,k,e1⟩:=G
 simp only at BN HT HV hk9 HZ
 generalize b.length = L at *
 clear hb hr HR RP
 unfold maxLen at hcm
 have hwk : IntKind.i64.wrap ((a : Int) + k) = (a : Int) + k:=IntWalk.i64_in _ (by omega)
 have c0:=HB.out.cell 0;have c1:=HB.out.cell 1;have c2:=HB.out.cell 2
 have f1:=HB.out.frozen 1;have f2:=HB.out.frozen 2
 try simp only [List.getElem?_cons_succ,List.getElem?_cons_zero] at c0 c1 c2
 by_cases h0 : e0 = 0
 case neg =>
  have d1 : (e0 != 0) = true:=by rw [bne_iff_ne];exact h0
  have hv:=HT.out;have hv2:=HV.out
  rw [if_neg h0] at hv hv2
  subst hv;subst hv2
  clear HT HV BN HZ FL hsl
  go_enter Try.func91,Try.ntmps91
  go_wp2
  exact bodyPost_ret (v:=iv 0) (by simp [results,Try.results91]) rfl ⟨rfl,HB.out,KB.out⟩
 subst h0
 have d1 : ((0 : Int) != 0) = false:=rfl
 have hv:=HT.out;have hv2:=HV.out
 rw [if_pos rfl] at hv hv2
 clear HT HV
 have HV1:=Lib.hid hv;have HV2:=Lib.hid hv2
 clear hv hv2
 go_enter Try.func91,Try.ntmps91
 go_upto_region 3 with fail
 clear c0 c1 c2 f1 f2
 refine wp_region_tree (.take [0,1,2,3,4,5,6,7,8,9] (.force [10] (.take [11,12,13,14,15,16,17] .done))) [] (by kernel_rfl) (by kernel_rfl) (fun w3 k3 => ?_)
 have HB3:=Lib.hid (HB.out.keep k3);have HK3 : Hid (Keep w w3):=Lib.hid k3
 clear k3 HB KB
 have a0:=aft_cell (HB3.out.cell 0);have a1:=aft_cell (HB3.out.cell 1);have a2:=aft_cell (HB3.out.cell 2)
 try simp only [List.getElem?_cons_succ,List.getElem?_cons_zero] at  a0 a1 a2
 refine mt_take w3 (Below.refl _ _) ?_
 simp only [pick_cons,pick_nil,nth_zero,nth_succ]
 repeat (go_big_quiet_step (fail))
 refine wpQuiet_nil (mt_force ?_)
 clear a0 a1 a2 hsl
 simp only [pick_cons,pick_nil,nth_zero,nth_succ]
 refine fc_step rfl (fun K hK => ?_)
 go_simp
 (with_reducible refine (BN.out _ HK3.out).mono ?_)
 rintro e w4 ⟨rfl,k4⟩
 refine hK _ _ k4 ?_
 clear hK K BN
 have HB4:=Lib.hid (HB3.out.keep k4);have HK4:=Lib.hid (keep_trans HK3.out k4)
 clear k4 HB3
 refine fc_nil (mt_take w4 (Below.refl _ _) ?_)
 simp only [pick_cons,pick_nil,nth_zero,nth_succ]
 repeat (go_big_quiet_step (fail))
 refine wpQuiet_nil (mt_end ?_)
 have KB4 : Hid (KeepB S w w4):=Lib.hid (KeepX.of HK4.out)
 by_cases h1 : e1 = 0
 ·subst h1
  have d2 : ((0 : Int) != 0) = false:=rfl
  have hv:=HV1.out;have hv2:=HV2.out
  subst hv;subst hv2
  clear FL HZ
  have c0:=HB4.out.cell 0;have c1:=HB4.out.cell 1;have c2:=HB4.out.cell 2
  have f1:=HB4.out.frozen 1;have f2:=HB4.out.frozen 2
  try simp only [List.getElem?_cons_succ,List.getElem?_cons_zero] at c0 c1 c2
  go_wp2
  exact bodyPost_ret (v:=iv V) (by simp [results,Try.results91]) rfl ⟨rfl,HB4.out.set_ 1 (iv ((a : Int) + k)),KB4.out.set 1 _⟩
 ·have d2 : (e1 != 0) = true:=by rw [bne_iff_ne];exact h1
  obtain ⟨z1,z2⟩:=HZ.out h1
  have hv:=HV1.out;have hv2:=HV2.out
  rw [z2,Nat.add_zero] at hv
  rw [z1] at hv2
  subst hv;subst hv2
  clear HZ
  go_wp2_with fail
  refine (FL.out e1 _ HB4.out).mono ?_
  rintro e w5 ⟨rfl,hb5,hk5⟩
  have HB5:=Lib.hid hb5;have KB5 : Hid (KeepB S w w5):=Lib.hid (KB4.out.trans hk5 (fun _ _ q => q))
  clear hb5 hk5 FL
  go_wp2
  exact bodyPost_ret (v:=iv 0) (by simp [results,Try.results91]) rfl ⟨rfl,HB5.out,KB5.out⟩
set_option maxRecDepth 100000 in
set_option maxHeartbeats 8000000 in
theorem r8script_any (S : Nat) (A : Option Addr) (b : List UInt8) (c : Nat) (p : SP) (w : World) (hb : Blk w S 157 (srcL A b.length c p)) (hp : p.1 ≤ b.length) (hc : b.length ≤ c) (hl : b.length ≤ 1000000000) (hcm : c ≤ maxLen) (hr : RdX (some S) w A (b.map u8v)) :
  Calls Try.prog 94 #[.pointer (some ⟨S,0,none⟩)] w (fun e w' => ∃ A' c',e = .returned (.slice A' (scV b p).length c')∧w'.ownsRow w.heap.size 5 1 (.slice A' (scV b p).length c') (scV b p).length ((scV b p).map u8v)∧Blk w' S 157 (srcL A b.length c (scP b p))∧KeepB S w w'):=by
 have FL : Hid (∀ code y,Blk y S 157 (srcL A b.length c p) → Calls Try.prog 92 #[.pointer (some ⟨S,0,none⟩),iv code] y (Red S 157 (srcL A b.length c (flP code p)) (.tuple #[]) y)):=Lib.hid fun code y h => r8fail_any S A b c p code y h
 obtain ⟨a,e0⟩:=p
 have HB:=Lib.hid hb;have HR:=Lib.hid hr;have HSW : Hid (S < w.heap.size):=Lib.hid hb.lt
 have KB : Hid (KeepB S w w):=Lib.hid (KeepX.of (Below.refl _ _))
 simp only at hp
 obtain ⟨P,hsl,hP⟩:=slice_K A b.length c a hp hc
 have RP : Hid (Rd w P ((b.drop a).map u8v)):=Lib.hid (by
  have q:=Rd.drop (k:=a) (cap:=c) hr.rd (by rw [List.length_map];exact hp) (by rw [List.length_map];exact hc)
  rw [← hP,← List.map_drop] at q
  exact q)
 clear hP
 have BN : Hid (∀ y,Keep w y → Calls Try.prog 97 #[.slice P (b.length - a) (c - a),iv 10000] y fun e w' => ∃ A' c',e = .returned (.tuple #[.slice A' (bytN (b.drop a) 10000).1.length c',iv (bytN (b.drop a) 10000).2.1,iv (bytN (b.drop a) 10000).2.2])∧Bf y w' A' c' (bytN (b.drop a) 10000).1):=Lib.hid fun y hy => by
  have q:=rcbytes_any P (b.drop a) (c - a) 10000 y (by rw [List.length_drop];omega) (by rw [List.length_drop];omega) (by omega) (by omega) (RP.out.keep hy)
  rw [List.length_drop] at q;exact q
 have HT : Hid (scP b (a,e0) = if e0 = 0 then (a + (bytN (b.drop a) 10000).2.1,(bytN (b.drop a) 10000).2.2) else (a,e0)):=Lib.hid rfl
 have HV : Hid (scV b (a,e0) = if e0 = 0 then (bytN (b.drop a) 10000).1 else []):=Lib.hid rfl
 have hk9:=(byt_le (b.drop a) 10000).1
 have HZ : Hid ((bytN (b.drop a) 10000).2.2 ≠ 0 → (bytN (b.drop a) 10000).1 = []∧(bytN (b.drop a) 10000).2.1 = 0):=Lib.hid fun h => by
  unfold bytN at h ⊢
  split
  ·rename_i q;rw [if_pos q] at h
   split
   ·exact ⟨rfl,rfl⟩
   ·rename_i q2;rw [if_neg q2] at h;exact absurd rfl h
  ·exact ⟨rfl,rfl⟩
 rw [List.length_drop] at hk9
 generalize scP b (a,e0) = PP at *
 generalize scV b (a,e0) = V at *
 generalize bytN (b.drop a) 10000 = G at *
 obtain ⟨n,k,e1⟩:=G
 simp only at BN HT HV hk9 HZ
 generalize b.length = L at *
 clear hb hr HR RP
 unfold maxLen at hcm
 have hwk : IntKind.i64.wrap ((a : Int) + k) = (a : Int) + k:=IntWalk.i64_in _ (by omega)
 have c0:=HB.out.cell 0;have c1:=HB.out.cell 1;have c2:=HB.out.cell 2
 have f1:=HB.out.frozen 1;have f2:=HB.out.frozen 2
 try simp only [List.getElem?_cons_succ,List.getElem?_cons_zero] at c0 c1 c2
 by_cases h0 : e0 = 0
 case neg =>
  have d1 : (e0 != 0) = true:=by rw [bne_iff_ne];exact h0
  have hv:=HT.out;have hv2:=HV.out
  rw [if_neg h0] at hv hv2
  subst hv;subst hv2
  clear HT HV BN HZ FL hsl
  go_enter Try.func94,Try.ntmps94
  go_wp2
  exact bodyPost_ret (v:=.slice none 0 0) (by simp [results,Try.results94]) rfl ⟨none,0,rfl,World.ownsRow_nil _ _ _ _,HB.out,KB.out⟩
 subst h0
 have d1 : ((0 : Int) != 0) = false:=rfl
 have hv:=HT.out;have hv2:=HV.out
 rw [if_pos rfl] at hv hv2
 clear HT HV
 have HV1:=Lib.hid hv;have HV2:=Lib.hid hv2
 clear hv hv2
 go_enter Try.func94,Try.ntmps94
 go_upto_region 3 with fail
 clear c0 c1 c2 f1 f2
 refine wp_region_tree (.take [0,1,2,3,4,5,6,7,8] (.force [9] (.take [10,11,12,13,14,15,16] .done))) [] (by kernel_rfl) (by kernel_rfl) (fun w3 k3 => ?_)
 have HB3:=Lib.hid (HB.out.keep k3);have HK3 : Hid (Keep w w3):=Lib.hid k3
 clear k3 HB KB
 have a0:=aft_cell (HB3.out.cell 0);have a1:=aft_cell (HB3.out.cell 1);have a2:=aft_cell (HB3.out.cell 2)
 try simp only [List.getElem?_cons_succ,List.getElem?_cons_zero] at  a0 a1 a2
 refine mt_take w3 (Below.refl _ _) ?_
 simp only [pick_cons,pick_nil,nth_zero,nth_succ]
 repeat (go_big_quiet_step (fail))
 refine wpQuiet_nil (mt_force ?_)
 clear a0 a1 a2 hsl
 simp only [pick_cons,pick_nil,nth_zero,nth_succ]
 refine fc_step rfl (fun K hK => ?_)
 go_simp
 (with_reducible refine (BN.out _ HK3.out).mono ?_)
 rintro e w4 ⟨A4,c4,rfl,b4⟩
 have k4:=b4.k
 refine hK _ _ k4 ?_
 clear hK K BN
 have HB4:=Lib.hid (HB3.out.keep k4);have HK4:=Lib.hid (keep_trans HK3.out k4)
 have OW4:=Lib.hid (own_base b4.o HK3.out.size)
 clear k4 HB3 b4
 refine fc_nil (mt_take w4 (Below.refl _ _) ?_)
 simp only [pick_cons,pick_nil,nth_zero,nth_succ]
 repeat (go_big_quiet_step (fail))
 refine wpQuiet_nil (mt_end ?_)
 have KB4 : Hid (KeepB S w w4):=Lib.hid (KeepX.of HK4.out)
 by_cases h1 : e1 = 0
 ·subst h1
  have d2 : ((0 : Int) != 0) = false:=rfl
  have hv:=HV1.out;have hv2:=HV2.out
  subst hv;subst hv2
  clear FL HZ
  have c0:=HB4.out.cell 0;have c1:=HB4.out.cell 1;have c2:=HB4.out.cell 2
  have f1:=HB4.out.frozen 1;have f2:=HB4.out.frozen 2
  try simp only [List.getElem?_cons_succ,List.getElem?_cons_zero] at c0 c1 c2
  have OWz:=Lib.hid (ownsRow_setCell_below OW4.out (a:=⟨S,1,none⟩) (by show S < w.heap.size;have:=HSW.out;omega) (iv ((a : Int) + k)))
  go_wp2
  exact bodyPost_ret (v:=.slice A4 V.length c4) (by simp [results,Try.results94]) rfl ⟨A4,c4,rfl,OWz.out,HB4.out.set_ 1 (iv ((a : Int) + k)),KB4.out.set 1 _⟩
 ·have d2 : (e1 != 0) = true:=by rw [bne_iff_ne];exact h1
  obtain ⟨z1,z2⟩:=HZ.out h1
  have hv:=HV1.out;have hv2:=HV2.out
  rw [z2,Nat.add_zero] at hv
  rw [z1] at hv2
  subst hv;subst hv2
  clear HZ
  go_wp2_with fail
  refine (FL.out e1 _ HB4.out).mono ?_
  rintro e w5 ⟨rfl,hb5,hk5⟩
  have HB5:=Lib.hid hb5;have KB5 : Hid (KeepB S w w5):=Lib.hid (KB4.out.trans hk5 (fun _ _ q => q))
  clear hb5 hk5 FL
  go_wp2
  exact bodyPost_ret (v:=.slice none 0 0) (by simp [results,Try.results94]) rfl ⟨none,0,rfl,World.ownsRow_nil _ _ _ _,HB5.out,KB5.out⟩
end Go.Proofs.Ytbgpgdhndanigaa
/- florinref09's reader: hash, count. (printed by gen_kh.py) -/
set_option linter.unusedSimpArgs false
set_option linter.unusedVariables false
namespace Go.Proofs.Ytbgpgdhndanigaa
open Go.RowKit
attribute [local go_sem ↓] Go.wp_at_zero Go.wp_at_succ
set_option maxRecDepth 100000 in
set_option maxHeartbeats 8000000 in
theorem r9hash_any (S : Nat) (A : Option Addr) (b : List UInt8) (c : Nat) (p : SP) (w : World) (hb : Blk w S 85 (srcL A b.length c p)) (hp : p.1 ≤ b.length) (hc : b.length ≤ c) (hl : b.length ≤ 1000000000) (hcm : c ≤ maxLen) (hr : RdX (some S) w A (b.map u8v)) :
  Calls Try.prog 60 #[.pointer (some ⟨S,0,none⟩)] w (Had S 85 (srcL A b.length c (tkP b 32 p)) (padH (tkB b 32 p)) w):=by
 have HA : Hid (∀ y,Blk y S 85 (srcL A b.length c p) → Calls Try.prog 79 #[.pointer (some ⟨S,0,none⟩),iv 32] y (Red S 85 (srcL A b.length c (hasP b.length 32 p)) (.bool (hasB b.length 32 p)) y)):=Lib.hid fun y h => r9has_any S A b c p 32 y h hp hl (by omega)
 obtain ⟨a,e0⟩:=p
 have HB:=Lib.hid hb;have HR:=Lib.hid hr
 have hSw:=hb.lt
 unfold maxLen at hcm
 simp only at hp
 obtain ⟨zs,hz1,hz2,hz3,hz4⟩:=zhash_letter
 have HZ0 : Hid (HashA z32 zs):=Lib.hid (by
  have h:=HashA.of (h:=z32) rfl
  rwa [show z32.map u8v = zs.toList from hz4.symm,Array.toArray_toList] at h)
 have hz5:=HZ0.out.i
 clear hb hr hz4
 by_cases hok : e0 = 0∧a + 32 ≤ b.length
 case neg =>
  obtain ⟨e1,e2⟩:=tkP_no (b:=b) (m:=32) (p:=(a,e0)) hok
  rw [e1,e2]
  clear e1 e2
  go_enter Try.func60,Try.ntmps60
  go_upto_region 2 with fail
  obtain ⟨w1,hw1⟩ : ∃ x,x = (w.alloc (.cells zs 27)).alloc (.cells zs 27):=⟨_,rfl⟩
  have HR1 : Hid (Blk w1 w.heap.size 27 zs.toList):=by rw [hw1];exact Lib.hid ((Blk.new w _ zs.toList).alloc _)
  have HG1 : Hid (Blk w1 (w.heap.size + 1) 27 zs.toList):=by
   rw [hw1]
   have q:=Blk.new (w.alloc (.cells zs 27)) 27 zs.toList
   rw [World.size_alloc] at q
   exact Lib.hid q
  have hk1 : Keep w w1:=by rw [hw1];exact keep_trans (keep_new _ _) (keep_new _ _)
  have HB1:=Lib.hid (HB.out.keep hk1)
  have KB1 : Hid (KeepB S w w1):=Lib.hid (KeepX.of hk1)
  rw [← hw1]
  clear hw1 hk1 HB
  obtain ⟨r,hrr⟩ : ∃ r,w.heap.size = r:=⟨_,rfl⟩
  obtain ⟨G,hG⟩ : ∃ G,r + 1 = G:=⟨_,rfl⟩
  have HRW:=Lib.hid hrr
  rw [hrr] at HR1 hSw;rw [hrr,hG] at HG1
  simp only [hrr,hG]
  have hrG : r < G:=by omega
  clear hrr hG
  have hB : hasB b.length 32 (a,e0) = false:=decide_eq_false hok
  have hP:=hasP_no hB
  rw [hB,hP] at HA
  clear hB hP
  generalize b.length = L at *
  go_wp2_with fail
  refine (HA.out _ HB1.out).mono ?_
  rintro e w4 ⟨rfl,hb4,hk4⟩
  have HB4:=Lib.hid hb4;have KB4 : Hid (KeepB S w w4):=Lib.hid (KB1.out.trans hk4 (fun _ _ q => q));have HK4:=Lib.hid hk4
  clear hb4 hk4 HA
  have HR9:=Lib.hid (HK4.out.blk HR1.out (by omega))
  have HG9:=Lib.hid (HK4.out.blk HG1.out (by omega))
  obtain ⟨w8,hst,hb8,hg8⟩:=run_store_blk (P:=Try.prog) zs.toList HR9.out rfl HZ0.out.o
  have Hb8:=Lib.hid hb8
  have HBz:=Lib.hid (HB4.out.grown hg8 (fun q => by injection q with q;omega));have KBz : Hid (KeepB S w w8):=Lib.hid (KB4.out.new hg8 (by have:=HRW.out;omega))
  clear hb8 hg8
  go_wp2_with ((with_reducible refine load_arr G zs (Eq.trans ?_ rfl) HG9.out _ Try.underlying27 rfl hz5 ?_);rfl)
  have hb8:=Hb8.out
  exact bodyPost_ret (v:=.agg zs) (results_cell_row Try.results60 _ _ r _ _ _ _ rfl hb8 Try.underlying27 rfl (by rw [List.size_toArray,Array.length_toList];exact hz5)) rfl ⟨zs,rfl,HZ0.out,HBz.out,KBz.out⟩
 obtain ⟨e1,e2⟩:=tkP_ok (b:=b) (m:=32) (p:=(a,e0)) hok
 simp only at e1 e2
 have hT32 : ((b.drop a).take 32).length = 32:=by rw [List.length_take,List.length_drop];omega
 rw [e1,e2,padH_full hT32]
 clear e1 e2
 obtain ⟨rfl,hlt⟩:=hok
 go_enter Try.func60,Try.ntmps60
 go_upto_region 2 with fail
 obtain ⟨w1,hw1⟩ : ∃ x,x = (w.alloc (.cells zs 27)).alloc (.cells zs 27):=⟨_,rfl⟩
 have HR1 : Hid (Blk w1 w.heap.size 27 zs.toList):=by rw [hw1];exact Lib.hid ((Blk.new w _ zs.toList).alloc _)
 have HG1 : Hid (Blk w1 (w.heap.size + 1) 27 zs.toList):=by
  rw [hw1]
  have q:=Blk.new (w.alloc (.cells zs 27)) 27 zs.toList
  rw [World.size_alloc] at q
  exact Lib.hid q
 have hk1 : Keep w w1:=by rw [hw1];exact keep_trans (keep_new _ _) (keep_new _ _)
 have HB1:=Lib.hid (HB.out.keep hk1)
 have KB1 : Hid (KeepB S w w1):=Lib.hid (KeepX.of hk1)
 rw [← hw1]
 clear hw1 hk1 HB
 obtain ⟨r,hrr⟩ : ∃ r,w.heap.size = r:=⟨_,rfl⟩
 obtain ⟨G,hG⟩ : ∃ G,r + 1 = G:=⟨_,rfl⟩
 have HRW:=Lib.hid hrr
 rw [hrr] at HR1 hSw;rw [hrr,hG] at HG1
 simp only [hrr,hG]
 have hrG : r < G:=by omega
 clear hrr hG
 have HTG : Hid (∀ k,k < 32 → ((b.drop a).take 32).getD k 0 = b.getD (a + k) 0):=Lib.hid fun k hk => by simp [List.getD_eq_getElem?_getD,List.getElem?_take,hk]
 obtain ⟨g,off,rfl,hgS,hcc⟩ : ∃ g off,A = some ⟨g,off,none⟩∧S ≠ g∧∀ j,j < b.length → w.cell? ⟨g,off + j,none⟩ = some (u8v (b.getD j 0)):=by
  rcases HR.out with q | ⟨g,off,q1,q2,q3⟩
  ·have : b = []:=by simpa using q
   rw [this] at hlt;simp at hlt
  ·refine ⟨g,off,q1,fun q => q2 (by rw [q]),fun j hj => ?_⟩
   rw [q3 j (by rw [List.length_map];omega)]
   simp [List.getD_eq_getElem?_getD,List.getElem?_eq_getElem hj]
 have HC : Hid (∀ k,k < 32 → w.cell? ⟨g,off + (a + k),none⟩ = some (u8v (((b.drop a).take 32).getD k 0))):=Lib.hid fun k hk => by rw [HTG.out k hk];exact hcc (a + k) (by omega)
 have hgr : g < r:=by rw [← HRW.out];exact cell_lt (HC.out 0 (by omega))
 clear hcc HTG HR
 have HSET : Hid (∀ k,k < 32 → _):=Lib.hid fun k (hk : k < 32) => hasZ_set hT32 hk
 have HALL:=Lib.hid (hasZ_all hT32)
 have HLN : Hid (∀ k,k ≤ 32 → _):=Lib.hid fun k (hk : k ≤ 32) => hasZ_len hT32 hk
 obtain ⟨ds,hds⟩ : ∃ ds,HashA ((b.drop a).take 32) ds:=⟨_,HashA.of hT32⟩
 have hdz:=hds.z;have hdn:=hds.n;have hdi:=hds.i
 have HDS:=Lib.hid hds
 replace HG1 : Hid (Blk w1 G 27 ((hasZ 0 ((b.drop a).take 32)).map u8v)):=by
  have:=HG1.out;rw [HZ0.out.l] at this;exact Lib.hid this
 clear hT32 hds
 generalize (b.drop a).take 32 = T at *
 obtain ⟨tt,htt⟩ : ∃ f : Nat → UInt8,(fun k => T.getD k 0) = f:=⟨_,rfl⟩
 have htt' : ∀ k,T.getD k 0 = tt k:=fun k => by rw [← htt]
 simp only [htt'] at HC HSET
 clear htt htt'
 obtain ⟨zz,hzz⟩ : ∃ f : Nat → List UInt8,(fun k => hasZ k T) = f:=⟨_,rfl⟩
 have hzz' : ∀ k,hasZ k T = zz k:=fun k => by rw [← hzz]
 simp only [hzz'] at HSET HALL HLN HG1
 clear hzz hzz'
 have hB : hasB b.length 32 (a,0) = true:=decide_eq_true ⟨rfl,hlt⟩
 have hP:=hasP_ok hB
 rw [hB,hP] at HA
 clear hB hP
 generalize b.length = L at *
 go_wp2_with fail
 refine (HA.out _ HB1.out).mono ?_
 rintro e w3 ⟨rfl,hb4,hk4⟩
 have HB3:=Lib.hid hb4;have KB3 : Hid (KeepB S w w3):=Lib.hid (KB1.out.trans hk4 (fun _ _ q => q))
 have HR3:=Lib.hid (hk4.blk HR1.out (by omega));have HG3:=Lib.hid (hk4.blk HG1.out (by omega))
 clear hb4 hk4 HA HB1 KB1 HR1 HG1
 go_wp2_with fail
 go_loopw [4] (fun x wr => ∃ k : Nat,k ≤ 32∧x = .int .i64 k∧Hid (Blk wr S 85 (srcL (some ⟨g,off,none⟩) L c (a,0)))∧Hid (KeepB S w wr)∧Hid (Blk wr r 27 zs.toList)∧Hid (Blk wr G 27 ((zz k).map u8v))) (fun x _ => 32 - (intOf x).toNat)
 case atStart => exact ⟨0,by omega,rfl,HB3,KB3,HR3,HG3⟩
 case round =>
  obtain ⟨k,hk,rfl,HBr,KBr,HRr,HGr⟩:=hrel
  clear HB3 KB3 HR3 HG3
  by_cases hlt2 : k < 32
  ·have c9:=KBr.out.cell (HC.out k hlt2) (fun q => hgS q.symm)
   have hwa : IntKind.i64.wrap ((a : Int) + k) = (a : Int) + k:=IntWalk.i64_in _ (by omega)
   have d3 : (a : Int) + k < (L : Int):=by omega
   have HSk:=Lib.hid (HSET.out k hlt2)
   obtain ⟨o,ho⟩ : ∃ o,((zz k).map u8v)[k]? = some o:=⟨_,List.getElem?_eq_getElem (by rw [List.length_map,HLN.out k (by omega)];omega)⟩
   have HO:=Lib.hid ho
   clear ho
   go_upto_region 7 with fail
   refine wp_region_tree (.take [0,1,2,3,4,5,6,7,8,9,10,11,12,13] .done) [14] (by kernel_rfl) (by kernel_rfl) (fun w5 k3 => ?_)
   have HB5:=Lib.hid (HBr.out.keep k3);have KB5 : Hid (KeepB S w w5):=Lib.hid (KBr.out.trans (KeepX.of k3) (fun _ _ q => q))
   have HR5:=Lib.hid (HRr.out.keep k3)
   have HG5:=Lib.hid (HGr.out.keep k3)
   have KBx5:=Lib.hid (keep_cell k3 c9)
   clear k3
   have a0:=aft_cell (HB5.out.cell 0);have a1:=aft_cell (HB5.out.cell 1);have a2:=aft_cell (HB5.out.cell 2)
   try simp only [List.getElem?_cons_succ,List.getElem?_cons_zero] at  a0 a1 a2
   have a9:=aft_cell (KBx5.out)
   refine mt_take w5 (Below.refl _ _) ?_
   simp only [pick_cons,pick_nil,nth_zero,nth_succ]
   repeat (go_big_quiet_step (fail))
   refine wpQuiet_nil (mt_end ?_)
   clear a0 a1 a2 a9 c9 KBx5
   have r9:=HG5.out.cell k;rw [HO.out] at r9
   have f9:=HG5.out.frozen k
   obtain ⟨w6,hw6⟩ : ∃ x,x = w5.setCell ⟨G,k,none⟩ (u8v (tt k)):=⟨_,rfl⟩
   have HG6 : Hid (Blk w6 G 27 ((zz (k + 1)).map u8v)):=by rw [hw6,← HSk.out];exact Lib.hid (HG5.out.set_ _ _)
   have HGW : w5.grownBy w6 (some G):=by rw [hw6];exact grown_set (grown_refl _ _)
   have HB6:=Lib.hid (HB5.out.grown HGW (fun q => by injection q with q;omega));have HR6:=Lib.hid (HR5.out.grown HGW (fun q => by injection q with q;omega));have KB6 : Hid (KeepB S w w6):=Lib.hid (KB5.out.new HGW (by have:=HRW.out;omega))
   clear HGW HSk HO
   go_wp2_with fail
   rw [← hw6]
   clear hw6 r9 f9
   go_roundw
   case rel => exact ⟨k + 1,by omega,by go_num,HB6,KB6,HR6,HG6⟩
   case measure => simp [intOf];omega
  ·obtain rfl : k = 32:=by omega
   have hwa : IntKind.i64.wrap ((a : Int) + 32) = (a : Int) + 32:=IntWalk.i64_in _ (by omega)
   have hG9:=HGr.out
   rw [HALL.out,← HDS.out.l] at hG9
   have HG9:=Lib.hid hG9
   clear hG9 HGr HSET HLN HC HALL
   have c0:=HBr.out.cell 0;have c1:=HBr.out.cell 1;have c2:=HBr.out.cell 2
   have f1:=HBr.out.frozen 1;have f2:=HBr.out.frozen 2
   try simp only [List.getElem?_cons_succ,List.getElem?_cons_zero] at c0 c1 c2
   obtain ⟨w6,hw6⟩ : ∃ x,x = wr.setCell ⟨S,1,none⟩ (iv ((a : Int) + 32)):=⟨_,rfl⟩
   have HB6 : Hid (Blk w6 S 85 (srcL (some ⟨g,off,none⟩) L c (a + 32,0))):=by rw [hw6];exact Lib.hid (HBr.out.set_ 1 (iv ((a : Int) + 32)))
   have KB6 : Hid (KeepB S w w6):=by rw [hw6];exact Lib.hid (KBr.out.set 1 _)
   have kk : KeepB S wr w6:=by rw [hw6];exact KeepB.set (KeepX.of (Below.refl _ _)) 1 _
   have HR6:=Lib.hid (kk.blk HRr.out (by omega));have HG6:=Lib.hid (kk.blk HG9.out (by omega))
   clear kk HBr KBr HRr HG9
   go_upto_region 9 with fail
   rw [← hw6]
   clear hw6 c0 c1 c2 f1 f2
   obtain ⟨w8,hst,hb8,hg8⟩:=run_store_blk (P:=Try.prog) ds.toList HR6.out (by simp [hz1,hdz]) HDS.out.o
   have Hb8:=Lib.hid hb8
   have HBz:=Lib.hid (HB6.out.grown hg8 (fun q => by injection q with q;omega));have KBz : Hid (KeepB S w w8):=Lib.hid (KB6.out.new hg8 (by have:=HRW.out;omega))
   clear hb8 hg8
   go_wp2_with ((with_reducible refine load_arr G ds (Eq.trans ?_ rfl) HG6.out _ Try.underlying27 rfl hdi ?_);rfl)
   have hb8:=Hb8.out
   exact bodyPost_ret (v:=.agg ds) (results_cell_row Try.results60 _ _ r _ _ _ _ rfl hb8 Try.underlying27 rfl (by rw [List.size_toArray,Array.length_toList];exact hdi)) rfl ⟨ds,rfl,HDS.out,HBz.out,KBz.out⟩
set_option maxRecDepth 100000 in
set_option maxHeartbeats 8000000 in
theorem r9count_any (S : Nat) (A : Option Addr) (b : List UInt8) (c : Nat) (p : SP) (most : Nat) (w : World) (hb : Blk w S 85 (srcL A b.length c p)) (hp : p.1 ≤ b.length) (hc : b.length ≤ c) (hl : b.length ≤ 1000000000) (hcm : c ≤ maxLen) (hr : RdX (some S) w A (b.map u8v)) (hmo : most ≤ 1000000) :
  Calls Try.prog 80 #[.pointer (some ⟨S,0,none⟩),u64v most] w (Red S 85 (srcL A b.length c (ctP b most p)) (iv (ctV b most p : Nat)) w):=by
 have FL : Hid (∀ code y,Blk y S 85 (srcL A b.length c p) → Calls Try.prog 82 #[.pointer (some ⟨S,0,none⟩),iv code] y (Red S 85 (srcL A b.length c (flP code p)) (.tuple #[]) y)):=Lib.hid fun code y h => r9fail_any S A b c p code y h
 obtain ⟨a,e0⟩:=p
 have HB:=Lib.hid hb;have HR:=Lib.hid hr
 have KB : Hid (KeepB S w w):=Lib.hid (KeepX.of (Below.refl _ _))
 simp only at hp
 obtain ⟨P,hsl,hP⟩:=slice_K A b.length c a hp hc
 have RP : Hid (Rd w P ((b.drop a).map u8v)):=Lib.hid (by
  have q:=Rd.drop (k:=a) (cap:=c) hr.rd (by rw [List.length_map];exact hp) (by rw [List.length_map];exact hc)
  rw [← hP,← List.map_drop] at q
  exact q)
 clear hP
 have BN : Hid (∀ y,Keep w y → Calls Try.prog 88 #[.slice P (b.length - a) (c - a),u64v most] y fun e w' => e = .returned (.tuple #[iv (bndN (b.drop a) most).1,iv (bndN (b.drop a) most).2.1,iv (bndN (b.drop a) most).2.2])∧Keep y w'):=Lib.hid fun y hy => by
  have q:=rbnd_any P (b.drop a) (c - a) most y (by rw [List.length_drop];omega) (RP.out.keep hy)
  rw [List.length_drop] at q;exact q
 have HT : Hid (ctP b most (a,e0) = if e0 = 0 then (a + (bndN (b.drop a) most).2.1,(bndN (b.drop a) most).2.2) else (a,e0)):=Lib.hid rfl
 have HV : Hid (ctV b most (a,e0) = if e0 = 0 then (bndN (b.drop a) most).1 else 0):=Lib.hid rfl
 have hk9:=(bnd_le (b.drop a) most).1
 have HZ : Hid ((bndN (b.drop a) most).2.2 ≠ 0 → (bndN (b.drop a) most).1 = 0∧(bndN (b.drop a) most).2.1 = 0):=Lib.hid fun h => by
  unfold bndN at h ⊢
  split
  ·rename_i q;rw [if_pos q] at h
   split
   ·exact ⟨rfl,rfl⟩
   ·rename_i q2;rw [if_neg q2] at h;exact absurd q h
  ·exact ⟨rfl,rfl⟩
 rw [List.length_drop] at hk9
 generalize ctP b most (a,e0) = PP at *
 generalize ctV b most (a,e0) = V at *
 generalize bndN (b.drop a) most = G at *
 obtain ⟨n,k,e1⟩:=G
 simp only at BN HT HV hk9 HZ
 generalize b.length = L at *
 clear hb hr HR RP
 unfold maxLen at hcm
 have hwk : IntKind.i64.wrap ((a : Int) + k) = (a : Int) + k:=IntWalk.i64_in _ (by omega)
 have c0:=HB.out.cell 0;have c1:=HB.out.cell 1;have c2:=HB.out.cell 2
 have f1:=HB.out.frozen 1;have f2:=HB.out.frozen 2
 try simp only [List.getElem?_cons_succ,List.getElem?_cons_zero] at c0 c1 c2
 by_cases h0 : e0 = 0
 case neg =>
  have d1 : (e0 != 0) = true:=by rw [bne_iff_ne];exact h0
  have hv:=HT.out;have hv2:=HV.out
  rw [if_neg h0] at hv hv2
  subst hv;subst hv2
  clear HT HV BN HZ FL hsl
  go_enter Try.func80,Try.ntmps80
  go_wp2
  exact bodyPost_ret (v:=iv 0) (by simp [results,Try.results80]) rfl ⟨rfl,HB.out,KB.out⟩
 subst h0
 have d1 : ((0 : Int) != 0) = false:=rfl
 have hv:=HT.out;have hv2:=HV.out
 rw [if_pos rfl] at hv hv2
 clear HT HV
 have HV1:=Lib.hid hv;have HV2:=Lib.hid hv2
 clear hv hv2
 go_enter Try.func80,Try.ntmps80
 go_upto_region 3 with fail
 clear c0 c1 c2 f1 f2
 refine wp_region_tree (.take [0,1,2,3,4,5,6,7,8,9] (.force [10] (.take [11,12,13,14,15,16,17] .done))) [] (by kernel_rfl) (by kernel_rfl) (fun w3 k3 => ?_)
 have HB3:=Lib.hid (HB.out.keep k3);have HK3 : Hid (Keep w w3):=Lib.hid k3
 clear k3 HB KB
 have a0:=aft_cell (HB3.out.cell 0);have a1:=aft_cell (HB3.out.cell 1);have a2:=aft_cell (HB3.out.cell 2)
 try simp only [List.getElem?_cons_succ,List.getElem?_cons_zero] at  a0 a1 a2
 refine mt_take w3 (Below.refl _ _) ?_
 simp only [pick_cons,pick_nil,nth_zero,nth_succ]
 repeat (go_big_quiet_step (fail))
 refine wpQuiet_nil (mt_force ?_)
 clear a0 a1 a2 hsl
 simp only [pick_cons,pick_nil,nth_zero,nth_succ]
 refine fc_step rfl (fun K hK => ?_)
 go_simp
 (with_reducible refine (BN.out _ HK3.out).mono ?_)
 rintro e w4 ⟨rfl,k4⟩
 refine hK _ _ k4 ?_
 clear hK K BN
 have HB4:=Lib.hid (HB3.out.keep k4);have HK4:=Lib.hid (keep_trans HK3.out k4)
 clear k4 HB3
 refine fc_nil (mt_take w4 (Below.refl _ _) ?_)
 simp only [pick_cons,pick_nil,nth_zero,nth_succ]
 repeat (go_big_quiet_step (fail))
 refine wpQuiet_nil (mt_end ?_)
 have KB4 : Hid (KeepB S w w4):=Lib.hid (KeepX.of HK4.out)
 by_cases h1 : e1 = 0
 ·subst h1
  have d2 : ((0 : Int) != 0) = false:=rfl
  have hv:=HV1.out;have hv2:=HV2.out
  subst hv;subst hv2
  clear FL HZ
  have c0:=HB4.out.cell 0;have c1:=HB4.out.cell 1;have c2:=HB4.out.cell 2
  have f1:=HB4.out.frozen 1;have f2:=HB4.out.frozen 2
  try simp only [List.getElem?_cons_succ,List.getElem?_cons_zero] at c0 c1 c2
  go_wp2
  exact bodyPost_ret (v:=iv V) (by simp [results,Try.results80]) rfl ⟨rfl,HB4.out.set_ 1 (iv ((a : Int) + k)),KB4.out.set 1 _⟩
 ·have d2 : (e1 != 0) = true:=by rw [bne_iff_ne];exact h1
  obtain ⟨z1,z2⟩:=HZ.out h1
  have hv:=HV1.out;have hv2:=HV2.out
  rw [z2,Nat.add_zero] at hv
  rw [z1] at hv2
  subst hv;subst hv2
  clear HZ
  go_wp2_with fail
  refine (FL.out e1 _ HB4.out).mono ?_
  rintro e w5 ⟨rfl,hb5,hk5⟩
  have HB5:=Lib.hid hb5;have KB5 : Hid (KeepB S w w5):=Lib.hid (KB4.out.trans hk5 (fun _ _ q => q))
  clear hb5 hk5 FL
  go_wp2
  exact bodyPost_ret (v:=iv 0) (by simp [results,Try.results80]) rfl ⟨rfl,HB5.out,KB5.out⟩
end Go.Proofs.Ytbgpgdhndanigaa
/- What is got was put so: plain laws of reading a transaction. -/
set_option linter.unusedSimpArgs false
set_option linter.unusedVariables false
namespace Go.Proofs.Ytbgpgdhndanigaa
open Go.RowKit
def sl (b : List UInt8) (i j : Nat) : List UInt8:=(b.drop i).take (j - i)
theorem sl_app {b : List UInt8} {i j k : Nat} (h1 : i ≤ j) (h2 : j ≤ k) : sl b i j ++ sl b j k = sl b i k:=by
 unfold sl
 have e : b.drop j = (b.drop i).drop (j - i):=by rw [List.drop_drop];congr 1;omega
 rw [e,show k - i = (j - i) + (k - j) by omega,List.take_add]
theorem sl_len {b : List UInt8} {i j : Nat} (h : j ≤ b.length) : (sl b i j).length = j - i:=by
 unfold sl;rw [List.length_take,List.length_drop];omega
theorem sl_zero (b : List UInt8) (j : Nat) : sl b 0 j = b.take j:=by unfold sl;rw [List.drop_zero,Nat.sub_zero]
theorem sl_self (b : List UInt8) (i : Nat) : sl b i i = []:=by unfold sl;rw [Nat.sub_self,List.take_zero]
theorem sl_add (b : List UInt8) (i m : Nat) : sl b i (i + m) = (b.drop i).take m:=by unfold sl;rw [show i + m - i = m by omega]
theorem sl_end (b : List UInt8) (i : Nat) : sl b i b.length = b.drop i:=by
 unfold sl;rw [List.take_of_length_le (by rw [List.length_drop];exact Nat.le_refl _)]
theorem tk_ok {b : List UInt8} {m : Nat} {p : SP} (h : (tkP b m p).2 = 0) : p.2 = 0∧p.1 + m ≤ b.length∧(tkP b m p).1 = p.1 + m:=by
 unfold tkP at h ⊢
 by_cases h0 : p.2 = 0
 ·rw [if_pos h0] at h ⊢
  by_cases h1 : p.1 + m ≤ b.length
  ·rw [if_pos h1];exact ⟨h0,h1,rfl⟩
  ·rw [if_neg h1] at h;cases h
 ·rw [if_neg h0] at h;exact absurd h h0
theorem tkB_ok {b : List UInt8} {m : Nat} {p : SP} (h : (tkP b m p).2 = 0) : tkB b m p = sl b p.1 (p.1 + m)∧(tkB b m p).length = m:=by
 obtain ⟨h0,h1,-⟩:=tk_ok h
 have e : tkB b m p = sl b p.1 (p.1 + m):=by rw [sl_add];unfold tkB;rw [if_pos ⟨h0,h1⟩]
 exact ⟨e,by rw [e,sl_len h1];omega⟩
theorem num_ok {b : List UInt8} {m : Nat} {p : SP} (h : (tkP b m p).2 = 0) : loN (nmV b m p) m = sl b p.1 (tkP b m p).1∧nmV b m p < 2 ^ (8 * m):=by
 obtain ⟨e,hl⟩:=tkB_ok h
 have q:=lo_numN (b:=tkB b m p) (k:=m) (by omega)
 unfold nmV
 rw [hl]
 refine ⟨?_,numN_lt _ _⟩
 rw [q,(tk_ok h).2.2,← e,List.take_of_length_le (by omega)]
theorem num32_ok {b : List UInt8} {p : SP} (h : (tkP b 4 p).2 = 0) : loN (UInt32.ofNat (nmV b 4 p)).toNat 4 = sl b p.1 (tkP b 4 p).1:=by
 obtain ⟨h1,h2⟩:=num_ok h
 rw [UInt32.toNat_ofNat',Nat.mod_eq_of_lt (by simpa using h2),h1]
theorem bnd_ok {d : List UInt8} {most : Nat} (h : (bndN d most).2.2 = 0) : cptL (bndN d most).1 = d.take (bndN d most).2.1∧(bndN d most).2.1 ≤ d.length∧(bndN d most).1 ≤ most∧(bndN d most).2.1 = sizN (bndN d most).1:=by
 have hr:=bnd_rng d most h
 have e : bndN d most = cgetN d:=by
  unfold bndN at h ⊢
  by_cases h0 : (cgetN d).2.2 = 0
  ·rw [if_pos h0] at h ⊢
   by_cases h1 : most < (cgetN d).1 ∨ 2147483647 < (cgetN d).1
   ·rw [if_pos h1] at h;cases h
   ·rw [if_neg h1]
  ·rw [if_neg h0] at h;exact absurd h h0
 have hc : cgetN d = ((bndN d most).1,(bndN d most).2.1,0):=by
  rw [← e];exact Prod.ext rfl (Prod.ext rfl h)
 obtain ⟨a,b,c,-⟩:=cget_once hc
 exact ⟨b.symm,a,hr.1,c⟩
theorem byt_ok {d : List UInt8} {most : Nat} (h : (bytN d most).2.2 = 0) : scL (bytN d most).1 = d.take (bytN d most).2.1∧(bytN d most).2.1 ≤ d.length∧(bytN d most).1.length ≤ most:=by
 have hb : (bndN d most).2.2 = 0:=by
  unfold bytN at h
  by_cases h0 : (bndN d most).2.2 = 0
  ·exact h0
  ·rw [if_neg h0] at h;exact absurd h h0
 obtain ⟨h1,h2,h3,-⟩:=bnd_ok hb
 have hl : ¬ d.length - (bndN d most).2.1 < (bndN d most).1:=fun q => by
  unfold bytN at h
  rw [if_pos hb,if_pos q] at h;cases h
 have e : bytN d most = ((d.drop (bndN d most).2.1).take (bndN d most).1,(bndN d most).2.1 + (bndN d most).1,0):=by
  unfold bytN;rw [if_pos hb,if_neg hl]
 rw [e]
 simp only
 have hlen : ((d.drop (bndN d most).2.1).take (bndN d most).1).length = (bndN d most).1:=by rw [List.length_take,List.length_drop];omega
 refine ⟨?_,by omega,by rw [hlen];exact h3⟩
 unfold scL
 rw [hlen,h1,List.take_add]
theorem ct_ok {b : List UInt8} {most : Nat} {p : SP} (hp : p.1 ≤ b.length) (h : (ctP b most p).2 = 0) : p.2 = 0∧cptL (ctV b most p) = sl b p.1 (ctP b most p).1∧p.1 ≤ (ctP b most p).1∧(ctP b most p).1 ≤ b.length∧ctV b most p ≤ most:=by
 have h0 : p.2 = 0:=by
  unfold ctP at h
  by_cases q : p.2 = 0
  ·exact q
  ·rw [if_neg q] at h;exact absurd h q
 have e : ctP b most p = (p.1 + (bndN (b.drop p.1) most).2.1,(bndN (b.drop p.1) most).2.2):=by unfold ctP;rw [if_pos h0]
 have ev : ctV b most p = (bndN (b.drop p.1) most).1:=by unfold ctV;rw [if_pos h0]
 rw [e] at h ⊢
 rw [ev]
 simp only at h ⊢
 obtain ⟨h1,h2,h3,-⟩:=bnd_ok h
 rw [List.length_drop] at h2
 exact ⟨h0,by rw [sl_add,h1],by omega,by omega,h3⟩
theorem sc_ok {b : List UInt8} {p : SP} (hp : p.1 ≤ b.length) (h : (scP b p).2 = 0) : p.2 = 0∧scL (scV b p) = sl b p.1 (scP b p).1∧p.1 ≤ (scP b p).1∧(scP b p).1 ≤ b.length∧(scV b p).length ≤ 10000:=by
 have h0 : p.2 = 0:=by
  unfold scP at h
  by_cases q : p.2 = 0
  ·exact q
  ·rw [if_neg q] at h;exact absurd h q
 have e : scP b p = (p.1 + (bytN (b.drop p.1) 10000).2.1,(bytN (b.drop p.1) 10000).2.2):=by unfold scP;rw [if_pos h0]
 have ev : scV b p = (bytN (b.drop p.1) 10000).1:=by unfold scV;rw [if_pos h0]
 rw [e] at h ⊢
 rw [ev]
 simp only at h ⊢
 obtain ⟨h1,h2,h3⟩:=byt_ok h
 rw [List.length_drop] at h2
 exact ⟨h0,by rw [sl_add,h1],by omega,by omega,h3⟩
theorem in_ok {b : List UInt8} {p : SP} (hp : p.1 ≤ b.length) (h : (inS b p).2.2 = 0) : p.2 = 0∧inL (inS b p).1 = sl b p.1 (inS b p).2.1∧p.1 ≤ (inS b p).2.1∧(inS b p).2.1 ≤ b.length∧(inS b p).1.prev.length = 32∧(inS b p).1.sc.length ≤ 10000:=by
 unfold inS at h ⊢
 simp only at h ⊢
 obtain ⟨h4,l4,e4⟩:=tk_ok h
 have n4:=num32_ok h
 have hp1:=tkP_le (b:=b) (m:=32) hp
 have hp2:=tkP_le (b:=b) (m:=4) hp1
 obtain ⟨h3,s3,a3,b3,c3⟩:=sc_ok hp2 h4
 obtain ⟨h2,l2,e2⟩:=tk_ok h3
 have n2:=num32_ok h3
 obtain ⟨h1,l1,e1⟩:=tk_ok h2
 obtain ⟨t1,tl⟩:=tkB_ok h2
 have hpad : padH (tkB b 32 p) = sl b p.1 (tkP b 32 p).1:=by
  unfold padH;rw [tl,show z32.drop 32 = [] from rfl,List.append_nil,t1,e1]
 refine ⟨h1,?_,by omega,by omega,by unfold padH;rw [tl,show z32.drop 32 = [] from rfl,List.append_nil];exact tl,c3⟩
 unfold inL
 simp only
 rw [hpad,n2,s3,n4,sl_app a3 (by omega),sl_app (by omega) (by omega),sl_app (by omega) (by omega)]
theorem out_ok {b : List UInt8} {p : SP} (hp : p.1 ≤ b.length) (h : (outS b p).2.2 = 0) : p.2 = 0∧outL (outS b p).1 = sl b p.1 (outS b p).2.1∧p.1 ≤ (outS b p).2.1∧(outS b p).2.1 ≤ b.length∧(outS b p).1.val < 2 ^ 64∧(outS b p).1.sc.length ≤ 10000:=by
 unfold outS at h ⊢
 simp only at h ⊢
 have hp1:=tkP_le (b:=b) (m:=8) hp
 obtain ⟨h3,s3,a3,b3,c3⟩:=sc_ok hp1 h
 obtain ⟨h2,l2,e2⟩:=tk_ok h3
 have n2:=num_ok h3
 refine ⟨h2,?_,by omega,by omega,n2.2,c3⟩
 unfold outL
 simp only
 rw [n2.1,s3,sl_app (by omega) a3]
theorem ins_ok {b : List UInt8} : ∀ (n : Nat) {p : SP},p.1 ≤ b.length → (insS b n p).2.2 = 0 → p.2 = 0∧(insS b n p).1.length = n∧(insS b n p).1.flatMap inL = sl b p.1 (insS b n p).2.1∧p.1 ≤ (insS b n p).2.1∧(insS b n p).2.1 ≤ b.length∧∀ x ∈ (insS b n p).1,x.prev.length = 32∧x.sc.length ≤ 10000
 | 0,p,hp,h => by
   unfold insS at h ⊢
   exact ⟨h,rfl,by rw [sl_self];rfl,Nat.le_refl _,hp,fun x hx => by cases hx⟩
 | n + 1,p,hp,h => by
   by_cases h0 : p.2 = 0
   ·unfold insS at h ⊢
    rw [if_pos h0] at h ⊢
    simp only at h ⊢
    obtain ⟨a1,a2,a3,a4,a5,a6⟩:=ins_ok n (inS_le hp) h
    obtain ⟨c1,c2,c3,c4,c5,c6⟩:=in_ok hp a1
    refine ⟨h0,by rw [List.length_cons,a2],?_,by omega,a5,fun x hx => ?_⟩
    ·rw [List.flatMap_cons,c2,a3,sl_app c3 a4]
    ·rcases List.mem_cons.1 hx with rfl | q
     ·exact ⟨c5,c6⟩
     ·exact a6 x q
   ·rw [insS_err b _ h0] at h
    exact absurd h h0
theorem outs_ok {b : List UInt8} : ∀ (n : Nat) {p : SP},p.1 ≤ b.length → (outsS b n p).2.2 = 0 → p.2 = 0∧(outsS b n p).1.length = n∧(outsS b n p).1.flatMap outL = sl b p.1 (outsS b n p).2.1∧p.1 ≤ (outsS b n p).2.1∧(outsS b n p).2.1 ≤ b.length∧∀ x ∈ (outsS b n p).1,x.val < 2 ^ 64∧x.sc.length ≤ 10000
 | 0,p,hp,h => by
   unfold outsS at h ⊢
   exact ⟨h,rfl,by rw [sl_self];rfl,Nat.le_refl _,hp,fun x hx => by cases hx⟩
 | n + 1,p,hp,h => by
   by_cases h0 : p.2 = 0
   ·unfold outsS at h ⊢
    rw [if_pos h0] at h ⊢
    simp only at h ⊢
    obtain ⟨a1,a2,a3,a4,a5,a6⟩:=outs_ok n (outS_le hp) h
    obtain ⟨c1,c2,c3,c4,c5,c6⟩:=out_ok hp a1
    refine ⟨h0,by rw [List.length_cons,a2],?_,by omega,a5,fun x hx => ?_⟩
    ·rw [List.flatMap_cons,c2,a3,sl_app c3 a4]
    ·rcases List.mem_cons.1 hx with rfl | q
     ·exact ⟨c5,c6⟩
     ·exact a6 x q
   ·rw [outsS_err b _ h0] at h
    exact absurd h h0
theorem cnt_ok {n : Nat} {p : SP} (h : (cntE n p).2 = 0) : cntE n p = p∧n ≠ 0∧p.2 = 0:=by
 unfold cntE at h ⊢
 by_cases q : p.2 = 0∧n = 0
 ·rw [if_pos q] at h;cases h
 ·rw [if_neg q] at h ⊢
  exact ⟨rfl,fun e => q ⟨h,e⟩,h⟩
theorem tget_ok {b : List UInt8} (h : (tgetS b).2.2 = 0) : txL (tgetS b).1 = b.take (tgetS b).2.1∧(tgetS b).2.1 ≤ b.length∧saneT (tgetS b).1 = true∧(∀ x ∈ (tgetS b).1.ins,x.prev.length = 32)∧∀ x ∈ (tgetS b).1.outs,x.val < 2 ^ 64:=by
 unfold tgetS at h ⊢
 simp only at h ⊢
 have q1:=tkP_le (b:=b) (m:=4) (p:=(0,0)) (Nat.zero_le _)
 have q2:=ctP_le (b:=b) (m:=1000) q1
 generalize hp1 : tkP b 4 (0,0) = p1 at *
 generalize hc2 : ctP b 1000 p1 = p2 at *
 generalize hn : ctV b 1000 p1 = n at *
 have q3 : (cntE n p2).1 ≤ b.length:=by unfold cntE;split <;> exact q2
 have q4:=insS_le n q3
 generalize hI : insS b n (cntE n p2) = I at *
 have q5:=ctP_le (b:=b) (m:=1000) q4
 generalize hc3 : ctP b 1000 I.2 = p5 at *
 generalize hm : ctV b 1000 I.2 = m at *
 have q6:=outsS_le m q5
 generalize hO : outsS b m p5 = O at *
 have n7:=num32_ok h
 obtain ⟨h6,l6,e6⟩:=tk_ok h
 have o:=outs_ok (b:=b) m q5 (by rw [hO];exact h6)
 rw [hO] at o
 obtain ⟨o1,o2,o3,o4,o5,o6⟩:=o
 have c:=ct_ok (b:=b) (most:=1000) q4 (by rw [hc3];exact o1)
 rw [hc3,hm] at c
 obtain ⟨c1,c2,c3,c4,c5⟩:=c
 have i:=ins_ok (b:=b) n q3 (by rw [hI];exact c1)
 rw [hI] at i
 obtain ⟨i1,i2,i3,i4,i5,i6⟩:=i
 obtain ⟨k1,k2,k3⟩:=cnt_ok i1
 rw [k1] at i3 i4
 have d:=ct_ok (b:=b) (most:=1000) q1 (by rw [hc2];exact k3)
 rw [hc2,hn] at d
 obtain ⟨d1,d2,d3,d4,d5⟩:=d
 have t:=tk_ok (b:=b) (m:=4) (p:=(0,0)) (by rw [hp1];exact d1)
 have t2:=num32_ok (b:=b) (p:=(0,0)) (by rw [hp1];exact d1)
 rw [hp1] at t t2
 obtain ⟨t0,tl,te⟩:=t
 simp only at t2 te tl
 refine ⟨?_,by omega,?_,fun x hx => (i6 x hx).1,fun x hx => (o6 x hx).1⟩
 ·unfold txL
  simp only
  rw [t2,i2,d2,i3,o2,c2,o3,n7,sl_app o4 (by omega),sl_app c3 (by omega),sl_app i4 (by omega),sl_app d3 (by omega),sl_app (by omega) (by omega),sl_zero]
 ·unfold saneT
  rw [decide_eq_true_eq]
  simp only
  exact ⟨by omega,by omega,by omega,fun x hx => (i6 x hx).2,fun x hx => (o6 x hx).2⟩
end Go.Proofs.Ytbgpgdhndanigaa
/- wire.Name and wire.Kind. (printed by gen_vr.py) -/
set_option linter.unusedSimpArgs false
set_option linter.unusedVariables false
namespace Go.Proofs.Ytbgpgdhndanigaa
open Go.RowKit
attribute [local go_sem ↓] Go.wp_at_zero Go.wp_at_succ
def nameL (k : Int) : List UInt8 :=
 if k = 0 then [118,101,114,115,105,111,110] else if k = 1 then [118,101,114,97,99,107] else if k = 2 then [112,105,110,103] else if k = 3 then [112,111,110,103] else if k = 4 then [103,101,116,104,101,97,100,101,114,115] else if k = 5 then [104,101,97,100,101,114,115] else if k = 6 then [105,110,118] else if k = 7 then [103,101,116,100,97,116,97] else if k = 8 then [110,111,116,102,111,117,110,100] else if k = 9 then [109,101,114,107,108,101,98,108,111,99,107] else if k = 10 then [116,120] else []
def kindF (s : List UInt8) : Nat → Nat → Nat × Bool
 | 0,_ => (0,false)
 | f + 1,k => if nameL k = s then (k,true) else kindF s f (k + 1)
def kindN (s : List UInt8) : Nat × Bool:=kindF s 11 0
theorem nameL_out {k : Int} (h : ¬ (0 ≤ k∧k < 11)) : nameL k = []:=by
 unfold nameL
 repeat rw [if_neg (by omega)]
theorem kindF_spec (s : List UInt8) : ∀ (f k : Nat),(kindF s f k).2 = true → nameL ((kindF s f k).1 : Int) = s∧k ≤ (kindF s f k).1∧(kindF s f k).1 < k + f
 | 0,k,h => by cases h
 | f + 1,k,h => by
   unfold kindF at h ⊢
   split
   ·rename_i e;exact ⟨e,Nat.le_refl _,by simp only;omega⟩
   ·rename_i e
    rw [if_neg e] at h
    have:=kindF_spec s f (k + 1) h
    exact ⟨this.1,by omega,by omega⟩
theorem kindN_spec {s : List UInt8} (h : (kindN s).2 = true) : nameL ((kindN s).1 : Int) = s∧(kindN s).1 < 11:=by
 have:=kindF_spec s 11 0 h
 exact ⟨this.1,by have:=this.2.2;unfold kindN;omega⟩
set_option maxRecDepth 100000 in
set_option maxHeartbeats 4000000 in
theorem name_any (k : Int) (w : World) : Calls Try.prog 17 #[.int .i64 k] w fun e w' => e = .returned (.string (str (nameL k)))∧Keep w w':=by
 by_cases h0 : k = 0
 ·subst h0
  go_enter Try.func17,Try.ntmps17
  go_wp2
  exact bodyPost_ret (v:=.string (str (nameL 0))) (by simp [results,Try.results17];rfl) rfl ⟨rfl,Below.refl _ _⟩
 by_cases h1 : k = 1
 ·subst h1
  go_enter Try.func17,Try.ntmps17
  go_wp2
  exact bodyPost_ret (v:=.string (str (nameL 1))) (by simp [results,Try.results17];rfl) rfl ⟨rfl,Below.refl _ _⟩
 by_cases h2 : k = 2
 ·subst h2
  go_enter Try.func17,Try.ntmps17
  go_wp2
  exact bodyPost_ret (v:=.string (str (nameL 2))) (by simp [results,Try.results17];rfl) rfl ⟨rfl,Below.refl _ _⟩
 by_cases h3 : k = 3
 ·subst h3
  go_enter Try.func17,Try.ntmps17
  go_wp2
  exact bodyPost_ret (v:=.string (str (nameL 3))) (by simp [results,Try.results17];rfl) rfl ⟨rfl,Below.refl _ _⟩
 by_cases h4 : k = 4
 ·subst h4
  go_enter Try.func17,Try.ntmps17
  go_wp2
  exact bodyPost_ret (v:=.string (str (nameL 4))) (by simp [results,Try.results17];rfl) rfl ⟨rfl,Below.refl _ _⟩
 by_cases h5 : k = 5
 ·subst h5
  go_enter Try.func17,Try.ntmps17
  go_wp2
  exact bodyPost_ret (v:=.string (str (nameL 5))) (by simp [results,Try.results17];rfl) rfl ⟨rfl,Below.refl _ _⟩
 by_cases h6 : k = 6
 ·subst h6
  go_enter Try.func17,Try.ntmps17
  go_wp2
  exact bodyPost_ret (v:=.string (str (nameL 6))) (by simp [results,Try.results17];rfl) rfl ⟨rfl,Below.refl _ _⟩
 by_cases h7 : k = 7
 ·subst h7
  go_enter Try.func17,Try.ntmps17
  go_wp2
  exact bodyPost_ret (v:=.string (str (nameL 7))) (by simp [results,Try.results17];rfl) rfl ⟨rfl,Below.refl _ _⟩
 by_cases h8 : k = 8
 ·subst h8
  go_enter Try.func17,Try.ntmps17
  go_wp2
  exact bodyPost_ret (v:=.string (str (nameL 8))) (by simp [results,Try.results17];rfl) rfl ⟨rfl,Below.refl _ _⟩
 by_cases h9 : k = 9
 ·subst h9
  go_enter Try.func17,Try.ntmps17
  go_wp2
  exact bodyPost_ret (v:=.string (str (nameL 9))) (by simp [results,Try.results17];rfl) rfl ⟨rfl,Below.refl _ _⟩
 by_cases h10 : k = 10
 ·subst h10
  go_enter Try.func17,Try.ntmps17
  go_wp2
  exact bodyPost_ret (v:=.string (str (nameL 10))) (by simp [results,Try.results17];rfl) rfl ⟨rfl,Below.refl _ _⟩
 have d0 : (k == 0) = false:=by rw [beq_eq_false_iff_ne];exact h0
 have d1 : (k == 1) = false:=by rw [beq_eq_false_iff_ne];exact h1
 have d2 : (k == 2) = false:=by rw [beq_eq_false_iff_ne];exact h2
 have d3 : (k == 3) = false:=by rw [beq_eq_false_iff_ne];exact h3
 have d4 : (k == 4) = false:=by rw [beq_eq_false_iff_ne];exact h4
 have d5 : (k == 5) = false:=by rw [beq_eq_false_iff_ne];exact h5
 have d6 : (k == 6) = false:=by rw [beq_eq_false_iff_ne];exact h6
 have d7 : (k == 7) = false:=by rw [beq_eq_false_iff_ne];exact h7
 have d8 : (k == 8) = false:=by rw [beq_eq_false_iff_ne];exact h8
 have d9 : (k == 9) = false:=by rw [beq_eq_false_iff_ne];exact h9
 have d10 : (k == 10) = false:=by rw [beq_eq_false_iff_ne];exact h10
 have hn : nameL k = []:=nameL_out (by omega)
 rw [hn]
 clear h0 h1 h2 h3 h4 h5 h6 h7 h8 h9 h10 hn
 go_enter Try.func17,Try.ntmps17
 go_wp2
 exact bodyPost_ret (v:=.string (str [])) (by simp [results,Try.results17];rfl) rfl ⟨rfl,Below.refl _ _⟩
set_option maxRecDepth 100000 in
set_option maxHeartbeats 4000000 in
theorem kind_any (s : List UInt8) (w : World) : Calls Try.prog 11 #[.string (str s)] w fun e w' => e = .returned (.tuple #[iv (kindN s).1,.bool (kindN s).2])∧Keep w w':=by
 obtain ⟨R,hR⟩ : ∃ R,kindN s = R:=⟨_,rfl⟩
 have HR : Hid (kindF s (11 - 0) 0 = R):=Lib.hid hR
 have S1 : Hid (∀ f k,nameL ((k : Nat) : Int) = s → kindF s (f + 1) k = (k,true)):=Lib.hid fun f k h => by rw [kindF,if_pos h]
 have S2 : Hid (∀ f k,nameL ((k : Nat) : Int) ≠ s → kindF s (f + 1) k = kindF s f (k + 1)):=Lib.hid fun f k h => by rw [kindF,if_neg h]
 have S3 : Hid (∀ k,kindF s 0 k = (0,false)):=Lib.hid fun k => rfl
 have NM:=Lib.hid fun (k : Int) (y : World) => name_any k y
 rw [hR]
 clear hR
 go_enter Try.func11,Try.ntmps11
 go_wp2_with fail
 go_loopw [5] (fun i wr => ∃ k : Nat,k ≤ 11∧i = .int .i64 k∧Hid (kindF s (11 - k) k = R)∧Hid (Keep w wr)) (fun i _ => 11 - (intOf i).toNat)
 case atStart => exact ⟨0,Nat.zero_le _,rfl,HR,Lib.hid (Below.refl _ _)⟩
 case round =>
  obtain ⟨k,hk,rfl,HRk,HK⟩:=hrel
  by_cases hlt : k < 11
  ·have d1 : (k : Int) < 11:=by omega
   have hr:=HRk.out
   rw [show 11 - k = (11 - (k + 1)) + 1 by omega] at hr
   have N1:=Lib.hid fun (y : World) => name_any (k : Int) y
   clear HRk HR NM
   by_cases he : nameL (k : Int) = s
   ·rw [S1.out _ _ he] at hr
    subst hr
    rw [he] at N1
    have d2 : (str s == str s) = true:=str_eq_t rfl
    clear he
    go_wp2_with (go_at_call 17;refine (N1.out _).mono ?_;rintro e w1 ⟨rfl,k1⟩;have HK1:=Lib.hid (keep_trans HK.out k1);clear k1)
    exact bodyPost_ret (v:=.tuple #[iv k,.bool true]) (by simp [results,Try.results11]) rfl ⟨rfl,HK1.out⟩
   ·rw [S2.out _ _ he] at hr
    have HR2:=Lib.hid hr
    have d2 : (str (nameL (k : Int)) == str s) = false:=str_eq_f he
    have d3 : (nameL (k : Int) == s) = false:=by rw [beq_eq_false_iff_ne];exact he
    clear he hr
    generalize nameL (k : Int) = nk at *
    go_wp2_with (go_at_call 17;refine (N1.out _).mono ?_;rintro e w1 ⟨rfl,k1⟩;have HK1:=Lib.hid (keep_trans HK.out k1);clear k1)
    go_roundw
    case rel => exact ⟨k + 1,by omega,by go_num,HR2,HK1⟩
    case measure => simp [intOf];omega
  ·obtain rfl : k = 11:=by omega
   have d1 : ¬ ((11 : Nat) : Int) < 11:=by omega
   have hr:=HRk.out
   rw [show 11 - 11 = 0 from rfl,S3.out] at hr
   subst hr
   clear HRk HR
   go_wp2_with fail
   exact bodyPost_ret (v:=.tuple #[iv 0,.bool false]) (by simp [results,Try.results11]) rfl ⟨rfl,HK.out⟩
end Go.Proofs.Ytbgpgdhndanigaa
