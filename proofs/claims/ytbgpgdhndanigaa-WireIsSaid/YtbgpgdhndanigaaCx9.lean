/- Texts merged by pack.py: Kj, Pe, Rfs, Kk, Kl, Plq. -/
import Derived.Test.YtbgpgdhndanigaaCx5
import Derived.Test.YtbgpgdhndanigaaCx8
import Derived.Deep.CutBlock
import Derived.Test.YtbgpgdhndanigaaCx1
/- florinref08.Get. (printed by gen_kj.py) -/
set_option linter.unusedSimpArgs false
set_option linter.unusedVariables false
namespace Go.Proofs.Ytbgpgdhndanigaa
open Go.RowKit
attribute [local go_sem ↓] Go.wp_at_zero Go.wp_at_succ
structure RSt (S T D : Nat) (w0 w : World) (src : List Value) (ver : UInt32) (vi : Value) (ds : List InR) (vo : Value) (es : List OutR) : Prop where
 hs : Blk w S 157 src
 ht : Blk w T 37 [u32v ver,vi,vo,.int .u32 0]
 oi : w.ownsRow D 97 35 vi ds.length (ds.flatMap InR.cells)
 oo : w.ownsRow D 99 2 vo es.length (es.flatMap OutR.cells)
 ne : ∀ g,vi.ownBlock = some g → vo.ownBlock ≠ some g
 is : ∀ x ∈ ds,x.prev.length = 32∧(x.sc.length ≤ x.cap∧x.cap ≤ maxLen)∧RdN (GX S T D vi vo) w x.A (x.sc.map u8v)
 os : ∀ x ∈ es,x.val < 2 ^ 64∧(x.sc.length ≤ x.cap∧x.cap ≤ maxLen)∧RdN (GX S T D vi vo) w x.A (x.sc.map u8v)
 kx : KeepX (fun k => k = S ∨ k = T) w0 w
 st : S ≠ T∧S < D∧T < D∧D = w0.heap.size
section
variable {S T D : Nat} {w0 w w' : World} {src src' : List Value} {ver : UInt32} {vi vo : Value} {ds : List InR} {es : List OutR}
theorem RSt.size (h : RSt S T D w0 w src ver vi ds vo es) : w0.heap.size ≤ w.heap.size:=h.kx.2.2.2.1
theorem RSt.iS (h : RSt S T D w0 w src ver vi ds vo es) : ∀ g,vi.ownBlock = some g → D ≤ g∧g < w.heap.size:=fun g q => h.oi.lt g q
theorem RSt.oS (h : RSt S T D w0 w src ver vi ds vo es) : ∀ g,vo.ownBlock = some g → D ≤ g∧g < w.heap.size:=fun g q => h.oo.lt g q
theorem RSt.read (h : RSt S T D w0 w src ver vi ds vo es) (hb : Blk w' S 157 src') (k : KeepB S w w') : RSt S T D w0 w' src' ver vi ds vo es :=
 ⟨hb,h.ht.kx k (fun e => h.st.1 e.symm),own_kx h.oi k (fun g q e => by have:=(h.iS g q).1;have:=h.st.2.1;omega),own_kx h.oo k (fun g q e => by have:=(h.oS g q).1;have:=h.st.2.1;omega),h.ne,
  fun x hx => ⟨(h.is x hx).1,(h.is x hx).2.1,(h.is x hx).2.2.kx k (fun g _ q => .inl q) fun g _ q => q⟩,fun x hx => ⟨(h.os x hx).1,(h.os x hx).2.1,(h.os x hx).2.2.kx k (fun g _ q => .inl q) fun g _ q => q⟩,
  h.kx.trans k (fun _ _ q => .inl q),h.st⟩
theorem RSt.keep (h : RSt S T D w0 w src ver vi ds vo es) (k : Keep w w') : RSt S T D w0 w' src ver vi ds vo es:=h.read (h.hs.keep k) (KeepX.of k)
theorem RSt.far (h : RSt S T D w0 w src ver vi ds vo es) {g o : Nat} {v : Value} (hc : w0.cell? ⟨g,o,none⟩ = some v) (h1 : g ≠ S) (h2 : g ≠ T) : w.cell? ⟨g,o,none⟩ = some v :=
 h.kx.cell hc (by rintro (q | q);exact h1 q;exact h2 q)
theorem RSt.vers (h : RSt S T D w0 w src ver vi ds vo es) (ver' : UInt32) : RSt S T D w0 (w.setCell ⟨T,0,none⟩ (u32v ver')) src ver' vi ds vo es:=by
 have k2 : KeepX (fun k => k = T) w (w.setCell ⟨T,0,none⟩ (u32v ver')):=KeepB.set (KeepX.of (Below.refl _ _)) 0 _
 have hY : ∀ g,g < w.heap.size → g = T → GX S T D vi vo g:=fun g _ q => .inr (.inl q)
 exact ⟨h.hs.kx k2 h.st.1,h.ht.set_ 0 _,own_kx h.oi k2 (fun g q e => by have:=(h.iS g q).1;have:=h.st.2.2.1;omega),own_kx h.oo k2 (fun g q e => by have:=(h.oS g q).1;have:=h.st.2.2.1;omega),h.ne,
  fun x hx => ⟨(h.is x hx).1,(h.is x hx).2.1,(h.is x hx).2.2.kx k2 hY fun g _ q => q⟩,fun x hx => ⟨(h.os x hx).1,(h.os x hx).2.1,(h.os x hx).2.2.kx k2 hY fun g _ q => q⟩,
  h.kx.trans k2 (fun _ _ q => .inr q),h.st⟩
theorem RSt.inp (h : RSt S T D w0 w src ver vi ds vo es) {x : InR} {vi' : Value} (o' : w'.ownsRow D 97 35 vi' (ds.length + 1) (ds.flatMap InR.cells ++ x.cells)) (hg : w.grownBy w' vi.ownBlock) (hat : vi'.ownBlock = vi.ownBlock ∨ ∃ k,vi'.ownBlock = some k∧w.heap.size ≤ k)
  (hx : x.prev.length = 32∧(x.sc.length ≤ x.cap∧x.cap ≤ maxLen)∧RdN (GX S T D vi vo) w x.A (x.sc.map u8v)) : RSt S T D w0 (w'.setCell ⟨T,1,none⟩ vi') src ver vi' (ds ++ [x]) vo es:=by
 have hvT : vi.ownBlock ≠ some T:=fun q => by have:=(h.iS T q).1;have:=h.st.2.2.1;omega
 have hvS : vi.ownBlock ≠ some S:=fun q => by have:=(h.iS S q).1;have:=h.st.2.1;omega
 have k1 : KeepX (fun k => vi.ownBlock = some k) w w':=(KeepX.of (Below.refl _ _)).grown hg fun j _ q => q
 have k2 : KeepX (fun k => k = T ∨ vi.ownBlock = some k) w (w'.setCell ⟨T,1,none⟩ vi') :=
  ⟨k1.1,k1.2.1,k1.2.2.1,by simpa using k1.2.2.2.1,fun k hk hn => (Below.heap_setCell w' ⟨T,1,none⟩ vi' k (fun e => hn (.inl e))).trans (k1.2.2.2.2 k hk fun q => hn (.inr q))⟩
 have hXi : ∀ g,g < w.heap.size → GX S T D vi' vo g → GX S T D vi vo g:=fun g hlt q => by
  rcases q with q | q | q | q | q
  ·exact .inl q
  ·exact .inr (.inl q)
  ·rcases hat with e | ⟨m,e,hm⟩
   ·exact .inr (.inr (.inl (e ▸ q)))
   ·rw [e] at q;cases q;omega
  ·exact .inr (.inr (.inr (.inl q)))
  ·exact .inr (.inr (.inr (.inr q)))
 have hYi : ∀ g,g < w.heap.size → (g = T ∨ vi.ownBlock = some g) → GX S T D vi vo g:=fun g _ q => q.elim (fun q => .inr (.inl q)) fun q => .inr (.inr (.inl q))
 refine ⟨h.hs.kx k2 (by rintro (q | q);exact h.st.1 q;exact hvS q),?_,?_,own_kx h.oo k2 (fun g q e => ?_),fun g q e => ?_,fun y hy => ?_,fun y hy => ?_,?_,h.st⟩
 ·have:=(h.ht.kx k1 hvT).set_ 1 vi'
  exact this
 ·exact own_eq (ownsRow_setCell_below o' (a:=⟨T,1,none⟩) h.st.2.2.1 _) (by rw [List.length_append];rfl) (by rw [List.flatMap_append];simp)
 ·rcases e with e | e
  ·have:=(h.oS g q).1;have:=h.st.2.2.1;omega
  ·exact h.ne g e q
 ·rcases hat with e' | ⟨m,e',hm⟩
  ·exact h.ne g (e' ▸ q) e
  ·rw [e'] at q;cases q
   have:=(h.oS _ e).2;omega
 ·rcases List.mem_append.1 hy with q | q
  ·obtain ⟨a,b,c⟩:=h.is y q
   exact ⟨a,b,c.kx k2 hYi hXi⟩
  ·obtain rfl : y = x:=by simpa using q
   exact ⟨hx.1,hx.2.1,hx.2.2.kx k2 hYi hXi⟩
 ·obtain ⟨a,b,c⟩:=h.os y hy
  exact ⟨a,b,c.kx k2 hYi hXi⟩
 ·exact h.kx.trans k2 fun j hj q => by
   rcases q with q | q
   ·exact .inr q
   ·have:=(h.iS j q).1;have:=h.st.2.2.2;omega
theorem RSt.outp (h : RSt S T D w0 w src ver vi ds vo es) {x : OutR} {vo' : Value} (o' : w'.ownsRow D 99 2 vo' (es.length + 1) (es.flatMap OutR.cells ++ x.cells)) (hg : w.grownBy w' vo.ownBlock) (hat : vo'.ownBlock = vo.ownBlock ∨ ∃ k,vo'.ownBlock = some k∧w.heap.size ≤ k)
  (hx : x.val < 2 ^ 64∧(x.sc.length ≤ x.cap∧x.cap ≤ maxLen)∧RdN (GX S T D vi vo) w x.A (x.sc.map u8v)) : RSt S T D w0 (w'.setCell ⟨T,2,none⟩ vo') src ver vi ds vo' (es ++ [x]):=by
 have hvT : vo.ownBlock ≠ some T:=fun q => by have:=(h.oS T q).1;have:=h.st.2.2.1;omega
 have hvS : vo.ownBlock ≠ some S:=fun q => by have:=(h.oS S q).1;have:=h.st.2.1;omega
 have k1 : KeepX (fun k => vo.ownBlock = some k) w w':=(KeepX.of (Below.refl _ _)).grown hg fun j _ q => q
 have k2 : KeepX (fun k => k = T ∨ vo.ownBlock = some k) w (w'.setCell ⟨T,2,none⟩ vo') :=
  ⟨k1.1,k1.2.1,k1.2.2.1,by simpa using k1.2.2.2.1,fun k hk hn => (Below.heap_setCell w' ⟨T,2,none⟩ vo' k (fun e => hn (.inl e))).trans (k1.2.2.2.2 k hk fun q => hn (.inr q))⟩
 have hXi : ∀ g,g < w.heap.size → GX S T D vi vo' g → GX S T D vi vo g:=fun g hlt q => by
  rcases q with q | q | q | q | q
  ·exact .inl q
  ·exact .inr (.inl q)
  ·exact .inr (.inr (.inl q))
  ·rcases hat with e | ⟨m,e,hm⟩
   ·exact .inr (.inr (.inr (.inl (e ▸ q))))
   ·rw [e] at q;cases q;omega
  ·exact .inr (.inr (.inr (.inr q)))
 have hYi : ∀ g,g < w.heap.size → (g = T ∨ vo.ownBlock = some g) → GX S T D vi vo g:=fun g _ q => q.elim (fun q => .inr (.inl q)) fun q => .inr (.inr (.inr (.inl q)))
 refine ⟨h.hs.kx k2 (by rintro (q | q);exact h.st.1 q;exact hvS q),?_,own_kx h.oi k2 (fun g q e => ?_),?_,fun g q e => ?_,fun y hy => ?_,fun y hy => ?_,?_,h.st⟩
 ·have:=(h.ht.kx k1 hvT).set_ 2 vo'
  exact this
 ·rcases e with e | e
  ·have:=(h.iS g q).1;have:=h.st.2.2.1;omega
  ·exact h.ne g q e
 ·exact own_eq (ownsRow_setCell_below o' (a:=⟨T,2,none⟩) h.st.2.2.1 _) (by rw [List.length_append];rfl) (by rw [List.flatMap_append];simp)
 ·rcases hat with e' | ⟨m,e',hm⟩
  ·exact h.ne g q (e' ▸ e)
  ·rw [e'] at e;cases e
   have:=(h.iS _ q).2;omega
 ·obtain ⟨a,b,c⟩:=h.is y hy
  exact ⟨a,b,c.kx k2 hYi hXi⟩
 ·rcases List.mem_append.1 hy with q | q
  ·obtain ⟨a,b,c⟩:=h.os y q
   exact ⟨a,b,c.kx k2 hYi hXi⟩
  ·obtain rfl : y = x:=by simpa using q
   exact ⟨hx.1,hx.2.1,hx.2.2.kx k2 hYi hXi⟩
 ·exact h.kx.trans k2 fun j hj q => by
   rcases q with q | q
   ·exact .inr q
   ·have:=(h.oS j q).1;have:=h.st.2.2.2;omega
end
theorem RSt.tx {S T D r : Nat} {w0 w w' : World} {src : List Value} {ver lock : UInt32} {iA oA : Option Addr} {ic oc : Nat} {ds : List InR} {es : List OutR} (h : RSt S T D w0 w src ver (.slice iA ds.length ic) ds (.slice oA es.length oc) es)
  (hz : Blk w r 37 [.int .u32 0,.slice none 0 0,.slice none 0 0,.int .u32 0]) (hr : r < D) (k : KeepX (fun k => k = T ∨ k = r) w w') (hi : ds.length ≤ ic∧ic ≤ maxLen) (ho : es.length ≤ oc∧oc ≤ maxLen) :
  TxR.at ⟨ver,iA,ds,ic,oA,es,oc,lock⟩ w'∧∀ W,MidF (fun _ => True) w0 w' W → TxR.at ⟨ver,iA,ds,ic,oA,es,oc,lock⟩ W:=by
 have o1:=own_kx h.oi k (fun g q e => by have:=(h.iS g q).1;have:=h.st.2.2.1;omega)
 have o2:=own_kx h.oo k (fun g q e => by have:=(h.oS g q).1;have:=h.st.2.2.1;omega)
 have hY : ∀ g,g < w.heap.size → (g = T ∨ g = r) → GX S T D (.slice iA ds.length ic) (.slice oA es.length oc) g:=fun g _ q => q.elim (fun q => .inr (.inl q)) (fun q => .inr (.inr (.inr (.inr (by omega)))))
 have hX : ∀ g,g < w.heap.size → g < w0.heap.size → GX S T D (.slice iA ds.length ic) (.slice oA es.length oc) g:=fun g _ q => .inr (.inr (.inr (.inr (by have:=h.st.2.2.2;omega))))
 have hM : ∀ W,MidF (fun _ => True) w0 w' W → TxR.at ⟨ver,iA,ds,ic,oA,es,oc,lock⟩ W:=fun W hm =>
  ⟨own_mid o1 (by have:=h.st.2.2.2;omega) hm,own_mid o2 (by have:=h.st.2.2.2;omega) hm,hi,ho,fun x hx => ⟨(h.is x hx).1,(h.is x hx).2.1,((h.is x hx).2.2.kx k hY hX).mid hm⟩,fun x hx => ⟨(h.os x hx).1,(h.os x hx).2.1,((h.os x hx).2.2.kx k hY hX).mid hm⟩⟩
 exact ⟨hM w' ⟨trivial,fun _ _ _ => rfl⟩,hM⟩
theorem own_capR {w : World} {base : Nat} {e : TypeId} {size n c : Nat} {A : Option Addr} {xs : List Value} (h : w.ownsRow base e size (.slice A n c) n xs) : n ≤ c∧c ≤ maxLen:=by
 obtain ⟨_,_,e,h1,h2,-⟩:=own_form h
 injection e with _ _ e
 subst e
 exact ⟨h1,h2⟩
theorem rtx_info : (Try.prog.info? 37).map (·.size) = some 4:=by kernel_rfl
theorem rin_built1 (p : List UInt8) (ds : Array Value) (hl : p.length = 32) (hd : HashA p ds) : Try.prog.built 97 [(0,.agg ds)] = some (InR.cells ⟨p,0,none,[],0,0⟩).toArray:=by
 obtain rfl:=hd.e
 obtain ⟨a0,a1,a2,a3,a4,a5,a6,a7,a8,a9,b0,b1,b2,b3,b4,b5,b6,b7,b8,b9,c0,c1,c2,c3,c4,c5,c6,c7,c8,c9,d0,d1,rfl⟩:=list32b hl
 show _ = _
 kernel_rfl
set_option maxRecDepth 100000 in
set_option maxHeartbeats 8000000 in
theorem rtget_any (A : Option Addr) (b : List UInt8) (c : Nat) (w : World) (hl : b.length ≤ 1000000000) (hc : b.length ≤ c) (hcm : c ≤ maxLen) (hr : Rd w A (b.map u8v)) :
  Calls Try.prog 84 #[.slice A b.length c] w (Tgd (tgetN b) w):=by
 have HRB:=Lib.hid hr
 obtain ⟨L,hL⟩ : ∃ L,b.length = L:=⟨_,rfl⟩
 have HLL:=Lib.hid hL
 have NUM : Hid (∀ (S m : Nat) (p : SP) (y : World),Keep w y → w.heap.size ≤ S → Blk y S 157 (srcL A L c p) → p.1 ≤ L → m ≤ 8 → 0 < m →
   Calls Try.prog 90 #[.pointer (some ⟨S,0,none⟩),iv m] y (Red S 157 (srcL A L c (tkP b m p)) (u64v (nmV b m p)) y)):=Lib.hid fun S m p y hy hS h2 h3 h4 h5 => by
  rw [← hL] at h2 h3 ⊢
  exact r8num_any S A b c p m y h2 h3 hc hl hcm (RdX.of_old hr (fun k q => by cases q;exact hS) |>.keep hy) h4 h5
 have CNT : Hid (∀ (S : Nat) (p : SP) (y : World),Keep w y → w.heap.size ≤ S → Blk y S 157 (srcL A L c p) → p.1 ≤ L →
   Calls Try.prog 91 #[.pointer (some ⟨S,0,none⟩),u64v 1000] y (Red S 157 (srcL A L c (ctP b 1000 p)) (iv (ctV b 1000 p)) y)):=Lib.hid fun S p y hy hS h2 h3 => by
  rw [← hL] at h2 h3 ⊢
  exact r8count_any S A b c p 1000 y h2 h3 hc hl hcm (RdX.of_old hr (fun k q => by cases q;exact hS) |>.keep hy) (by omega)
 have SCR : Hid (∀ (S : Nat) (p : SP) (y : World),Keep w y → w.heap.size ≤ S → Blk y S 157 (srcL A L c p) → p.1 ≤ L →
   Calls Try.prog 94 #[.pointer (some ⟨S,0,none⟩)] y (fun e w' => ∃ A' c',e = .returned (.slice A' (scV b p).length c')∧w'.ownsRow y.heap.size 5 1 (.slice A' (scV b p).length c') (scV b p).length ((scV b p).map u8v)∧Blk w' S 157 (srcL A L c (scP b p))∧KeepB S y w')):=Lib.hid fun S p y hy hS h2 h3 => by
  rw [← hL] at h2 h3 ⊢
  exact r8script_any S A b c p y h2 h3 hc hl hcm (RdX.of_old hr (fun k q => by cases q;exact hS) |>.keep hy)
 have HSH : Hid (∀ (S : Nat) (p : SP) (y : World),Keep w y → w.heap.size ≤ S → Blk y S 157 (srcL A L c p) → p.1 ≤ L →
   Calls Try.prog 93 #[.pointer (some ⟨S,0,none⟩)] y (Had S 157 (srcL A L c (tkP b 32 p)) (padH (tkB b 32 p)) y)):=Lib.hid fun S p y hy hS h2 h3 => by
  rw [← hL] at h2 h3 ⊢
  exact r8hash_any S A b c p y h2 h3 hc hl hcm (RdX.of_old hr (fun k q => by cases q;exact hS) |>.keep hy)
 have FAI : Hid (∀ (S : Nat) (p : SP) (y : World),Blk y S 157 (srcL A L c p) → Calls Try.prog 92 #[.pointer (some ⟨S,0,none⟩),iv 2] y (Red S 157 (srcL A L c (flP 2 p)) (.tuple #[]) y)):=Lib.hid fun S p y h2 => by
  rw [← hL] at h2 ⊢
  exact r8fail_any S A b c p 2 y h2
 obtain ⟨ver,hver⟩ : ∃ v : UInt32,v = UInt32.ofNat (nmV b 4 (0,0)):=⟨_,rfl⟩
 have hl0 : (tkP b 4 (0,0)).1 ≤ L:=by rw [← hL];exact tkP_le (Nat.zero_le _)
 have HRR : Hid (tgetN b = if (tgetS b).2.2 = 0 then ((tgetS b).1,(tgetS b).2.1,0) else (txZ,0,(tgetS b).2.2)):=Lib.hid rfl
 rw [tgetS_eq,← hver] at HRR
 generalize tgetN b = R at *
 have HVER:=Lib.hid hver
 rw [hL] at hl hc ⊢
 clear hr hver hL
 go_enter Try.func84,Try.ntmps84
 go_upto_region 2 with fail
 obtain ⟨w1,hw1⟩ : ∃ x,x = (w.alloc (.cells #[.int .u32 0,.slice none 0 0,.slice none 0 0,.int .u32 0] 37)).alloc (.cells #[.slice A L c,.int .i64 0,.int .i64 0] 157):=⟨_,rfl⟩
 have HZ1 : Hid (Blk w1 w.heap.size 37 [.int .u32 0,.slice none 0 0,.slice none 0 0,.int .u32 0]):=by rw [hw1];exact Lib.hid ((Blk.new w 37 [.int .u32 0,.slice none 0 0,.slice none 0 0,.int .u32 0]).alloc _)
 have HS1 : Hid (Blk w1 (w.heap.size + 1) 157 (srcL A L c (0,0))):=by
  rw [hw1]
  have q:=Blk.new (w.alloc (.cells #[.int .u32 0,.slice none 0 0,.slice none 0 0,.int .u32 0] 37)) 157 [.slice A L c,.int .i64 0,.int .i64 0]
  rw [World.size_alloc] at q
  exact Lib.hid q
 have HK1 : Hid (Keep w w1):=by rw [hw1];exact Lib.hid (keep_trans (keep_new _ _) (keep_new _ _))
 rw [← hw1]
 clear hw1
 obtain ⟨r,hr⟩ : ∃ r,w.heap.size = r:=⟨_,rfl⟩
 obtain ⟨S,hS⟩ : ∃ S,r + 1 = S:=⟨_,rfl⟩
 have HRW : Hid (w.heap.size = r):=Lib.hid hr
 have HWS : Hid (w.heap.size ≤ S):=Lib.hid (by omega)
 rw [hr,hS] at HS1;rw [hr] at HZ1
 simp only [hr,hS]
 have l1 : r < S:=by omega
 clear hr hS
 obtain ⟨V0,hV0⟩ : ∃ V,nmV b 4 (0,0) = V:=⟨_,rfl⟩
 have hvv : (V0 : Int) % 4294967296 = (ver.toNat : Int):=by rw [HVER.out,hV0,UInt32.toNat_ofNat'];omega
 have hvw : IntKind.u32.wrap (V0 : Int) = (ver.toNat : Int):=by rw [IntKind.wrap_u32];exact hvv
 have N0:=Lib.hid (NUM.out S 4 (0,0) w1 HK1.out HWS.out HS1.out (Nat.zero_le _) (by omega) (by omega))
 rw [hV0] at N0
 obtain ⟨p1,hp1⟩ : ∃ p,tkP b 4 (0,0) = p:=⟨_,rfl⟩
 rw [hp1] at hl0 HRR N0
 clear hp1 hV0 HVER
 go_wp2_with fail
 refine N0.out.mono ?_
 rintro e w2 ⟨rfl,hb2,hk2⟩
 have HS2:=Lib.hid hb2;have HZ2:=Lib.hid (hk2.blk HZ1.out (by omega));have HK2 : Hid (Keep w w2):=Lib.hid (hk2.keep HK1.out (fun j q => by have:=HWS.out;omega))
 clear hb2 hk2 HS1 HZ1 HK1 N0
 go_upto_region 3 with fail
 obtain ⟨w0,hw0⟩ : ∃ x,x = w2.alloc (.cells #[.int .u32 ver.toNat,.slice none 0 0,.slice none 0 0,.int .u32 0] 37):=⟨_,rfl⟩
 have HT0 : Hid (Blk w0 w2.heap.size 37 [u32v ver,.slice none 0 0,.slice none 0 0,.int .u32 0]):=by rw [hw0];exact Lib.hid (Blk.new w2 _ [u32v ver,.slice none 0 0,.slice none 0 0,.int .u32 0])
 have HS0 : Hid (Blk w0 S 157 (srcL A L c p1)):=by rw [hw0];exact Lib.hid (HS2.out.alloc _)
 have HZ0 : Hid (Blk w0 r 37 [.int .u32 0,.slice none 0 0,.slice none 0 0,.int .u32 0]):=by rw [hw0];exact Lib.hid (HZ2.out.alloc _)
 have HK0 : Hid (Keep w w0):=by rw [hw0];exact Lib.hid (keep_trans HK2.out (keep_new _ _))
 have hTlt : w2.heap.size < w0.heap.size:=HT0.out.lt
 have hST : S < w2.heap.size:=HS2.out.lt
 rw [← hw0]
 clear hw0 HS2 HZ2 HK2 hvv hvw
 obtain ⟨T,hT⟩ : ∃ T,w2.heap.size = T:=⟨_,rfl⟩
 rw [hT] at HT0 hTlt hST
 simp only [hT]
 clear hT
 have G2 : Hid (RSt S T w0.heap.size w0 w0 (srcL A L c p1) ver (.slice none 0 0) [] (.slice none 0 0) []):=Lib.hid ⟨HS0.out,HT0.out,World.ownsRow_nil _ _ _ _,World.ownsRow_nil _ _ _ _,(fun g q => by cases q),(fun x hx => by cases hx),(fun x hx => by cases hx),KeepX.of (Below.refl _ _),by omega,by omega,by omega,rfl⟩
 clear HS0 HT0
 have KW : Hid (∀ y src ver vi ds vo es,RSt S T w0.heap.size w0 y src ver vi ds vo es → Keep w y):=Lib.hid fun y src ver vi ds vo es h => h.kx.keep HK0.out (fun j q => by have:=HWS.out;rcases q with q | q <;> omega)
 have C2:=Lib.hid (CNT.out S p1 w0 (KW.out _ _ _ _ _ _ _ G2.out) HWS.out G2.out.hs hl0)
 obtain ⟨n,hn⟩ : ∃ n,ctV b 1000 p1 = n:=⟨_,rfl⟩
 obtain ⟨p2,hp2⟩ : ∃ p,ctP b 1000 p1 = p:=⟨_,rfl⟩
 have hn1000 : n ≤ 1000:=by rw [← hn];exact ctV_le _ _ _
 have hl2 : p2.1 ≤ L:=by rw [← hp2,← HLL.out];exact ctP_le (by rw [HLL.out];exact hl0)
 rw [hn,hp2] at C2 HRR
 clear hn hp2
 go_wp2_with fail
 refine C2.out.mono ?_
 rintro e w3 ⟨rfl,hb3,hk3⟩
 have G3:=Lib.hid (G2.out.read hb3 hk3)
 clear hb3 hk3 C2 G2
 obtain ⟨p3,hp3⟩ : ∃ p,cntE n p2 = p:=⟨_,rfl⟩
 have hl3 : p3.1 ≤ L:=by rw [← hp3];unfold cntE;split <;> exact hl2
 rw [hp3] at HRR
 have HP3:=Lib.hid hp3
 clear hp3 hl0
 go_upto_if 23 with fail
 go_cut [7] (fun v wx => v = .int .i64 n∧Hid (RSt S T w0.heap.size w0 wx (srcL A L c p3) ver (.slice none 0 0) [] (.slice none 0 0) []))
 case first =>
  have hp3:=HP3.out
  unfold cntE at hp3
  by_cases qn : n = 0
  ·have d2 : ((n : Int) == 0) = true:=by rw [qn];rfl
   have e3 : flP 2 p2 = p3:=by
    rw [← hp3];unfold flP
    by_cases q0 : p2.2 = 0
    ·rw [if_pos q0,if_pos ⟨q0,qn⟩]
    ·rw [if_neg q0,if_neg (fun q => q0 q.1)]
   have F1:=Lib.hid (FAI.out S p2 w3 G3.out.hs)
   rw [e3] at F1
   clear hp3 e3 qn
   go_wp2_with fail
   refine F1.out.mono ?_
   rintro e w4 ⟨rfl,hb4,hk4⟩
   have G4:=Lib.hid (G3.out.read hb4 hk4)
   clear hb4 hk4 F1
   go_wp2_with fail
   go_meet
   exact ⟨rfl,G4⟩
  ·have d2 : ((n : Int) == 0) = false:=by rw [beq_eq_false_iff_ne];omega
   rw [if_neg (fun q => qn q.2)] at hp3
   subst hp3
   clear qn
   go_wp2_with fail
   go_meet
   exact ⟨rfl,G3⟩
 case rest =>
  obtain ⟨rfl,G4⟩:=hcut
  clear HP3 G3 hl2
  have HI0 : Hid (insS b n p3 = (([] : List InR).map InR.pl ++ (insS b (n - 0) p3).1,(insS b (n - 0) p3).2)):=Lib.hid (by simp)
  obtain ⟨zs,hz1,hz2,hz3⟩:=zrin_letter
  go_upto_block 0 with fail
  go_cut [7] (fun v wx => v = .int .i64 n∧∃ (vi : Value) (ds : List InR),Hid (RSt S T w0.heap.size w0 wx (srcL A L c (insS b n p3).2) ver vi ds (.slice none 0 0) [])∧Hid (ds.map InR.pl = (insS b n p3).1)∧ds.length ≤ 1000)
  case first =>
   go_wp2_with fail
   go_loopw [8] (fun x wr => ∃ (i : Nat) (p : SP) (vi : Value) (ds : List InR),i ≤ n∧x = .int .i64 i∧ds.length = i∧p.1 ≤ L∧Hid (RSt S T w0.heap.size w0 wr (srcL A L c p) ver vi ds (.slice none 0 0) [])∧Hid (insS b n p3 = (ds.map InR.pl ++ (insS b (n - i) p).1,(insS b (n - i) p).2))) (fun x _ => n - (intOf x).toNat)
   case atStart => exact ⟨0,p3,.slice none 0 0,[],Nat.zero_le _,rfl,rfl,hl3,G4,HI0⟩
   case round =>
    obtain ⟨i,p,vi,ds,hi,rfl,hdl,hpl,Gr,HIr⟩:=hrel
    obtain ⟨a,e0⟩:=p
    have HDL:=Lib.hid hdl
    have s2:=Gr.out.hs.cell 2
    try simp only [List.getElem?_cons_succ,List.getElem?_cons_zero] at  s2
    clear hdl
    by_cases hlt : i < n
    case neg =>
     obtain rfl : i = n:=by omega
     have d1 : ¬ (i : Int) < i:=by omega
     have hE:=HIr.out
     rw [Nat.sub_self] at hE
     have HE : Hid (insS b i p3 = (ds.map InR.pl,(a,e0))):=Lib.hid (by rw [hE];simp [insS])
     clear hE HIr
     go_wp2_with fail
     go_meet
     exact ⟨rfl,vi,ds,by rw [HE.out];exact Gr,Lib.hid (by rw [HE.out]),by rw [HDL.out];omega⟩
    by_cases h0 : e0 = 0
    case neg =>
     have d1 : (i : Int) < n:=by omega
     have d2 : (e0 == 0) = false:=by rw [beq_eq_false_iff_ne];exact h0
     have HE : Hid (insS b n p3 = (ds.map InR.pl,(a,e0))):=Lib.hid (by rw [HIr.out,insS_err b _ h0];simp)
     clear HIr h0
     go_wp2_with fail
     go_meet
     exact ⟨rfl,vi,ds,by rw [HE.out];exact Gr,Lib.hid (by rw [HE.out]),by rw [HDL.out];omega⟩
    subst h0
    have d1 : (i : Int) < n:=by omega
    have HIn : Hid (insS b n p3 = ((ds ++ [(inS b (a,0)).1]).map InR.pl ++ (insS b (n - (i + 1)) (inS b (a,0)).2).1,(insS b (n - (i + 1)) (inS b (a,0)).2).2)):=Lib.hid (by
     rw [HIr.out,show n - i = (n - (i + 1)) + 1 by omega]
     show _ = _
     rw [insS,if_pos rfl]
     simp [InR.pl,inS])
    have KR:=Lib.hid (KW.out _ _ _ _ _ _ _ Gr.out)
    have KRB : Hid (∀ y,KeepB S wr y → Keep w y):=Lib.hid fun y k => k.keep KR.out fun j q => by have:=HWS.out;omega
    clear HIr
    -- the hash
    have H1:=Lib.hid (HSH.out S (a,0) wr KR.out HWS.out Gr.out.hs hpl)
    have hpd : (padH (tkB b 32 (a,0))).length = 32:=padH_len
    obtain ⟨PV,hPV⟩ : ∃ l,padH (tkB b 32 (a,0)) = l:=⟨_,rfl⟩
    obtain ⟨q1,hq1⟩ : ∃ p,tkP b 32 (a,0) = p:=⟨_,rfl⟩
    have hq1l : q1.1 ≤ L:=by rw [← hq1,← HLL.out];exact tkP_le (by rw [HLL.out];exact hpl)
    rw [hPV] at H1 hpd
    rw [hq1] at H1
    have HPV:=Lib.hid hPV;have HQ1:=Lib.hid hq1
    clear hPV hq1
    go_wp2_with fail
    refine H1.out.mono ?_
    rintro e w7 ⟨hs,rfl,hhs,hb7,hk7⟩
    have HBU:=Lib.hid (rin_built1 PV hs hpd hhs)
    obtain ⟨xs0,hxs0⟩ : ∃ x,(InR.cells ⟨PV,0,none,[],0,0⟩).toArray = x:=⟨_,rfl⟩
    have hxz0 : xs0.size = 35:=by rw [← hxs0,List.size_toArray];exact InR.len hpd
    have hxi0 : (Try.prog.info? 97).map (·.size) = some xs0.size:=by rw [hxz0];exact rin_info
    have hxn0 : ¬ xs0 = #[]:=fun q => by rw [q] at hxz0;cases hxz0
    have hst : (storeCells ⟨w7.heap.size,0,none⟩ xs0.toList 0).run Try.prog (w7.alloc (.cells zs 97)) = .ok () (w7.alloc (.cells xs0 97)):=run_storeCells_new (P:=Try.prog) w7 97 zs xs0 hxi0 (hz1.trans hxz0.symm) (by have:=all_oneCell_toArray (InB.of (x:=⟨PV,0,none,[],0,0⟩) hpd).o;rwa [Array.toArray_toList,hxs0] at this)
    rw [hxs0] at HBU
    have HXS0 : Hid (xs0.toList = InR.cells ⟨PV,0,none,[],0,0⟩):=Lib.hid (by rw [← hxs0])
    have HK7:=Lib.hid hk7;have HS7:=Lib.hid hb7
    clear hhs hb7 hk7 H1 s2 hxs0
    go_upto_region 10 with ((with_reducible refine list_bldg _ xs0 (Eq.trans ?_ rfl) HBU.out (Eq.trans ?_ rfl) ?_);rfl;rfl)
    obtain ⟨w8,hw8⟩ : ∃ x,x = w7.alloc (.cells xs0 97):=⟨_,rfl⟩
    have HX8 : Hid (Blk w8 w7.heap.size 97 (InR.cells ⟨PV,0,none,[],0,0⟩)):=by rw [hw8,← HXS0.out];exact Lib.hid (Blk.new w7 _ xs0.toList)
    have HS8 : Hid (Blk w8 S 157 (srcL A L c q1)):=by rw [hw8];exact Lib.hid (HS7.out.alloc _)
    have HK8 : Hid (KeepB S wr w8):=by rw [hw8];exact Lib.hid (HK7.out.trans (KeepX.of (keep_new _ _)) fun _ _ q => q)
    have hgS : w7.heap.size ≠ S:=by have:=HS7.out.lt;omega
    have hgr : wr.heap.size ≤ w7.heap.size:=HK7.out.2.2.2.1
    rw [← hw8]
    clear hw8 HS7 HK7 hst hxz0 hxi0 hxn0 HXS0 HBU
    obtain ⟨gi,hgi⟩ : ∃ g,w7.heap.size = g:=⟨_,rfl⟩
    rw [hgi] at HX8 hgS hgr
    simp only [hgi]
    clear hgi
    obtain ⟨ix,hix⟩ : ∃ v : UInt32,v = UInt32.ofNat (nmV b 4 q1):=⟨_,rfl⟩
    obtain ⟨V1,hV1⟩ : ∃ V,nmV b 4 q1 = V:=⟨_,rfl⟩
    have hvv : (V1 : Int) % 4294967296 = (ix.toNat : Int):=by rw [hix,hV1,UInt32.toNat_ofNat'];omega
    have hvw : IntKind.u32.wrap (V1 : Int) = (ix.toNat : Int):=by rw [IntKind.wrap_u32];exact hvv
    have N1:=Lib.hid (NUM.out S 4 q1 w8 (KRB.out _ HK8.out) HWS.out HS8.out hq1l (by omega) (by omega))
    obtain ⟨q2,hq2⟩ : ∃ p,tkP b 4 q1 = p:=⟨_,rfl⟩
    have hq2l : q2.1 ≤ L:=by rw [← hq2,← HLL.out];exact tkP_le (by rw [HLL.out];exact hq1l)
    rw [hV1,hq2] at N1
    have HIX:=Lib.hid hix;have HQ2:=Lib.hid hq2
    clear hix hV1 hq2
    go_upto_region 11 with (go_at_call 90;refine N1.out.mono ?_;rintro e w9 ⟨rfl,hb9,hk9⟩;have HX9:=Lib.hid (hk9.blk HX8.out hgS);have HK9 : Hid (KeepB S wr w9):=Lib.hid (HK8.out.trans hk9 fun _ _ q => q);have HS9:=Lib.hid hb9;have xc:=HX9.out.cell 32;have fc:=HX9.out.frozen 32;rw [(InR.cell32 _ hpd).1] at xc;clear hb9 hk9)
    obtain ⟨w10,hwn⟩ : ∃ x,x = w9.setCell ⟨gi,32,none⟩ (.int .u32 ix.toNat):=⟨_,rfl⟩
    have HX10 : Hid (Blk w10 gi 97 (InR.cells ⟨PV,ix,none,[],0,0⟩)):=by rw [hwn];exact Lib.hid (by have q:=HX9.out.set_ 32 (u32v ix);rw [InR.set32 _ hpd] at q;exact q)
    have HS10 : Hid (Blk w10 S 157 (srcL A L c q2)):=by rw [hwn];exact Lib.hid (HS9.out.far (fun q => hgS q.symm) _)
    have HK10 : Hid (KeepB S wr w10):=by rw [hwn];exact Lib.hid (HK9.out.new (grown_set (grown_refl w9 _)) hgr)
    rw [← hwn]
    clear hwn xc fc HX8 HS8 HK8 HX9 HS9 HK9 N1 hvv hvw
    -- the script
    have S1:=SCR.out S q2 w10 (KRB.out _ HK10.out) HWS.out HS10.out hq2l
    have hsl:=scV_le b q2
    obtain ⟨sc,hsc⟩ : ∃ s,scV b q2 = s:=⟨_,rfl⟩
    obtain ⟨q3,hq3⟩ : ∃ p,scP b q2 = p:=⟨_,rfl⟩
    have hq3l : q3.1 ≤ L:=by rw [← hq3,← HLL.out];exact scP_le (by rw [HLL.out];exact hq2l)
    rw [hsc] at S1 hsl
    rw [hq3] at S1
    have S1:=Lib.hid S1
    have HSC:=Lib.hid hsc;have HQ3:=Lib.hid hq3
    have hg10:=HX10.out.lt
    clear hsc hq3
    go_upto_region 12 with (go_at_call 94;refine S1.out.mono ?_;rintro e w11 ⟨Av,cv,rfl,hown11,hb11,hk11⟩;obtain ⟨hcv1,hcv2⟩:=own_capR hown11;have HX11:=Lib.hid (hk11.blk HX10.out hgS);have HK11 : Hid (KeepB S wr w11):=Lib.hid (HK10.out.trans hk11 fun _ _ q => q);have HS11:=Lib.hid hb11;have OW11:=Lib.hid hown11;have x33:=HX11.out.cell 33;have f33:=HX11.out.frozen 33;rw [(InR.cell32 _ hpd).2.1] at x33;clear hb11 hk11 hown11)
    obtain ⟨w12,hw12⟩ : ∃ w12,w12 = w11.setCell ⟨gi,33,none⟩ (.slice Av sc.length cv):=⟨_,rfl⟩
    have HX12 : Hid (Blk w12 gi 97 (InR.cells ⟨PV,ix,Av,sc,cv,0⟩)):=by rw [hw12];exact Lib.hid (by have q:=HX11.out.set_ 33 (.slice Av sc.length cv);rw [InR.set33 _ hpd] at q;exact q)
    have HS12 : Hid (Blk w12 S 157 (srcL A L c q3)):=by rw [hw12];exact Lib.hid (HS11.out.far (fun q => hgS q.symm) _)
    have HK12 : Hid (KeepB S wr w12):=by rw [hw12];exact Lib.hid (HK11.out.new (grown_set (grown_refl w11 _)) hgr)
    have OW12 : Hid (w12.ownsRow w10.heap.size 5 1 (.slice Av sc.length cv) sc.length (sc.map u8v)):=by rw [hw12];exact Lib.hid (ownsRow_setCell_below OW11.out (a:=⟨gi,33,none⟩) hg10 _)
    have HWB : Hid (wr.heap.size ≤ w10.heap.size):=Lib.hid HK10.out.2.2.2.1
    rw [← hw12]
    clear hw12 x33 f33 HX10 HS10 HK10 HX11 HS11 HK11 OW11 S1
    obtain ⟨B10,hB10⟩ : ∃ k,w10.heap.size = k:=⟨_,rfl⟩
    rw [hB10] at OW12 hg10 HWB
    clear hB10
    obtain ⟨sq,hsq⟩ : ∃ v : UInt32,v = UInt32.ofNat (nmV b 4 q3):=⟨_,rfl⟩
    obtain ⟨V1,hV1⟩ : ∃ V,nmV b 4 q3 = V:=⟨_,rfl⟩
    have hvv : (V1 : Int) % 4294967296 = (sq.toNat : Int):=by rw [hsq,hV1,UInt32.toNat_ofNat'];omega
    have hvw : IntKind.u32.wrap (V1 : Int) = (sq.toNat : Int):=by rw [IntKind.wrap_u32];exact hvv
    have N1:=Lib.hid (NUM.out S 4 q3 w12 (KRB.out _ HK12.out) HWS.out HS12.out hq3l (by omega) (by omega))
    obtain ⟨q4,hq4⟩ : ∃ p,tkP b 4 q3 = p:=⟨_,rfl⟩
    have hq4l : q4.1 ≤ L:=by rw [← hq4,← HLL.out];exact tkP_le (by rw [HLL.out];exact hq3l)
    rw [hV1,hq4] at N1
    have HSQ:=Lib.hid hsq;have HQ4:=Lib.hid hq4
    clear hsq hV1 hq4
    go_upto_region 13 with (go_at_call 90;refine N1.out.mono ?_;rintro e w13 ⟨rfl,hb9,hk9⟩;have HX13:=Lib.hid (hk9.blk HX12.out hgS);have HK13 : Hid (KeepB S wr w13):=Lib.hid (HK12.out.trans hk9 fun _ _ q => q);have HS13:=Lib.hid hb9;have OW13:=Lib.hid (own_kx OW12.out hk9 (fun g q e => by have:=(OW12.out.lt g q).1;have:=Gr.out.hs.lt;have:=HWB.out;omega));have xc:=HX13.out.cell 34;have fc:=HX13.out.frozen 34;rw [(InR.cell32 _ hpd).2.2] at xc;clear hb9 hk9)
    obtain ⟨w14,hwn⟩ : ∃ x,x = w13.setCell ⟨gi,34,none⟩ (.int .u32 sq.toNat):=⟨_,rfl⟩
    have HX14 : Hid (Blk w14 gi 97 (InR.cells ⟨PV,ix,Av,sc,cv,sq⟩)):=by rw [hwn];exact Lib.hid (by have q:=HX13.out.set_ 34 (u32v sq);rw [InR.set34 _ hpd] at q;exact q)
    have HS14 : Hid (Blk w14 S 157 (srcL A L c q4)):=by rw [hwn];exact Lib.hid (HS13.out.far (fun q => hgS q.symm) _)
    have HK14 : Hid (KeepB S wr w14):=by rw [hwn];exact Lib.hid (HK13.out.new (grown_set (grown_refl w13 _)) hgr)
    have OW14 : Hid (w14.ownsRow B10 5 1 (.slice Av sc.length cv) sc.length (sc.map u8v)):=by rw [hwn];exact Lib.hid (ownsRow_setCell_below OW13.out (a:=⟨gi,34,none⟩) hg10 _)
    rw [← hwn]
    clear hwn xc fc HX12 HS12 HK12 HX13 HS13 HK13 N1 hvv hvw OW12 OW13
    have G14:=Lib.hid (Gr.out.read HS14.out HK14.out)
    obtain ⟨x4,hx4⟩ : ∃ x : InR,(⟨PV,ix,Av,sc,cv,sq⟩ : InR) = x:=⟨_,rfl⟩
    have HX4 : Hid (x4.pl = (inS b (a,0)).1∧(inS b (a,0)).2 = q4):=Lib.hid (by
     rw [← hx4]
     unfold inS InR.pl
     simp only [HQ1.out,HQ2.out,HQ3.out,HQ4.out,HPV.out,HIX.out,HSC.out,HSQ.out,and_self])
    obtain ⟨xs,hxs⟩ : ∃ xs,InB x4 xs:=⟨_,InB.of (by rw [← hx4];exact hpd)⟩
    rw [hx4,← hxs.l] at HX14
    have hxz:=hxs.z;have hxn:=hxs.n
    have hxi:=hxs.i
    have HXO:=Lib.hid hxs.o
    have HXC : Hid (x4.prev.length = 32∧(x4.sc.length ≤ x4.cap∧x4.cap ≤ maxLen)∧RdN (GX S T w0.heap.size vi (.slice none 0 0)) w14 x4.A (x4.sc.map u8v)):=Lib.hid (by
     rw [← hx4]
     refine ⟨hpd,⟨hcv1,hcv2⟩,RdN.of_own OW14.out fun g hg q => ?_⟩
     have hz1:=Gr.out.hs.lt;have hz2:=Gr.out.ht.lt;have hz3:=HWB.out
     have hz4:=Gr.out.size
     rcases q with q | q | q | q | q
     ·omega
     ·omega
     ·have:=(Gr.out.iS g q).2;omega
     ·cases q
     ·omega)
    have HXL:=Lib.hid hxs.l
    clear hx4 hxs HPV HQ1 HQ2 HQ3 HQ4 HIX HSC HSQ OW14 HS14 hcv1 hcv2 hsl
    have RX : Hid (w14.rangeAt gi 0 xs.toList):=Lib.hid (range_of HX14.out 0 xs.toList (by simp [List.take_of_length_le]))
    have t1:=G14.out.ht.cell 1
    try simp only [List.getElem?_cons_succ,List.getElem?_cons_zero] at t1
    have hsz14:=G14.out.size
    obtain ⟨Avi,cvi,rfl,-,-,-⟩:=own_form G14.out.oi
    have hdl1 : ds.length ≤ 1000:=by have:=HDL.out;omega
    go_wp2_with (first
     | ((with_reducible refine load_partg gi 0 xs (Eq.trans ?_ rfl) RX.out _ Try.underlying97 rfl hxi rfl ?_);rfl)
     | ((with_reducible refine list_build1h rinT xs hxz (by omega) (Eq.trans ?_ rfl) ?_);rfl)
     | (at_builtin;refine wpList_app rinT (by rfl) _ _ (by rfl) w0.heap.size _ ds.length _ (by rfl) (G14.out.oi.alloc _) _ 1 1 xs.toList (by rfl) (by rw [Array.length_toList,hxz]) (by simpa using Rd.new w14 xs.toList 97) HXO.out (by omega) (by unfold maxLen;omega) (by simp;omega) ?_;intro v15 w15 own15 hg15 hat15;obtain ⟨Aw,cw,rfl,-,-,-⟩:=own_form own15;have HT15:=(G14.out.ht.alloc (.cells xs 97)).grown hg15 (fun q => absurd (G14.out.iS T q).1 (by have:=G14.out.st.2.2.1;omega));have t15:=HT15.cell 1;have f15:=HT15.frozen 1;simp only [List.getElem?_cons_succ,List.getElem?_cons_zero] at t15;have Own15:=Lib.hid own15;have Gg15:=Lib.hid hg15;have At15:=Lib.hid hat15;clear own15 hg15 hat15 HT15))
    have GN : Hid (RSt S T w0.heap.size w0 (w15.setCell ⟨T,1,none⟩ (.slice Aw (ds.length + 1) cw)) (srcL A L c q4) ver (.slice Aw (ds.length + 1) cw) (ds ++ [x4]) (.slice none 0 0) []):=Lib.hid (by
     have o2:=Own15.out
     rw [HXL.out] at o2
     exact (G14.out.keep (keep_new _ _)).inp o2 Gg15.out (At15.out.imp id fun e => ⟨_,e,Nat.le_refl _⟩) ⟨HXC.out.1,HXC.out.2.1,HXC.out.2.2.kx (Y:=fun _ => False) (KeepX.of (keep_new _ _)) (fun _ _ q => q.elim) (fun _ _ q => q)⟩)
    have HIe : Hid (insS b n p3 = ((ds ++ [x4]).map InR.pl ++ (insS b (n - (i + 1)) q4).1,(insS b (n - (i + 1)) q4).2)):=Lib.hid (by
     rw [HIn.out,HX4.out.2]
     have e : InR.pl (inS b (a,0)).1 = x4.pl:=by rw [HX4.out.1];rfl
     simp [e])
    clear Own15 Gg15 At15 HXC HXL HXO t15 f15 t1 RX HIn HX4
    go_roundw
    case rel => exact ⟨i + 1,q4,_,ds ++ [x4],by omega,by go_num,by rw [List.length_append,HDL.out];rfl,hq4l,GN,HIe⟩
    case measure => simp [intOf];omega
  case rest =>
   obtain ⟨rfl,vi,ds,G5,HDS,hdl⟩:=hcut
   have hI5 : (insS b n p3).2.1 ≤ L:=by rw [← HLL.out];exact insS_le n (by rw [HLL.out];exact hl3)
   clear G4 HI0
   generalize insS b n p3 = IR at *
   obtain ⟨is,p5⟩:=IR
   simp only at G5 HDS hI5 HRR
   have C2:=Lib.hid (CNT.out S p5 wc (KW.out _ _ _ _ _ _ _ G5.out) HWS.out G5.out.hs hI5)
   obtain ⟨m,hm⟩ : ∃ m,ctV b 1000 p5 = m:=⟨_,rfl⟩
   obtain ⟨p6,hp6⟩ : ∃ p,ctP b 1000 p5 = p:=⟨_,rfl⟩
   have hm1000 : m ≤ 1000:=by rw [← hm];exact ctV_le _ _ _
   have hl6 : p6.1 ≤ L:=by rw [← hp6,← HLL.out];exact ctP_le (by rw [HLL.out];exact hI5)
   rw [hm,hp6] at C2 HRR
   clear hm hp6
   go_upto_region 15 with (go_at_call 91;refine C2.out.mono ?_;rintro e w3 ⟨rfl,hb3,hk3⟩;have G6:=Lib.hid (G5.out.read hb3 hk3);clear hb3 hk3)
   clear C2 G5
   have HO0 : Hid (outsS b m p6 = (([] : List OutR).map OutR.pl ++ (outsS b (m - 0) p6).1,(outsS b (m - 0) p6).2)):=Lib.hid (by simp)
   have HDLI:=Lib.hid hdl
   go_upto_block 2 with fail
   go_cut [10] (fun v wx => v = .int .i64 m∧∃ (vo : Value) (es : List OutR),Hid (RSt S T w0.heap.size w0 wx (srcL A L c (outsS b m p6).2) ver vi ds vo es)∧Hid (es.map OutR.pl = (outsS b m p6).1)∧es.length ≤ 1000)
   case first =>
    go_wp2_with fail
    go_loopw [11] (fun x wr => ∃ (i : Nat) (p : SP) (vo : Value) (es : List OutR),i ≤ m∧x = .int .i64 i∧es.length = i∧p.1 ≤ L∧Hid (RSt S T w0.heap.size w0 wr (srcL A L c p) ver vi ds vo es)∧Hid (outsS b m p6 = (es.map OutR.pl ++ (outsS b (m - i) p).1,(outsS b (m - i) p).2))) (fun x _ => m - (intOf x).toNat)
    case atStart => exact ⟨0,p6,.slice none 0 0,[],Nat.zero_le _,rfl,rfl,hl6,G6,HO0⟩
    case round =>
     obtain ⟨i,p,vo,es,hi,rfl,hdl2,hpl,Gr,HIr⟩:=hrel
     obtain ⟨a,e0⟩:=p
     have HDL:=Lib.hid hdl2
     have s2:=Gr.out.hs.cell 2
     try simp only [List.getElem?_cons_succ,List.getElem?_cons_zero] at s2
     clear hdl2
     by_cases hlt : i < m
     case neg =>
      obtain rfl : i = m:=by omega
      have d1 : ¬ (i : Int) < i:=by omega
      have hE:=HIr.out
      rw [Nat.sub_self] at hE
      have HE : Hid (outsS b i p6 = (es.map OutR.pl,(a,e0))):=Lib.hid (by rw [hE];simp [outsS])
      clear hE HIr
      go_wp2_with fail
      go_meet
      exact ⟨rfl,vo,es,by rw [HE.out];exact Gr,Lib.hid (by rw [HE.out]),by rw [HDL.out];omega⟩
     by_cases h0 : e0 = 0
     case neg =>
      have d1 : (i : Int) < m:=by omega
      have d2 : (e0 == 0) = false:=by rw [beq_eq_false_iff_ne];exact h0
      have HE : Hid (outsS b m p6 = (es.map OutR.pl,(a,e0))):=Lib.hid (by rw [HIr.out,outsS_err b _ h0];simp)
      clear HIr h0
      go_wp2_with fail
      go_meet
      exact ⟨rfl,vo,es,by rw [HE.out];exact Gr,Lib.hid (by rw [HE.out]),by rw [HDL.out];omega⟩
     subst h0
     have d1 : (i : Int) < m:=by omega
     have HIn : Hid (outsS b m p6 = ((es ++ [(outS b (a,0)).1]).map OutR.pl ++ (outsS b (m - (i + 1)) (outS b (a,0)).2).1,(outsS b (m - (i + 1)) (outS b (a,0)).2).2)):=Lib.hid (by
      rw [HIr.out,show m - i = (m - (i + 1)) + 1 by omega]
      show _ = _
      rw [outsS,if_pos rfl]
      simp [OutR.pl,outS])
     have KR:=Lib.hid (KW.out _ _ _ _ _ _ _ Gr.out)
     have KRB : Hid (∀ y,KeepB S wr y → Keep w y):=Lib.hid fun y k => k.keep KR.out fun j q => by have:=HWS.out;omega
     clear HIr
     -- the value
     obtain ⟨V1,hV1⟩ : ∃ V,nmV b 8 (a,0) = V:=⟨_,rfl⟩
     have hV64 : V1 < 2 ^ 64:=by rw [← hV1];exact numN_lt8 _ _
     have N1:=Lib.hid (NUM.out S 8 (a,0) wr KR.out HWS.out Gr.out.hs hpl (by omega) (by omega))
     obtain ⟨q2,hq2⟩ : ∃ p,tkP b 8 (a,0) = p:=⟨_,rfl⟩
     have hq2l : q2.1 ≤ L:=by rw [← hq2,← HLL.out];exact tkP_le (by rw [HLL.out];exact hpl)
     rw [hV1,hq2] at N1
     have HV1:=Lib.hid hV1;have HQ2:=Lib.hid hq2
     clear hV1 hq2
     go_wp2_with fail
     refine N1.out.mono ?_
     rintro e w9 ⟨rfl,hb9,hk9⟩
     have HK9:=Lib.hid hk9;have HS9:=Lib.hid hb9
     clear hb9 hk9 N1 s2
     go_upto_region 19 with fail
     obtain ⟨w10,hw10⟩ : ∃ x,x = w9.alloc (.cells #[.int .u64 V1,.slice none 0 0] 99):=⟨_,rfl⟩
     have HX10 : Hid (Blk w10 w9.heap.size 99 [.int .u64 V1,.slice none 0 0]):=by rw [hw10];exact Lib.hid (Blk.new w9 _ [.int .u64 V1,.slice none 0 0])
     have HS10 : Hid (Blk w10 S 157 (srcL A L c q2)):=by rw [hw10];exact Lib.hid (HS9.out.alloc _)
     have HK10 : Hid (KeepB S wr w10):=by rw [hw10];exact Lib.hid (HK9.out.trans (KeepX.of (keep_new _ _)) fun _ _ q => q)
     have hgS : w9.heap.size ≠ S:=by have:=HS9.out.lt;omega
     have hgr : wr.heap.size ≤ w9.heap.size:=HK9.out.2.2.2.1
     rw [← hw10]
     clear hw10 HS9 HK9 KR
     obtain ⟨gi,hgi⟩ : ∃ g,w9.heap.size = g:=⟨_,rfl⟩
     rw [hgi] at HX10 hgS hgr
     simp only [hgi]
     clear hgi
     have HWB : Hid (wr.heap.size ≤ w10.heap.size):=Lib.hid HK10.out.2.2.2.1
     -- the script
     have S1:=SCR.out S q2 w10 (KRB.out _ HK10.out) HWS.out HS10.out hq2l
     obtain ⟨sc,hsc⟩ : ∃ s,scV b q2 = s:=⟨_,rfl⟩
     obtain ⟨q3,hq3⟩ : ∃ p,scP b q2 = p:=⟨_,rfl⟩
     have hq3l : q3.1 ≤ L:=by rw [← hq3,← HLL.out];exact scP_le (by rw [HLL.out];exact hq2l)
     rw [hsc,hq3] at S1
     have S1:=Lib.hid S1
     have HSC:=Lib.hid hsc;have HQ3:=Lib.hid hq3
     have hg10:=HX10.out.lt
     clear hsc hq3
     go_upto_region 20 with (go_at_call 94;refine S1.out.mono ?_;rintro e w11 ⟨Av,cv,rfl,hown11,hb11,hk11⟩;obtain ⟨hcv1,hcv2⟩:=own_capR hown11;have HX11:=Lib.hid (hk11.blk HX10.out hgS);have HK11 : Hid (KeepB S wr w11):=Lib.hid (HK10.out.trans hk11 fun _ _ q => q);have HS11:=Lib.hid hb11;have OW11:=Lib.hid hown11;have x33:=HX11.out.cell 1;have f33:=HX11.out.frozen 1;try simp only [List.getElem?_cons_succ,List.getElem?_cons_zero] at x33;clear hb11 hk11 hown11)
     obtain ⟨w14,hw14⟩ : ∃ w14,w14 = w11.setCell ⟨gi,1,none⟩ (.slice Av sc.length cv):=⟨_,rfl⟩
     have HX14 : Hid (Blk w14 gi 99 [.int .u64 V1,.slice Av sc.length cv]):=by rw [hw14];exact Lib.hid (HX11.out.set_ 1 _)
     have HS14 : Hid (Blk w14 S 157 (srcL A L c q3)):=by rw [hw14];exact Lib.hid (HS11.out.far (fun q => hgS q.symm) _)
     have HK14 : Hid (KeepB S wr w14):=by rw [hw14];exact Lib.hid (HK11.out.new (grown_set (grown_refl w11 _)) hgr)
     have OW14 : Hid (w14.ownsRow w10.heap.size 5 1 (.slice Av sc.length cv) sc.length (sc.map u8v)):=by rw [hw14];exact Lib.hid (ownsRow_setCell_below OW11.out (a:=⟨gi,1,none⟩) hg10 _)
     rw [← hw14]
     clear hw14 x33 f33 HX10 HS10 HK10 HX11 HS11 HK11 OW11 S1
     obtain ⟨B10,hB10⟩ : ∃ k,w10.heap.size = k:=⟨_,rfl⟩
     rw [hB10] at OW14 hg10 HWB
     clear hB10
     have G14:=Lib.hid (Gr.out.read HS14.out HK14.out)
     obtain ⟨x4,hx4⟩ : ∃ x : OutR,(⟨V1,Av,sc,cv⟩ : OutR) = x:=⟨_,rfl⟩
     have HX4 : Hid (x4.pl = (outS b (a,0)).1∧(outS b (a,0)).2 = q3):=Lib.hid (by
      rw [← hx4]
      unfold outS OutR.pl
      simp only [HQ2.out,HQ3.out,HV1.out,HSC.out,and_self])
     have HXC : Hid (x4.val < 2 ^ 64∧(x4.sc.length ≤ x4.cap∧x4.cap ≤ maxLen)∧RdN (GX S T w0.heap.size vi vo) w14 x4.A (x4.sc.map u8v)):=Lib.hid (by
      rw [← hx4]
      refine ⟨hV64,⟨hcv1,hcv2⟩,RdN.of_own OW14.out fun g hg q => ?_⟩
      have hz1:=Gr.out.hs.lt;have hz2:=Gr.out.ht.lt;have hz3:=HWB.out
      have hz4:=Gr.out.size
      rcases q with q | q | q | q | q
      ·omega
      ·omega
      ·have:=(Gr.out.iS g q).2;omega
      ·have:=(Gr.out.oS g q).2;omega
      ·omega)
     have HXL : Hid ([.int .u64 V1,.slice Av sc.length cv] = x4.cells):=Lib.hid (by rw [← hx4];rfl)
     clear hx4 HQ2 HQ3 HV1 HSC OW14 HS14 hcv1 hcv2
     have x0:=HX14.out.cell 0;have x1:=HX14.out.cell 1
     have t1:=G14.out.ht.cell 2
     try simp only [List.getElem?_cons_succ,List.getElem?_cons_zero] at t1 x0 x1
     have hsz14:=G14.out.size
     obtain ⟨Avi,cvi,rfl,-,-,-⟩:=own_form G14.out.oo
     have hdl1 : es.length ≤ 1000:=by have:=HDL.out;omega
     go_wp2_with (at_builtin;refine wpList_app routT (by rfl) _ _ (by rfl) w0.heap.size _ es.length _ (by rfl) (G14.out.oo.alloc _) _ 1 1 [.int .u64 V1,.slice Av sc.length cv] (by rfl) (by rfl) (Rd.new _ _ _) (by simp [Value.oneCell']) (by omega) (by unfold maxLen;omega) (by simp;omega) ?_;intro v15 w15 own15 hg15 hat15;obtain ⟨Aw,cw,rfl,-,-,-⟩:=own_form own15;have HT15:=(G14.out.ht.alloc (.cells #[.int .u64 V1,.slice Av sc.length cv] 99)).grown hg15 (fun q => absurd (G14.out.oS T q).1 (by have:=G14.out.st.2.2.1;omega));have t15:=HT15.cell 2;have f15:=HT15.frozen 2;simp only [List.getElem?_cons_succ,List.getElem?_cons_zero] at t15;have Own15:=Lib.hid own15;have Gg15:=Lib.hid hg15;have At15:=Lib.hid hat15;clear own15 hg15 hat15 HT15)
     have GN : Hid (RSt S T w0.heap.size w0 (w15.setCell ⟨T,2,none⟩ (.slice Aw (es.length + 1) cw)) (srcL A L c q3) ver vi ds (.slice Aw (es.length + 1) cw) (es ++ [x4])):=Lib.hid (by
      have o2:=Own15.out
      rw [HXL.out] at o2
      exact (G14.out.keep (keep_new _ _)).outp o2 Gg15.out (At15.out.imp id fun e => ⟨_,e,Nat.le_refl _⟩) ⟨HXC.out.1,HXC.out.2.1,HXC.out.2.2.kx (Y:=fun _ => False) (KeepX.of (keep_new _ _)) (fun _ _ q => q.elim) (fun _ _ q => q)⟩)
     have HIe : Hid (outsS b m p6 = ((es ++ [x4]).map OutR.pl ++ (outsS b (m - (i + 1)) q3).1,(outsS b (m - (i + 1)) q3).2)):=Lib.hid (by
      rw [HIn.out,HX4.out.2]
      have e : OutR.pl (outS b (a,0)).1 = x4.pl:=by rw [HX4.out.1];rfl
      simp [e])
     clear Own15 Gg15 At15 HXC HXL t15 f15 t1 x0 x1 HIn HX4
     go_roundw
     case rel => exact ⟨i + 1,q3,_,es ++ [x4],by omega,by go_num,by rw [List.length_append,HDL.out];rfl,hq3l,GN,HIe⟩
     case measure => simp [intOf];omega
   case rest =>
    obtain ⟨rfl,vo,es,G7,HES,hel⟩:=hcut
    clear HO0 G6
    have hO7 : (outsS b m p6).2.1 ≤ L:=by rw [← HLL.out];exact outsS_le m (by rw [HLL.out];exact hl6)
    generalize outsS b m p6 = OR at *
    obtain ⟨os,p7⟩:=OR
    simp only at G7 HES hO7 HRR
    obtain ⟨V7,hV7⟩ : ∃ V,nmV b 4 p7 = V:=⟨_,rfl⟩
    obtain ⟨lock,hlk⟩ : ∃ v : UInt32,v = UInt32.ofNat V7:=⟨_,rfl⟩
    have hvv : (V7 : Int) % 4294967296 = (lock.toNat : Int):=by rw [hlk,UInt32.toNat_ofNat'];omega
    have hvw : IntKind.u32.wrap (V7 : Int) = (lock.toNat : Int):=by rw [IntKind.wrap_u32];exact hvv
    have N7:=NUM.out S 4 p7 _ (KW.out _ _ _ _ _ _ _ G7.out) HWS.out G7.out.hs hO7 (by omega) (by omega)
    obtain ⟨p8,hp8⟩ : ∃ p,tkP b 4 p7 = p:=⟨_,rfl⟩
    rw [hV7,hp8] at N7 HRR
    rw [← hlk] at HRR
    have N7:=Lib.hid N7
    clear hp8 hlk hV7
    go_upto_region 22 with (go_at_call 90;refine N7.out.mono ?_;rintro e w1 ⟨rfl,hb1,hk1⟩;have G8:=Lib.hid (G7.out.read hb1 hk1);have t3:=G8.out.ht.cell 3;have f3:=G8.out.ht.frozen 3;try simp only [List.getElem?_cons_succ,List.getElem?_cons_zero] at t3;clear hb1 hk1)
    obtain ⟨iA,ic,rfl,hic1,hic2,-⟩:=own_form G8.out.oi
    obtain ⟨oA,oc,rfl,hoc1,hoc2,-⟩:=own_form G8.out.oo
    obtain ⟨w9,hw9⟩ : ∃ w9,w9 = w1.setCell ⟨T,3,none⟩ (.int .u32 lock.toNat):=⟨_,rfl⟩
    have HT9 : Hid (Blk w9 T 37 [u32v ver,.slice iA ds.length ic,.slice oA es.length oc,u32v lock]):=by rw [hw9];exact Lib.hid (G8.out.ht.set_ 3 _)
    have HS9 : Hid (Blk w9 S 157 (srcL A L c p8)):=by rw [hw9];exact Lib.hid (G8.out.hs.far (by simp <;> omega) _)
    have HZ8 : Hid (Blk w1 r 37 [.int .u32 0,.slice none 0 0,.slice none 0 0,.int .u32 0]):=Lib.hid (HZ0.out.kx G8.out.kx (by rintro (q | q) <;> omega))
    have HZ9 : Hid (Blk w9 r 37 [.int .u32 0,.slice none 0 0,.slice none 0 0,.int .u32 0]):=by rw [hw9];exact Lib.hid (HZ8.out.far (by simp <;> omega) _)
    have HK9 : Hid (KeepX (fun k => k = T ∨ k = r) w1 w9):=by rw [hw9];exact Lib.hid ((KeepB.set (KeepX.of (Below.refl _ _)) 3 _ : KeepX (fun k => k = T) _ _).wide fun _ q => .inl q)
    have HK1 : Hid (Keep w w1):=Lib.hid (KW.out _ _ _ _ _ _ _ G8.out)
    rw [← hw9]
    clear hw9 t3 f3 N7 NUM CNT SCR HSH FAI KW HZ0 hvv hvw
    obtain ⟨a8,e8⟩:=p8
    have s1:=HS9.out.cell 1;have s2:=HS9.out.cell 2
    try simp only [List.getElem?_cons_succ,List.getElem?_cons_zero] at s1 s2
    have hrT : r ≠ T:=by omega
    have hrS : r ≠ S:=by omega
    by_cases h8 : e8 = 0
    ·subst h8
     have d1 : ((0 : Int) != 0) = false:=rfl
     have hR:=HRR.out
     rw [if_pos rfl] at hR
     simp only at hR
     obtain ⟨R1,R2,R3⟩:=R
     obtain ⟨hR1,hR2,hR3⟩ : R1 = ⟨ver,none,is,0,none,os,0,lock⟩∧R2 = a8∧R3 = 0:=by cases hR;exact ⟨rfl,rfl,rfl⟩
     subst hR2 hR3
     have HR1:=Lib.hid hR1
     clear hR hR1 HRR
     go_upto_region 24 with fail
     letI iM : G.Mk:=⟨some r⟩
     refine G.wp_region_tree (.take [0,1,2,3,4] (.force [5] (.take [6,7] .done))) [] (by kernel_rfl) (by kernel_rfl) (fun wa ka => ?_)
     have hneT : G.Mk.m ≠ some T:=fun q => hrT (Option.some.inj q)
     have hneS : G.Mk.m ≠ some S:=fun q => hrS (Option.some.inj q)
     have HTa:=Lib.hid (HT9.out.keep ka);have HSa:=Lib.hid (HS9.out.keep ka);have HZa:=Lib.hid (HZ9.out.keep ka)
     have HKa : Hid (KeepX (fun k => k = T ∨ k = r) w1 wa):=Lib.hid (HK9.out.trans (KeepX.of ka) fun _ _ q => q)
     have b1:=G.aftG_cell (HSa.out.cell 1) hneS
     have b2:=G.aftG_cell (HTa.out.cell 0) hneT;have b3:=G.aftG_cell (HTa.out.cell 1) hneT;have b4:=G.aftG_cell (HTa.out.cell 2) hneT;have b5:=G.aftG_cell (HTa.out.cell 3) hneT
     clear ka HT9 HS9 HZ9 HK9 s1 s2
     refine G.mt_take wa (G.Gr.refl _) ?_
     simp only [pick_cons,pick_nil,nth_zero,nth_succ]
     repeat (go_big_quiet_step (fail))
     refine wpQuiet_nil (G.mt_force ?_)
     clear b1 b2 b3 b4 b5 hneT hneS
     simp only [pick_cons,pick_nil,nth_zero,nth_succ]
     refine G.fc_step rfl (fun K hK => ?_)
     have z0:=HZa.out.cell 0;have z1:=HZa.out.cell 1;have z2:=HZa.out.cell 2;have z3:=HZa.out.cell 3
     have y0:=HZa.out.frozen 0;have y1:=HZa.out.frozen 1;have y2:=HZa.out.frozen 2;have y3:=HZa.out.frozen 3
     simp only [List.getElem?_cons_succ,List.getElem?_cons_zero] at z0 z1 z2 z3
     go_simp
     refine hK _ _ (show G.Gr wa _ from grown_set (grown_set (grown_set (grown_set (grown_refl wa _))))) ?_
     clear hK K z0 z1 z2 z3 y0 y1 y2 y3
     obtain ⟨wb,hwb⟩ : ∃ wb,wb = (((wa.setCell ⟨r,0,none⟩ (u32v ver)).setCell ⟨r,1,none⟩ (.slice iA ds.length ic)).setCell ⟨r,2,none⟩ (.slice oA es.length oc)).setCell ⟨r,3,none⟩ (u32v lock):=⟨_,rfl⟩
     have HBB : Hid (Blk wb r 37 [u32v ver,.slice iA ds.length ic,.slice oA es.length oc,u32v lock]):=by rw [hwb];exact Lib.hid ((((HZa.out.set_ 0 _).set_ 1 _).set_ 2 _).set_ 3 _)
     have HGB : Hid (wa.grownBy wb (some r)):=by rw [hwb];exact Lib.hid (grown_set (grown_set (grown_set (grown_set (grown_refl wa _)))))
     rw [← hwb]
     clear hwb
     refine G.fc_nil (G.mt_take _ (G.Gr.refl _) ?_)
     simp only [pick_cons,pick_nil,nth_zero,nth_succ]
     repeat (go_big_quiet_step (fail))
     refine wpQuiet_nil (G.mt_end ?_)
     clear iM
     go_wp2_with fail
     have HKb : Hid (KeepX (fun k => k = T ∨ k = r) w1 wb):=Lib.hid (HKa.out.grown HGB.out fun j _ q => by cases q;exact .inr rfl)
     exact bodyPost_ret (v:=.tuple #[.agg #[u32v ver,.slice iA ds.length ic,.slice oA es.length oc,u32v lock],iv R2,iv 0]) (results_cell_tmp_tmp Try.results84 _ _ r _ _ _ _ rfl HBB.out Try.underlying37 rfl rtx_info) rfl
      ⟨⟨ver,iA,ds,ic,oA,es,oc,lock⟩,rfl,by rw [HR1.out];unfold TxR.pl;simp only [HES.out,HDS.out],⟨(G8.out.tx HZ8.out (by omega) HKb.out ⟨hic1,hic2⟩ ⟨hoc1,hoc2⟩).1,fun W hm => (G8.out.tx HZ8.out (by omega) HKb.out ⟨hic1,hic2⟩ ⟨hoc1,hoc2⟩).2 W ⟨trivial,fun k h1 h2 => hm.2 k (by have:=HWS.out;have:=HRW.out;have:=G8.out.st;omega) h2⟩⟩,HDLI.out,hel,HKb.out.keep HK1.out (fun j q => by have:=HWS.out;have:=HRW.out;rcases q with q | q <;> omega)⟩
    ·have d1 : (e8 != 0) = true:=by rw [bne_iff_ne];exact h8
     have hR:=HRR.out
     rw [if_neg h8] at hR
     subst hR
     clear HRR h8
     go_upto_region 23 with fail
     letI iM : G.Mk:=⟨some r⟩
     refine G.wp_region_tree (.take [0,1,2,3,4] (.force [5] (.take [6,7] .done))) [] (by kernel_rfl) (by kernel_rfl) (fun wa ka => ?_)
     have hneS : G.Mk.m ≠ some S:=fun q => hrS (Option.some.inj q)
     have HSa:=Lib.hid (HS9.out.keep ka);have HZa:=Lib.hid (HZ9.out.keep ka)
     have HKa : Hid (KeepX (fun k => k = T ∨ k = r) w1 wa):=Lib.hid (HK9.out.trans (KeepX.of ka) fun _ _ q => q)
     have b1:=G.aftG_cell (HSa.out.cell 2) hneS
     clear ka HT9 HS9 HZ9 HK9 s1 s2
     refine G.mt_take wa (G.Gr.refl _) ?_
     simp only [pick_cons,pick_nil,nth_zero,nth_succ]
     repeat (go_big_quiet_step (fail))
     refine wpQuiet_nil (G.mt_force ?_)
     clear b1 hneS
     simp only [pick_cons,pick_nil,nth_zero,nth_succ]
     refine G.fc_step rfl (fun K hK => ?_)
     have z0:=HZa.out.cell 0;have z1:=HZa.out.cell 1;have z2:=HZa.out.cell 2;have z3:=HZa.out.cell 3
     have y0:=HZa.out.frozen 0;have y1:=HZa.out.frozen 1;have y2:=HZa.out.frozen 2;have y3:=HZa.out.frozen 3
     simp only [List.getElem?_cons_succ,List.getElem?_cons_zero] at z0 z1 z2 z3
     go_simp
     refine hK _ _ (show G.Gr wa _ from grown_set (grown_set (grown_set (grown_set (grown_refl wa _))))) ?_
     clear hK K z0 z1 z2 z3 y0 y1 y2 y3
     obtain ⟨wb,hwb⟩ : ∃ wb,wb = (((wa.setCell ⟨r,0,none⟩ (.int .u32 0)).setCell ⟨r,1,none⟩ (.slice none 0 0)).setCell ⟨r,2,none⟩ (.slice none 0 0)).setCell ⟨r,3,none⟩ (.int .u32 0):=⟨_,rfl⟩
     have HBB : Hid (Blk wb r 37 [.int .u32 0,.slice none 0 0,.slice none 0 0,.int .u32 0]):=by rw [hwb];exact Lib.hid ((((HZa.out.set_ 0 _).set_ 1 _).set_ 2 _).set_ 3 _)
     have HGB : Hid (wa.grownBy wb (some r)):=by rw [hwb];exact Lib.hid (grown_set (grown_set (grown_set (grown_set (grown_refl wa _)))))
     rw [← hwb]
     clear hwb
     refine G.fc_nil (G.mt_take _ (G.Gr.refl _) ?_)
     simp only [pick_cons,pick_nil,nth_zero,nth_succ]
     repeat (go_big_quiet_step (fail))
     refine wpQuiet_nil (G.mt_end ?_)
     clear iM
     go_wp2_with fail
     have HKb : Hid (KeepX (fun k => k = T ∨ k = r) w1 wb):=Lib.hid (HKa.out.grown HGB.out fun j _ q => by cases q;exact .inr rfl)
     exact bodyPost_ret (v:=.tuple #[.agg #[.int .u32 0,.slice none 0 0,.slice none 0 0,.int .u32 0],iv 0,iv e8]) (results_cell_tmp_tmp Try.results84 _ _ r _ _ _ _ rfl HBB.out Try.underlying37 rfl rtx_info) rfl
      ⟨txZ,rfl,rfl,⟨txZ_at _,fun W _ => txZ_at W⟩,Nat.zero_le _,Nat.zero_le _,HKb.out.keep HK1.out (fun j q => by have:=HWS.out;have:=HRW.out;rcases q with q | q <;> omega)⟩
end Go.Proofs.Ytbgpgdhndanigaa
/- message, plainly: a message of one type as one of the other. (printed by gen_pe.py) -/
set_option linter.unusedSimpArgs false
set_option linter.unusedVariables false
namespace Go.Proofs.Ytbgpgdhndanigaa
open Go.RowKit
attribute [local go_sem ↓] Go.wp_at_zero Go.wp_at_succ
theorem rmsg_info : (Try.prog.info? 39).map (·.size) = some 114:=by kernel_rfl
structure MsB (m : MsgR) (cs : Array Value) : Prop where
 l : cs.toList = m.cells
 z : cs.size = 114
 i : (Try.prog.info? 39).map (·.size) = some cs.size
 n : ¬ cs = #[]
 o : ∀ v ∈ cs.toList,v.oneCell' = true
theorem MsB.of {m : MsgR} (h : m.ok) : MsB m m.cells.toArray:=by
 have hz : m.cells.toArray.size = 114:=by simpa using MsgR.len h
 exact ⟨rfl,hz,by rw [hz];exact rmsg_info,fun e => by rw [e] at hz;simp at hz,by simpa using m.one⟩
noncomputable def zrmsg : Array Value:=match (Try.prog.info? 39).bind (·.zero) with | some (.agg c) => c | _ => #[]
theorem zrmsg_zero (w : World) : (zeroValue 39).run Try.prog w = .ok (.agg zrmsg) w:=by kernel_rfl
theorem zrmsg_list : zrmsg.toList = (msgZ 0).cells:=by kernel_rfl
theorem zrmsg_letter : ∃ zs : Array Value,(∀ w,(zeroValue 39).run Try.prog w = .ok (.agg zs) w)∧MsB (msgZ 0) zs :=
 ⟨zrmsg,zrmsg_zero,by
  have h:=MsB.of (msgZ_ok 0 (by omega))
  rwa [← zrmsg_list,Array.toArray_toList] at h⟩
def bareM (m : MsgR) (t : TxR) : MsgR:={ m with iA:=none,is:=[],ic:=0,bh:=zHdr,total:=0,sA:=none,shs:=[],sc:=0,fA:=none,fs:=[],fc:=0,t:=t }
section
variable (m : MsgR) (t : TxR) (ss : Array Value) (hl : m.stop.length = 32) (hd : HashA m.stop ss)
include hl hd
theorem msgm_built : Try.prog.built 49 [(0,.int .i64 m.kind),(1,u32v m.proto),(2,u64v m.nonce),(3,u32v m.height),(4,.slice m.hA m.hs.length m.hc),(5,.slice m.lA m.ls.length m.lc),(6,.agg ss),(9,.agg #[u32v t.ver,.slice t.iA t.ins.length t.ic,.slice t.oA t.outs.length t.oc,u32v t.lock])] = some (bareM m t).cells.toArray:=by
 obtain rfl:=hd.e
 obtain ⟨k,p,n,h,hA,hs,hc,lA,ls,lc,stop,iA,is,ic,bh,total,sA,shs,sc,fA,fs,fc,t0⟩:=m
 obtain ⟨a0,a1,a2,a3,a4,a5,a6,a7,a8,a9,b0,b1,b2,b3,b4,b5,b6,b7,b8,b9,c0,c1,c2,c3,c4,c5,c6,c7,c8,c9,d0,d1,e⟩:=list32b hl
 simp only at e
 subst e
 show _ = _
 kernel_rfl
theorem rmsgm_built : Try.prog.built 39 [(0,.int .i64 m.kind),(1,u32v m.proto),(2,u64v m.nonce),(3,u32v m.height),(4,.slice m.hA m.hs.length m.hc),(5,.slice m.lA m.ls.length m.lc),(6,.agg ss),(9,.agg #[u32v t.ver,.slice t.iA t.ins.length t.ic,.slice t.oA t.outs.length t.oc,u32v t.lock])] = some (bareM m t).cells.toArray:=by
 obtain rfl:=hd.e
 obtain ⟨k,p,n,h,hA,hs,hc,lA,ls,lc,stop,iA,is,ic,bh,total,sA,shs,sc,fA,fs,fc,t0⟩:=m
 obtain ⟨a0,a1,a2,a3,a4,a5,a6,a7,a8,a9,b0,b1,b2,b3,b4,b5,b6,b7,b8,b9,c0,c1,c2,c3,c4,c5,c6,c7,c8,c9,d0,d1,e⟩:=list32b hl
 simp only at e
 subst e
 show _ = _
 kernel_rfl
end
theorem blk_built (m : MsgR) (hb : m.bh.ok) (hv : Array Value) (hh : HdA m.bh hv) : Try.prog.built 43 [(0,.agg hv),(1,u32v m.total),(2,.slice m.sA m.shs.length m.sc),(3,.slice m.fA m.fs.length m.fc)] = some m.blk.toArray:=by
 have e : hv = m.bh.cells.toArray:=by rw [← hh.l,Array.toArray_toList]
 subst e
 obtain ⟨k,p,n,h,hA,hs,hc,lA,ls,lc,stop,iA,is,ic,⟨v0,pr,rt,ti,bi,no⟩,total,sA,shs,sc,fA,fs,fc,t0⟩:=m
 obtain ⟨a0,a1,a2,a3,a4,a5,a6,a7,a8,a9,b0,b1,b2,b3,b4,b5,b6,b7,b8,b9,c0,c1,c2,c3,c4,c5,c6,c7,c8,c9,d0,d1,e1⟩:=list32b hb.1
 obtain ⟨A0,A1,A2,A3,A4,A5,A6,A7,A8,A9,B0,B1,B2,B3,B4,B5,B6,B7,B8,B9,C0,C1,C2,C3,C4,C5,C6,C7,C8,C9,D0,D1,e2⟩:=list32b hb.2
 simp only at e1 e2
 subst e1 e2
 show _ = _
 kernel_rfl
theorem rblk_built (m : MsgR) (hb : m.bh.ok) (hv : Array Value) (hh : HdA m.bh hv) : Try.prog.built 33 [(0,.agg hv),(1,u32v m.total),(2,.slice m.sA m.shs.length m.sc),(3,.slice m.fA m.fs.length m.fc)] = some m.blk.toArray:=by
 have e : hv = m.bh.cells.toArray:=by rw [← hh.l,Array.toArray_toList]
 subst e
 obtain ⟨k,p,n,h,hA,hs,hc,lA,ls,lc,stop,iA,is,ic,⟨v0,pr,rt,ti,bi,no⟩,total,sA,shs,sc,fA,fs,fc,t0⟩:=m
 obtain ⟨a0,a1,a2,a3,a4,a5,a6,a7,a8,a9,b0,b1,b2,b3,b4,b5,b6,b7,b8,b9,c0,c1,c2,c3,c4,c5,c6,c7,c8,c9,d0,d1,e1⟩:=list32b hb.1
 obtain ⟨A0,A1,A2,A3,A4,A5,A6,A7,A8,A9,B0,B1,B2,B3,B4,B5,B6,B7,B8,B9,C0,C1,C2,C3,C4,C5,C6,C7,C8,C9,D0,D1,e2⟩:=list32b hb.2
 simp only at e1 e2
 subst e1 e2
 show _ = _
 kernel_rfl
theorem ritem_built (t : UInt32) (l : List UInt8) (ds : Array Value) (hl : l.length = 32) (hd : HashA l ds) : Try.prog.built 69 [(0,u32v t),(1,.agg ds)] = some (Itm.cells ⟨t,l⟩).toArray:=by
 obtain rfl:=hd.e
 obtain ⟨a0,a1,a2,a3,a4,a5,a6,a7,a8,a9,b0,b1,b2,b3,b4,b5,b6,b7,b8,b9,c0,c1,c2,c3,c4,c5,c6,c7,c8,c9,d0,d1,rfl⟩:=list32b hl
 show _ = _
 kernel_rfl
noncomputable def zritem : Array Value:=match (Try.prog.info? 69).bind (·.zero) with | some (.agg c) => c | _ => #[]
theorem zritem_size : zritem.size = 33:=by kernel_rfl
set_option maxRecDepth 100000 in
theorem ritemT : ElT Try.prog 28 69 (Value.agg zritem) 33 36:=ElT.mk' Try.underlying28 (by kernel_rfl) zritem_size (by omega)
theorem at_carry {w y y' : World} {a b : Nat} {P : World → Prop} (h : ∀ W,Keep w W → (∀ k,a ≤ k → k < b → W.heap[k]? = y.heap[k]?) → P W) (hk : Keep y y') (hb : b ≤ y.heap.size) : ∀ W,Keep w W → (∀ k,a ≤ k → k < b → W.heap[k]? = y'.heap[k]?) → P W :=
 fun W h1 h2 => h W h1 fun k ha hb' => (h2 k ha hb').trans (hk.block k (Nat.lt_of_lt_of_le hb' hb))
theorem keep_size_w {a b : World} (h : Keep a b) : a.heap.size ≤ b.heap.size:=h.size
theorem range_keep {w w' : World} (k : Keep w w') {g off : Nat} {cs : List Value} (h : w.rangeAt g off cs) : w'.rangeAt g off cs:=fun j v hv => keep_cell k (h j v hv)
theorem wpQuiet_buildm {P : Program} {S : World → Prop} {ops : Array Oper} {rest : List Oper} {a : Act} {Q : Act → Prop} {parts : Array (Nat × Operand)} {dst : Option Tmp} {t ty' : TypeId} {pos : String} {af : Array Edge}
  (ps : List (Nat × Value)) (cells : Array Value) (hx : (parts.toList.map fun p => (p.1,a.eval p.2)) = ps) (hb : P.built t ps = some cells)
  (h : wpQuiet P ops S Q rest (a.put dst (.agg cells))) : wpQuiet P ops S Q ({ dst:=dst,op:=.build t parts,type:=ty',pos:=pos,after:=af,guard:=none } :: rest) a:=by
 refine BigFrame.wpQuiet_want (by simp [Region.wanted]) fun K hK => ⟨.agg cells,fun w hw => ?_,hK _ h⟩
 have e : (parts.map fun (i,x) => (i,a.eval x)).toList = ps:=by rw [Array.toList_map];exact hx
 have hb2 : P.built t (parts.map fun (i,x) => (i,a.eval x)).toList = some cells:=by rw [e];exact hb
 unfold Oper.quietAt execOp
 simp only [Sem.run_bind,run_build w t _ cells hb2,Result.andThen_ok]
 exact ⟨rfl,rfl⟩
namespace G
theorem wpQuiet_load_partgG [MM : Mk] {P : Program} {w0 : World} {ops : Array Oper} {rest : List Oper} {a : Act} {Q : Act → Prop} {x : Operand} {dst : Option Tmp} {ty ty' : TypeId} {pos : String} {af : Array Edge}
  (g off : Nat) (cs : Array Value) (hx : a.eval x = .pointer (some ⟨g,off,none⟩)) (hr : w0.rangeAt g off cs.toList) (hne : MM.m ≠ some g) (d : TypeDesc) (hu : P.underlying ty = some d) (hd : d.isRow = true) (hi : (P.info? ty).map (·.size) = some cs.size)
  (h : wpQuiet P ops (fun w' => ∃ x,w' = aftG w0 x) Q rest (a.put dst (.agg cs))) :
  wpQuiet P ops (fun w' => ∃ x,w' = aftG w0 x) Q ({ dst:=dst,op:=.load ty x,type:=ty',pos:=pos,after:=af,guard:=none } :: rest) a:=by
 refine BigFrame.wpQuiet_want (by simp [Region.wanted]) fun K hK => ⟨.agg cs,fun w hw => ?_,hK _ h⟩
 obtain ⟨y,rfl⟩:=hw
 unfold Oper.quietAt execOp
 have hl:=run_loadVar_mid (P:=P) (aftG w0 y) g off ty cs.toList d (fun j v hv => aftG_cell (hr j v hv) hne y) hu hd (by simpa using hi)
 simp only [hx,Instr.loadAt,Instr.sureAddr,Sem.run_bind,Sem.run_pure,Result.andThen_ok,hl,Array.toArray_toList]
 exact ⟨rfl,rfl⟩
end G
theorem item_parts {w : World} {A : Option Addr} {l : List Itm} (hr : Rd w A (l.flatMap Itm.cells)) (hk : ∀ x ∈ l,x.ok) {k : Nat} (h : k < l.length) :
  ∃ (b off : Nat) (x : Itm) (ss : Array Value),A = some ⟨b,off,none⟩∧b < w.heap.size∧w.cell? ⟨b,off + k * 33,none⟩ = some (u32v x.ty)∧w.rangeAt b (off + k * 33 + 1) ss.toList∧HashA x.h ss∧x.ok∧l[k]? = some x:=by
 obtain ⟨b,off,h1,h2,h3⟩:=item_at hr hk h
 have hok:=hk _ (List.getElem_mem h)
 refine ⟨b,off,l[k],_,h1,h2,?_,fun j v hv => ?_,HashA.of hok,hok,List.getElem?_eq_getElem h⟩
 ·have q:=h3 0 (u32v l[k].ty) rfl
  rwa [Nat.add_zero] at q
 ·have q:=h3 (j + 1) v (by unfold Itm.cells;rw [List.getElem?_cons_succ];simpa using hv)
  rw [Nat.add_assoc,Nat.add_comm 1 j];exact q
theorem bareM_ok {m : MsgR} (h : m.ok) (t : TxR) : (bareM m t).ok:=⟨h.k,h.n,h.s,⟨rfl,rfl⟩,h.h,h.l,(fun x q => by cases q),fun x q => by cases q⟩
def withI (m : MsgR) (A : Option Addr) (l : List Itm) (c : Nat) : MsgR:={ m with iA:=A,is:=l,ic:=c }
theorem withI_ok {m : MsgR} (h : m.ok) {A : Option Addr} {l : List Itm} {c : Nat} (hl : ∀ x ∈ l,x.ok) : (withI m A l c).ok:=⟨h.k,h.n,h.s,h.b,h.h,h.l,hl,h.z⟩
theorem set38w {m : MsgR} (h : m.ok) (A : Option Addr) (l : List Itm) (n c : Nat) (hn : l.length = n) : m.cells.set 38 (.slice A n c) = (withI m A l c).cells:=by
 subst hn;exact MsgR.set38s h A l c
set_option maxRecDepth 100000 in
set_option maxHeartbeats 4000000 in
theorem lmsg_any (m : MsgR) (cs : Array Value) (hA : MsB m cs) (w : World) (h : m.at_ w) (hi : m.t.ins.length ≤ 1000000) (ho : m.t.outs.length ≤ 1000000) (hit : m.is.length ≤ 1000000) :
  Calls Try.prog 6 #[.agg cs] w fun e w' => ∃ m' ds,e = .returned (.agg ds)∧MsA m' ds∧m'.pl = m.pl∧m'.at_ w'∧Keep w w':=by
 obtain ⟨zs,hz0,hzA⟩:=zmsg_letter
 have hzn:=hzA.n;have hzz:=hzA.z;have hzi:=hzA.i
 have HZ:=Lib.hid hzA
 have hcn:=hA.n;have hcz:=hA.z;have hci:=hA.i
 have HA:=Lib.hid hA;have HM:=Lib.hid h;have HO:=Lib.hid h.o
 obtain ⟨ss,hss⟩ : ∃ ss,HashA m.stop ss:=⟨_,HashA.of h.o.s⟩
 obtain ⟨hv,hhv⟩ : ∃ hv,HdA m.bh hv:=⟨_,HdA.of h.o.b⟩
 have hsn:=hss.n;have hsz:=hss.z;have hsi:=hss.i
 have hvn:=hhv.n;have hvz:=hhv.z;have hvi:=hhv.i
 have HSS:=Lib.hid hss;have HHV:=Lib.hid hhv
 have TT : Hid (∀ y,Keep w y → Calls Try.prog 20 #[.agg #[u32v m.t.ver,.slice m.t.iA m.t.ins.length m.t.ic,.slice m.t.oA m.t.outs.length m.t.oc,u32v m.t.lock]] y fun e w' => ∃ iA ic oA oc,e = .returned (.agg #[u32v m.t.ver,.slice iA m.t.ins.length ic,.slice oA m.t.outs.length oc,u32v m.t.lock])∧(∀ W,Mid w y w' W → TxR.at ⟨m.t.ver,iA,m.t.ins,ic,oA,m.t.outs,oc,m.t.lock⟩ W)∧Keep y w'):=Lib.hid fun y hy => ours_any m.t w y h.t hy hi ho
 have BU : Hid (∀ iA ic oA oc,Try.prog.built 49 [(0,.int .i64 m.kind),(1,u32v m.proto),(2,u64v m.nonce),(3,u32v m.height),(4,.slice m.hA m.hs.length m.hc),(5,.slice m.lA m.ls.length m.lc),(6,.agg ss),(9,.agg #[u32v m.t.ver,.slice iA m.t.ins.length ic,.slice oA m.t.outs.length oc,u32v m.t.lock])] = some (bareM m ⟨m.t.ver,iA,m.t.ins,ic,oA,m.t.outs,oc,m.t.lock⟩).cells.toArray):=Lib.hid fun iA ic oA oc => msgm_built m ⟨m.t.ver,iA,m.t.ins,ic,oA,m.t.outs,oc,m.t.lock⟩ ss h.o.s hss
 obtain ⟨bs,hbs⟩ : ∃ bs : Array Value,bs = m.blk.toArray:=⟨_,rfl⟩
 have BB : Hid (Try.prog.built 43 [(0,.agg hv),(1,u32v m.total),(2,.slice m.sA m.shs.length m.sc),(3,.slice m.fA m.fs.length m.fc)] = some bs):=Lib.hid (by rw [hbs];exact blk_built m h.o.b hv hhv)
 have HBS : Hid (bs.toList = m.blk):=Lib.hid (by rw [hbs])
 have hbz : bs.size = 71:=by rw [hbs];simpa using MsgR.blk_len h.o.b
 have hbi : (Try.prog.info? 43).map (·.size) = some bs.size:=by rw [hbz];kernel_rfl
 have hbn : ¬ bs = #[]:=fun e => by rw [e] at hbz;simp at hbz
 clear hA h hss hhv hzA hi ho hbs
 go_enter Try.func6,Try.ntmps6
 go_upto_region 1 with fail
 obtain ⟨w1,hw1⟩ : ∃ w1,w1 = (w.alloc (.cells cs 39)).alloc (.cells zs 49):=⟨_,rfl⟩
 have HB1 : Hid (Blk w1 w.heap.size 39 m.cells):=by rw [hw1,← HA.out.l];exact Lib.hid ((Blk.new w _ cs.toList).alloc _)
 have HR1 : Hid (Blk w1 (w.heap.size + 1) 49 zs.toList):=by
  rw [hw1]
  have h2:=Blk.new (w.alloc (.cells cs 39)) 49 zs.toList
  rw [World.size_alloc] at h2
  exact Lib.hid h2
 have HK1 : Hid (Keep w w1):=by rw [hw1];exact Lib.hid (keep_trans (keep_new _ _) (keep_new _ _))
 rw [← hw1]
 clear hw1
 have hw1s:=HR1.out.lt
 have RS : Hid (w1.rangeAt w.heap.size 6 ss.toList):=Lib.hid (range_of HB1.out 6 ss.toList (by
  rw [HSS.out.l,MsgR.cells6,List.drop_left' (show m.hd6.length = 6 from rfl),List.take_left' rfl]))
 have c0 : w1.cell? ⟨w.heap.size,0,none⟩ = some (.int .i64 m.kind):=(HB1.out.cell 0).trans rfl
 have c1 : w1.cell? ⟨w.heap.size,1,none⟩ = some (u32v m.proto):=(HB1.out.cell 1).trans rfl
 have c2 : w1.cell? ⟨w.heap.size,2,none⟩ = some (u64v m.nonce):=(HB1.out.cell 2).trans rfl
 have c3 : w1.cell? ⟨w.heap.size,3,none⟩ = some (u32v m.height):=(HB1.out.cell 3).trans rfl
 have c4 : w1.cell? ⟨w.heap.size,4,none⟩ = some (.slice m.hA m.hs.length m.hc):=(HB1.out.cell 4).trans rfl
 have c5 : w1.cell? ⟨w.heap.size,5,none⟩ = some (.slice m.lA m.ls.length m.lc):=(HB1.out.cell 5).trans rfl
 have t0 : w1.cell? ⟨w.heap.size,110,none⟩ = some (u32v m.t.ver):=(HB1.out.cell 110).trans ((MsgR.tx_get HO.out 0).trans rfl)
 have t1 : w1.cell? ⟨w.heap.size,111,none⟩ = some (.slice m.t.iA m.t.ins.length m.t.ic):=(HB1.out.cell 111).trans ((MsgR.tx_get HO.out 1).trans rfl)
 have t2 : w1.cell? ⟨w.heap.size,112,none⟩ = some (.slice m.t.oA m.t.outs.length m.t.oc):=(HB1.out.cell 112).trans ((MsgR.tx_get HO.out 2).trans rfl)
 have t3 : w1.cell? ⟨w.heap.size,113,none⟩ = some (u32v m.t.lock):=(HB1.out.cell 113).trans ((MsgR.tx_get HO.out 3).trans rfl)
 go_cut [3] (fun p wx => ∃ gx iA ic oA oc,p = .pointer (some ⟨gx,0,none⟩)∧w1.heap.size ≤ gx∧Hid (Keep w1 wx)∧Hid (Blk wx gx 49 (bareM m ⟨m.t.ver,iA,m.t.ins,ic,oA,m.t.outs,oc,m.t.lock⟩).cells)∧Hid (∀ W,Keep w W → (∀ k,w1.heap.size ≤ k → k < wx.heap.size → k ≠ gx → W.heap[k]? = wx.heap[k]?) → TxR.at ⟨m.t.ver,iA,m.t.ins,ic,oA,m.t.outs,oc,m.t.lock⟩ W))
 case first =>
  refine wp_region_tree (.take [0,1,2,3,4,5,6,7,8,9,10,11,12,13,14,15] (.fork 16 (.take [17] (.force [18] .done)) 18 (.force [16] (.take [17] .done)))) [19] (by kernel_rfl) (by kernel_rfl) (fun y0 hk => ?_)
  have Q:=Lib.hid hk
  clear hk
  refine mt_take y0 (Below.refl _ _) ?_
  simp only [pick_cons,pick_nil,nth_zero,nth_succ]
  have RS0:=Lib.hid (range_keep Q.out RS.out)
  have a0:=aft_cell (keep_cell Q.out c0);have a1:=aft_cell (keep_cell Q.out c1);have a2:=aft_cell (keep_cell Q.out c2);have a3:=aft_cell (keep_cell Q.out c3);have a4:=aft_cell (keep_cell Q.out c4);have a5:=aft_cell (keep_cell Q.out c5)
  have a6:=aft_cell (keep_cell Q.out t0);have a7:=aft_cell (keep_cell Q.out t1);have a8:=aft_cell (keep_cell Q.out t2);have a9:=aft_cell (keep_cell Q.out t3)
  clear c0 c1 c2 c3 c4 c5 t0 t1 t2 t3
  repeat (first | ((with_reducible refine wpQuiet_load_partg w.heap.size 6 ss (Eq.trans ?_ rfl) RS0.out _ hash_under rfl hsi (Eq.trans ?_ rfl) ?_);rfl;rfl;simp only [Act.put,Array.set!_eq_setIfInBounds,List.setIfInBounds_toArray,List.set_cons_succ,List.set_cons_zero]) | go_big_quiet_step (fail))
  clear a0 a1 a2 a3 a4 a5 a6 a7 a8 a9 RS0
  refine wpQuiet_nil (mt_fork ?_ ?_)
  ·simp only [pick_cons,pick_nil,nth_zero,nth_succ]
   refine fc_step rfl (fun K hK => ?_)
   go_simp
   (with_reducible refine (TT.out y0 (keep_trans HK1.out Q.out)).mono ?_)
   rintro e y1 ⟨iA,ic,oA,oc,rfl,hT,hk⟩
   refine hK _ _ hk ?_
   clear hK K
   have HQ16 : w1.heap.size ≤ y0.heap.size:=Q.out.size
   have Hprev:=Q
   replace Q:=Lib.hid (keep_trans Q.out hk)
   have hs_y1 : y0.heap.size ≤ y1.heap.size:=hk.size
   have HT : Hid (∀ W,Keep w W → (∀ k,y0.heap.size ≤ k → k < y1.heap.size → W.heap[k]? = y1.heap[k]?) → TxR.at ⟨m.t.ver,iA,m.t.ins,ic,oA,m.t.outs,oc,m.t.lock⟩ W):=Lib.hid fun W h1 h2 => hT W ⟨h1,h2⟩
   obtain ⟨ds,hds⟩ : ∃ ds : Array Value,ds = (bareM m ⟨m.t.ver,iA,m.t.ins,ic,oA,m.t.outs,oc,m.t.lock⟩).cells.toArray:=⟨_,rfl⟩
   have HDS : Hid (MsA (bareM m ⟨m.t.ver,iA,m.t.ins,ic,oA,m.t.outs,oc,m.t.lock⟩) ds):=Lib.hid (by rw [hds];exact MsA.of (bareM_ok HO.out _))
   have HBU : Hid (Try.prog.built 49 [(0,.int .i64 m.kind),(1,u32v m.proto),(2,u64v m.nonce),(3,u32v m.height),(4,.slice m.hA m.hs.length m.hc),(5,.slice m.lA m.ls.length m.lc),(6,.agg ss),(9,.agg #[u32v m.t.ver,.slice iA m.t.ins.length ic,.slice oA m.t.outs.length oc,u32v m.t.lock])] = some ds):=Lib.hid (by rw [hds];exact BU.out _ _ _ _)
   have hdz:=HDS.out.z;have hdn:=HDS.out.n;have hdi:=HDS.out.i
   clear hT hds
   clear hk
   refine fc_nil (mt_take y1 (Below.refl _ _) ?_)
   simp only [pick_cons,pick_nil,nth_zero,nth_succ]
   repeat (first | ((with_reducible refine wpQuiet_buildm [(0,.int .i64 m.kind),(1,u32v m.proto),(2,u64v m.nonce),(3,u32v m.height),(4,.slice m.hA m.hs.length m.hc),(5,.slice m.lA m.ls.length m.lc),(6,.agg ss),(9,.agg #[u32v m.t.ver,.slice iA m.t.ins.length ic,.slice oA m.t.outs.length oc,u32v m.t.lock])] ds (Eq.trans ?_ rfl) HBU.out ?_);rfl;simp only [Act.put,Array.set!_eq_setIfInBounds,List.setIfInBounds_toArray,List.set_cons_succ,List.set_cons_zero]) | go_big_quiet_step (fail))
   refine wpQuiet_nil (mt_force ?_)
   simp only [pick_cons,pick_nil,nth_zero,nth_succ]
   refine fc_step rfl (fun K hK => ?_)
   go_simp
   refine hK _ _ (keep_new _ _) ?_
   clear hK K
   obtain ⟨y2,hy⟩ : ∃ y2,y2 = y1.alloc (.cells zs 49):=⟨_,rfl⟩
   have HX : Hid (Blk y2 y1.heap.size 49 zs.toList):=by rw [hy];exact Blk.new y1 _ zs.toList
   have hk : Keep y1 y2:=by rw [hy];exact keep_new _ _
   rw [← hy]
   clear hy
   have HXs : y1.heap.size < y2.heap.size:=HX.out.lt
   have HXn:=Q.out.size
   replace Q:=Lib.hid (keep_trans Q.out hk)
   have hs_y2 : y1.heap.size ≤ y2.heap.size:=hk.size
   replace HT:=Lib.hid (at_carry HT.out hk (Nat.le_refl _))
   clear hk
   generalize hp : y1.heap.size = gx at *
   have HXa : y1.heap.size ≤ gx:=Nat.le_of_eq hp
   have HXb : gx ≤ y1.heap.size:=Nat.le_of_eq hp.symm
   clear hp
   refine fc_nil (mt_end ?_)
   obtain ⟨wa,hsta,hba,hga⟩:=run_store_blk (P:=Try.prog) ds.toList HX.out (by rw [Array.length_toList,Array.length_toList,hzz,hdz]) HDS.out.o
   have Hba:=Lib.hid hba;have Hga:=Lib.hid hga
   have hga1:=hga.size;have hQs:=Q.out.size
   clear hba hga
   go_wp2
   go_meet
   refine ⟨gx,iA,ic,oA,oc,rfl,by omega,Lib.hid (Q.out.grown Hga.out (by omega) (fun q hq => by injection hq with hq;omega)),by rw [← HDS.out.l];exact Hba,Lib.hid (fun W h1 h2 => HT.out W h1 fun k a b => ?_)⟩
   have hkg : k ≠ gx:=by omega
   exact (h2 k (by omega) (by omega) hkg).trans (Hga.out.block k (by omega) (fun e => hkg (Option.some.inj e)))
  ·simp only [pick_cons,pick_nil,nth_zero,nth_succ]
   refine fc_step rfl (fun K hK => ?_)
   go_simp
   refine hK _ _ (keep_new _ _) ?_
   clear hK K
   obtain ⟨y3,hy⟩ : ∃ y3,y3 = y0.alloc (.cells zs 49):=⟨_,rfl⟩
   have HX : Hid (Blk y3 y0.heap.size 49 zs.toList):=by rw [hy];exact Blk.new y0 _ zs.toList
   have hk : Keep y0 y3:=by rw [hy];exact keep_new _ _
   rw [← hy]
   clear hy
   have HXs : y0.heap.size < y3.heap.size:=HX.out.lt
   have HXn:=Q.out.size
   replace Q:=Lib.hid (keep_trans Q.out hk)
   have hs_y3 : y0.heap.size ≤ y3.heap.size:=hk.size
   clear hk
   generalize hp : y0.heap.size = gx at *
   have HXa : y0.heap.size ≤ gx:=Nat.le_of_eq hp
   have HXb : gx ≤ y0.heap.size:=Nat.le_of_eq hp.symm
   clear hp
   refine fc_nil (mt_force ?_)
   simp only [pick_cons,pick_nil,nth_zero,nth_succ]
   refine fc_step rfl (fun K hK => ?_)
   go_simp
   (with_reducible refine (TT.out y3 (keep_trans HK1.out Q.out)).mono ?_)
   rintro e y4 ⟨iA,ic,oA,oc,rfl,hT,hk⟩
   refine hK _ _ hk ?_
   clear hK K
   have HQ16 : w1.heap.size ≤ y3.heap.size:=Q.out.size
   have Hprev:=Q
   replace Q:=Lib.hid (keep_trans Q.out hk)
   have hs_y4 : y3.heap.size ≤ y4.heap.size:=hk.size
   replace HX:=Lib.hid (HX.out.keep hk)
   have HT : Hid (∀ W,Keep w W → (∀ k,y3.heap.size ≤ k → k < y4.heap.size → W.heap[k]? = y4.heap[k]?) → TxR.at ⟨m.t.ver,iA,m.t.ins,ic,oA,m.t.outs,oc,m.t.lock⟩ W):=Lib.hid fun W h1 h2 => hT W ⟨h1,h2⟩
   obtain ⟨ds,hds⟩ : ∃ ds : Array Value,ds = (bareM m ⟨m.t.ver,iA,m.t.ins,ic,oA,m.t.outs,oc,m.t.lock⟩).cells.toArray:=⟨_,rfl⟩
   have HDS : Hid (MsA (bareM m ⟨m.t.ver,iA,m.t.ins,ic,oA,m.t.outs,oc,m.t.lock⟩) ds):=Lib.hid (by rw [hds];exact MsA.of (bareM_ok HO.out _))
   have HBU : Hid (Try.prog.built 49 [(0,.int .i64 m.kind),(1,u32v m.proto),(2,u64v m.nonce),(3,u32v m.height),(4,.slice m.hA m.hs.length m.hc),(5,.slice m.lA m.ls.length m.lc),(6,.agg ss),(9,.agg #[u32v m.t.ver,.slice iA m.t.ins.length ic,.slice oA m.t.outs.length oc,u32v m.t.lock])] = some ds):=Lib.hid (by rw [hds];exact BU.out _ _ _ _)
   have hdz:=HDS.out.z;have hdn:=HDS.out.n;have hdi:=HDS.out.i
   clear hT hds
   clear hk
   refine fc_nil (mt_take y4 (Below.refl _ _) ?_)
   simp only [pick_cons,pick_nil,nth_zero,nth_succ]
   repeat (first | ((with_reducible refine wpQuiet_buildm [(0,.int .i64 m.kind),(1,u32v m.proto),(2,u64v m.nonce),(3,u32v m.height),(4,.slice m.hA m.hs.length m.hc),(5,.slice m.lA m.ls.length m.lc),(6,.agg ss),(9,.agg #[u32v m.t.ver,.slice iA m.t.ins.length ic,.slice oA m.t.outs.length oc,u32v m.t.lock])] ds (Eq.trans ?_ rfl) HBU.out ?_);rfl;simp only [Act.put,Array.set!_eq_setIfInBounds,List.setIfInBounds_toArray,List.set_cons_succ,List.set_cons_zero]) | go_big_quiet_step (fail))
   refine wpQuiet_nil (mt_end ?_)
   obtain ⟨wa,hsta,hba,hga⟩:=run_store_blk (P:=Try.prog) ds.toList HX.out (by rw [Array.length_toList,Array.length_toList,hzz,hdz]) HDS.out.o
   have Hba:=Lib.hid hba;have Hga:=Lib.hid hga
   have hga1:=hga.size;have hQs:=Q.out.size
   clear hba hga
   go_wp2
   go_meet
   refine ⟨gx,iA,ic,oA,oc,rfl,by omega,Lib.hid (Q.out.grown Hga.out (by omega) (fun q hq => by injection hq with hq;omega)),by rw [← HDS.out.l];exact Hba,Lib.hid (fun W h1 h2 => HT.out W h1 fun k a b => ?_)⟩
   have hkg : k ≠ gx:=by omega
   exact (h2 k (by omega) (by omega) hkg).trans (Hga.out.block k (by omega) (fun e => hkg (Option.some.inj e)))
 case rest =>
  obtain ⟨gx,iA,ic,oA,oc,rfl,hgx,HK5,HX5,HT5⟩:=hcut
  clear c0 c1 c2 c3 c4 c5 t0 t1 t2 t3 RS TT BU
  have hgl:=HX5.out.lt
  have HB5:=Lib.hid (HB1.out.keep HK5.out);have HR5:=Lib.hid (HR1.out.keep HK5.out)
  have HKW:=Lib.hid (keep_trans HK1.out HK5.out)
  have HOB:=Lib.hid (bareM_ok HO.out ⟨m.t.ver,iA,m.t.ins,ic,oA,m.t.outs,oc,m.t.lock⟩)
  obtain ⟨M1,hM1⟩ : ∃ M1,bareM m ⟨m.t.ver,iA,m.t.ins,ic,oA,m.t.outs,oc,m.t.lock⟩ = M1:=⟨_,rfl⟩
  have HM1:=Lib.hid hM1
  rw [hM1] at HX5 HOB
  clear hM1
  have HI : Hid (∀ k (h : k < m.is.length),∃ (b off : Nat) (x : Itm) (ss : Array Value),m.iA = some ⟨b,off,none⟩∧b < w.heap.size∧w.cell? ⟨b,off + k * 33,none⟩ = some (u32v x.ty)∧w.rangeAt b (off + k * 33 + 1) ss.toList∧HashA x.h ss∧x.ok∧m.is[k]? = some x):=Lib.hid fun k h => item_parts HM.out.i HO.out.i h
  obtain ⟨n,hn⟩ : ∃ n,m.is.length = n:=⟨_,rfl⟩
  have HN:=Lib.hid hn
  rw [hn] at hit HI
  clear hn
  have x38 : ∀ y,Blk y w.heap.size 39 m.cells → y.cell? ⟨w.heap.size,38,none⟩ = some (.slice m.iA n m.ic):=fun y hy => (hy.cell 38).trans ((MsgR.tail_get HO.out 0).trans (by rw [← HN.out];rfl))
  have X38:=Lib.hid x38
  clear x38
  generalize m.iA = mA at *
  have HXI : Hid (Blk wc gx 49 (withI M1 none (m.is.take 0) 0).cells):=Lib.hid (by have q:=HX5.out;rw [← HM1.out] at q ⊢;exact q)
  have Own0 : Hid (wc.ownsRow wc.heap.size 70 33 (.slice none 0 0) 0 ((m.is.take 0).flatMap Itm.cells)):=Lib.hid (World.ownsRow_nil _ _ _ _)
  have KX0 : Hid (KeepX (fun k => k = gx) wc wc):=Lib.hid (KeepX.of (Below.refl _ _))
  go_wp2_with fail
  go_loopw [4] (fun x wr => ∃ (j : Nat) (A : Option Addr) (c : Nat),j ≤ n∧x = .int .i64 j∧Hid (Blk wr gx 49 (withI M1 A (m.is.take j) c).cells)∧Hid (wr.ownsRow wc.heap.size 70 33 (.slice A j c) j ((m.is.take j).flatMap Itm.cells))∧Hid (Blk wr w.heap.size 39 m.cells)∧Hid (Blk wr (w.heap.size + 1) 49 zs.toList)∧Hid (Keep w wr)∧Hid (KeepX (fun k => k = gx) wc wr)) (fun x _ => n - (intOf x).toNat)
  case atStart => exact ⟨0,none,0,Nat.zero_le _,rfl,HXI,Own0,HB5,HR5,HKW,KX0⟩
  case round =>
   obtain ⟨j,A,c,hj,rfl,HX,Own,HB,HR,HK,KX⟩:=hrel
   clear HXI Own0 HB5 HR5 HKW KX0 HX5 HK5
   have t2:=X38.out _ HB.out
   have hlj : (m.is.take j).length = j:=by rw [List.length_take,HN.out];omega
   have HLJ:=Lib.hid hlj
   clear hlj
   by_cases hlt : j < n
   ·obtain ⟨b,off,x,ds,hmA,hbl,e0,e1,hds,hok,hget⟩:=HI.out j hlt
    subst hmA
    have hdn:=hds.n;have hdz:=hds.z;have hdi:=hds.i
    have HDS:=Lib.hid hds;have HOK:=Lib.hid hok
    have e0:=keep_cell HK.out e0
    have RE:=Lib.hid (range_keep HK.out e1)
    have d4 : (j : Int) < n:=by omega
    have HGE:=Lib.hid hget
    obtain ⟨es,hes⟩ : ∃ es : Array Value,es = (Itm.cells x).toArray:=⟨_,rfl⟩
    have HBu : Hid (Try.prog.built 70 [(0,u32v x.ty),(1,.agg ds)] = some es):=Lib.hid (by rw [hes];exact item_built x.ty x.h ds hok hds)
    have hel : es.toList = x.cells:=by rw [hes]
    have hez : es.size = 33:=by rw [hes];simpa using Itm.len hok
    have HEO : Hid (∀ v ∈ es.toList,v.oneCell' = true):=Lib.hid (by rw [hel];exact x.one)
    have HEL:=Lib.hid hel
    clear hget HI hds hok e1 hes hel
    go_upto_region 5 with fail
    letI iM : G.Mk:=⟨(Value.slice A j c).ownBlock⟩
    refine G.wp_region_tree (.take [0,1,2,3,4,5,6,7,8,9,10,11,12,13,14] (.force [15,16] .done)) [17,18] (by kernel_rfl) (by kernel_rfl) (fun w8 k8 => ?_)
    have HX8:=Lib.hid (HX.out.keep k8);have Own8:=Lib.hid (own_keep Own.out k8);have HB8:=Lib.hid (HB.out.keep k8);have HR8:=Lib.hid (HR.out.keep k8);have HK8:=Lib.hid (keep_trans HK.out k8)
    have KX8 : Hid (KeepX (fun k => k = gx) wc w8):=Lib.hid (KX.out.trans (KeepX.of k8) fun _ _ q => q)
    have e0:=keep_cell k8 e0;have RE8:=Lib.hid (range_keep k8 RE.out)
    clear k8 HX Own HB HR HK KX t2 RE
    have hwc:=HK8.out.size
    have hww:=keep_size_w HK1.out
    have hneX : G.Mk.m ≠ some gx:=fun q => by have:=(Own8.out.lt _ q).1;omega
    have hneT : G.Mk.m ≠ some w.heap.size:=fun q => by have:=(Own8.out.lt _ q).1;omega
    have hneB : G.Mk.m ≠ some b:=fun q => by have:=(Own8.out.lt _ q).1;omega
    have q0 : w8.cell? ⟨gx,38,none⟩ = some (.slice A j c):=(HX8.out.cell 38).trans ((MsgR.tail_get (m:=withI M1 A (m.is.take j) c) (withI_ok HOB.out (fun x hx => HO.out.i x (List.mem_of_mem_take hx))) 0).trans (by show some (Value.slice A (m.is.take j).length c) = _;rw [HLJ.out]))
    have b0:=G.aftG_cell q0 hneX
    have b1:=G.aftG_cell (X38.out _ HB8.out) hneT
    have b2:=G.aftG_cell e0 hneB
    refine G.mt_take w8 (G.Gr.refl _) ?_
    simp only [pick_cons,pick_nil,nth_zero,nth_succ]
    repeat (first | ((with_reducible refine G.wpQuiet_load_partgG b (off + j * 33 + 1) ds (Eq.trans ?_ rfl) RE8.out hneB _ hash_under rfl hdi ?_);rfl;simp only [Act.put,Array.set!_eq_setIfInBounds,List.setIfInBounds_toArray,List.set_cons_succ,List.set_cons_zero]) | ((with_reducible refine wpQuiet_buildm [(0,u32v x.ty),(1,.agg ds)] es (Eq.trans ?_ rfl) HBu.out ?_);rfl;simp only [Act.put,Array.set!_eq_setIfInBounds,List.setIfInBounds_toArray,List.set_cons_succ,List.set_cons_zero]) | go_big_quiet_step (fail))
    refine wpQuiet_nil (G.mt_force ?_)
    clear b0 b1 b2 hneX hneT hneB e0 q0
    simp only [pick_cons,pick_nil,nth_zero,nth_succ]
    refine G.fc_step rfl (fun K hK => ?_)
    refine wp_build1b itemT _ rfl es hez (by omega) rfl (hK _ _ (G.Gr.of_keep (keep_new _ _)) ?_)
    clear hK K
    simp only [Act.put,Array.set!_eq_setIfInBounds,List.setIfInBounds_toArray,List.set_cons_succ,List.set_cons_zero]
    obtain ⟨w9,hw9⟩ : ∃ w9,w9 = w8.alloc (.cells es 70):=⟨_,rfl⟩
    have HL9 : Hid (Rd w9 (some ⟨w8.heap.size,0,none⟩) es.toList):=by rw [hw9];exact Lib.hid (by simpa using Rd.new w8 es.toList 70)
    have k9 : Keep w8 w9:=by rw [hw9];exact keep_new _ _
    rw [← hw9]
    have HX9:=Lib.hid (HX8.out.keep k9);have Own9:=Lib.hid (own_keep Own8.out k9);have HB9:=Lib.hid (HB8.out.keep k9);have HR9:=Lib.hid (HR8.out.keep k9);have HK9:=Lib.hid (keep_trans HK8.out k9)
    have KX9 : Hid (KeepX (fun k => k = gx) wc w9):=Lib.hid (KX8.out.trans (KeepX.of k9) fun _ _ q => q)
    clear hw9 k9 HX8 Own8 HB8 HR8 HK8 KX8
    have hs9:=KX9.out.2.2.2.1
    refine G.fc_step rfl (fun K hK => ?_)
    refine wp_app itemT _ _ (by rfl) wc.heap.size _ j _ (by rfl) Own9.out _ 1 1 es.toList (by rfl) (by rw [Array.length_toList,hez]) HL9.out HEO.out (by omega) (by unfold maxLen;omega) hs9 ?_
    intro v' wq ownq hgq hatq
    refine hK _ _ hgq ?_
    clear hK K HL9
    simp only [Act.put,Array.set!_eq_setIfInBounds,List.setIfInBounds_toArray,List.set_cons_succ,List.set_cons_zero]
    have HXq:=Lib.hid (HX9.out.grown hgq (fun q => by have:=(Own9.out.lt _ q).1;omega))
    have HBq:=Lib.hid (HB9.out.grown hgq (fun q => by have:=(Own9.out.lt _ q).1;omega))
    have HRq:=Lib.hid (HR9.out.grown hgq (fun q => by have:=(Own9.out.lt _ q).1;omega))
    have HKq : Hid (Keep w wq):=Lib.hid (keep_grown HK9.out HK9.out.size hgq (own_base Own9.out (by omega)))
    have KXq : Hid (KeepX (fun k => k = gx) wc wq):=Lib.hid (KX9.out.grown hgq (fun i hi q => by have:=(Own9.out.lt _ q).1;omega))
    have Ownq:=Lib.hid ownq
    clear ownq hgq hatq HX9 HB9 HR9 HK9 KX9 Own9 hs9
    obtain ⟨Aw,cw,rfl,-,-,-⟩:=own_form Ownq.out
    have y3 : ∃ v,wq.cell? ⟨gx,38,none⟩ = some v:=⟨_,(HXq.out.cell 38).trans (List.getElem?_eq_getElem (by rw [MsgR.len (withI_ok HOB.out (fun x hx => HO.out.i x (List.mem_of_mem_take hx)))];omega))⟩
    obtain ⟨v3,y3⟩:=y3
    have f3:=HXq.out.frozen 38
    refine G.fc_nil (G.mt_end ?_)
    clear iM
    go_wp2
    obtain ⟨w4,hw4⟩ : ∃ w4,w4 = wq.setCell ⟨gx,38,none⟩ (.slice Aw (j + 1) cw):=⟨_,rfl⟩
    have HX4 : Hid (Blk w4 gx 49 (withI M1 Aw (m.is.take (j + 1)) cw).cells):=by
     rw [hw4]
     have q:=HXq.out.set_ 38 (.slice Aw (j + 1) cw)
     rw [set38w (withI_ok HOB.out (fun x hx => HO.out.i x (List.mem_of_mem_take hx))) Aw (m.is.take (j + 1)) (j + 1) cw (by rw [List.length_take,HN.out];omega)] at q
     exact Lib.hid q
    have HB4 : Hid (Blk w4 w.heap.size 39 m.cells):=by rw [hw4];exact Lib.hid (HBq.out.far (by simp <;> omega) _)
    have HR4 : Hid (Blk w4 (w.heap.size + 1) 49 zs.toList):=by rw [hw4];exact Lib.hid (HRq.out.far (by simp <;> omega) _)
    have Own4 : Hid (w4.ownsRow wc.heap.size 70 33 (.slice Aw (j + 1) cw) (j + 1) ((m.is.take (j + 1)).flatMap Itm.cells)):=by
     rw [hw4]
     refine Lib.hid (own_eq (ownsRow_setCell_below Ownq.out (a:=⟨gx,38,none⟩) (by omega) _) rfl ?_)
     rw [HEL.out,List.take_add_one,HGE.out,List.flatMap_append];simp
    have HK4 : Hid (Keep w w4):=by rw [hw4];exact Lib.hid (Below.setCell HKq.out (by simp <;> omega) _)
    have KX4 : Hid (KeepX (fun k => k = gx) wc w4):=by rw [hw4];exact Lib.hid (KeepB.set KXq.out 38 _)
    rw [← hw4]
    clear hw4 HXq HBq HRq Ownq HKq KXq y3 f3 HGE HEL HEO HBu HDS HOK HLJ RE8
    go_roundw
    case rel => exact ⟨j + 1,Aw,cw,by omega,by go_num,HX4,Own4,HB4,HR4,HK4,KX4⟩
    case measure => simp [intOf];omega
   ·obtain rfl : j = n:=by omega
    have d4 : ¬ (j : Int) < j:=by omega
    obtain ⟨Ai,ci,hAi,hci1,hci2,-⟩:=own_form Own.out
    obtain ⟨rfl,rfl⟩ : A = Ai∧c = ci:=by injection hAi with h1 _ h3;exact ⟨h1,h3⟩
    clear hAi
    have ht : m.is.take j = m.is:=List.take_of_length_le (by rw [HN.out];omega)
    rw [ht] at HX Own
    obtain rfl:=HM1.out
    have HO2:=Lib.hid (withI_ok HOB.out (A:=A) (c:=c) HO.out.i)
    have RH : Hid (wr.rangeAt w.heap.size 39 hv.toList):=Lib.hid (range_of HB.out 39 hv.toList (by
     rw [HHV.out.l,MsgR.cells39,List.drop_left' (MsgR.hd39_len HO.out.s)]
     unfold MsgR.blk
     rw [List.append_assoc,List.take_left' rfl]))
    have r107 : wr.cell? ⟨w.heap.size,107,none⟩ = some (u32v m.total):=(HB.out.cell 107).trans ((MsgR.blk_tail HO.out 0 (by omega)).trans rfl)
    have r108 : wr.cell? ⟨w.heap.size,108,none⟩ = some (.slice m.sA m.shs.length m.sc):=(HB.out.cell 108).trans ((MsgR.blk_tail HO.out 1 (by omega)).trans rfl)
    have r109 : wr.cell? ⟨w.heap.size,109,none⟩ = some (.slice m.fA m.fs.length m.fc):=(HB.out.cell 109).trans ((MsgR.blk_tail HO.out 2 (by omega)).trans rfl)
    obtain ⟨wp,hstp,hbp,hgp⟩:=run_store_prt (P:=Try.prog) 39 bs.toList HX.out (by rw [MsgR.len HO2.out,Array.length_toList,hbz];omega) (by rw [HBS.out];intro u hu;exact MsgR.one m u (by rw [MsgR.cells39];simp [hu]))
    rw [HBS.out,MsgR.splice_blk HO2.out HO.out.b] at hbp
    have HBP:=Lib.hid hbp;have HGP:=Lib.hid hgp
    have HRP:=Lib.hid (HR.out.grown hgp (fun q => by have:=Option.some.inj q;omega))
    have HKP : Hid (Keep w wp):=Lib.hid (HK.out.grown hgp HK.out.size (fun q hq => by injection hq with hq;omega))
    clear hbp hgp
    obtain ⟨M3,hM3⟩ : ∃ M3,MsgR.mk m.kind m.proto m.nonce m.height m.hA m.hs m.hc m.lA m.ls m.lc m.stop A m.is c m.bh m.total m.sA m.shs m.sc m.fA m.fs m.fc ⟨m.t.ver,iA,m.t.ins,ic,oA,m.t.outs,oc,m.t.lock⟩ = M3:=⟨_,rfl⟩
    have HBQ : Hid (Blk wp gx 49 M3.cells):=Lib.hid (by rw [← hM3];exact HBP.out)
    have HO3 : M3.ok:=by rw [← hM3];exact ⟨HO.out.k,HO.out.n,HO.out.s,HO.out.b,HO.out.h,HO.out.l,HO.out.i,HO.out.z⟩
    obtain ⟨ds,hds⟩ : ∃ ds,MsA M3 ds:=⟨_,MsA.of HO3⟩
    have hdz:=hds.z;have hdn:=hds.n;have hdi:=hds.i
    have HDS:=Lib.hid hds
    have HBx : Hid (Blk wp gx 49 ds.toList):=Lib.hid (by rw [HDS.out.l];exact HBQ.out)
    obtain ⟨w8,hst8,hb8,hg8⟩:=run_store_blk (P:=Try.prog) ds.toList HRP.out (by rw [Array.length_toList,Array.length_toList,hzz,hdz]) HDS.out.o
    have Hb8:=Lib.hid hb8;have Hg8:=Lib.hid hg8
    have HM3:=Lib.hid hM3
    have HO3:=Lib.hid HO3
    clear hds hb8 hg8 HBP HBQ hM3 ht
    go_wp2_with (first | ((with_reducible refine load_partg w.heap.size 39 hv (Eq.trans ?_ rfl) RH.out _ Try.underlying30 rfl hvi rfl ?_);rfl) | ((with_reducible refine list_bldg [(0,.agg hv),(1,u32v m.total),(2,.slice m.sA m.shs.length m.sc),(3,.slice m.fA m.fs.length m.fc)] bs (Eq.trans ?_ rfl) BB.out (Eq.trans ?_ rfl) ?_);rfl;rfl) | ((with_reducible refine load_arr gx ds (Eq.trans ?_ rfl) HBx.out _ Try.underlying49 rfl hdi ?_);rfl))
    have KF : Keep w w8:=HKP.out.grown Hg8.out HKP.out.size (fun q hq => by injection hq with hq;omega)
    have KX8 : KeepX (fun k => k = gx ∨ k = w.heap.size + 1) wr w8:=((KeepX.of (X:=fun k => k = gx ∨ k = w.heap.size + 1) (Below.refl wr.heap.size wr)).grown HGP.out (fun i _ q => .inl (Option.some.inj q).symm)).grown Hg8.out (fun i _ q => .inr (Option.some.inj q).symm)
    have o1:=own_kx Own.out KX8 (fun g q e => by have:=(Own.out.lt g q).1;omega)
    have hT:=HT5.out w8 KF (fun k h1 h2 h3 => (KX8.2.2.2.2 k (Nat.lt_of_lt_of_le h2 KX.out.2.2.2.1) (by rintro (e | e) <;> omega)).trans (KX.out.2.2.2.2 k h2 h3))
    have hat : M3.at_ w8:=by
     rw [← HM3.out]
     exact ⟨by rw [HM3.out];exact HO3.out,HM.out.h.keep KF,HM.out.hc,HM.out.l.keep KF,HM.out.lc,own_rd o1,⟨by rw [HN.out];exact hci1,hci2⟩,HM.out.s.keep KF,HM.out.sc,HM.out.f.keep KF,HM.out.fc,hT⟩
    exact bodyPost_ret (v:=.agg ds) (results_cell_row Try.results6 _ _ (w.heap.size + 1) _ _ _ _ rfl Hb8.out Try.underlying49 rfl (by rw [List.size_toArray,Array.length_toList];exact hdi)) rfl ⟨M3,ds,rfl,HDS.out,by rw [← HM3.out];rfl,hat,KF⟩
set_option maxRecDepth 100000 in
set_option maxHeartbeats 4000000 in
theorem plainly_any (m : MsgR) (cs : Array Value) (hA : MsA m cs) (w : World) (h : m.at_ w) (hi : m.t.ins.length ≤ 1000000) (ho : m.t.outs.length ≤ 1000000) (hit : m.is.length ≤ 1000000) :
  Calls Try.prog 16 #[.agg cs] w fun e w' => ∃ m' ds,e = .returned (.agg ds)∧MsB m' ds∧m'.pl = m.pl∧m'.at_ w'∧Keep w w':=by
 obtain ⟨zs,hz0,hzA⟩:=zrmsg_letter
 have hzn:=hzA.n;have hzz:=hzA.z;have hzi:=hzA.i
 have HZ:=Lib.hid hzA
 have hcn:=hA.n;have hcz:=hA.z;have hci:=hA.i
 have HA:=Lib.hid hA;have HM:=Lib.hid h;have HO:=Lib.hid h.o
 obtain ⟨ss,hss⟩ : ∃ ss,HashA m.stop ss:=⟨_,HashA.of h.o.s⟩
 obtain ⟨hv,hhv⟩ : ∃ hv,HdA m.bh hv:=⟨_,HdA.of h.o.b⟩
 have hsn:=hss.n;have hsz:=hss.z;have hsi:=hss.i
 have hvn:=hhv.n;have hvz:=hhv.z;have hvi:=hhv.i
 have HSS:=Lib.hid hss;have HHV:=Lib.hid hhv
 have TT : Hid (∀ y,Keep w y → Calls Try.prog 41 #[.agg #[u32v m.t.ver,.slice m.t.iA m.t.ins.length m.t.ic,.slice m.t.oA m.t.outs.length m.t.oc,u32v m.t.lock]] y fun e w' => ∃ iA ic oA oc,e = .returned (.agg #[u32v m.t.ver,.slice iA m.t.ins.length ic,.slice oA m.t.outs.length oc,u32v m.t.lock])∧(∀ W,Mid w y w' W → TxR.at ⟨m.t.ver,iA,m.t.ins,ic,oA,m.t.outs,oc,m.t.lock⟩ W)∧Keep y w'):=Lib.hid fun y hy => theirs_any m.t w y h.t hy hi ho
 have BU : Hid (∀ iA ic oA oc,Try.prog.built 39 [(0,.int .i64 m.kind),(1,u32v m.proto),(2,u64v m.nonce),(3,u32v m.height),(4,.slice m.hA m.hs.length m.hc),(5,.slice m.lA m.ls.length m.lc),(6,.agg ss),(9,.agg #[u32v m.t.ver,.slice iA m.t.ins.length ic,.slice oA m.t.outs.length oc,u32v m.t.lock])] = some (bareM m ⟨m.t.ver,iA,m.t.ins,ic,oA,m.t.outs,oc,m.t.lock⟩).cells.toArray):=Lib.hid fun iA ic oA oc => rmsgm_built m ⟨m.t.ver,iA,m.t.ins,ic,oA,m.t.outs,oc,m.t.lock⟩ ss h.o.s hss
 obtain ⟨bs,hbs⟩ : ∃ bs : Array Value,bs = m.blk.toArray:=⟨_,rfl⟩
 have BB : Hid (Try.prog.built 33 [(0,.agg hv),(1,u32v m.total),(2,.slice m.sA m.shs.length m.sc),(3,.slice m.fA m.fs.length m.fc)] = some bs):=Lib.hid (by rw [hbs];exact rblk_built m h.o.b hv hhv)
 have HBS : Hid (bs.toList = m.blk):=Lib.hid (by rw [hbs])
 have hbz : bs.size = 71:=by rw [hbs];simpa using MsgR.blk_len h.o.b
 have hbi : (Try.prog.info? 33).map (·.size) = some bs.size:=by rw [hbz];kernel_rfl
 have hbn : ¬ bs = #[]:=fun e => by rw [e] at hbz;simp at hbz
 clear hA h hss hhv hzA hi ho hbs
 go_enter Try.func16,Try.ntmps16
 go_upto_region 1 with fail
 obtain ⟨w1,hw1⟩ : ∃ w1,w1 = (w.alloc (.cells cs 49)).alloc (.cells zs 39):=⟨_,rfl⟩
 have HB1 : Hid (Blk w1 w.heap.size 49 m.cells):=by rw [hw1,← HA.out.l];exact Lib.hid ((Blk.new w _ cs.toList).alloc _)
 have HR1 : Hid (Blk w1 (w.heap.size + 1) 39 zs.toList):=by
  rw [hw1]
  have h2:=Blk.new (w.alloc (.cells cs 49)) 39 zs.toList
  rw [World.size_alloc] at h2
  exact Lib.hid h2
 have HK1 : Hid (Keep w w1):=by rw [hw1];exact Lib.hid (keep_trans (keep_new _ _) (keep_new _ _))
 rw [← hw1]
 clear hw1
 have hw1s:=HR1.out.lt
 have RS : Hid (w1.rangeAt w.heap.size 6 ss.toList):=Lib.hid (range_of HB1.out 6 ss.toList (by
  rw [HSS.out.l,MsgR.cells6,List.drop_left' (show m.hd6.length = 6 from rfl),List.take_left' rfl]))
 have c0 : w1.cell? ⟨w.heap.size,0,none⟩ = some (.int .i64 m.kind):=(HB1.out.cell 0).trans rfl
 have c1 : w1.cell? ⟨w.heap.size,1,none⟩ = some (u32v m.proto):=(HB1.out.cell 1).trans rfl
 have c2 : w1.cell? ⟨w.heap.size,2,none⟩ = some (u64v m.nonce):=(HB1.out.cell 2).trans rfl
 have c3 : w1.cell? ⟨w.heap.size,3,none⟩ = some (u32v m.height):=(HB1.out.cell 3).trans rfl
 have c4 : w1.cell? ⟨w.heap.size,4,none⟩ = some (.slice m.hA m.hs.length m.hc):=(HB1.out.cell 4).trans rfl
 have c5 : w1.cell? ⟨w.heap.size,5,none⟩ = some (.slice m.lA m.ls.length m.lc):=(HB1.out.cell 5).trans rfl
 have t0 : w1.cell? ⟨w.heap.size,110,none⟩ = some (u32v m.t.ver):=(HB1.out.cell 110).trans ((MsgR.tx_get HO.out 0).trans rfl)
 have t1 : w1.cell? ⟨w.heap.size,111,none⟩ = some (.slice m.t.iA m.t.ins.length m.t.ic):=(HB1.out.cell 111).trans ((MsgR.tx_get HO.out 1).trans rfl)
 have t2 : w1.cell? ⟨w.heap.size,112,none⟩ = some (.slice m.t.oA m.t.outs.length m.t.oc):=(HB1.out.cell 112).trans ((MsgR.tx_get HO.out 2).trans rfl)
 have t3 : w1.cell? ⟨w.heap.size,113,none⟩ = some (u32v m.t.lock):=(HB1.out.cell 113).trans ((MsgR.tx_get HO.out 3).trans rfl)
 go_cut [3] (fun p wx => ∃ gx iA ic oA oc,p = .pointer (some ⟨gx,0,none⟩)∧w1.heap.size ≤ gx∧Hid (Keep w1 wx)∧Hid (Blk wx gx 39 (bareM m ⟨m.t.ver,iA,m.t.ins,ic,oA,m.t.outs,oc,m.t.lock⟩).cells)∧Hid (∀ W,Keep w W → (∀ k,w1.heap.size ≤ k → k < wx.heap.size → k ≠ gx → W.heap[k]? = wx.heap[k]?) → TxR.at ⟨m.t.ver,iA,m.t.ins,ic,oA,m.t.outs,oc,m.t.lock⟩ W))
 case first =>
  refine wp_region_tree (.take [0,1,2,3,4,5,6,7,8,9,10,11,12,13,14,15] (.fork 16 (.take [17] (.force [18] .done)) 18 (.force [16] (.take [17] .done)))) [19] (by kernel_rfl) (by kernel_rfl) (fun y0 hk => ?_)
  have Q:=Lib.hid hk
  clear hk
  refine mt_take y0 (Below.refl _ _) ?_
  simp only [pick_cons,pick_nil,nth_zero,nth_succ]
  have RS0:=Lib.hid (range_keep Q.out RS.out)
  have a0:=aft_cell (keep_cell Q.out c0);have a1:=aft_cell (keep_cell Q.out c1);have a2:=aft_cell (keep_cell Q.out c2);have a3:=aft_cell (keep_cell Q.out c3);have a4:=aft_cell (keep_cell Q.out c4);have a5:=aft_cell (keep_cell Q.out c5)
  have a6:=aft_cell (keep_cell Q.out t0);have a7:=aft_cell (keep_cell Q.out t1);have a8:=aft_cell (keep_cell Q.out t2);have a9:=aft_cell (keep_cell Q.out t3)
  clear c0 c1 c2 c3 c4 c5 t0 t1 t2 t3
  repeat (first | ((with_reducible refine wpQuiet_load_partg w.heap.size 6 ss (Eq.trans ?_ rfl) RS0.out _ hash_under rfl hsi (Eq.trans ?_ rfl) ?_);rfl;rfl;simp only [Act.put,Array.set!_eq_setIfInBounds,List.setIfInBounds_toArray,List.set_cons_succ,List.set_cons_zero]) | go_big_quiet_step (fail))
  clear a0 a1 a2 a3 a4 a5 a6 a7 a8 a9 RS0
  refine wpQuiet_nil (mt_fork ?_ ?_)
  ·simp only [pick_cons,pick_nil,nth_zero,nth_succ]
   refine fc_step rfl (fun K hK => ?_)
   go_simp
   (with_reducible refine (TT.out y0 (keep_trans HK1.out Q.out)).mono ?_)
   rintro e y1 ⟨iA,ic,oA,oc,rfl,hT,hk⟩
   refine hK _ _ hk ?_
   clear hK K
   have HQ16 : w1.heap.size ≤ y0.heap.size:=Q.out.size
   have Hprev:=Q
   replace Q:=Lib.hid (keep_trans Q.out hk)
   have hs_y1 : y0.heap.size ≤ y1.heap.size:=hk.size
   have HT : Hid (∀ W,Keep w W → (∀ k,y0.heap.size ≤ k → k < y1.heap.size → W.heap[k]? = y1.heap[k]?) → TxR.at ⟨m.t.ver,iA,m.t.ins,ic,oA,m.t.outs,oc,m.t.lock⟩ W):=Lib.hid fun W h1 h2 => hT W ⟨h1,h2⟩
   obtain ⟨ds,hds⟩ : ∃ ds : Array Value,ds = (bareM m ⟨m.t.ver,iA,m.t.ins,ic,oA,m.t.outs,oc,m.t.lock⟩).cells.toArray:=⟨_,rfl⟩
   have HDS : Hid (MsB (bareM m ⟨m.t.ver,iA,m.t.ins,ic,oA,m.t.outs,oc,m.t.lock⟩) ds):=Lib.hid (by rw [hds];exact MsB.of (bareM_ok HO.out _))
   have HBU : Hid (Try.prog.built 39 [(0,.int .i64 m.kind),(1,u32v m.proto),(2,u64v m.nonce),(3,u32v m.height),(4,.slice m.hA m.hs.length m.hc),(5,.slice m.lA m.ls.length m.lc),(6,.agg ss),(9,.agg #[u32v m.t.ver,.slice iA m.t.ins.length ic,.slice oA m.t.outs.length oc,u32v m.t.lock])] = some ds):=Lib.hid (by rw [hds];exact BU.out _ _ _ _)
   have hdz:=HDS.out.z;have hdn:=HDS.out.n;have hdi:=HDS.out.i
   clear hT hds
   clear hk
   refine fc_nil (mt_take y1 (Below.refl _ _) ?_)
   simp only [pick_cons,pick_nil,nth_zero,nth_succ]
   repeat (first | ((with_reducible refine wpQuiet_buildm [(0,.int .i64 m.kind),(1,u32v m.proto),(2,u64v m.nonce),(3,u32v m.height),(4,.slice m.hA m.hs.length m.hc),(5,.slice m.lA m.ls.length m.lc),(6,.agg ss),(9,.agg #[u32v m.t.ver,.slice iA m.t.ins.length ic,.slice oA m.t.outs.length oc,u32v m.t.lock])] ds (Eq.trans ?_ rfl) HBU.out ?_);rfl;simp only [Act.put,Array.set!_eq_setIfInBounds,List.setIfInBounds_toArray,List.set_cons_succ,List.set_cons_zero]) | go_big_quiet_step (fail))
   refine wpQuiet_nil (mt_force ?_)
   simp only [pick_cons,pick_nil,nth_zero,nth_succ]
   refine fc_step rfl (fun K hK => ?_)
   go_simp
   refine hK _ _ (keep_new _ _) ?_
   clear hK K
   obtain ⟨y2,hy⟩ : ∃ y2,y2 = y1.alloc (.cells zs 39):=⟨_,rfl⟩
   have HX : Hid (Blk y2 y1.heap.size 39 zs.toList):=by rw [hy];exact Blk.new y1 _ zs.toList
   have hk : Keep y1 y2:=by rw [hy];exact keep_new _ _
   rw [← hy]
   clear hy
   have HXs : y1.heap.size < y2.heap.size:=HX.out.lt
   have HXn:=Q.out.size
   replace Q:=Lib.hid (keep_trans Q.out hk)
   have hs_y2 : y1.heap.size ≤ y2.heap.size:=hk.size
   replace HT:=Lib.hid (at_carry HT.out hk (Nat.le_refl _))
   clear hk
   generalize hp : y1.heap.size = gx at *
   have HXa : y1.heap.size ≤ gx:=Nat.le_of_eq hp
   have HXb : gx ≤ y1.heap.size:=Nat.le_of_eq hp.symm
   clear hp
   refine fc_nil (mt_end ?_)
   obtain ⟨wa,hsta,hba,hga⟩:=run_store_blk (P:=Try.prog) ds.toList HX.out (by rw [Array.length_toList,Array.length_toList,hzz,hdz]) HDS.out.o
   have Hba:=Lib.hid hba;have Hga:=Lib.hid hga
   have hga1:=hga.size;have hQs:=Q.out.size
   clear hba hga
   go_wp2
   go_meet
   refine ⟨gx,iA,ic,oA,oc,rfl,by omega,Lib.hid (Q.out.grown Hga.out (by omega) (fun q hq => by injection hq with hq;omega)),by rw [← HDS.out.l];exact Hba,Lib.hid (fun W h1 h2 => HT.out W h1 fun k a b => ?_)⟩
   have hkg : k ≠ gx:=by omega
   exact (h2 k (by omega) (by omega) hkg).trans (Hga.out.block k (by omega) (fun e => hkg (Option.some.inj e)))
  ·simp only [pick_cons,pick_nil,nth_zero,nth_succ]
   refine fc_step rfl (fun K hK => ?_)
   go_simp
   refine hK _ _ (keep_new _ _) ?_
   clear hK K
   obtain ⟨y3,hy⟩ : ∃ y3,y3 = y0.alloc (.cells zs 39):=⟨_,rfl⟩
   have HX : Hid (Blk y3 y0.heap.size 39 zs.toList):=by rw [hy];exact Blk.new y0 _ zs.toList
   have hk : Keep y0 y3:=by rw [hy];exact keep_new _ _
   rw [← hy]
   clear hy
   have HXs : y0.heap.size < y3.heap.size:=HX.out.lt
   have HXn:=Q.out.size
   replace Q:=Lib.hid (keep_trans Q.out hk)
   have hs_y3 : y0.heap.size ≤ y3.heap.size:=hk.size
   clear hk
   generalize hp : y0.heap.size = gx at *
   have HXa : y0.heap.size ≤ gx:=Nat.le_of_eq hp
   have HXb : gx ≤ y0.heap.size:=Nat.le_of_eq hp.symm
   clear hp
   refine fc_nil (mt_force ?_)
   simp only [pick_cons,pick_nil,nth_zero,nth_succ]
   refine fc_step rfl (fun K hK => ?_)
   go_simp
   (with_reducible refine (TT.out y3 (keep_trans HK1.out Q.out)).mono ?_)
   rintro e y4 ⟨iA,ic,oA,oc,rfl,hT,hk⟩
   refine hK _ _ hk ?_
   clear hK K
   have HQ16 : w1.heap.size ≤ y3.heap.size:=Q.out.size
   have Hprev:=Q
   replace Q:=Lib.hid (keep_trans Q.out hk)
   have hs_y4 : y3.heap.size ≤ y4.heap.size:=hk.size
   replace HX:=Lib.hid (HX.out.keep hk)
   have HT : Hid (∀ W,Keep w W → (∀ k,y3.heap.size ≤ k → k < y4.heap.size → W.heap[k]? = y4.heap[k]?) → TxR.at ⟨m.t.ver,iA,m.t.ins,ic,oA,m.t.outs,oc,m.t.lock⟩ W):=Lib.hid fun W h1 h2 => hT W ⟨h1,h2⟩
   obtain ⟨ds,hds⟩ : ∃ ds : Array Value,ds = (bareM m ⟨m.t.ver,iA,m.t.ins,ic,oA,m.t.outs,oc,m.t.lock⟩).cells.toArray:=⟨_,rfl⟩
   have HDS : Hid (MsB (bareM m ⟨m.t.ver,iA,m.t.ins,ic,oA,m.t.outs,oc,m.t.lock⟩) ds):=Lib.hid (by rw [hds];exact MsB.of (bareM_ok HO.out _))
   have HBU : Hid (Try.prog.built 39 [(0,.int .i64 m.kind),(1,u32v m.proto),(2,u64v m.nonce),(3,u32v m.height),(4,.slice m.hA m.hs.length m.hc),(5,.slice m.lA m.ls.length m.lc),(6,.agg ss),(9,.agg #[u32v m.t.ver,.slice iA m.t.ins.length ic,.slice oA m.t.outs.length oc,u32v m.t.lock])] = some ds):=Lib.hid (by rw [hds];exact BU.out _ _ _ _)
   have hdz:=HDS.out.z;have hdn:=HDS.out.n;have hdi:=HDS.out.i
   clear hT hds
   clear hk
   refine fc_nil (mt_take y4 (Below.refl _ _) ?_)
   simp only [pick_cons,pick_nil,nth_zero,nth_succ]
   repeat (first | ((with_reducible refine wpQuiet_buildm [(0,.int .i64 m.kind),(1,u32v m.proto),(2,u64v m.nonce),(3,u32v m.height),(4,.slice m.hA m.hs.length m.hc),(5,.slice m.lA m.ls.length m.lc),(6,.agg ss),(9,.agg #[u32v m.t.ver,.slice iA m.t.ins.length ic,.slice oA m.t.outs.length oc,u32v m.t.lock])] ds (Eq.trans ?_ rfl) HBU.out ?_);rfl;simp only [Act.put,Array.set!_eq_setIfInBounds,List.setIfInBounds_toArray,List.set_cons_succ,List.set_cons_zero]) | go_big_quiet_step (fail))
   refine wpQuiet_nil (mt_end ?_)
   obtain ⟨wa,hsta,hba,hga⟩:=run_store_blk (P:=Try.prog) ds.toList HX.out (by rw [Array.length_toList,Array.length_toList,hzz,hdz]) HDS.out.o
   have Hba:=Lib.hid hba;have Hga:=Lib.hid hga
   have hga1:=hga.size;have hQs:=Q.out.size
   clear hba hga
   go_wp2
   go_meet
   refine ⟨gx,iA,ic,oA,oc,rfl,by omega,Lib.hid (Q.out.grown Hga.out (by omega) (fun q hq => by injection hq with hq;omega)),by rw [← HDS.out.l];exact Hba,Lib.hid (fun W h1 h2 => HT.out W h1 fun k a b => ?_)⟩
   have hkg : k ≠ gx:=by omega
   exact (h2 k (by omega) (by omega) hkg).trans (Hga.out.block k (by omega) (fun e => hkg (Option.some.inj e)))
 case rest =>
  obtain ⟨gx,iA,ic,oA,oc,rfl,hgx,HK5,HX5,HT5⟩:=hcut
  clear c0 c1 c2 c3 c4 c5 t0 t1 t2 t3 RS TT BU
  have hgl:=HX5.out.lt
  have HB5:=Lib.hid (HB1.out.keep HK5.out);have HR5:=Lib.hid (HR1.out.keep HK5.out)
  have HKW:=Lib.hid (keep_trans HK1.out HK5.out)
  have HOB:=Lib.hid (bareM_ok HO.out ⟨m.t.ver,iA,m.t.ins,ic,oA,m.t.outs,oc,m.t.lock⟩)
  obtain ⟨M1,hM1⟩ : ∃ M1,bareM m ⟨m.t.ver,iA,m.t.ins,ic,oA,m.t.outs,oc,m.t.lock⟩ = M1:=⟨_,rfl⟩
  have HM1:=Lib.hid hM1
  rw [hM1] at HX5 HOB
  clear hM1
  have HI : Hid (∀ k (h : k < m.is.length),∃ (b off : Nat) (x : Itm) (ss : Array Value),m.iA = some ⟨b,off,none⟩∧b < w.heap.size∧w.cell? ⟨b,off + k * 33,none⟩ = some (u32v x.ty)∧w.rangeAt b (off + k * 33 + 1) ss.toList∧HashA x.h ss∧x.ok∧m.is[k]? = some x):=Lib.hid fun k h => item_parts HM.out.i HO.out.i h
  obtain ⟨n,hn⟩ : ∃ n,m.is.length = n:=⟨_,rfl⟩
  have HN:=Lib.hid hn
  rw [hn] at hit HI
  clear hn
  have x38 : ∀ y,Blk y w.heap.size 49 m.cells → y.cell? ⟨w.heap.size,38,none⟩ = some (.slice m.iA n m.ic):=fun y hy => (hy.cell 38).trans ((MsgR.tail_get HO.out 0).trans (by rw [← HN.out];rfl))
  have X38:=Lib.hid x38
  clear x38
  generalize m.iA = mA at *
  have HXI : Hid (Blk wc gx 39 (withI M1 none (m.is.take 0) 0).cells):=Lib.hid (by have q:=HX5.out;rw [← HM1.out] at q ⊢;exact q)
  have Own0 : Hid (wc.ownsRow wc.heap.size 69 33 (.slice none 0 0) 0 ((m.is.take 0).flatMap Itm.cells)):=Lib.hid (World.ownsRow_nil _ _ _ _)
  have KX0 : Hid (KeepX (fun k => k = gx) wc wc):=Lib.hid (KeepX.of (Below.refl _ _))
  go_wp2_with fail
  go_loopw [4] (fun x wr => ∃ (j : Nat) (A : Option Addr) (c : Nat),j ≤ n∧x = .int .i64 j∧Hid (Blk wr gx 39 (withI M1 A (m.is.take j) c).cells)∧Hid (wr.ownsRow wc.heap.size 69 33 (.slice A j c) j ((m.is.take j).flatMap Itm.cells))∧Hid (Blk wr w.heap.size 49 m.cells)∧Hid (Blk wr (w.heap.size + 1) 39 zs.toList)∧Hid (Keep w wr)∧Hid (KeepX (fun k => k = gx) wc wr)) (fun x _ => n - (intOf x).toNat)
  case atStart => exact ⟨0,none,0,Nat.zero_le _,rfl,HXI,Own0,HB5,HR5,HKW,KX0⟩
  case round =>
   obtain ⟨j,A,c,hj,rfl,HX,Own,HB,HR,HK,KX⟩:=hrel
   clear HXI Own0 HB5 HR5 HKW KX0 HX5 HK5
   have t2:=X38.out _ HB.out
   have hlj : (m.is.take j).length = j:=by rw [List.length_take,HN.out];omega
   have HLJ:=Lib.hid hlj
   clear hlj
   by_cases hlt : j < n
   ·obtain ⟨b,off,x,ds,hmA,hbl,e0,e1,hds,hok,hget⟩:=HI.out j hlt
    subst hmA
    have hdn:=hds.n;have hdz:=hds.z;have hdi:=hds.i
    have HDS:=Lib.hid hds;have HOK:=Lib.hid hok
    have e0:=keep_cell HK.out e0
    have RE:=Lib.hid (range_keep HK.out e1)
    have d4 : (j : Int) < n:=by omega
    have HGE:=Lib.hid hget
    obtain ⟨es,hes⟩ : ∃ es : Array Value,es = (Itm.cells x).toArray:=⟨_,rfl⟩
    have HBu : Hid (Try.prog.built 69 [(0,u32v x.ty),(1,.agg ds)] = some es):=Lib.hid (by rw [hes];exact ritem_built x.ty x.h ds hok hds)
    have hel : es.toList = x.cells:=by rw [hes]
    have hez : es.size = 33:=by rw [hes];simpa using Itm.len hok
    have HEO : Hid (∀ v ∈ es.toList,v.oneCell' = true):=Lib.hid (by rw [hel];exact x.one)
    have HEL:=Lib.hid hel
    clear hget HI hds hok e1 hes hel
    go_upto_region 5 with fail
    letI iM : G.Mk:=⟨(Value.slice A j c).ownBlock⟩
    refine G.wp_region_tree (.take [0,1,2,3,4,5,6,7,8,9,10,11,12,13,14] (.force [15,16] .done)) [17,18] (by kernel_rfl) (by kernel_rfl) (fun w8 k8 => ?_)
    have HX8:=Lib.hid (HX.out.keep k8);have Own8:=Lib.hid (own_keep Own.out k8);have HB8:=Lib.hid (HB.out.keep k8);have HR8:=Lib.hid (HR.out.keep k8);have HK8:=Lib.hid (keep_trans HK.out k8)
    have KX8 : Hid (KeepX (fun k => k = gx) wc w8):=Lib.hid (KX.out.trans (KeepX.of k8) fun _ _ q => q)
    have e0:=keep_cell k8 e0;have RE8:=Lib.hid (range_keep k8 RE.out)
    clear k8 HX Own HB HR HK KX t2 RE
    have hwc:=HK8.out.size
    have hww:=keep_size_w HK1.out
    have hneX : G.Mk.m ≠ some gx:=fun q => by have:=(Own8.out.lt _ q).1;omega
    have hneT : G.Mk.m ≠ some w.heap.size:=fun q => by have:=(Own8.out.lt _ q).1;omega
    have hneB : G.Mk.m ≠ some b:=fun q => by have:=(Own8.out.lt _ q).1;omega
    have q0 : w8.cell? ⟨gx,38,none⟩ = some (.slice A j c):=(HX8.out.cell 38).trans ((MsgR.tail_get (m:=withI M1 A (m.is.take j) c) (withI_ok HOB.out (fun x hx => HO.out.i x (List.mem_of_mem_take hx))) 0).trans (by show some (Value.slice A (m.is.take j).length c) = _;rw [HLJ.out]))
    have b0:=G.aftG_cell q0 hneX
    have b1:=G.aftG_cell (X38.out _ HB8.out) hneT
    have b2:=G.aftG_cell e0 hneB
    refine G.mt_take w8 (G.Gr.refl _) ?_
    simp only [pick_cons,pick_nil,nth_zero,nth_succ]
    repeat (first | ((with_reducible refine G.wpQuiet_load_partgG b (off + j * 33 + 1) ds (Eq.trans ?_ rfl) RE8.out hneB _ hash_under rfl hdi ?_);rfl;simp only [Act.put,Array.set!_eq_setIfInBounds,List.setIfInBounds_toArray,List.set_cons_succ,List.set_cons_zero]) | ((with_reducible refine wpQuiet_buildm [(0,u32v x.ty),(1,.agg ds)] es (Eq.trans ?_ rfl) HBu.out ?_);rfl;simp only [Act.put,Array.set!_eq_setIfInBounds,List.setIfInBounds_toArray,List.set_cons_succ,List.set_cons_zero]) | go_big_quiet_step (fail))
    refine wpQuiet_nil (G.mt_force ?_)
    clear b0 b1 b2 hneX hneT hneB e0 q0
    simp only [pick_cons,pick_nil,nth_zero,nth_succ]
    refine G.fc_step rfl (fun K hK => ?_)
    refine wp_build1b ritemT _ rfl es hez (by omega) rfl (hK _ _ (G.Gr.of_keep (keep_new _ _)) ?_)
    clear hK K
    simp only [Act.put,Array.set!_eq_setIfInBounds,List.setIfInBounds_toArray,List.set_cons_succ,List.set_cons_zero]
    obtain ⟨w9,hw9⟩ : ∃ w9,w9 = w8.alloc (.cells es 69):=⟨_,rfl⟩
    have HL9 : Hid (Rd w9 (some ⟨w8.heap.size,0,none⟩) es.toList):=by rw [hw9];exact Lib.hid (by simpa using Rd.new w8 es.toList 69)
    have k9 : Keep w8 w9:=by rw [hw9];exact keep_new _ _
    rw [← hw9]
    have HX9:=Lib.hid (HX8.out.keep k9);have Own9:=Lib.hid (own_keep Own8.out k9);have HB9:=Lib.hid (HB8.out.keep k9);have HR9:=Lib.hid (HR8.out.keep k9);have HK9:=Lib.hid (keep_trans HK8.out k9)
    have KX9 : Hid (KeepX (fun k => k = gx) wc w9):=Lib.hid (KX8.out.trans (KeepX.of k9) fun _ _ q => q)
    clear hw9 k9 HX8 Own8 HB8 HR8 HK8 KX8
    have hs9:=KX9.out.2.2.2.1
    refine G.fc_step rfl (fun K hK => ?_)
    refine wp_app ritemT _ _ (by rfl) wc.heap.size _ j _ (by rfl) Own9.out _ 1 1 es.toList (by rfl) (by rw [Array.length_toList,hez]) HL9.out HEO.out (by omega) (by unfold maxLen;omega) hs9 ?_
    intro v' wq ownq hgq hatq
    refine hK _ _ hgq ?_
    clear hK K HL9
    simp only [Act.put,Array.set!_eq_setIfInBounds,List.setIfInBounds_toArray,List.set_cons_succ,List.set_cons_zero]
    have HXq:=Lib.hid (HX9.out.grown hgq (fun q => by have:=(Own9.out.lt _ q).1;omega))
    have HBq:=Lib.hid (HB9.out.grown hgq (fun q => by have:=(Own9.out.lt _ q).1;omega))
    have HRq:=Lib.hid (HR9.out.grown hgq (fun q => by have:=(Own9.out.lt _ q).1;omega))
    have HKq : Hid (Keep w wq):=Lib.hid (keep_grown HK9.out HK9.out.size hgq (own_base Own9.out (by omega)))
    have KXq : Hid (KeepX (fun k => k = gx) wc wq):=Lib.hid (KX9.out.grown hgq (fun i hi q => by have:=(Own9.out.lt _ q).1;omega))
    have Ownq:=Lib.hid ownq
    clear ownq hgq hatq HX9 HB9 HR9 HK9 KX9 Own9 hs9
    obtain ⟨Aw,cw,rfl,-,-,-⟩:=own_form Ownq.out
    have y3 : ∃ v,wq.cell? ⟨gx,38,none⟩ = some v:=⟨_,(HXq.out.cell 38).trans (List.getElem?_eq_getElem (by rw [MsgR.len (withI_ok HOB.out (fun x hx => HO.out.i x (List.mem_of_mem_take hx)))];omega))⟩
    obtain ⟨v3,y3⟩:=y3
    have f3:=HXq.out.frozen 38
    refine G.fc_nil (G.mt_end ?_)
    clear iM
    go_wp2
    obtain ⟨w4,hw4⟩ : ∃ w4,w4 = wq.setCell ⟨gx,38,none⟩ (.slice Aw (j + 1) cw):=⟨_,rfl⟩
    have HX4 : Hid (Blk w4 gx 39 (withI M1 Aw (m.is.take (j + 1)) cw).cells):=by
     rw [hw4]
     have q:=HXq.out.set_ 38 (.slice Aw (j + 1) cw)
     rw [set38w (withI_ok HOB.out (fun x hx => HO.out.i x (List.mem_of_mem_take hx))) Aw (m.is.take (j + 1)) (j + 1) cw (by rw [List.length_take,HN.out];omega)] at q
     exact Lib.hid q
    have HB4 : Hid (Blk w4 w.heap.size 49 m.cells):=by rw [hw4];exact Lib.hid (HBq.out.far (by simp <;> omega) _)
    have HR4 : Hid (Blk w4 (w.heap.size + 1) 39 zs.toList):=by rw [hw4];exact Lib.hid (HRq.out.far (by simp <;> omega) _)
    have Own4 : Hid (w4.ownsRow wc.heap.size 69 33 (.slice Aw (j + 1) cw) (j + 1) ((m.is.take (j + 1)).flatMap Itm.cells)):=by
     rw [hw4]
     refine Lib.hid (own_eq (ownsRow_setCell_below Ownq.out (a:=⟨gx,38,none⟩) (by omega) _) rfl ?_)
     rw [HEL.out,List.take_add_one,HGE.out,List.flatMap_append];simp
    have HK4 : Hid (Keep w w4):=by rw [hw4];exact Lib.hid (Below.setCell HKq.out (by simp <;> omega) _)
    have KX4 : Hid (KeepX (fun k => k = gx) wc w4):=by rw [hw4];exact Lib.hid (KeepB.set KXq.out 38 _)
    rw [← hw4]
    clear hw4 HXq HBq HRq Ownq HKq KXq y3 f3 HGE HEL HEO HBu HDS HOK HLJ RE8
    go_roundw
    case rel => exact ⟨j + 1,Aw,cw,by omega,by go_num,HX4,Own4,HB4,HR4,HK4,KX4⟩
    case measure => simp [intOf];omega
   ·obtain rfl : j = n:=by omega
    have d4 : ¬ (j : Int) < j:=by omega
    obtain ⟨Ai,ci,hAi,hci1,hci2,-⟩:=own_form Own.out
    obtain ⟨rfl,rfl⟩ : A = Ai∧c = ci:=by injection hAi with h1 _ h3;exact ⟨h1,h3⟩
    clear hAi
    have ht : m.is.take j = m.is:=List.take_of_length_le (by rw [HN.out];omega)
    rw [ht] at HX Own
    obtain rfl:=HM1.out
    have HO2:=Lib.hid (withI_ok HOB.out (A:=A) (c:=c) HO.out.i)
    have RH : Hid (wr.rangeAt w.heap.size 39 hv.toList):=Lib.hid (range_of HB.out 39 hv.toList (by
     rw [HHV.out.l,MsgR.cells39,List.drop_left' (MsgR.hd39_len HO.out.s)]
     unfold MsgR.blk
     rw [List.append_assoc,List.take_left' rfl]))
    have r107 : wr.cell? ⟨w.heap.size,107,none⟩ = some (u32v m.total):=(HB.out.cell 107).trans ((MsgR.blk_tail HO.out 0 (by omega)).trans rfl)
    have r108 : wr.cell? ⟨w.heap.size,108,none⟩ = some (.slice m.sA m.shs.length m.sc):=(HB.out.cell 108).trans ((MsgR.blk_tail HO.out 1 (by omega)).trans rfl)
    have r109 : wr.cell? ⟨w.heap.size,109,none⟩ = some (.slice m.fA m.fs.length m.fc):=(HB.out.cell 109).trans ((MsgR.blk_tail HO.out 2 (by omega)).trans rfl)
    obtain ⟨wp,hstp,hbp,hgp⟩:=run_store_prt (P:=Try.prog) 39 bs.toList HX.out (by rw [MsgR.len HO2.out,Array.length_toList,hbz];omega) (by rw [HBS.out];intro u hu;exact MsgR.one m u (by rw [MsgR.cells39];simp [hu]))
    rw [HBS.out,MsgR.splice_blk HO2.out HO.out.b] at hbp
    have HBP:=Lib.hid hbp;have HGP:=Lib.hid hgp
    have HRP:=Lib.hid (HR.out.grown hgp (fun q => by have:=Option.some.inj q;omega))
    have HKP : Hid (Keep w wp):=Lib.hid (HK.out.grown hgp HK.out.size (fun q hq => by injection hq with hq;omega))
    clear hbp hgp
    obtain ⟨M3,hM3⟩ : ∃ M3,MsgR.mk m.kind m.proto m.nonce m.height m.hA m.hs m.hc m.lA m.ls m.lc m.stop A m.is c m.bh m.total m.sA m.shs m.sc m.fA m.fs m.fc ⟨m.t.ver,iA,m.t.ins,ic,oA,m.t.outs,oc,m.t.lock⟩ = M3:=⟨_,rfl⟩
    have HBQ : Hid (Blk wp gx 39 M3.cells):=Lib.hid (by rw [← hM3];exact HBP.out)
    have HO3 : M3.ok:=by rw [← hM3];exact ⟨HO.out.k,HO.out.n,HO.out.s,HO.out.b,HO.out.h,HO.out.l,HO.out.i,HO.out.z⟩
    obtain ⟨ds,hds⟩ : ∃ ds,MsB M3 ds:=⟨_,MsB.of HO3⟩
    have hdz:=hds.z;have hdn:=hds.n;have hdi:=hds.i
    have HDS:=Lib.hid hds
    have HBx : Hid (Blk wp gx 39 ds.toList):=Lib.hid (by rw [HDS.out.l];exact HBQ.out)
    obtain ⟨w8,hst8,hb8,hg8⟩:=run_store_blk (P:=Try.prog) ds.toList HRP.out (by rw [Array.length_toList,Array.length_toList,hzz,hdz]) HDS.out.o
    have Hb8:=Lib.hid hb8;have Hg8:=Lib.hid hg8
    have HM3:=Lib.hid hM3
    have HO3:=Lib.hid HO3
    clear hds hb8 hg8 HBP HBQ hM3 ht
    go_wp2_with (first | ((with_reducible refine load_partg w.heap.size 39 hv (Eq.trans ?_ rfl) RH.out _ Try.underlying30 rfl hvi rfl ?_);rfl) | ((with_reducible refine list_bldg [(0,.agg hv),(1,u32v m.total),(2,.slice m.sA m.shs.length m.sc),(3,.slice m.fA m.fs.length m.fc)] bs (Eq.trans ?_ rfl) BB.out (Eq.trans ?_ rfl) ?_);rfl;rfl) | ((with_reducible refine load_arr gx ds (Eq.trans ?_ rfl) HBx.out _ Try.underlying39 rfl hdi ?_);rfl))
    have KF : Keep w w8:=HKP.out.grown Hg8.out HKP.out.size (fun q hq => by injection hq with hq;omega)
    have KX8 : KeepX (fun k => k = gx ∨ k = w.heap.size + 1) wr w8:=((KeepX.of (X:=fun k => k = gx ∨ k = w.heap.size + 1) (Below.refl wr.heap.size wr)).grown HGP.out (fun i _ q => .inl (Option.some.inj q).symm)).grown Hg8.out (fun i _ q => .inr (Option.some.inj q).symm)
    have o1:=own_kx Own.out KX8 (fun g q e => by have:=(Own.out.lt g q).1;omega)
    have hT:=HT5.out w8 KF (fun k h1 h2 h3 => (KX8.2.2.2.2 k (Nat.lt_of_lt_of_le h2 KX.out.2.2.2.1) (by rintro (e | e) <;> omega)).trans (KX.out.2.2.2.2 k h2 h3))
    have hat : M3.at_ w8:=by
     rw [← HM3.out]
     exact ⟨by rw [HM3.out];exact HO3.out,HM.out.h.keep KF,HM.out.hc,HM.out.l.keep KF,HM.out.lc,own_rd o1,⟨by rw [HN.out];exact hci1,hci2⟩,HM.out.s.keep KF,HM.out.sc,HM.out.f.keep KF,HM.out.fc,hT⟩
    exact bodyPost_ret (v:=.agg ds) (results_cell_row Try.results16 _ _ (w.heap.size + 1) _ _ _ _ rfl Hb8.out Try.underlying39 rfl (by rw [List.size_toArray,Array.length_toList];exact hdi)) rfl ⟨M3,ds,rfl,HDS.out,by rw [← HM3.out];rfl,hat,KF⟩
end Go.Proofs.Ytbgpgdhndanigaa
/- florinref08.Sane. (printed by gen_rfs.py) -/
set_option linter.unusedSimpArgs false
set_option linter.unusedVariables false
namespace Go.Proofs.Ytbgpgdhndanigaa
open Go.RowKit
attribute [local go_sem ↓] Go.wp_at_zero Go.wp_at_succ
set_option maxRecDepth 100000 in
set_option maxHeartbeats 4000000 in
theorem rtsane_any (t : TxR) (w : World) (h : t.at w) :
  Calls Try.prog 37 #[.agg #[u32v t.ver,.slice t.iA t.ins.length t.ic,.slice t.oA t.outs.length t.oc,u32v t.lock]] w fun e w' => e = .returned (.bool (saneT t))∧Keep w w':=by
 have HI : Hid (∀ k (h : k < t.ins.length),∃ (b off : Nat) (x : InR),t.iA = some ⟨b,off,none⟩∧w.cell? ⟨b,off + k * 35 + 33,none⟩ = some (.slice x.A x.sc.length x.cap)∧t.ins[k]? = some x):=Lib.hid fun k hk => by
  have hp:=(h.is _ (List.getElem_mem hk)).p
  obtain ⟨b,off,h1,-,h2⟩:=in_at h.i (fun x hx => (h.is x hx).p) hk
  exact ⟨b,off,_,h1,h2 33 _ (by unfold InR.cells;rw [List.getElem?_append_right (by simp [hp])];simp [hp]),List.getElem?_eq_getElem hk⟩
 have HO : Hid (∀ k (h : k < t.outs.length),∃ (b off : Nat) (x : OutR),t.oA = some ⟨b,off,none⟩∧w.cell? ⟨b,off + k * 2 + 1,none⟩ = some (.slice x.A x.sc.length x.cap)∧t.outs[k]? = some x):=Lib.hid fun k hk => by
  obtain ⟨b,off,h1,-,h2,h3⟩:=out_at h.o hk
  exact ⟨b,off,_,h1,h3,List.getElem?_eq_getElem hk⟩
 have hi9:=h.ic;have ho9:=h.oc
 unfold maxLen at hi9 ho9
 obtain ⟨R,hR⟩ : ∃ R,saneT t = R:=⟨_,rfl⟩
 have HD : Hid (R = true ↔ (1 ≤ t.ins.length∧t.ins.length ≤ 1000∧t.outs.length ≤ 1000∧(∀ x ∈ t.ins,x.sc.length ≤ 10000)∧∀ x ∈ t.outs,x.sc.length ≤ 10000)):=Lib.hid (by rw [← hR];unfold saneT;rw [decide_eq_true_eq])
 rw [hR]
 obtain ⟨ver,iA,ins,ic,oA,outs,oc,lock⟩:=t
 simp only at *
 clear h hR
 obtain ⟨n,hn⟩ : ∃ n,ins.length = n:=⟨_,rfl⟩
 obtain ⟨m,hm⟩ : ∃ m,outs.length = m:=⟨_,rfl⟩
 rw [hn] at HI hi9 HD ⊢
 rw [hm] at HO ho9 HD ⊢
 have HNN:=Lib.hid hn;have HMM:=Lib.hid hm
 clear hn hm
 have bad : Hid (∀ P : Prop,¬ P → (R = true → P) → R = false):=Lib.hid fun P h1 h2 => by
  cases R with
  | false => rfl
  | true => exact absurd (h2 rfl) h1
 go_enter Try.func37,Try.ntmps37
 go_upto_region 1 with fail
 obtain ⟨w1,hw1⟩ : ∃ w1,w1 = w.alloc (.cells #[u32v ver,.slice iA n ic,.slice oA m oc,u32v lock] 37):=⟨_,rfl⟩
 have HT1 : Hid (Blk w1 w.heap.size 37 [u32v ver,.slice iA n ic,.slice oA m oc,u32v lock]):=by rw [hw1];exact Lib.hid (Blk.new w 37 [u32v ver,.slice iA n ic,.slice oA m oc,u32v lock])
 have HK1 : Hid (Keep w w1):=by rw [hw1];exact Lib.hid (keep_new _ _)
 rw [← hw1]
 clear hw1
 have t1:=HT1.out.cell 1;have t2:=HT1.out.cell 2
 simp only [List.getElem?_cons_succ,List.getElem?_cons_zero] at t1 t2
 generalize w.heap.size = gt at *
 have HI1 : Hid (∀ k (h : k < n),∃ (b off : Nat) (x : InR),iA = some ⟨b,off,none⟩∧w1.cell? ⟨b,off + k * 35 + 33,none⟩ = some (.slice x.A x.sc.length x.cap)∧ins[k]? = some x):=Lib.hid fun k h => by
  obtain ⟨b,off,x,h1,h2,h3⟩:=HI.out k h
  exact ⟨b,off,x,h1,keep_cell HK1.out h2,h3⟩
 have HO1 : Hid (∀ k (h : k < m),∃ (b off : Nat) (x : OutR),oA = some ⟨b,off,none⟩∧w1.cell? ⟨b,off + k * 2 + 1,none⟩ = some (.slice x.A x.sc.length x.cap)∧outs[k]? = some x):=Lib.hid fun k h => by
  obtain ⟨b,off,x,h1,h2,h3⟩:=HO.out k h
  exact ⟨b,off,x,h1,keep_cell HK1.out h2,h3⟩
 clear HI HO HT1
 go_wp2_with fail
 go_loopw [3] (fun x wr => ∃ k : Nat,k ≤ n∧x = .int .i64 k∧Hid (∀ y ∈ ins.take k,y.sc.length ≤ 10000)∧Hid (Keep w wr)∧wr.cell? ⟨gt,1,none⟩ = some (.slice iA n ic)∧wr.cell? ⟨gt,2,none⟩ = some (.slice oA m oc)∧Hid (∀ k (h : k < n),∃ (b off : Nat) (x : InR),iA = some ⟨b,off,none⟩∧wr.cell? ⟨b,off + k * 35 + 33,none⟩ = some (.slice x.A x.sc.length x.cap)∧ins[k]? = some x)∧Hid (∀ k (h : k < m),∃ (b off : Nat) (x : OutR),oA = some ⟨b,off,none⟩∧wr.cell? ⟨b,off + k * 2 + 1,none⟩ = some (.slice x.A x.sc.length x.cap)∧outs[k]? = some x)) (fun x _ => n - (intOf x).toNat)
 case atStart => exact ⟨0,Nat.zero_le _,rfl,Lib.hid (by simp),HK1,t1,t2,HI1,HO1⟩
 case round =>
  clear t1 t2 HI1 HO1 HK1
  obtain ⟨k,hk,rfl,HS,HK1,t1,t2,HI1,HO1⟩:=hrel
  by_cases hlt : k < n
  ·obtain ⟨b,off,x,rfl,c33,hget⟩:=HI1.out k hlt
   have d4 : (k : Int) < n:=by omega
   have HGE:=Lib.hid hget
   clear hget
   by_cases hs : 10000 < x.sc.length
   ·have hv:=bad.out (∀ y ∈ ins,y.sc.length ≤ 10000) (fun q => by have:=q x (List.mem_of_getElem? HGE.out);omega) fun q => (HD.out.1 q).2.2.2.1
    subst hv
    have d5 : (10000 : Int) < x.sc.length:=by omega
    clear HD bad
    go_wp2
    exact bodyPost_ret (v:=.bool false) (by simp [results,Try.results37]) rfl ⟨rfl,HK1.out⟩
   ·have d5 : ¬ (10000 : Int) < x.sc.length:=by omega
    have HS2 : Hid (∀ y ∈ ins.take (k + 1),y.sc.length ≤ 10000):=Lib.hid fun y hy => by
     rw [List.take_add_one,HGE.out] at hy
     rcases List.mem_append.1 hy with q | q
     ·exact HS.out y q
     ·simp at q;subst q;omega
    clear HS bad
    go_wp2
    go_roundw
    case rel => exact ⟨k + 1,by omega,by go_num,HS2,HK1,t1,t2,HI1,HO1⟩
    case measure => simp [intOf];omega
  ·obtain rfl : k = n:=by omega
   have d4 : ¬ (k : Int) < k:=by omega
   have HSA : Hid (∀ y ∈ ins,y.sc.length ≤ 10000):=Lib.hid (by have:=HS.out;rwa [List.take_of_length_le (by rw [HNN.out];omega)] at this)
   clear HS HI1
   go_wp2_with fail
   clear d4
   go_loopw [4] (fun x wr => ∃ j : Nat,j ≤ m∧x = .int .i64 j∧Hid (∀ y ∈ outs.take j,y.sc.length ≤ 10000)∧Hid (Keep w wr)∧wr.cell? ⟨gt,1,none⟩ = some (.slice iA k ic)∧wr.cell? ⟨gt,2,none⟩ = some (.slice oA m oc) ∧Hid (∀ k (h : k < m),∃ (b off : Nat) (x : OutR),oA = some ⟨b,off,none⟩∧wr.cell? ⟨b,off + k * 2 + 1,none⟩ = some (.slice x.A x.sc.length x.cap)∧outs[k]? = some x)) (fun x _ => m - (intOf x).toNat)
   case atStart => exact ⟨0,Nat.zero_le _,rfl,Lib.hid (by simp),HK1,t1,t2,HO1⟩
   case round =>
    clear t1 t2
    obtain ⟨j,hj,rfl,HS,HKr,t1,t2,HO2⟩:=hrel
    clear HO1
    by_cases hlt2 : j < m
    ·obtain ⟨b,off,x,rfl,c1,hget⟩:=HO2.out j hlt2
     have d4 : (j : Int) < m:=by omega
     have HGE:=Lib.hid hget
     clear hget
     by_cases hs : 10000 < x.sc.length
     ·have hv:=bad.out (∀ y ∈ outs,y.sc.length ≤ 10000) (fun q => by have:=q x (List.mem_of_getElem? HGE.out);omega) fun q => (HD.out.1 q).2.2.2.2
      subst hv
      have d5 : (10000 : Int) < x.sc.length:=by omega
      clear HD bad
      go_wp2
      exact bodyPost_ret (v:=.bool false) (by simp [results,Try.results37]) rfl ⟨rfl,HKr.out⟩
     ·have d5 : ¬ (10000 : Int) < x.sc.length:=by omega
      have HS2 : Hid (∀ y ∈ outs.take (j + 1),y.sc.length ≤ 10000):=Lib.hid fun y hy => by
       rw [List.take_add_one,HGE.out] at hy
       rcases List.mem_append.1 hy with q | q
       ·exact HS.out y q
       ·simp at q;subst q;omega
      clear HS bad
      go_wp2
      go_roundw
      case rel => exact ⟨j + 1,by omega,by go_num,HS2,HKr,t1,t2,HO2⟩
      case measure => simp [intOf];omega
    ·obtain rfl : j = m:=by omega
     have d4 : ¬ (j : Int) < j:=by omega
     have HSB : Hid (∀ y ∈ outs,y.sc.length ≤ 10000):=Lib.hid (by have:=HS.out;rwa [List.take_of_length_le (by rw [HMM.out];omega)] at this)
     clear HS HO2
     by_cases h1 : 1 ≤ k
     ·have e0 : (1 : Int) ≤ k:=by omega
      by_cases hn : k ≤ 1000
      ·have e1 : (k : Int) ≤ 1000:=by omega
       by_cases hm : j ≤ 1000
       ·have e2 : (j : Int) ≤ 1000:=by omega
        have hv : R = true:=HD.out.2 ⟨h1,hn,hm,HSA.out,HSB.out⟩
        subst hv
        clear HD bad hn hm h1
        go_wp2
        exact bodyPost_ret (v:=.bool true) (by simp [results,Try.results37]) rfl ⟨rfl,HKr.out⟩
       ·have e2 : ¬ (j : Int) ≤ 1000:=by omega
        have hv:=bad.out (j ≤ 1000) hm fun q => (HD.out.1 q).2.2.1
        subst hv
        clear HD bad hn hm h1
        go_wp2
        exact bodyPost_ret (v:=.bool false) (by simp [results,Try.results37]) rfl ⟨rfl,HKr.out⟩
      ·have e1 : ¬ (k : Int) ≤ 1000:=by omega
       have hv:=bad.out (k ≤ 1000) hn fun q => (HD.out.1 q).2.1
       subst hv
       clear HD bad hn h1
       go_wp2
       exact bodyPost_ret (v:=.bool false) (by simp [results,Try.results37]) rfl ⟨rfl,HKr.out⟩
     ·have e0 : ¬ (1 : Int) ≤ k:=by omega
      have hv:=bad.out (1 ≤ k) h1 fun q => (HD.out.1 q).1
      subst hv
      clear HD bad h1
      go_wp2
      exact bodyPost_ret (v:=.bool false) (by simp [results,Try.results37]) rfl ⟨rfl,HKr.out⟩
end Go.Proofs.Ytbgpgdhndanigaa
/- florinref08.low, script, Put; florinref09.low. (printed by gen_kk.py) -/
set_option linter.unusedSimpArgs false
set_option linter.unusedVariables false
namespace Go.Proofs.Ytbgpgdhndanigaa
open Go.RowKit
attribute [local go_sem ↓] Go.wp_at_zero Go.wp_at_succ
theorem wpList_bfb {w0 w : World} {A : Option Addr} {c : Nat} {l : List UInt8} {ops : Array Oper} {rest : List Oper} {o : Oper} {a : Act} {Q : Exit → Act → World → Prop} {g : Nat} {t : TypeId} {cs : List Value} (hb : Blk w g t cs) (hne : (Value.slice A l.length c).ownBlock ≠ some g) (hgd : o.guard = none) (s x : Operand)
  (ho : o.op = .call { callee:=.builtin .append,args:=#[s,x],argTypes:=#[31,31] }) (h : Bf w0 w A c l) (hs : a.eval s = .slice A l.length c)
  (A1 : Option Addr) (m c1 : Nat) (y : List UInt8) (hx : a.eval x = .slice A1 m c1) (hl : y.length = m) (hr : Rd w A1 (y.map u8v)) (hn : l.length + m ≤ 1000000000)
  (H : ∀ z A' c' w',Hid (z = l ++ y) → Bf w0 w' A' c' z → Blk w' g t cs → (Value.slice A' z.length c').ownBlock ≠ some g → wpList Try.prog ops Q rest (a.put o.dst (.slice A' z.length c')) w') : wpList Try.prog ops Q (o :: rest) a w :=
 wpList_app byteT hgd s x ho w0.heap.size _ l.length _ hs h.o A1 m c1 (y.map u8v) hx (by rw [List.length_map,hl,Nat.mul_one]) hr (one_bytes y) (by omega) (by unfold maxLen;omega) h.size fun v' w' h1 h2 h3 => by
  obtain ⟨A',c',rfl,hc,hm,hrd⟩:=own_form h1
  have e : l.length + m = (l ++ y).length:=by rw [List.length_append,hl]
  rw [e] at h1 h3 ⊢
  refine H (l ++ y) A' c' w' (Lib.hid rfl) ⟨own_eq h1 rfl (by rw [List.map_append]),keep_grown h.k h.size h2 h.o⟩ (hb.grown h2 hne) (fun q => ?_)
  rcases h3 with h3 | h3
  ·rw [h3] at q;exact hne q
  ·rw [h3] at q;have:=hb.lt;have:=Option.some.inj q;omega
set_option maxRecDepth 100000 in
set_option maxHeartbeats 4000000 in
theorem r8low_any (n m : Nat) (w : World) (hm : m ≤ 8) : Calls Try.prog 49 #[u64v n,iv m] w (Bfd w (loN n m)):=by
 have HBK : Hid (Bf w w none 0 (loN n 0)):=Lib.hid (Bf.nil (Below.refl _ _))
 unfold Bfd
 go_enter Try.func49,Try.ntmps49
 go_wp2_with fail
 go_loopw [5,6] (fun v c wr => ∃ (k : Nat) (A : Option Addr) (cc : Nat),k ≤ m∧c = .int .i64 k∧v = .slice A k cc∧Hid (Bf w wr A cc (loN n k))) (fun _ c _ => m - (intOf c).toNat)
 case atStart => exact ⟨0,none,0,Nat.zero_le _,rfl,rfl,HBK⟩
 case round =>
  obtain ⟨k,A,cc,hk,rfl,rfl,HBr⟩:=hrel
  clear HBK
  by_cases hlt : k < m
  ·obtain ⟨x,hx⟩ : ∃ x : UInt8,x = UInt8.ofNat (n / 2 ^ (8 * k)):=⟨_,rfl⟩
   have hb : (n : Int) / 2 ^ (8 * k) % 256 = (x.toNat : Int):=by
    rw [hx,UInt8.toNat_ofNat',Int.natCast_emod,Int.natCast_ediv,Int.natCast_pow];rfl
   have HN:=Lib.hid (lo_succ n k)
   rw [← hx] at HN
   clear hx
   have d1 : (k : Int) < m:=by omega
   have hl : (loN n k).length = k:=lo_len n k
   go_wp2_with (at_builtin;refine wpList_bf (l:=loN n k) (by rfl) _ _ (by rfl) (HBr.out.alloc _) (by rw [hl];rfl) _ 1 1 [x] (by rfl) (by rfl) (Rd.new _ [u8v x] _) (by rw [hl];omega) ?_;rintro z A1 c1 w1 E1 B1 -;have HB1:=Lib.hid B1;clear B1 HBr)
   have HZ1 : Hid (z = loN n (k + 1)):=Lib.hid (by rw [E1.out,HN.out])
   replace HB1 : Hid (Bf w w1 A1 c1 (loN n (k + 1))):=by rw [← HZ1.out];exact HB1
   clear hb hl E1
   go_roundw
   case rel => exact ⟨k + 1,_,_,by omega,by go_num,by rw [HZ1.out];simp [lo_len],HB1⟩
   case measure => simp [intOf];omega
  ·obtain rfl : k = m:=by omega
   have d1 : ¬ (k : Int) < k:=by omega
   go_wp2
   exact bodyPost_ret (v:=.slice A k cc) (by simp [results,Try.results49]) rfl ⟨A,cc,by rw [lo_len],HBr.out⟩
set_option maxRecDepth 100000 in
set_option maxHeartbeats 4000000 in
theorem r9low_any (n m : Nat) (w : World) (hm : m ≤ 8) : Calls Try.prog 23 #[u64v n,iv m] w (Bfd w (loN n m)):=by
 have HBK : Hid (Bf w w none 0 (loN n 0)):=Lib.hid (Bf.nil (Below.refl _ _))
 unfold Bfd
 go_enter Try.func23,Try.ntmps23
 go_wp2_with fail
 go_loopw [5,6] (fun v c wr => ∃ (k : Nat) (A : Option Addr) (cc : Nat),k ≤ m∧c = .int .i64 k∧v = .slice A k cc∧Hid (Bf w wr A cc (loN n k))) (fun _ c _ => m - (intOf c).toNat)
 case atStart => exact ⟨0,none,0,Nat.zero_le _,rfl,rfl,HBK⟩
 case round =>
  obtain ⟨k,A,cc,hk,rfl,rfl,HBr⟩:=hrel
  clear HBK
  by_cases hlt : k < m
  ·obtain ⟨x,hx⟩ : ∃ x : UInt8,x = UInt8.ofNat (n / 2 ^ (8 * k)):=⟨_,rfl⟩
   have hb : (n : Int) / 2 ^ (8 * k) % 256 = (x.toNat : Int):=by
    rw [hx,UInt8.toNat_ofNat',Int.natCast_emod,Int.natCast_ediv,Int.natCast_pow];rfl
   have HN:=Lib.hid (lo_succ n k)
   rw [← hx] at HN
   clear hx
   have d1 : (k : Int) < m:=by omega
   have hl : (loN n k).length = k:=lo_len n k
   go_wp2_with (at_builtin;refine wpList_bf (l:=loN n k) (by rfl) _ _ (by rfl) (HBr.out.alloc _) (by rw [hl];rfl) _ 1 1 [x] (by rfl) (by rfl) (Rd.new _ [u8v x] _) (by rw [hl];omega) ?_;rintro z A1 c1 w1 E1 B1 -;have HB1:=Lib.hid B1;clear B1 HBr)
   have HZ1 : Hid (z = loN n (k + 1)):=Lib.hid (by rw [E1.out,HN.out])
   replace HB1 : Hid (Bf w w1 A1 c1 (loN n (k + 1))):=by rw [← HZ1.out];exact HB1
   clear hb hl E1
   go_roundw
   case rel => exact ⟨k + 1,_,_,by omega,by go_num,by rw [HZ1.out];simp [lo_len],HB1⟩
   case measure => simp [intOf];omega
  ·obtain rfl : k = m:=by omega
   have d1 : ¬ (k : Int) < k:=by omega
   go_wp2
   exact bodyPost_ret (v:=.slice A k cc) (by simp [results,Try.results23]) rfl ⟨A,cc,by rw [lo_len],HBr.out⟩
set_option maxRecDepth 100000 in
set_option maxHeartbeats 4000000 in
theorem r8scr_any (A : Option Addr) (s : List UInt8) (c : Nat) (w : World) (hs : s.length ≤ 1000000) (hr : Rd w A (s.map u8v)) : Calls Try.prog 50 #[.slice A s.length c] w (Bfd w (scL s)):=by
 have C1 : Hid (∀ y,Calls Try.prog 47 #[.slice none 0 0,u64v s.length] y (Bfd y (cptL s.length))):=Lib.hid fun y => rcput_any s.length (by omega) y
 have hs9:=siz_le s.length
 have HCL : (cptL s.length).length ≤ 9:=by rw [cpt_len];omega
 have HE : Hid (scL s = cptL s.length ++ s):=Lib.hid rfl
 have HR:=Lib.hid hr
 have HSL:=Lib.hid (rfl : s.length = s.length)
 have hw : IntKind.u64.wrap (s.length : Int) = s.length:=by rw [IntKind.wrap_u64];omega
 clear hr
 generalize cptL s.length = C at *
 obtain ⟨m,hm⟩ : ∃ m,s.length = m:=⟨_,rfl⟩
 have HM:=Lib.hid hm
 rw [hm] at C1 hs hs9 hw ⊢
 clear hm HSL
 unfold Bfd
 go_enter Try.func50,Try.ntmps50
 go_wp2_with fail
 refine (C1.out _).mono ?_
 clear C1
 rintro e w1 ⟨A1,c1,rfl,b1⟩
 have B1:=Lib.hid b1
 clear b1
 go_wp2_with (at_builtin;refine wpList_bf (by rfl) _ _ (by rfl) B1.out (by rfl) A m c s (by rfl) HM.out (HR.out.keep B1.out.k) (by omega) ?_;rintro z A2 c2 w2 E2 b2 -;have B2:=Lib.hid b2;clear b2)
 exact bodyPost_ret (v:=.slice A2 z.length c2) (by simp [results,Try.results50]) rfl ⟨A2,c2,by rw [HE.out,E2.out],by rw [HE.out,← E2.out];exact B2.out⟩
end Go.Proofs.Ytbgpgdhndanigaa
/- florinref08.Put. (printed by gen_kl.py) -/
set_option linter.unusedSimpArgs false
set_option linter.unusedVariables false
namespace Go.Proofs.Ytbgpgdhndanigaa
open Go.RowKit
attribute [local go_sem ↓] Go.wp_at_zero Go.wp_at_succ
theorem InR.rd32 {w : World} {g : Nat} {t : TypeId} {x : InR} (hb : Blk w g t x.cells) (hp : x.prev.length = 32) : Rd w (some ⟨g,0,none⟩) (x.prev.map u8v):=by
 have h1:=hb.rd.take 32
 have e : x.cells.take 32 = x.prev.map u8v:=by unfold InR.cells;rw [List.take_left' (by simp [hp])]
 rwa [e] at h1
theorem fm_take {α : Type} (f : α → List UInt8) (l : List α) (k : Nat) (x : α) (h : l.take (k + 1) = l.take k ++ [x]) : (l.take (k + 1)).flatMap f = (l.take k).flatMap f ++ f x:=by rw [h];simp
set_option maxRecDepth 100000 in
set_option maxHeartbeats 8000000 in
theorem rtput_any (t : TxR) (w : World) (h : t.at w) (hsn : saneT t = true) :
  Calls Try.prog 27 #[.agg #[u32v t.ver,.slice t.iA t.ins.length t.ic,.slice t.oA t.outs.length t.oc,u32v t.lock]] w fun e w' => ∃ A c,e = .returned (.tuple #[.slice A (txL t).length c,iv 0])∧Bf w w' A c (txL t):=by
 have S1 : Hid (∀ y,Keep w y → Calls Try.prog 37 #[.agg #[u32v t.ver,.slice t.iA t.ins.length t.ic,.slice t.oA t.outs.length t.oc,u32v t.lock]] y fun e w' => e = .returned (.bool true)∧Keep y w'):=Lib.hid fun y hy => by
  have:=rtsane_any t y (h.keep hy);rw [hsn] at this;exact this
 obtain ⟨hn1,hn2,hn3,hn4⟩ : t.ins.length ≤ 1000∧t.outs.length ≤ 1000∧(∀ x ∈ t.ins,x.sc.length ≤ 10000)∧∀ x ∈ t.outs,x.sc.length ≤ 10000:=by
  have q:=hsn;unfold saneT at q;rw [decide_eq_true_eq] at q;exact ⟨q.2.1,q.2.2.1,q.2.2.2.1,q.2.2.2.2⟩
 have LOW : Hid (∀ (n m : Nat) y,m ≤ 8 → Calls Try.prog 49 #[u64v n,iv m] y (Bfd y (loN n m))):=Lib.hid fun n m y hm => r8low_any n m y hm
 have CPT : Hid (∀ (n : Nat) y,n < 2 ^ 64 → Calls Try.prog 47 #[.slice none 0 0,u64v n] y (Bfd y (cptL n))):=Lib.hid fun n y hn => rcput_any n hn y
 have SCR : Hid (∀ A s c y,(s : List UInt8).length ≤ 10000 → Rd y A (s.map u8v) → Calls Try.prog 50 #[.slice A s.length c] y (Bfd y (scL s))):=Lib.hid fun A s c y hs hr => r8scr_any A s c y (by omega) hr
 have HI : Hid (∀ k (h : k < t.ins.length),∃ (b off : Nat) (xs : Array Value) (x : InR),t.iA = some ⟨b,off,none⟩∧InB x xs∧x.at w∧w.rangeAt b (off + k * 35) xs.toList∧x.sc.length ≤ 10000∧t.ins.take (k + 1) = t.ins.take k ++ [x]):=Lib.hid fun k hk => by
  have hp:=(h.is _ (List.getElem_mem hk))
  obtain ⟨b,off,h1,-,h2⟩:=in_at h.i (fun x hx => (h.is x hx).p) hk
  have hA:=InB.of hp.p
  exact ⟨b,off,_,_,h1,hA,hp,by rw [hA.l];exact h2,hn3 _ (List.getElem_mem hk),List.take_succ_eq_append_getElem hk⟩
 have HO : Hid (∀ k (h : k < t.outs.length),∃ (b off : Nat) (x : OutR),t.oA = some ⟨b,off,none⟩∧w.cell? ⟨b,off + k * 2,none⟩ = some (u64v x.val)∧w.cell? ⟨b,off + k * 2 + 1,none⟩ = some (.slice x.A x.sc.length x.cap)∧x.at w∧x.sc.length ≤ 10000∧t.outs.take (k + 1) = t.outs.take k ++ [x]):=Lib.hid fun k hk => by
  obtain ⟨b,off,h1,h0,h2,h3⟩:=out_at h.o hk
  exact ⟨b,off,_,h1,h2,h3,h.os _ (List.getElem_mem hk),hn4 _ (List.getElem_mem hk),List.take_succ_eq_append_getElem hk⟩
 have HL1 : Hid (∀ k,((t.ins.take k).flatMap inL).length ≤ 10100000):=Lib.hid fun k => by
  have q:=fm_le inL 10100 (t.ins.take k) fun x hx => inL_le (h.is x (List.mem_of_mem_take hx)).p (hn3 x (List.mem_of_mem_take hx))
  have:=List.length_take_le k t.ins
  rw [List.length_take] at q this
  have : min k t.ins.length * 10100 ≤ 1000 * 10100:=Nat.mul_le_mul_right _ (by omega)
  omega
 have HL2 : Hid (∀ k,((t.outs.take k).flatMap outL).length ≤ 10100000):=Lib.hid fun k => by
  have q:=fm_le outL 10100 (t.outs.take k) fun x hx => outL_le (hn4 x (List.mem_of_mem_take hx))
  rw [List.length_take] at q
  have : min k t.outs.length * 10100 ≤ 1000 * 10100:=Nat.mul_le_mul_right _ (by omega)
  omega
 have HTX : Hid (txL t = (((loN t.ver.toNat 4 ++ cptL t.ins.length) ++ (t.ins.take t.ins.length).flatMap inL) ++ cptL t.outs.length ++ (t.outs.take t.outs.length).flatMap outL) ++ loN t.lock.toNat 4):=Lib.hid (by unfold txL;rw [List.take_length,List.take_length];simp only [List.append_assoc])
 clear h hsn hn3 hn4
 obtain ⟨ver,iA,ins,ic,oA,outs,oc,lock⟩:=t
 simp only at *
 generalize txL ⟨ver,iA,ins,ic,oA,outs,oc,lock⟩ = R at *
 obtain ⟨n,hn⟩ : ∃ n,ins.length = n:=⟨_,rfl⟩
 obtain ⟨m,hm⟩ : ∃ m,outs.length = m:=⟨_,rfl⟩
 rw [hn] at HI S1 HTX hn1 ⊢
 rw [hm] at HO S1 HTX hn2 ⊢
 clear hn hm
 obtain ⟨zs,hz1,hz2,hz3⟩:=zrin_letter
 have hv4 : ver.toNat < 4294967296:=ver.toNat_lt
 have hk4 : lock.toNat < 4294967296:=lock.toNat_lt
 have hwv : IntKind.u64.wrap (ver.toNat : Int) = ver.toNat:=by rw [IntKind.wrap_u64];omega
 have hwl : IntKind.u64.wrap (lock.toNat : Int) = lock.toNat:=by rw [IntKind.wrap_u64];omega
 have hwn : IntKind.u64.wrap (n : Int) = n:=by rw [IntKind.wrap_u64];omega
 have hwm : IntKind.u64.wrap (m : Int) = m:=by rw [IntKind.wrap_u64];omega
 go_enter Try.func27,Try.ntmps27
 go_upto_region 1 with fail
 obtain ⟨w1,hw1⟩ : ∃ w1,w1 = w.alloc (.cells #[u32v ver,.slice iA n ic,.slice oA m oc,u32v lock] 37):=⟨_,rfl⟩
 have HT1 : Hid (Blk w1 w.heap.size 37 [u32v ver,.slice iA n ic,.slice oA m oc,u32v lock]):=by rw [hw1];exact Lib.hid (Blk.new w 37 [u32v ver,.slice iA n ic,.slice oA m oc,u32v lock])
 have HK1 : Hid (Keep w w1):=by rw [hw1];exact Lib.hid (keep_new _ _)
 rw [← hw1]
 clear hw1
 obtain ⟨gt,hgt⟩ : ∃ g,w.heap.size = g:=⟨_,rfl⟩
 rw [hgt] at HT1
 simp only [hgt]
 clear hgt
 have t0:=(HT1.out.keep (Below.refl _ _)).cell 0;have t1:=(HT1.out.keep (Below.refl _ _)).cell 1;have t2:=(HT1.out.keep (Below.refl _ _)).cell 2;have t3:=(HT1.out.keep (Below.refl _ _)).cell 3
 simp only [List.getElem?_cons_succ,List.getElem?_cons_zero] at t0 t1 t2 t3
 go_wp2_with fail
 refine (S1.out _ HK1.out).mono ?_
 clear S1 t0 t1 t2 t3
 rintro e w2 ⟨rfl,k2⟩
 have HK2 : Hid (Keep w1 w2):=Lib.hid k2
 clear k2
 have t0:=(HT1.out.keep HK2.out).cell 0;have t1:=(HT1.out.keep HK2.out).cell 1;have t2:=(HT1.out.keep HK2.out).cell 2;have t3:=(HT1.out.keep HK2.out).cell 3
 simp only [List.getElem?_cons_succ,List.getElem?_cons_zero] at t0 t1 t2 t3
 go_wp2_with fail
 refine (LOW.out ver.toNat 4 _ (by omega)).mono ?_
 clear t0 t1 t2 t3
 rintro e w3 ⟨A3,c3,rfl,b3⟩
 have B3:=Lib.hid (b3.up HK2.out)
 have l3 : (loN ver.toNat 4).length ≤ 4:=Nat.le_of_eq (lo_len _ _)
 clear b3 HK2
 generalize hLV : loN ver.toNat 4 = LV at *
 have t0:=(HT1.out.keep B3.out.k).cell 0;have t1:=(HT1.out.keep B3.out.k).cell 1;have t2:=(HT1.out.keep B3.out.k).cell 2;have t3:=(HT1.out.keep B3.out.k).cell 3
 simp only [List.getElem?_cons_succ,List.getElem?_cons_zero] at t0 t1 t2 t3
 go_wp2_with fail
 refine (CPT.out n _ (by omega)).mono ?_
 clear t0 t1 t2 t3
 rintro e w4 ⟨A4,c4,rfl,b4⟩
 have B4:=Lib.hid (B3.out.keep b4.k);have R4:=Lib.hid b4.rd
 have l4 : (cptL n).length ≤ 9:=by rw [cpt_len];exact (siz_le n).2
 clear b4 B3
 generalize hCN : cptL n = CN at *
 go_upto_region 5 with (at_builtin;refine wpList_bf (by rfl) _ _ (by rfl) B4.out (by rfl) A4 _ c4 CN (by rfl) rfl R4.out (by omega) ?_;rintro z5 A5 c5 w5 E5 b5 -;have B5:=Lib.hid b5;clear b5)
 have HZ5 : Hid ((LV ++ CN) ++ (ins.take 0).flatMap inL = z5):=Lib.hid (by rw [E5.out];simp)
 have hl5 : (LV ++ CN).length ≤ 13:=by rw [List.length_append];omega
 clear B4 R4 E5 l3 l4 hwv
 generalize LV ++ CN = P0 at *
 go_wp2_with fail
 go_loopw [4,5] (fun v x wr => ∃ (k : Nat) (z : List UInt8) (A' : Option Addr) (c' : Nat),k ≤ n∧x = .int .i64 k∧v = .slice A' z.length c'∧Hid (P0 ++ (ins.take k).flatMap inL = z)∧Hid (Bf w1 wr A' c' z)) (fun _ x _ => n - (intOf x).toNat)
 case atStart => exact ⟨0,z5,_,_,Nat.zero_le _,rfl,rfl,HZ5,B5⟩
 case round =>
  obtain ⟨k,z,A',c',hk,rfl,rfl,HZ,BR⟩:=hrel
  clear B5 HZ5
  have hzl : z.length ≤ 10200000:=by rw [← HZ.out,List.length_append];have:=HL1.out k;omega
  have t0:=(HT1.out.keep BR.out.k).cell 0;have t1:=(HT1.out.keep BR.out.k).cell 1;have t2:=(HT1.out.keep BR.out.k).cell 2;have t3:=(HT1.out.keep BR.out.k).cell 3
  simp only [List.getElem?_cons_succ,List.getElem?_cons_zero] at t0 t1 t2 t3
  by_cases hlt : k < n
  ·have d2 : (k : Int) < n:=by omega
   obtain ⟨b,off,xs,x,rfl,hxs,hxa,hrg,hsc,htk⟩:=HI.out k hlt
   have HH1 : Hid (P0 ++ (ins.take (k + 1)).flatMap inL = (((z ++ x.prev) ++ loN x.ix.toNat 4) ++ scL x.sc) ++ loN x.seq.toNat 4):=Lib.hid (by rw [fm_take inL ins k x htk,← HZ.out];unfold inL;simp only [List.append_assoc])
   have hpd:=hxa.p
   have hxz:=hxs.z;have hxn:=hxs.n;have hxi:=hxs.i
   have RX : Hid (wr.rangeAt b (off + k * 35) xs.toList):=Lib.hid fun j v hv => keep_cell BR.out.k (keep_cell HK1.out (hrg j v hv))
   have hst : (storeCells ⟨wr.heap.size,0,none⟩ xs.toList 0).run Try.prog (wr.alloc (.cells zs 97)) = .ok () (wr.alloc (.cells xs 97)):=run_storeCells_new (P:=Try.prog) wr 97 zs xs hxi (hz1.trans hxz.symm) (by have:=all_oneCell_toArray hxs.o;rwa [Array.toArray_toList] at this)
   have HXL:=Lib.hid hxs.l;have HXA:=Lib.hid hxa
   have hix:=x.ix.toNat_lt;have hsq:=x.seq.toNat_lt
   have hw1 : IntKind.u64.wrap (x.ix.toNat : Int) = x.ix.toNat:=by rw [IntKind.wrap_u64];omega
   have hw2 : IntKind.u64.wrap (x.seq.toNat : Int) = x.seq.toNat:=by rw [IntKind.wrap_u64];omega
   have ls1 : (loN x.ix.toNat 4).length ≤ 4:=Nat.le_of_eq (lo_len _ _)
   have ls2 : (loN x.seq.toNat 4).length ≤ 4:=Nat.le_of_eq (lo_len _ _)
   have ls3 : (scL x.sc).length ≤ 10009:=by rw [scL_len];have:=(siz_le x.sc.length).2;omega
   clear hxs hxa hrg htk HI
   go_upto_region 9 with ((with_reducible refine load_partg b (off + k * 35) xs (Eq.trans ?_ rfl) RX.out _ Try.underlying97 rfl hxi rfl ?_);rfl)
   obtain ⟨w6,hw6⟩ : ∃ x,x = wr.alloc (.cells xs 97):=⟨_,rfl⟩
   have HX6 : Hid (Blk w6 wr.heap.size 97 x.cells):=by rw [hw6,← HXL.out];exact Lib.hid (Blk.new wr _ xs.toList)
   have B6 : Hid (Bf w1 w6 A' c' z):=by rw [hw6];exact Lib.hid (BR.out.alloc _)
   have hne6 : (Value.slice A' z.length c').ownBlock ≠ some wr.heap.size:=fun q => by have:=(BR.out.o.lt _ q).2;omega
   rw [← hw6]
   clear hw6 hst RX BR HXL hxz hxn hxi t0 t1 t2 t3
   obtain ⟨gi,hgi⟩ : ∃ g,wr.heap.size = g:=⟨_,rfl⟩
   rw [hgi] at HX6 hne6
   simp only [hgi]
   clear hgi
   have r6:=Lib.hid (InR.rd32 HX6.out hpd)
   go_upto_region 10 with (at_builtin;refine wpList_bfb HX6.out hne6 (by rfl) _ _ (by rfl) B6.out (by rfl) (some ⟨gi,0,none⟩) 32 32 x.prev (by rfl) hpd r6.out (by omega) ?_;rintro z7 A7 c7 w7 E7 b7 hx7 hne7)
   have B7:=Lib.hid b7;have HX7:=Lib.hid hx7
   have hz7 : z7.length ≤ z.length + 32:=by rw [E7.out,List.length_append];omega
   clear b7 hx7 B6 HX6 hne6 r6
   have xc:=HX7.out.cell 32;rw [(InR.cell32 _ hpd).1] at xc
   go_wp2_with fail
   refine (LOW.out x.ix.toNat 4 _ (by omega)).mono ?_
   clear xc
   rintro e w8 ⟨A8,c8,rfl,b8⟩
   have B8:=Lib.hid (B7.out.keep b8.k);have HX8:=Lib.hid (HX7.out.keep b8.k);have R8:=Lib.hid b8.rd
   clear b8 B7 HX7
   go_upto_region 11 with (at_builtin;refine wpList_bfb HX8.out hne7 (by rfl) _ _ (by rfl) B8.out (by rfl) A8 _ c8 (loN x.ix.toNat 4) (by rfl) rfl R8.out (by omega) ?_;rintro z9 A9 c9 w9 E9 b9 hx9 hne9)
   have B9:=Lib.hid b9;have HX9:=Lib.hid hx9
   have hz9 : z9.length ≤ z7.length + 10009:=by rw [E9.out,List.length_append];omega
   clear b9 hx9 B8 HX8 hne7 R8
   have xc:=HX9.out.cell 33;rw [(InR.cell32 _ hpd).2.1] at xc
   go_wp2_with fail
   refine (SCR.out _ _ _ _ hsc ((HXA.out.r.keep HK1.out).keep B9.out.k)).mono ?_
   clear xc
   rintro e w10 ⟨A10,c10,rfl,b10⟩
   have B10:=Lib.hid (B9.out.keep b10.k);have HX10:=Lib.hid (HX9.out.keep b10.k);have R10:=Lib.hid b10.rd
   clear b10 B9 HX9
   go_upto_region 12 with (at_builtin;refine wpList_bfb HX10.out hne9 (by rfl) _ _ (by rfl) B10.out (by rfl) A10 _ c10 (scL x.sc) (by rfl) rfl R10.out (by omega) ?_;rintro z11 A11 c11 w11 E11 b11 hx11 hne11)
   have B11:=Lib.hid b11;have HX11:=Lib.hid hx11
   have hz11 : z11.length ≤ z9.length + 10009:=by rw [E11.out,List.length_append];omega
   clear b11 hx11 B10 HX10 hne9 R10
   have xc:=HX11.out.cell 34;rw [(InR.cell32 _ hpd).2.2] at xc
   go_wp2_with fail
   refine (LOW.out x.seq.toNat 4 _ (by omega)).mono ?_
   clear xc
   rintro e w12 ⟨A12,c12,rfl,b12⟩
   have B12:=Lib.hid (B11.out.keep b12.k);have HX12:=Lib.hid (HX11.out.keep b12.k);have R12:=Lib.hid b12.rd
   clear b12 B11 HX11
   go_wp2_with (at_builtin;refine wpList_bfb HX12.out hne11 (by rfl) _ _ (by rfl) B12.out (by rfl) A12 _ c12 (loN x.seq.toNat 4) (by rfl) rfl R12.out (by omega) ?_;rintro z13 A13 c13 w13 E13 b13 hx13 hne13)
   have B13:=Lib.hid b13;have HX13:=Lib.hid hx13
   have hz13 : z13.length ≤ z11.length + 10009:=by rw [E13.out,List.length_append];omega
   clear b13 hx13 B12 HX12 hne11 R12
   have HZ13 : Hid (P0 ++ (ins.take (k + 1)).flatMap inL = z13):=Lib.hid (by rw [HH1.out,E13.out,E11.out,E9.out,E7.out])
   clear hz7 hz9 hz11 hz13 ls1 ls2 ls3 hw1 hw2 hzl HX13 hne13
   go_roundw
   case rel => exact ⟨k + 1,z13,A13,c13,by omega,by go_num,rfl,HZ13,B13⟩
   case measure => simp [intOf];omega
  ·obtain rfl : k = n:=by omega
   have d2 : ¬ (k : Int) < k:=by omega
   rw [HZ.out] at HTX
   clear HZ HI HL1
   go_upto_region 13 with fail
   clear t0 t1 t2 t3
   have t0:=(HT1.out.keep BR.out.k).cell 0;have t1:=(HT1.out.keep BR.out.k).cell 1;have t2:=(HT1.out.keep BR.out.k).cell 2;have t3:=(HT1.out.keep BR.out.k).cell 3
   simp only [List.getElem?_cons_succ,List.getElem?_cons_zero] at t0 t1 t2 t3
   go_wp2_with fail
   refine (CPT.out m _ (by omega)).mono ?_
   clear t0 t1 t2 t3
   rintro e w4 ⟨A4,c4,rfl,b4⟩
   have B4:=Lib.hid (BR.out.keep b4.k);have R4:=Lib.hid b4.rd
   have l4 : (cptL m).length ≤ 9:=by rw [cpt_len];exact (siz_le m).2
   clear b4 BR
   generalize hCM : cptL m = CM at *
   go_upto_region 14 with (at_builtin;refine wpList_bf (by rfl) _ _ (by rfl) B4.out (by rfl) A4 _ c4 CM (by rfl) rfl R4.out (by omega) ?_;rintro z5 A5 c5 w5 E5 b5 -;have B5:=Lib.hid b5;clear b5)
   have HZ5 : Hid (z5 ++ (outs.take 0).flatMap outL = z5):=Lib.hid (by simp)
   have hl6 : z5.length ≤ 10300000:=by rw [E5.out,List.length_append];omega
   rw [← E5.out] at HTX
   clear B4 R4 E5 l4 hwn hwm
   obtain ⟨P1,hP1⟩ : ∃ P,z5 = P:=⟨_,rfl⟩
   have HP1 : Hid (P1 ++ (outs.take 0).flatMap outL = z5):=by rw [← hP1];exact HZ5
   have hl7 : P1.length ≤ 10300000:=by rw [← hP1];exact hl6
   rw [hP1] at HTX
   clear HZ5 hP1
   go_wp2_with fail
   go_loopw [4,7] (fun v x wr => ∃ (j : Nat) (z : List UInt8) (A' : Option Addr) (c' : Nat),j ≤ m∧x = .int .i64 j∧v = .slice A' z.length c'∧Hid (P1 ++ (outs.take j).flatMap outL = z)∧Hid (Bf w1 wr A' c' z)) (fun _ x _ => m - (intOf x).toNat)
   case atStart => exact ⟨0,z5,_,_,Nat.zero_le _,rfl,rfl,HP1,B5⟩
   case round =>
    obtain ⟨j,z,A',c',hj,rfl,rfl,HZ,BR⟩:=hrel
    clear B5 HP1
    have hzl : z.length ≤ 20500000:=by rw [← HZ.out,List.length_append];have:=HL2.out j;omega
    have t0:=(HT1.out.keep BR.out.k).cell 0;have t1:=(HT1.out.keep BR.out.k).cell 1;have t2:=(HT1.out.keep BR.out.k).cell 2;have t3:=(HT1.out.keep BR.out.k).cell 3
    simp only [List.getElem?_cons_succ,List.getElem?_cons_zero] at t0 t1 t2 t3
    by_cases hlt : j < m
    ·have d3 : (j : Int) < m:=by omega
     obtain ⟨b,off,x,rfl,hc0,hc1,hxa,hsc,htk⟩:=HO.out j hlt
     have HH1 : Hid (P1 ++ (outs.take (j + 1)).flatMap outL = (z ++ loN x.val 8) ++ scL x.sc):=Lib.hid (by rw [fm_take outL outs j x htk,← HZ.out];unfold outL;simp only [List.append_assoc])
     have HC0:=Lib.hid (keep_cell HK1.out hc0);have HC1:=Lib.hid (keep_cell HK1.out hc1);have HXA:=Lib.hid hxa
     have ls1 : (loN x.val 8).length ≤ 8:=Nat.le_of_eq (lo_len _ _)
     have ls3 : (scL x.sc).length ≤ 10009:=by rw [scL_len];have:=(siz_le x.sc.length).2;omega
     have c0:=keep_cell BR.out.k HC0.out
     clear hc0 hc1 hxa htk HO
     go_wp2_with fail
     refine (LOW.out x.val 8 _ (by omega)).mono ?_
     clear c0 t0 t1 t2 t3
     rintro e w8 ⟨A8,c8,rfl,b8⟩
     have B8:=Lib.hid (BR.out.keep b8.k);have R8:=Lib.hid b8.rd
     clear b8 BR
     go_upto_region 18 with (at_builtin;refine wpList_bf (by rfl) _ _ (by rfl) B8.out (by rfl) A8 _ c8 (loN x.val 8) (by rfl) rfl R8.out (by omega) ?_;rintro z9 A9 c9 w9 E9 b9 -;have B9:=Lib.hid b9;clear b9)
     have hz9 : z9.length ≤ z.length + 8:=by rw [E9.out,List.length_append];omega
     clear B8 R8
     have c1:=keep_cell B9.out.k HC1.out
     have t0:=(HT1.out.keep B9.out.k).cell 0;have t1:=(HT1.out.keep B9.out.k).cell 1;have t2:=(HT1.out.keep B9.out.k).cell 2;have t3:=(HT1.out.keep B9.out.k).cell 3
     simp only [List.getElem?_cons_succ,List.getElem?_cons_zero] at t0 t1 t2 t3
     go_wp2_with fail
     refine (SCR.out _ _ _ _ hsc ((HXA.out.r.keep HK1.out).keep B9.out.k)).mono ?_
     clear c1 t0 t1 t2 t3
     rintro e w10 ⟨A10,c10,rfl,b10⟩
     have B10:=Lib.hid (B9.out.keep b10.k);have R10:=Lib.hid b10.rd
     clear b10 B9
     go_wp2_with (at_builtin;refine wpList_bf (by rfl) _ _ (by rfl) B10.out (by rfl) A10 _ c10 (scL x.sc) (by rfl) rfl R10.out (by omega) ?_;rintro z11 A11 c11 w11 E11 b11 -;have B11:=Lib.hid b11;clear b11)
     have HZ11 : Hid (P1 ++ (outs.take (j + 1)).flatMap outL = z11):=Lib.hid (by rw [HH1.out,E11.out,E9.out])
     clear hz9 ls1 ls3 hzl B10 R10
     go_roundw
     case rel => exact ⟨j + 1,z11,A11,c11,by omega,by go_num,rfl,HZ11,B11⟩
     case measure => simp [intOf];omega
    ·obtain rfl : j = m:=by omega
     have d3 : ¬ (j : Int) < j:=by omega
     rw [HZ.out] at HTX
     clear HZ HO HL2
     go_upto_region 19 with fail
     clear t0 t1 t2 t3
     have t0:=(HT1.out.keep BR.out.k).cell 0;have t1:=(HT1.out.keep BR.out.k).cell 1;have t2:=(HT1.out.keep BR.out.k).cell 2;have t3:=(HT1.out.keep BR.out.k).cell 3
     simp only [List.getElem?_cons_succ,List.getElem?_cons_zero] at t0 t1 t2 t3
     go_wp2_with fail
     refine (LOW.out lock.toNat 4 _ (by omega)).mono ?_
     clear t0 t1 t2 t3
     rintro e w8 ⟨A8,c8,rfl,b8⟩
     have B8:=Lib.hid (BR.out.keep b8.k);have R8:=Lib.hid b8.rd
     have ls1 : (loN lock.toNat 4).length ≤ 4:=Nat.le_of_eq (lo_len _ _)
     clear b8 BR
     go_wp2_with (at_builtin;refine wpList_bf (by rfl) _ _ (by rfl) B8.out (by rfl) A8 _ c8 (loN lock.toNat 4) (by rfl) rfl R8.out (by omega) ?_;rintro z9 A9 c9 w9 E9 b9 -;have B9:=Lib.hid b9;clear b9)
     obtain rfl : R = z9:=HTX.out.trans E9.out.symm
     exact bodyPost_ret (v:=.tuple #[.slice A9 R.length c9,iv 0]) (by simp [results,Try.results27]) rfl ⟨A9,c9,rfl,B9.out.up HK1.out⟩
end Go.Proofs.Ytbgpgdhndanigaa
/- A region in one order, whose operations only read, and whose callees leave what was there: guards and all (as in SnVr, of no chapter). -/
set_option linter.unusedSimpArgs false
set_option linter.unusedVariables false
namespace Go.Proofs.Ytbgpgdhndanigaa
open Go.RowKit
theorem wpList_of_quietP {P : Program} {ops : Array Oper} {C : World → Prop} {N : Act → Prop} {Q : Exit → Act → World → Prop} (hN : ∀ a w,C w → N a → Q .normal a w) : ∀ (l : List Oper) (a : Act) (w : World),C w → wpQuiet P ops C N l a → wpList P ops Q l a w
 | [],a,w,hC,h => hN a w hC h
 | o :: l,a,w,hC,h => by
   unfold wpQuiet at h
   unfold wpList
   split at h
   ·rename_i hw
    rw [if_pos hw]
    exact .inl (Oper.wp_of_quiet hC (fun a' w' hw' hk => wpList_of_quietP hN l a' w' hw' hk) h)
   ·rename_i hw
    rw [if_neg hw]
    exact wpList_of_quietP hN l _ w hC h
theorem wp_region_plainp {P : Program} {id : Nat} {Q : Exit → Act → World → Prop} {a : Act} {w : World} {l : List Oper} (w0 : World) (hw : Keep w0 w)
  (h : wpQuiet P l.toArray (fun w' => ∃ x,w' = aft w0 x) (fun a' => ∀ w',(∃ x,w' = aft w0 x) → Q .normal a' w') l a) : (Code.region id l.toArray false).wp P Q a w :=
 wp_region_lit (wpList_of_quietP (fun a' w' hw' h => h w' hw') l a w ⟨_,aft_of hw⟩ h)
end Go.Proofs.Ytbgpgdhndanigaa
