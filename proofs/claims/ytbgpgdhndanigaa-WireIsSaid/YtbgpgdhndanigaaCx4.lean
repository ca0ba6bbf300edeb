/- Texts merged by pack.py: Vi, Vj, Vk, Vl, Vm, Vn, Vo. -/
import Derived.Test.YtbgpgdhndanigaaCx2
import Derived.Test.YtbgpgdhndanigaaCx3
/- The closures of tx.Put. (printed by gen_vi.py) -/
set_option linter.unusedSimpArgs false
set_option linter.unusedVariables false
namespace Go.Proofs.Ytbgpgdhndanigaa
open Go.RowKit
attribute [local go_sem ↓] Go.wp_at_zero Go.wp_at_succ
def XB (B : Nat) (v : Value) (k : Nat) : Prop:=k = B ∨ v.ownBlock = some k
structure Gx (B : Nat) (w : World) (v : Value) (w' : World) (v' : Value) : Prop where
 k : KeepX (XB B v) w w'
 f : v'.ownBlock = v.ownBlock ∨ ∃ k,v'.ownBlock = some k∧w.heap.size ≤ k
theorem Gx.refl (B : Nat) (w : World) (v : Value) : Gx B w v w v:=⟨KeepX.of (Below.refl _ _),.inl rfl⟩
theorem Gx.size {B : Nat} {w w' : World} {v v' : Value} (h : Gx B w v w' v') : w.heap.size ≤ w'.heap.size:=h.k.2.2.2.1
theorem Gx.trans {B : Nat} {a b c : World} {u v x : Value} (h : Gx B a u b v) (k : Gx B b v c x) : Gx B a u c x :=
 ⟨h.k.trans k.k fun j hj q => q.imp id fun e => by
  rcases h.f with q | ⟨m,q,hm⟩
  ·rw [← q];exact e
  ·rw [q] at e;cases e;omega,
  k.f.elim (fun e => h.f.imp (fun q => e.trans q) fun ⟨m,q,hm⟩ => ⟨m,e.trans q,hm⟩) fun ⟨m,q,hm⟩ => .inr ⟨m,q,Nat.le_trans h.size hm⟩⟩
theorem Gx.of_keep {a b : World} (B : Nat) (k : Keep a b) (u : Value) : Gx B a u b u:=⟨KeepX.of k,.inl rfl⟩
theorem Gx.of_gr {B : Nat} {a b : World} {u v : Value} (h : Gr a u b v) : Gx B a u b v :=
 ⟨⟨h.g.os,h.g.tape,h.g.output,h.g.size,fun j hj hn => h.g.block j hj fun e => hn (.inr e.symm)⟩,h.f⟩
theorem Gx.set {B : Nat} {a b : World} {u v : Value} (h : Gx B a u b v) (o : Nat) (x : Value) : Gx B a u (b.setCell ⟨B,o,none⟩ x) v :=
 ⟨h.k.grown (⟨rfl,rfl,rfl,by simp,fun k hk hne => Below.heap_setCell b ⟨B,o,none⟩ x k (fun e => hne (by rw [e]))⟩) fun j hj q => .inl (Option.some.inj q).symm,h.f⟩
theorem Gx.keep {B : Nat} {a b c : World} {u v : Value} (h : Gx B a u b v) (k : Keep b c) : Gx B a u c v:=h.trans (Gx.of_keep B k v)
theorem Gx.below {B D : Nat} {a b : World} {u v : Value} {e : TypeId} {size n : Nat} {xs : List Value} (h : Gx B a u b v) (ho : a.ownsRow D e size u n xs) (hB : D ≤ a.heap.size) (hBD : B < D) : Below B a b:=by
 refine ⟨h.k.1,h.k.2.1,h.k.2.2.1,h.k.2.2.2.1,fun k hk => h.k.2.2.2.2 k (by omega) ?_⟩
 rintro (q | q)
 ·omega
 ·have:=(ho.lt k q).1;omega
theorem Blk.gx {B : Nat} {a b : World} {u v : Value} {g : Nat} {t : TypeId} {cs : List Value} (h : Blk a g t cs) (k : Gx B a u b v) (hB : g ≠ B) (hne : u.ownBlock ≠ some g) : Blk b g t cs∧v.ownBlock ≠ some g :=
 ⟨h.kx k.k (by rintro (q | q);exact hB q;exact hne q),by
  rcases k.f with q | ⟨m,q,hm⟩
  ·rw [q];exact hne
  ·rw [q];intro e;cases e;have:=h.lt;omega⟩
theorem RdX.gx {B : Nat} {a b : World} {u v : Value} {A : Option Addr} {xs : List Value} (h : RdX u.ownBlock a A xs) (k : Gx B a u b v) (hA : ∀ g off,A = some ⟨g,off,none⟩ → xs ≠ [] → g ≠ B) : RdX v.ownBlock b A xs:=by
 rcases h with h | ⟨g,off,rfl,hne,hc⟩
 ·exact .inl h
 ·by_cases hx : xs = []
  ·exact .inl hx
  have hlt:=cell_lt (hc 0 (List.length_pos_iff.2 hx))
  have hb:=k.k.2.2.2.2 g hlt (by rintro (q | q);exact hA g off rfl hx q;exact hne q)
  refine .inr ⟨g,off,rfl,?_,fun j hj => ?_⟩
  ·rcases k.f with q | ⟨m,q,hm⟩
   ·rw [q];exact hne
   ·rw [q];intro e;cases e;omega
  ·rw [← hc j hj];unfold World.cell?;simp only [hb]
def Bxd (B D : Nat) (v : Value) (n : Nat) (xs : List Value) (w : World) (e : Ending) (w' : World) : Prop:=e = .returned (.tuple #[])∧∃ v',Blk w' B 31 [v']∧w'.ownsRow D 5 1 v' n xs∧Gx B w v w' v'
set_option maxRecDepth 100000 in
set_option maxHeartbeats 4000000 in
theorem tnum_any (B D : Nat) (v : Value) (N : Nat) (xs : List Value) (n m : Nat) (w : World) (hb : Blk w B 31 [v]) (own : w.ownsRow D 5 1 v N xs) (hBD : B < D) (hD : D ≤ w.heap.size) (hN : N ≤ 1000000000) (hm : m ≤ 8) :
  Calls Try.prog 67 #[u64v n,iv m,.pointer (some ⟨B,0,none⟩)] w (Bxd B D v (N + m) (xs ++ (loN n m).map u8v) w):=by
 have Own0 : Hid (w.ownsRow D 5 1 v (N + 0) (xs ++ (loN n 0).map u8v)):=Lib.hid (own_eq own (by omega) (by simp [lo_zero]))
 have HB0:=Lib.hid hb
 clear own hb
 unfold Bxd
 go_enter Try.func67,Try.ntmps67
 go_wp2_with fail
 go_loopw [7] (fun c wr => ∃ (k : Nat) (x : Value),k ≤ m∧c = .int .i64 k∧Hid (Blk wr B 31 [x])∧Hid (wr.ownsRow D 5 1 x (N + k) (xs ++ (loN n k).map u8v))∧Hid (Gx B w v wr x)) (fun c _ => m - (intOf c).toNat)
 case atStart => exact ⟨0,v,Nat.zero_le _,rfl,HB0,Own0,Lib.hid (Gx.refl _ _ _)⟩
 case round =>
  obtain ⟨k,xv,hk,rfl,HB1,Own1,Gx1⟩:=hrel
  by_cases hlt : k < m
  ·obtain ⟨x,hx⟩ : ∃ x : UInt8,x = UInt8.ofNat (n / 2 ^ (8 * k)):=⟨_,rfl⟩
   have hbx : (n : Int) / 2 ^ (8 * k) % 256 = (x.toNat : Int):=by
    rw [hx,UInt8.toNat_ofNat',Int.natCast_emod,Int.natCast_ediv,Int.natCast_pow];rfl
   have HN:=Lib.hid (lo_succ n k)
   rw [← hx] at HN
   have d1 : (k : Int) < m:=by omega
   obtain ⟨Av,cv,rfl,-,-,-⟩:=own_form Own1.out
   clear hx Own0 HB0
   go_upto_region 3 with fail
   letI iM : G.Mk:=⟨(Value.slice Av (N + k) cv).ownBlock⟩
   refine G.wp_region_tree (.take [0,1,2,3,4,5] (.force [6,7] .done)) [8] (by kernel_rfl) (by kernel_rfl) (fun w8 k8 => ?_)
   have HB8:=Lib.hid (HB1.out.keep k8);have Own8:=Lib.hid (own_keep Own1.out k8);have Gx8:=Lib.hid (Gx1.out.keep k8)
   clear k8 HB1 Own1 Gx1
   have hs8:=Gx8.out.size
   have hneB : G.Mk.m ≠ some B:=fun q => by have:=(Own8.out.lt B q).1;omega
   have b1:=G.aftG_cell (HB8.out.cell 0) hneB
   refine G.mt_take w8 (G.Gr.refl _) ?_
   simp only [pick_cons,pick_nil,nth_zero,nth_succ]
   repeat (go_big_quiet_step (fail))
   refine wpQuiet_nil (G.mt_force ?_)
   clear b1 hneB
   simp only [pick_cons,pick_nil,nth_zero,nth_succ]
   refine G.fc_step rfl (fun K hK => ?_)
   go_simp
   refine hK _ _ (G.Gr.of_keep (keep_new _ _)) ?_
   clear hK K
   obtain ⟨w9,hw9⟩ : ∃ w9,w9 = w8.alloc (.cells #[u8v x] 5):=⟨_,rfl⟩
   have HL9 : Hid (Rd w9 (some ⟨w8.heap.size,0,none⟩) [u8v x]):=by rw [hw9];exact Lib.hid (Rd.new w8 [u8v x] 5)
   have k9 : Keep w8 w9:=by rw [hw9];exact keep_new _ _
   rw [← hw9]
   have HB9:=Lib.hid (HB8.out.keep k9);have Own9:=Lib.hid (own_keep Own8.out k9);have Gx9:=Lib.hid (Gx8.out.keep k9)
   clear hw9 k9 HB8 Own8 Gx8
   refine G.fc_step rfl (fun K hK => ?_)
   refine wp_app byteT _ _ (by rfl) D _ (N + k) _ (by rfl) Own9.out _ 1 1 [u8v x] (by rfl) (by rfl) HL9.out (by simp [Value.oneCell']) (by omega) (by unfold maxLen;omega) (by have:=Gx9.out.size;omega) ?_
   intro v' w10 own10 hg10 hat10
   refine hK _ _ hg10 ?_
   clear hK K HL9
   simp only [Act.put,Array.set!_eq_setIfInBounds,List.setIfInBounds_toArray,List.set_cons_succ,List.set_cons_zero]
   have HB10:=Lib.hid (HB9.out.grown hg10 (fun q => by have:=(Own9.out.lt B q).1;omega))
   have Gx10:=Lib.hid (Gx9.out.trans (Gx.of_gr ⟨hg10,hat10.imp id fun e => ⟨_,e,Nat.le_refl _⟩⟩))
   have Own10:=Lib.hid own10
   clear own10 hg10 hat10 HB9 Gx9 Own9
   refine G.fc_nil (G.mt_end ?_)
   clear iM hbx
   have f1 : w10.frozen? ⟨B,0,none⟩ = false:=HB10.out.frozen 0
   have c1 : w10.cell? ⟨B,0,none⟩ = some (.slice Av (N + k) cv):=HB10.out.cell 0
   obtain ⟨Aw,cw,rfl,-,-,-⟩:=own_form Own10.out
   go_wp2
   go_roundw
   case rel => exact ⟨k + 1,_,by omega,by go_num,Lib.hid (HB10.out.set_ 0 _),Lib.hid (own_eq (ownsRow_setCell_below Own10.out (a:=⟨B,0,none⟩) hBD _) (by omega) (by rw [HN.out];simp)),Lib.hid (Gx10.out.set 0 _)⟩
   case measure => simp [intOf];omega
  ·obtain rfl : k = m:=by omega
   have d1 : ¬ (k : Int) < k:=by omega
   go_wp2
   go_end0
   exact ⟨rfl,xv,HB1.out,Own1.out,Gx1.out⟩
end Go.Proofs.Ytbgpgdhndanigaa
/- The closures count and script of tx.Put. (printed by gen_vj.py) -/
set_option linter.unusedSimpArgs false
set_option linter.unusedVariables false
namespace Go.Proofs.Ytbgpgdhndanigaa
open Go.RowKit
attribute [local go_sem ↓] Go.wp_at_zero Go.wp_at_succ
set_option maxRecDepth 100000 in
set_option maxHeartbeats 4000000 in
theorem tcount_any (B D : Nat) (v : Value) (N : Nat) (xs : List Value) (n : Nat) (w : World) (hb : Blk w B 31 [v]) (own : w.ownsRow D 5 1 v N xs) (hBD : B < D) (hD : D ≤ w.heap.size) (hN : N ≤ 1000000000) (hn : n < 2 ^ 63) :
  Calls Try.prog 68 #[iv n,.pointer (some ⟨B,0,none⟩)] w (Bxd B D v (N + sizN n) (xs ++ (cptL n).map u8v) w):=by
 have C1 : Hid (∀ y,Calls Try.prog 65 #[.slice none 0 0,u64v n] y fun e w' => ∃ v,e = .returned v∧w'.ownsRow y.heap.size 5 1 v (sizN n) ((cptL n).map u8v)∧Keep y w'):=Lib.hid fun y => cput_any n (by omega) y
 have hs:=siz_le n
 have HL : Hid (((cptL n).map u8v).length = sizN n * 1):=Lib.hid (by rw [List.length_map,cpt_len];omega)
 have HO:=Lib.hid (one_bytes (cptL n))
 generalize (cptL n).map u8v = C at *
 generalize sizN n = s at *
 have hw : IntKind.u64.wrap (n : Int) = (n : Int):=by rw [IntKind.wrap_u64];omega
 have Own0:=Lib.hid own
 have HB0:=Lib.hid hb
 clear own hb hn
 unfold Bxd
 obtain ⟨Av,cv,rfl,-,-,-⟩:=own_form Own0.out
 go_enter Try.func68,Try.ntmps68
 letI iM : G.Mk:=⟨(Value.slice Av N cv).ownBlock⟩
 refine G.wp_region_tree (.take [0,1,2] (.force [3,4] .done)) [5] (by kernel_rfl) (by kernel_rfl) (fun w8 k8 => ?_)
 have HB8:=Lib.hid (HB0.out.keep k8);have Own8:=Lib.hid (own_keep Own0.out k8);have Gx8:=Lib.hid (Gx.of_keep B k8 (Value.slice Av N cv))
 clear k8 HB0 Own0
 have hs8:=Gx8.out.size
 have hneB : G.Mk.m ≠ some B:=fun q => by have:=(Own8.out.lt B q).1;omega
 have b1:=G.aftG_cell (HB8.out.cell 0) hneB
 refine G.mt_take w8 (G.Gr.refl _) ?_
 simp only [pick_cons,pick_nil,nth_zero,nth_succ]
 repeat (go_big_quiet_step (fail))
 refine wpQuiet_nil (G.mt_force ?_)
 clear b1 hneB
 simp only [pick_cons,pick_nil,nth_zero,nth_succ]
 refine G.fc_step rfl (fun K hK => ?_)
 go_simp
 (with_reducible refine (C1.out _).mono ?_)
 clear C1
 rintro e w9 ⟨vc,rfl,hown,k9⟩
 refine hK _ _ (G.Gr.of_keep k9) ?_
 clear hK K
 obtain ⟨A1,c1,rfl,-,-,-⟩:=own_form hown
 have RC:=Lib.hid (own_rd hown)
 have HB9:=Lib.hid (HB8.out.keep k9);have Own9:=Lib.hid (own_keep Own8.out k9);have Gx9:=Lib.hid (Gx8.out.keep k9)
 clear hown k9 HB8 Own8 Gx8
 refine G.fc_step rfl (fun K hK => ?_)
 refine wp_app byteT _ _ (by rfl) D _ N _ (by rfl) Own9.out _ s c1 C (by rfl) HL.out RC.out HO.out (by omega) (by unfold maxLen;omega) (by have:=Gx9.out.size;omega) ?_
 intro v' w10 own10 hg10 hat10
 refine hK _ _ hg10 ?_
 clear hK K RC
 simp only [Act.put,Array.set!_eq_setIfInBounds,List.setIfInBounds_toArray,List.set_cons_succ,List.set_cons_zero]
 have HB10:=Lib.hid (HB9.out.grown hg10 (fun q => by have:=(Own9.out.lt B q).1;omega))
 have Gx10:=Lib.hid (Gx9.out.trans (Gx.of_gr ⟨hg10,hat10.imp id fun e => ⟨_,e,Nat.le_refl _⟩⟩))
 have Own10:=Lib.hid own10
 clear own10 hg10 hat10 HB9 Gx9 Own9
 refine G.fc_nil (G.mt_end ?_)
 clear iM hw
 have f1 : w10.frozen? ⟨B,0,none⟩ = false:=HB10.out.frozen 0
 have c1 : w10.cell? ⟨B,0,none⟩ = some (.slice Av N cv):=HB10.out.cell 0
 obtain ⟨Aw,cw,rfl,-,-,-⟩:=own_form Own10.out
 go_wp2
 go_end0
 exact ⟨rfl,_,HB10.out.set_ 0 _,ownsRow_setCell_below Own10.out (a:=⟨B,0,none⟩) hBD _,Gx10.out.set 0 _⟩
def cntV (B : Nat) : Value:=.func (.func 68) #[] #[.pointer (some ⟨B,0,none⟩)]
set_option maxRecDepth 100000 in
set_option maxHeartbeats 4000000 in
theorem tscript_any (B D F : Nat) (t : TypeId) (v : Value) (N : Nat) (xs : List Value) (A : Option Addr) (s : List UInt8) (sc : Nat) (w : World) (hb : Blk w B 31 [v]) (hf : Blk w F t [cntV B]) (own : w.ownsRow D 5 1 v N xs) (hBD : B < D) (hD : D ≤ w.heap.size) (hFB : F ≠ B) (hvF : v.ownBlock ≠ some F)
  (hN : N ≤ 1000000000) (hs : s.length ≤ 1000000) (hr : RdX v.ownBlock w A (s.map u8v)) (hA : ∀ b off,A = some ⟨b,off,none⟩ → s ≠ [] → b ≠ B) :
  Calls Try.prog 69 #[.slice A s.length sc,.pointer (some ⟨F,0,none⟩),.pointer (some ⟨B,0,none⟩)] w (Bxd B D v (N + sizN s.length + s.length) (xs ++ (cptL s.length ++ s).map u8v) w):=by
 have C1 : Hid (∀ y,Keep w y → Calls Try.prog 68 #[iv s.length,.pointer (some ⟨B,0,none⟩)] y (Bxd B D v (N + sizN s.length) (xs ++ (cptL s.length).map u8v) y)):=Lib.hid fun y hy => tcount_any B D v N xs s.length y (hb.keep hy) (own_keep own hy) hBD (Nat.le_trans hD hy.size) hN (by omega)
 have hz:=siz_le s.length
 have HL : Hid ((s.map u8v).length = s.length * 1):=Lib.hid (by simp)
 have HO:=Lib.hid (one_bytes s)
 have HX : Hid ((xs ++ (cptL s.length).map u8v) ++ s.map u8v = xs ++ (cptL s.length ++ s).map u8v):=Lib.hid (by simp)
 have HRX:=Lib.hid hr;have HA:=Lib.hid hA
 have HOV:=Lib.hid own
 have cf:=hf.cell 0
 simp only [cntV,List.getElem?_cons_zero] at cf
 clear hr hA own hb hf
 unfold Bxd at *
 generalize sizN s.length = z at *
 go_enter Try.func69,Try.ntmps69
 go_upto_region 1 with (go_at_call 68;refine (C1.out _ (Below.refl _ _)).mono ?_;rintro e w2 ⟨rfl,v2,hb2,own2,gx2⟩)
 obtain ⟨A2,c2,rfl,-,-,-⟩:=own_form own2
 have RX2:=Lib.hid (HRX.out.gx gx2 (fun g off h1 h2 => HA.out g off h1 (fun q => h2 (by rw [q];rfl))))
 have HB2:=Lib.hid hb2;have Own2:=Lib.hid own2;have Gx2:=Lib.hid gx2
 have k2 : w2.cell? ⟨B,0,none⟩ = some (.slice A2 (N + z) c2):=hb2.cell 0
 clear cf C1 HRX HA hb2 own2 gx2
 have hs2:=Gx2.out.size
 go_wp2_with (at_builtin;refine wpList_app byteT (by rfl) _ _ (by rfl) D _ (N + z) _ (by rfl) Own2.out _ s.length sc (s.map u8v) (by rfl) HL.out RX2.out.rd HO.out (by omega) (by unfold maxLen;omega) (by omega) ?_;intro v3 w3 own3 hg3 hat3;have hbl3:=HB2.out.grown hg3 (fun q => by have:=(Own2.out.lt B q).1;omega);have f3:=hbl3.frozen 0;have c3:=hbl3.cell 0;have HB3:=Lib.hid hbl3;have Own3:=Lib.hid own3;have Gx3:=Lib.hid (Gx2.out.trans (Gx.of_gr ⟨hg3,hat3.imp id fun e => ⟨_,e,Nat.le_refl _⟩⟩));obtain ⟨A3,e3,rfl,-,-,-⟩:=own_form own3;simp only [List.getElem?_cons_zero] at c3;clear own3 hg3 hat3 hbl3)
 go_end0
 exact ⟨rfl,_,HB3.out.set_ 0 _,own_eq (ownsRow_setCell_below Own3.out (a:=⟨B,0,none⟩) hBD _) rfl HX.out,Gx3.out.set 0 _⟩
end Go.Proofs.Ytbgpgdhndanigaa
/- Transactions in memory; tx.Sane. (printed by gen_vk.py) -/
set_option linter.unusedSimpArgs false
set_option linter.unusedVariables false
namespace Go.Proofs.Ytbgpgdhndanigaa
open Go.RowKit
attribute [local go_sem ↓] Go.wp_at_zero Go.wp_at_succ
structure InR where
 prev : List UInt8
 ix : UInt32
 A : Option Addr
 sc : List UInt8
 cap : Nat
 seq : UInt32
structure OutR where
 val : Nat
 A : Option Addr
 sc : List UInt8
 cap : Nat
structure TxR where
 ver : UInt32
 iA : Option Addr
 ins : List InR
 ic : Nat
 oA : Option Addr
 outs : List OutR
 oc : Nat
 lock : UInt32
def InR.cells (x : InR) : List Value:=x.prev.map u8v ++ [u32v x.ix,.slice x.A x.sc.length x.cap,u32v x.seq]
def OutR.cells (x : OutR) : List Value:=[u64v x.val,.slice x.A x.sc.length x.cap]
def TxR.cells (t : TxR) : List Value:=[u32v t.ver,.slice t.iA t.ins.length t.ic,.slice t.oA t.outs.length t.oc,u32v t.lock]
structure InR.at (x : InR) (w : World) : Prop where
 p : x.prev.length = 32
 c : x.sc.length ≤ x.cap∧x.cap ≤ maxLen
 r : Rd w x.A (x.sc.map u8v)
structure OutR.at (x : OutR) (w : World) : Prop where
 v : x.val < 2 ^ 64
 c : x.sc.length ≤ x.cap∧x.cap ≤ maxLen
 r : Rd w x.A (x.sc.map u8v)
structure TxR.at (t : TxR) (w : World) : Prop where
 i : Rd w t.iA (t.ins.flatMap InR.cells)
 o : Rd w t.oA (t.outs.flatMap OutR.cells)
 ic : t.ins.length ≤ t.ic∧t.ic ≤ maxLen
 oc : t.outs.length ≤ t.oc∧t.oc ≤ maxLen
 is : ∀ x ∈ t.ins,x.at w
 os : ∀ x ∈ t.outs,x.at w
theorem InR.at.keep {x : InR} {w w' : World} (h : x.at w) (k : Keep w w') : x.at w':=⟨h.p,h.c,h.r.keep k⟩
theorem OutR.at.keep {x : OutR} {w w' : World} (h : x.at w) (k : Keep w w') : x.at w':=⟨h.v,h.c,h.r.keep k⟩
theorem TxR.at.keep {t : TxR} {w w' : World} (h : t.at w) (k : Keep w w') : t.at w':=⟨h.i.keep k,h.o.keep k,h.ic,h.oc,fun x hx => (h.is x hx).keep k,fun x hx => (h.os x hx).keep k⟩
theorem InR.len {x : InR} (h : x.prev.length = 32) : x.cells.length = 35:=by simp [InR.cells,h]
theorem InR.one (x : InR) : ∀ u ∈ x.cells,u.oneCell' = true:=by
 intro u hu
 rcases List.mem_append.1 hu with hu | hu
 ·obtain ⟨y,_,rfl⟩:=List.mem_map.1 hu;rfl
 ·simp at hu;rcases hu with rfl | rfl | rfl <;> rfl
theorem in_info : (Try.prog.info? 100).map (·.size) = some 35:=by kernel_rfl
structure InA (x : InR) (cs : Array Value) : Prop where
 l : cs.toList = x.cells
 z : cs.size = 35
 i : (Try.prog.info? 100).map (·.size) = some cs.size
 n : ¬ cs = #[]
 o : ∀ v ∈ cs.toList,v.oneCell' = true
theorem InA.of {x : InR} (h : x.prev.length = 32) : InA x x.cells.toArray:=by
 have hz : x.cells.toArray.size = 35:=by simpa using InR.len h
 exact ⟨rfl,hz,by rw [hz];exact in_info,fun e => by rw [e] at hz;simp at hz,by simpa using x.one⟩
noncomputable def zin : Array Value:=match (Try.prog.info? 100).bind (·.zero) with | some (.agg c) => c | _ => #[]
theorem zin_size : zin.size = 35:=by kernel_rfl
theorem zin_zero (w : World) : (zeroValue 100).run Try.prog w = .ok (.agg zin) w:=by kernel_rfl
theorem zin_list : zin.toList = InR.cells ⟨z32,0,none,[],0,0⟩:=by kernel_rfl
theorem zin_letter : ∃ zs : Array Value,zs.size = 35∧(∀ w,(zeroValue 100).run Try.prog w = .ok (.agg zs) w)∧¬ zs = #[]∧InA ⟨z32,0,none,[],0,0⟩ zs :=
 ⟨zin,zin_size,zin_zero,(fun h => by have:=zin_size;rw [h] at this;cases this),by
  have h:=InA.of (x:=⟨z32,0,none,[],0,0⟩) rfl
  rwa [← zin_list,Array.toArray_toList] at h⟩
set_option maxRecDepth 100000 in
theorem inT : ElT Try.prog 44 100 (Value.agg zin) 35 72:=ElT.mk' Try.underlying44 (by kernel_rfl) zin_size (by omega)
theorem outT : ElT Try.prog 45 101 (.agg #[.int .u64 0,.slice none 0 0]) 2 32:=ElT.mk' Try.underlying45 (by kernel_rfl) rfl (by omega)
theorem in_at {w : World} {A : Option Addr} {l : List InR} (hr : Rd w A (l.flatMap InR.cells)) (hk : ∀ x ∈ l,x.prev.length = 32) {k : Nat} (h : k < l.length) :
  ∃ b off,A = some ⟨b,off,none⟩∧b < w.heap.size∧w.rangeAt b (off + k * 35) l[k].cells:=by
 have hlen : ∀ a ∈ l,a.cells.length = 35:=fun a ha => InR.len (hk a ha)
 obtain ⟨b,off,rfl,hb,F⟩:=hr.at (k:=k * 35) (by rw [flatMap_len' _ 35 _ hlen];omega)
 refine ⟨b,off,rfl,hb,fun j v hv => ?_⟩
 have hj : j < 35:=by rw [← hlen l[k] (List.getElem_mem h)];exact (List.getElem?_eq_some_iff.1 hv).1
 have hg:=flatMap_get' InR.cells 35 l hlen k j h hj
 have hlt : k * 35 + j < (l.flatMap InR.cells).length:=by rw [flatMap_len' _ 35 _ hlen];omega
 have hc:=F (k * 35 + j) hlt
 rw [Nat.add_assoc,hc,← hv,← hg,List.getElem?_eq_getElem hlt]
theorem out_at {w : World} {A : Option Addr} {l : List OutR} (hr : Rd w A (l.flatMap OutR.cells)) {k : Nat} (h : k < l.length) :
  ∃ b off,A = some ⟨b,off,none⟩∧b < w.heap.size∧w.cell? ⟨b,off + k * 2,none⟩ = some (u64v l[k].val)∧w.cell? ⟨b,off + k * 2 + 1,none⟩ = some (.slice l[k].A l[k].sc.length l[k].cap):=by
 obtain ⟨b,off,rfl,hb,F⟩:=hr.at (k:=k * 2) (by rw [flatMap_len _ 2 (fun _ => rfl)];omega)
 have G:=Rd.field (size:=2) (fun _ => rfl) F k
 exact ⟨b,off,rfl,hb,G 0 h (by omega),G 1 h (by omega)⟩
def saneT (t : TxR) : Bool:=decide (1 ≤ t.ins.length∧t.ins.length ≤ 1000∧t.outs.length ≤ 1000∧(∀ x ∈ t.ins,x.sc.length ≤ 10000)∧∀ x ∈ t.outs,x.sc.length ≤ 10000)
set_option maxRecDepth 100000 in
set_option maxHeartbeats 4000000 in
theorem tsane_any (t : TxR) (w : World) (h : t.at w) (hi : t.ins.length ≤ 1000000) (ho : t.outs.length ≤ 1000000) :
  Calls Try.prog 33 #[.agg #[u32v t.ver,.slice t.iA t.ins.length t.ic,.slice t.oA t.outs.length t.oc,u32v t.lock]] w fun e w' => e = .returned (.bool (saneT t))∧Keep w w':=by
 have HI : Hid (∀ k (h : k < t.ins.length),∃ (b off : Nat) (xs : Array Value) (x : InR),t.iA = some ⟨b,off,none⟩∧InA x xs∧x.prev.length = 32∧w.rangeAt b (off + k * 35) xs.toList∧x ∈ t.ins∧t.ins[k]? = some x):=Lib.hid fun k hk => by
  have hp:=(h.is _ (List.getElem_mem hk)).p
  obtain ⟨b,off,h1,-,h2⟩:=in_at h.i (fun x hx => (h.is x hx).p) hk
  have hA:=InA.of hp
  exact ⟨b,off,_,_,h1,hA,hp,by rw [hA.l];exact h2,List.getElem_mem hk,List.getElem?_eq_getElem hk⟩
 have HO : Hid (∀ k (h : k < t.outs.length),∃ (b off : Nat) (x : OutR),t.oA = some ⟨b,off,none⟩∧w.cell? ⟨b,off + k * 2,none⟩ = some (u64v x.val)∧w.cell? ⟨b,off + k * 2 + 1,none⟩ = some (.slice x.A x.sc.length x.cap)∧x ∈ t.outs∧t.outs[k]? = some x):=Lib.hid fun k hk => by
  obtain ⟨b,off,h1,-,h2,h3⟩:=out_at h.o hk
  exact ⟨b,off,_,h1,h2,h3,List.getElem_mem hk,List.getElem?_eq_getElem hk⟩
 obtain ⟨R,hR⟩ : ∃ R,saneT t = R:=⟨_,rfl⟩
 have HF : Hid (∀ (P : Prop),¬ P → (saneT t = true → P) → R = false):=Lib.hid fun P h1 h2 => by
  rw [← hR]
  cases h : saneT t with
  | false => rfl
  | true => exact absurd (h2 h) h1
 have HD : Hid (saneT t = true ↔ (1 ≤ t.ins.length∧t.ins.length ≤ 1000∧t.outs.length ≤ 1000∧(∀ x ∈ t.ins,x.sc.length ≤ 10000)∧∀ x ∈ t.outs,x.sc.length ≤ 10000)):=Lib.hid (by unfold saneT;rw [decide_eq_true_eq])
 have HRT : Hid (saneT t = true → R = true):=Lib.hid fun h => hR.symm.trans h
 rw [hR]
 obtain ⟨ver,iA,ins,ic,oA,outs,oc,lock⟩:=t
 simp only at *
 clear h hR
 obtain ⟨n,hn⟩ : ∃ n,ins.length = n:=⟨_,rfl⟩
 obtain ⟨m,hm⟩ : ∃ m,outs.length = m:=⟨_,rfl⟩
 rw [hn] at HI HD hi ⊢
 rw [hm] at HO HD ho ⊢
 have HNN:=Lib.hid hn;have HMM:=Lib.hid hm
 clear hn hm
 obtain ⟨zs,hz1,hz2,hz3,-⟩:=zin_letter
 have HK : Hid (Keep w w):=Lib.hid (Below.refl _ _)
 have bad : ∀ (P : Prop),¬ P → (saneT ⟨ver,iA,ins,ic,oA,outs,oc,lock⟩ = true → P) → R = false:=HF.out
 by_cases g1 : n < 1
 ·have hv:=bad (1 ≤ n) (by omega) fun q => (HD.out.1 q).1
  subst hv
  have d1 : (n : Int) < 1:=by omega
  clear HF HD HRT HI HO bad
  go_enter Try.func33,Try.ntmps33
  go_wp2
  exact bodyPost_ret (v:=.bool false) (by simp [results,Try.results33]) rfl ⟨rfl,(HK.out).alloc (Nat.le_refl _) _⟩
 have d1 : ¬ (n : Int) < 1:=by omega
 by_cases g2 : 1000 < n
 ·have hv:=bad (n ≤ 1000) (by omega) fun q => (HD.out.1 q).2.1
  subst hv
  have d2 : (1000 : Int) < n:=by omega
  clear HF HD HRT HI HO bad
  go_enter Try.func33,Try.ntmps33
  go_wp2
  exact bodyPost_ret (v:=.bool false) (by simp [results,Try.results33]) rfl ⟨rfl,(HK.out).alloc (Nat.le_refl _) _⟩
 have d2 : ¬ (1000 : Int) < n:=by omega
 by_cases g3 : 1000 < m
 ·have hv:=bad (m ≤ 1000) (by omega) fun q => (HD.out.1 q).2.2.1
  subst hv
  have d3 : (1000 : Int) < m:=by omega
  clear HF HD HRT HI HO bad
  go_enter Try.func33,Try.ntmps33
  go_wp2
  exact bodyPost_ret (v:=.bool false) (by simp [results,Try.results33]) rfl ⟨rfl,(HK.out).alloc (Nat.le_refl _) _⟩
 have d3 : ¬ (1000 : Int) < m:=by omega
 go_enter Try.func33,Try.ntmps33
 go_upto_region 1 with fail
 obtain ⟨w1,hw1⟩ : ∃ w1,w1 = w.alloc (.cells #[u32v ver,.slice iA n ic,.slice oA m oc,u32v lock] 47):=⟨_,rfl⟩
 have HT1 : Hid (Blk w1 w.heap.size 47 [u32v ver,.slice iA n ic,.slice oA m oc,u32v lock]):=by rw [hw1];exact Lib.hid (Blk.new w 47 [u32v ver,.slice iA n ic,.slice oA m oc,u32v lock])
 have HK1 : Hid (Keep w w1):=by rw [hw1];exact Lib.hid (keep_new _ _)
 rw [← hw1]
 clear hw1 HK
 generalize w.heap.size = gt at *
 have t1:=HT1.out.cell 1;have t2:=HT1.out.cell 2
 simp only [List.getElem?_cons_succ,List.getElem?_cons_zero] at t1 t2
 go_upto_region 4 with fail
 clear d1 d2 d3 t1 t2
 go_loopw [26] (fun x wr => ∃ k : Nat,k ≤ n∧x = .int .i64 k∧Hid (∀ y ∈ ins.take k,y.sc.length ≤ 10000)∧Hid (Keep w1 wr)) (fun x _ => n - (intOf x).toNat)
 case atStart => exact ⟨0,Nat.zero_le _,rfl,Lib.hid (by simp),Lib.hid (Below.refl _ _)⟩
 case round =>
  obtain ⟨k,hk,rfl,HS,HKr⟩:=hrel
  by_cases hlt : k < n
  ·obtain ⟨b,off,xs,x,rfl,hxs,hp,hrg,hmem,hget⟩:=HI.out k hlt
   have hxz:=hxs.z;have hxn:=hxs.n;have hxi:=hxs.i
   have RX : Hid (wr.rangeAt b (off + k * 35) xs.toList):=Lib.hid fun j v hv => keep_cell HKr.out (keep_cell HK1.out (hrg j v hv))
   have hst : (storeCells ⟨wr.heap.size,0,none⟩ xs.toList 0).run Try.prog (wr.alloc (.cells zs 100)) = .ok () (wr.alloc (.cells xs 100)):=run_storeCells_new (P:=Try.prog) wr 100 zs xs hxi (hz1.trans hxz.symm) (by have:=all_oneCell_toArray hxs.o;rwa [Array.toArray_toList] at this)
   have d4 : (k : Int) < n:=by omega
   have HXL:=Lib.hid (show xs.toList[33]? = some (.slice x.A x.sc.length x.cap) by rw [hxs.l];unfold InR.cells;rw [List.getElem?_append_right (by simp [hp])];simp [hp])
   have HME:=Lib.hid hmem;have HGE:=Lib.hid hget
   clear hxs hp hrg hmem hget HI
   go_upto_region 6 with ((with_reducible refine load_partg b (off + k * 35) xs (Eq.trans ?_ rfl) RX.out _ Try.underlying100 rfl hxi rfl ?_);rfl)
   obtain ⟨w2,hw2⟩ : ∃ w2,w2 = wr.alloc (.cells xs 100):=⟨_,rfl⟩
   have c33 : w2.cell? ⟨wr.heap.size,33,none⟩ = some (.slice x.A x.sc.length x.cap):=by rw [hw2];exact ((Blk.new wr 100 xs.toList).cell 33).trans HXL.out
   have HK2 : Hid (Keep w1 w2):=by rw [hw2];exact Lib.hid (keep_trans HKr.out (keep_new _ _))
   rw [← hw2]
   clear hw2 hst RX HKr HXL hxz hxn hxi
   generalize wr.heap.size = gb at *
   by_cases hs : 10000 < x.sc.length
   ·have hv:=bad (∀ y ∈ ins,y.sc.length ≤ 10000) (fun q => by have:=q x HME.out;omega) fun q => (HD.out.1 q).2.2.2.1
    subst hv
    have d5 : (10000 : Int) < x.sc.length:=by omega
    clear HF HD HRT HO bad
    go_wp2
    exact bodyPost_ret (v:=.bool false) (by simp [results,Try.results33]) rfl ⟨rfl,keep_trans HK1.out HK2.out⟩
   ·have d5 : ¬ (10000 : Int) < x.sc.length:=by omega
    have HS2 : Hid (∀ y ∈ ins.take (k + 1),y.sc.length ≤ 10000):=Lib.hid fun y hy => by
     rw [List.take_add_one,HGE.out] at hy
     rcases List.mem_append.1 hy with q | q
     ·exact HS.out y q
     ·simp at q;subst q;omega
    clear HS bad
    go_wp2
    go_roundw
    case rel => exact ⟨k + 1,by omega,by go_num,HS2,HK2⟩
    case measure => simp [intOf];omega
  ·obtain rfl : k = n:=by omega
   have d4 : ¬ (k : Int) < k:=by omega
   have HSA : Hid (∀ y ∈ ins,y.sc.length ≤ 10000):=Lib.hid (by have:=HS.out;rwa [List.take_of_length_le (by rw [HNN.out];omega)] at this)
   have t2:=(HT1.out.keep HKr.out).cell 2
   simp only [List.getElem?_cons_succ,List.getElem?_cons_zero] at t2
   have HKq:=Lib.hid (keep_trans HK1.out HKr.out)
   obtain ⟨wq,hwq⟩ : ∃ wq,wr = wq:=⟨_,rfl⟩
   rw [hwq] at HKq t2 ⊢
   clear hwq HKr HS HI HK1 HT1
   go_wp2_with fail
   clear d4 t2
   go_loopw [38] (fun x wr => ∃ j : Nat,j ≤ m∧x = .int .i64 j∧Hid (∀ y ∈ outs.take j,y.sc.length ≤ 10000)∧Hid (Keep w wr)) (fun x _ => m - (intOf x).toNat)
   case atStart => exact ⟨0,Nat.zero_le _,rfl,Lib.hid (by simp),HKq⟩
   case round =>
    obtain ⟨j,hj,rfl,HS,HKs⟩:=hrel
    by_cases hlt2 : j < m
    ·obtain ⟨b,off,x,rfl,c0,c1,hmem,hget⟩:=HO.out j hlt2
     have c0:=keep_cell HKs.out c0;have c1:=keep_cell HKs.out c1
     have d4 : (j : Int) < m:=by omega
     have HME:=Lib.hid hmem;have HGE:=Lib.hid hget
     clear hmem hget HO
     have HK2:=Lib.hid (keep_trans HKs.out (keep_new ‹World› (.cells #[u64v x.val,.slice x.A x.sc.length x.cap] 101)))
     by_cases hs : 10000 < x.sc.length
     ·have hv:=bad (∀ y ∈ outs,y.sc.length ≤ 10000) (fun q => by have:=q x HME.out;omega) fun q => (HD.out.1 q).2.2.2.2
      subst hv
      have d5 : (10000 : Int) < x.sc.length:=by omega
      clear HF HD HRT bad
      go_wp2
      exact bodyPost_ret (v:=.bool false) (by simp [results,Try.results33]) rfl ⟨rfl,HK2.out⟩
     ·have d5 : ¬ (10000 : Int) < x.sc.length:=by omega
      have HS2 : Hid (∀ y ∈ outs.take (j + 1),y.sc.length ≤ 10000):=Lib.hid fun y hy => by
       rw [List.take_add_one,HGE.out] at hy
       rcases List.mem_append.1 hy with q | q
       ·exact HS.out y q
       ·simp at q;subst q;omega
      clear HS bad
      go_wp2
      go_roundw
      case rel => exact ⟨j + 1,by omega,by go_num,HS2,HK2⟩
      case measure => simp [intOf];omega
    ·obtain rfl : j = m:=by omega
     have d4 : ¬ (j : Int) < j:=by omega
     have hv:=HRT.out (HD.out.2 ⟨by omega,by omega,by omega,HSA.out,by have:=HS.out;rwa [List.take_of_length_le (by rw [HMM.out];omega)] at this⟩)
     subst hv
     clear HF HD HRT bad HO
     go_wp2
     exact bodyPost_ret (v:=.bool true) (by simp [results,Try.results33]) rfl ⟨rfl,HKs.out⟩
end Go.Proofs.Ytbgpgdhndanigaa
/- tx.Put. (printed by gen_vl.py) -/
set_option linter.unusedSimpArgs false
set_option linter.unusedVariables false
namespace Go.Proofs.Ytbgpgdhndanigaa
open Go.RowKit
attribute [local go_sem ↓] Go.wp_at_zero Go.wp_at_succ
theorem run_store_new1 {P : Program} (w : World) (t : TypeId) (z v : Value) (hv : v.oneCell' = true) : (store ⟨w.heap.size,0,none⟩ v).run P (w.alloc (.cells #[z] t)) = .ok () (w.alloc (.cells #[v] t)):=by
 have hb : Blk (w.alloc (.cells #[z] t)) w.heap.size t [z]:=Blk.new w t [z]
 rw [run_store _ _ _ _ _ hv,hb.cell 0]
 simp [hb.frozen 0,World.setCell_alloc_new]
def scL (s : List UInt8) : List UInt8:=cptL s.length ++ s
def inL (x : InR) : List UInt8:=x.prev ++ (loN x.ix.toNat 4 ++ (scL x.sc ++ loN x.seq.toNat 4))
def outL (x : OutR) : List UInt8:=loN x.val 8 ++ scL x.sc
def txL (t : TxR) : List UInt8:=loN t.ver.toNat 4 ++ (cptL t.ins.length ++ (t.ins.flatMap inL ++ (cptL t.outs.length ++ (t.outs.flatMap outL ++ loN t.lock.toNat 4))))
theorem scL_len (s : List UInt8) : (scL s).length = sizN s.length + s.length:=by unfold scL;rw [List.length_append,cpt_len]
theorem fm_le {α : Type} (f : α → List UInt8) (m : Nat) : ∀ (l : List α),(∀ x ∈ l,(f x).length ≤ m) → (l.flatMap f).length ≤ l.length * m
 | [],_ => by simp
 | a :: l,h => by
   have h1:=h a List.mem_cons_self
   have h2:=fm_le f m l fun x hx => h x (List.mem_cons_of_mem _ hx)
   rw [List.flatMap_cons,List.length_append,List.length_cons,Nat.succ_mul];omega
theorem inL_le {x : InR} (hp : x.prev.length = 32) (hs : x.sc.length ≤ 10000) : (inL x).length ≤ 10100:=by
 have:=siz_le x.sc.length
 unfold inL;simp [scL_len,lo_len,hp];omega
theorem outL_le {x : OutR} (hs : x.sc.length ≤ 10000) : (outL x).length ≤ 10100:=by
 have:=siz_le x.sc.length
 unfold outL;simp [scL_len,lo_len];omega
theorem rd_lt {w : World} {A : Option Addr} {xs : List Value} (h : Rd w A xs) {b off : Nat} (e : A = some ⟨b,off,none⟩) (hx : xs ≠ []) : b < w.heap.size:=by
 rcases h with q | ⟨g,o,q,hc⟩
 ·exact absurd q hx
 ·rw [e] at q;cases q;exact cell_lt (hc 0 (List.length_pos_iff.2 hx))
structure Bst (B D : Nat) (w0 w : World) (v : Value) (l : List UInt8) : Prop where
 b : Blk w B 31 [v]
 o : w.ownsRow D 5 1 v l.length (l.map u8v)
 g : Gx B w0 (.slice none 0 0) w v
theorem Bst.kx {B D : Nat} {w0 w : World} {v : Value} {l : List UInt8} (h : Bst B D w0 w v l) : KeepX (fun k => k = B) w0 w :=
 ⟨h.g.k.1,h.g.k.2.1,h.g.k.2.2.1,h.g.k.2.2.2.1,fun k hk hn => h.g.k.2.2.2.2 k hk (by rintro (q | q);exact hn q;cases q)⟩
theorem Bst.size {B D : Nat} {w0 w : World} {v : Value} {l : List UInt8} (h : Bst B D w0 w v l) : w0.heap.size ≤ w.heap.size:=h.g.size
theorem Bst.cell {B D : Nat} {w0 w : World} {v : Value} {l : List UInt8} (h : Bst B D w0 w v l) {g o : Nat} {u : Value} (hc : w0.cell? ⟨g,o,none⟩ = some u) (hn : g ≠ B) : w.cell? ⟨g,o,none⟩ = some u:=by
 have hb:=h.kx.2.2.2.2 g (cell_lt hc) hn
 rw [← hc];unfold World.cell?;simp only [hb]
theorem Bst.keep {B D : Nat} {w0 w w' : World} {v : Value} {l : List UInt8} (h : Bst B D w0 w v l) (k : Keep w w') : Bst B D w0 w' v l:=⟨h.b.keep k,own_keep h.o k,h.g.keep k⟩
theorem Bst.of {B D : Nat} {w0 w w' : World} {v : Value} {l m : List UInt8} {n : Nat} {xs : List Value} (h : Bst B D w0 w v l) {e : Ending} (hx : Bxd B D v n xs w e w') (hn : n = (l ++ m).length) (he : xs = (l ++ m).map u8v) :
  e = .returned (.tuple #[])∧∃ v',Bst B D w0 w' v' (l ++ m)∧Gx B w v w' v':=by
 obtain ⟨h1,v',h2,h3,h4⟩:=hx
 exact ⟨h1,v',⟨h2,own_eq h3 hn he,h.g.trans h4⟩,h4⟩
theorem Bst.num {B D : Nat} {w0 w : World} {v : Value} {l : List UInt8} (h : Bst B D w0 w v l) (n m : Nat) (hBD : B < D) (hD : D ≤ w0.heap.size) (hl : l.length ≤ 1000000000) (hm : m ≤ 8) :
  Calls Try.prog 67 #[u64v n,iv m,.pointer (some ⟨B,0,none⟩)] w fun e w' => e = .returned (.tuple #[])∧∃ v',Bst B D w0 w' v' (l ++ loN n m)∧Gx B w v w' v' :=
 (tnum_any B D v _ _ n m w h.b h.o hBD (Nat.le_trans hD h.size) hl hm).mono fun e w' hx => h.of hx (by rw [List.length_append,lo_len]) (by rw [List.map_append])
theorem Bst.count {B D : Nat} {w0 w : World} {v : Value} {l : List UInt8} (h : Bst B D w0 w v l) (n : Nat) (hBD : B < D) (hD : D ≤ w0.heap.size) (hl : l.length ≤ 1000000000) (hn : n < 2 ^ 63) :
  Calls Try.prog 68 #[iv n,.pointer (some ⟨B,0,none⟩)] w fun e w' => e = .returned (.tuple #[])∧∃ v',Bst B D w0 w' v' (l ++ cptL n)∧Gx B w v w' v' :=
 (tcount_any B D v _ _ n w h.b h.o hBD (Nat.le_trans hD h.size) hl hn).mono fun e w' hx => h.of hx (by rw [List.length_append,cpt_len]) (by rw [List.map_append])
theorem Bst.script {B D F : Nat} {t : TypeId} {w0 w : World} {v : Value} {l : List UInt8} (h : Bst B D w0 w v l) (A : Option Addr) (s : List UInt8) (sc : Nat) (hF : Blk w0 F t [cntV B]) (hBD : B < D) (hFD : F < D) (hFB : F ≠ B) (hD : D ≤ w0.heap.size) (hl : l.length ≤ 1000000000) (hs : s.length ≤ 1000000)
  (hr : ∀ b off,A = some ⟨b,off,none⟩ → s ≠ [] → b < B) (hrd : Rd w0 A (s.map u8v)) :
  Calls Try.prog 69 #[.slice A s.length sc,.pointer (some ⟨F,0,none⟩),.pointer (some ⟨B,0,none⟩)] w fun e w' => e = .returned (.tuple #[])∧∃ v',Bst B D w0 w' v' (l ++ scL s)∧Gx B w v w' v':=by
 have hf : Blk w F t [cntV B]:=hF.kx h.kx hFB
 have hrx : RdX v.ownBlock w A (s.map u8v):=by
  rcases hrd with q | ⟨b,off,rfl,hc⟩
  ·exact .inl q
  ·by_cases hs0 : s = []
   ·exact .inl (by rw [hs0];rfl)
   have hb:=hr b off rfl hs0
   exact .inr ⟨b,off,rfl,fun e => by have:=(h.o.lt b e).1;omega,fun j hj => h.cell (hc j hj) (by omega)⟩
 exact (tscript_any B D F t v _ _ A s sc w h.b hf h.o hBD (Nat.le_trans hD h.size) hFB (fun e => by have:=(h.o.lt F e).1;omega) hl hs hrx (fun b off h1 h2 => by have:=hr b off h1 h2;omega)).mono fun e w' hx => h.of hx (by rw [List.length_append,scL_len];omega) (by rw [List.map_append (l₁:=l)];rfl)
set_option maxRecDepth 100000 in
set_option maxHeartbeats 8000000 in
theorem tput_any (t : TxR) (w : World) (h : t.at w) (hi : t.ins.length ≤ 1000000) (ho : t.outs.length ≤ 1000000) :
  Calls Try.prog 46 #[.agg #[u32v t.ver,.slice t.iA t.ins.length t.ic,.slice t.oA t.outs.length t.oc,u32v t.lock]] w fun e w' => ∃ v,e = .returned (.tuple #[v,iv (if saneT t = true then 0 else 3)])∧w'.ownsRow w.heap.size 5 1 v (if saneT t = true then txL t else []).length ((if saneT t = true then txL t else []).map u8v)∧Keep w w':=by
 have S1 : Hid (∀ y,Keep w y → Calls Try.prog 33 #[.agg #[u32v t.ver,.slice t.iA t.ins.length t.ic,.slice t.oA t.outs.length t.oc,u32v t.lock]] y fun e w' => e = .returned (.bool (saneT t))∧Keep y w'):=Lib.hid fun y hy => tsane_any t y (h.keep hy) hi ho
 have HSN : Hid (saneT t = true → t.ins.length ≤ 1000∧t.outs.length ≤ 1000∧(∀ x ∈ t.ins,x.sc.length ≤ 10000)∧∀ x ∈ t.outs,x.sc.length ≤ 10000):=Lib.hid fun q => by
  unfold saneT at q;rw [decide_eq_true_eq] at q;exact ⟨q.2.1,q.2.2.1,q.2.2.2.1,q.2.2.2.2⟩
 obtain ⟨R,hR⟩ : ∃ R,(if saneT t = true then txL t else []) = R:=⟨_,rfl⟩
 rw [hR]
 have HR:=Lib.hid hR
 have HP : Hid (∀ x ∈ t.ins,x.prev.length = 32):=Lib.hid fun x hx => (h.is x hx).p
 have HI : Hid (∀ k (h : k < t.ins.length),∃ (b off : Nat) (xs : Array Value) (x : InR),t.iA = some ⟨b,off,none⟩∧InA x xs∧x.at w∧w.rangeAt b (off + k * 35) xs.toList∧x ∈ t.ins∧t.ins.take (k + 1) = t.ins.take k ++ [x]):=Lib.hid fun k hk => by
  have hp:=(h.is _ (List.getElem_mem hk))
  obtain ⟨b,off,h1,-,h2⟩:=in_at h.i (fun x hx => (h.is x hx).p) hk
  have hA:=InA.of hp.p
  exact ⟨b,off,_,_,h1,hA,hp,by rw [hA.l];exact h2,List.getElem_mem hk,List.take_succ_eq_append_getElem hk⟩
 have HO : Hid (∀ k (h : k < t.outs.length),∃ (b off : Nat) (x : OutR),t.oA = some ⟨b,off,none⟩∧b < w.heap.size∧w.cell? ⟨b,off + k * 2,none⟩ = some (u64v x.val)∧w.cell? ⟨b,off + k * 2 + 1,none⟩ = some (.slice x.A x.sc.length x.cap)∧x.at w∧x ∈ t.outs∧t.outs.take (k + 1) = t.outs.take k ++ [x]):=Lib.hid fun k hk => by
  obtain ⟨b,off,h1,h0,h2,h3⟩:=out_at h.o hk
  exact ⟨b,off,_,h1,h0,h2,h3,h.os _ (List.getElem_mem hk),List.getElem_mem hk,List.take_succ_eq_append_getElem hk⟩
 clear h hR
 obtain ⟨S,hS⟩ : ∃ S,saneT t = S:=⟨_,rfl⟩
 rw [hS] at S1 HSN HR ⊢
 clear hS
 unfold txL at HR
 obtain ⟨ver,iA,ins,ic,oA,outs,oc,lock⟩:=t
 simp only at *
 obtain ⟨n,hn⟩ : ∃ n,ins.length = n:=⟨_,rfl⟩
 obtain ⟨m,hm⟩ : ∃ m,outs.length = m:=⟨_,rfl⟩
 rw [hn] at HI HR S1 HSN hi ⊢
 rw [hm] at HO HR S1 HSN ho ⊢
 have HNN:=Lib.hid hn;have HMM:=Lib.hid hm
 clear hn hm
 obtain ⟨zs,hz1,hz2,hz3,-⟩:=zin_letter
 go_enter Try.func46,Try.ntmps46
 go_upto_region 1 with fail
 obtain ⟨w1,hw1⟩ : ∃ w1,w1 = w.alloc (.cells #[u32v ver,.slice iA n ic,.slice oA m oc,u32v lock] 47):=⟨_,rfl⟩
 have HT1 : Hid (Blk w1 w.heap.size 47 [u32v ver,.slice iA n ic,.slice oA m oc,u32v lock]):=by rw [hw1];exact Lib.hid (Blk.new w 47 [u32v ver,.slice iA n ic,.slice oA m oc,u32v lock])
 have HK1 : Hid (Keep w w1):=by rw [hw1];exact Lib.hid (keep_new _ _)
 rw [← hw1]
 clear hw1
 obtain ⟨gt,hgt⟩ : ∃ g,w.heap.size = g:=⟨_,rfl⟩
 have HGT:=Lib.hid hgt
 rw [hgt] at HT1
 simp only [hgt]
 clear hgt
 have t0:=HT1.out.cell 0;have t1:=HT1.out.cell 1;have t2:=HT1.out.cell 2;have t3:=HT1.out.cell 3
 simp only [List.getElem?_cons_succ,List.getElem?_cons_zero] at t0 t1 t2 t3
 go_wp2_with fail
 refine (S1.out _ HK1.out).mono ?_
 clear S1
 rintro e w2 ⟨rfl,k2⟩
 have HT2:=Lib.hid (HT1.out.keep k2);have HK2:=Lib.hid (keep_trans HK1.out k2)
 clear k2 HT1 HK1 t0 t1 t2 t3
 cases S with
 | false =>
   have hv:=HR.out
   rw [if_neg (by simp)] at hv
   subst hv
   clear HR HI HO
   go_wp2
   exact bodyPost_ret (v:=.tuple #[.slice none 0 0,iv 3]) (by simp [results,Try.results46]) rfl ⟨_,by simp,World.ownsRow_nil _ _ _ _,HK2.out⟩
 | true =>
 have hv:=HR.out
 rw [if_pos rfl] at hv
 replace HR:=Lib.hid hv.symm
 clear hv
 obtain ⟨e1,e2,e3,e4⟩:=HSN.out rfl
 have E3:=Lib.hid e3;have E4:=Lib.hid e4
 clear e3 e4 HSN
 go_upto_region 4 with fail
 obtain ⟨w3,hw3⟩ : ∃ w3,w3 = w2.alloc (.cells #[.slice none 0 0] 31):=⟨_,rfl⟩
 have HB3 : Hid (Blk w3 w2.heap.size 31 [.slice none 0 0]):=by rw [hw3];exact Lib.hid (Blk.new w2 31 [.slice none 0 0])
 have HT3 : Hid (Blk w3 gt 47 [u32v ver,.slice iA n ic,.slice oA m oc,u32v lock]):=by rw [hw3];exact Lib.hid (HT2.out.alloc _)
 have HK3 : Hid (Keep w w3):=by rw [hw3];exact Lib.hid (keep_trans HK2.out (keep_new _ _))
 have hs3 : w2.heap.size < w3.heap.size:=by rw [hw3];simp
 have hltB:=HT2.out.lt
 rw [← hw3]
 clear hw3 HT2
 obtain ⟨B,hB⟩ : ∃ B,w2.heap.size = B:=⟨_,rfl⟩
 rw [hB] at HB3 hs3 hltB
 simp only [hB]
 have hwB : w.heap.size ≤ B:=by have:=HK2.out.size;omega
 clear hB HK2
 have hstF:=run_store_new1 (P:=Try.prog) w3 136 Value.nilFunc (cntV B) rfl
 unfold cntV at hstF
 go_upto_region 6 with fail
 obtain ⟨w4,hw4⟩ : ∃ w4,w4 = w3.alloc (.cells #[.func (.func 68) #[] #[.pointer (some ⟨B,0,none⟩)]] 136):=⟨_,rfl⟩
 have HF4 : Hid (Blk w4 w3.heap.size 136 [cntV B]):=by rw [hw4];exact Lib.hid (Blk.new w3 136 [cntV B])
 have HB4 : Hid (Blk w4 B 31 [.slice none 0 0]):=by rw [hw4];exact Lib.hid (HB3.out.alloc _)
 have HT4 : Hid (Blk w4 gt 47 [u32v ver,.slice iA n ic,.slice oA m oc,u32v lock]):=by rw [hw4];exact Lib.hid (HT3.out.alloc _)
 have HK4 : Hid (Keep w w4):=by rw [hw4];exact Lib.hid (keep_trans HK3.out (keep_new _ _))
 rw [← hw4]
 clear hw4 hstF HB3 HT3 HK3
 have hsF : w3.heap.size < w4.heap.size:=HF4.out.lt
 obtain ⟨F,hF⟩ : ∃ F,w3.heap.size = F:=⟨_,rfl⟩
 rw [hF] at HF4 hs3 hsF
 simp only [hF]
 clear hF
 have St0 : Hid (Bst B (F + 1) w4 w4 (.slice none 0 0) []):=Lib.hid ⟨HB4.out,World.ownsRow_nil _ _ _ _,Gx.refl _ _ _⟩
 clear HB4
 have hBD : B < F + 1:=by omega
 have hgB : gt ≠ B:=by omega
 have hFB : F ≠ B:=by omega
 have hwv : IntKind.u64.wrap (ver.toNat : Int) = ver.toNat:=by rw [IntKind.wrap_u64];have:=ver.toNat_lt;omega
 have hwl : IntKind.u64.wrap (lock.toNat : Int) = lock.toNat:=by rw [IntKind.wrap_u64];have:=lock.toNat_lt;omega
 have t0:=HT4.out.cell 0
 try simp only [List.getElem?_cons_succ,List.getElem?_cons_zero] at t0
 go_upto_region 8 with (go_at_call 67;refine (St0.out.num ver.toNat 4 hBD hsF (by simp) (by omega)).mono ?_;rintro e w5 ⟨rfl,v5,st5,-⟩)
 have St5:=Lib.hid st5
 have t1:=st5.cell (HT4.out.cell 1) hgB;have cf:=st5.cell (HF4.out.cell 0) hFB
 try simp only [List.getElem?_cons_succ,List.getElem?_cons_zero] at t1
 unfold cntV at cf
 try simp only [List.getElem?_cons_zero] at cf
 clear st5 St0 hwv t0
 have h13 : (([] : List UInt8) ++ loN ver.toNat 4).length ≤ 1000000000:=by simp [lo_len]
 go_upto_region 9 with (go_at_call 68;refine (St5.out.count n hBD hsF h13 (by omega)).mono ?_;rintro e w6 ⟨rfl,v6,st6,-⟩)
 obtain ⟨L1,hL1⟩ : ∃ l,([] : List UInt8) ++ loN ver.toNat 4 ++ cptL n = l:=⟨_,rfl⟩
 rw [hL1] at st6
 have hll1 : L1.length ≤ 13:=by rw [← hL1];have:=siz_le n;simp [lo_len,cpt_len];omega
 have HL1:=Lib.hid hL1
 have t1:=st6.cell (HT4.out.cell 1) hgB
 try simp only [List.getElem?_cons_succ,List.getElem?_cons_zero] at t1
 have St6 : Hid (Bst B (F + 1) w4 w6 v6 (L1 ++ (ins.take 0).flatMap inL)):=Lib.hid (by simpa using st6)
 have HLB : Hid (∀ k,((ins.take k).flatMap inL).length ≤ 10100000):=Lib.hid fun k => by
  have:=fm_le inL 10100 (ins.take k) fun x hx => inL_le (HP.out x (List.mem_of_mem_take hx)) (E3.out x (List.mem_of_mem_take hx))
  have h2 : (ins.take k).length ≤ 1000:=by rw [List.length_take,HNN.out];omega
  have h3 : (ins.take k).length * 10100 ≤ 1000 * 10100:=Nat.mul_le_mul_right _ h2
  omega
 clear hL1 st6 St5 h13 cf
 go_upto_region 10 with fail
 clear t1
 go_loopw [31] (fun x wr => ∃ (k : Nat) (v : Value),k ≤ n∧x = .int .i64 k∧Hid (Bst B (F + 1) w4 wr v (L1 ++ (ins.take k).flatMap inL))) (fun x _ => n - (intOf x).toNat)
 case atStart => exact ⟨0,v6,Nat.zero_le _,rfl,St6⟩
 case round =>
  obtain ⟨k,v,hk,rfl,St⟩:=hrel
  by_cases hlt : k < n
  ·obtain ⟨b,off,xs,x,rfl,hxs,hx,hrg,hmem,htk⟩:=HI.out k hlt
   have hxz:=hxs.z;have hxn:=hxs.n;have hxi:=hxs.i
   have HX:=Lib.hid hx;have HXS:=Lib.hid hxs;have HTK:=Lib.hid htk;have HME:=Lib.hid hmem
   have hbw : b < B:=by have:=cell_lt (hrg 0 (xs.toList[0]'(by rw [Array.length_toList,hxz];omega)) (List.getElem?_eq_getElem (by rw [Array.length_toList,hxz];omega)));omega
   have RX : Hid (wr.rangeAt b (off + k * 35) xs.toList):=Lib.hid fun j v hv => St.out.cell (keep_cell HK4.out (hrg j v hv)) (by omega)
   have hst : (storeCells ⟨wr.heap.size,0,none⟩ xs.toList 0).run Try.prog (wr.alloc (.cells zs 100)) = .ok () (wr.alloc (.cells xs 100)):=run_storeCells_new (P:=Try.prog) wr 100 zs xs hxi (hz1.trans hxz.symm) (by have:=all_oneCell_toArray hxs.o;rwa [Array.toArray_toList] at this)
   have d4 : (k : Int) < n:=by omega
   have hlk:=HLB.out k
   have HLK : Hid ((L1 ++ (ins.take k).flatMap inL).length ≤ 10100013):=Lib.hid (by rw [List.length_append];omega)
   clear hx hxs htk hmem hrg HI HO hlk HLB
   obtain ⟨L2,hL2⟩ : ∃ l,L1 ++ (ins.take k).flatMap inL = l:=⟨_,rfl⟩
   rw [hL2] at St HLK
   have HL2:=Lib.hid hL2
   clear hL2
   go_upto_region 12 with ((with_reducible refine load_partg b (off + k * 35) xs (Eq.trans ?_ rfl) RX.out _ Try.underlying100 rfl hxi rfl ?_);rfl)
   obtain ⟨w7,hw7⟩ : ∃ w7,w7 = wr.alloc (.cells xs 100):=⟨_,rfl⟩
   have HG7 : Hid (Blk w7 wr.heap.size 100 xs.toList):=by rw [hw7];exact Lib.hid (Blk.new wr 100 xs.toList)
   have St7 : Hid (Bst B (F + 1) w4 w7 v L2):=by rw [hw7];exact Lib.hid (St.out.keep (keep_new _ _))
   have hvg : v.ownBlock ≠ some wr.heap.size:=own_ne St.out.o (Nat.le_refl _)
   have hgB2 : wr.heap.size ≠ B:=by have:=St.out.size;omega
   rw [← hw7]
   clear hw7 hst RX St hxz hxn hxi
   generalize wr.heap.size = gi at *
   obtain ⟨Av,cv,rfl,-,-,-⟩:=own_form St7.out.o
   letI iM : G.Mk:=⟨(Value.slice Av L2.length cv).ownBlock⟩
   refine G.wp_region_tree (.take [0,1,2] (.force [3] .done)) [4] (by kernel_rfl) (by kernel_rfl) (fun w8 k8 => ?_)
   have St8:=Lib.hid (St7.out.keep k8);have HG8:=Lib.hid (HG7.out.keep k8)
   clear k8 St7 HG7
   have hneB : G.Mk.m ≠ some B:=fun q => by have:=(St8.out.o.lt B q).1;omega
   have b1:=G.aftG_cell (St8.out.b.cell 0) hneB
   have HRP : Hid (Rd w8 (some ⟨gi,0,none⟩) (x.prev.map u8v)):=Lib.hid (by
    have q:=HG8.out.rd.take 32
    rw [HXS.out.l] at q
    unfold InR.cells at q
    rwa [List.take_append_of_le_length (by simp [HX.out.p]),List.take_of_length_le (by simp [HX.out.p])] at q)
   refine G.mt_take w8 (G.Gr.refl _) ?_
   simp only [pick_cons,pick_nil,nth_zero,nth_succ]
   repeat (go_big_quiet_step (fail))
   refine wpQuiet_nil (G.mt_force ?_)
   clear b1 hneB
   simp only [pick_cons,pick_nil,nth_zero,nth_succ]
   refine G.fc_step rfl (fun K hK => ?_)
   refine wp_app byteT _ _ (by rfl) (F + 1) _ L2.length _ (by rfl) St8.out.o _ 32 32 (x.prev.map u8v) (by rfl) (by rw [List.length_map,HX.out.p]) HRP.out (one_bytes _) (by have:=HLK.out;omega) (by have:=HLK.out;unfold maxLen;omega) (by have:=St8.out.size;omega) ?_
   intro v' w10 own10 hg10 hat10
   refine hK _ _ hg10 ?_
   clear hK K HRP
   simp only [Act.put,Array.set!_eq_setIfInBounds,List.setIfInBounds_toArray,List.set_cons_succ,List.set_cons_zero]
   have HB10:=Lib.hid (St8.out.b.grown hg10 (fun q => by have:=(St8.out.o.lt B q).1;omega))
   have hgr : Gr w8 (.slice Av L2.length cv) w10 v':=⟨hg10,hat10.imp id fun e => ⟨_,e,Nat.le_refl _⟩⟩
   have Gx10:=Lib.hid (St8.out.g.trans (Gx.of_gr hgr))
   obtain ⟨hg1,hvg2⟩:=HG8.out.gr hgr hvg
   have HG10:=Lib.hid hg1;have HVG:=Lib.hid hvg2
   have Own10:=Lib.hid own10
   clear own10 hg10 hat10 St8 HG8 hgr hg1 hvg2 hvg
   refine G.fc_nil (G.mt_end ?_)
   clear iM
   have f1 : w10.frozen? ⟨B,0,none⟩ = false:=HB10.out.frozen 0
   have c1 : w10.cell? ⟨B,0,none⟩ = some (.slice Av L2.length cv):=HB10.out.cell 0
   obtain ⟨Aw,cw,rfl,-,-,-⟩:=own_form Own10.out
   go_upto_region 13 with fail
   clear f1 c1
   obtain ⟨w11,hw11⟩ : ∃ w11,w11 = w10.setCell ⟨B,0,none⟩ (.slice Aw (L2.length + 32) cw):=⟨_,rfl⟩
   have St11 : Hid (Bst B (F + 1) w4 w11 (.slice Aw (L2.length + 32) cw) (L2 ++ x.prev)):=by
    rw [hw11]
    exact Lib.hid ⟨HB10.out.set_ 0 _,own_eq (ownsRow_setCell_below Own10.out (a:=⟨B,0,none⟩) hBD _) (by rw [List.length_append,HX.out.p]) (by rw [List.map_append]),Gx10.out.set 0 _⟩
   have HG11 : Hid (Blk w11 gi 100 xs.toList):=by rw [hw11];exact Lib.hid (HG10.out.far hgB2 _)
   rw [← hw11]
   clear hw11 HB10 Own10 Gx10 HG10
   have X32 : Hid (xs.toList[32]? = some (u32v x.ix)∧xs.toList[33]? = some (.slice x.A x.sc.length x.cap)∧xs.toList[34]? = some (u32v x.seq)):=Lib.hid (by
    rw [HXS.out.l];unfold InR.cells
    have hp:=HX.out.p
    refine ⟨?_,?_,?_⟩ <;> (rw [List.getElem?_append_right (by simp [hp])];simp [hp]))
   have hwi : IntKind.u64.wrap (x.ix.toNat : Int) = x.ix.toNat:=by rw [IntKind.wrap_u64];have:=x.ix.toNat_lt;omega
   have hws : IntKind.u64.wrap (x.seq.toNat : Int) = x.seq.toNat:=by rw [IntKind.wrap_u64];have:=x.seq.toNat_lt;omega
   have g32:=(HG11.out.cell 32).trans X32.out.1
   go_upto_region 14 with (go_at_call 67;refine (St11.out.num x.ix.toNat 4 hBD hsF (by have:=HLK.out;rw [List.length_append,HX.out.p];omega) (by omega)).mono ?_;rintro e w12 ⟨rfl,v12,st12,gx12⟩)
   have St12:=Lib.hid st12
   obtain ⟨hg1,hvg2⟩:=HG11.out.gx gx12 hgB2 HVG.out
   have HG12:=Lib.hid hg1;have HVG12:=Lib.hid hvg2
   clear st12 gx12 hg1 hvg2 g32 hwi St11 HG11 HVG
   have g33:=(HG12.out.cell 33).trans X32.out.2.1
   go_upto_region 15 with (go_at_call 69;refine (St12.out.script x.A x.sc x.cap HF4.out hBD (Nat.lt_succ_self F) hFB hsF (by have:=HLK.out;rw [List.length_append,List.length_append,HX.out.p,lo_len];omega) (by have:=E3.out x HME.out;omega) (fun b off h1 h2 => by have:=rd_lt HX.out.r h1 (fun q => h2 (by simpa using q));omega) (HX.out.r.keep HK4.out)).mono ?_;rintro e w13 ⟨rfl,v13,st13,gx13⟩)
   have St13:=Lib.hid st13
   obtain ⟨hg1,hvg2⟩:=HG12.out.gx gx13 hgB2 HVG12.out
   have HG13:=Lib.hid hg1
   clear st13 gx13 hg1 hvg2 g33 St12 HG12 HVG12
   have g34:=(HG13.out.cell 34).trans X32.out.2.2
   go_upto_region 16 with (go_at_call 67;refine (St13.out.num x.seq.toNat 4 hBD hsF (by have:=HLK.out;have:=E3.out x HME.out;have:=siz_le x.sc.length;rw [List.length_append,List.length_append,List.length_append,HX.out.p,lo_len,scL_len];omega) (by omega)).mono ?_;rintro e w14 ⟨rfl,v14,st14,-⟩)
   have St14 : Hid (Bst B (F + 1) w4 w14 v14 (L1 ++ (ins.take (k + 1)).flatMap inL)):=Lib.hid (by
    have e : L1 ++ (ins.take (k + 1)).flatMap inL = L2 ++ x.prev ++ loN x.ix.toNat 4 ++ scL x.sc ++ loN x.seq.toNat 4:=by
     rw [HTK.out,List.flatMap_append,← List.append_assoc,HL2.out];simp [inL]
    rw [e];exact st14)
   clear st14 g34 St13 HG13 X32 hws
   go_wp2
   go_roundw
   case rel => exact ⟨k + 1,v14,by omega,by go_num,St14⟩
   case measure => simp [intOf];omega
  ·obtain rfl : k = n:=by omega
   have d4 : ¬ (k : Int) < k:=by omega
   have hlk:=HLB.out k
   have hLN : (L1 ++ (ins.take k).flatMap inL).length ≤ 10100013:=by rw [List.length_append];omega
   obtain ⟨L2,hL2⟩ : ∃ l,L1 ++ (ins.take k).flatMap inL = l:=⟨_,rfl⟩
   rw [hL2] at St hLN
   rw [List.take_of_length_le (by rw [HNN.out];omega)] at hL2
   have HL2:=Lib.hid hL2
   have HOB : Hid (∀ j,((outs.take j).flatMap outL).length ≤ 10100000):=Lib.hid fun j => by
    have:=fm_le outL 10100 (outs.take j) fun x hx => outL_le (E4.out x (List.mem_of_mem_take hx))
    have h2 : (outs.take j).length ≤ 1000:=by rw [List.length_take,HMM.out];omega
    have h3 : (outs.take j).length * 10100 ≤ 1000 * 10100:=Nat.mul_le_mul_right _ h2
    omega
   have t2:=St.out.cell (HT4.out.cell 2) hgB;have cf:=St.out.cell (HF4.out.cell 0) hFB
   try simp only [List.getElem?_cons_succ,List.getElem?_cons_zero] at t2
   unfold cntV at cf
   try simp only [List.getElem?_cons_zero] at cf
   clear hL2 hlk HLB HI HP
   go_upto_region 18 with (go_at_call 68;refine (St.out.count m hBD hsF (by omega) (by omega)).mono ?_;rintro e w15 ⟨rfl,v15,st15,-⟩)
   obtain ⟨L3,hL3⟩ : ∃ l,L2 ++ cptL m = l:=⟨_,rfl⟩
   rw [hL3] at st15
   have hll3 : L3.length ≤ 10100030:=by rw [← hL3];have:=siz_le m;rw [List.length_append,cpt_len];omega
   have HL3:=Lib.hid hL3
   have t2:=st15.cell (HT4.out.cell 2) hgB
   try simp only [List.getElem?_cons_succ,List.getElem?_cons_zero] at t2
   have St15 : Hid (Bst B (F + 1) w4 w15 v15 (L3 ++ (outs.take 0).flatMap outL)):=Lib.hid (by simpa using st15)
   clear hL3 st15 St cf d4 hLN
   go_upto_region 19 with fail
   clear t2
   go_loopw [62] (fun x wr => ∃ (j : Nat) (v : Value),j ≤ m∧x = .int .i64 j∧Hid (Bst B (F + 1) w4 wr v (L3 ++ (outs.take j).flatMap outL))) (fun x _ => m - (intOf x).toNat)
   case atStart => exact ⟨0,v15,Nat.zero_le _,rfl,St15⟩
   case round =>
    obtain ⟨j,v,hj,rfl,St⟩:=hrel
    by_cases hlt2 : j < m
    ·obtain ⟨b,off,x,rfl,hbw,c0,c1,hx,hmem,htk⟩:=HO.out j hlt2
     have HX:=Lib.hid hx;have HTK:=Lib.hid htk;have HME:=Lib.hid hmem
     have c0:=St.out.cell (keep_cell HK4.out c0) (by omega);have c1:=St.out.cell (keep_cell HK4.out c1) (by omega)
     have d4 : (j : Int) < m:=by omega
     have hlk:=HOB.out j
     have HLK : Hid ((L3 ++ (outs.take j).flatMap outL).length ≤ 20200030):=Lib.hid (by rw [List.length_append];omega)
     clear hx htk hmem HO hlk HOB
     obtain ⟨L4,hL4⟩ : ∃ l,L3 ++ (outs.take j).flatMap outL = l:=⟨_,rfl⟩
     rw [hL4] at St HLK
     have HL4:=Lib.hid hL4
     clear hL4
     go_upto_region 21 with fail
     obtain ⟨w7,hw7⟩ : ∃ w7,w7 = wr.alloc (.cells #[u64v x.val,.slice x.A x.sc.length x.cap] 101):=⟨_,rfl⟩
     have HG7 : Hid (Blk w7 wr.heap.size 101 [u64v x.val,.slice x.A x.sc.length x.cap]):=by rw [hw7];exact Lib.hid (Blk.new wr 101 [u64v x.val,.slice x.A x.sc.length x.cap])
     have St7 : Hid (Bst B (F + 1) w4 w7 v L4):=by rw [hw7];exact Lib.hid (St.out.keep (keep_new _ _))
     have hvg : v.ownBlock ≠ some wr.heap.size:=own_ne St.out.o (Nat.le_refl _)
     have hgB2 : wr.heap.size ≠ B:=by have:=St.out.size;omega
     rw [← hw7]
     clear hw7 St c0 c1
     generalize wr.heap.size = gi at *
     have g0:=HG7.out.cell 0
     try simp only [List.getElem?_cons_succ,List.getElem?_cons_zero] at g0
     go_upto_region 22 with (go_at_call 67;refine (St7.out.num x.val 8 hBD hsF (by have:=HLK.out;omega) (by omega)).mono ?_;rintro e w12 ⟨rfl,v12,st12,gx12⟩)
     have St12:=Lib.hid st12
     obtain ⟨hg1,hvg2⟩:=HG7.out.gx gx12 hgB2 hvg
     have g1:=hg1.cell 1
     try simp only [List.getElem?_cons_succ,List.getElem?_cons_zero] at g1
     clear st12 gx12 hg1 hvg2 g0 St7 HG7 hvg
     go_upto_region 23 with (go_at_call 69;refine (St12.out.script x.A x.sc x.cap HF4.out hBD (Nat.lt_succ_self F) hFB hsF (by have:=HLK.out;rw [List.length_append,lo_len];omega) (by have:=E4.out x HME.out;omega) (fun b off h1 h2 => by have:=rd_lt HX.out.r h1 (fun q => h2 (by simpa using q));omega) (HX.out.r.keep HK4.out)).mono ?_;rintro e w13 ⟨rfl,v13,st13,-⟩)
     have St14 : Hid (Bst B (F + 1) w4 w13 v13 (L3 ++ (outs.take (j + 1)).flatMap outL)):=Lib.hid (by
      have e : L3 ++ (outs.take (j + 1)).flatMap outL = L4 ++ loN x.val 8 ++ scL x.sc:=by
       rw [HTK.out,List.flatMap_append,← List.append_assoc,HL4.out];simp [outL]
      rw [e];exact st13)
     clear st13 g1 St12
     go_wp2
     go_roundw
     case rel => exact ⟨j + 1,v13,by omega,by go_num,St14⟩
     case measure => simp [intOf];omega
    ·obtain rfl : j = m:=by omega
     have d4 : ¬ (j : Int) < j:=by omega
     have hlk:=HOB.out j
     rw [List.take_of_length_le (by rw [HMM.out];omega)] at St hlk
     have hLN : (L3 ++ outs.flatMap outL).length ≤ 20200030:=by rw [List.length_append];omega
     obtain ⟨L5,hL5⟩ : ∃ l,L3 ++ outs.flatMap outL = l:=⟨_,rfl⟩
     rw [hL5] at St hLN
     have HL5:=Lib.hid hL5
     have t3:=St.out.cell (HT4.out.cell 3) hgB
     try simp only [List.getElem?_cons_succ,List.getElem?_cons_zero] at t3
     clear hL5 hlk HOB HO
     go_upto_region 25 with (go_at_call 67;refine (St.out.num lock.toNat 4 hBD hsF (by omega) (by omega)).mono ?_;rintro e w16 ⟨rfl,v16,st16,-⟩)
     have St16:=Lib.hid st16
     have b0:=st16.b.cell 0
     try simp only [List.getElem?_cons_zero] at b0
     clear st16 St t3
     have HV : Hid (R = L5 ++ loN lock.toNat 4):=Lib.hid (by rw [HR.out,← HL5.out,← HL3.out,← HL2.out,← HL1.out];simp)
     have hv:=HV.out
     subst hv
     obtain ⟨Az,cz,hvz,-,-,-⟩:=own_form St16.out.o
     have HVZ:=Lib.hid hvz
     clear hvz
     go_wp2
     exact bodyPost_ret (v:=.tuple #[v16,iv 0]) (by simp [results,Try.results46]) rfl ⟨_,by simp,own_base (own_eq St16.out.o (by first | rfl | simp) (by first | rfl | simp)) (by omega),St16.out.kx.keep HK4.out (fun j q => by omega)⟩
end Go.Proofs.Ytbgpgdhndanigaa
/- Bytes that are read: tx.source. (printed by gen_vm.py) -/
set_option linter.unusedSimpArgs false
set_option linter.unusedVariables false
namespace Go.Proofs.Ytbgpgdhndanigaa
open Go.RowKit
attribute [local go_sem ↓] Go.wp_at_zero Go.wp_at_succ
abbrev SP:=Nat × Int
def tkP (b : List UInt8) (m : Nat) (p : SP) : SP:=if p.2 = 0 then if p.1 + m ≤ b.length then (p.1 + m,0) else (p.1,1) else p
def tkB (b : List UInt8) (m : Nat) (p : SP) : List UInt8:=if p.2 = 0∧p.1 + m ≤ b.length then (b.drop p.1).take m else []
def nmV (b : List UInt8) (m : Nat) (p : SP) : Nat:=numN (tkB b m p) (tkB b m p).length
def ctP (b : List UInt8) (most : Nat) (p : SP) : SP:=if p.2 = 0 then (p.1 + (bndN (b.drop p.1) most).2.1,(bndN (b.drop p.1) most).2.2) else p
def ctV (b : List UInt8) (most : Nat) (p : SP) : Nat:=if p.2 = 0 then (bndN (b.drop p.1) most).1 else 0
def scP (b : List UInt8) (p : SP) : SP:=if p.2 = 0 then (p.1 + (bytN (b.drop p.1) 10000).2.1,(bytN (b.drop p.1) 10000).2.2) else p
def scV (b : List UInt8) (p : SP) : List UInt8:=if p.2 = 0 then (bytN (b.drop p.1) 10000).1 else []
theorem tkP_le {b : List UInt8} {m : Nat} {p : SP} (h : p.1 ≤ b.length) : (tkP b m p).1 ≤ b.length:=by
 unfold tkP;split
 ·split
  ·assumption
  ·exact h
 ·exact h
theorem bnd_le (b : List UInt8) (most : Nat) : (bndN b most).2.1 ≤ b.length∧(bndN b most).1 ≤ most:=by
 by_cases h : (bndN b most).2.2 = 0
 ·obtain ⟨h1,-,h2,-⟩:=bnd_rng b most h
  exact ⟨h2,h1⟩
 ·unfold bndN at h ⊢
  split
  ·rename_i h0
   rw [if_pos h0] at h
   split
   ·simp
   ·rename_i h1;rw [if_neg h1] at h;exact absurd h0 h
  ·simp
theorem ctP_le {b : List UInt8} {m : Nat} {p : SP} (h : p.1 ≤ b.length) : (ctP b m p).1 ≤ b.length:=by
 unfold ctP;split
 ·have:=(bnd_le (b.drop p.1) m).1
  rw [List.length_drop] at this
  show p.1 + _ ≤ _
  omega
 ·exact h
theorem byt_le (b : List UInt8) (most : Nat) : (bytN b most).2.1 ≤ b.length∧(bytN b most).1.length ≤ most:=by
 unfold bytN
 split
 ·rename_i h
  obtain ⟨h1,-,h2,-⟩:=bnd_rng b most h
  split
  ·simp
  ·rename_i h3
   refine ⟨?_,?_⟩
   ·show _ + _ ≤ _;omega
   ·show (List.take _ _).length ≤ _;rw [List.length_take];omega
 ·simp
theorem scP_le {b : List UInt8} {p : SP} (h : p.1 ≤ b.length) : (scP b p).1 ≤ b.length:=by
 unfold scP;split
 ·have:=(byt_le (b.drop p.1) 10000).1
  rw [List.length_drop] at this
  show p.1 + _ ≤ _
  omega
 ·exact h
theorem scV_le (b : List UInt8) (p : SP) : (scV b p).length ≤ 10000:=by
 unfold scV;split
 ·exact (byt_le _ _).2
 ·simp
theorem tkB_len (b : List UInt8) (m : Nat) (p : SP) : (tkB b m p).length = m ∨ tkB b m p = []:=by
 unfold tkB;split
 ·left;rename_i h;rw [List.length_take,List.length_drop];omega
 ·exact .inr rfl
theorem ctV_le (b : List UInt8) (m : Nat) (p : SP) : ctV b m p ≤ m:=by
 unfold ctV;split
 ·exact (bnd_le _ _).2
 ·omega
abbrev KeepB (S : Nat) (w w' : World) : Prop:=KeepX (fun k => k = S) w w'
theorem KeepB.set {S : Nat} {w w' : World} (h : KeepB S w w') (o : Nat) (x : Value) : KeepB S w (w'.setCell ⟨S,o,none⟩ x) :=
 h.grown (row:=some S) ⟨rfl,rfl,rfl,by simp,fun k hk hne => Below.heap_setCell w' ⟨S,o,none⟩ x k (fun e => hne (by rw [e]))⟩ fun j hj q => (Option.some.inj q).symm
abbrev srcL (A : Option Addr) (L c : Nat) (p : SP) : List Value:=[.slice A L c,iv p.1,iv p.2]
def Tkd (S : Nat) (t : TypeId) (src : List Value) (T : List UInt8) (w : World) (e : Ending) (w' : World) : Prop:=∃ A' c',e = .returned (.slice A' T.length c')∧RdX (some S) w' A' (T.map u8v)∧Blk w' S t src∧KeepB S w w'
theorem RdX.kb {S : Nat} {w w' : World} {A : Option Addr} {xs : List Value} (h : RdX (some S) w A xs) (k : KeepB S w w') : RdX (some S) w' A xs :=
 h.imp id fun ⟨g,off,h1,h2,h3⟩ => ⟨g,off,h1,h2,fun j hj => by
  have hb:=k.2.2.2.2 g (cell_lt (h3 j hj)) (fun e => h2 (by rw [e]))
  rw [← h3 j hj];unfold World.cell?;simp only [hb]⟩
theorem RdX.cut {S : Nat} {w : World} {g off : Nat} {b : List UInt8} (h : RdX (some S) w (some ⟨g,off,none⟩) (b.map u8v)) (a m : Nat) (ha : a ≤ b.length) : RdX (some S) w (some ⟨g,off + a,none⟩) (((b.drop a).take m).map u8v):=by
 rcases h with h | ⟨g',off',h1,h2,h3⟩
 ·have : b = []:=by simpa using h
  exact .inl (by rw [this];simp)
 ·cases h1
  have q:=((show Rd w (some ⟨g,off,none⟩) (b.map u8v) from .inr ⟨g,off,rfl,h3⟩).dropN (k:=a) (by rw [List.length_map];exact ha)).take m
  rw [Option.map_some,add_lit0,← List.map_drop,← List.map_take] at q
  rcases q with q | ⟨g2,o2,q1,q2⟩
  ·exact .inl q
  ·cases q1;exact .inr ⟨g,off + a,rfl,h2,q2⟩
set_option maxRecDepth 100000 in
set_option maxHeartbeats 4000000 in
theorem stake_any (S : Nat) (t : TypeId) (A : Option Addr) (b : List UInt8) (c m : Nat) (p : SP) (w : World) (hb : Blk w S t (srcL A b.length c p)) (hp : p.1 ≤ b.length) (hc : b.length ≤ c) (hl : b.length ≤ 1000000000) (hcm : c ≤ maxLen) (hm : m ≤ 1000) (hm0 : 0 < m) (hr : RdX (some S) w A (b.map u8v)) :
  Calls Try.prog 76 #[.pointer (some ⟨S,0,none⟩),iv m] w (Tkd S t (srcL A b.length c (tkP b m p)) (tkB b m p) w):=by
 obtain ⟨a,e0⟩:=p
 have HB:=Lib.hid hb;have HR:=Lib.hid hr
 obtain ⟨L,hL⟩ : ∃ L,b.length = L:=⟨_,rfl⟩
 have HT : Hid (tkP b m (a,e0) = if e0 = 0 then if a + m ≤ L then (a + m,0) else (a,1) else (a,e0)):=Lib.hid (by rw [← hL];rfl)
 have HTB : Hid (tkB b m (a,e0) = if e0 = 0∧a + m ≤ L then (b.drop a).take m else []):=Lib.hid (by rw [← hL];rfl)
 have HLL:=Lib.hid hL
 unfold srcL at *
 rw [hL] at HB hc hl hp ⊢
 simp only at HB hp
 generalize tkP b m (a,e0) = P at *
 generalize tkB b m (a,e0) = T at *
 clear hb hr hL
 unfold maxLen at hcm
 have hw1 : IntKind.i64.wrap ((L : Int) - a) = (L : Int) - a:=IntWalk.i64_in _ (by omega)
 have KB : Hid (KeepB S w w):=Lib.hid (KeepX.of (Below.refl _ _))
 go_enter Try.func76,Try.ntmps76
 by_cases h0 : e0 = 0
 case neg =>
  have d1 : (e0 == 0) = false:=by rw [beq_eq_false_iff_ne];exact h0
  have d2 : (e0 != 0) = true:=by rw [bne_iff_ne];exact h0
  have hv:=HT.out;have hv2:=HTB.out
  rw [if_neg h0] at hv
  rw [if_neg (fun q => h0 q.1)] at hv2
  subst hv;subst hv2
  clear HT HTB
  go_upto_region 1 with fail
  refine wp_region_tree (.take [0,1,2,3,4,5,6,7,8,9,10,11,12,13,14,15,16,17,18] .done) [] (by kernel_rfl) (by kernel_rfl) (fun w3 k3 => ?_)
  have HB3:=Lib.hid (HB.out.keep k3);have KB3 : Hid (KeepB S w w3):=Lib.hid (KB.out.trans (KeepX.of k3) (fun _ _ q => q))
  clear k3 HB KB
  have a0:=aft_cell (HB3.out.cell 0);have a1:=aft_cell (HB3.out.cell 1);have a2:=aft_cell (HB3.out.cell 2)
  try simp only [List.getElem?_cons_succ,List.getElem?_cons_zero] at  a0 a1 a2
  refine mt_take w3 (Below.refl _ _) ?_
  simp only [pick_cons,pick_nil,nth_zero,nth_succ]
  repeat (go_big_quiet_step (fail))
  refine wpQuiet_nil (mt_end ?_)
  clear a0 a1 a2
  have c0:=HB3.out.cell 0;have c1:=HB3.out.cell 1;have c2:=HB3.out.cell 2
  have f1:=HB3.out.frozen 1;have f2:=HB3.out.frozen 2
  try simp only [List.getElem?_cons_succ,List.getElem?_cons_zero] at  c0 c1 c2
  go_wp2
  exact bodyPost_ret (v:=.slice none 0 0) (by simp [results,Try.results76]) rfl ⟨none,0,rfl,.inl rfl,HB3.out,KB3.out⟩
 subst h0
 by_cases hlt : a + m ≤ L
 case neg =>
  have d3 : (L : Int) - a < m:=by omega
  have hv:=HT.out;have hv2:=HTB.out
  rw [if_pos rfl,if_neg hlt] at hv
  rw [if_neg (fun q => hlt q.2)] at hv2
  subst hv;subst hv2
  clear HT HTB
  go_upto_region 1 with fail
  refine wp_region_tree (.take [0,1,2,3,4,5,6,7,8,9,10,11,12,13,14,15,16,17,18] .done) [] (by kernel_rfl) (by kernel_rfl) (fun w3 k3 => ?_)
  have HB3:=Lib.hid (HB.out.keep k3);have KB3 : Hid (KeepB S w w3):=Lib.hid (KB.out.trans (KeepX.of k3) (fun _ _ q => q))
  clear k3 HB KB
  have a0:=aft_cell (HB3.out.cell 0);have a1:=aft_cell (HB3.out.cell 1);have a2:=aft_cell (HB3.out.cell 2)
  try simp only [List.getElem?_cons_succ,List.getElem?_cons_zero] at  a0 a1 a2
  refine mt_take w3 (Below.refl _ _) ?_
  simp only [pick_cons,pick_nil,nth_zero,nth_succ]
  repeat (go_big_quiet_step (fail))
  refine wpQuiet_nil (mt_end ?_)
  clear a0 a1 a2
  have c0:=HB3.out.cell 0;have c1:=HB3.out.cell 1;have c2:=HB3.out.cell 2
  have f1:=HB3.out.frozen 1;have f2:=HB3.out.frozen 2
  try simp only [List.getElem?_cons_succ,List.getElem?_cons_zero] at  c0 c1 c2
  go_wp2
  exact bodyPost_ret (v:=.slice none 0 0) (by simp [results,Try.results76]) rfl ⟨none,0,rfl,.inl rfl,HB3.out.set_ 2 (iv 1),KB3.out.set 2 _⟩
 have d3 : ¬ (L : Int) - a < m:=by omega
 have hw2 : IntKind.i64.wrap ((a : Int) + m) = (a : Int) + m:=IntWalk.i64_in _ (by omega)
 have hw3 : IntKind.i64.wrap ((a : Int) + m - m) = (a : Int):=by rw [show (a : Int) + m - m = a by omega];exact IntWalk.i64_in _ (by omega)
 have hv:=HT.out;have hv2:=HTB.out
 rw [if_pos rfl,if_pos hlt] at hv
 rw [if_pos ⟨rfl,hlt⟩] at hv2
 subst hv;subst hv2
 clear HT HTB
 obtain ⟨g,off,rfl,-,-⟩:=HR.out.rd.at (k:=a) (by rw [List.length_map,HLL.out];omega)
 go_upto_region 1 with fail
 refine wp_region_tree (.take [0,1,2,3,4,5,6,7,8,9,10,11,12,13,14,15,16,17,18] .done) [] (by kernel_rfl) (by kernel_rfl) (fun w3 k3 => ?_)
 have HB3:=Lib.hid (HB.out.keep k3);have KB3 : Hid (KeepB S w w3):=Lib.hid (KB.out.trans (KeepX.of k3) (fun _ _ q => q))
 clear k3 HB KB
 have a0:=aft_cell (HB3.out.cell 0);have a1:=aft_cell (HB3.out.cell 1);have a2:=aft_cell (HB3.out.cell 2)
 try simp only [List.getElem?_cons_succ,List.getElem?_cons_zero] at  a0 a1 a2
 refine mt_take w3 (Below.refl _ _) ?_
 simp only [pick_cons,pick_nil,nth_zero,nth_succ]
 repeat (go_big_quiet_step (fail))
 refine wpQuiet_nil (mt_end ?_)
 clear a0 a1 a2
 have c0:=HB3.out.cell 0;have c1:=HB3.out.cell 1;have c2:=HB3.out.cell 2
 have f1:=HB3.out.frozen 1;have f2:=HB3.out.frozen 2
 try simp only [List.getElem?_cons_succ,List.getElem?_cons_zero] at  c0 c1 c2
 go_upto_region 6 with fail
 clear c0 c1 c2 f1 f2
 obtain ⟨w4,hw4⟩ : ∃ w4,w4 = w3.setCell ⟨S,1,none⟩ (iv ((a : Int) + m)):=⟨_,rfl⟩
 have HB4 : Hid (Blk w4 S t [.slice (some ⟨g,off,none⟩) L c,iv ((a : Int) + m),iv 0]):=by rw [hw4];exact Lib.hid (HB3.out.set_ 1 _)
 have KB4 : Hid (KeepB S w w4):=by rw [hw4];exact Lib.hid (KB3.out.set 1 _)
 rw [← hw4]
 clear hw4 HB3 KB3
 go_upto_region 6 with fail
 refine wp_region_tree (.take [0,1,2,3,4,5,6,7,8,9,10,11,12,13,14,15] .done) [] (by kernel_rfl) (by kernel_rfl) (fun w5 k3 => ?_)
 have HB5:=Lib.hid (HB4.out.keep k3);have KB5 : Hid (KeepB S w w5):=Lib.hid (KB4.out.trans (KeepX.of k3) (fun _ _ q => q))
 clear k3 HB4 KB4
 have a0:=aft_cell (HB5.out.cell 0);have a1:=aft_cell (HB5.out.cell 1);have a2:=aft_cell (HB5.out.cell 2)
 try simp only [List.getElem?_cons_succ,List.getElem?_cons_zero] at  a0 a1 a2
 refine mt_take w5 (Below.refl _ _) ?_
 simp only [pick_cons,pick_nil,nth_zero,nth_succ]
 repeat (go_big_quiet_step (fail))
 refine wpQuiet_nil (mt_end ?_)
 clear a0 a1 a2
 have c0:=HB5.out.cell 0;have c1:=HB5.out.cell 1;have c2:=HB5.out.cell 2
 have f1:=HB5.out.frozen 1;have f2:=HB5.out.frozen 2
 try simp only [List.getElem?_cons_succ,List.getElem?_cons_zero] at  c0 c1 c2
 have HRX : Hid (RdX (some S) w5 (some ⟨g,off + a,none⟩) (((b.drop a).take m).map u8v)):=Lib.hid ((HR.out.cut a m (by rw [HLL.out];omega)).kb KB5.out)
 have HLT : Hid (((b.drop a).take m).length = m):=Lib.hid (by rw [List.length_take,List.length_drop,HLL.out];omega)
 generalize (b.drop a).take m = T at *
 clear c0 c1 c2 f1 f2
 go_wp2
 exact bodyPost_ret (v:=.slice (some ⟨g,off + a,none⟩) m (c - a)) (by simp [results,Try.results76]) rfl ⟨some ⟨g,off + a,none⟩,c - a,by rw [HLT.out],HRX.out,HB5.out,KB5.out⟩
def Red (S : Nat) (t : TypeId) (src : List Value) (v : Value) (w : World) (e : Ending) (w' : World) : Prop:=e = .returned v∧Blk w' S t src∧KeepB S w w'
set_option maxRecDepth 100000 in
set_option maxHeartbeats 4000000 in
theorem snum_any (PB S : Nat) (t : TypeId) (A : Option Addr) (b : List UInt8) (c m : Nat) (p : SP) (w : World) (hpb : w.cell? ⟨PB,0,none⟩ = some (.pointer (some ⟨S,0,none⟩))) (hb : Blk w S t (srcL A b.length c p)) (hp : p.1 ≤ b.length) (hc : b.length ≤ c) (hl : b.length ≤ 1000000000) (hcm : c ≤ maxLen) (hm : m ≤ 8) (hm0 : 0 < m) (hr : RdX (some S) w A (b.map u8v)) :
  Calls Try.prog 75 #[iv m,.pointer (some ⟨PB,0,none⟩)] w (Red S t (srcL A b.length c (tkP b m p)) (u64v (nmV b m p)) w):=by
 have T1 : Hid (Calls Try.prog 76 #[.pointer (some ⟨S,0,none⟩),iv m] w (Tkd S t (srcL A b.length c (tkP b m p)) (tkB b m p) w)):=Lib.hid (stake_any S t A b c m p w hb hp hc hl hcm (by omega) hm0 hr)
 have hTL : (tkB b m p).length ≤ 8:=by rcases tkB_len b m p with q | q <;> rw [q] <;> first | exact hm | simp
 have HN : Hid (nmV b m p = numN (tkB b m p) (tkB b m p).length):=Lib.hid rfl
 generalize srcL A b.length c (tkP b m p) = src at *
 generalize tkB b m p = T at *
 generalize nmV b m p = V at *
 clear hb hr hp hc hl hcm
 go_enter Try.func75,Try.ntmps75
 go_wp2_with (go_at_call 76;refine T1.out.mono ?_;rintro e w2 ⟨A2,c2,rfl,hr2,hb2,hk2⟩)
 have HR2:=Lib.hid hr2;have HB2:=Lib.hid hb2;have HK2:=Lib.hid hk2
 clear hr2 hb2 hk2 T1 hpb
 obtain ⟨L,hL⟩ : ∃ L,T.length = L:=⟨_,rfl⟩
 have HC : Hid (∀ k,k < L → ∃ g off,A2 = some ⟨g,off,none⟩∧w2.cell? ⟨g,off + k,none⟩ = some (u8v (T.getD k 0))):=Lib.hid fun k hk => by
  obtain ⟨g,off,h1,h2,h3⟩:=HR2.out.rd.at (k:=k) (by simp;omega)
  refine ⟨g,off,h1,?_⟩
  rw [h3 k (by simp;omega)]
  simp [List.getD_eq_getElem?_getD,List.getElem?_eq_getElem (show k < T.length by omega)]
 have HNN : Hid (∀ k,numN T k < 2 ^ (8 * k)∧numN T (k + 1) = numN T k + (T.getD k 0).toNat * 2 ^ (8 * k)):=Lib.hid fun k => ⟨numN_lt T k,rfl⟩
 have HN0 : Hid (numN T 0 = 0):=Lib.hid rfl
 rw [hL] at HN hTL ⊢
 clear hL HR2
 obtain ⟨nt,hnt⟩ : ∃ f,numN T = f:=⟨_,rfl⟩
 obtain ⟨tt,htt⟩ : ∃ f : Nat → UInt8,(fun k => T.getD k 0) = f:=⟨_,rfl⟩
 have htt' : ∀ k,T.getD k 0 = tt k:=fun k => by rw [← htt]
 rw [hnt] at HN HNN HN0
 simp only [htt'] at HC HNN
 clear hnt htt htt'
 go_loopw [4,11] (fun v x wr => ∃ k : Nat,k ≤ L∧x = .int .i64 k∧v = .int .u64 (nt k : Nat)∧w2 = wr) (fun _ x _ => L - (intOf x).toNat)
 case atStart => exact ⟨0,Nat.zero_le _,rfl,by rw [HN0.out];rfl,rfl⟩
 case round =>
  obtain ⟨k,hk,rfl,rfl,rfl⟩:=hrel
  by_cases hlt : k < L
  ·obtain ⟨g,off,rfl,c0⟩:=HC.out k hlt
   obtain ⟨h1,h2⟩:=HNN.out k
   have hy:=(tt k).toNat_lt
   have hor:=u64_or (nt k) (tt k).toNat k (by omega) h1 (by omega)
   rw [← h2] at hor
   have d1 : (k : Int) < L:=by omega
   clear h1 h2
   obtain ⟨n1,hn1⟩ : ∃ n1,nt (k + 1) = n1:=⟨_,rfl⟩
   rw [hn1] at hor
   have HNX : Hid (n1 = nt (k + 1)):=Lib.hid hn1.symm
   clear hn1
   generalize nt k = n0 at *
   generalize tt k = y at *
   go_wp2
   go_roundw
   case rel => exact ⟨k + 1,by omega,by go_num,by rw [← HNX.out],by first | rfl | trivial⟩
   case measure => simp [intOf];omega
  ·obtain rfl : k = L:=by omega
   have d2 : ¬ (k : Int) < k:=by omega
   obtain ⟨n,hn⟩ : ∃ n,nt k = n:=⟨_,rfl⟩
   rw [hn]
   have HVV : Hid (V = n):=Lib.hid (by rw [HN.out,hn])
   clear HC HN HN0 HNN hn
   go_wp2
   exact bodyPost_ret (v:=u64v n) (by simp [results,Try.results75]) rfl ⟨by rw [HVV.out],HB2.out,HK2.out⟩
end Go.Proofs.Ytbgpgdhndanigaa
/- tx.source: count, script. (printed by gen_vn.py) -/
set_option linter.unusedSimpArgs false
set_option linter.unusedVariables false
namespace Go.Proofs.Ytbgpgdhndanigaa
open Go.RowKit
attribute [local go_sem ↓] Go.wp_at_zero Go.wp_at_succ
def Scd (S : Nat) (t : TypeId) (src : List Value) (T : List UInt8) (w : World) (e : Ending) (w' : World) : Prop:=∃ v,e = .returned v∧w'.ownsRow w.heap.size 5 1 v T.length (T.map u8v)∧Blk w' S t src∧KeepB S w w'
set_option maxRecDepth 100000 in
set_option maxHeartbeats 4000000 in
theorem scount_any (S : Nat) (t : TypeId) (A : Option Addr) (b : List UInt8) (c : Nat) (most : Nat) (hmost : most ≤ 1000000000) (p : SP) (w : World) (hb : Blk w S t (srcL A b.length c p)) (hp : p.1 ≤ b.length) (hc : b.length ≤ c) (hl : b.length ≤ 1000000000) (hcm : c ≤ maxLen) (hr : RdX (some S) w A (b.map u8v)) :
  Calls Try.prog 77 #[.pointer (some ⟨S,0,none⟩),u64v most] w (Red S t (srcL A b.length c (ctP b most p)) (iv (ctV b most p)) w):=by
 obtain ⟨a,e0⟩:=p
 have HB:=Lib.hid hb;have HR:=Lib.hid hr
 simp only at hp
 have BN : Hid (∀ y A' n' c',Keep w y → n' = b.length - a → n' ≤ c' → c' ≤ maxLen → Rd y A' ((b.drop a).map u8v) → Calls Try.prog 72 #[.slice A' n' c',u64v most] y fun e w' => e = .returned (.tuple #[iv (bndN (b.drop a) most).1,iv (bndN (b.drop a) most).2.1,iv (bndN (b.drop a) most).2.2])∧Keep y w'):=Lib.hid fun y A' n' c' hy h1 h2 h3 h4 => by
  have hln : (b.drop a).length = n':=by rw [List.length_drop,h1]
  subst hln
  exact bnd_any A' (b.drop a) c' most y (by omega) h4
 have HT : Hid (ctP b most (a,e0) = if e0 = 0 then (a + (bndN (b.drop a) most).2.1,(bndN (b.drop a) most).2.2) else (a,e0)):=Lib.hid rfl
 have HV : Hid (ctV b most (a,e0) = if e0 = 0 then (bndN (b.drop a) most).1 else 0):=Lib.hid rfl
 have hk9:=(bnd_le (b.drop a) most).1
 have hn9:=(bnd_le (b.drop a) most).2
 rw [List.length_drop] at hk9
 generalize ctP b most (a,e0) = P at *
 generalize ctV b most (a,e0) = V at *
 generalize bndN (b.drop a) most = G at *
 obtain ⟨n,k,e1⟩:=G
 simp only at BN HT HV hk9 hn9
 have hwk : IntKind.i64.wrap ((a : Int) + k) = (a : Int) + k:=IntWalk.i64_in _ (by omega)
 have hwk0 : IntKind.i64.wrap (k : Int) = k:=IntWalk.i64_in _ (by omega)
 have hwk1 : wrap64 (k : Int) = k:=IntWalk.wrap64_in _ (by omega)
 obtain ⟨L,hL⟩ : ∃ L,b.length = L:=⟨_,rfl⟩
 have HLL:=Lib.hid hL
 unfold srcL at *
 rw [hL] at HB BN hc hl hp ⊢
 simp only at HB
 clear hb hr hL
 unfold maxLen at hcm BN
 have KB : Hid (KeepB S w w):=Lib.hid (KeepX.of (Below.refl _ _))
 have c0:=HB.out.cell 0;have c1:=HB.out.cell 1;have c2:=HB.out.cell 2
 try simp only [List.getElem?_cons_succ,List.getElem?_cons_zero] at  c0 c1 c2
 by_cases h0 : e0 = 0
 case neg =>
  have d2 : (e0 != 0) = true:=by rw [bne_iff_ne];exact h0
  have hv:=HT.out;have hv2:=HV.out
  rw [if_neg h0] at hv;rw [if_neg h0] at hv2
  subst hv;subst hv2
  clear HT HV BN
  go_enter Try.func77,Try.ntmps77
  go_wp2
  exact bodyPost_ret (v:=iv 0) (by simp [results,Try.results77]) rfl ⟨rfl,HB.out,KB.out⟩
 subst h0
 have hv:=HT.out;have hv2:=HV.out
 rw [if_pos rfl] at hv;rw [if_pos rfl] at hv2
 subst hv
 have HV2:=Lib.hid hv2
 clear HT HV hv2
 go_enter Try.func77,Try.ntmps77
 go_upto_region 3 with fail
 clear c0 c1 c2
 cases A with
 | none =>
   have hL0 : L = 0:=by
    rw [← HLL.out]
    rcases HR.out with q | ⟨_,_,q,_⟩
    ·simpa using q
    ·cases q
   subst hL0
   obtain rfl : a = 0:=by omega
   have hb0 : b = []:=List.eq_nil_of_length_eq_zero HLL.out
   have HB0:=Lib.hid hb0
   clear hb0
   refine wp_region_tree (.take [0,1,2,3,4,5,6,7,8,9] (.force [10] (.take [11,12,13,14,15,16,17] .done))) [] (by kernel_rfl) (by kernel_rfl) (fun w3 k3 => ?_)
   have HB3:=Lib.hid (HB.out.keep k3);have HK3 : Hid (Keep w w3):=Lib.hid k3
   clear k3
   have a0:=aft_cell (HB3.out.cell 0);have a1:=aft_cell (HB3.out.cell 1);have a2:=aft_cell (HB3.out.cell 2)
   try simp only [List.getElem?_cons_succ,List.getElem?_cons_zero] at  a0 a1 a2
   refine mt_take w3 (Below.refl _ _) ?_
   simp only [pick_cons,pick_nil,nth_zero,nth_succ]
   repeat (go_big_quiet_step (fail))
   refine wpQuiet_nil (mt_force ?_)
   clear a0 a1 a2
   simp only [pick_cons,pick_nil,nth_zero,nth_succ]
   refine fc_step rfl (fun K hK => ?_)
   go_simp
   (with_reducible refine (BN.out _ _ _ _ HK3.out (by omega) (by omega) (by omega) ?_).mono ?_)
   ·rw [HB0.out];exact Rd.nil _ _
   rintro e w4 ⟨rfl,k4⟩
   refine hK _ _ k4 ?_
   clear hK K BN
   have HB4:=Lib.hid (HB3.out.keep k4);have HK4:=Lib.hid (keep_trans HK3.out k4)
   clear k4 HB3 HK3
   refine fc_nil (mt_take w4 (Below.refl _ _) ?_)
   simp only [pick_cons,pick_nil,nth_zero,nth_succ]
   repeat (go_big_quiet_step (fail))
   refine wpQuiet_nil (mt_end ?_)
   have c0:=HB4.out.cell 0;have c1:=HB4.out.cell 1;have c2:=HB4.out.cell 2
   have f1:=HB4.out.frozen 1;have f2:=HB4.out.frozen 2
   try simp only [List.getElem?_cons_succ,List.getElem?_cons_zero] at  c0 c1 c2
   go_wp2
   have hv2:=HV2.out
   subst hv2
   exact bodyPost_ret (v:=iv V) (by simp [results,Try.results77]) rfl ⟨rfl,(by first | exact (HB4.out.set_ 1 _).set_ 2 _ | simpa using (HB4.out.set_ 1 (iv (k : Int))).set_ 2 (iv e1)),KeepB.set (KeepB.set (KeepX.of HK4.out) 1 _) 2 _⟩
 | some ad =>
 obtain ⟨g,off,hgo⟩ : ∃ g off,ad = ⟨g,off,none⟩ ∨ b = []:=by
  rcases HR.out with q | ⟨g,off,q,_⟩
  ·exact ⟨0,0,.inr (by simpa using q)⟩
  ·exact ⟨g,off,.inl (Option.some.inj q)⟩
 by_cases hca : a = c
 ·subst hca
  obtain rfl : a = L:=by omega
  refine wp_region_tree (.take [0,1,2,3,4,5,6,7,8,9] (.force [10] (.take [11,12,13,14,15,16,17] .done))) [] (by kernel_rfl) (by kernel_rfl) (fun w3 k3 => ?_)
  have HB3:=Lib.hid (HB.out.keep k3);have HK3 : Hid (Keep w w3):=Lib.hid k3
  clear k3
  have a0:=aft_cell (HB3.out.cell 0);have a1:=aft_cell (HB3.out.cell 1);have a2:=aft_cell (HB3.out.cell 2)
  try simp only [List.getElem?_cons_succ,List.getElem?_cons_zero] at  a0 a1 a2
  refine mt_take w3 (Below.refl _ _) ?_
  simp only [pick_cons,pick_nil,nth_zero,nth_succ]
  repeat (go_big_quiet_step (fail))
  refine wpQuiet_nil (mt_force ?_)
  clear a0 a1 a2
  simp only [pick_cons,pick_nil,nth_zero,nth_succ]
  refine fc_step rfl (fun K hK => ?_)
  go_simp
  (with_reducible refine (BN.out _ _ _ _ HK3.out (by omega) (by omega) (by omega) ?_).mono ?_)
  ·have e9 : b.drop a = []:=List.drop_eq_nil_of_le (by rw [HLL.out];omega)
   rw [e9];exact Rd.nil _ _
  rintro e w4 ⟨rfl,k4⟩
  refine hK _ _ k4 ?_
  clear hK K BN
  have HB4:=Lib.hid (HB3.out.keep k4);have HK4:=Lib.hid (keep_trans HK3.out k4)
  clear k4 HB3 HK3
  refine fc_nil (mt_take w4 (Below.refl _ _) ?_)
  simp only [pick_cons,pick_nil,nth_zero,nth_succ]
  repeat (go_big_quiet_step (fail))
  refine wpQuiet_nil (mt_end ?_)
  have c0:=HB4.out.cell 0;have c1:=HB4.out.cell 1;have c2:=HB4.out.cell 2
  have f1:=HB4.out.frozen 1;have f2:=HB4.out.frozen 2
  try simp only [List.getElem?_cons_succ,List.getElem?_cons_zero] at  c0 c1 c2
  go_wp2
  have hv2:=HV2.out
  subst hv2
  exact bodyPost_ret (v:=iv V) (by simp [results,Try.results77]) rfl ⟨rfl,(by first | exact (HB4.out.set_ 1 _).set_ 2 _ | simpa using (HB4.out.set_ 1 (iv (k : Int))).set_ 2 (iv e1)),KeepB.set (KeepB.set (KeepX.of HK4.out) 1 _) 2 _⟩
 ·have hca2 : ¬ c - a = 0:=by omega
  have HGO:=Lib.hid hgo
  clear hgo
  refine wp_region_tree (.take [0,1,2,3,4,5,6,7,8,9] (.force [10] (.take [11,12,13,14,15,16,17] .done))) [] (by kernel_rfl) (by kernel_rfl) (fun w3 k3 => ?_)
  have HB3:=Lib.hid (HB.out.keep k3);have HK3 : Hid (Keep w w3):=Lib.hid k3
  clear k3
  have a0:=aft_cell (HB3.out.cell 0);have a1:=aft_cell (HB3.out.cell 1);have a2:=aft_cell (HB3.out.cell 2)
  try simp only [List.getElem?_cons_succ,List.getElem?_cons_zero] at  a0 a1 a2
  refine mt_take w3 (Below.refl _ _) ?_
  simp only [pick_cons,pick_nil,nth_zero,nth_succ]
  repeat (go_big_quiet_step (fail))
  refine wpQuiet_nil (mt_force ?_)
  clear a0 a1 a2
  simp only [pick_cons,pick_nil,nth_zero,nth_succ]
  refine fc_step rfl (fun K hK => ?_)
  go_simp
  (with_reducible refine (BN.out _ _ _ _ HK3.out (by omega) (by omega) (by omega) ?_).mono ?_)
  ·rcases HGO.out with q | q
   ·subst q
    have q2:=(HR.out.cut a (b.length - a) (by rw [HLL.out];omega)).rd.keep HK3.out
    rw [List.take_of_length_le (by rw [List.length_drop];omega)] at q2
    first | exact q2 | (rw [add_lit0];exact q2)
   ·rw [q];simp;exact Rd.nil _ _
  rintro e w4 ⟨rfl,k4⟩
  refine hK _ _ k4 ?_
  clear hK K BN
  have HB4:=Lib.hid (HB3.out.keep k4);have HK4:=Lib.hid (keep_trans HK3.out k4)
  clear k4 HB3 HK3
  refine fc_nil (mt_take w4 (Below.refl _ _) ?_)
  simp only [pick_cons,pick_nil,nth_zero,nth_succ]
  repeat (go_big_quiet_step (fail))
  refine wpQuiet_nil (mt_end ?_)
  have c0:=HB4.out.cell 0;have c1:=HB4.out.cell 1;have c2:=HB4.out.cell 2
  have f1:=HB4.out.frozen 1;have f2:=HB4.out.frozen 2
  try simp only [List.getElem?_cons_succ,List.getElem?_cons_zero] at  c0 c1 c2
  go_wp2
  have hv2:=HV2.out
  subst hv2
  exact bodyPost_ret (v:=iv V) (by simp [results,Try.results77]) rfl ⟨rfl,(by first | exact (HB4.out.set_ 1 _).set_ 2 _ | simpa using (HB4.out.set_ 1 (iv (k : Int))).set_ 2 (iv e1)),KeepB.set (KeepB.set (KeepX.of HK4.out) 1 _) 2 _⟩
set_option maxRecDepth 100000 in
set_option maxHeartbeats 4000000 in
theorem sscript_any (S : Nat) (t : TypeId) (A : Option Addr) (b : List UInt8) (c : Nat) (p : SP) (w : World) (hb : Blk w S t (srcL A b.length c p)) (hp : p.1 ≤ b.length) (hc : b.length ≤ c) (hl : b.length ≤ 1000000000) (hcm : c ≤ maxLen) (hr : RdX (some S) w A (b.map u8v)) :
  Calls Try.prog 78 #[.pointer (some ⟨S,0,none⟩)] w (Scd S t (srcL A b.length c (scP b p)) (scV b p) w):=by
 obtain ⟨a,e0⟩:=p
 have HB:=Lib.hid hb;have HR:=Lib.hid hr
 simp only at hp
 have BN : Hid (∀ y A' n' c',Keep w y → n' = b.length - a → n' ≤ c' → c' ≤ maxLen → Rd y A' ((b.drop a).map u8v) → Calls Try.prog 54 #[.slice A' n' c',iv 10000] y fun e w' => ∃ v,e = .returned (.tuple #[v,iv (bytN (b.drop a) 10000).2.1,iv (bytN (b.drop a) 10000).2.2])∧w'.ownsRow y.heap.size 5 1 v (bytN (b.drop a) 10000).1.length ((bytN (b.drop a) 10000).1.map u8v)∧Keep y w'):=Lib.hid fun y A' n' c' hy h1 h2 h3 h4 => by
  have hln : (b.drop a).length = n':=by rw [List.length_drop,h1]
  subst hln
  exact cbytes_any A' (b.drop a) c' 10000 y (by omega) h2 (by omega) h4
 have HT : Hid (scP b (a,e0) = if e0 = 0 then (a + (bytN (b.drop a) 10000).2.1,(bytN (b.drop a) 10000).2.2) else (a,e0)):=Lib.hid rfl
 have HV : Hid (scV b (a,e0) = if e0 = 0 then (bytN (b.drop a) 10000).1 else []):=Lib.hid rfl
 have hk9:=(byt_le (b.drop a) 10000).1
 rw [List.length_drop] at hk9
 generalize scP b (a,e0) = P at *
 generalize scV b (a,e0) = V at *
 generalize bytN (b.drop a) 10000 = G at *
 obtain ⟨n,k,e1⟩:=G
 simp only at BN HT HV hk9
 have hwk : IntKind.i64.wrap ((a : Int) + k) = (a : Int) + k:=IntWalk.i64_in _ (by omega)
 have hwk0 : IntKind.i64.wrap (k : Int) = k:=IntWalk.i64_in _ (by omega)
 have hwk1 : wrap64 (k : Int) = k:=IntWalk.wrap64_in _ (by omega)
 obtain ⟨L,hL⟩ : ∃ L,b.length = L:=⟨_,rfl⟩
 have HLL:=Lib.hid hL
 unfold srcL at *
 rw [hL] at HB BN hc hl hp ⊢
 simp only at HB
 clear hb hr hL
 unfold maxLen at hcm BN
 have KB : Hid (KeepB S w w):=Lib.hid (KeepX.of (Below.refl _ _))
 have c0:=HB.out.cell 0;have c1:=HB.out.cell 1;have c2:=HB.out.cell 2
 try simp only [List.getElem?_cons_succ,List.getElem?_cons_zero] at  c0 c1 c2
 by_cases h0 : e0 = 0
 case neg =>
  have d2 : (e0 != 0) = true:=by rw [bne_iff_ne];exact h0
  have hv:=HT.out;have hv2:=HV.out
  rw [if_neg h0] at hv;rw [if_neg h0] at hv2
  subst hv;subst hv2
  clear HT HV BN
  go_enter Try.func78,Try.ntmps78
  go_wp2
  exact bodyPost_ret (v:=.slice none 0 0) (by simp [results,Try.results78]) rfl ⟨_,rfl,World.ownsRow_nil _ _ _ _,HB.out,KB.out⟩
 subst h0
 have hv:=HT.out;have hv2:=HV.out
 rw [if_pos rfl] at hv;rw [if_pos rfl] at hv2
 subst hv
 have HV2:=Lib.hid hv2
 clear HT HV hv2
 go_enter Try.func78,Try.ntmps78
 go_upto_region 3 with fail
 clear c0 c1 c2
 cases A with
 | none =>
   have hL0 : L = 0:=by
    rw [← HLL.out]
    rcases HR.out with q | ⟨_,_,q,_⟩
    ·simpa using q
    ·cases q
   subst hL0
   obtain rfl : a = 0:=by omega
   have hb0 : b = []:=List.eq_nil_of_length_eq_zero HLL.out
   have HB0:=Lib.hid hb0
   clear hb0
   refine wp_region_tree (.take [0,1,2,3,4,5,6,7,8] (.force [9] (.take [10,11,12,13,14,15,16] .done))) [] (by kernel_rfl) (by kernel_rfl) (fun w3 k3 => ?_)
   have HB3:=Lib.hid (HB.out.keep k3);have HK3 : Hid (Keep w w3):=Lib.hid k3
   clear k3
   have a0:=aft_cell (HB3.out.cell 0);have a1:=aft_cell (HB3.out.cell 1);have a2:=aft_cell (HB3.out.cell 2)
   try simp only [List.getElem?_cons_succ,List.getElem?_cons_zero] at  a0 a1 a2
   refine mt_take w3 (Below.refl _ _) ?_
   simp only [pick_cons,pick_nil,nth_zero,nth_succ]
   repeat (go_big_quiet_step (fail))
   refine wpQuiet_nil (mt_force ?_)
   clear a0 a1 a2
   simp only [pick_cons,pick_nil,nth_zero,nth_succ]
   refine fc_step rfl (fun K hK => ?_)
   go_simp
   (with_reducible refine (BN.out _ _ _ _ HK3.out (by omega) (by omega) (by omega) ?_).mono ?_)
   ·rw [HB0.out];exact Rd.nil _ _
   rintro e w4 ⟨v,rfl,hown,k4⟩
   have HOW:=Lib.hid (own_base hown HK3.out.size)
   clear hown
   refine hK _ _ k4 ?_
   clear hK K BN
   have HB4:=Lib.hid (HB3.out.keep k4);have HK4:=Lib.hid (keep_trans HK3.out k4)
   clear k4 HB3 HK3
   refine fc_nil (mt_take w4 (Below.refl _ _) ?_)
   simp only [pick_cons,pick_nil,nth_zero,nth_succ]
   repeat (go_big_quiet_step (fail))
   refine wpQuiet_nil (mt_end ?_)
   have c0:=HB4.out.cell 0;have c1:=HB4.out.cell 1;have c2:=HB4.out.cell 2
   have f1:=HB4.out.frozen 1;have f2:=HB4.out.frozen 2
   try simp only [List.getElem?_cons_succ,List.getElem?_cons_zero] at  c0 c1 c2
   have hSw : S < w.heap.size:=HB.out.lt
   obtain ⟨Av,cv,rfl,-,-,-⟩:=own_form HOW.out
   go_wp2
   have hv2:=HV2.out
   subst hv2
   exact bodyPost_ret (v:=.slice Av V.length cv) (by simp [results,Try.results78]) rfl ⟨_,rfl,ownsRow_setCell_below (ownsRow_setCell_below HOW.out (a:=⟨S,1,none⟩) hSw _) (a:=⟨S,2,none⟩) hSw _,(by first | exact (HB4.out.set_ 1 _).set_ 2 _ | simpa using (HB4.out.set_ 1 (iv (k : Int))).set_ 2 (iv e1)),KeepB.set (KeepB.set (KeepX.of HK4.out) 1 _) 2 _⟩
 | some ad =>
 obtain ⟨g,off,hgo⟩ : ∃ g off,ad = ⟨g,off,none⟩ ∨ b = []:=by
  rcases HR.out with q | ⟨g,off,q,_⟩
  ·exact ⟨0,0,.inr (by simpa using q)⟩
  ·exact ⟨g,off,.inl (Option.some.inj q)⟩
 by_cases hca : a = c
 ·subst hca
  obtain rfl : a = L:=by omega
  refine wp_region_tree (.take [0,1,2,3,4,5,6,7,8] (.force [9] (.take [10,11,12,13,14,15,16] .done))) [] (by kernel_rfl) (by kernel_rfl) (fun w3 k3 => ?_)
  have HB3:=Lib.hid (HB.out.keep k3);have HK3 : Hid (Keep w w3):=Lib.hid k3
  clear k3
  have a0:=aft_cell (HB3.out.cell 0);have a1:=aft_cell (HB3.out.cell 1);have a2:=aft_cell (HB3.out.cell 2)
  try simp only [List.getElem?_cons_succ,List.getElem?_cons_zero] at  a0 a1 a2
  refine mt_take w3 (Below.refl _ _) ?_
  simp only [pick_cons,pick_nil,nth_zero,nth_succ]
  repeat (go_big_quiet_step (fail))
  refine wpQuiet_nil (mt_force ?_)
  clear a0 a1 a2
  simp only [pick_cons,pick_nil,nth_zero,nth_succ]
  refine fc_step rfl (fun K hK => ?_)
  go_simp
  (with_reducible refine (BN.out _ _ _ _ HK3.out (by omega) (by omega) (by omega) ?_).mono ?_)
  ·have e9 : b.drop a = []:=List.drop_eq_nil_of_le (by rw [HLL.out];omega)
   rw [e9];exact Rd.nil _ _
  rintro e w4 ⟨v,rfl,hown,k4⟩
  have HOW:=Lib.hid (own_base hown HK3.out.size)
  clear hown
  refine hK _ _ k4 ?_
  clear hK K BN
  have HB4:=Lib.hid (HB3.out.keep k4);have HK4:=Lib.hid (keep_trans HK3.out k4)
  clear k4 HB3 HK3
  refine fc_nil (mt_take w4 (Below.refl _ _) ?_)
  simp only [pick_cons,pick_nil,nth_zero,nth_succ]
  repeat (go_big_quiet_step (fail))
  refine wpQuiet_nil (mt_end ?_)
  have c0:=HB4.out.cell 0;have c1:=HB4.out.cell 1;have c2:=HB4.out.cell 2
  have f1:=HB4.out.frozen 1;have f2:=HB4.out.frozen 2
  try simp only [List.getElem?_cons_succ,List.getElem?_cons_zero] at  c0 c1 c2
  have hSw : S < w.heap.size:=HB.out.lt
  obtain ⟨Av,cv,rfl,-,-,-⟩:=own_form HOW.out
  go_wp2
  have hv2:=HV2.out
  subst hv2
  exact bodyPost_ret (v:=.slice Av V.length cv) (by simp [results,Try.results78]) rfl ⟨_,rfl,ownsRow_setCell_below (ownsRow_setCell_below HOW.out (a:=⟨S,1,none⟩) hSw _) (a:=⟨S,2,none⟩) hSw _,(by first | exact (HB4.out.set_ 1 _).set_ 2 _ | simpa using (HB4.out.set_ 1 (iv (k : Int))).set_ 2 (iv e1)),KeepB.set (KeepB.set (KeepX.of HK4.out) 1 _) 2 _⟩
 ·have hca2 : ¬ c - a = 0:=by omega
  have HGO:=Lib.hid hgo
  clear hgo
  refine wp_region_tree (.take [0,1,2,3,4,5,6,7,8] (.force [9] (.take [10,11,12,13,14,15,16] .done))) [] (by kernel_rfl) (by kernel_rfl) (fun w3 k3 => ?_)
  have HB3:=Lib.hid (HB.out.keep k3);have HK3 : Hid (Keep w w3):=Lib.hid k3
  clear k3
  have a0:=aft_cell (HB3.out.cell 0);have a1:=aft_cell (HB3.out.cell 1);have a2:=aft_cell (HB3.out.cell 2)
  try simp only [List.getElem?_cons_succ,List.getElem?_cons_zero] at  a0 a1 a2
  refine mt_take w3 (Below.refl _ _) ?_
  simp only [pick_cons,pick_nil,nth_zero,nth_succ]
  repeat (go_big_quiet_step (fail))
  refine wpQuiet_nil (mt_force ?_)
  clear a0 a1 a2
  simp only [pick_cons,pick_nil,nth_zero,nth_succ]
  refine fc_step rfl (fun K hK => ?_)
  go_simp
  (with_reducible refine (BN.out _ _ _ _ HK3.out (by omega) (by omega) (by omega) ?_).mono ?_)
  ·rcases HGO.out with q | q
   ·subst q
    have q2:=(HR.out.cut a (b.length - a) (by rw [HLL.out];omega)).rd.keep HK3.out
    rw [List.take_of_length_le (by rw [List.length_drop];omega)] at q2
    first | exact q2 | (rw [add_lit0];exact q2)
   ·rw [q];simp;exact Rd.nil _ _
  rintro e w4 ⟨v,rfl,hown,k4⟩
  have HOW:=Lib.hid (own_base hown HK3.out.size)
  clear hown
  refine hK _ _ k4 ?_
  clear hK K BN
  have HB4:=Lib.hid (HB3.out.keep k4);have HK4:=Lib.hid (keep_trans HK3.out k4)
  clear k4 HB3 HK3
  refine fc_nil (mt_take w4 (Below.refl _ _) ?_)
  simp only [pick_cons,pick_nil,nth_zero,nth_succ]
  repeat (go_big_quiet_step (fail))
  refine wpQuiet_nil (mt_end ?_)
  have c0:=HB4.out.cell 0;have c1:=HB4.out.cell 1;have c2:=HB4.out.cell 2
  have f1:=HB4.out.frozen 1;have f2:=HB4.out.frozen 2
  try simp only [List.getElem?_cons_succ,List.getElem?_cons_zero] at  c0 c1 c2
  have hSw : S < w.heap.size:=HB.out.lt
  obtain ⟨Av,cv,rfl,-,-,-⟩:=own_form HOW.out
  go_wp2
  have hv2:=HV2.out
  subst hv2
  exact bodyPost_ret (v:=.slice Av V.length cv) (by simp [results,Try.results78]) rfl ⟨_,rfl,ownsRow_setCell_below (ownsRow_setCell_below HOW.out (a:=⟨S,1,none⟩) hSw _) (a:=⟨S,2,none⟩) hSw _,(by first | exact (HB4.out.set_ 1 _).set_ 2 _ | simpa using (HB4.out.set_ 1 (iv (k : Int))).set_ 2 (iv e1)),KeepB.set (KeepB.set (KeepX.of HK4.out) 1 _) 2 _⟩
end Go.Proofs.Ytbgpgdhndanigaa
/- What tx.Get answers; and what it has in memory while it reads. -/
set_option linter.unusedSimpArgs false
set_option linter.unusedVariables false
namespace Go.Proofs.Ytbgpgdhndanigaa
open Go.RowKit
def padH (l : List UInt8) : List UInt8:=l ++ z32.drop l.length
theorem padH_len {b : List UInt8} {p : SP} : (padH (tkB b 32 p)).length = 32:=by
 unfold padH
 rcases tkB_len b 32 p with q | q
 ·rw [List.length_append,List.length_drop,q];rfl
 ·rw [q];rfl
def inS (b : List UInt8) (p : SP) : InR × SP :=
 (⟨padH (tkB b 32 p),UInt32.ofNat (nmV b 4 (tkP b 32 p)),none,scV b (tkP b 4 (tkP b 32 p)),0,UInt32.ofNat (nmV b 4 (scP b (tkP b 4 (tkP b 32 p))))⟩,tkP b 4 (scP b (tkP b 4 (tkP b 32 p))))
def outS (b : List UInt8) (p : SP) : OutR × SP:=(⟨nmV b 8 p,none,scV b (tkP b 8 p),0⟩,scP b (tkP b 8 p))
def insS (b : List UInt8) : Nat → SP → List InR × SP
 | 0,p => ([],p)
 | n + 1,p => if p.2 = 0 then ((inS b p).1 :: (insS b n (inS b p).2).1,(insS b n (inS b p).2).2) else ([],p)
def outsS (b : List UInt8) : Nat → SP → List OutR × SP
 | 0,p => ([],p)
 | n + 1,p => if p.2 = 0 then ((outS b p).1 :: (outsS b n (outS b p).2).1,(outsS b n (outS b p).2).2) else ([],p)
theorem insS_err (b : List UInt8) (n : Nat) {p : SP} (h : p.2 ≠ 0) : insS b n p = ([],p):=by
 cases n with
 | zero => rfl
 | succ n => unfold insS;rw [if_neg h]
theorem outsS_err (b : List UInt8) (n : Nat) {p : SP} (h : p.2 ≠ 0) : outsS b n p = ([],p):=by
 cases n with
 | zero => rfl
 | succ n => unfold outsS;rw [if_neg h]
def cntE (n : Nat) (p : SP) : SP:=if p.2 = 0∧n = 0 then (p.1,2) else p
def tgetS (b : List UInt8) : TxR × SP :=
 let p1:=tkP b 4 (0,0)
 let p3:=cntE (ctV b 1000 p1) (ctP b 1000 p1)
 let r:=insS b (ctV b 1000 p1) p3
 let q:=outsS b (ctV b 1000 r.2) (ctP b 1000 r.2)
 (⟨UInt32.ofNat (nmV b 4 (0,0)),none,r.1,0,none,q.1,0,UInt32.ofNat (nmV b 4 q.2)⟩,tkP b 4 q.2)
def txZ : TxR:=⟨0,none,[],0,none,[],0,0⟩
def tgetN (b : List UInt8) : TxR × Nat × Int:=if (tgetS b).2.2 = 0 then ((tgetS b).1,(tgetS b).2.1,0) else (txZ,0,(tgetS b).2.2)
def InR.pl (x : InR) : InR:={ x with A:=none,cap:=0 }
def OutR.pl (x : OutR) : OutR:={ x with A:=none,cap:=0 }
def TxR.pl (t : TxR) : TxR:=⟨t.ver,none,t.ins.map InR.pl,0,none,t.outs.map OutR.pl,0,t.lock⟩
theorem inS_le {b : List UInt8} {p : SP} (h : p.1 ≤ b.length) : (inS b p).2.1 ≤ b.length:=tkP_le (scP_le (tkP_le (tkP_le h)))
theorem outS_le {b : List UInt8} {p : SP} (h : p.1 ≤ b.length) : (outS b p).2.1 ≤ b.length:=scP_le (tkP_le h)
theorem insS_le {b : List UInt8} : ∀ (n : Nat) {p : SP},p.1 ≤ b.length → (insS b n p).2.1 ≤ b.length
 | 0,p,h => h
 | n + 1,p,h => by
   unfold insS;split
   ·exact insS_le n (inS_le h)
   ·exact h
theorem outsS_le {b : List UInt8} : ∀ (n : Nat) {p : SP},p.1 ≤ b.length → (outsS b n p).2.1 ≤ b.length
 | 0,p,h => h
 | n + 1,p,h => by
   unfold outsS;split
   ·exact outsS_le n (outS_le h)
   ·exact h
theorem numN_lt8 (b : List UInt8) (p : SP) : nmV b 8 p < 2 ^ 64:=by
 unfold nmV
 have h:=numN_lt (tkB b 8 p) (tkB b 8 p).length
 refine Nat.lt_of_lt_of_le h (Nat.pow_le_pow_right (by omega) ?_)
 rcases tkB_len b 8 p with q | q <;> rw [q] <;> simp
def RdN (X : Nat → Prop) (w : World) (A : Option Addr) (xs : List Value) : Prop:=xs = [] ∨ ∃ b off,A = some ⟨b,off,none⟩∧¬ X b∧∀ j (h : j < xs.length),w.cell? ⟨b,off + j,none⟩ = some xs[j]
theorem RdN.rd {X : Nat → Prop} {w : World} {A : Option Addr} {xs : List Value} (h : RdN X w A xs) : Rd w A xs:=h.imp id fun ⟨b,off,h1,_,h3⟩ => ⟨b,off,h1,h3⟩
theorem KeepX.cell {X : Nat → Prop} {w w' : World} (k : KeepX X w w') {g o : Nat} {v : Value} (h : w.cell? ⟨g,o,none⟩ = some v) (hn : ¬ X g) : w'.cell? ⟨g,o,none⟩ = some v:=by
 have hb:=k.2.2.2.2 g (cell_lt h) hn
 rw [← h];unfold World.cell?;simp only [hb]
theorem RdN.kx {X X' Y : Nat → Prop} {w w' : World} {A : Option Addr} {xs : List Value} (h : RdN X w A xs) (k : KeepX Y w w') (hY : ∀ g,g < w.heap.size → Y g → X g) (hX : ∀ g,g < w.heap.size → X' g → X g) : RdN X' w' A xs:=by
 rcases h with h | ⟨g,off,h1,h2,h3⟩
 ·exact .inl h
 ·by_cases hx : xs = []
  ·exact .inl hx
  have hlt:=cell_lt (h3 0 (List.length_pos_iff.2 hx))
  exact .inr ⟨g,off,h1,fun q => h2 (hX g hlt q),fun j hj => k.cell (h3 j hj) fun q => h2 (hY g hlt q)⟩
theorem RdN.of_own {X : Nat → Prop} {w : World} {base : Nat} {e : TypeId} {n c : Nat} {A : Option Addr} {xs : List Value} (h : w.ownsRow base e 1 (.slice A n c) n xs) (hX : ∀ g,base ≤ g → ¬ X g) : RdN X w A xs:=by
 rcases own_rd h with q | ⟨b,off,rfl,hc⟩
 ·exact .inl q
 ·exact .inr ⟨b,off,rfl,hX b (h.lt b rfl).1,hc⟩
theorem own_kx {X : Nat → Prop} {w w' : World} {base : Nat} {e : TypeId} {size : Nat} {v : Value} {n : Nat} {xs : List Value} (h : w.ownsRow base e size v n xs) (k : KeepX X w w') (hX : ∀ g,v.ownBlock = some g → ¬ X g) : w'.ownsRow base e size v n xs:=by
 refine ⟨h.1,h.2.imp id fun ⟨g,cap,cur,h1,h2,h3,rest⟩ => ⟨g,cap,cur,h1,h2,?_,rest⟩⟩
 rw [k.2.2.2.2 g (Array.getElem?_eq_some_iff.1 h3).1 (hX g (by rw [h1];rfl))];exact h3
def GX (S T D : Nat) (vi vo : Value) (k : Nat) : Prop:=k = S ∨ k = T ∨ vi.ownBlock = some k ∨ vo.ownBlock = some k ∨ k < D
theorem RdN.mid {w0 w W : World} {A : Option Addr} {xs : List Value} (h : RdN (fun k => k < w0.heap.size) w A xs) (hm : MidF (fun _ => True) w0 w W) : Rd W A xs:=by
 rcases h with h | ⟨b,off,rfl,hb,hc⟩
 ·exact .inl h
 ·exact Rd.mid (.inr ⟨b,off,rfl,hc⟩) (by omega) hm
structure GSt (S T D : Nat) (w0 w : World) (src : List Value) (ver : UInt32) (vi : Value) (ds : List InR) (vo : Value) (es : List OutR) : Prop where
 hs : Blk w S 145 src
 ht : Blk w T 47 [u32v ver,vi,vo,.int .u32 0]
 oi : w.ownsRow D 100 35 vi ds.length (ds.flatMap InR.cells)
 oo : w.ownsRow D 101 2 vo es.length (es.flatMap OutR.cells)
 ne : ∀ g,vi.ownBlock = some g → vo.ownBlock ≠ some g
 is : ∀ x ∈ ds,x.prev.length = 32∧(x.sc.length ≤ x.cap∧x.cap ≤ maxLen)∧RdN (GX S T D vi vo) w x.A (x.sc.map u8v)
 os : ∀ x ∈ es,x.val < 2 ^ 64∧(x.sc.length ≤ x.cap∧x.cap ≤ maxLen)∧RdN (GX S T D vi vo) w x.A (x.sc.map u8v)
 kx : KeepX (fun k => k = S ∨ k = T) w0 w
 st : S ≠ T∧S < D∧T < D∧D = w0.heap.size
section
variable {S T D : Nat} {w0 w w' : World} {src src' : List Value} {ver : UInt32} {vi vo : Value} {ds : List InR} {es : List OutR}
theorem GSt.size (h : GSt S T D w0 w src ver vi ds vo es) : w0.heap.size ≤ w.heap.size:=h.kx.2.2.2.1
theorem GSt.iS (h : GSt S T D w0 w src ver vi ds vo es) : ∀ g,vi.ownBlock = some g → D ≤ g∧g < w.heap.size:=fun g q => h.oi.lt g q
theorem GSt.oS (h : GSt S T D w0 w src ver vi ds vo es) : ∀ g,vo.ownBlock = some g → D ≤ g∧g < w.heap.size:=fun g q => h.oo.lt g q
theorem GSt.read (h : GSt S T D w0 w src ver vi ds vo es) (hb : Blk w' S 145 src') (k : KeepB S w w') : GSt S T D w0 w' src' ver vi ds vo es :=
 ⟨hb,h.ht.kx k (fun e => h.st.1 e.symm),own_kx h.oi k (fun g q e => by have:=(h.iS g q).1;have:=h.st.2.1;omega),own_kx h.oo k (fun g q e => by have:=(h.oS g q).1;have:=h.st.2.1;omega),h.ne,
  fun x hx => ⟨(h.is x hx).1,(h.is x hx).2.1,(h.is x hx).2.2.kx k (fun g _ q => .inl q) fun g _ q => q⟩,fun x hx => ⟨(h.os x hx).1,(h.os x hx).2.1,(h.os x hx).2.2.kx k (fun g _ q => .inl q) fun g _ q => q⟩,
  h.kx.trans k (fun _ _ q => .inl q),h.st⟩
theorem GSt.keep (h : GSt S T D w0 w src ver vi ds vo es) (k : Keep w w') : GSt S T D w0 w' src ver vi ds vo es:=h.read (h.hs.keep k) (KeepX.of k)
theorem GSt.far (h : GSt S T D w0 w src ver vi ds vo es) {g o : Nat} {v : Value} (hc : w0.cell? ⟨g,o,none⟩ = some v) (h1 : g ≠ S) (h2 : g ≠ T) : w.cell? ⟨g,o,none⟩ = some v :=
 h.kx.cell hc (by rintro (q | q);exact h1 q;exact h2 q)
theorem GSt.vers (h : GSt S T D w0 w src ver vi ds vo es) (ver' : UInt32) : GSt S T D w0 (w.setCell ⟨T,0,none⟩ (u32v ver')) src ver' vi ds vo es:=by
 have k2 : KeepX (fun k => k = T) w (w.setCell ⟨T,0,none⟩ (u32v ver')):=KeepB.set (KeepX.of (Below.refl _ _)) 0 _
 have hY : ∀ g,g < w.heap.size → g = T → GX S T D vi vo g:=fun g _ q => .inr (.inl q)
 exact ⟨h.hs.kx k2 h.st.1,h.ht.set_ 0 _,own_kx h.oi k2 (fun g q e => by have:=(h.iS g q).1;have:=h.st.2.2.1;omega),own_kx h.oo k2 (fun g q e => by have:=(h.oS g q).1;have:=h.st.2.2.1;omega),h.ne,
  fun x hx => ⟨(h.is x hx).1,(h.is x hx).2.1,(h.is x hx).2.2.kx k2 hY fun g _ q => q⟩,fun x hx => ⟨(h.os x hx).1,(h.os x hx).2.1,(h.os x hx).2.2.kx k2 hY fun g _ q => q⟩,
  h.kx.trans k2 (fun _ _ q => .inr q),h.st⟩
theorem GSt.inp (h : GSt S T D w0 w src ver vi ds vo es) {x : InR} {vi' : Value} (o' : w'.ownsRow D 100 35 vi' (ds.length + 1) (ds.flatMap InR.cells ++ x.cells)) (hg : w.grownBy w' vi.ownBlock) (hat : vi'.ownBlock = vi.ownBlock ∨ ∃ k,vi'.ownBlock = some k∧w.heap.size ≤ k)
  (hx : x.prev.length = 32∧(x.sc.length ≤ x.cap∧x.cap ≤ maxLen)∧RdN (GX S T D vi vo) w x.A (x.sc.map u8v)) : GSt S T D w0 (w'.setCell ⟨T,1,none⟩ vi') src ver vi' (ds ++ [x]) vo es:=by
 have hvT : vi.ownBlock ≠ some T:=fun q => by have:=(h.iS T q).1;have:=h.st.2.2.1;omega
 have hvS : vi.ownBlock ≠ some S:=fun q => by have:=(h.iS S q).1;have:=h.st.2.1;omega
 have k1 : KeepX (fun k => vi.ownBlock = some k) w w':=(KeepX.of (Below.refl _ _)).grown hg fun j _ q => q
 have k2 : KeepX (fun k => k = T ∨ vi.ownBlock = some k) w (w'.setCell ⟨T,1,none⟩ vi') :=
  ⟨k1.1,k1.2.1,k1.2.2.1,by simpa using k1.2.2.2.1,fun k hk hn => (Below.heap_setCell w' ⟨T,1,none⟩ vi' k (fun e => hn (.inl e))).trans (k1.2.2.2.2 k hk fun q => hn (.inr q))⟩
 have hXi : ∀ g,g < w.heap.size → GX S T D vi' vo g → GX S T D vi vo g:=fun g hlt q => by
  rcases q with q | q | q | q | q
  ·exact .inl q
  ·exact .inr (.inl q)
  ·rcases hat with e | ⟨m,e,hm⟩
   ·exact .inr (.inr (.inl (e ▸ q)))
   ·rw [e] at q;cases q;omega
  ·exact .inr (.inr (.inr (.inl q)))
  ·exact .inr (.inr (.inr (.inr q)))
 have hYi : ∀ g,g < w.heap.size → (g = T ∨ vi.ownBlock = some g) → GX S T D vi vo g:=fun g _ q => q.elim (fun q => .inr (.inl q)) fun q => .inr (.inr (.inl q))
 refine ⟨h.hs.kx k2 (by rintro (q | q);exact h.st.1 q;exact hvS q),?_,?_,own_kx h.oo k2 (fun g q e => ?_),fun g q e => ?_,fun y hy => ?_,fun y hy => ?_,?_,h.st⟩
 ·have:=(h.ht.kx k1 hvT).set_ 1 vi'
  exact this
 ·exact own_eq (ownsRow_setCell_below o' (a:=⟨T,1,none⟩) h.st.2.2.1 _) (by rw [List.length_append];rfl) (by rw [List.flatMap_append];simp)
 ·rcases e with e | e
  ·have:=(h.oS g q).1;have:=h.st.2.2.1;omega
  ·exact h.ne g e q
 ·rcases hat with e' | ⟨m,e',hm⟩
  ·exact h.ne g (e' ▸ q) e
  ·rw [e'] at q;cases q
   have:=(h.oS _ e).2;omega
 ·rcases List.mem_append.1 hy with q | q
  ·obtain ⟨a,b,c⟩:=h.is y q
   exact ⟨a,b,c.kx k2 hYi hXi⟩
  ·obtain rfl : y = x:=by simpa using q
   exact ⟨hx.1,hx.2.1,hx.2.2.kx k2 hYi hXi⟩
 ·obtain ⟨a,b,c⟩:=h.os y hy
  exact ⟨a,b,c.kx k2 hYi hXi⟩
 ·exact h.kx.trans k2 fun j hj q => by
   rcases q with q | q
   ·exact .inr q
   ·have:=(h.iS j q).1;have:=h.st.2.2.2;omega
theorem GSt.outp (h : GSt S T D w0 w src ver vi ds vo es) {x : OutR} {vo' : Value} (o' : w'.ownsRow D 101 2 vo' (es.length + 1) (es.flatMap OutR.cells ++ x.cells)) (hg : w.grownBy w' vo.ownBlock) (hat : vo'.ownBlock = vo.ownBlock ∨ ∃ k,vo'.ownBlock = some k∧w.heap.size ≤ k)
  (hx : x.val < 2 ^ 64∧(x.sc.length ≤ x.cap∧x.cap ≤ maxLen)∧RdN (GX S T D vi vo) w x.A (x.sc.map u8v)) : GSt S T D w0 (w'.setCell ⟨T,2,none⟩ vo') src ver vi ds vo' (es ++ [x]):=by
 have hvT : vo.ownBlock ≠ some T:=fun q => by have:=(h.oS T q).1;have:=h.st.2.2.1;omega
 have hvS : vo.ownBlock ≠ some S:=fun q => by have:=(h.oS S q).1;have:=h.st.2.1;omega
 have k1 : KeepX (fun k => vo.ownBlock = some k) w w':=(KeepX.of (Below.refl _ _)).grown hg fun j _ q => q
 have k2 : KeepX (fun k => k = T ∨ vo.ownBlock = some k) w (w'.setCell ⟨T,2,none⟩ vo') :=
  ⟨k1.1,k1.2.1,k1.2.2.1,by simpa using k1.2.2.2.1,fun k hk hn => (Below.heap_setCell w' ⟨T,2,none⟩ vo' k (fun e => hn (.inl e))).trans (k1.2.2.2.2 k hk fun q => hn (.inr q))⟩
 have hXi : ∀ g,g < w.heap.size → GX S T D vi vo' g → GX S T D vi vo g:=fun g hlt q => by
  rcases q with q | q | q | q | q
  ·exact .inl q
  ·exact .inr (.inl q)
  ·exact .inr (.inr (.inl q))
  ·rcases hat with e | ⟨m,e,hm⟩
   ·exact .inr (.inr (.inr (.inl (e ▸ q))))
   ·rw [e] at q;cases q;omega
  ·exact .inr (.inr (.inr (.inr q)))
 have hYi : ∀ g,g < w.heap.size → (g = T ∨ vo.ownBlock = some g) → GX S T D vi vo g:=fun g _ q => q.elim (fun q => .inr (.inl q)) fun q => .inr (.inr (.inr (.inl q)))
 refine ⟨h.hs.kx k2 (by rintro (q | q);exact h.st.1 q;exact hvS q),?_,own_kx h.oi k2 (fun g q e => ?_),?_,fun g q e => ?_,fun y hy => ?_,fun y hy => ?_,?_,h.st⟩
 ·have:=(h.ht.kx k1 hvT).set_ 2 vo'
  exact this
 ·rcases e with e | e
  ·have:=(h.iS g q).1;have:=h.st.2.2.1;omega
  ·exact h.ne g q e
 ·exact own_eq (ownsRow_setCell_below o' (a:=⟨T,2,none⟩) h.st.2.2.1 _) (by rw [List.length_append];rfl) (by rw [List.flatMap_append];simp)
 ·rcases hat with e' | ⟨m,e',hm⟩
  ·exact h.ne g q (e' ▸ e)
  ·rw [e'] at e;cases e
   have:=(h.iS _ q).2;omega
 ·obtain ⟨a,b,c⟩:=h.is y hy
  exact ⟨a,b,c.kx k2 hYi hXi⟩
 ·rcases List.mem_append.1 hy with q | q
  ·obtain ⟨a,b,c⟩:=h.os y q
   exact ⟨a,b,c.kx k2 hYi hXi⟩
  ·obtain rfl : y = x:=by simpa using q
   exact ⟨hx.1,hx.2.1,hx.2.2.kx k2 hYi hXi⟩
 ·exact h.kx.trans k2 fun j hj q => by
   rcases q with q | q
   ·exact .inr q
   ·have:=(h.oS j q).1;have:=h.st.2.2.2;omega
end
end Go.Proofs.Ytbgpgdhndanigaa
