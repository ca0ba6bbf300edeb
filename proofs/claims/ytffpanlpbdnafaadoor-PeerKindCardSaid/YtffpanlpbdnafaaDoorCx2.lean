/- Texts merged by pack.py: Gr, Vd, MoG, Vi, Vj, ShP, HdA, HdE, Bd. -/
import Derived.Test.YtffpanlpbdnafaaDoorCx1
import Derived.Maps.Range
import Derived.Deep.MidRow
import Derived.Test.YtffpanlpbdnafaaDoorRows
import Derived.Deep.RegionHeld3
import Derived.Deep.DrawnRows
import Derived.Deep.DeepCutAuto
import Derived.Deep.RegionLaw
import Derived.Deep.WholeRow
import Derived.Lib.EndianBits
import Derived.Laws.ResultCell
import Derived.Stop.BytesEq
import Derived.Great.BuildSlice
/- A row that grows: what append may turn. -/
set_option linter.unusedSimpArgs false
set_option linter.unusedVariables false
namespace Go.Proofs.YtffpanlpbdnafaaDoor
open Go.RowKit
structure Gr (w : World) (v : Value) (w' : World) (v' : Value) : Prop where
 g : w.grownBy w' v.ownBlock
 f : v'.ownBlock = v.ownBlock ∨ ∃ k,v'.ownBlock = some k∧w.heap.size ≤ k
theorem Gr.refl (w : World) (v : Value) : Gr w v w v:=⟨World.grownBy.refl w _,.inl rfl⟩
theorem Gr.size {w w' : World} {v v' : Value} (h : Gr w v w' v') : w.heap.size ≤ w'.heap.size:=h.g.size
theorem Gr.trans {a b c : World} {u v x : Value} (h : Gr a u b v) (k : Gr b v c x) : Gr a u c x :=
 ⟨h.g.andThen k.g fun j hj => h.f.symm.imp (fun ⟨m,e,hm⟩ => by rw [e] at hj;cases hj;exact hm) (fun e => by rw [← e];exact hj),
  k.f.elim (fun e => h.f.imp (fun q => e.trans q) fun ⟨m,q,hm⟩ => ⟨m,e.trans q,hm⟩) fun ⟨m,q,hm⟩ => .inr ⟨m,q,Nat.le_trans h.size hm⟩⟩
theorem Gr.of_keep {a b : World} (k : Keep a b) (u : Value) : Gr a u b u:=⟨⟨k.os,k.tape,k.output,k.size,fun j hj _ => k.block j hj⟩,.inl rfl⟩
theorem Gr.keep {a b c : World} {u v : Value} (h : Gr a u b v) (k : Keep b c) : Gr a u c v:=h.trans (Gr.of_keep k v)
theorem Gr.alloc {a b : World} {u v : Value} (h : Gr a u b v) (o : Obj) : Gr a u (b.alloc o) v:=h.keep (keep_new _ _)
theorem Gr.app {a b c : World} {u v x : Value} (h : Gr a u b v) (hg : b.grownBy c v.ownBlock) (hat : x.ownBlock = v.ownBlock ∨ x.ownBlock = some b.heap.size) : Gr a u c x :=
 h.trans ⟨hg,hat.imp id fun e => ⟨_,e,Nat.le_refl _⟩⟩
theorem Gr.below {a b : World} {u v : Value} {B : Nat} {e : TypeId} {size n : Nat} {xs : List Value} (h : Gr a u b v) (ho : a.ownsRow B e size u n xs) (hB : B ≤ a.heap.size) : Below B a b:=by
 refine ⟨h.g.os,h.g.tape,h.g.output,h.size,fun k hk => h.g.block k (by omega) fun q => ?_⟩
 rcases ho.2 with ⟨rfl,_⟩ | ⟨g,cap,cur,rfl,hb,_⟩
 ·cases q
 ·have : k = g:=Option.some.inj q
  omega
theorem RdX.gr {a b : World} {u v : Value} {A : Option Addr} {xs : List Value} (h : RdX u.ownBlock a A xs) (k : Gr a u b v) : RdX v.ownBlock b A xs:=by
 rcases h with h | ⟨g,off,rfl,hne,hc⟩
 ·exact .inl h
 ·by_cases hx : xs = []
  ·exact .inl hx
  refine .inr ⟨g,off,rfl,?_,fun j hj => k.g.cell (hc j hj) fun q => hne q.symm⟩
  have hlt:=cell_lt (hc 0 (List.length_pos_iff.2 hx))
  rcases k.f with q | ⟨m,q,hm⟩
  ·rw [q];exact hne
  ·rw [q];intro e;cases e;omega
theorem Blk.gr {a b : World} {u v : Value} {g : Nat} {t : TypeId} {cs : List Value} (h : Blk a g t cs) (k : Gr a u b v) (hne : u.ownBlock ≠ some g) : Blk b g t cs∧v.ownBlock ≠ some g :=
 ⟨h.grown k.g hne,by
  rcases k.f with q | ⟨m,q,hm⟩
  ·rw [q];exact hne
  ·rw [q];intro e;cases e;have:=h.lt;omega⟩
def KeepX (X : Nat → Prop) (w w' : World) : Prop:=w'.os = w.os∧w'.tape = w.tape∧w'.output = w.output∧w.heap.size ≤ w'.heap.size∧∀ k,k < w.heap.size → ¬ X k → w'.heap[k]? = w.heap[k]?
theorem KeepX.of {X : Nat → Prop} {a b : World} (h : Keep a b) : KeepX X a b:=⟨h.os,h.tape,h.output,h.size,fun k hk _ => h.block k hk⟩
theorem KeepX.trans {X Y : Nat → Prop} {a b c : World} (h : KeepX X a b) (k : KeepX Y b c) (hY : ∀ j,j < a.heap.size → Y j → X j) : KeepX X a c :=
 ⟨k.1.trans h.1,k.2.1.trans h.2.1,k.2.2.1.trans h.2.2.1,Nat.le_trans h.2.2.2.1 k.2.2.2.1,fun j hj hn => (k.2.2.2.2 j (Nat.lt_of_lt_of_le hj h.2.2.2.1) (fun e => hn (hY j hj e))).trans (h.2.2.2.2 j hj hn)⟩
theorem KeepX.grown {X : Nat → Prop} {a b c : World} {row : Option Nat} (h : KeepX X a b) (hg : b.grownBy c row) (hr : ∀ j,j < a.heap.size → row = some j → X j) : KeepX X a c :=
 h.trans (Y:=fun j => row = some j) ⟨hg.os,hg.tape,hg.output,hg.size,fun j hj hn => hg.block j hj (fun e => hn e.symm)⟩ hr
theorem KeepX.keep {X : Nat → Prop} {w0 a b : World} (h : KeepX X a b) (k : Keep w0 a) (hX : ∀ j,X j → w0.heap.size ≤ j) : Keep w0 b :=
 ⟨h.1.trans k.os,h.2.1.trans k.tape,h.2.2.1.trans k.output,Nat.le_trans k.size h.2.2.2.1,fun j hj => (h.2.2.2.2 j (Nat.lt_of_lt_of_le hj k.size) (fun e => by have:=hX j e;omega)).trans (k.block j hj)⟩
theorem Blk.kx {X : Nat → Prop} {a b : World} {g : Nat} {t : TypeId} {cs : List Value} (h : Blk a g t cs) (k : KeepX X a b) (hn : ¬ X g) : Blk b g t cs:=(k.2.2.2.2 g h.lt hn).trans h
end Go.Proofs.YtffpanlpbdnafaaDoor
/- wire.number, count, taken. (printed by gen_vd.py) -/
set_option linter.unusedSimpArgs false
set_option linter.unusedVariables false
namespace Go.Proofs.YtffpanlpbdnafaaDoor
open Go.RowKit
attribute [local go_sem ↓] Go.wp_at_zero Go.wp_at_succ
def Apd (B : Nat) (v : Value) (n : Nat) (xs : List Value) (w : World) (e : Ending) (w' : World) : Prop:=∃ v',e = .returned v'∧w'.ownsRow B 5 1 v' n xs∧Gr w v w' v'
set_option maxRecDepth 100000 in
set_option maxHeartbeats 4000000 in
theorem wnum_any (B : Nat) (v : Value) (N : Nat) (xs : List Value) (n m : Nat) (w : World) (own : w.ownsRow B 5 1 v N xs) (hB : B ≤ w.heap.size) (hN : N ≤ 1000000000) (hm : m ≤ 8) :
  Calls Tryd.prog 63 #[v,u64v n,iv m] w (Apd B v (N + m) (xs ++ (loN n m).map u8v) w):=by
 have HB:=Lib.hid hB
 have Own0 : Hid (w.ownsRow B 5 1 v (N + 0) (xs ++ (loN n 0).map u8v)):=Lib.hid (own_eq own (by omega) (by simp [lo_zero]))
 clear own hB
 unfold Apd
 go_enter Tryd.func63,Tryd.ntmps63
 go_wp2_with fail
 go_loopw [0,9] (fun x c wr => ∃ k : Nat,k ≤ m∧c = .int .i64 k∧Hid (wr.ownsRow B 5 1 x (N + k) (xs ++ (loN n k).map u8v))∧Hid (Gr w v wr x)) (fun _ c _ => m - (intOf c).toNat)
 case atStart => exact ⟨0,Nat.zero_le _,rfl,Own0,Lib.hid (Gr.refl _ _)⟩
 case round =>
  obtain ⟨k,hk,rfl,Own1,Gr1⟩:=hrel
  by_cases hlt : k < m
  ·obtain ⟨x,hx⟩ : ∃ x : UInt8,x = UInt8.ofNat (n / 2 ^ (8 * k)):=⟨_,rfl⟩
   have hb : (n : Int) / 2 ^ (8 * k) % 256 = (x.toNat : Int):=by
    rw [hx,UInt8.toNat_ofNat',Int.natCast_emod,Int.natCast_ediv,Int.natCast_pow];rfl
   have HN:=Lib.hid (lo_succ n k)
   rw [← hx] at HN
   have d1 : (k : Int) < m:=by omega
   clear hx Own0
   go_wp2_with (at_builtin;refine wpList_app byteT (by rfl) _ _ (by rfl) B _ _ _ (by rfl) (Own1.out.alloc _) _ 1 1 [u8v x] (by rfl) (by rfl) (Rd.new _ _ _) (by simp [Value.oneCell']) (by omega) (by unfold maxLen;omega) (by have:=Gr1.out.size;have:=HB.out;simp;omega) ?_;intro v2 w2 ownv2 hgv2 hatv2;have Ownv2:=Lib.hid ownv2;have Grv2:=Lib.hid ((Gr1.out.alloc _).app hgv2 hatv2);clear ownv2 hgv2 hatv2)
   clear hb
   go_roundw
   case rel => exact ⟨k + 1,by omega,by go_num,Lib.hid (own_eq Ownv2.out (by omega) (by rw [HN.out];simp)),Grv2⟩
   case measure => simp [intOf];omega
  ·obtain rfl : k = m:=by omega
   have d1 : ¬ (k : Int) < k:=by omega
   go_wp2
   exact bodyPost_ret (by simp [results,Tryd.results63]) rfl ⟨_,rfl,Own1.out,Gr1.out⟩
set_option maxRecDepth 100000 in
set_option maxHeartbeats 4000000 in
theorem wcount_any (B : Nat) (v : Value) (N : Nat) (xs : List Value) (n : Nat) (w : World) (own : w.ownsRow B 5 1 v N xs) (hB : B ≤ w.heap.size) (hN : N ≤ 1000000000) (hn : n < 2 ^ 63) :
  Calls Tryd.prog 64 #[v,iv n] w (Apd B v (N + sizN n) (xs ++ (cptL n).map u8v) w):=by
 have HB:=Lib.hid hB
 have Own0:=Lib.hid own
 have C1 : Hid (∀ y,Calls Tryd.prog 82 #[.slice none 0 0,u64v n] y fun e w' => ∃ v,e = .returned v∧w'.ownsRow y.heap.size 5 1 v (sizN n) ((cptL n).map u8v)∧Keep y w'):=Lib.hid fun y => cput_any n (by omega) y
 have hs:=siz_le n
 have HL : Hid (((cptL n).map u8v).length = sizN n * 1):=Lib.hid (by rw [List.length_map,cpt_len];omega)
 have HO:=Lib.hid (one_bytes (cptL n))
 generalize (cptL n).map u8v = C at *
 generalize sizN n = s at *
 have hw : IntKind.u64.wrap (n : Int) = (n : Int):=by rw [IntKind.wrap_u64];omega
 clear own hB hn
 unfold Apd
 go_enter Tryd.func64,Tryd.ntmps64
 go_wp2_with fail
 refine (C1.out _).mono ?_
 clear C1
 rintro e w1 ⟨vc,rfl,hown,k1⟩
 obtain ⟨A1,c1,rfl,-,-,-⟩:=own_form hown
 have Gr1:=Lib.hid (Gr.of_keep k1 v)
 have Own1:=Lib.hid (own_keep Own0.out k1)
 have RC:=Lib.hid (own_rd hown)
 clear hown k1 Own0
 go_wp2_with (at_builtin;refine wpList_app byteT (by rfl) _ _ (by rfl) B _ _ _ (by rfl) Own1.out _ s _ C (by rfl) HL.out RC.out HO.out (by omega) (by unfold maxLen;omega) (by have:=Gr1.out.size;have:=HB.out;omega) ?_;intro v2 w2 ownv2 hgv2 hatv2;have Ownv2:=Lib.hid ownv2;have Grv2:=Lib.hid (Gr1.out.app hgv2 hatv2);clear ownv2 hgv2 hatv2)
 exact bodyPost_ret (v:=v2) (by simp [results,Tryd.results64]) rfl ⟨_,rfl,Ownv2.out,Grv2.out⟩
set_option maxRecDepth 100000 in
set_option maxHeartbeats 4000000 in
theorem taken_any (A : Option Addr) (b : List UInt8) (c m : Nat) (w : World) (hl : b.length ≤ 4611686018427387904) (hm : m ≤ 8) (hr : Rd w A (b.map u8v)) :
  Calls Tryd.prog 69 #[.slice A b.length c,iv m] w fun e w' => e = .returned (.tuple #[u64v (if b.length < m then 0 else numN b m),iv (if b.length < m then 1 else 0)])∧w = w':=by
 by_cases hlm : b.length < m
 ·rw [if_pos hlm,if_pos hlm]
  have d1 : (b.length : Int) < m:=by omega
  go_enter Tryd.func69,Tryd.ntmps69
  go_wp2
  exact bodyPost_ret (v:=.tuple #[u64v 0,iv 1]) (by simp [results,Tryd.results69]) rfl ⟨rfl,rfl⟩
 rw [if_neg hlm,if_neg hlm]
 have d1 : ¬ (b.length : Int) < m:=by omega
 have HC : Hid (∀ k,k < m → ∃ g off,A = some ⟨g,off,none⟩∧w.cell? ⟨g,off + k,none⟩ = some (u8v (b.getD k 0))):=Lib.hid fun k hk => by
  obtain ⟨g,off,h1,h2,h3⟩:=hr.at (k:=k) (by simp;omega)
  refine ⟨g,off,h1,?_⟩
  rw [h3 k (by simp;omega)]
  simp [List.getD_eq_getElem?_getD,List.getElem?_eq_getElem (show k < b.length by omega)]
 have HN : Hid (∀ k,numN b k < 2 ^ (8 * k)∧numN b (k + 1) = numN b k + (b.getD k 0).toNat * 2 ^ (8 * k)):=Lib.hid fun k => ⟨numN_lt b k,rfl⟩
 have HN0 : Hid (numN b 0 = 0):=Lib.hid rfl
 clear hr
 have hlm2 : m ≤ b.length:=by omega
 clear hlm
 generalize b.length = L at *
 obtain ⟨nt,hnt⟩ : ∃ f,numN b = f:=⟨_,rfl⟩
 obtain ⟨tt,htt⟩ : ∃ f : Nat → UInt8,(fun k => b.getD k 0) = f:=⟨_,rfl⟩
 have htt' : ∀ k,b.getD k 0 = tt k:=fun k => by rw [← htt]
 rw [hnt] at HN HN0 ⊢
 simp only [htt'] at HC HN
 clear hnt htt htt'
 go_enter Tryd.func69,Tryd.ntmps69
 go_wp2_with fail
 clear d1
 go_loopw [6,13] (fun v c wr => ∃ k : Nat,k ≤ m∧c = .int .i64 k∧v = .int .u64 (nt k : Nat)∧w = wr) (fun _ c _ => m - (intOf c).toNat)
 case atStart => exact ⟨0,Nat.zero_le _,rfl,by rw [HN0.out];rfl,rfl⟩
 case round =>
  obtain ⟨k,hk,rfl,rfl,rfl⟩:=hrel
  by_cases hlt : k < m
  ·obtain ⟨g,off,rfl,c0⟩:=HC.out k hlt
   obtain ⟨h1,h2⟩:=HN.out k
   have hy:=(tt k).toNat_lt
   have hor:=u64_or (nt k) (tt k).toNat k (by omega) h1 (by omega)
   rw [← h2] at hor
   have d1 : (k : Int) < L:=by omega
   clear h1 h2
   obtain ⟨n1,hn1⟩ : ∃ n1,nt (k + 1) = n1:=⟨_,rfl⟩
   rw [hn1] at hor
   have HNX : Hid (n1 = nt (k + 1)):=Lib.hid hn1.symm
   clear hn1
   generalize nt k = n0 at *
   generalize tt k = y at *
   go_wp2
   go_roundw
   case rel => exact ⟨k + 1,by omega,by go_num,by rw [← HNX.out],by first | rfl | trivial⟩
   case measure => simp [intOf];omega
  ·obtain rfl : k = m:=by omega
   have d2 : ¬ (k : Int) < k:=by omega
   obtain ⟨n,hn⟩ : ∃ n,nt k = n:=⟨_,rfl⟩
   rw [hn]
   have HNN:=Lib.hid hn
   clear HC HN HN0 hn
   go_wp2
   exact bodyPost_ret (v:=.tuple #[u64v n,iv 0]) (by simp [results,Tryd.results69]) rfl ⟨by rw [← HNN.out],rfl⟩
end Go.Proofs.YtffpanlpbdnafaaDoor
/- XMov's theory once more, where one block may turn: the one that is appended to. By the program gen_mog.py. -/
set_option linter.unusedSimpArgs false
set_option linter.unusedVariables false
namespace Go.Proofs.YtffpanlpbdnafaaDoor.G
open Go.RowKit
class Mk where
 m : Option Nat
theorem grown_of_keep {a b : World} (h : Keep a b) (row : Option Nat) : a.grownBy b row:=⟨h.os,h.tape,h.output,h.size,fun k hk _ => h.block k hk⟩
variable [MM : Mk]
def Gr (w w' : World) : Prop:=w.grownBy w' MM.m
theorem Gr.refl (w : World) : Gr w w:=⟨rfl,rfl,rfl,Nat.le_refl _,fun _ _ _ => rfl⟩
theorem Gr.drew (w : World) : Gr w { w with drawn:=w.drawn + 1 }:=⟨rfl,rfl,rfl,Nat.le_refl _,fun _ _ _ => rfl⟩
theorem Gr.trans {a b c : World} (h : Gr a b) (k : Gr b c) : Gr a c:=World.grownBy.trans h k
theorem Gr.of_keep {a b : World} (h : Keep a b) : Gr a b:=⟨h.os,h.tape,h.output,h.size,fun k hk _ => h.block k hk⟩
open Classical in
noncomputable def aftG (w x : World) : World:=if Gr w x then x else w
theorem aftG_keep (w x : World) : Gr w (aftG w x):=by
 unfold aftG;split
 ·assumption
 ·exact Gr.refl _
theorem aftG_of {w w' : World} (h : Gr w w') : w' = aftG w w':=by unfold aftG;rw [if_pos h]
theorem aftG_cell {w : World} {b o : Nat} {v : Value} (h : w.cell? ⟨b,o,none⟩ = some v) (hne : MM.m ≠ some b) : ∀ x,(aftG w x).cell? ⟨b,o,none⟩ = some v:=fun x => grown_cell (aftG_keep w x) h hne
theorem aftG_blk {w : World} {g : Nat} {t : TypeId} {cs : List Value} (h : Blk w g t cs) (hne : MM.m ≠ some g) (x : World) : Blk (aftG w x) g t cs:=h.grown (aftG_keep w x) hne
section
variable {P : Program} {ops : Array Oper} {Q : Exit → Act → World → Prop} {tl : List Nat}
def wpAnyK (P : Program) (ops : Array Oper) (Q : Exit → Act → World → Prop) (tl : List Nat) : Nat → Array Bool → Act → World → Prop
 | 0,listed,a,w => Region.ready .any ops listed = []∧Q .normal a w
 | n + 1,listed,a,w => (Region.ready .any ops listed = [] → Q .normal a w) ∧
   ∀ i ∈ Region.ready .any ops listed,wpOp P ops Q i (fun a' w' => (i ∉ tl → Gr w w')∧wpAnyK P ops Q tl n (listed.setIfInBounds i true) a' w') a w
theorem wpAny_of_K : ∀ (n : Nat) (listed : Array Bool) (a : Act) (w : World),wpAnyK P ops Q tl n listed a w → wpAny P .any ops Q n listed a w
 | 0,_,_,_,h => h
 | n + 1,_,_,_,h => ⟨h.1,fun i hi => wpOp_mono (fun a' w' h' => wpAny_of_K n _ a' w' h'.2) (h.2 i hi)⟩
theorem wpAnyK_first (hs : Region.noSelect ops = true) {i : Nat} {oi : Oper} {v : Value} (hi : ops[i]? = some oi) (hQ : ∀ c a w,Q (.panic c) (a.put oi.dst v) w → Q (.panic c) a w)
  {S : World → Prop} (hk : ∀ w w',S w → Gr w w' → S w') (hr : (∀ j ∈ tl,reachB ops j i = true) ∨ ∀ w,S w) : ∀ (fuel : Nat) (listed : Array Bool) (a : Act) (w : World),Closed ops listed →
   (∀ j oj,ops[j]? = some oj → j ≠ i → listed.getD j true = false → (∀ e ∈ oj.after,Region.binds .any e = true → e.on ≠ i) → oi.apart ops oj = true) →
   i ∈ Region.ready .any ops listed → YieldsIf P ops S oi v a → S w →
   wpAnyK P ops Q tl fuel (listed.setIfInBounds i true) (a.put oi.dst v) w → wpAnyK P ops Q tl (fuel + 1) listed a w:=by
 intro fuel
 have hsel:=fun j o cs b (h : ops[j]? = some o) => Region.noSelect_spec hs j o cs b h
 induction fuel with
 | zero =>
   intro listed a w _ _ hri hy hS H
   refine ⟨fun h => absurd hri (by rw [h];simp),fun j hj => ?_⟩
   by_cases hji : j = i
   ·subst hji;exact hy.wpOp hi hS ⟨fun _ => Gr.refl _,H⟩
   ·have:=ready_mono hj hji
    rw [H.1] at this
    cases this
 | succ fuel ih =>
   intro listed a w hc hfree hri hy hS H
   refine ⟨fun h => absurd hri (by rw [h];simp),fun j hj => ?_⟩
   by_cases hji : j = i
   ·subst hji;exact hy.wpOp hi hS ⟨fun _ => Gr.refl _,H⟩
   ·have h1:=H.2 j (ready_mono hj hji)
    obtain ⟨hjun,oj,hoj,hall⟩:=mem_ready.1 hj
    have hiun:=(mem_ready.1 hri).1
    have hnot : ∀ e ∈ oj.after,Region.binds .any e = true → e.on ≠ i:=fun e he hb heq => by
     have h1:=hall e he hb
     rw [heq,getD_tf hiun] at h1
     cases h1
    have hjt : j ∉ tl ∨ ∀ w,S w:=hr.imp (fun hr hjt => by
     have:=reach_listed hc j i (fun k hk => ready_waits hj hk) (hr j hjt)
     rw [getD_tf hiun] at this
     cases this) id
    have h2:=wpOp_putIf hoj (hfree j oj hoj hji hjun hnot) (fun cs b => hsel i oi cs b hi) (fun cs b => hsel j oj cs b hoj) hQ hy h1
    have hfree' : ∀ k ok,ops[k]? = some ok → k ≠ i → (listed.setIfInBounds j true).getD k true = false →
      (∀ e ∈ ok.after,Region.binds .any e = true → e.on ≠ i) → oi.apart ops ok = true:=fun k ok hk hki hun hno => by
     refine hfree k ok hk hki ?_ hno
     by_cases hjk : j = k
     ·subst hjk;exact hjun
     ·rw [getD_set_ne true hjk] at hun;exact hun
    refine wpOp_mono (fun a' w' h3 => ⟨fun hn => h3.2.1 hn,ih (listed.setIfInBounds j true) a' w' (hc.set_ hj) hfree' (ready_mono hri (Ne.symm hji)) h3.1 (hjt.elim (fun hn => hk _ _ hS (h3.2.1 hn)) (fun h => h _)) ?_⟩) h2
    rw [Array.setIfInBounds_comm _ _ hji]
    exact h3.2.2
def freeB (o : Oper) : Bool :=
 match o.op with
 | .move _ | .assign _ | .extract .. => true
 | _ => false
def takesB (ops : Array Oper) (tl : List Nat) : List Nat → Array Bool → Bool
 | [],_ => true
 | i :: l,listed => (Region.ready .any ops listed).contains i && Region.free .any ops listed i && (match ops[i]? with | some o => plainB o | none => false) && ((match ops[i]? with | some o => freeB o | none => false) || tl.all fun j => reachB ops j i) && takesB ops tl l (listed.setIfInBounds i true)
def forceB (ops : Array Oper) : List Nat → Array Bool → Bool
 | [],_ => true
 | i :: l,listed => decide (Region.ready .any ops listed = [i]) && forceB ops l (listed.setIfInBounds i true)
def wpForce (P : Program) (ops : Array Oper) (Q : Exit → Act → World → Prop) (N : Act → World → Prop) : List Oper → Act → World → Prop
 | [],a,w => N a w
 | o :: l,a,w => if Region.wanted o (yielded ops a.tmps) then (∀ K : Act → World → Prop,(∀ a' w',Gr w w' → wpForce P ops Q N l a' w' → K a' w') → o.wp P a w K Q) else wpForce P ops Q N l (a.put o.dst undef) w
theorem wpAnyK_tail (t0 : List Nat) : ∀ (t : List Nat) (T : List Oper) (listed : Array Bool) (a : Act) (w : World),(∀ i ∈ t,i ∈ t0) → forceB ops t listed = true → Region.ready .any ops (setAll listed t) = [] →
  (∀ (k : Nat),T[k]? = (t[k]?).bind (fun (i : Nat) => ops[i]?)) → wpList P ops Q T a w → wpAnyK P ops Q t0 t.length listed a w
 | [],T,listed,a,w,_,_,he,hT,hw => by
   have : T = []:=by cases T with
    | nil => rfl
    | cons x T => have:=hT 0;simp at this
   subst this
   exact ⟨he,hw⟩
 | t :: l,T,listed,a,w,h0,hB,he,hT,hw => by
   simp only [forceB,Bool.and_eq_true,decide_eq_true_eq] at hB
   refine ⟨fun h0 => (by rw [hB.1] at h0;cases h0),fun i hi => ?_⟩
   rw [hB.1] at hi
   obtain rfl : i = t:=by simpa using hi
   have hlt : i < ops.size:=by
    have hr : i ∈ Region.ready .any ops listed:=by rw [hB.1];simp
    obtain ⟨o,ho,_⟩:=(mem_ready.1 hr).2
    exact (Array.getElem?_eq_some_iff.1 ho).1
   cases T with
   | nil => have:=hT 0;simp [hlt] at this
   | cons o T =>
     have ho : ops[i]? = some o:=by have:=hT 0;simpa using this.symm
     have hw' : wpOp P ops Q i (wpList P ops Q T) a w:=by unfold wpOp;simp only [ho];exact hw
     exact wpOp_mono (fun a' w' h' => ⟨fun hn => absurd (h0 i (by simp)) hn,wpAnyK_tail t0 l T _ a' w' (fun j hj => h0 j (by simp [hj])) hB.2 he (fun k => by have:=hT (k + 1);simpa using this) h'⟩) hw'
theorem wpAnyK_force (g : Nat) {N : Act → World → Prop} : ∀ (l : List Nat) (L : List Oper) (listed : Array Bool) (a : Act) (w : World),Closed ops listed → forceB ops l listed = true →
  (∀ (k : Nat),L[k]? = (l[k]?).bind (fun (i : Nat) => ops[i]?)) → (∀ a w,Closed ops (setAll listed l) → N a w → wpAnyK P ops Q tl g (setAll listed l) a w) → wpForce P ops Q N L a w → wpAnyK P ops Q tl (g + l.length) listed a w
 | [],L,listed,a,w,hc,_,hL,hN,h => by
   have : L = []:=by cases L with
    | nil => rfl
    | cons x T => have:=hL 0;simp at this
   subst this
   exact hN a w hc h
 | t :: l,L,listed,a,w,hc,hB,hL,hN,h => by
   simp only [forceB,Bool.and_eq_true,decide_eq_true_eq] at hB
   refine ⟨fun h0 => (by rw [hB.1] at h0;cases h0),fun i hi => ?_⟩
   have hi':=hi
   rw [hB.1] at hi
   obtain rfl : i = t:=by simpa using hi
   have hlt : i < ops.size:=by
    obtain ⟨o,ho,_⟩:=(mem_ready.1 hi').2
    exact (Array.getElem?_eq_some_iff.1 ho).1
   cases L with
   | nil => have:=hL 0;simp [hlt] at this
   | cons o L =>
     have ho : ops[i]? = some o:=by have:=hL 0;simpa using this.symm
     have go:=fun (a' : Act) (w' : World) (h' : wpForce P ops Q N L a' w') => wpAnyK_force g l L (listed.setIfInBounds i true) a' w' (hc.set_ hi') hB.2 (fun k => by have:=hL (k + 1);simpa using this) hN h'
     unfold wpOp
     simp only [ho]
     unfold wpForce at h
     split at h
     ·rename_i hwt
      rw [if_pos hwt]
      exact .inl (h _ fun a' w' hk h' => ⟨fun _ => hk,go a' w' h'⟩)
     ·rename_i hwt
      rw [if_neg hwt]
      exact ⟨fun _ => Gr.refl _,go _ _ h⟩
theorem wpAnyK_takes (hs : Region.noSelect ops = true) (hQ : ∀ c a x v w,Q (.panic c) (a.put x v) w → Q (.panic c) a w) (g : Nat) (w w0 : World) (hw : Gr w0 w) : ∀ (l : List Nat) (L : List Oper) (listed : Array Bool) (a : Act),Closed ops listed → takesB ops tl l listed = true →
  (∀ (k : Nat),L[k]? = (l[k]?).bind (fun (i : Nat) => ops[i]?)) → wpQuiet P ops (fun w' => ∃ x,w' = aftG w0 x) (fun a' => Closed ops (setAll listed l) → wpAnyK P ops Q tl g (setAll listed l) a' w) L a → wpAnyK P ops Q tl (g + l.length) listed a w
 | [],L,listed,a,hc,_,hL,h => by
   have : L = []:=by cases L with
    | nil => rfl
    | cons x T => have:=hL 0;simp at this
   subst this
   exact h hc
 | i :: l,L,listed,a,hc,hB,hL,h => by
   simp only [takesB,Bool.and_eq_true] at hB
   obtain ⟨⟨⟨⟨hr,hf⟩,hpl⟩,hre⟩,hB⟩:=hB
   have hr' : i ∈ Region.ready .any ops listed:=by simpa using hr
   have hi : i < ops.size:=by
    obtain ⟨o,ho,_⟩:=(mem_ready.1 hr').2
    exact (Array.getElem?_eq_some_iff.1 ho).1
   cases L with
   | nil => have:=hL 0;simp [hi] at this
   | cons o L =>
     have ho : ops[i]? = some o:=by have:=hL 0;simpa using this.symm
     rw [ho] at hpl
     have h1 : qOp P ops (fun w' => ∃ x,w' = aftG w0 x) i (wpQuiet P ops (fun w' => ∃ x,w' = aftG w0 x) (fun a' => Closed ops (setAll listed (i :: l)) → wpAnyK P ops Q tl g (setAll listed (i :: l)) a' w) L) a:=by unfold qOp;simp only [ho];exact h
     obtain ⟨v,hy,h⟩:=yieldsIn_of_qOp ho h1
     have hy' : YieldsIf P ops (fun w' => Gr w0 w') o v a:=by
      rcases hy with ⟨h2,h3⟩ | h2
      ·exact .inl ⟨h2,fun w hw => plain_run hpl (h3 w ⟨_,aftG_of hw⟩)⟩
      ·exact .inr h2
     have:=wpAnyK_takes hs hQ g w w0 hw l L (listed.setIfInBounds i true) (a.put o.dst v) (hc.set_ hr') hB (fun k => by have:=hL (k + 1);simpa using this) h
     rw [ho,Bool.or_eq_true] at hre
     rcases hre with hre | hre
     ·have hy2 : YieldsIf P ops (fun _ => True) o v a:=by
       rcases hy' with ⟨h2,h3⟩ | h2
       ·exact .inl ⟨h2,fun w' _ => free_run hre (h3 w hw) w'⟩
       ·exact .inr h2
      exact wpAnyK_first hs ho (fun c a w => hQ c a _ _ w) (fun _ _ _ _ => trivial) (.inr fun _ => trivial) _ listed a w hc (Region.free_spec ho hf) hr' hy2 trivial this
     ·exact wpAnyK_first hs ho (fun c a w => hQ c a _ _ w) (fun _ _ h1 h2 => Gr.trans h1 h2) (.inl fun j hj => List.all_eq_true.1 hre j hj) _ listed a w hc (Region.free_spec ho hf) hr' hy' hw this
def total : List (Bool × List Nat) → Nat
 | [] => 0
 | (_,l) :: r => total r + l.length
end
section
variable {P : Program} {ops : Array Oper} {Q : Exit → Act → World → Prop} {T l : List Oper} {r : List (Bool × List Oper)} {o : Oper} {a : Act} {w : World} {N : Act → World → Prop}
theorem fc_nil (h : N a w) : wpForce P ops Q N [] a w:=h
theorem fc_step (hw : Region.wanted o (yielded ops a.tmps) = true) (h : ∀ K : Act → World → Prop,(∀ a' w',Gr w w' → wpForce P ops Q N l a' w' → K a' w') → o.wp P a w K Q) : wpForce P ops Q N (o :: l) a w:=by
 unfold wpForce;rw [if_pos hw];exact h
end
inductive Mv where
 | done
 | take (l : List Nat) (r : Mv)
 | force (l : List Nat) (r : Mv)
 | fork (i : Nat) (ri : Mv) (j : Nat) (rj : Mv)
 | fork3 (i : Nat) (ri : Mv) (j : Nat) (rj : Mv) (k : Nat) (rk : Mv)
def Mv.total : Mv → Nat
 | .done => 0
 | .take l r => r.total + l.length
 | .force l r => r.total + l.length
 | .fork _ ri _ _ => ri.total + 1
 | .fork3 _ ri _ _ _ _ => ri.total + 1
def Mv.okB (ops : Array Oper) (tl : List Nat) : Mv → Array Bool → Bool
 | .done,listed => forceB ops tl listed && decide (Region.ready .any ops (setAll listed tl) = [])
 | .take l r,listed => (l.all (· < ops.size)) && takesB ops tl l listed && r.okB ops tl (setAll listed l)
 | .force l r,listed => (l.all (· < ops.size)) && forceB ops l listed && r.okB ops tl (setAll listed l)
 | .fork i ri j rj,listed => decide (i < ops.size) && decide (j < ops.size) && decide (Region.ready .any ops listed = [i,j]) && decide (ri.total = rj.total) && ri.okB ops tl (listed.setIfInBounds i true) && rj.okB ops tl (listed.setIfInBounds j true)
 | .fork3 i ri j rj k rk,listed => decide (i < ops.size) && decide (j < ops.size) && decide (k < ops.size) && decide (Region.ready .any ops listed = [i,j,k]) && decide (ri.total = rj.total) && decide (ri.total = rk.total) && ri.okB ops tl (listed.setIfInBounds i true) && rj.okB ops tl (listed.setIfInBounds j true) && rk.okB ops tl (listed.setIfInBounds k true)
def Mv.wp (P : Program) (l0 : List Oper) (Q : Exit → Act → World → Prop) (T : List Oper) : Mv → Act → World → Prop
 | .done,a,w => wpList P l0.toArray Q T a w
 | .take l r,a,w => ∃ w0,Gr w0 w∧wpQuiet P l0.toArray (fun w' => ∃ x,w' = aftG w0 x) (fun a' => r.wp P l0 Q T a' w) (pick l0 l) a
 | .force l r,a,w => wpForce P l0.toArray Q (r.wp P l0 Q T) (pick l0 l) a w
 | .fork i ri j rj,a,w => wpForce P l0.toArray Q (ri.wp P l0 Q T) [nth l0 i] a w∧wpForce P l0.toArray Q (rj.wp P l0 Q T) [nth l0 j] a w
 | .fork3 i ri j rj k rk,a,w => wpForce P l0.toArray Q (ri.wp P l0 Q T) [nth l0 i] a w∧wpForce P l0.toArray Q (rj.wp P l0 Q T) [nth l0 j] a w∧wpForce P l0.toArray Q (rk.wp P l0 Q T) [nth l0 k] a w
section
variable {P : Program} {Q : Exit → Act → World → Prop} {tl : List Nat} {l0 : List Oper}
theorem one_force {ops : Array Oper} {N : Act → World → Prop} {i : Nat} {o : Oper} (ho : ops[i]? = some o) {listed : Array Bool} {a : Act} {w : World} {g : Nat} (hN : ∀ a w,N a w → wpAnyK P ops Q tl g (listed.setIfInBounds i true) a w)
  (h : wpForce P ops Q N [o] a w) : wpOp P ops Q i (fun a' w' => (i ∉ tl → Gr w w')∧wpAnyK P ops Q tl g (listed.setIfInBounds i true) a' w') a w:=by
 unfold wpOp
 simp only [ho]
 unfold wpForce at h
 split at h
 ·rename_i hwt
  rw [if_pos hwt]
  exact .inl (h _ fun a' w' hk h' => ⟨fun _ => hk,hN _ _ h'⟩)
 ·rename_i hwt
  rw [if_neg hwt]
  exact ⟨fun _ => Gr.refl _,hN _ _ h⟩
theorem Mv.sound (hs : Region.noSelect l0.toArray = true) (hQ : ∀ c a x v w,Q (.panic c) (a.put x v) w → Q (.panic c) a w) (htl : ∀ i ∈ tl,i < l0.length) : ∀ (mv : Mv) (listed : Array Bool) (a : Act) (w : World),Closed l0.toArray listed → mv.okB l0.toArray tl listed = true →
  mv.wp P l0 Q (pick l0 tl) a w → wpAnyK P l0.toArray Q tl (mv.total + tl.length) listed a w
 | .done,listed,a,w,hc,hB,h => by
   simp only [Mv.okB,Bool.and_eq_true,decide_eq_true_eq] at hB
   rw [Mv.total,Nat.zero_add]
   exact wpAnyK_tail tl tl (pick l0 tl) listed a w (fun _ h => h) hB.1 hB.2 (filter_get tl htl).2 h
 | .take l r,listed,a,w,hc,hB,h => by
   simp only [Mv.okB,Bool.and_eq_true] at hB
   obtain ⟨⟨hin,htk⟩,hB⟩:=hB
   obtain ⟨w0,hw0,hq⟩:=h
   have hl : ∀ i ∈ l,i < l0.length:=fun i hi => by simpa using List.all_eq_true.1 hin i hi
   rw [show (Mv.take l r).total + tl.length = (r.total + tl.length) + l.length by show r.total + l.length + tl.length = _;omega]
   exact wpAnyK_takes hs hQ _ w w0 hw0 l (pick l0 l) listed a hc htk (filter_get l hl).2 (quiet_mono' (fun a' h' hc' => Mv.sound hs hQ htl r _ a' w hc' hB h') _ _ hq)
 | .force l r,listed,a,w,hc,hB,h => by
   simp only [Mv.okB,Bool.and_eq_true] at hB
   obtain ⟨⟨hin,hfo⟩,hB⟩:=hB
   have hl : ∀ i ∈ l,i < l0.length:=fun i hi => by simpa using List.all_eq_true.1 hin i hi
   rw [show (Mv.force l r).total + tl.length = (r.total + tl.length) + l.length by show r.total + l.length + tl.length = _;omega]
   exact wpAnyK_force _ l (pick l0 l) listed a w hc hfo (filter_get l hl).2 (fun a' w' hc' h' => Mv.sound hs hQ htl r _ a' w' hc' hB h') h
 | .fork i ri j rj,listed,a,w,hc,hB,h => by
   simp only [Mv.okB,Bool.and_eq_true,decide_eq_true_eq] at hB
   obtain ⟨⟨⟨⟨⟨hi,hj⟩,hr⟩,ht⟩,hBi⟩,hBj⟩:=hB
   obtain ⟨h1,h2⟩:=h
   have hoi : l0.toArray[i]? = some (nth l0 i):=by simp at hi ⊢;simp [nth,hi]
   have hoj : l0.toArray[j]? = some (nth l0 j):=by simp at hj ⊢;simp [nth,hj]
   have hri : i ∈ Region.ready .any l0.toArray listed:=by rw [hr];simp
   have hrj : j ∈ Region.ready .any l0.toArray listed:=by rw [hr];simp
   rw [show (Mv.fork i ri j rj).total + tl.length = (ri.total + tl.length) + 1 by show ri.total + 1 + tl.length = _;omega]
   refine ⟨fun h0 => (by rw [hr] at h0;cases h0),fun k hk => ?_⟩
   rw [hr] at hk
   have hk' : k = i ∨ k = j:=by simpa using hk
   by_cases hki : k = i
   ·subst hki
    exact one_force hoi (fun a' w' h' => Mv.sound hs hQ htl ri _ a' w' (hc.set_ hri) hBi h') h1
   ·obtain rfl : k = j:=hk'.resolve_left hki
    rw [ht]
    exact one_force hoj (fun a' w' h' => Mv.sound hs hQ htl rj _ a' w' (hc.set_ hrj) hBj h') h2
 | .fork3 i ri j rj k rk,listed,a,w,hc,hB,h => by
   simp only [Mv.okB,Bool.and_eq_true,decide_eq_true_eq] at hB
   obtain ⟨⟨⟨⟨⟨⟨⟨⟨hi,hj⟩,hk⟩,hr⟩,ht⟩,ht2⟩,hBi⟩,hBj⟩,hBk⟩:=hB
   obtain ⟨h1,h2,h3⟩:=h
   have hoi : l0.toArray[i]? = some (nth l0 i):=by simp at hi ⊢;simp [nth,hi]
   have hoj : l0.toArray[j]? = some (nth l0 j):=by simp at hj ⊢;simp [nth,hj]
   have hok : l0.toArray[k]? = some (nth l0 k):=by simp at hk ⊢;simp [nth,hk]
   have hri : i ∈ Region.ready .any l0.toArray listed:=by rw [hr];simp
   have hrj : j ∈ Region.ready .any l0.toArray listed:=by rw [hr];simp
   have hrk : k ∈ Region.ready .any l0.toArray listed:=by rw [hr];simp
   rw [show (Mv.fork3 i ri j rj k rk).total + tl.length = (ri.total + tl.length) + 1 by show ri.total + 1 + tl.length = _;omega]
   refine ⟨fun h0 => (by rw [hr] at h0;cases h0),fun m hm => ?_⟩
   rw [hr] at hm
   have hm' : m = i ∨ m = j ∨ m = k:=by simpa using hm
   by_cases hmi : m = i
   ·subst hmi
    exact one_force hoi (fun a' w' h' => Mv.sound hs hQ htl ri _ a' w' (hc.set_ hri) hBi h') h1
   ·by_cases hmj : m = j
    ·subst hmj
     rw [ht]
     exact one_force hoj (fun a' w' h' => Mv.sound hs hQ htl rj _ a' w' (hc.set_ hrj) hBj h') h2
    ·obtain rfl : m = k:=(hm'.resolve_left hmi).resolve_left hmj
     rw [ht2]
     exact one_force hok (fun a' w' h' => Mv.sound hs hQ htl rk _ a' w' (hc.set_ hrk) hBk h') h3
end
def mtB (ops : Array Oper) (mv : Mv) (tl : List Nat) : Bool :=
 Region.noSelect ops && (tl.all (· < ops.size)) && decide (mv.total + tl.length = ops.size) && mv.okB ops tl (Array.replicate ops.size false)
theorem wp_region_tree {P : Program} {id : Nat} {Q : Exit → Act → World → Prop} {a : Act} {w : World} {l : List Oper} (mv : Mv) (tl : List Nat) (hm : P.follows .mixedOrders = true) (hB : mtB l.toArray mv tl = true)
  (h : ∀ w1,Keep w w1 → mv.wp P l (Exit.then (fun a w => Q .normal a w) (fun _ _ _ => False)) (pick l tl) a w1) : (Code.region id l.toArray true).wp P Q a w:=by
 simp only [mtB,Bool.and_eq_true,decide_eq_true_eq] at hB
 obtain ⟨⟨⟨hs,htl⟩,hlen⟩,hB⟩:=hB
 refine wp_mono (Q:=Exit.then (fun a w => Q .normal a w) (fun _ _ _ => False)) (wp_region_any hm ?_) fun e a w h => by
  cases e with
  | normal => exact h
  | _ => exact False.elim h
 have:=Mv.sound (P:=P) (Q:=Exit.then (fun a w => Q .normal a w) (fun _ _ _ => False)) hs (fun _ _ _ _ _ h => h) (fun i hi => by simpa using List.all_eq_true.1 htl i hi) mv _ a { w with drawn:=w.drawn + 1 } (closed_none _ _) hB (h _ (((Below.refl _ _).drew)))
 rw [hlen] at this
 exact wpAny_of_K _ _ _ _ this
section
variable {P : Program} {l0 T : List Oper} {Q : Exit → Act → World → Prop} {a : Act} {w : World} {l : List Nat} {r ri rj rk : Mv} {i j k : Nat}
theorem mt_take (w0 : World) (hw : Gr w0 w) (h : wpQuiet P l0.toArray (fun w' => ∃ x,w' = aftG w0 x) (fun a' => r.wp P l0 Q T a' w) (pick l0 l) a) : (Mv.take l r).wp P l0 Q T a w:=⟨w0,hw,h⟩
theorem mt_force (h : wpForce P l0.toArray Q (r.wp P l0 Q T) (pick l0 l) a w) : (Mv.force l r).wp P l0 Q T a w:=h
theorem mt_fork (h1 : wpForce P l0.toArray Q (ri.wp P l0 Q T) [nth l0 i] a w) (h2 : wpForce P l0.toArray Q (rj.wp P l0 Q T) [nth l0 j] a w) : (Mv.fork i ri j rj).wp P l0 Q T a w:=⟨h1,h2⟩
theorem mt_end (h : wpList P l0.toArray Q T a w) : Mv.done.wp P l0 Q T a w:=h
end
theorem wpQuiet_load_arrG {P : Program} {w0 : World} {ops : Array Oper} {rest : List Oper} {a : Act} {Q : Act → Prop} {x : Operand} {dst : Option Tmp} {ty ty' t : TypeId} {pos : String} {af : Array Edge}
  (g : Nat) (cs : Array Value) (hx : a.eval x = .pointer (some ⟨g,0,none⟩)) (hb : Blk w0 g t cs.toList) (hne : MM.m ≠ some g) (d : TypeDesc) (hu : P.underlying ty = some d) (hd : d.isRow = true) (hi : (P.info? ty).map (·.size) = some cs.size)
  (h : wpQuiet P ops (fun w' => ∃ x,w' = aftG w0 x) Q rest (a.put dst (.agg cs))) :
  wpQuiet P ops (fun w' => ∃ x,w' = aftG w0 x) Q ({ dst:=dst,op:=.load ty x,type:=ty',pos:=pos,after:=af,guard:=none } :: rest) a:=by
 refine BigFrame.wpQuiet_want (by simp [Region.wanted]) fun K hK => ⟨.agg cs,fun w hw => ?_,hK _ h⟩
 obtain ⟨y,rfl⟩:=hw
 have hb2:=aftG_blk hb hne y
 unfold Oper.quietAt execOp
 have hl:=run_loadVar_mid (P:=P) (aftG w0 y) g 0 ty cs.toList d (fun j v hv => by rw [Nat.zero_add,hb2.cell];exact hv) hu hd (by simpa using hi)
 simp only [hx,Instr.loadAt,Instr.sureAddr,Sem.run_bind,Sem.run_pure,Result.andThen_ok,hl,Array.toArray_toList]
 exact ⟨rfl,rfl⟩
end Go.Proofs.YtffpanlpbdnafaaDoor.G
/- The closures of tx.Put. (printed by gen_vi.py) -/
set_option linter.unusedSimpArgs false
set_option linter.unusedVariables false
namespace Go.Proofs.YtffpanlpbdnafaaDoor
open Go.RowKit
attribute [local go_sem ↓] Go.wp_at_zero Go.wp_at_succ
def XB (B : Nat) (v : Value) (k : Nat) : Prop:=k = B ∨ v.ownBlock = some k
structure Gx (B : Nat) (w : World) (v : Value) (w' : World) (v' : Value) : Prop where
 k : KeepX (XB B v) w w'
 f : v'.ownBlock = v.ownBlock ∨ ∃ k,v'.ownBlock = some k∧w.heap.size ≤ k
theorem Gx.refl (B : Nat) (w : World) (v : Value) : Gx B w v w v:=⟨KeepX.of (Below.refl _ _),.inl rfl⟩
theorem Gx.size {B : Nat} {w w' : World} {v v' : Value} (h : Gx B w v w' v') : w.heap.size ≤ w'.heap.size:=h.k.2.2.2.1
theorem Gx.trans {B : Nat} {a b c : World} {u v x : Value} (h : Gx B a u b v) (k : Gx B b v c x) : Gx B a u c x :=
 ⟨h.k.trans k.k fun j hj q => q.imp id fun e => by
  rcases h.f with q | ⟨m,q,hm⟩
  ·rw [← q];exact e
  ·rw [q] at e;cases e;omega,
  k.f.elim (fun e => h.f.imp (fun q => e.trans q) fun ⟨m,q,hm⟩ => ⟨m,e.trans q,hm⟩) fun ⟨m,q,hm⟩ => .inr ⟨m,q,Nat.le_trans h.size hm⟩⟩
theorem Gx.of_keep {a b : World} (B : Nat) (k : Keep a b) (u : Value) : Gx B a u b u:=⟨KeepX.of k,.inl rfl⟩
theorem Gx.of_gr {B : Nat} {a b : World} {u v : Value} (h : Gr a u b v) : Gx B a u b v :=
 ⟨⟨h.g.os,h.g.tape,h.g.output,h.g.size,fun j hj hn => h.g.block j hj fun e => hn (.inr e.symm)⟩,h.f⟩
theorem Gx.set {B : Nat} {a b : World} {u v : Value} (h : Gx B a u b v) (o : Nat) (x : Value) : Gx B a u (b.setCell ⟨B,o,none⟩ x) v :=
 ⟨h.k.grown (⟨rfl,rfl,rfl,by simp,fun k hk hne => Below.heap_setCell b ⟨B,o,none⟩ x k (fun e => hne (by rw [e]))⟩) fun j hj q => .inl (Option.some.inj q).symm,h.f⟩
theorem Gx.keep {B : Nat} {a b c : World} {u v : Value} (h : Gx B a u b v) (k : Keep b c) : Gx B a u c v:=h.trans (Gx.of_keep B k v)
theorem Gx.below {B D : Nat} {a b : World} {u v : Value} {e : TypeId} {size n : Nat} {xs : List Value} (h : Gx B a u b v) (ho : a.ownsRow D e size u n xs) (hB : D ≤ a.heap.size) (hBD : B < D) : Below B a b:=by
 refine ⟨h.k.1,h.k.2.1,h.k.2.2.1,h.k.2.2.2.1,fun k hk => h.k.2.2.2.2 k (by omega) ?_⟩
 rintro (q | q)
 ·omega
 ·have:=(ho.lt k q).1;omega
theorem Blk.gx {B : Nat} {a b : World} {u v : Value} {g : Nat} {t : TypeId} {cs : List Value} (h : Blk a g t cs) (k : Gx B a u b v) (hB : g ≠ B) (hne : u.ownBlock ≠ some g) : Blk b g t cs∧v.ownBlock ≠ some g :=
 ⟨h.kx k.k (by rintro (q | q);exact hB q;exact hne q),by
  rcases k.f with q | ⟨m,q,hm⟩
  ·rw [q];exact hne
  ·rw [q];intro e;cases e;have:=h.lt;omega⟩
theorem RdX.gx {B : Nat} {a b : World} {u v : Value} {A : Option Addr} {xs : List Value} (h : RdX u.ownBlock a A xs) (k : Gx B a u b v) (hA : ∀ g off,A = some ⟨g,off,none⟩ → xs ≠ [] → g ≠ B) : RdX v.ownBlock b A xs:=by
 rcases h with h | ⟨g,off,rfl,hne,hc⟩
 ·exact .inl h
 ·by_cases hx : xs = []
  ·exact .inl hx
  have hlt:=cell_lt (hc 0 (List.length_pos_iff.2 hx))
  have hb:=k.k.2.2.2.2 g hlt (by rintro (q | q);exact hA g off rfl hx q;exact hne q)
  refine .inr ⟨g,off,rfl,?_,fun j hj => ?_⟩
  ·rcases k.f with q | ⟨m,q,hm⟩
   ·rw [q];exact hne
   ·rw [q];intro e;cases e;omega
  ·rw [← hc j hj];unfold World.cell?;simp only [hb]
def Bxd (B D : Nat) (v : Value) (n : Nat) (xs : List Value) (w : World) (e : Ending) (w' : World) : Prop:=e = .returned (.tuple #[])∧∃ v',Blk w' B 26 [v']∧w'.ownsRow D 5 1 v' n xs∧Gx B w v w' v'
set_option maxRecDepth 100000 in
set_option maxHeartbeats 4000000 in
theorem tnum_any (B D : Nat) (v : Value) (N : Nat) (xs : List Value) (n m : Nat) (w : World) (hb : Blk w B 26 [v]) (own : w.ownsRow D 5 1 v N xs) (hBD : B < D) (hD : D ≤ w.heap.size) (hN : N ≤ 1000000000) (hm : m ≤ 8) :
  Calls Tryd.prog 84 #[u64v n,iv m,.pointer (some ⟨B,0,none⟩)] w (Bxd B D v (N + m) (xs ++ (loN n m).map u8v) w):=by
 have Own0 : Hid (w.ownsRow D 5 1 v (N + 0) (xs ++ (loN n 0).map u8v)):=Lib.hid (own_eq own (by omega) (by simp [lo_zero]))
 have HB0:=Lib.hid hb
 clear own hb
 unfold Bxd
 go_enter Tryd.func84,Tryd.ntmps84
 go_wp2_with fail
 go_loopw [7] (fun c wr => ∃ (k : Nat) (x : Value),k ≤ m∧c = .int .i64 k∧Hid (Blk wr B 26 [x])∧Hid (wr.ownsRow D 5 1 x (N + k) (xs ++ (loN n k).map u8v))∧Hid (Gx B w v wr x)) (fun c _ => m - (intOf c).toNat)
 case atStart => exact ⟨0,v,Nat.zero_le _,rfl,HB0,Own0,Lib.hid (Gx.refl _ _ _)⟩
 case round =>
  obtain ⟨k,xv,hk,rfl,HB1,Own1,Gx1⟩:=hrel
  by_cases hlt : k < m
  ·obtain ⟨x,hx⟩ : ∃ x : UInt8,x = UInt8.ofNat (n / 2 ^ (8 * k)):=⟨_,rfl⟩
   have hbx : (n : Int) / 2 ^ (8 * k) % 256 = (x.toNat : Int):=by
    rw [hx,UInt8.toNat_ofNat',Int.natCast_emod,Int.natCast_ediv,Int.natCast_pow];rfl
   have HN:=Lib.hid (lo_succ n k)
   rw [← hx] at HN
   have d1 : (k : Int) < m:=by omega
   obtain ⟨Av,cv,rfl,-,-,-⟩:=own_form Own1.out
   clear hx Own0 HB0
   go_upto_region 3 with fail
   letI iM : G.Mk:=⟨(Value.slice Av (N + k) cv).ownBlock⟩
   refine G.wp_region_tree (.take [0,1,2,3,4,5] (.force [6,7] .done)) [8] (by kernel_rfl) (by kernel_rfl) (fun w8 k8 => ?_)
   have HB8:=Lib.hid (HB1.out.keep k8);have Own8:=Lib.hid (own_keep Own1.out k8);have Gx8:=Lib.hid (Gx1.out.keep k8)
   clear k8 HB1 Own1 Gx1
   have hs8:=Gx8.out.size
   have hneB : G.Mk.m ≠ some B:=fun q => by have:=(Own8.out.lt B q).1;omega
   have b1:=G.aftG_cell (HB8.out.cell 0) hneB
   refine G.mt_take w8 (G.Gr.refl _) ?_
   simp only [pick_cons,pick_nil,nth_zero,nth_succ]
   repeat (go_big_quiet_step (fail))
   refine wpQuiet_nil (G.mt_force ?_)
   clear b1 hneB
   simp only [pick_cons,pick_nil,nth_zero,nth_succ]
   refine G.fc_step rfl (fun K hK => ?_)
   go_simp
   refine hK _ _ (G.Gr.of_keep (keep_new _ _)) ?_
   clear hK K
   obtain ⟨w9,hw9⟩ : ∃ w9,w9 = w8.alloc (.cells #[u8v x] 5):=⟨_,rfl⟩
   have HL9 : Hid (Rd w9 (some ⟨w8.heap.size,0,none⟩) [u8v x]):=by rw [hw9];exact Lib.hid (Rd.new w8 [u8v x] 5)
   have k9 : Keep w8 w9:=by rw [hw9];exact keep_new _ _
   rw [← hw9]
   have HB9:=Lib.hid (HB8.out.keep k9);have Own9:=Lib.hid (own_keep Own8.out k9);have Gx9:=Lib.hid (Gx8.out.keep k9)
   clear hw9 k9 HB8 Own8 Gx8
   refine G.fc_step rfl (fun K hK => ?_)
   refine wp_app byteT _ _ (by rfl) D _ (N + k) _ (by rfl) Own9.out _ 1 1 [u8v x] (by rfl) (by rfl) HL9.out (by simp [Value.oneCell']) (by omega) (by unfold maxLen;omega) (by have:=Gx9.out.size;omega) ?_
   intro v' w10 own10 hg10 hat10
   refine hK _ _ hg10 ?_
   clear hK K HL9
   simp only [Act.put,Array.set!_eq_setIfInBounds,List.setIfInBounds_toArray,List.set_cons_succ,List.set_cons_zero]
   have HB10:=Lib.hid (HB9.out.grown hg10 (fun q => by have:=(Own9.out.lt B q).1;omega))
   have Gx10:=Lib.hid (Gx9.out.trans (Gx.of_gr ⟨hg10,hat10.imp id fun e => ⟨_,e,Nat.le_refl _⟩⟩))
   have Own10:=Lib.hid own10
   clear own10 hg10 hat10 HB9 Gx9 Own9
   refine G.fc_nil (G.mt_end ?_)
   clear iM hbx
   have f1 : w10.frozen? ⟨B,0,none⟩ = false:=HB10.out.frozen 0
   have c1 : w10.cell? ⟨B,0,none⟩ = some (.slice Av (N + k) cv):=HB10.out.cell 0
   obtain ⟨Aw,cw,rfl,-,-,-⟩:=own_form Own10.out
   go_wp2
   go_roundw
   case rel => exact ⟨k + 1,_,by omega,by go_num,Lib.hid (HB10.out.set_ 0 _),Lib.hid (own_eq (ownsRow_setCell_below Own10.out (a:=⟨B,0,none⟩) hBD _) (by omega) (by rw [HN.out];simp)),Lib.hid (Gx10.out.set 0 _)⟩
   case measure => simp [intOf];omega
  ·obtain rfl : k = m:=by omega
   have d1 : ¬ (k : Int) < k:=by omega
   go_wp2
   go_end0
   exact ⟨rfl,xv,HB1.out,Own1.out,Gx1.out⟩
end Go.Proofs.YtffpanlpbdnafaaDoor
/- The closures count and script of tx.Put. (printed by gen_vj.py) -/
set_option linter.unusedSimpArgs false
set_option linter.unusedVariables false
namespace Go.Proofs.YtffpanlpbdnafaaDoor
open Go.RowKit
attribute [local go_sem ↓] Go.wp_at_zero Go.wp_at_succ
set_option maxRecDepth 100000 in
set_option maxHeartbeats 4000000 in
theorem tcount_any (B D : Nat) (v : Value) (N : Nat) (xs : List Value) (n : Nat) (w : World) (hb : Blk w B 26 [v]) (own : w.ownsRow D 5 1 v N xs) (hBD : B < D) (hD : D ≤ w.heap.size) (hN : N ≤ 1000000000) (hn : n < 2 ^ 63) :
  Calls Tryd.prog 85 #[iv n,.pointer (some ⟨B,0,none⟩)] w (Bxd B D v (N + sizN n) (xs ++ (cptL n).map u8v) w):=by
 have C1 : Hid (∀ y,Calls Tryd.prog 82 #[.slice none 0 0,u64v n] y fun e w' => ∃ v,e = .returned v∧w'.ownsRow y.heap.size 5 1 v (sizN n) ((cptL n).map u8v)∧Keep y w'):=Lib.hid fun y => cput_any n (by omega) y
 have hs:=siz_le n
 have HL : Hid (((cptL n).map u8v).length = sizN n * 1):=Lib.hid (by rw [List.length_map,cpt_len];omega)
 have HO:=Lib.hid (one_bytes (cptL n))
 generalize (cptL n).map u8v = C at *
 generalize sizN n = s at *
 have hw : IntKind.u64.wrap (n : Int) = (n : Int):=by rw [IntKind.wrap_u64];omega
 have Own0:=Lib.hid own
 have HB0:=Lib.hid hb
 clear own hb hn
 unfold Bxd
 obtain ⟨Av,cv,rfl,-,-,-⟩:=own_form Own0.out
 go_enter Tryd.func85,Tryd.ntmps85
 letI iM : G.Mk:=⟨(Value.slice Av N cv).ownBlock⟩
 refine G.wp_region_tree (.take [0,1,2] (.force [3,4] .done)) [5] (by kernel_rfl) (by kernel_rfl) (fun w8 k8 => ?_)
 have HB8:=Lib.hid (HB0.out.keep k8);have Own8:=Lib.hid (own_keep Own0.out k8);have Gx8:=Lib.hid (Gx.of_keep B k8 (Value.slice Av N cv))
 clear k8 HB0 Own0
 have hs8:=Gx8.out.size
 have hneB : G.Mk.m ≠ some B:=fun q => by have:=(Own8.out.lt B q).1;omega
 have b1:=G.aftG_cell (HB8.out.cell 0) hneB
 refine G.mt_take w8 (G.Gr.refl _) ?_
 simp only [pick_cons,pick_nil,nth_zero,nth_succ]
 repeat (go_big_quiet_step (fail))
 refine wpQuiet_nil (G.mt_force ?_)
 clear b1 hneB
 simp only [pick_cons,pick_nil,nth_zero,nth_succ]
 refine G.fc_step rfl (fun K hK => ?_)
 go_simp
 (with_reducible refine (C1.out _).mono ?_)
 clear C1
 rintro e w9 ⟨vc,rfl,hown,k9⟩
 refine hK _ _ (G.Gr.of_keep k9) ?_
 clear hK K
 obtain ⟨A1,c1,rfl,-,-,-⟩:=own_form hown
 have RC:=Lib.hid (own_rd hown)
 have HB9:=Lib.hid (HB8.out.keep k9);have Own9:=Lib.hid (own_keep Own8.out k9);have Gx9:=Lib.hid (Gx8.out.keep k9)
 clear hown k9 HB8 Own8 Gx8
 refine G.fc_step rfl (fun K hK => ?_)
 refine wp_app byteT _ _ (by rfl) D _ N _ (by rfl) Own9.out _ s c1 C (by rfl) HL.out RC.out HO.out (by omega) (by unfold maxLen;omega) (by have:=Gx9.out.size;omega) ?_
 intro v' w10 own10 hg10 hat10
 refine hK _ _ hg10 ?_
 clear hK K RC
 simp only [Act.put,Array.set!_eq_setIfInBounds,List.setIfInBounds_toArray,List.set_cons_succ,List.set_cons_zero]
 have HB10:=Lib.hid (HB9.out.grown hg10 (fun q => by have:=(Own9.out.lt B q).1;omega))
 have Gx10:=Lib.hid (Gx9.out.trans (Gx.of_gr ⟨hg10,hat10.imp id fun e => ⟨_,e,Nat.le_refl _⟩⟩))
 have Own10:=Lib.hid own10
 clear own10 hg10 hat10 HB9 Gx9 Own9
 refine G.fc_nil (G.mt_end ?_)
 clear iM hw
 have f1 : w10.frozen? ⟨B,0,none⟩ = false:=HB10.out.frozen 0
 have c1 : w10.cell? ⟨B,0,none⟩ = some (.slice Av N cv):=HB10.out.cell 0
 obtain ⟨Aw,cw,rfl,-,-,-⟩:=own_form Own10.out
 go_wp2
 go_end0
 exact ⟨rfl,_,HB10.out.set_ 0 _,ownsRow_setCell_below Own10.out (a:=⟨B,0,none⟩) hBD _,Gx10.out.set 0 _⟩
def cntV (B : Nat) : Value:=.func (.func 85) #[] #[.pointer (some ⟨B,0,none⟩)]
set_option maxRecDepth 100000 in
set_option maxHeartbeats 4000000 in
theorem tscript_any (B D F : Nat) (t : TypeId) (v : Value) (N : Nat) (xs : List Value) (A : Option Addr) (s : List UInt8) (sc : Nat) (w : World) (hb : Blk w B 26 [v]) (hf : Blk w F t [cntV B]) (own : w.ownsRow D 5 1 v N xs) (hBD : B < D) (hD : D ≤ w.heap.size) (hFB : F ≠ B) (hvF : v.ownBlock ≠ some F)
  (hN : N ≤ 1000000000) (hs : s.length ≤ 1000000) (hr : RdX v.ownBlock w A (s.map u8v)) (hA : ∀ b off,A = some ⟨b,off,none⟩ → s ≠ [] → b ≠ B) :
  Calls Tryd.prog 86 #[.slice A s.length sc,.pointer (some ⟨F,0,none⟩),.pointer (some ⟨B,0,none⟩)] w (Bxd B D v (N + sizN s.length + s.length) (xs ++ (cptL s.length ++ s).map u8v) w):=by
 have C1 : Hid (∀ y,Keep w y → Calls Tryd.prog 85 #[iv s.length,.pointer (some ⟨B,0,none⟩)] y (Bxd B D v (N + sizN s.length) (xs ++ (cptL s.length).map u8v) y)):=Lib.hid fun y hy => tcount_any B D v N xs s.length y (hb.keep hy) (own_keep own hy) hBD (Nat.le_trans hD hy.size) hN (by omega)
 have hz:=siz_le s.length
 have HL : Hid ((s.map u8v).length = s.length * 1):=Lib.hid (by simp)
 have HO:=Lib.hid (one_bytes s)
 have HX : Hid ((xs ++ (cptL s.length).map u8v) ++ s.map u8v = xs ++ (cptL s.length ++ s).map u8v):=Lib.hid (by simp)
 have HRX:=Lib.hid hr;have HA:=Lib.hid hA
 have HOV:=Lib.hid own
 have cf:=hf.cell 0
 simp only [cntV,List.getElem?_cons_zero] at cf
 clear hr hA own hb hf
 unfold Bxd at *
 generalize sizN s.length = z at *
 go_enter Tryd.func86,Tryd.ntmps86
 go_upto_region 1 with (go_at_call 85;refine (C1.out _ (Below.refl _ _)).mono ?_;rintro e w2 ⟨rfl,v2,hb2,own2,gx2⟩)
 obtain ⟨A2,c2,rfl,-,-,-⟩:=own_form own2
 have RX2:=Lib.hid (HRX.out.gx gx2 (fun g off h1 h2 => HA.out g off h1 (fun q => h2 (by rw [q];rfl))))
 have HB2:=Lib.hid hb2;have Own2:=Lib.hid own2;have Gx2:=Lib.hid gx2
 have k2 : w2.cell? ⟨B,0,none⟩ = some (.slice A2 (N + z) c2):=hb2.cell 0
 clear cf C1 HRX HA hb2 own2 gx2
 have hs2:=Gx2.out.size
 go_wp2_with (at_builtin;refine wpList_app byteT (by rfl) _ _ (by rfl) D _ (N + z) _ (by rfl) Own2.out _ s.length sc (s.map u8v) (by rfl) HL.out RX2.out.rd HO.out (by omega) (by unfold maxLen;omega) (by omega) ?_;intro v3 w3 own3 hg3 hat3;have hbl3:=HB2.out.grown hg3 (fun q => by have:=(Own2.out.lt B q).1;omega);have f3:=hbl3.frozen 0;have c3:=hbl3.cell 0;have HB3:=Lib.hid hbl3;have Own3:=Lib.hid own3;have Gx3:=Lib.hid (Gx2.out.trans (Gx.of_gr ⟨hg3,hat3.imp id fun e => ⟨_,e,Nat.le_refl _⟩⟩));obtain ⟨A3,e3,rfl,-,-,-⟩:=own_form own3;simp only [List.getElem?_cons_zero] at c3;clear own3 hg3 hat3 hbl3)
 go_end0
 exact ⟨rfl,_,HB3.out.set_ 0 _,own_eq (ownsRow_setCell_below Own3.out (a:=⟨B,0,none⟩) hBD _) rfl HX.out,Gx3.out.set 0 _⟩
end Go.Proofs.YtffpanlpbdnafaaDoor
/- Whole variables loaded and stored; hashes as values. -/
set_option linter.unusedSimpArgs false
set_option linter.unusedVariables false
namespace Go.Proofs.YtffpanlpbdnafaaDoor
open Go.RowKit
attribute [local go_sem ↓] Go.wp_at_zero Go.wp_at_succ
section
variable {P : Program} {w : World} {ops : Array Oper} {rest : List Oper} {a : Act} {Q : Exit → Act → World → Prop} {x y : Operand} {dst : Option Tmp} {ty ty' t : TypeId} {pos : String} {af : Array Edge}
theorem arr_row (n : Nat) (e : TypeId) : (TypeDesc.array n e).isRow = true:=rfl
theorem load_blk (g : Nat) (cs : List Value) (hx : a.eval x = .pointer (some ⟨g,0,none⟩)) (hb : Blk w g t cs) (d : TypeDesc) (hu : P.underlying ty = some d) (hd : d.isRow = true) (hi : (P.info? ty).map (·.size) = some cs.length)
  (h : wpList P ops Q rest (a.put dst (.agg cs.toArray)) w) : wpList P ops Q ({ dst:=dst,op:=.load ty x,type:=ty',pos:=pos,after:=af,guard:=none } :: rest) a w :=
 wpList_load_mid rfl ty x rfl g 0 hx cs d (fun j v hv => by rw [Nat.zero_add,hb.cell];exact hv) hu hd hi h
theorem load_arr (g : Nat) (cs : Array Value) (hx : a.eval x = .pointer (some ⟨g,0,none⟩)) (hb : Blk w g t cs.toList) (d : TypeDesc) (hu : P.underlying ty = some d) (hd : d.isRow = true) (hi : (P.info? ty).map (·.size) = some cs.size)
  (h : wpList P ops Q rest (a.put dst (.agg cs)) w) : wpList P ops Q ({ dst:=dst,op:=.load ty x,type:=ty',pos:=pos,after:=af,guard:=none } :: rest) a w :=
 load_blk g cs.toList hx hb d hu hd (by simpa using hi) h
end
def w32 (n : Int) : UInt32:=UInt32.ofNat n.toNat
theorem w32_of {n : Int} (h0 : 0 ≤ n) (h1 : n ≤ 4294967295) : n = ((w32 n).toNat : Int):=by
 unfold w32;rw [UInt32.toNat_ofNat'];omega
theorem w32_hi (x : UInt32) : (x.toNat : Int) ≤ 4294967295:=by have:=x.toNat_lt;omega
theorem one_w32 (l : List UInt32) : ∀ u ∈ l.map u32v,u.oneCell' = true:=by
 intro u hu;obtain ⟨x,_,rfl⟩:=List.mem_map.1 hu;rfl
theorem set_map (l : List UInt32) (k : Nat) (E : Int) (h0 : 0 ≤ E) (h1 : E ≤ 4294967295) : (l.set k (w32 E)).map u32v = (l.map u32v).set k (.int .u32 E):=by
 rw [List.map_set];unfold u32v;rw [← w32_of h0 h1]
theorem getD_of {α : Type} {l : List α} {k : Nat} {d y : α} (h : l[k]? = some y) : l.getD k d = y:=by simp [h]
theorem run_store_blk {P : Program} {w : World} {g : Nat} {t : TypeId} {old : List Value} (cs : List Value) (hb : Blk w g t old) (ho : old.length = cs.length) (h1 : ∀ v ∈ cs,v.oneCell' = true) :
  ∃ w',(storeCells ⟨g,0,none⟩ cs 0).run P w = .ok () w'∧Blk w' g t cs∧w.grownBy w' (some g):=by
 refine ⟨_,run_storeCells_from g t cs 0 old.toArray w hb (by simp [ho]) h1,?_,rfl,rfl,rfl,by simp [World.setRow],fun k _ hne => setRow_other w g k _ (fun e => hne (by rw [e]))⟩
 have:=setRow_heap w g old.toArray cs.toArray t (0,0) hb
 simpa [Blk] using this
theorem byteW : ElT Tryd.prog 26 5 (.int .u8 0) 1 1:=ElT.mk' Tryd.underlying26 (by kernel_rfl) rfl (by omega)
theorem one_w8 (l : List UInt8) : ∀ u ∈ l.map u8v,u.oneCell' = true:=by
 intro u hu;obtain ⟨x,_,rfl⟩:=List.mem_map.1 hu;rfl
def zb (n : Nat) : Array Value:=madeCells #[.int .u8 0] (n * 1)
theorem zb_list (n : Nat) : (zb n).toList = (List.replicate n (0 : UInt8)).map u8v:=by
 apply List.ext_getElem
 ·simp [zb,madeCells]
 ·intro i h1 h2
  simp [zb,madeCells,Nat.mod_one]
theorem zb_blk (w : World) (n : Nat) : Blk (w.alloc (.cells (zb n) 5)) w.heap.size 5 ((List.replicate n (0 : UInt8)).map u8v):=by
 rw [← zb_list];exact Blk.new w _ (zb n).toList
theorem make_bytes (k c : Nat) (hk : k ≤ c) (hc : c ≤ 1000000) (W : World) : (Instr.makeSlice 26 (.int .i64 (k : Int)) (.int .i64 (c : Int))).run Tryd.prog W = .ok (.slice (some ⟨W.heap.size,0,none⟩) k c) (W.alloc (.cells (zb c) 5)):=by
 rw [byteW.make k c hk (by omega) (by omega) W];rfl
theorem make_blk (k c : Nat) (i j : Int) (hi : i = k) (hj : j = c) (hk : k ≤ c) (hc : c ≤ 1000000) (W : World) : ∃ W',(Instr.makeSlice 26 (.int .i64 i) (.int .i64 j)).run Tryd.prog W = .ok (.slice (some ⟨W.heap.size,0,none⟩) k c) W' ∧
  Blk W' W.heap.size 5 ((List.replicate c (0 : UInt8)).map u8v)∧Keep W W'∧W'.heap.size = W.heap.size + 1:=by
 subst hi hj
 exact ⟨_,make_bytes k c hk hc W,zb_blk W c,keep_new _ _,by simp⟩
def w8 (n : Int) : UInt8:=UInt8.ofNat n.toNat
theorem w8_of {n : Int} (h0 : 0 ≤ n) (h1 : n ≤ 255) : n = ((w8 n).toNat : Int):=by
 unfold w8;rw [UInt8.toNat_ofNat'];omega
theorem set_map8 (l : List UInt8) (k : Nat) (E : Int) (h0 : 0 ≤ E) (h1 : E ≤ 255) : (l.set k (w8 E)).map u8v = (l.map u8v).set k (.int .u8 E):=by
 rw [List.map_set];unfold u8v;rw [← w8_of h0 h1]
theorem own_made {w : World} {base g c : Nat} {e : TypeId} (h : Blk w g e ((List.replicate c (0 : UInt8)).map u8v)) (hb : base ≤ g) (hc : c ≤ maxLen) : w.ownsRow base e 1 (.slice (some ⟨g,0,none⟩) 0 c) 0 []:=by
 have h2 : w.heap[g]? = some (.cells (splice ((List.replicate c (0 : UInt8)).map u8v) 0 []).toArray e (0,0)):=by
  rw [show splice ((List.replicate c (0 : UInt8)).map u8v) 0 [] = (List.replicate c (0 : UInt8)).map u8v by simp [splice]]
  exact h
 exact own_fill h2 hb rfl (by simp) (Nat.zero_le _) hc
theorem Rd.dropS {w : World} {A : Option Addr} {xs : List Value} (h : Rd w A xs) (k c : Nat) (hk : k ≤ xs.length) (hc : xs.length ≤ c) :
  Rd w (if c = k then A else A.map (fun x => (⟨x.block,x.off + k,none⟩ : Addr))) (xs.drop k):=by
 split
 ·exact .inl (List.drop_eq_nil_of_le (by omega))
 ·rcases h with rfl | ⟨b,off,rfl,hcell⟩
  ·exact .inl (by simp)
  ·refine .inr ⟨b,off + k,rfl,fun j hj => ?_⟩
   simp at hj
   rw [Nat.add_assoc,hcell (k + j) (by omega)];simp
abbrev hashV (h : List UInt8) : Value:=.agg (h.map u8v).toArray
theorem z32_blk (w : World) (n : Nat) (t : TypeId) (hn : n = w.heap.size) : Blk (w.alloc (.cells #[.int .u8 0,.int .u8 0,.int .u8 0,.int .u8 0,.int .u8 0,.int .u8 0,.int .u8 0,.int .u8 0,.int .u8 0,.int .u8 0,.int .u8 0,.int .u8 0,.int .u8 0,.int .u8 0,.int .u8 0,.int .u8 0,.int .u8 0,.int .u8 0,.int .u8 0,.int .u8 0,.int .u8 0,.int .u8 0,.int .u8 0,.int .u8 0,.int .u8 0,.int .u8 0,.int .u8 0,.int .u8 0,.int .u8 0,.int .u8 0,.int .u8 0,.int .u8 0] t)) n t ((List.replicate 32 (0 : UInt8)).map u8v):=hn ▸ Blk.new w t ((List.replicate 32 (0 : UInt8)).map u8v)
noncomputable def zhash : Array Value:=match (Tryd.prog.info? 39).bind (·.zero) with | some (.agg c) => c | _ => #[]
theorem zhash_size : zhash.size = 32:=by kernel_rfl
theorem zhash_zero (w : World) : (zeroValue 39).run Tryd.prog w = .ok (.agg zhash) w:=by kernel_rfl
theorem zhash_list : zhash.toList = (List.replicate 32 (0 : UInt8)).map u8v:=by kernel_rfl
theorem hash_under : Tryd.prog.underlying 39 = some (.array 32 5):=by kernel_rfl
structure HashA (h : List UInt8) (cs : Array Value) : Prop where
 l : cs.toList = h.map u8v
 z : cs.size = 32
 i : (Tryd.prog.info? 39).map (·.size) = some cs.size
 n : ¬ cs = #[]
 o : ∀ v ∈ cs.toList,v.oneCell' = true
 e : (h.map u8v).toArray = cs
theorem HashA.of {h : List UInt8} (hl : h.length = 32) : HashA h (h.map u8v).toArray:=by
 have hz : (h.map u8v).toArray.size = 32:=by simp [hl]
 refine ⟨rfl,hz,by rw [hz];kernel_rfl,fun e => by rw [e] at hz;simp at hz,?_,rfl⟩
 exact one_w8 h
end Go.Proofs.YtffpanlpbdnafaaDoor
/- A header's bytes. -/
set_option linter.unusedSimpArgs false
set_option linter.unusedVariables false
namespace Go.Proofs.YtffpanlpbdnafaaDoor
open Go.RowKit
attribute [local go_sem ↓] Go.wp_at_zero Go.wp_at_succ
theorem range_of {w : World} {g : Nat} {t : TypeId} {all : List Value} (hb : Blk w g t all) (off : Nat) (cs : List Value) (hs : (all.drop off).take cs.length = cs) : w.rangeAt g off cs:=fun j v hv => by
 have hj : j < cs.length:=(List.getElem?_eq_some_iff.1 hv).1
 rw [hb.cell]
 rw [← hs,List.getElem?_take_of_lt hj,List.getElem?_drop] at hv
 exact hv
theorem grown_set {w w' : World} {g o : Nat} {u : Value} (h : w.grownBy w' (some g)) : w.grownBy (w'.setCell ⟨g,o,none⟩ u) (some g) :=
 h.trans ⟨rfl,rfl,rfl,by simp,fun k _ hne => Below.heap_setCell w' _ u k (fun e => hne (by rw [e]))⟩
theorem grown_refl (w : World) (r : Option Nat) : w.grownBy w r:=⟨rfl,rfl,rfl,Nat.le_refl _,fun _ _ _ => rfl⟩
def leE (x : UInt32) (k : Nat) : Int:=(x.toNat : Int) / 2 ^ (8 * k) % 256
def layK (l : List UInt8) (off : Nat) (x : UInt32) : Nat → List UInt8
 | 0 => l
 | k + 1 => (layK l off x k).set (off + k) (w8 (leE x k))
theorem layK_len (l : List UInt8) (off : Nat) (x : UInt32) (k : Nat) : (layK l off x k).length = l.length:=by
 induction k with
 | zero => rfl
 | succ k ih => rw [layK,List.length_set,ih]
set_option maxRecDepth 100000 in
set_option maxHeartbeats 1000000 in
theorem lay4_any (g off n c : Nat) (t : TypeId) (l : List UInt8) (x : UInt32) (w : World) (hb : Blk w g t (l.map u8v)) (hn : 4 ≤ n) (hl : off + 4 ≤ l.length) :
  Calls Tryd.prog 100 #[.slice (some ⟨g,off,none⟩) n c,u32v x] w fun e w' => e = .returned (.tuple #[])∧Blk w' g t ((layK l off x 4).map u8v)∧w.grownBy w' (some g):=by
 have Hb:=Lib.hid hb;clear hb
 go_enter Tryd.func100,Tryd.ntmps100
 go_wp2_with fail
 go_loopw [5] (fun i wr => ∃ k : Nat,k ≤ 4∧i = .int .i64 k∧Blk wr g t ((layK l off x k).map u8v)∧w.grownBy wr (some g)) (fun i _ => 4 - (intOf i).toNat)
 case atStart => exact ⟨0,by omega,rfl,Hb.out,grown_refl _ _⟩
 case round =>
  obtain ⟨k,hk,rfl,hb,hg⟩:=hrel
  by_cases hlt : k < 4
  ·have hx:=w32_hi x
   obtain ⟨o,ho⟩ : ∃ o,(layK l off x k)[off + k]? = some o:=⟨_,List.getElem?_eq_getElem (by rw [layK_len];omega)⟩
   have c0:=hb.cell (off + k);rw [List.getElem?_map,ho,Option.map_some] at c0
   have f0:=hb.frozen (off + k)
   have Hb2:=Lib.hid hb;have Hg:=Lib.hid hg
   clear hb hg ho
   go_wp2
   go_roundw
   case rel =>
    refine ⟨k + 1,by omega,by go_num,?_,grown_set Hg.out⟩
    rw [layK,set_map8 _ _ (leE x k) (by unfold leE;omega) (by unfold leE;omega)]
    exact Hb2.out.set_ _ _
   case measure => simp [intOf];omega
  ·have Hk:=Lib.hid (show k = 4 by omega)
   have Hb2:=Lib.hid hb;have Hg:=Lib.hid hg
   clear hb hg
   go_wp2
   refine bodyPost_end (v:=.tuple #[]) (by simp [results,Tryd.results100]) rfl ⟨rfl,?_,Hg.out⟩
   have h:=Hb2.out
   rw [Hk.out] at h
   exact h
structure Hd where
 ver : UInt32
 prev : List UInt8
 root : List UInt8
 time : UInt32
 bits : UInt32
 nonce : UInt32
def Hd.ok (h : Hd) : Prop:=h.prev.length = 32∧h.root.length = 32
def Hd.cells (h : Hd) : List Value:=u32v h.ver :: (h.prev.map u8v ++ (h.root.map u8v ++ [u32v h.time,u32v h.bits,u32v h.nonce]))
theorem Hd.len {h : Hd} (hk : h.ok) : h.cells.length = 68:=by simp [Hd.cells,hk.1,hk.2]
def le4 (x : UInt32) : List UInt8:=[w8 (leE x 0),w8 (leE x 1),w8 (leE x 2),w8 (leE x 3)]
def hputL (h : Hd) : List UInt8:=le4 h.ver ++ (h.prev ++ (h.root ++ (le4 h.time ++ (le4 h.bits ++ le4 h.nonce))))
theorem hputL_len {h : Hd} (hk : h.ok) : (hputL h).length = 80:=by simp [hputL,le4,hk.1,hk.2]
theorem layK_mid (a m b : List UInt8) (x : UInt32) (off : Nat) (ha : a.length = off) (hm : m.length = 4) : layK (a ++ (m ++ b)) off x 4 = a ++ (le4 x ++ b):=by
 subst ha
 match m,hm with
 | [p,q,r,s],_ => simp [layK,le4,List.set_append_right]
theorem splice_mid {α : Type} (a m b d : List α) (off : Nat) (ha : a.length = off) (hm : m.length = d.length) : splice (a ++ (m ++ b)) off d = a ++ (d ++ b):=by
 subst ha
 unfold splice
 rw [List.take_left,← hm,← List.drop_drop,List.drop_left,List.drop_left]
section
variable {w : World} {g : Nat} {t : TypeId} {h : Hd}
theorem hd_cell0 (hb : Blk w g t h.cells) (hk : h.ok) : w.cell? ⟨g,0,none⟩ = some (u32v h.ver):=(hb.cell 0).trans rfl
theorem hd_tail (hk : h.ok) (j : Nat) : h.cells[65 + j]? = [u32v h.time,u32v h.bits,u32v h.nonce][j]?:=by
 unfold Hd.cells
 rw [show 65 + j = (64 + j) + 1 by omega,List.getElem?_cons_succ,List.getElem?_append_right (by simp [hk.1];omega),List.getElem?_append_right (by simp [hk.1,hk.2];omega)]
 congr 1
 simp [hk.1,hk.2];omega
theorem hd_cell65 (hb : Blk w g t h.cells) (hk : h.ok) : w.cell? ⟨g,65,none⟩ = some (u32v h.time):=(hb.cell 65).trans (hd_tail hk 0)
theorem hd_cell66 (hb : Blk w g t h.cells) (hk : h.ok) : w.cell? ⟨g,66,none⟩ = some (u32v h.bits):=(hb.cell 66).trans (hd_tail hk 1)
theorem hd_cell67 (hb : Blk w g t h.cells) (hk : h.ok) : w.cell? ⟨g,67,none⟩ = some (u32v h.nonce):=(hb.cell 67).trans (hd_tail hk 2)
theorem hd_prev (hb : Blk w g t h.cells) (hk : h.ok) : Rd w (some ⟨g,1,none⟩) (h.prev.map u8v):=by
 have h1:=hb.rd.sub 1 32 (by rw [Hd.len hk];omega)
 rw [Nat.zero_add] at h1
 have e : (h.cells.drop 1).take 32 = h.prev.map u8v:=by
  unfold Hd.cells
  rw [List.drop_succ_cons,List.drop_zero,List.take_left' (by simp [hk.1])]
 rwa [e] at h1
theorem hd_root (hb : Blk w g t h.cells) (hk : h.ok) : Rd w (some ⟨g,33,none⟩) (h.root.map u8v):=by
 have h1:=hb.rd.sub 33 32 (by rw [Hd.len hk];omega)
 rw [Nat.zero_add] at h1
 have e : (h.cells.drop 33).take 32 = h.root.map u8v:=by
  unfold Hd.cells
  rw [List.drop_succ_cons,List.drop_left' (by simp [hk.1]),List.take_left' (by simp [hk.2])]
 rwa [e] at h1
end
theorem splice_mapH {α β : Type} (f : α → β) (b : List α) (off : Nat) (d : List α) : splice (b.map f) off (d.map f) = (splice b off d).map f:=by
 simp [splice,List.map_append,List.map_take,List.map_drop]
theorem hput_steps (h : Hd) (hk : h.ok) : layK (layK (layK (splice (splice (layK (List.replicate 80 (0 : UInt8)) 0 h.ver 4) 4 h.prev) 36 h.root) 68 h.time 4) 72 h.bits 4) 76 h.nonce 4 = hputL h:=by
 have hr : ∀ n m : Nat,List.replicate (n + m) (0 : UInt8) = List.replicate n 0 ++ List.replicate m 0:=fun n m => (List.replicate_append_replicate ..).symm
 have z0 : List.replicate 80 (0 : UInt8) = [] ++ (List.replicate 4 0 ++ (List.replicate 32 0 ++ (List.replicate 32 0 ++ (List.replicate 4 0 ++ (List.replicate 4 0 ++ (List.replicate 4 0 ++ [])))))):=by rfl
 rw [z0,layK_mid [] _ _ h.ver 0 rfl (by simp)]
 have e1 : ∀ (a b c : List UInt8),[] ++ (a ++ (b ++ c)) = a ++ (b ++ c):=fun _ _ _ => rfl
 rw [List.nil_append,splice_mid (le4 h.ver) _ _ h.prev 4 rfl (by simp [hk.1])]
 rw [← List.append_assoc (le4 h.ver),splice_mid (le4 h.ver ++ h.prev) _ _ h.root 36 (by simp [le4,hk.1]) (by simp [hk.2])]
 rw [← List.append_assoc (le4 h.ver ++ h.prev),layK_mid (le4 h.ver ++ h.prev ++ h.root) _ _ h.time 68 (by simp [le4,hk.1,hk.2]) (by simp)]
 rw [← List.append_assoc (le4 h.ver ++ h.prev ++ h.root),layK_mid (le4 h.ver ++ h.prev ++ h.root ++ le4 h.time) _ _ h.bits 72 (by simp [le4,hk.1,hk.2]) (by simp)]
 rw [← List.append_assoc (le4 h.ver ++ h.prev ++ h.root ++ le4 h.time),layK_mid (le4 h.ver ++ h.prev ++ h.root ++ le4 h.time ++ le4 h.bits) _ _ h.nonce 76 (by simp [le4,hk.1,hk.2]) (by simp)]
 simp [hputL]
structure HdA (h : Hd) (cs : Array Value) : Prop where
 l : cs.toList = h.cells
 z : cs.size = 68
 i : (Tryd.prog.info? 42).map (·.size) = some cs.size
 n : ¬ cs = #[]
 o : ∀ v ∈ cs.toList,v.oneCell' = true
theorem Hd.one (h : Hd) : ∀ u ∈ h.cells,u.oneCell' = true:=by
 intro u hu
 unfold Hd.cells at hu
 simp only [List.mem_cons,List.mem_append,List.not_mem_nil,or_false] at hu
 rcases hu with rfl | hu | hu | rfl | rfl | rfl
 ·rfl
 ·exact one_w8 _ u hu
 ·exact one_w8 _ u hu
 ·rfl
 ·rfl
 ·rfl
theorem HdA.of {h : Hd} (hk : h.ok) : HdA h h.cells.toArray:=by
 have hz : h.cells.toArray.size = 68:=by rw [List.size_toArray];exact Hd.len hk
 exact ⟨rfl,hz,by rw [hz];kernel_rfl,fun e => by rw [e] at hz;simp at hz,h.one⟩
noncomputable def z80 : Array Value:=match (Tryd.prog.info? 177).bind (·.zero) with | some (.agg c) => c | _ => #[]
theorem z80_size : z80.size = 80:=by kernel_rfl
theorem z80_zero (w : World) : (zeroValue 177).run Tryd.prog w = .ok (.agg z80) w:=by kernel_rfl
theorem z80_list : z80.toList = (List.replicate 80 (0 : UInt8)).map u8v:=by kernel_rfl
set_option maxRecDepth 100000 in
set_option maxHeartbeats 3000000 in
theorem array_any (h : Hd) (cs : Array Value) (w : World) (hk : h.ok) (hcs : HdA h cs) :
  Calls Tryd.prog 83 #[.agg cs] w fun e w' => e = .returned (.agg ((hputL h).map u8v).toArray)∧Keep w w':=by
 obtain ⟨zs,hzs⟩ : ∃ zs,zs = z80:=⟨_,rfl⟩
 have hz1 : zs.size = 80:=by rw [hzs];exact z80_size
 have hz2 : ∀ w,(zeroValue 177).run Tryd.prog w = .ok (.agg zs) w:=fun w => by rw [hzs];exact z80_zero w
 have hz3 : ¬ zs = #[]:=fun h => by rw [h] at hz1;cases hz1
 have Hzl : Hid (zs.toList = (List.replicate 80 (0 : UInt8)).map u8v):=by rw [hzs];exact z80_list
 have hcz:=hcs.z;have hcn:=hcs.n
 have Hcs:=Lib.hid hcs;have Hk:=Lib.hid hk
 clear hzs hcs hk
 go_enter Tryd.func83,Tryd.ntmps83
 go_wp2_with fail
 obtain ⟨w1,hw1⟩ : ∃ w1,w1 = ((w.alloc (.cells cs 42)).alloc (.cells zs 177)).alloc (.cells zs 177):=⟨_,rfl⟩
 have hB : Blk w1 w.heap.size 42 h.cells:=by
  rw [hw1];exact (((show Blk _ w.heap.size _ h.cells by rw [← Hcs.out.l];exact Blk.new w _ cs.toList).alloc _).alloc _)
 have hR : Blk w1 (w.heap.size + 1) 177 zs.toList:=by
  rw [hw1]
  have h1:=Blk.new (w.alloc (.cells cs 42)) 177 zs.toList
  rw [World.size_alloc] at h1
  exact h1.alloc _
 have hO : Blk w1 (w.heap.size + 1 + 1) 177 ((List.replicate 80 (0 : UInt8)).map u8v):=by
  rw [hw1,← Hzl.out]
  have h1:=Blk.new ((w.alloc (.cells cs 42)).alloc (.cells zs 177)) 177 zs.toList
  rw [World.size_alloc,World.size_alloc] at h1
  exact h1
 have kw1 : Keep w w1:=by rw [hw1];exact keep_trans (keep_trans (keep_new _ _) (keep_new _ _)) (keep_new _ _)
 rw [← hw1]
 clear hw1
 have HB1:=Lib.hid hB;have HR1:=Lib.hid hR;have HO1:=Lib.hid hO;have HK1:=Lib.hid kw1
 have HL1 : Hid ((List.replicate 80 (0 : UInt8)).length = 80):=List.length_replicate
 generalize hl1 : List.replicate 80 (0 : UInt8) = l1 at HO1 HL1
 have El1:=Lib.hid hl1
 clear hB hR hO kw1 hl1
 refine wp_region_tree (.take [0,1,2] .done) [3] (by kernel_rfl) (by kernel_rfl) (fun v2 k2 => ?_)
 have b2:=Lib.hid (HB1.out.keep k2);have r2:=Lib.hid (HR1.out.keep k2);have o2:=Lib.hid (HO1.out.keep k2);have q2:=Lib.hid (keep_trans HK1.out k2)
 have c2:=hd_cell0 b2.out Hk.out
 have a2:=aft_cell c2
 refine mt_take v2 (Below.refl _ _) ?_
 simp only [pick_cons,pick_nil,nth_zero,nth_succ]
 repeat (go_big_quiet_step (fail))
 refine wpQuiet_nil (mt_end ?_)
 clear a2 c2
 go_wp2_with fail
 refine (lay4_any (w.heap.size + 1 + 1) 0 80 80 _ l1 h.ver v2 o2.out (by omega) (by rw [HL1.out];omega)).mono ?_
 rintro e w2 ⟨rfl,ho2,hg2⟩
 have HO2:=Lib.hid ho2;have HL2 : Hid ((layK l1 0 h.ver 4).length = 80):=(layK_len _ _ _ _).trans HL1.out
 have HB2:=Lib.hid (b2.out.grown hg2 (fun e => by injection e with e;omega));have HR2:=Lib.hid (r2.out.grown hg2 (fun e => by injection e with e;omega))
 have HK2 : Hid (Keep w w2):=q2.out.grown hg2 q2.out.size (fun q hq => by injection hq with hq;omega)
 clear ho2 hg2
 generalize hl2 : layK l1 0 h.ver 4 = l2 at HO2 HL2
 have El2:=Lib.hid hl2
 clear hl2 HB1 HR1 HO1 HK1 b2 r2 o2 q2 k2 HL1
 go_upto_region 3 with fail
 refine wp_region_tree (.take [0,1,2] .done) [3] (by kernel_rfl) (by kernel_rfl) (fun v3 k3 => ?_)
 have b3:=Lib.hid (HB2.out.keep k3);have r3:=Lib.hid (HR2.out.keep k3);have o3:=Lib.hid (HO2.out.keep k3);have q3:=Lib.hid (keep_trans HK2.out k3)
 refine mt_take v3 (Below.refl _ _) ?_
 simp only [pick_cons,pick_nil,nth_zero,nth_succ]
 repeat (go_big_quiet_step (fail))
 refine wpQuiet_nil (mt_end ?_)
 refine wpList_cpy byteW (by rfl) _ _ (by rfl) (w.heap.size + 1 + 1) 4 76 76 (by rfl) (some ⟨w.heap.size,1,none⟩) 32 32 (h.prev.map u8v) (by rfl) (by rw [List.length_map];exact Hk.out.1) (hd_prev b3.out Hk.out) (one_w8 _) (l2.map u8v) _ o3.out (by rw [List.length_map,HL2.out];omega) ?_
 intro w3 ho3 hg3
 simp only [Act.put,Array.set!_eq_setIfInBounds,List.setIfInBounds_toArray,List.set_cons_succ,List.set_cons_zero]
 have HO3 : Hid (Blk w3 (w.heap.size + 1 + 1) 177 ((splice l2 4 h.prev).map u8v)):=by
  have h:=ho3.out
  rw [List.take_of_length_le (by rw [List.length_map];have:=Hk.out.1;omega),splice_mapH] at h
  exact h
 have HL3 : Hid ((splice l2 4 h.prev).length = 80):=(length_splice _ _ _ (by rw [HL2.out];have:=Hk.out.1;omega)).trans HL2.out
 have HB3:=Lib.hid (b3.out.grown hg3 (fun e => by injection e with e;omega));have HR3:=Lib.hid (r3.out.grown hg3 (fun e => by injection e with e;omega))
 have HK3 : Hid (Keep w w3):=q3.out.grown hg3 q3.out.size (fun q hq => by injection hq with hq;omega)
 clear ho3 hg3
 generalize hl3 : splice l2 4 h.prev = l3 at HO3 HL3
 have El3:=Lib.hid hl3
 clear hl3 HB2 HR2 HO2 HK2 b3 r3 o3 q3 k3 HL2
 go_upto_region 4 with fail
 refine wp_region_tree (.take [0,1,2] .done) [3] (by kernel_rfl) (by kernel_rfl) (fun v4 k4 => ?_)
 have b4:=Lib.hid (HB3.out.keep k4);have r4:=Lib.hid (HR3.out.keep k4);have o4:=Lib.hid (HO3.out.keep k4);have q4:=Lib.hid (keep_trans HK3.out k4)
 refine mt_take v4 (Below.refl _ _) ?_
 simp only [pick_cons,pick_nil,nth_zero,nth_succ]
 repeat (go_big_quiet_step (fail))
 refine wpQuiet_nil (mt_end ?_)
 refine wpList_cpy byteW (by rfl) _ _ (by rfl) (w.heap.size + 1 + 1) 36 44 44 (by rfl) (some ⟨w.heap.size,33,none⟩) 32 32 (h.root.map u8v) (by rfl) (by rw [List.length_map];exact Hk.out.2) (hd_root b4.out Hk.out) (one_w8 _) (l3.map u8v) _ o4.out (by rw [List.length_map,HL3.out];omega) ?_
 intro w4 ho4 hg4
 simp only [Act.put,Array.set!_eq_setIfInBounds,List.setIfInBounds_toArray,List.set_cons_succ,List.set_cons_zero]
 have HO4 : Hid (Blk w4 (w.heap.size + 1 + 1) 177 ((splice l3 36 h.root).map u8v)):=by
  have h:=ho4.out
  rw [List.take_of_length_le (by rw [List.length_map];have:=Hk.out.2;omega),splice_mapH] at h
  exact h
 have HL4 : Hid ((splice l3 36 h.root).length = 80):=(length_splice _ _ _ (by rw [HL3.out];have:=Hk.out.2;omega)).trans HL3.out
 have HB4:=Lib.hid (b4.out.grown hg4 (fun e => by injection e with e;omega));have HR4:=Lib.hid (r4.out.grown hg4 (fun e => by injection e with e;omega))
 have HK4 : Hid (Keep w w4):=q4.out.grown hg4 q4.out.size (fun q hq => by injection hq with hq;omega)
 clear ho4 hg4
 generalize hl4 : splice l3 36 h.root = l4 at HO4 HL4
 have El4:=Lib.hid hl4
 clear hl4 HB3 HR3 HO3 HK3 b4 r4 o4 q4 k4 HL3
 go_upto_region 5 with fail
 refine wp_region_tree (.take [0,1,2] .done) [3] (by kernel_rfl) (by kernel_rfl) (fun v5 k5 => ?_)
 have b5:=Lib.hid (HB4.out.keep k5);have r5:=Lib.hid (HR4.out.keep k5);have o5:=Lib.hid (HO4.out.keep k5);have q5:=Lib.hid (keep_trans HK4.out k5)
 have c5:=hd_cell65 b5.out Hk.out
 have a5:=aft_cell c5
 refine mt_take v5 (Below.refl _ _) ?_
 simp only [pick_cons,pick_nil,nth_zero,nth_succ]
 repeat (go_big_quiet_step (fail))
 refine wpQuiet_nil (mt_end ?_)
 clear a5 c5
 go_wp2_with fail
 refine (lay4_any (w.heap.size + 1 + 1) 68 12 12 _ l4 h.time v5 o5.out (by omega) (by rw [HL4.out];omega)).mono ?_
 rintro e w5 ⟨rfl,ho5,hg5⟩
 have HO5:=Lib.hid ho5;have HL5 : Hid ((layK l4 68 h.time 4).length = 80):=(layK_len _ _ _ _).trans HL4.out
 have HB5:=Lib.hid (b5.out.grown hg5 (fun e => by injection e with e;omega));have HR5:=Lib.hid (r5.out.grown hg5 (fun e => by injection e with e;omega))
 have HK5 : Hid (Keep w w5):=q5.out.grown hg5 q5.out.size (fun q hq => by injection hq with hq;omega)
 clear ho5 hg5
 generalize hl5 : layK l4 68 h.time 4 = l5 at HO5 HL5
 have El5:=Lib.hid hl5
 clear hl5 HB4 HR4 HO4 HK4 b5 r5 o5 q5 k5 HL4
 go_upto_region 6 with fail
 refine wp_region_tree (.take [0,1,2] .done) [3] (by kernel_rfl) (by kernel_rfl) (fun v6 k6 => ?_)
 have b6:=Lib.hid (HB5.out.keep k6);have r6:=Lib.hid (HR5.out.keep k6);have o6:=Lib.hid (HO5.out.keep k6);have q6:=Lib.hid (keep_trans HK5.out k6)
 have c6:=hd_cell66 b6.out Hk.out
 have a6:=aft_cell c6
 refine mt_take v6 (Below.refl _ _) ?_
 simp only [pick_cons,pick_nil,nth_zero,nth_succ]
 repeat (go_big_quiet_step (fail))
 refine wpQuiet_nil (mt_end ?_)
 clear a6 c6
 go_wp2_with fail
 refine (lay4_any (w.heap.size + 1 + 1) 72 8 8 _ l5 h.bits v6 o6.out (by omega) (by rw [HL5.out];omega)).mono ?_
 rintro e w6 ⟨rfl,ho6,hg6⟩
 have HO6:=Lib.hid ho6;have HL6 : Hid ((layK l5 72 h.bits 4).length = 80):=(layK_len _ _ _ _).trans HL5.out
 have HB6:=Lib.hid (b6.out.grown hg6 (fun e => by injection e with e;omega));have HR6:=Lib.hid (r6.out.grown hg6 (fun e => by injection e with e;omega))
 have HK6 : Hid (Keep w w6):=q6.out.grown hg6 q6.out.size (fun q hq => by injection hq with hq;omega)
 clear ho6 hg6
 generalize hl6 : layK l5 72 h.bits 4 = l6 at HO6 HL6
 have El6:=Lib.hid hl6
 clear hl6 HB5 HR5 HO5 HK5 b6 r6 o6 q6 k6 HL5
 go_upto_region 7 with fail
 refine wp_region_tree (.take [0,1,2] .done) [3] (by kernel_rfl) (by kernel_rfl) (fun v7 k7 => ?_)
 have b7:=Lib.hid (HB6.out.keep k7);have r7:=Lib.hid (HR6.out.keep k7);have o7:=Lib.hid (HO6.out.keep k7);have q7:=Lib.hid (keep_trans HK6.out k7)
 have c7:=hd_cell67 b7.out Hk.out
 have a7:=aft_cell c7
 refine mt_take v7 (Below.refl _ _) ?_
 simp only [pick_cons,pick_nil,nth_zero,nth_succ]
 repeat (go_big_quiet_step (fail))
 refine wpQuiet_nil (mt_end ?_)
 clear a7 c7
 go_wp2_with fail
 refine (lay4_any (w.heap.size + 1 + 1) 76 4 4 _ l6 h.nonce v7 o7.out (by omega) (by rw [HL6.out];omega)).mono ?_
 rintro e w7 ⟨rfl,ho7,hg7⟩
 have HO7:=Lib.hid ho7;have HL7 : Hid ((layK l6 76 h.nonce 4).length = 80):=(layK_len _ _ _ _).trans HL6.out
 have HB7:=Lib.hid (b7.out.grown hg7 (fun e => by injection e with e;omega));have HR7:=Lib.hid (r7.out.grown hg7 (fun e => by injection e with e;omega))
 have HK7 : Hid (Keep w w7):=q7.out.grown hg7 q7.out.size (fun q hq => by injection hq with hq;omega)
 clear ho7 hg7
 generalize hl7 : layK l6 76 h.nonce 4 = l7 at HO7 HL7
 have El7:=Lib.hid hl7
 clear hl7 HB6 HR6 HO6 HK6 b7 r7 o7 q7 k7 HL6
 have hput : l7 = hputL h:=by
  rw [← El7.out,← El6.out,← El5.out,← El4.out,← El3.out,← El2.out,← El1.out]
  exact hput_steps h Hk.out
 have HP:=Lib.hid hput
 clear hput El7 El6 El5 El4 El3 El2 El1
 obtain ⟨ps,hps⟩ : ∃ ps : Array Value,ps.toList = l7.map u8v:=⟨(l7.map u8v).toArray,rfl⟩
 have hpz : ps.size = 80:=by rw [← Array.length_toList,hps,List.length_map,HL7.out]
 have hpn : ¬ ps = #[]:=by intro h;rw [h] at hpz;simp at hpz
 have hpi : (Tryd.prog.info? 177).map (·.size) = some ps.size:=by rw [hpz];kernel_rfl
 have Ho7 : Hid (Blk w7 (w.heap.size + 1 + 1) 177 ps.toList):=by rw [hps];exact HO7.out
 have Hps:=Lib.hid hps
 obtain ⟨w8,hst,hb8,hg8⟩:=run_store_blk (P:=Tryd.prog) ps.toList HR7.out (by simp [hz1,hpz]) (by rw [hps];exact one_w8 _)
 have Hb8:=Lib.hid hb8;have Hg8:=Lib.hid hg8
 clear hps hb8 hg8
 go_upto_region 8 with fail
 go_wp2_with ((with_reducible refine load_arr (w.heap.size + 1 + 1) ps (Eq.trans ?_ rfl) Ho7.out (.array 80 5) Tryd.underlying177 (arr_row _ _) hpi ?_);rfl)
 have hb8:=Hb8.out
 refine bodyPost_ret (v:=.agg ps) (results_cell_row Tryd.results83 _ _ (w.heap.size + 1) _ _ _ _ rfl hb8 Tryd.underlying177 rfl (by rw [List.size_toArray,Array.length_toList,hpz];kernel_rfl)) rfl ⟨?_,HK7.out.grown Hg8.out HK7.out.size (fun q hq => by injection hq with hq;omega)⟩
 rw [← HP.out,← Hps.out,Array.toArray_toList]
end Go.Proofs.YtffpanlpbdnafaaDoor
namespace Go.Proofs.YtffpanlpbdnafaaDoor
open Go.RowKit
attribute [local go_sem ↓] Go.wp_at_zero Go.wp_at_succ
theorem z80_letter : ∃ zs : Array Value,zs.size = 80∧(∀ w,(zeroValue 177).run Tryd.prog w = .ok (.agg zs) w)∧¬ zs = #[] :=
 ⟨z80,z80_size,z80_zero,fun h => by have:=z80_size;rw [h] at this;cases this⟩
theorem results_cell_tmp_row {P : Program} {fn : Func} {p u : Tmp} {ty : TypeId} (h : fn.results = #[.cell p ty,.tmp u]) (tmps : Array Value) (w : World) (g : Nat) (t : TypeId) (cs : Array Value) (fr : Nat × Nat) (d : TypeDesc)
  (hp : tmps.getD p undef = .pointer (some ⟨g,0,none⟩)) (hg : w.heap[g]? = some (.cells cs t fr))
  (hu : P.underlying ty = some d) (hd : (match d with | .struct _ | .array _ _ => true | _ => false) = true) (hi : (P.info? ty).map (·.size) = some cs.size) :
  (results fn tmps).run P w = .ok (.tuple #[.agg cs,tmps.getD u undef]) w:=by
 rw [results_cell_tmp h,hp]
 simp [asAddr,run_loadVar_row w g t ty cs fr d hg hu hd hi]
noncomputable def zhead : Array Value:=match (Tryd.prog.info? 42).bind (·.zero) with | some (.agg c) => c | _ => #[]
theorem zhead_size : zhead.size = 68:=by kernel_rfl
theorem zhead_zero (w : World) : (zeroValue 42).run Tryd.prog w = .ok (.agg zhead) w:=by kernel_rfl
def z32 : List UInt8:=List.replicate 32 0
theorem zhead_list : zhead.toList = Hd.cells ⟨0,z32,z32,0,0,0⟩:=by kernel_rfl
theorem zhead_letter : ∃ zs : Array Value,zs.size = 68∧(∀ w,(zeroValue 42).run Tryd.prog w = .ok (.agg zs) w)∧¬ zs = #[]∧zs.toList = Hd.cells ⟨0,z32,z32,0,0,0⟩ :=
 ⟨zhead,zhead_size,zhead_zero,(fun h => by have:=zhead_size;rw [h] at this;cases this),zhead_list⟩
theorem zhash_letter : ∃ zs : Array Value,zs.size = 32∧(∀ w,(zeroValue 39).run Tryd.prog w = .ok (.agg zs) w)∧¬ zs = #[]∧zs.toList = (List.replicate 32 (0 : UInt8)).map u8v :=
 ⟨zhash,zhash_size,zhash_zero,(fun h => by have:=zhash_size;rw [h] at this;cases this),zhash_list⟩
end Go.Proofs.YtffpanlpbdnafaaDoor
/- Hashes and headers compared; loads behind a guard. -/
set_option linter.unusedSimpArgs false
set_option linter.unusedVariables false
namespace Go.Proofs.YtffpanlpbdnafaaDoor
open Go.RowKit
attribute [local go_sem ↓] Go.wp_at_zero Go.wp_at_succ
theorem HashA.cell {l : List UInt8} {cs : Array Value} (h : HashA l cs) : cs = (l.map Extern.Stop.cell).toArray:=h.e.symm
theorem u8_size (w : World) : (sizeOf 5).run Tryd.prog w = .ok 1 w:=by kernel_rfl
theorem hash_eqIn (d : Nat) {l m : List UInt8} {cs ds : Array Value} (h : HashA l cs) (g : HashA m ds) (hl : l.length = 32) (hm : m.length = 32) (w : World) :
  (Op.equalIn (d + 2) 39 (.agg cs) (.agg ds)).run Tryd.prog w = .ok (l == m) w:=by
 rw [h.cell,g.cell]
 exact run_equalIn_bytes w d _ 5 32 hash_under Tryd.underlying5 u8_size l m hl hm
theorem hash_eql {l m : List UInt8} {cs ds : Array Value} (h : HashA l cs) (g : HashA m ds) (hl : l.length = 32) (hm : m.length = 32) (w : World) :
  (Go.binOp .eql 39 (.agg cs) (.agg ds)).run Tryd.prog w = .ok (.bool (l == m)) w:=by
 rw [run_eql_struct,show (10000 : Nat) = 9998 + 2 from rfl,hash_eqIn 9998 h g hl hm]
 rfl
theorem hash_guard : Tryd.prog.eqGuardType Tryd.prog.depth 39 = false:=by kernel_rfl
def hdEq (a b : Hd) : Bool:=a.ver == b.ver && (a.prev == b.prev && (a.root == b.root && (a.time == b.time && (a.bits == b.bits && a.nonce == b.nonce))))
theorem hdEq_iff (a b : Hd) : hdEq a b = true ↔ a = b:=by
 unfold hdEq
 simp only [Bool.and_eq_true,beq_iff_eq]
 constructor
 ·rintro ⟨h1,h2,h3,h4,h5,h6⟩
  cases a;cases b
  simp only at h1 h2 h3 h4 h5 h6
  subst h1 h2 h3 h4 h5 h6
  rfl
 ·rintro rfl;exact ⟨rfl,rfl,rfl,rfl,rfl,rfl⟩
instance hdDec : DecidableEq Hd:=fun a b => decidable_of_iff _ (hdEq_iff a b)
theorem hd_guard : Tryd.prog.eqGuardType Tryd.prog.depth 42 = false:=by kernel_rfl
theorem hd_stood : Tryd.prog.stoodInHeld 42 = false:=by kernel_rfl
theorem hash_size (w : World) : (sizeOf 39).run Tryd.prog w = .ok 32 w:=by kernel_rfl
theorem hash_agg (w : World) : (isAgg 39).run Tryd.prog w = .ok true w:=by kernel_rfl
theorem part_hash (cs : Array Value) (off : Nat) (w : World) : (part 39 cs off).run Tryd.prog w = .ok (.agg (cs.extract off (off + 32))) w:=by
 simp only [part,Sem.run_bind,hash_agg,hash_size,Result.andThen_ok,if_true,Sem.run_pure]
theorem u32_agg (w : World) : (isAgg 22).run Tryd.prog w = .ok false w:=by kernel_rfl
theorem part_u32 {cs : Array Value} {off : Nat} {v : Value} (h : cs[off]? = some v) (w : World) : (part 22 cs off).run Tryd.prog w = .ok v w:=by
 simp only [part,Sem.run_bind,u32_agg,Result.andThen_ok,Bool.false_eq_true,if_false,h,Sem.run_pure]
theorem eq_u32 (d : Nat) (x y : UInt32) (w : World) : (Op.equalIn (d + 1) 22 (u32v x) (u32v y)).run Tryd.prog w = .ok (x == y) w:=by
 unfold u32v
 rw [run_equalIn_int w d _ .u32 .u32 _ _ Tryd.underlying22]
 congr 1
 rw [Bool.eq_iff_iff]
 simp [← UInt32.toNat_inj]
 exact Int.ofNat_inj
theorem part_of {cs : Array Value} {all : List Value} (hc : cs.toList = all) (off : Nat) {l : List UInt8} (hl : l.length = 32) (h : (all.drop off).take 32 = l.map u8v) : HashA l (cs.extract off (off + 32)):=by
 have e : cs.extract off (off + 32) = (l.map u8v).toArray:=by
  apply Array.ext'
  rw [Array.toList_extract,List.extract_eq_take_drop,hc,Nat.add_sub_cancel_left,h]
 rw [e];exact HashA.of hl
theorem HdA.parts {h : Hd} {cs : Array Value} (hA : HdA h cs) (hk : h.ok) : cs[0]? = some (u32v h.ver)∧HashA h.prev (cs.extract 1 33)∧HashA h.root (cs.extract 33 65)∧cs[65]? = some (u32v h.time)∧cs[66]? = some (u32v h.bits)∧cs[67]? = some (u32v h.nonce):=by
 have hg : ∀ k,cs[k]? = h.cells[k]?:=fun k => by rw [← hA.l,Array.getElem?_toList]
 refine ⟨(hg 0).trans rfl,part_of hA.l 1 hk.1 ?_,part_of hA.l 33 hk.2 ?_,(hg 65).trans (hd_tail hk 0),(hg 66).trans (hd_tail hk 1),(hg 67).trans (hd_tail hk 2)⟩
 ·unfold Hd.cells
  rw [List.drop_succ_cons,List.drop_zero,List.take_left' (by simp [hk.1])]
 ·unfold Hd.cells
  rw [List.drop_succ_cons,List.drop_left' (by simp [hk.1]),List.take_left' (by simp [hk.2])]
def eqF (P : Program) (d : Nat) (xs ys : Array Value) : List (Bool × TypeId × Nat) → Sem Bool
 | [] => pure true
 | f :: fs =>
   if f.1 = true then do
    let a ← part f.2.1 xs f.2.2
    let b ← part f.2.1 ys f.2.2
    let r ← Op.equalIn d f.2.1 a b
    if (!r) = true then pure false else eqF P d xs ys fs
   else eqF P d xs ys fs
theorem eqF_of (P : Program) (d : Nat) (xs ys : Array Value) : ∀ fs : List Field, Op.eqFields d xs ys fs = eqF P d xs ys (fs.map fun f => (f.name != "_", f.type, f.offset))
 | [] => rfl
 | f :: fs => by
   rw [List.map_cons,Op.eqFields,eqF,eqF_of P d xs ys fs]
   simp
theorem eqF_step {P : Program} {d : Nat} {xs ys : Array Value} {t : TypeId} {o : Nat} {fs : List (Bool × TypeId × Nat)} {a b : Value} {r s : Bool} {w : World} (ha : (part t xs o).run P w = .ok a w) (hb : (part t ys o).run P w = .ok b w)
  (hr : (Op.equalIn d t a b).run P w = .ok r w) (hs : (eqF P d xs ys fs).run P w = .ok s w) : (eqF P d xs ys ((true,t,o) :: fs)).run P w = .ok (r && s) w:=by
 rw [eqF,if_pos rfl]
 simp only [Sem.run_bind,ha,hb,hr,Result.andThen_ok]
 cases r
 ·simp
 ·simpa using hs
theorem hd_fields : ((Tryd.prog.fieldsOf 42).toList.map fun f => (f.name != "_", f.type, f.offset)) = [(true, 22, 0), (true, 39, 1), (true, 39, 33), (true, 22, 65), (true, 22, 66), (true, 22, 67)] := by kernel_rfl
theorem hd_struct : Tryd.prog.underlying 42 = some (.struct (Tryd.prog.fieldsOf 42)):=by kernel_rfl
theorem hd_eqIn (d : Nat) {h g : Hd} {cs ds : Array Value} (hc : HdA h cs) (hd : HdA g ds) (hk : h.ok) (gk : g.ok) (w : World) :
  (Op.equalIn (d + 3) 42 (.agg cs) (.agg ds)).run Tryd.prog w = .ok (hdEq h g) w:=by
 obtain ⟨a0,a1,a2,a3,a4,a5⟩:=hc.parts hk
 obtain ⟨b0,b1,b2,b3,b4,b5⟩:=hd.parts gk
 rw [run_equalIn_agg w (d + 2) _ _ _ hd_struct hd_stood,eqF_of Tryd.prog,hd_fields]
 have e : hdEq h g = (h.ver == g.ver && (h.prev == g.prev && (h.root == g.root && (h.time == g.time && (h.bits == g.bits && (h.nonce == g.nonce && true)))))):=by rw [Bool.and_true];rfl
 rw [e]
 refine eqF_step (part_u32 a0 w) (part_u32 b0 w) (eq_u32 _ _ _ w) (eqF_step (part_hash _ _ w) (part_hash _ _ w) (hash_eqIn d a1 b1 hk.1 gk.1 w) (eqF_step (part_hash _ _ w) (part_hash _ _ w) (hash_eqIn d a2 b2 hk.2 gk.2 w) (eqF_step (part_u32 a3 w) (part_u32 b3 w) (eq_u32 _ _ _ w) (eqF_step (part_u32 a4 w) (part_u32 b4 w) (eq_u32 _ _ _ w) (eqF_step (part_u32 a5 w) (part_u32 b5 w) (eq_u32 _ _ _ w) ?_)))))
 rw [eqF];rfl
theorem hd_eql {h g : Hd} {cs ds : Array Value} (hc : HdA h cs) (hd : HdA g ds) (hk : h.ok) (gk : g.ok) (w : World) :
  (Go.binOp .eql 42 (.agg cs) (.agg ds)).run Tryd.prog w = .ok (.bool (hdEq h g)) w:=by
 rw [run_eql_struct,show (10000 : Nat) = 9997 + 3 from rfl,hd_eqIn 9997 hc hd hk gk]
 rfl
theorem hd_neq {h g : Hd} {cs ds : Array Value} (hc : HdA h cs) (hd : HdA g ds) (hk : h.ok) (gk : g.ok) (w : World) :
  (Go.binOp .neq 42 (.agg cs) (.agg ds)).run Tryd.prog w = .ok (.bool (!hdEq h g)) w:=by
 rw [run_neq_struct,show (10000 : Nat) = 9997 + 3 from rfl,hd_eqIn 9997 hc hd hk gk]
 rfl
theorem load_partg {P : Program} {w : World} {ops : Array Oper} {rest : List Oper} {a : Act} {Q : Exit → Act → World → Prop} {x : Operand} {dst : Option Tmp} {ty ty' : TypeId} {pos : String} {af : Array Edge} {gd : Option (Nat × Bool)}
  (g off : Nat) (cs : Array Value) (hx : a.eval x = .pointer (some ⟨g,off,none⟩)) (hr : w.rangeAt g off cs.toList) (d : TypeDesc) (hu : P.underlying ty = some d) (hd : d.isRow = true) (hi : (P.info? ty).map (·.size) = some cs.size)
  (hw : Region.wanted { dst:=dst,op:=.load ty x,type:=ty',pos:=pos,after:=af,guard:=gd } (yielded ops a.tmps) = true)
  (h : wpList P ops Q rest (a.put dst (.agg cs)) w) : wpList P ops Q ({ dst:=dst,op:=.load ty x,type:=ty',pos:=pos,after:=af,guard:=gd } :: rest) a w:=by
 unfold wpList
 rw [if_pos hw]
 left
 exact wp_load_mid ty x rfl g off hx cs.toList d hr hu hd (by simpa using hi) h
theorem wpQuiet_load_partg {P : Program} {w0 : World} {ops : Array Oper} {rest : List Oper} {a : Act} {Q : Act → Prop} {x : Operand} {dst : Option Tmp} {ty ty' : TypeId} {pos : String} {af : Array Edge} {gd : Option (Nat × Bool)}
  (g off : Nat) (cs : Array Value) (hx : a.eval x = .pointer (some ⟨g,off,none⟩)) (hr : w0.rangeAt g off cs.toList) (d : TypeDesc) (hu : P.underlying ty = some d) (hd : d.isRow = true) (hi : (P.info? ty).map (·.size) = some cs.size)
  (hw : Region.wanted { dst:=dst,op:=.load ty x,type:=ty',pos:=pos,after:=af,guard:=gd } (yielded ops a.tmps) = true)
  (h : wpQuiet P ops (fun w' => ∃ x,w' = aft w0 x) Q rest (a.put dst (.agg cs))) :
  wpQuiet P ops (fun w' => ∃ x,w' = aft w0 x) Q ({ dst:=dst,op:=.load ty x,type:=ty',pos:=pos,after:=af,guard:=gd } :: rest) a:=by
 refine BigFrame.wpQuiet_want hw fun K hK => ⟨.agg cs,fun w hw => ?_,hK _ h⟩
 obtain ⟨y,rfl⟩:=hw
 unfold Oper.quietAt execOp
 have hl:=run_loadVar_mid (P:=P) (aft w0 y) g off ty cs.toList d (fun j v hv => keep_cell (aft_keep w0 y) (hr j v hv)) hu hd (by simpa using hi)
 simp only [hx,Instr.loadAt,Instr.sureAddr,Sem.run_bind,Sem.run_pure,Result.andThen_ok,hl,Array.toArray_toList]
 exact ⟨rfl,rfl⟩
end Go.Proofs.YtffpanlpbdnafaaDoor
/- A slice of one built; lists of 32. -/
set_option linter.unusedSimpArgs false
set_option linter.unusedVariables false
namespace Go.Proofs.YtffpanlpbdnafaaDoor
open Go.RowKit
attribute [local go_sem ↓] Go.wp_at_zero Go.wp_at_succ
theorem foldl_setb : ∀ (l : List Value) (k : Nat) (acc : Array Value),k + l.length = acc.size → (l.zipIdx k).foldl (fun cs x => cs.setIfInBounds (0 + x.2) x.1) acc = (acc.toList.take k ++ l).toArray
 | [],k,acc,h => by
   have : acc.toList.take k = acc.toList:=List.take_of_length_le (by simp at h ⊢;omega)
   simp [this]
 | v :: r,k,acc,h => by
   rw [List.zipIdx_cons,List.foldl_cons,foldl_setb r (k + 1) _ (by simp at h ⊢;omega)]
   have hk : k < acc.size:=by simp at h;omega
   congr 1
   rw [Array.toList_setIfInBounds,Nat.zero_add,List.take_succ_eq_append_getElem (by simpa using hk),List.getElem_set_self,List.take_set_of_le (Nat.le_refl _)]
   simp
theorem wp_build1b {P : Program} {t e : TypeId} {zc : Array Value} {size bytes : Nat} (T : ElT P t e (.agg zc) size bytes) {o : Oper} {a : Act} {w : World} {K : Act → World → Prop} {Q : Exit → Act → World → Prop} (x : Operand) (ho : o.op = .buildSlice t 1 #[(0,x)])
  (cs : Array Value) (hz : cs.size = size) (hsm : size ≤ 1000) (hx : a.eval x = .agg cs)
  (h : K (a.put o.dst (.slice (some ⟨w.heap.size,0,none⟩) 1 1)) (w.alloc (.cells cs e))) : o.wp P a w K Q:=by
 obtain ⟨i,hi,hiz,his,_⟩:=T.info
 have hzc : zc.size = size:=T.zs
 have hp:=T.pos
 refine wp_buildSlice t e 1 _ ho cs i (.agg zc) T.und hi hiz (by rw [his];omega) (by rw [his];omega) ?_ h
 have hc : (Value.agg cs).cells = cs:=rfl
 simp only [List.map_toArray,List.map_cons,List.map_nil,hx,Instr.fill,hc,his,hz,Nat.zero_mul,Nat.one_mul]
 rw [if_neg (by simp)]
 congr 1
 rw [← Array.foldl_toList,Array.toList_zipIdx]
 have hf:=foldl_setb cs.toList 0 ((Array.range size).map fun j => zc[j % zc.size]!) (by simp [hz])
 simp only [List.take_zero,List.nil_append,Array.toArray_toList] at hf
 exact hf
set_option maxRecDepth 100000 in
theorem headTb : ElT Tryd.prog 36 42 (Value.agg zhead) 68 80:=ElT.mk' Tryd.underlying36 (by kernel_rfl) zhead_size (by omega)
set_option maxRecDepth 100000 in
theorem list32b {l : List UInt8} (h : l.length = 32) : ∃ a0 a1 a2 a3 a4 a5 a6 a7 a8 a9 b0 b1 b2 b3 b4 b5 b6 b7 b8 b9 c0 c1 c2 c3 c4 c5 c6 c7 c8 c9 d0 d1 : UInt8,l = [a0,a1,a2,a3,a4,a5,a6,a7,a8,a9,b0,b1,b2,b3,b4,b5,b6,b7,b8,b9,c0,c1,c2,c3,c4,c5,c6,c7,c8,c9,d0,d1]:=by
 match l,h with
 | [a0,a1,a2,a3,a4,a5,a6,a7,a8,a9,b0,b1,b2,b3,b4,b5,b6,b7,b8,b9,c0,c1,c2,c3,c4,c5,c6,c7,c8,c9,d0,d1],_ => exact ⟨a0,a1,a2,a3,a4,a5,a6,a7,a8,a9,b0,b1,b2,b3,b4,b5,b6,b7,b8,b9,c0,c1,c2,c3,c4,c5,c6,c7,c8,c9,d0,d1,rfl⟩
theorem heads_at {w : World} {B : Option Addr} {l : List Hd} (hr : Rd w B (l.flatMap Hd.cells)) (hk : ∀ h ∈ l,h.ok) {k : Nat} (h : k < l.length) :
  ∃ b off,B = some ⟨b,off,none⟩∧b < w.heap.size∧w.rangeAt b (off + k * 68) l[k].cells:=by
 have hlen : ∀ a ∈ l,a.cells.length = 68:=fun a ha => Hd.len (hk a ha)
 obtain ⟨b,off,rfl,hb,F⟩:=hr.at (k:=k * 68) (by rw [flatMap_len' _ 68 _ hlen];omega)
 refine ⟨b,off,rfl,hb,fun j v hv => ?_⟩
 have hj : j < 68:=by rw [← hlen l[k] (List.getElem_mem h)];exact (List.getElem?_eq_some_iff.1 hv).1
 have hg:=flatMap_get' Hd.cells 68 l hlen k j h hj
 have hlt : k * 68 + j < (l.flatMap Hd.cells).length:=by rw [flatMap_len' _ 68 _ hlen];omega
 have hc:=F (k * 68 + j) hlt
 rw [Nat.add_assoc,hc,← hv,← hg,List.getElem?_eq_getElem hlt]
end Go.Proofs.YtffpanlpbdnafaaDoor
