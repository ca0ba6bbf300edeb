/- Texts merged by pack.py: Gr, Ka, Kb, Vd, ShP, HdA, HdE, Bd, Hsh. -/
import Derived.Test.YtbgpgdhndanigaaCx1
import Derived.Maps.Range
import Derived.Test.YtbgpgdhndanigaaRows
import Derived.Deep.RegionHeld3
import Derived.Deep.DrawnRows
import Derived.Deep.DeepCutAuto
import Derived.Deep.RegionLaw
import Derived.Deep.MidRow
import Derived.Deep.WholeRow
import Derived.Lib.EndianBits
import Derived.Laws.ResultCell
import Derived.Stop.BytesEq
import Derived.Great.BuildSlice
/- A row that grows: what append may turn. -/
set_option linter.unusedSimpArgs false
set_option linter.unusedVariables false
namespace Go.Proofs.Ytbgpgdhndanigaa
open Go.RowKit
structure Gr (w : World) (v : Value) (w' : World) (v' : Value) : Prop where
 g : w.grownBy w' v.ownBlock
 f : v'.ownBlock = v.ownBlock ∨ ∃ k,v'.ownBlock = some k∧w.heap.size ≤ k
theorem Gr.refl (w : World) (v : Value) : Gr w v w v:=⟨World.grownBy.refl w _,.inl rfl⟩
theorem Gr.size {w w' : World} {v v' : Value} (h : Gr w v w' v') : w.heap.size ≤ w'.heap.size:=h.g.size
theorem Gr.trans {a b c : World} {u v x : Value} (h : Gr a u b v) (k : Gr b v c x) : Gr a u c x :=
 ⟨h.g.andThen k.g fun j hj => h.f.symm.imp (fun ⟨m,e,hm⟩ => by rw [e] at hj;cases hj;exact hm) (fun e => by rw [← e];exact hj),
  k.f.elim (fun e => h.f.imp (fun q => e.trans q) fun ⟨m,q,hm⟩ => ⟨m,e.trans q,hm⟩) fun ⟨m,q,hm⟩ => .inr ⟨m,q,Nat.le_trans h.size hm⟩⟩
theorem Gr.of_keep {a b : World} (k : Keep a b) (u : Value) : Gr a u b u:=⟨⟨k.os,k.tape,k.output,k.size,fun j hj _ => k.block j hj⟩,.inl rfl⟩
theorem Gr.keep {a b c : World} {u v : Value} (h : Gr a u b v) (k : Keep b c) : Gr a u c v:=h.trans (Gr.of_keep k v)
theorem Gr.alloc {a b : World} {u v : Value} (h : Gr a u b v) (o : Obj) : Gr a u (b.alloc o) v:=h.keep (keep_new _ _)
theorem Gr.app {a b c : World} {u v x : Value} (h : Gr a u b v) (hg : b.grownBy c v.ownBlock) (hat : x.ownBlock = v.ownBlock ∨ x.ownBlock = some b.heap.size) : Gr a u c x :=
 h.trans ⟨hg,hat.imp id fun e => ⟨_,e,Nat.le_refl _⟩⟩
theorem Gr.below {a b : World} {u v : Value} {B : Nat} {e : TypeId} {size n : Nat} {xs : List Value} (h : Gr a u b v) (ho : a.ownsRow B e size u n xs) (hB : B ≤ a.heap.size) : Below B a b:=by
 refine ⟨h.g.os,h.g.tape,h.g.output,h.size,fun k hk => h.g.block k (by omega) fun q => ?_⟩
 rcases ho.2 with ⟨rfl,_⟩ | ⟨g,cap,cur,rfl,hb,_⟩
 ·cases q
 ·have : k = g:=Option.some.inj q
  omega
theorem RdX.gr {a b : World} {u v : Value} {A : Option Addr} {xs : List Value} (h : RdX u.ownBlock a A xs) (k : Gr a u b v) : RdX v.ownBlock b A xs:=by
 rcases h with h | ⟨g,off,rfl,hne,hc⟩
 ·exact .inl h
 ·by_cases hx : xs = []
  ·exact .inl hx
  refine .inr ⟨g,off,rfl,?_,fun j hj => k.g.cell (hc j hj) fun q => hne q.symm⟩
  have hlt:=cell_lt (hc 0 (List.length_pos_iff.2 hx))
  rcases k.f with q | ⟨m,q,hm⟩
  ·rw [q];exact hne
  ·rw [q];intro e;cases e;omega
theorem Blk.gr {a b : World} {u v : Value} {g : Nat} {t : TypeId} {cs : List Value} (h : Blk a g t cs) (k : Gr a u b v) (hne : u.ownBlock ≠ some g) : Blk b g t cs∧v.ownBlock ≠ some g :=
 ⟨h.grown k.g hne,by
  rcases k.f with q | ⟨m,q,hm⟩
  ·rw [q];exact hne
  ·rw [q];intro e;cases e;have:=h.lt;omega⟩
def KeepX (X : Nat → Prop) (w w' : World) : Prop:=w'.os = w.os∧w'.tape = w.tape∧w'.output = w.output∧w.heap.size ≤ w'.heap.size∧∀ k,k < w.heap.size → ¬ X k → w'.heap[k]? = w.heap[k]?
theorem KeepX.of {X : Nat → Prop} {a b : World} (h : Keep a b) : KeepX X a b:=⟨h.os,h.tape,h.output,h.size,fun k hk _ => h.block k hk⟩
theorem KeepX.trans {X Y : Nat → Prop} {a b c : World} (h : KeepX X a b) (k : KeepX Y b c) (hY : ∀ j,j < a.heap.size → Y j → X j) : KeepX X a c :=
 ⟨k.1.trans h.1,k.2.1.trans h.2.1,k.2.2.1.trans h.2.2.1,Nat.le_trans h.2.2.2.1 k.2.2.2.1,fun j hj hn => (k.2.2.2.2 j (Nat.lt_of_lt_of_le hj h.2.2.2.1) (fun e => hn (hY j hj e))).trans (h.2.2.2.2 j hj hn)⟩
theorem KeepX.grown {X : Nat → Prop} {a b c : World} {row : Option Nat} (h : KeepX X a b) (hg : b.grownBy c row) (hr : ∀ j,j < a.heap.size → row = some j → X j) : KeepX X a c :=
 h.trans (Y:=fun j => row = some j) ⟨hg.os,hg.tape,hg.output,hg.size,fun j hj hn => hg.block j hj (fun e => hn e.symm)⟩ hr
theorem KeepX.keep {X : Nat → Prop} {w0 a b : World} (h : KeepX X a b) (k : Keep w0 a) (hX : ∀ j,X j → w0.heap.size ≤ j) : Keep w0 b :=
 ⟨h.1.trans k.os,h.2.1.trans k.tape,h.2.2.1.trans k.output,Nat.le_trans k.size h.2.2.2.1,fun j hj => (h.2.2.2.2 j (Nat.lt_of_lt_of_le hj k.size) (fun e => by have:=hX j e;omega)).trans (k.block j hj)⟩
theorem Blk.kx {X : Nat → Prop} {a b : World} {g : Nat} {t : TypeId} {cs : List Value} (h : Blk a g t cs) (k : KeepX X a b) (hn : ¬ X g) : Blk b g t cs:=(k.2.2.2.2 g h.lt hn).trans h
end Go.Proofs.Ytbgpgdhndanigaa
/- A row of bytes that a call makes; florinref04.Size, Put. (printed by gen_ka.py) -/
set_option linter.unusedSimpArgs false
set_option linter.unusedVariables false
namespace Go.Proofs.Ytbgpgdhndanigaa
open Go.RowKit
attribute [local go_sem ↓] Go.wp_at_zero Go.wp_at_succ
structure Bf (w0 w : World) (A : Option Addr) (c : Nat) (l : List UInt8) : Prop where
 o : w.ownsRow w0.heap.size 5 1 (.slice A l.length c) l.length (l.map u8v)
 k : Keep w0 w
theorem Bf.nil {w0 w : World} (k : Keep w0 w) : Bf w0 w none 0 []:=⟨World.ownsRow_nil _ _ _ _,k⟩
theorem Bf.lit {w0 w : World} (k : Keep w0 w) : Bf w0 (w.alloc (.cells #[] 5)) (some ⟨w.heap.size,0,none⟩) 0 []:=⟨own_base (own_zero w _ _) k.size,k.alloc k.size _⟩
theorem Bf.keep {w0 w w' : World} {A : Option Addr} {c : Nat} {l : List UInt8} (h : Bf w0 w A c l) (k : Keep w w') : Bf w0 w' A c l:=⟨own_keep h.o k,keep_trans h.k k⟩
theorem Bf.alloc {w0 w : World} {A : Option Addr} {c : Nat} {l : List UInt8} (h : Bf w0 w A c l) (o : Obj) : Bf w0 (w.alloc o) A c l:=h.keep (keep_new _ _)
theorem Bf.rd {w0 w : World} {A : Option Addr} {c : Nat} {l : List UInt8} (h : Bf w0 w A c l) : Rd w A (l.map u8v):=own_rd h.o
theorem Bf.up {w0 w1 w : World} {A : Option Addr} {c : Nat} {l : List UInt8} (h : Bf w1 w A c l) (k : Keep w0 w1) : Bf w0 w A c l:=⟨own_base h.o k.size,keep_trans k h.k⟩
theorem Bf.size {w0 w : World} {A : Option Addr} {c : Nat} {l : List UInt8} (h : Bf w0 w A c l) : w0.heap.size ≤ w.heap.size:=h.k.size
theorem Bf.cap {w0 w : World} {A : Option Addr} {c : Nat} {l : List UInt8} (h : Bf w0 w A c l) : l.length ≤ c∧c ≤ maxLen:=by
 obtain ⟨_,_,e,h1,h2,-⟩:=own_form h.o
 injection e with _ _ e
 subst e
 exact ⟨h1,h2⟩
theorem Bf.ne {w0 w : World} {A : Option Addr} {c : Nat} {l : List UInt8} (h : Bf w0 w A c l) {g : Nat} (hg : g < w0.heap.size) : (Value.slice A l.length c).ownBlock ≠ some g:=fun e => by
 have:=(h.o.lt g e).1;omega
def Bfd (w : World) (l : List UInt8) (e : Ending) (w' : World) : Prop:=∃ A c,e = .returned (.slice A l.length c)∧Bf w w' A c l
theorem wpList_bf {w0 w : World} {A : Option Addr} {c : Nat} {l : List UInt8} {ops : Array Oper} {rest : List Oper} {o : Oper} {a : Act} {Q : Exit → Act → World → Prop} (hgd : o.guard = none) (s x : Operand)
  (ho : o.op = .call { callee:=.builtin .append,args:=#[s,x],argTypes:=#[31,31] }) (h : Bf w0 w A c l) (hs : a.eval s = .slice A l.length c)
  (A1 : Option Addr) (m c1 : Nat) (y : List UInt8) (hx : a.eval x = .slice A1 m c1) (hl : y.length = m) (hr : Rd w A1 (y.map u8v)) (hn : l.length + m ≤ 1000000000)
  (H : ∀ z A' c' w',Hid (z = l ++ y) → Bf w0 w' A' c' z → w.grownBy w' (Value.slice A l.length c).ownBlock → wpList Try.prog ops Q rest (a.put o.dst (.slice A' z.length c')) w') : wpList Try.prog ops Q (o :: rest) a w :=
 wpList_app byteT hgd s x ho w0.heap.size _ l.length _ hs h.o A1 m c1 (y.map u8v) hx (by rw [List.length_map,hl,Nat.mul_one]) hr (one_bytes y) (by omega) (by unfold maxLen;omega) h.size fun v' w' h1 h2 h3 => by
  obtain ⟨A',c',rfl,hc,hm,hrd⟩:=own_form h1
  have e : l.length + m = (l ++ y).length:=by rw [List.length_append,hl]
  rw [e] at h1 ⊢
  exact H (l ++ y) A' c' w' (Lib.hid rfl) ⟨own_eq h1 rfl (by rw [List.map_append]),keep_grown h.k h.size h2 h.o⟩ h2
set_option maxRecDepth 100000 in
set_option maxHeartbeats 1000000 in
theorem rsize_any (n : Nat) (w : World) : Calls Try.prog 70 #[u64v n] w fun e w' => e = .returned (iv (sizN n))∧Keep w w':=by
 have hs : (n < 253∧sizN n = 1) ∨ (¬ n < 253∧n < 65536∧sizN n = 3) ∨ (¬ n < 253∧¬ n < 65536∧n < 4294967296∧sizN n = 5) ∨ (¬ n < 253∧¬ n < 65536∧¬ n < 4294967296∧sizN n = 9):=by
  unfold sizN
  by_cases h1 : n < 253
  ·simp [h1]
  ·by_cases h2 : n < 65536
   ·simp [h1,h2]
   ·by_cases h3 : n < 4294967296
    ·simp [h1,h2,h3]
    ·simp [h1,h2,h3]
 rcases hs with ⟨h1,h⟩ | ⟨h1,h2,h⟩ | ⟨h1,h2,h3,h⟩ | ⟨h1,h2,h3,h⟩
 all_goals
  rw [h]
  clear h
 ·have d0 : (n : Int) < 253:=by omega
  go_enter Try.func70,Try.ntmps70
  go_wp2
  exact bodyPost_ret (v:=iv 1) (by simp [results,Try.results70]) rfl ⟨rfl,Below.refl _ _⟩
 ·have d0 : ¬ (n : Int) < 253:=by omega
  have d1 : (n : Int) < 65536:=by omega
  go_enter Try.func70,Try.ntmps70
  go_wp2
  exact bodyPost_ret (v:=iv 3) (by simp [results,Try.results70]) rfl ⟨rfl,Below.refl _ _⟩
 ·have d0 : ¬ (n : Int) < 253:=by omega
  have d1 : ¬ (n : Int) < 65536:=by omega
  have d2 : (n : Int) < 4294967296:=by omega
  go_enter Try.func70,Try.ntmps70
  go_wp2
  exact bodyPost_ret (v:=iv 5) (by simp [results,Try.results70]) rfl ⟨rfl,Below.refl _ _⟩
 ·have d0 : ¬ (n : Int) < 253:=by omega
  have d1 : ¬ (n : Int) < 65536:=by omega
  have d2 : ¬ (n : Int) < 4294967296:=by omega
  go_enter Try.func70,Try.ntmps70
  go_wp2
  exact bodyPost_ret (v:=iv 9) (by simp [results,Try.results70]) rfl ⟨rfl,Below.refl _ _⟩
set_option maxRecDepth 100000 in
set_option maxHeartbeats 4000000 in
theorem rcput_any (n : Nat) (hn : n < 2 ^ 64) (w : World) : Calls Try.prog 47 #[.slice none 0 0,u64v n] w (Bfd w (cptL n)):=by
 have S1 : Hid (∀ y,Calls Try.prog 70 #[u64v n] y fun e w' => e = .returned (iv (sizN n))∧Keep y w'):=Lib.hid fun y => rsize_any n y
 have HC : Hid (∃ m : Nat,m ≤ 8∧sizN n = m + 1∧((m = 0∧cptL n = [UInt8.ofNat n]) ∨ (m = 2∧cptL n = 253 :: loN n 2) ∨ (m = 4∧cptL n = 254 :: loN n 4) ∨ (m = 8∧cptL n = 255 :: loN n 8))):=Lib.hid (by
  unfold sizN cptL
  split
  ·exact ⟨0,by omega,rfl,.inl ⟨rfl,rfl⟩⟩
  ·split
   ·exact ⟨2,by omega,rfl,.inr (.inl ⟨rfl,rfl⟩)⟩
   ·split
    ·exact ⟨4,by omega,rfl,.inr (.inr (.inl ⟨rfl,rfl⟩))⟩
    ·exact ⟨8,by omega,rfl,.inr (.inr (.inr ⟨rfl,rfl⟩))⟩)
 generalize cptL n = C at *
 generalize sizN n = s at *
 unfold Bfd
 go_enter Try.func47,Try.ntmps47
 go_upto_region 2 with (at_builtin;refine wpList_bf (by rfl) _ _ (by rfl) (Bf.lit (Below.refl _ _)) (by rfl) none 0 0 [] (by rfl) (by rfl) (Rd.nil _ _) (by simp) ?_;rintro z A2 c2 w2 E2 B2 -)
 obtain rfl : z = []:=E2.out
 have HB2:=Lib.hid B2
 clear B2 E2
 go_wp2_with fail
 refine (S1.out _).mono ?_
 clear S1
 rintro e w3 ⟨rfl,k3⟩
 have HB3:=Lib.hid (HB2.out.keep k3)
 clear k3 HB2
 obtain ⟨m,hm8,rfl,hcs⟩:=HC.out
 clear HC
 rcases hcs with ⟨rfl,rfl⟩ | ⟨rfl,rfl⟩ | ⟨rfl,rfl⟩ | ⟨rfl,rfl⟩
 ·obtain ⟨x,hx⟩ : ∃ x : UInt8,x = UInt8.ofNat n:=⟨_,rfl⟩
  have hb : (n : Int) % 256 = (x.toNat : Int):=by rw [hx,UInt8.toNat_ofNat'];omega
  have HX:=Lib.hid hx
  clear hx
  go_wp2_with (at_builtin;refine wpList_bf (by rfl) _ _ (by rfl) (HB3.out.alloc _) (by rfl) _ 1 1 [x] (by rfl) (by rfl) (Rd.new _ [u8v x] _) (by simp) ?_;rintro z Az cz wz Ez Bz -;have HBz:=Lib.hid Bz;clear Bz HB3)
  obtain rfl : z = [UInt8.ofNat n]:=by rw [Ez.out,HX.out];rfl
  exact bodyPost_ret (v:=.slice Az 1 cz) (by simp [results,Try.results47]) rfl ⟨_,_,rfl,HBz.out⟩
 ·
  go_upto_region 11 with (at_builtin;refine wpList_bf (by rfl) _ _ (by rfl) (HB3.out.alloc _) (by rfl) _ 1 1 [253] (by rfl) (by rfl) (Rd.new _ [u8v 253] _) (by simp) ?_;rintro z Az cz wz Ez Bz -;have HBz:=Lib.hid Bz;clear Bz HB3)
  have HZ : Hid (z = 253 :: loN n 0):=Lib.hid (by rw [Ez.out];rfl)
  have HBK : Hid (Bf w wz Az cz (253 :: loN n 0)):=by rw [← HZ.out];exact HBz
  clear HBz Ez
  go_wp2_with fail
  go_loopw [5,8] (fun v c wr => ∃ (k : Nat) (A : Option Addr) (cc : Nat),k ≤ 2∧c = .int .i64 k∧v = .slice A (k + 1) cc∧Hid (Bf w wr A cc (253 :: loN n k))) (fun _ c _ => 2 - (intOf c).toNat)
  case atStart => exact ⟨0,_,_,Nat.zero_le _,rfl,by rw [HZ.out];rfl,HBK⟩
  case round =>
   obtain ⟨k,A,cc,hk,rfl,rfl,HBr⟩:=hrel
   by_cases hlt : k < 2
   ·obtain ⟨x,hx⟩ : ∃ x : UInt8,x = UInt8.ofNat (n / 2 ^ (8 * k)):=⟨_,rfl⟩
    have hb : (n : Int) / 2 ^ (8 * k) % 256 = (x.toNat : Int):=by
     rw [hx,UInt8.toNat_ofNat',Int.natCast_emod,Int.natCast_ediv,Int.natCast_pow];rfl
    have HN:=Lib.hid (lo_succ n k)
    rw [← hx] at HN
    clear hx HBK
    have hl : (253 :: loN n k).length = k + 1:=by simp [lo_len]
    go_wp2_with (at_builtin;refine wpList_bf (l:=253 :: loN n k) (by rfl) _ _ (by rfl) (HBr.out.alloc _) (by rw [hl];rfl) _ 1 1 [x] (by rfl) (by rfl) (Rd.new _ [u8v x] _) (by rw [hl];omega) ?_;rintro z A1 c1 w1 E1 B1 -;have HB1:=Lib.hid B1;clear B1 HBr)
    have HZ1 : Hid (z = 253 :: loN n (k + 1)):=Lib.hid (by rw [E1.out,HN.out];rfl)
    replace HB1 : Hid (Bf w w1 A1 c1 (253 :: loN n (k + 1))):=by rw [← HZ1.out];exact HB1
    clear hb hl E1
    go_roundw
    case rel => exact ⟨k + 1,_,_,by omega,by go_num,by rw [HZ1.out];simp [lo_len],HB1⟩
    case measure => simp [intOf];omega
   ·obtain rfl : k = 2:=by omega
    go_wp2
    exact bodyPost_ret (v:=.slice A 3 cc) (by simp [results,Try.results47]) rfl ⟨A,cc,rfl,HBr.out⟩
 ·
  go_upto_region 11 with (at_builtin;refine wpList_bf (by rfl) _ _ (by rfl) (HB3.out.alloc _) (by rfl) _ 1 1 [254] (by rfl) (by rfl) (Rd.new _ [u8v 254] _) (by simp) ?_;rintro z Az cz wz Ez Bz -;have HBz:=Lib.hid Bz;clear Bz HB3)
  have HZ : Hid (z = 254 :: loN n 0):=Lib.hid (by rw [Ez.out];rfl)
  have HBK : Hid (Bf w wz Az cz (254 :: loN n 0)):=by rw [← HZ.out];exact HBz
  clear HBz Ez
  go_wp2_with fail
  go_loopw [5,8] (fun v c wr => ∃ (k : Nat) (A : Option Addr) (cc : Nat),k ≤ 4∧c = .int .i64 k∧v = .slice A (k + 1) cc∧Hid (Bf w wr A cc (254 :: loN n k))) (fun _ c _ => 4 - (intOf c).toNat)
  case atStart => exact ⟨0,_,_,Nat.zero_le _,rfl,by rw [HZ.out];rfl,HBK⟩
  case round =>
   obtain ⟨k,A,cc,hk,rfl,rfl,HBr⟩:=hrel
   by_cases hlt : k < 4
   ·obtain ⟨x,hx⟩ : ∃ x : UInt8,x = UInt8.ofNat (n / 2 ^ (8 * k)):=⟨_,rfl⟩
    have hb : (n : Int) / 2 ^ (8 * k) % 256 = (x.toNat : Int):=by
     rw [hx,UInt8.toNat_ofNat',Int.natCast_emod,Int.natCast_ediv,Int.natCast_pow];rfl
    have HN:=Lib.hid (lo_succ n k)
    rw [← hx] at HN
    clear hx HBK
    have hl : (254 :: loN n k).length = k + 1:=by simp [lo_len]
    go_wp2_with (at_builtin;refine wpList_bf (l:=254 :: loN n k) (by rfl) _ _ (by rfl) (HBr.out.alloc _) (by rw [hl];rfl) _ 1 1 [x] (by rfl) (by rfl) (Rd.new _ [u8v x] _) (by rw [hl];omega) ?_;rintro z A1 c1 w1 E1 B1 -;have HB1:=Lib.hid B1;clear B1 HBr)
    have HZ1 : Hid (z = 254 :: loN n (k + 1)):=Lib.hid (by rw [E1.out,HN.out];rfl)
    replace HB1 : Hid (Bf w w1 A1 c1 (254 :: loN n (k + 1))):=by rw [← HZ1.out];exact HB1
    clear hb hl E1
    go_roundw
    case rel => exact ⟨k + 1,_,_,by omega,by go_num,by rw [HZ1.out];simp [lo_len],HB1⟩
    case measure => simp [intOf];omega
   ·obtain rfl : k = 4:=by omega
    go_wp2
    exact bodyPost_ret (v:=.slice A 5 cc) (by simp [results,Try.results47]) rfl ⟨A,cc,rfl,HBr.out⟩
 ·
  go_upto_region 11 with (at_builtin;refine wpList_bf (by rfl) _ _ (by rfl) (HB3.out.alloc _) (by rfl) _ 1 1 [255] (by rfl) (by rfl) (Rd.new _ [u8v 255] _) (by simp) ?_;rintro z Az cz wz Ez Bz -;have HBz:=Lib.hid Bz;clear Bz HB3)
  have HZ : Hid (z = 255 :: loN n 0):=Lib.hid (by rw [Ez.out];rfl)
  have HBK : Hid (Bf w wz Az cz (255 :: loN n 0)):=by rw [← HZ.out];exact HBz
  clear HBz Ez
  go_wp2_with fail
  go_loopw [5,8] (fun v c wr => ∃ (k : Nat) (A : Option Addr) (cc : Nat),k ≤ 8∧c = .int .i64 k∧v = .slice A (k + 1) cc∧Hid (Bf w wr A cc (255 :: loN n k))) (fun _ c _ => 8 - (intOf c).toNat)
  case atStart => exact ⟨0,_,_,Nat.zero_le _,rfl,by rw [HZ.out];rfl,HBK⟩
  case round =>
   obtain ⟨k,A,cc,hk,rfl,rfl,HBr⟩:=hrel
   by_cases hlt : k < 8
   ·obtain ⟨x,hx⟩ : ∃ x : UInt8,x = UInt8.ofNat (n / 2 ^ (8 * k)):=⟨_,rfl⟩
    have hb : (n : Int) / 2 ^ (8 * k) % 256 = (x.toNat : Int):=by
     rw [hx,UInt8.toNat_ofNat',Int.natCast_emod,Int.natCast_ediv,Int.natCast_pow];rfl
    have HN:=Lib.hid (lo_succ n k)
    rw [← hx] at HN
    clear hx HBK
    have hl : (255 :: loN n k).length = k + 1:=by simp [lo_len]
    go_wp2_with (at_builtin;refine wpList_bf (l:=255 :: loN n k) (by rfl) _ _ (by rfl) (HBr.out.alloc _) (by rw [hl];rfl) _ 1 1 [x] (by rfl) (by rfl) (Rd.new _ [u8v x] _) (by rw [hl];omega) ?_;rintro z A1 c1 w1 E1 B1 -;have HB1:=Lib.hid B1;clear B1 HBr)
    have HZ1 : Hid (z = 255 :: loN n (k + 1)):=Lib.hid (by rw [E1.out,HN.out];rfl)
    replace HB1 : Hid (Bf w w1 A1 c1 (255 :: loN n (k + 1))):=by rw [← HZ1.out];exact HB1
    clear hb hl E1
    go_roundw
    case rel => exact ⟨k + 1,_,_,by omega,by go_num,by rw [HZ1.out];simp [lo_len],HB1⟩
    case measure => simp [intOf];omega
   ·obtain rfl : k = 8:=by omega
    go_wp2
    exact bodyPost_ret (v:=.slice A 9 cc) (by simp [results,Try.results47]) rfl ⟨A,cc,rfl,HBr.out⟩
end Go.Proofs.Ytbgpgdhndanigaa
/- florinref04.Get, Bounded, Bytes. (printed by gen_kb.py) -/
set_option linter.unusedSimpArgs false
set_option linter.unusedVariables false
namespace Go.Proofs.Ytbgpgdhndanigaa
open Go.RowKit
attribute [local go_sem ↓] Go.wp_at_zero Go.wp_at_succ
def numF : List UInt8 → Nat
 | [] => 0
 | x :: l => x.toNat + 256 * numF l
theorem numF_lt : ∀ l : List UInt8,numF l < 2 ^ (8 * l.length)
 | [] => by simp [numF]
 | x :: l => by
   have h:=numF_lt l
   have hx:=x.toNat_lt
   have e:=pow8 l.length
   rw [List.length_cons]
   unfold numF
   omega
theorem numF_snoc : ∀ (l : List UInt8) (x : UInt8),numF (l ++ [x]) = numF l + x.toNat * 2 ^ (8 * l.length)
 | [],x => by simp [numF]
 | y :: l,x => by
   have h:=numF_snoc l x
   have e:=pow8 l.length
   rw [List.cons_append,List.length_cons]
   unfold numF
   rw [h,e,Nat.mul_add,← Nat.mul_assoc,← Nat.mul_assoc,Nat.mul_comm 256 x.toNat]
   omega
theorem numF_take (t : List UInt8) : ∀ k,k ≤ t.length → numF (t.take k) = numN t k
 | 0,_ => by simp [numF,numN]
 | k + 1,h => by
   rw [List.take_succ_eq_append_getElem (by omega),numF_snoc,numF_take t k (by omega),List.length_take,Nat.min_eq_left (by omega)]
   show _ = numN t k + (t.getD k 0).toNat * 2 ^ (8 * k)
   rw [List.getD_eq_getElem?_getD,List.getElem?_eq_getElem (by omega)]
   rfl
def numD (t : List UInt8) (m k : Nat) : Nat:=numF ((t.take m).drop k)
theorem numD_all (t : List UInt8) (m : Nat) (h : m ≤ t.length) : numD t m 0 = numN t m:=by unfold numD;rw [List.drop_zero,numF_take t m h]
theorem numD_end (t : List UInt8) (m : Nat) : numD t m m = 0:=by unfold numD;rw [List.drop_eq_nil_of_le (by rw [List.length_take];omega)];rfl
theorem numD_step (t : List UInt8) (m k : Nat) (h : m ≤ t.length) (hk : k < m) : numD t m k = numD t m (k + 1) * 256 + (t.getD k 0).toNat:=by
 unfold numD
 rw [List.drop_eq_getElem_cons (by rw [List.length_take];omega),List.getElem_take,List.getD_eq_getElem?_getD,List.getElem?_eq_getElem (by omega)]
 show _ + 256 * _ = _
 rw [Option.getD_some];omega
theorem numD_lt (t : List UInt8) (m k : Nat) (hm : m ≤ 8) (hk : 0 < k) : numD t m k < 2 ^ 56:=by
 refine Nat.lt_of_lt_of_le (numF_lt _) (Nat.pow_le_pow_right (by omega) ?_)
 rw [List.length_drop,List.length_take];omega
set_option maxRecDepth 100000 in
set_option maxHeartbeats 4000000 in
theorem rcget_any (A : Option Addr) (b : List UInt8) (c : Nat) (w : World) (hl : b.length ≤ 4611686018427387904) (hr : Rd w A (b.map u8v)) :
  Calls Try.prog 96 #[.slice A b.length c] w fun e w' => e = .returned (.tuple #[u64v (cgetN b).1,iv (cgetN b).2.1,iv (cgetN b).2.2])∧Keep w w':=by
 have HS : Hid (∀ n y,Calls Try.prog 70 #[u64v n] y fun e w' => e = .returned (iv (sizN n))∧Keep y w'):=Lib.hid fun n y => rsize_any n y
 cases b with
 | nil =>
   go_enter Try.func96,Try.ntmps96
   go_wp2
   exact bodyPost_ret (v:=.tuple #[u64v 0,iv 0,iv 1]) (by simp [results,Try.results96]) rfl ⟨rfl,Below.refl _ _⟩
 | cons x t =>
 rw [cget_cons]
 obtain ⟨g,off,rfl,hg,hc⟩:=hr.at (k:=0) (by simp)
 have HC : Hid (∀ k,k < t.length → w.cell? ⟨g,off + (k + 1),none⟩ = some (u8v (t.getD k 0))):=Lib.hid fun k hk => by
  rw [hc (k + 1) (by simp;omega)]
  simp [List.getD_eq_getElem?_getD,List.getElem?_eq_getElem hk]
 have c0 : w.cell? ⟨g,off,none⟩ = some (u8v x):=hc 0 (by simp)
 have hw8 : IntKind.u64.wrap (x.toNat : Int) = x.toNat:=by rw [IntKind.wrap_u64];have:=x.toNat_lt;omega
 have HT:=Lib.hid (rfl : t = t)
 have hL : (((t.length + 1 : Nat) : Int) == 0) = false:=by rw [beq_eq_false_iff_ne];omega
 rw [List.length_cons] at hl ⊢
 clear hc hr hg HT
 have HND : Hid (∀ m k,m ≤ t.length → k < m → m ≤ 8 → numD t m k = numD t m (k + 1) * 256 + (t.getD k 0).toNat∧numD t m (k + 1) < 2 ^ 56):=Lib.hid fun m k h1 h2 h3 => ⟨numD_step t m k h1 h2,numD_lt t m (k + 1) h3 (by omega)⟩
 have HN0 : Hid (∀ m,m ≤ t.length → numD t m 0 = numN t m):=Lib.hid fun m h => numD_all t m h
 have HNE : Hid (∀ m,numD t m m = 0):=Lib.hid fun m => numD_end t m
 rcases beh_cases x with ⟨q,hx⟩ | ⟨rfl,q⟩ | ⟨rfl,q⟩ | ⟨rfl,q⟩
 ·rw [if_pos q]
  have a1 : ((x.toNat : Int) == 253) = false:=by rw [beq_eq_false_iff_ne];omega
  have a2 : ((x.toNat : Int) == 254) = false:=by rw [beq_eq_false_iff_ne];omega
  have a3 : ((x.toNat : Int) == 255) = false:=by rw [beq_eq_false_iff_ne];omega
  have hsz : sizN x.toNat = 1:=by unfold sizN;rw [if_pos hx]
  clear q hx HC HND HN0 HNE
  generalize t.length = L at *
  go_enter Try.func96,Try.ntmps96
  go_wp2_with fail
  refine (HS.out _ _).mono ?_
  rw [hsz]
  clear HS hsz
  rintro e w1 ⟨rfl,k1⟩
  have HK1:=Lib.hid k1
  clear k1 c0 a1 a2 a3
  go_wp2
  exact bodyPost_ret (v:=.tuple #[u64v x.toNat,iv 1,iv 0]) (by simp [results,Try.results96]) rfl ⟨rfl,HK1.out⟩
 ·rw [q,if_neg (by omega)]
  clear q
  have c0 : w.cell? ⟨g,off,none⟩ = some (.int .u8 253):=c0
  have hw8 : IntKind.u64.wrap (253 : Int) = 253:=hw8
  by_cases hlm : t.length < 2
  ·rw [if_pos hlm]
   have d1 : (t.length : Int) + 1 < 3:=by omega
   clear HC HND HN0 HNE HS hlm
   generalize t.length = L at *
   go_enter Try.func96,Try.ntmps96
   go_wp2
   exact bodyPost_ret (v:=.tuple #[u64v 0,iv 0,iv 1]) (by simp [results,Try.results96]) rfl ⟨rfl,Below.refl _ _⟩
  rw [if_neg hlm]
  have d1 : ¬ (t.length : Int) + 1 < 3:=by omega
  have HLM : Hid (2 ≤ t.length):=Lib.hid (by omega)
  replace HND : Hid (∀ k,k < 2 → numD t 2 k = numD t 2 (k + 1) * 256 + (t.getD k 0).toNat∧numD t 2 (k + 1) < 2 ^ 56):=Lib.hid fun k h => HND.out 2 k (by omega) h (by omega)
  replace HN0:=Lib.hid (HN0.out 2 (by omega))
  replace HNE:=Lib.hid (HNE.out 2)
  replace HC : Hid (∀ k,k < 2 → w.cell? ⟨g,off + (k + 1),none⟩ = some (u8v (t.getD k 0))):=Lib.hid fun k hk => HC.out k (by omega)
  have hsn : sizN (numN t 2) ≤ 9:=(siz_le _).2
  obtain ⟨tt,htt⟩ : ∃ f : Nat → UInt8,(fun k => t.getD k 0) = f:=⟨_,rfl⟩
  have htt' : ∀ k,t.getD k 0 = tt k:=fun k => by rw [← htt]
  simp only [htt'] at HC HND
  obtain ⟨nd,hnd⟩ : ∃ f : Nat → Nat,(fun k => numD t 2 k) = f:=⟨_,rfl⟩
  have hnd' : ∀ k,numD t 2 k = nd k:=fun k => by rw [← hnd]
  simp only [hnd'] at HND HN0 HNE
  generalize t.length = L at *
  clear htt htt' hnd hnd' hlm
  generalize numN t 2 = NN at *
  clear t
  obtain ⟨R,hR⟩ : ∃ R,(if sizN NN = 1 + 2 then (NN,1 + 2,(0 : Int)) else (0,0,2)) = R:=⟨_,rfl⟩
  rw [hR]
  have HR:=Lib.hid hR
  clear hR
  have HK : Hid (Keep w w):=Lib.hid (Below.refl _ _)
  go_enter Try.func96,Try.ntmps96
  go_wp2_with fail
  clear c0 d1 hL
  go_loopw [6,7] (fun v c wr => ∃ k : Nat,k ≤ 2∧c = .int .i64 k∧v = .int .u64 (nd k : Nat)∧w = wr) (fun _ c _ => (intOf c).toNat)
  case atStart => exact ⟨2,Nat.le_refl _,rfl,by rw [HNE.out];rfl,rfl⟩
  case round =>
   obtain ⟨k,hk,rfl,rfl,rfl⟩:=hrel
   by_cases hlt : 0 < k
   ·obtain ⟨k,rfl⟩ : ∃ j,k = j + 1:=⟨k - 1,by omega⟩
    have c0:=HC.out k (by omega)
    obtain ⟨h1,h2⟩:=HND.out k (by omega)
    have hy:=(tt k).toNat_lt
    have hm1 : IntKind.u64.wrap ((nd (k + 1) : Int) * 256) = (nd (k + 1) : Int) * 256:=by rw [IntKind.wrap_u64];omega
    have hm2 : IntKind.u64.wrap ((nd (k + 1) : Int) * 256 + ((tt k).toNat : Int)) = ((nd k : Nat) : Int):=by rw [IntKind.wrap_u64,h1];omega
    have hw9 : IntKind.u64.wrap ((tt k).toNat : Int) = (tt k).toNat:=by rw [IntKind.wrap_u64];omega
    have d2 : (1 : Int) ≤ ((k + 1 : Nat) : Int):=by omega
    have d3 : ((k + 1 : Nat) : Int) < (L : Int) + 1:=by have:=HLM.out;omega
    have HH1:=Lib.hid h1
    clear h1 h2
    generalize nd (k + 1) = n0 at *
    obtain ⟨n1,hn1⟩ : ∃ n1,nd k = n1:=⟨_,rfl⟩
    rw [hn1] at hm2 HH1
    have HNX : Hid (n1 = nd k):=Lib.hid hn1.symm
    clear hn1
    generalize tt k = y at *
    go_wp2
    go_roundw
    case rel => exact ⟨k,by omega,by go_num,by rw [← HNX.out],trivial⟩
    case measure => simp [intOf]
   ·obtain rfl : k = 0:=by omega
    have d2 : ¬ (1 : Int) ≤ ((0 : Nat) : Int):=by omega
    rw [HN0.out]
    clear HN0 HND HNE HC
    go_wp2_with fail
    refine (HS.out _ _).mono ?_
    rintro e w1 ⟨rfl,k1⟩
    have HK1:=Lib.hid k1
    clear k1 HS
    have hv:=HR.out
    by_cases hs : sizN NN = 1 + 2
    ·rw [if_pos hs] at hv
     subst hv
     have d3 : ((sizN NN : Int) != 3) = false:=by rw [bne_eq_false_iff_eq];omega
     clear HR hs hsn
     generalize sizN NN = sn at *
     go_wp2
     exact bodyPost_ret (v:=.tuple #[u64v NN,iv 3,iv 0]) (by simp [results,Try.results96]) rfl ⟨rfl,HK1.out⟩
    ·rw [if_neg hs] at hv
     subst hv
     have d3 : ((sizN NN : Int) != 3) = true:=by rw [bne_iff_ne];omega
     clear HR hs hsn
     generalize sizN NN = sn at *
     go_wp2
     exact bodyPost_ret (v:=.tuple #[u64v 0,iv 0,iv 2]) (by simp [results,Try.results96]) rfl ⟨rfl,HK1.out⟩
 ·rw [q,if_neg (by omega)]
  clear q
  have c0 : w.cell? ⟨g,off,none⟩ = some (.int .u8 254):=c0
  have hw8 : IntKind.u64.wrap (254 : Int) = 254:=hw8
  by_cases hlm : t.length < 4
  ·rw [if_pos hlm]
   have d1 : (t.length : Int) + 1 < 5:=by omega
   clear HC HND HN0 HNE HS hlm
   generalize t.length = L at *
   go_enter Try.func96,Try.ntmps96
   go_wp2
   exact bodyPost_ret (v:=.tuple #[u64v 0,iv 0,iv 1]) (by simp [results,Try.results96]) rfl ⟨rfl,Below.refl _ _⟩
  rw [if_neg hlm]
  have d1 : ¬ (t.length : Int) + 1 < 5:=by omega
  have HLM : Hid (4 ≤ t.length):=Lib.hid (by omega)
  replace HND : Hid (∀ k,k < 4 → numD t 4 k = numD t 4 (k + 1) * 256 + (t.getD k 0).toNat∧numD t 4 (k + 1) < 2 ^ 56):=Lib.hid fun k h => HND.out 4 k (by omega) h (by omega)
  replace HN0:=Lib.hid (HN0.out 4 (by omega))
  replace HNE:=Lib.hid (HNE.out 4)
  replace HC : Hid (∀ k,k < 4 → w.cell? ⟨g,off + (k + 1),none⟩ = some (u8v (t.getD k 0))):=Lib.hid fun k hk => HC.out k (by omega)
  have hsn : sizN (numN t 4) ≤ 9:=(siz_le _).2
  obtain ⟨tt,htt⟩ : ∃ f : Nat → UInt8,(fun k => t.getD k 0) = f:=⟨_,rfl⟩
  have htt' : ∀ k,t.getD k 0 = tt k:=fun k => by rw [← htt]
  simp only [htt'] at HC HND
  obtain ⟨nd,hnd⟩ : ∃ f : Nat → Nat,(fun k => numD t 4 k) = f:=⟨_,rfl⟩
  have hnd' : ∀ k,numD t 4 k = nd k:=fun k => by rw [← hnd]
  simp only [hnd'] at HND HN0 HNE
  generalize t.length = L at *
  clear htt htt' hnd hnd' hlm
  generalize numN t 4 = NN at *
  clear t
  obtain ⟨R,hR⟩ : ∃ R,(if sizN NN = 1 + 4 then (NN,1 + 4,(0 : Int)) else (0,0,2)) = R:=⟨_,rfl⟩
  rw [hR]
  have HR:=Lib.hid hR
  clear hR
  have HK : Hid (Keep w w):=Lib.hid (Below.refl _ _)
  go_enter Try.func96,Try.ntmps96
  go_wp2_with fail
  clear c0 d1 hL
  go_loopw [6,7] (fun v c wr => ∃ k : Nat,k ≤ 4∧c = .int .i64 k∧v = .int .u64 (nd k : Nat)∧w = wr) (fun _ c _ => (intOf c).toNat)
  case atStart => exact ⟨4,Nat.le_refl _,rfl,by rw [HNE.out];rfl,rfl⟩
  case round =>
   obtain ⟨k,hk,rfl,rfl,rfl⟩:=hrel
   by_cases hlt : 0 < k
   ·obtain ⟨k,rfl⟩ : ∃ j,k = j + 1:=⟨k - 1,by omega⟩
    have c0:=HC.out k (by omega)
    obtain ⟨h1,h2⟩:=HND.out k (by omega)
    have hy:=(tt k).toNat_lt
    have hm1 : IntKind.u64.wrap ((nd (k + 1) : Int) * 256) = (nd (k + 1) : Int) * 256:=by rw [IntKind.wrap_u64];omega
    have hm2 : IntKind.u64.wrap ((nd (k + 1) : Int) * 256 + ((tt k).toNat : Int)) = ((nd k : Nat) : Int):=by rw [IntKind.wrap_u64,h1];omega
    have hw9 : IntKind.u64.wrap ((tt k).toNat : Int) = (tt k).toNat:=by rw [IntKind.wrap_u64];omega
    have d2 : (1 : Int) ≤ ((k + 1 : Nat) : Int):=by omega
    have d3 : ((k + 1 : Nat) : Int) < (L : Int) + 1:=by have:=HLM.out;omega
    have HH1:=Lib.hid h1
    clear h1 h2
    generalize nd (k + 1) = n0 at *
    obtain ⟨n1,hn1⟩ : ∃ n1,nd k = n1:=⟨_,rfl⟩
    rw [hn1] at hm2 HH1
    have HNX : Hid (n1 = nd k):=Lib.hid hn1.symm
    clear hn1
    generalize tt k = y at *
    go_wp2
    go_roundw
    case rel => exact ⟨k,by omega,by go_num,by rw [← HNX.out],trivial⟩
    case measure => simp [intOf]
   ·obtain rfl : k = 0:=by omega
    have d2 : ¬ (1 : Int) ≤ ((0 : Nat) : Int):=by omega
    rw [HN0.out]
    clear HN0 HND HNE HC
    go_wp2_with fail
    refine (HS.out _ _).mono ?_
    rintro e w1 ⟨rfl,k1⟩
    have HK1:=Lib.hid k1
    clear k1 HS
    have hv:=HR.out
    by_cases hs : sizN NN = 1 + 4
    ·rw [if_pos hs] at hv
     subst hv
     have d3 : ((sizN NN : Int) != 5) = false:=by rw [bne_eq_false_iff_eq];omega
     clear HR hs hsn
     generalize sizN NN = sn at *
     go_wp2
     exact bodyPost_ret (v:=.tuple #[u64v NN,iv 5,iv 0]) (by simp [results,Try.results96]) rfl ⟨rfl,HK1.out⟩
    ·rw [if_neg hs] at hv
     subst hv
     have d3 : ((sizN NN : Int) != 5) = true:=by rw [bne_iff_ne];omega
     clear HR hs hsn
     generalize sizN NN = sn at *
     go_wp2
     exact bodyPost_ret (v:=.tuple #[u64v 0,iv 0,iv 2]) (by simp [results,Try.results96]) rfl ⟨rfl,HK1.out⟩
 ·rw [q,if_neg (by omega)]
  clear q
  have c0 : w.cell? ⟨g,off,none⟩ = some (.int .u8 255):=c0
  have hw8 : IntKind.u64.wrap (255 : Int) = 255:=hw8
  by_cases hlm : t.length < 8
  ·rw [if_pos hlm]
   have d1 : (t.length : Int) + 1 < 9:=by omega
   clear HC HND HN0 HNE HS hlm
   generalize t.length = L at *
   go_enter Try.func96,Try.ntmps96
   go_wp2
   exact bodyPost_ret (v:=.tuple #[u64v 0,iv 0,iv 1]) (by simp [results,Try.results96]) rfl ⟨rfl,Below.refl _ _⟩
  rw [if_neg hlm]
  have d1 : ¬ (t.length : Int) + 1 < 9:=by omega
  have HLM : Hid (8 ≤ t.length):=Lib.hid (by omega)
  replace HND : Hid (∀ k,k < 8 → numD t 8 k = numD t 8 (k + 1) * 256 + (t.getD k 0).toNat∧numD t 8 (k + 1) < 2 ^ 56):=Lib.hid fun k h => HND.out 8 k (by omega) h (by omega)
  replace HN0:=Lib.hid (HN0.out 8 (by omega))
  replace HNE:=Lib.hid (HNE.out 8)
  replace HC : Hid (∀ k,k < 8 → w.cell? ⟨g,off + (k + 1),none⟩ = some (u8v (t.getD k 0))):=Lib.hid fun k hk => HC.out k (by omega)
  have hsn : sizN (numN t 8) ≤ 9:=(siz_le _).2
  obtain ⟨tt,htt⟩ : ∃ f : Nat → UInt8,(fun k => t.getD k 0) = f:=⟨_,rfl⟩
  have htt' : ∀ k,t.getD k 0 = tt k:=fun k => by rw [← htt]
  simp only [htt'] at HC HND
  obtain ⟨nd,hnd⟩ : ∃ f : Nat → Nat,(fun k => numD t 8 k) = f:=⟨_,rfl⟩
  have hnd' : ∀ k,numD t 8 k = nd k:=fun k => by rw [← hnd]
  simp only [hnd'] at HND HN0 HNE
  generalize t.length = L at *
  clear htt htt' hnd hnd' hlm
  generalize numN t 8 = NN at *
  clear t
  obtain ⟨R,hR⟩ : ∃ R,(if sizN NN = 1 + 8 then (NN,1 + 8,(0 : Int)) else (0,0,2)) = R:=⟨_,rfl⟩
  rw [hR]
  have HR:=Lib.hid hR
  clear hR
  have HK : Hid (Keep w w):=Lib.hid (Below.refl _ _)
  go_enter Try.func96,Try.ntmps96
  go_wp2_with fail
  clear c0 d1 hL
  go_loopw [6,7] (fun v c wr => ∃ k : Nat,k ≤ 8∧c = .int .i64 k∧v = .int .u64 (nd k : Nat)∧w = wr) (fun _ c _ => (intOf c).toNat)
  case atStart => exact ⟨8,Nat.le_refl _,rfl,by rw [HNE.out];rfl,rfl⟩
  case round =>
   obtain ⟨k,hk,rfl,rfl,rfl⟩:=hrel
   by_cases hlt : 0 < k
   ·obtain ⟨k,rfl⟩ : ∃ j,k = j + 1:=⟨k - 1,by omega⟩
    have c0:=HC.out k (by omega)
    obtain ⟨h1,h2⟩:=HND.out k (by omega)
    have hy:=(tt k).toNat_lt
    have hm1 : IntKind.u64.wrap ((nd (k + 1) : Int) * 256) = (nd (k + 1) : Int) * 256:=by rw [IntKind.wrap_u64];omega
    have hm2 : IntKind.u64.wrap ((nd (k + 1) : Int) * 256 + ((tt k).toNat : Int)) = ((nd k : Nat) : Int):=by rw [IntKind.wrap_u64,h1];omega
    have hw9 : IntKind.u64.wrap ((tt k).toNat : Int) = (tt k).toNat:=by rw [IntKind.wrap_u64];omega
    have d2 : (1 : Int) ≤ ((k + 1 : Nat) : Int):=by omega
    have d3 : ((k + 1 : Nat) : Int) < (L : Int) + 1:=by have:=HLM.out;omega
    have HH1:=Lib.hid h1
    clear h1 h2
    generalize nd (k + 1) = n0 at *
    obtain ⟨n1,hn1⟩ : ∃ n1,nd k = n1:=⟨_,rfl⟩
    rw [hn1] at hm2 HH1
    have HNX : Hid (n1 = nd k):=Lib.hid hn1.symm
    clear hn1
    generalize tt k = y at *
    go_wp2
    go_roundw
    case rel => exact ⟨k,by omega,by go_num,by rw [← HNX.out],trivial⟩
    case measure => simp [intOf]
   ·obtain rfl : k = 0:=by omega
    have d2 : ¬ (1 : Int) ≤ ((0 : Nat) : Int):=by omega
    rw [HN0.out]
    clear HN0 HND HNE HC
    go_wp2_with fail
    refine (HS.out _ _).mono ?_
    rintro e w1 ⟨rfl,k1⟩
    have HK1:=Lib.hid k1
    clear k1 HS
    have hv:=HR.out
    by_cases hs : sizN NN = 1 + 8
    ·rw [if_pos hs] at hv
     subst hv
     have d3 : ((sizN NN : Int) != 9) = false:=by rw [bne_eq_false_iff_eq];omega
     clear HR hs hsn
     generalize sizN NN = sn at *
     go_wp2
     exact bodyPost_ret (v:=.tuple #[u64v NN,iv 9,iv 0]) (by simp [results,Try.results96]) rfl ⟨rfl,HK1.out⟩
    ·rw [if_neg hs] at hv
     subst hv
     have d3 : ((sizN NN : Int) != 9) = true:=by rw [bne_iff_ne];omega
     clear HR hs hsn
     generalize sizN NN = sn at *
     go_wp2
     exact bodyPost_ret (v:=.tuple #[u64v 0,iv 0,iv 2]) (by simp [results,Try.results96]) rfl ⟨rfl,HK1.out⟩
set_option maxRecDepth 100000 in
set_option maxHeartbeats 4000000 in
theorem rbnd_any (A : Option Addr) (b : List UInt8) (c most : Nat) (w : World) (hl : b.length ≤ 4611686018427387904) (hr : Rd w A (b.map u8v)) :
  Calls Try.prog 88 #[.slice A b.length c,u64v most] w fun e w' => e = .returned (.tuple #[iv (bndN b most).1,iv (bndN b most).2.1,iv (bndN b most).2.2])∧Keep w w':=by
 have G1 : Hid (Calls Try.prog 96 #[.slice A b.length c] w fun e w' => e = .returned (.tuple #[u64v (cgetN b).1,iv (cgetN b).2.1,iv (cgetN b).2.2])∧Keep w w'):=Lib.hid (rcget_any A b c w hl hr)
 have HB : Hid (∀ R,bndN b most = R → R = if (cgetN b).2.2 = 0 then if most < (cgetN b).1 ∨ 2147483647 < (cgetN b).1 then (0,0,3) else cgetN b else (0,0,(cgetN b).2.2)):=Lib.hid fun R h => by subst h;rfl
 replace HB:=Lib.hid (HB.out _ rfl)
 clear hr
 generalize bndN b most = R at *
 generalize cgetN b = G at *
 obtain ⟨n,k,e0⟩:=G
 generalize b.length = L at *
 simp only at G1 HB
 go_enter Try.func88,Try.ntmps88
 go_wp2_with fail
 refine G1.out.mono ?_
 clear G1
 rintro e w1 ⟨rfl,k1⟩
 have HK1:=Lib.hid k1
 clear k1
 have hv:=HB.out
 by_cases h0 : e0 = 0
 ·subst h0
  rw [if_pos rfl] at hv
  by_cases h1 : most < n
  ·rw [if_pos (.inl h1)] at hv
   subst hv
   have d1 : (most : Int) < n:=by omega
   clear HB h1
   go_wp2
   exact bodyPost_ret (v:=.tuple #[iv 0,iv 0,iv 3]) (by simp [results,Try.results88]) rfl ⟨rfl,HK1.out⟩
  ·have d1 : ¬ (most : Int) < n:=by omega
   by_cases h2 : 2147483647 < n
   ·rw [if_pos (.inr h2)] at hv
    subst hv
    have d2 : decide ((2147483647 : Int) < n) = true:=decide_eq_true (by omega)
    clear HB h1 h2
    go_wp2
    exact bodyPost_ret (v:=.tuple #[iv 0,iv 0,iv 3]) (by simp [results,Try.results88]) rfl ⟨rfl,HK1.out⟩
   ·rw [if_neg (by omega)] at hv
    subst hv
    have d2 : decide ((2147483647 : Int) < n) = false:=decide_eq_false (by omega)
    have hw : IntKind.i64.wrap (n : Int) = n:=IntWalk.i64_in _ (by omega)
    clear HB h1 h2
    go_wp2
    exact bodyPost_ret (v:=.tuple #[iv n,iv k,iv 0]) (by simp [results,Try.results88]) rfl ⟨rfl,HK1.out⟩
 ·rw [if_neg h0] at hv
  subst hv
  have d1 : (e0 != 0) = true:=by rw [bne_iff_ne];exact h0
  clear HB
  go_wp2
  exact bodyPost_ret (v:=.tuple #[iv 0,iv 0,iv e0]) (by simp [results,Try.results88]) rfl ⟨rfl,HK1.out⟩
set_option maxRecDepth 100000 in
set_option maxHeartbeats 4000000 in
theorem rcbytes_any (A : Option Addr) (b : List UInt8) (c most : Nat) (w : World) (hl : b.length ≤ 1000000000) (hc : b.length ≤ c) (hcm : c ≤ maxLen) (hm : most ≤ 2147483647) (hr : Rd w A (b.map u8v)) :
  Calls Try.prog 97 #[.slice A b.length c,iv most] w fun e w' => ∃ A' c',e = .returned (.tuple #[.slice A' (bytN b most).1.length c',iv (bytN b most).2.1,iv (bytN b most).2.2])∧Bf w w' A' c' (bytN b most).1:=by
 have G1 : Hid (Calls Try.prog 88 #[.slice A b.length c,u64v most] w fun e w' => e = .returned (.tuple #[iv (bndN b most).1,iv (bndN b most).2.1,iv (bndN b most).2.2])∧Keep w w'):=Lib.hid (rbnd_any A b c most w (by omega) hr)
 have HRG:=Lib.hid (bnd_rng b most)
 have HB : Hid (bytN b most = if (bndN b most).2.2 = 0 then if b.length - (bndN b most).2.1 < (bndN b most).1 then ([],0,1) else ((b.drop (bndN b most).2.1).take (bndN b most).1,(bndN b most).2.1 + (bndN b most).1,0) else ([],0,(bndN b most).2.2)):=Lib.hid rfl
 have RB:=Lib.hid hr
 clear hr
 generalize bytN b most = R at *
 generalize bndN b most = G at *
 obtain ⟨n,k,e0⟩:=G
 obtain ⟨L,hL⟩ : ∃ L,b.length = L:=⟨_,rfl⟩
 have HLL:=Lib.hid hL
 rw [hL] at HB G1 HRG hl hc ⊢
 clear hL
 simp only at G1 HB HRG
 have hmx : max (most : Int) 0 = (most : Int):=by omega
 have hm1 : ¬ (most : Int) < 0:=by omega
 have hmw : IntKind.u64.wrap (most : Int) = (most : Int):=by rw [IntKind.wrap_u64];omega
 have hmw2 : (most : Int) % 18446744073709551616 = most:=by omega
 unfold maxLen at hcm
 go_enter Try.func97,Try.ntmps97
 go_wp2_with fail
 refine G1.out.mono ?_
 clear G1
 rintro e w1 ⟨rfl,k1⟩
 have HK1:=Lib.hid k1
 clear k1
 have hv:=HB.out
 by_cases h0 : e0 = 0
 ·subst h0
  rw [if_pos rfl] at hv
  obtain ⟨q1,q2,q3,q4,q5⟩:=HRG.out rfl
  by_cases h1 : L - k < n
  ·rw [if_pos h1] at hv
   subst hv
   have d1 : (L : Int) - k < n:=by omega
   have hw : IntKind.i64.wrap ((L : Int) - k) = (L : Int) - k:=IntWalk.i64_in _ (by omega)
   clear HB h1 HRG
   go_wp2
   exact bodyPost_ret (v:=.tuple #[.slice none 0 0,iv 0,iv 1]) (by simp [results,Try.results97]) rfl ⟨none,0,rfl,Bf.nil HK1.out⟩
  ·rw [if_neg h1] at hv
   have d1 : ¬ (L : Int) - k < n:=by omega
   have hw : IntKind.i64.wrap ((L : Int) - k) = (L : Int) - k:=IntWalk.i64_in _ (by omega)
   have hw2 : IntKind.i64.wrap ((k : Int) + n) = (k : Int) + n:=IntWalk.i64_in _ (by omega)
   have HV:=Lib.hid hv
   have RY : Hid (∃ g off,A = some ⟨g,off,none⟩∧Rd w (some ⟨g,off + k,none⟩) (((b.drop k).take n).map u8v)∧((b.drop k).take n).length = n):=Lib.hid (by
    have hlb:=HLL.out
    have hlen : ((b.drop k).take n).length = n:=by rw [List.length_take,List.length_drop];omega
    have q5':=RB.out
    obtain ⟨g,off,rfl,-,hcc⟩:=q5'.at (k:=0) (by rw [List.length_map];omega)
    refine ⟨g,off,rfl,?_,hlen⟩
    have:=Rd.sub q5' k n (by rw [List.length_map];omega)
    rwa [← List.map_drop,← List.map_take] at this)
   obtain ⟨g,off,rfl,ry,hlen⟩:=RY.out
   have RYY:=Lib.hid ry
   obtain ⟨Y,hY⟩ : ∃ Y,(b.drop k).take n = Y:=⟨_,rfl⟩
   rw [hY] at HV RYY hlen
   have HYL:=Lib.hid hlen
   clear RY ry hlen hv HB HRG hY RB HLL
   have hn9 : n ≤ 1000000000:=by omega
   by_cases hck : c = k
   ·obtain rfl : n = 0:=by omega
    have hY0 : Y = []:=List.eq_nil_of_length_eq_zero HYL.out
    subst hY0
    have hv:=HV.out
    subst hv
    clear HV RYY
    go_wp2_with (at_builtin;refine wpList_bf (l:=[]) (by rfl) _ _ (by rfl) (Bf.lit HK1.out) (by rfl) (some ⟨g,off,none⟩) 0 0 [] (by first | rfl | (simp [Act.eval,hw2,hck])) rfl (Rd.nil _ _) (by simp) ?_;rintro z Az cz wz Ez Bz -;have HBz:=Lib.hid Bz;clear Bz)
    obtain rfl : z = []:=by rw [Ez.out];rfl
    exact bodyPost_ret (v:=.tuple #[.slice Az 0 cz,iv k,iv 0]) (by simp [results,Try.results97]) rfl ⟨Az,cz,rfl,HBz.out⟩
   go_wp2_with (at_builtin;refine wpList_bf (l:=[]) (by rfl) _ _ (by rfl) (Bf.lit HK1.out) (by rfl) (some ⟨g,off + k,none⟩) n (c - k) Y (by first | rfl | (simp [Act.eval,hw2,hck] <;> omega)) HYL.out ((RYY.out.keep HK1.out).alloc _) (by simp;omega) ?_;rintro z Az cz wz Ez Bz -;have HBz:=Lib.hid Bz;clear Bz)
   obtain rfl : z = Y:=by rw [Ez.out];rfl
   have hv:=HV.out
   subst hv
   exact bodyPost_ret (v:=.tuple #[.slice Az z.length cz,iv ((k + n : Nat) : Int),iv 0]) (by simp [results,Try.results97]) rfl ⟨Az,cz,rfl,HBz.out⟩
 ·rw [if_neg h0] at hv
  subst hv
  have d1 : (e0 != 0) = true:=by rw [bne_iff_ne];exact h0
  clear HB
  go_wp2
  exact bodyPost_ret (v:=.tuple #[.slice none 0 0,iv 0,iv e0]) (by simp [results,Try.results97]) rfl ⟨none,0,rfl,Bf.nil HK1.out⟩
end Go.Proofs.Ytbgpgdhndanigaa
/- wire.number, count, taken. (printed by gen_vd.py) -/
set_option linter.unusedSimpArgs false
set_option linter.unusedVariables false
namespace Go.Proofs.Ytbgpgdhndanigaa
open Go.RowKit
attribute [local go_sem ↓] Go.wp_at_zero Go.wp_at_succ
def Apd (B : Nat) (v : Value) (n : Nat) (xs : List Value) (w : World) (e : Ending) (w' : World) : Prop:=∃ v',e = .returned v'∧w'.ownsRow B 5 1 v' n xs∧Gr w v w' v'
set_option maxRecDepth 100000 in
set_option maxHeartbeats 4000000 in
theorem wnum_any (B : Nat) (v : Value) (N : Nat) (xs : List Value) (n m : Nat) (w : World) (own : w.ownsRow B 5 1 v N xs) (hB : B ≤ w.heap.size) (hN : N ≤ 1000000000) (hm : m ≤ 8) :
  Calls Try.prog 42 #[v,u64v n,iv m] w (Apd B v (N + m) (xs ++ (loN n m).map u8v) w):=by
 have HB:=Lib.hid hB
 have Own0 : Hid (w.ownsRow B 5 1 v (N + 0) (xs ++ (loN n 0).map u8v)):=Lib.hid (own_eq own (by omega) (by simp [lo_zero]))
 clear own hB
 unfold Apd
 go_enter Try.func42,Try.ntmps42
 go_wp2_with fail
 go_loopw [0,9] (fun x c wr => ∃ k : Nat,k ≤ m∧c = .int .i64 k∧Hid (wr.ownsRow B 5 1 x (N + k) (xs ++ (loN n k).map u8v))∧Hid (Gr w v wr x)) (fun _ c _ => m - (intOf c).toNat)
 case atStart => exact ⟨0,Nat.zero_le _,rfl,Own0,Lib.hid (Gr.refl _ _)⟩
 case round =>
  obtain ⟨k,hk,rfl,Own1,Gr1⟩:=hrel
  by_cases hlt : k < m
  ·obtain ⟨x,hx⟩ : ∃ x : UInt8,x = UInt8.ofNat (n / 2 ^ (8 * k)):=⟨_,rfl⟩
   have hb : (n : Int) / 2 ^ (8 * k) % 256 = (x.toNat : Int):=by
    rw [hx,UInt8.toNat_ofNat',Int.natCast_emod,Int.natCast_ediv,Int.natCast_pow];rfl
   have HN:=Lib.hid (lo_succ n k)
   rw [← hx] at HN
   have d1 : (k : Int) < m:=by omega
   clear hx Own0
   go_wp2_with (at_builtin;refine wpList_app byteT (by rfl) _ _ (by rfl) B _ _ _ (by rfl) (Own1.out.alloc _) _ 1 1 [u8v x] (by rfl) (by rfl) (Rd.new _ _ _) (by simp [Value.oneCell']) (by omega) (by unfold maxLen;omega) (by have:=Gr1.out.size;have:=HB.out;simp;omega) ?_;intro v2 w2 ownv2 hgv2 hatv2;have Ownv2:=Lib.hid ownv2;have Grv2:=Lib.hid ((Gr1.out.alloc _).app hgv2 hatv2);clear ownv2 hgv2 hatv2)
   clear hb
   go_roundw
   case rel => exact ⟨k + 1,by omega,by go_num,Lib.hid (own_eq Ownv2.out (by omega) (by rw [HN.out];simp)),Grv2⟩
   case measure => simp [intOf];omega
  ·obtain rfl : k = m:=by omega
   have d1 : ¬ (k : Int) < k:=by omega
   go_wp2
   exact bodyPost_ret (by simp [results,Try.results42]) rfl ⟨_,rfl,Own1.out,Gr1.out⟩
set_option maxRecDepth 100000 in
set_option maxHeartbeats 4000000 in
theorem wcount_any (B : Nat) (v : Value) (N : Nat) (xs : List Value) (n : Nat) (w : World) (own : w.ownsRow B 5 1 v N xs) (hB : B ≤ w.heap.size) (hN : N ≤ 1000000000) (hn : n < 2 ^ 63) :
  Calls Try.prog 43 #[v,iv n] w (Apd B v (N + sizN n) (xs ++ (cptL n).map u8v) w):=by
 have HB:=Lib.hid hB
 have Own0:=Lib.hid own
 have C1 : Hid (∀ y,Calls Try.prog 65 #[.slice none 0 0,u64v n] y fun e w' => ∃ v,e = .returned v∧w'.ownsRow y.heap.size 5 1 v (sizN n) ((cptL n).map u8v)∧Keep y w'):=Lib.hid fun y => cput_any n (by omega) y
 have hs:=siz_le n
 have HL : Hid (((cptL n).map u8v).length = sizN n * 1):=Lib.hid (by rw [List.length_map,cpt_len];omega)
 have HO:=Lib.hid (one_bytes (cptL n))
 generalize (cptL n).map u8v = C at *
 generalize sizN n = s at *
 have hw : IntKind.u64.wrap (n : Int) = (n : Int):=by rw [IntKind.wrap_u64];omega
 clear own hB hn
 unfold Apd
 go_enter Try.func43,Try.ntmps43
 go_wp2_with fail
 refine (C1.out _).mono ?_
 clear C1
 rintro e w1 ⟨vc,rfl,hown,k1⟩
 obtain ⟨A1,c1,rfl,-,-,-⟩:=own_form hown
 have Gr1:=Lib.hid (Gr.of_keep k1 v)
 have Own1:=Lib.hid (own_keep Own0.out k1)
 have RC:=Lib.hid (own_rd hown)
 clear hown k1 Own0
 go_wp2_with (at_builtin;refine wpList_app byteT (by rfl) _ _ (by rfl) B _ _ _ (by rfl) Own1.out _ s _ C (by rfl) HL.out RC.out HO.out (by omega) (by unfold maxLen;omega) (by have:=Gr1.out.size;have:=HB.out;omega) ?_;intro v2 w2 ownv2 hgv2 hatv2;have Ownv2:=Lib.hid ownv2;have Grv2:=Lib.hid (Gr1.out.app hgv2 hatv2);clear ownv2 hgv2 hatv2)
 exact bodyPost_ret (v:=v2) (by simp [results,Try.results43]) rfl ⟨_,rfl,Ownv2.out,Grv2.out⟩
set_option maxRecDepth 100000 in
set_option maxHeartbeats 4000000 in
theorem taken_any (A : Option Addr) (b : List UInt8) (c m : Nat) (w : World) (hl : b.length ≤ 4611686018427387904) (hm : m ≤ 8) (hr : Rd w A (b.map u8v)) :
  Calls Try.prog 51 #[.slice A b.length c,iv m] w fun e w' => e = .returned (.tuple #[u64v (if b.length < m then 0 else numN b m),iv (if b.length < m then 1 else 0)])∧w = w':=by
 by_cases hlm : b.length < m
 ·rw [if_pos hlm,if_pos hlm]
  have d1 : (b.length : Int) < m:=by omega
  go_enter Try.func51,Try.ntmps51
  go_wp2
  exact bodyPost_ret (v:=.tuple #[u64v 0,iv 1]) (by simp [results,Try.results51]) rfl ⟨rfl,rfl⟩
 rw [if_neg hlm,if_neg hlm]
 have d1 : ¬ (b.length : Int) < m:=by omega
 have HC : Hid (∀ k,k < m → ∃ g off,A = some ⟨g,off,none⟩∧w.cell? ⟨g,off + k,none⟩ = some (u8v (b.getD k 0))):=Lib.hid fun k hk => by
  obtain ⟨g,off,h1,h2,h3⟩:=hr.at (k:=k) (by simp;omega)
  refine ⟨g,off,h1,?_⟩
  rw [h3 k (by simp;omega)]
  simp [List.getD_eq_getElem?_getD,List.getElem?_eq_getElem (show k < b.length by omega)]
 have HN : Hid (∀ k,numN b k < 2 ^ (8 * k)∧numN b (k + 1) = numN b k + (b.getD k 0).toNat * 2 ^ (8 * k)):=Lib.hid fun k => ⟨numN_lt b k,rfl⟩
 have HN0 : Hid (numN b 0 = 0):=Lib.hid rfl
 clear hr
 have hlm2 : m ≤ b.length:=by omega
 clear hlm
 generalize b.length = L at *
 obtain ⟨nt,hnt⟩ : ∃ f,numN b = f:=⟨_,rfl⟩
 obtain ⟨tt,htt⟩ : ∃ f : Nat → UInt8,(fun k => b.getD k 0) = f:=⟨_,rfl⟩
 have htt' : ∀ k,b.getD k 0 = tt k:=fun k => by rw [← htt]
 rw [hnt] at HN HN0 ⊢
 simp only [htt'] at HC HN
 clear hnt htt htt'
 go_enter Try.func51,Try.ntmps51
 go_wp2_with fail
 clear d1
 go_loopw [6,13] (fun v c wr => ∃ k : Nat,k ≤ m∧c = .int .i64 k∧v = .int .u64 (nt k : Nat)∧w = wr) (fun _ c _ => m - (intOf c).toNat)
 case atStart => exact ⟨0,Nat.zero_le _,rfl,by rw [HN0.out];rfl,rfl⟩
 case round =>
  obtain ⟨k,hk,rfl,rfl,rfl⟩:=hrel
  by_cases hlt : k < m
  ·obtain ⟨g,off,rfl,c0⟩:=HC.out k hlt
   obtain ⟨h1,h2⟩:=HN.out k
   have hy:=(tt k).toNat_lt
   have hor:=u64_or (nt k) (tt k).toNat k (by omega) h1 (by omega)
   rw [← h2] at hor
   have d1 : (k : Int) < L:=by omega
   clear h1 h2
   obtain ⟨n1,hn1⟩ : ∃ n1,nt (k + 1) = n1:=⟨_,rfl⟩
   rw [hn1] at hor
   have HNX : Hid (n1 = nt (k + 1)):=Lib.hid hn1.symm
   clear hn1
   generalize nt k = n0 at *
   generalize tt k = y at *
   go_wp2
   go_roundw
   case rel => exact ⟨k + 1,by omega,by go_num,by rw [← HNX.out],by first | rfl | trivial⟩
   case measure => simp [intOf];omega
  ·obtain rfl : k = m:=by omega
   have d2 : ¬ (k : Int) < k:=by omega
   obtain ⟨n,hn⟩ : ∃ n,nt k = n:=⟨_,rfl⟩
   rw [hn]
   have HNN:=Lib.hid hn
   clear HC HN HN0 hn
   go_wp2
   exact bodyPost_ret (v:=.tuple #[u64v n,iv 0]) (by simp [results,Try.results51]) rfl ⟨by rw [← HNN.out],rfl⟩
end Go.Proofs.Ytbgpgdhndanigaa
/- Whole variables loaded and stored; hashes as values. -/
set_option linter.unusedSimpArgs false
set_option linter.unusedVariables false
namespace Go.Proofs.Ytbgpgdhndanigaa
open Go.RowKit
attribute [local go_sem ↓] Go.wp_at_zero Go.wp_at_succ
section
variable {P : Program} {w : World} {ops : Array Oper} {rest : List Oper} {a : Act} {Q : Exit → Act → World → Prop} {x y : Operand} {dst : Option Tmp} {ty ty' t : TypeId} {pos : String} {af : Array Edge}
theorem arr_row (n : Nat) (e : TypeId) : (TypeDesc.array n e).isRow = true:=rfl
theorem load_blk (g : Nat) (cs : List Value) (hx : a.eval x = .pointer (some ⟨g,0,none⟩)) (hb : Blk w g t cs) (d : TypeDesc) (hu : P.underlying ty = some d) (hd : d.isRow = true) (hi : (P.info? ty).map (·.size) = some cs.length)
  (h : wpList P ops Q rest (a.put dst (.agg cs.toArray)) w) : wpList P ops Q ({ dst:=dst,op:=.load ty x,type:=ty',pos:=pos,after:=af,guard:=none } :: rest) a w :=
 wpList_load_mid rfl ty x rfl g 0 hx cs d (fun j v hv => by rw [Nat.zero_add,hb.cell];exact hv) hu hd hi h
theorem load_arr (g : Nat) (cs : Array Value) (hx : a.eval x = .pointer (some ⟨g,0,none⟩)) (hb : Blk w g t cs.toList) (d : TypeDesc) (hu : P.underlying ty = some d) (hd : d.isRow = true) (hi : (P.info? ty).map (·.size) = some cs.size)
  (h : wpList P ops Q rest (a.put dst (.agg cs)) w) : wpList P ops Q ({ dst:=dst,op:=.load ty x,type:=ty',pos:=pos,after:=af,guard:=none } :: rest) a w :=
 load_blk g cs.toList hx hb d hu hd (by simpa using hi) h
end
def w32 (n : Int) : UInt32:=UInt32.ofNat n.toNat
theorem w32_of {n : Int} (h0 : 0 ≤ n) (h1 : n ≤ 4294967295) : n = ((w32 n).toNat : Int):=by
 unfold w32;rw [UInt32.toNat_ofNat'];omega
theorem w32_hi (x : UInt32) : (x.toNat : Int) ≤ 4294967295:=by have:=x.toNat_lt;omega
theorem getD_of {α : Type} {l : List α} {k : Nat} {d y : α} (h : l[k]? = some y) : l.getD k d = y:=by simp [h]
theorem run_store_blk {P : Program} {w : World} {g : Nat} {t : TypeId} {old : List Value} (cs : List Value) (hb : Blk w g t old) (ho : old.length = cs.length) (h1 : ∀ v ∈ cs,v.oneCell' = true) :
  ∃ w',(storeCells ⟨g,0,none⟩ cs 0).run P w = .ok () w'∧Blk w' g t cs∧w.grownBy w' (some g):=by
 refine ⟨_,run_storeCells_from g t cs 0 old.toArray w hb (by simp [ho]) h1,?_,rfl,rfl,rfl,by simp [World.setRow],fun k _ hne => setRow_other w g k _ (fun e => hne (by rw [e]))⟩
 have:=setRow_heap w g old.toArray cs.toArray t (0,0) hb
 simpa [Blk] using this
theorem byteW : ElT Try.prog 31 5 (.int .u8 0) 1 1:=ElT.mk' Try.underlying31 (by kernel_rfl) rfl (by omega)
theorem one_w8 (l : List UInt8) : ∀ u ∈ l.map u8v,u.oneCell' = true:=by
 intro u hu;obtain ⟨x,_,rfl⟩:=List.mem_map.1 hu;rfl
def zb (n : Nat) : Array Value:=madeCells #[.int .u8 0] (n * 1)
def w8 (n : Int) : UInt8:=UInt8.ofNat n.toNat
theorem w8_of {n : Int} (h0 : 0 ≤ n) (h1 : n ≤ 255) : n = ((w8 n).toNat : Int):=by
 unfold w8;rw [UInt8.toNat_ofNat'];omega
theorem set_map8 (l : List UInt8) (k : Nat) (E : Int) (h0 : 0 ≤ E) (h1 : E ≤ 255) : (l.set k (w8 E)).map u8v = (l.map u8v).set k (.int .u8 E):=by
 rw [List.map_set];unfold u8v;rw [← w8_of h0 h1]
noncomputable def zhash : Array Value:=match (Try.prog.info? 27).bind (·.zero) with | some (.agg c) => c | _ => #[]
theorem zhash_size : zhash.size = 32:=by kernel_rfl
theorem zhash_zero (w : World) : (zeroValue 27).run Try.prog w = .ok (.agg zhash) w:=by kernel_rfl
theorem zhash_list : zhash.toList = (List.replicate 32 (0 : UInt8)).map u8v:=by kernel_rfl
theorem hash_under : Try.prog.underlying 27 = some (.array 32 5):=by kernel_rfl
structure HashA (h : List UInt8) (cs : Array Value) : Prop where
 l : cs.toList = h.map u8v
 z : cs.size = 32
 i : (Try.prog.info? 27).map (·.size) = some cs.size
 n : ¬ cs = #[]
 o : ∀ v ∈ cs.toList,v.oneCell' = true
 e : (h.map u8v).toArray = cs
theorem HashA.of {h : List UInt8} (hl : h.length = 32) : HashA h (h.map u8v).toArray:=by
 have hz : (h.map u8v).toArray.size = 32:=by simp [hl]
 refine ⟨rfl,hz,by rw [hz];kernel_rfl,fun e => by rw [e] at hz;simp at hz,?_,rfl⟩
 exact one_w8 h
end Go.Proofs.Ytbgpgdhndanigaa
/- A header's bytes. -/
set_option linter.unusedSimpArgs false
set_option linter.unusedVariables false
namespace Go.Proofs.Ytbgpgdhndanigaa
open Go.RowKit
attribute [local go_sem ↓] Go.wp_at_zero Go.wp_at_succ
theorem range_of {w : World} {g : Nat} {t : TypeId} {all : List Value} (hb : Blk w g t all) (off : Nat) (cs : List Value) (hs : (all.drop off).take cs.length = cs) : w.rangeAt g off cs:=fun j v hv => by
 have hj : j < cs.length:=(List.getElem?_eq_some_iff.1 hv).1
 rw [hb.cell]
 rw [← hs,List.getElem?_take_of_lt hj,List.getElem?_drop] at hv
 exact hv
theorem grown_set {w w' : World} {g o : Nat} {u : Value} (h : w.grownBy w' (some g)) : w.grownBy (w'.setCell ⟨g,o,none⟩ u) (some g) :=
 h.trans ⟨rfl,rfl,rfl,by simp,fun k _ hne => Below.heap_setCell w' _ u k (fun e => hne (by rw [e]))⟩
theorem grown_refl (w : World) (r : Option Nat) : w.grownBy w r:=⟨rfl,rfl,rfl,Nat.le_refl _,fun _ _ _ => rfl⟩
def leE (x : UInt32) (k : Nat) : Int:=(x.toNat : Int) / 2 ^ (8 * k) % 256
def layK (l : List UInt8) (off : Nat) (x : UInt32) : Nat → List UInt8
 | 0 => l
 | k + 1 => (layK l off x k).set (off + k) (w8 (leE x k))
theorem layK_len (l : List UInt8) (off : Nat) (x : UInt32) (k : Nat) : (layK l off x k).length = l.length:=by
 induction k with
 | zero => rfl
 | succ k ih => rw [layK,List.length_set,ih]
set_option maxRecDepth 100000 in
set_option maxHeartbeats 1000000 in
theorem lay4_any (g off n c : Nat) (t : TypeId) (l : List UInt8) (x : UInt32) (w : World) (hb : Blk w g t (l.map u8v)) (hn : 4 ≤ n) (hl : off + 4 ≤ l.length) :
  Calls Try.prog 86 #[.slice (some ⟨g,off,none⟩) n c,u32v x] w fun e w' => e = .returned (.tuple #[])∧Blk w' g t ((layK l off x 4).map u8v)∧w.grownBy w' (some g):=by
 have Hb:=Lib.hid hb;clear hb
 go_enter Try.func86,Try.ntmps86
 go_wp2_with fail
 go_loopw [5] (fun i wr => ∃ k : Nat,k ≤ 4∧i = .int .i64 k∧Blk wr g t ((layK l off x k).map u8v)∧w.grownBy wr (some g)) (fun i _ => 4 - (intOf i).toNat)
 case atStart => exact ⟨0,by omega,rfl,Hb.out,grown_refl _ _⟩
 case round =>
  obtain ⟨k,hk,rfl,hb,hg⟩:=hrel
  by_cases hlt : k < 4
  ·have hx:=w32_hi x
   obtain ⟨o,ho⟩ : ∃ o,(layK l off x k)[off + k]? = some o:=⟨_,List.getElem?_eq_getElem (by rw [layK_len];omega)⟩
   have c0:=hb.cell (off + k);rw [List.getElem?_map,ho,Option.map_some] at c0
   have f0:=hb.frozen (off + k)
   have Hb2:=Lib.hid hb;have Hg:=Lib.hid hg
   clear hb hg ho
   go_wp2
   go_roundw
   case rel =>
    refine ⟨k + 1,by omega,by go_num,?_,grown_set Hg.out⟩
    rw [layK,set_map8 _ _ (leE x k) (by unfold leE;omega) (by unfold leE;omega)]
    exact Hb2.out.set_ _ _
   case measure => simp [intOf];omega
  ·have Hk:=Lib.hid (show k = 4 by omega)
   have Hb2:=Lib.hid hb;have Hg:=Lib.hid hg
   clear hb hg
   go_wp2
   refine bodyPost_end (v:=.tuple #[]) (by simp [results,Try.results86]) rfl ⟨rfl,?_,Hg.out⟩
   have h:=Hb2.out
   rw [Hk.out] at h
   exact h
structure Hd where
 ver : UInt32
 prev : List UInt8
 root : List UInt8
 time : UInt32
 bits : UInt32
 nonce : UInt32
def Hd.ok (h : Hd) : Prop:=h.prev.length = 32∧h.root.length = 32
def Hd.cells (h : Hd) : List Value:=u32v h.ver :: (h.prev.map u8v ++ (h.root.map u8v ++ [u32v h.time,u32v h.bits,u32v h.nonce]))
theorem Hd.len {h : Hd} (hk : h.ok) : h.cells.length = 68:=by simp [Hd.cells,hk.1,hk.2]
def le4 (x : UInt32) : List UInt8:=[w8 (leE x 0),w8 (leE x 1),w8 (leE x 2),w8 (leE x 3)]
def hputL (h : Hd) : List UInt8:=le4 h.ver ++ (h.prev ++ (h.root ++ (le4 h.time ++ (le4 h.bits ++ le4 h.nonce))))
theorem hputL_len {h : Hd} (hk : h.ok) : (hputL h).length = 80:=by simp [hputL,le4,hk.1,hk.2]
theorem layK_mid (a m b : List UInt8) (x : UInt32) (off : Nat) (ha : a.length = off) (hm : m.length = 4) : layK (a ++ (m ++ b)) off x 4 = a ++ (le4 x ++ b):=by
 subst ha
 match m,hm with
 | [p,q,r,s],_ => simp [layK,le4,List.set_append_right]
theorem splice_mid {α : Type} (a m b d : List α) (off : Nat) (ha : a.length = off) (hm : m.length = d.length) : splice (a ++ (m ++ b)) off d = a ++ (d ++ b):=by
 subst ha
 unfold splice
 rw [List.take_left,← hm,← List.drop_drop,List.drop_left,List.drop_left]
section
variable {w : World} {g : Nat} {t : TypeId} {h : Hd}
theorem hd_cell0 (hb : Blk w g t h.cells) (hk : h.ok) : w.cell? ⟨g,0,none⟩ = some (u32v h.ver):=(hb.cell 0).trans rfl
theorem hd_tail (hk : h.ok) (j : Nat) : h.cells[65 + j]? = [u32v h.time,u32v h.bits,u32v h.nonce][j]?:=by
 unfold Hd.cells
 rw [show 65 + j = (64 + j) + 1 by omega,List.getElem?_cons_succ,List.getElem?_append_right (by simp [hk.1];omega),List.getElem?_append_right (by simp [hk.1,hk.2];omega)]
 congr 1
 simp [hk.1,hk.2];omega
theorem hd_cell65 (hb : Blk w g t h.cells) (hk : h.ok) : w.cell? ⟨g,65,none⟩ = some (u32v h.time):=(hb.cell 65).trans (hd_tail hk 0)
theorem hd_cell66 (hb : Blk w g t h.cells) (hk : h.ok) : w.cell? ⟨g,66,none⟩ = some (u32v h.bits):=(hb.cell 66).trans (hd_tail hk 1)
theorem hd_cell67 (hb : Blk w g t h.cells) (hk : h.ok) : w.cell? ⟨g,67,none⟩ = some (u32v h.nonce):=(hb.cell 67).trans (hd_tail hk 2)
theorem hd_prev (hb : Blk w g t h.cells) (hk : h.ok) : Rd w (some ⟨g,1,none⟩) (h.prev.map u8v):=by
 have h1:=hb.rd.sub 1 32 (by rw [Hd.len hk];omega)
 rw [Nat.zero_add] at h1
 have e : (h.cells.drop 1).take 32 = h.prev.map u8v:=by
  unfold Hd.cells
  rw [List.drop_succ_cons,List.drop_zero,List.take_left' (by simp [hk.1])]
 rwa [e] at h1
theorem hd_root (hb : Blk w g t h.cells) (hk : h.ok) : Rd w (some ⟨g,33,none⟩) (h.root.map u8v):=by
 have h1:=hb.rd.sub 33 32 (by rw [Hd.len hk];omega)
 rw [Nat.zero_add] at h1
 have e : (h.cells.drop 33).take 32 = h.root.map u8v:=by
  unfold Hd.cells
  rw [List.drop_succ_cons,List.drop_left' (by simp [hk.1]),List.take_left' (by simp [hk.2])]
 rwa [e] at h1
end
theorem splice_mapH {α β : Type} (f : α → β) (b : List α) (off : Nat) (d : List α) : splice (b.map f) off (d.map f) = (splice b off d).map f:=by
 simp [splice,List.map_append,List.map_take,List.map_drop]
theorem hput_steps (h : Hd) (hk : h.ok) : layK (layK (layK (splice (splice (layK (List.replicate 80 (0 : UInt8)) 0 h.ver 4) 4 h.prev) 36 h.root) 68 h.time 4) 72 h.bits 4) 76 h.nonce 4 = hputL h:=by
 have hr : ∀ n m : Nat,List.replicate (n + m) (0 : UInt8) = List.replicate n 0 ++ List.replicate m 0:=fun n m => (List.replicate_append_replicate ..).symm
 have z0 : List.replicate 80 (0 : UInt8) = [] ++ (List.replicate 4 0 ++ (List.replicate 32 0 ++ (List.replicate 32 0 ++ (List.replicate 4 0 ++ (List.replicate 4 0 ++ (List.replicate 4 0 ++ [])))))):=by rfl
 rw [z0,layK_mid [] _ _ h.ver 0 rfl (by simp)]
 have e1 : ∀ (a b c : List UInt8),[] ++ (a ++ (b ++ c)) = a ++ (b ++ c):=fun _ _ _ => rfl
 rw [List.nil_append,splice_mid (le4 h.ver) _ _ h.prev 4 rfl (by simp [hk.1])]
 rw [← List.append_assoc (le4 h.ver),splice_mid (le4 h.ver ++ h.prev) _ _ h.root 36 (by simp [le4,hk.1]) (by simp [hk.2])]
 rw [← List.append_assoc (le4 h.ver ++ h.prev),layK_mid (le4 h.ver ++ h.prev ++ h.root) _ _ h.time 68 (by simp [le4,hk.1,hk.2]) (by simp)]
 rw [← List.append_assoc (le4 h.ver ++ h.prev ++ h.root),layK_mid (le4 h.ver ++ h.prev ++ h.root ++ le4 h.time) _ _ h.bits 72 (by simp [le4,hk.1,hk.2]) (by simp)]
 rw [← List.append_assoc (le4 h.ver ++ h.prev ++ h.root ++ le4 h.time),layK_mid (le4 h.ver ++ h.prev ++ h.root ++ le4 h.time ++ le4 h.bits) _ _ h.nonce 76 (by simp [le4,hk.1,hk.2]) (by simp)]
 simp [hputL]
structure HdA (h : Hd) (cs : Array Value) : Prop where
 l : cs.toList = h.cells
 z : cs.size = 68
 i : (Try.prog.info? 30).map (·.size) = some cs.size
 n : ¬ cs = #[]
 o : ∀ v ∈ cs.toList,v.oneCell' = true
theorem Hd.one (h : Hd) : ∀ u ∈ h.cells,u.oneCell' = true:=by
 intro u hu
 unfold Hd.cells at hu
 simp only [List.mem_cons,List.mem_append,List.not_mem_nil,or_false] at hu
 rcases hu with rfl | hu | hu | rfl | rfl | rfl
 ·rfl
 ·exact one_w8 _ u hu
 ·exact one_w8 _ u hu
 ·rfl
 ·rfl
 ·rfl
theorem HdA.of {h : Hd} (hk : h.ok) : HdA h h.cells.toArray:=by
 have hz : h.cells.toArray.size = 68:=by rw [List.size_toArray];exact Hd.len hk
 exact ⟨rfl,hz,by rw [hz];kernel_rfl,fun e => by rw [e] at hz;simp at hz,h.one⟩
noncomputable def z80 : Array Value:=match (Try.prog.info? 133).bind (·.zero) with | some (.agg c) => c | _ => #[]
theorem z80_size : z80.size = 80:=by kernel_rfl
theorem z80_zero (w : World) : (zeroValue 133).run Try.prog w = .ok (.agg z80) w:=by kernel_rfl
theorem z80_list : z80.toList = (List.replicate 80 (0 : UInt8)).map u8v:=by kernel_rfl
set_option maxRecDepth 100000 in
set_option maxHeartbeats 3000000 in
theorem array_any (h : Hd) (cs : Array Value) (w : World) (hk : h.ok) (hcs : HdA h cs) :
  Calls Try.prog 66 #[.agg cs] w fun e w' => e = .returned (.agg ((hputL h).map u8v).toArray)∧Keep w w':=by
 obtain ⟨zs,hzs⟩ : ∃ zs,zs = z80:=⟨_,rfl⟩
 have hz1 : zs.size = 80:=by rw [hzs];exact z80_size
 have hz2 : ∀ w,(zeroValue 133).run Try.prog w = .ok (.agg zs) w:=fun w => by rw [hzs];exact z80_zero w
 have hz3 : ¬ zs = #[]:=fun h => by rw [h] at hz1;cases hz1
 have Hzl : Hid (zs.toList = (List.replicate 80 (0 : UInt8)).map u8v):=by rw [hzs];exact z80_list
 have hcz:=hcs.z;have hcn:=hcs.n
 have Hcs:=Lib.hid hcs;have Hk:=Lib.hid hk
 clear hzs hcs hk
 go_enter Try.func66,Try.ntmps66
 go_wp2_with fail
 obtain ⟨w1,hw1⟩ : ∃ w1,w1 = ((w.alloc (.cells cs 30)).alloc (.cells zs 133)).alloc (.cells zs 133):=⟨_,rfl⟩
 have hB : Blk w1 w.heap.size 30 h.cells:=by
  rw [hw1];exact (((show Blk _ w.heap.size _ h.cells by rw [← Hcs.out.l];exact Blk.new w _ cs.toList).alloc _).alloc _)
 have hR : Blk w1 (w.heap.size + 1) 133 zs.toList:=by
  rw [hw1]
  have h1:=Blk.new (w.alloc (.cells cs 30)) 133 zs.toList
  rw [World.size_alloc] at h1
  exact h1.alloc _
 have hO : Blk w1 (w.heap.size + 1 + 1) 133 ((List.replicate 80 (0 : UInt8)).map u8v):=by
  rw [hw1,← Hzl.out]
  have h1:=Blk.new ((w.alloc (.cells cs 30)).alloc (.cells zs 133)) 133 zs.toList
  rw [World.size_alloc,World.size_alloc] at h1
  exact h1
 have kw1 : Keep w w1:=by rw [hw1];exact keep_trans (keep_trans (keep_new _ _) (keep_new _ _)) (keep_new _ _)
 rw [← hw1]
 clear hw1
 have HB1:=Lib.hid hB;have HR1:=Lib.hid hR;have HO1:=Lib.hid hO;have HK1:=Lib.hid kw1
 have HL1 : Hid ((List.replicate 80 (0 : UInt8)).length = 80):=List.length_replicate
 generalize hl1 : List.replicate 80 (0 : UInt8) = l1 at HO1 HL1
 have El1:=Lib.hid hl1
 clear hB hR hO kw1 hl1
 refine wp_region_tree (.take [0,1,2] .done) [3] (by kernel_rfl) (by kernel_rfl) (fun v2 k2 => ?_)
 have b2:=Lib.hid (HB1.out.keep k2);have r2:=Lib.hid (HR1.out.keep k2);have o2:=Lib.hid (HO1.out.keep k2);have q2:=Lib.hid (keep_trans HK1.out k2)
 have c2:=hd_cell0 b2.out Hk.out
 have a2:=aft_cell c2
 refine mt_take v2 (Below.refl _ _) ?_
 simp only [pick_cons,pick_nil,nth_zero,nth_succ]
 repeat (go_big_quiet_step (fail))
 refine wpQuiet_nil (mt_end ?_)
 clear a2 c2
 go_wp2_with fail
 refine (lay4_any (w.heap.size + 1 + 1) 0 80 80 _ l1 h.ver v2 o2.out (by omega) (by rw [HL1.out];omega)).mono ?_
 rintro e w2 ⟨rfl,ho2,hg2⟩
 have HO2:=Lib.hid ho2;have HL2 : Hid ((layK l1 0 h.ver 4).length = 80):=(layK_len _ _ _ _).trans HL1.out
 have HB2:=Lib.hid (b2.out.grown hg2 (fun e => by injection e with e;omega));have HR2:=Lib.hid (r2.out.grown hg2 (fun e => by injection e with e;omega))
 have HK2 : Hid (Keep w w2):=q2.out.grown hg2 q2.out.size (fun q hq => by injection hq with hq;omega)
 clear ho2 hg2
 generalize hl2 : layK l1 0 h.ver 4 = l2 at HO2 HL2
 have El2:=Lib.hid hl2
 clear hl2 HB1 HR1 HO1 HK1 b2 r2 o2 q2 k2 HL1
 go_upto_region 3 with fail
 refine wp_region_tree (.take [0,1,2] .done) [3] (by kernel_rfl) (by kernel_rfl) (fun v3 k3 => ?_)
 have b3:=Lib.hid (HB2.out.keep k3);have r3:=Lib.hid (HR2.out.keep k3);have o3:=Lib.hid (HO2.out.keep k3);have q3:=Lib.hid (keep_trans HK2.out k3)
 refine mt_take v3 (Below.refl _ _) ?_
 simp only [pick_cons,pick_nil,nth_zero,nth_succ]
 repeat (go_big_quiet_step (fail))
 refine wpQuiet_nil (mt_end ?_)
 refine wpList_cpy byteW (by rfl) _ _ (by rfl) (w.heap.size + 1 + 1) 4 76 76 (by rfl) (some ⟨w.heap.size,1,none⟩) 32 32 (h.prev.map u8v) (by rfl) (by rw [List.length_map];exact Hk.out.1) (hd_prev b3.out Hk.out) (one_w8 _) (l2.map u8v) _ o3.out (by rw [List.length_map,HL2.out];omega) ?_
 intro w3 ho3 hg3
 simp only [Act.put,Array.set!_eq_setIfInBounds,List.setIfInBounds_toArray,List.set_cons_succ,List.set_cons_zero]
 have HO3 : Hid (Blk w3 (w.heap.size + 1 + 1) 133 ((splice l2 4 h.prev).map u8v)):=by
  have h:=ho3.out
  rw [List.take_of_length_le (by rw [List.length_map];have:=Hk.out.1;omega),splice_mapH] at h
  exact h
 have HL3 : Hid ((splice l2 4 h.prev).length = 80):=(length_splice _ _ _ (by rw [HL2.out];have:=Hk.out.1;omega)).trans HL2.out
 have HB3:=Lib.hid (b3.out.grown hg3 (fun e => by injection e with e;omega));have HR3:=Lib.hid (r3.out.grown hg3 (fun e => by injection e with e;omega))
 have HK3 : Hid (Keep w w3):=q3.out.grown hg3 q3.out.size (fun q hq => by injection hq with hq;omega)
 clear ho3 hg3
 generalize hl3 : splice l2 4 h.prev = l3 at HO3 HL3
 have El3:=Lib.hid hl3
 clear hl3 HB2 HR2 HO2 HK2 b3 r3 o3 q3 k3 HL2
 go_upto_region 4 with fail
 refine wp_region_tree (.take [0,1,2] .done) [3] (by kernel_rfl) (by kernel_rfl) (fun v4 k4 => ?_)
 have b4:=Lib.hid (HB3.out.keep k4);have r4:=Lib.hid (HR3.out.keep k4);have o4:=Lib.hid (HO3.out.keep k4);have q4:=Lib.hid (keep_trans HK3.out k4)
 refine mt_take v4 (Below.refl _ _) ?_
 simp only [pick_cons,pick_nil,nth_zero,nth_succ]
 repeat (go_big_quiet_step (fail))
 refine wpQuiet_nil (mt_end ?_)
 refine wpList_cpy byteW (by rfl) _ _ (by rfl) (w.heap.size + 1 + 1) 36 44 44 (by rfl) (some ⟨w.heap.size,33,none⟩) 32 32 (h.root.map u8v) (by rfl) (by rw [List.length_map];exact Hk.out.2) (hd_root b4.out Hk.out) (one_w8 _) (l3.map u8v) _ o4.out (by rw [List.length_map,HL3.out];omega) ?_
 intro w4 ho4 hg4
 simp only [Act.put,Array.set!_eq_setIfInBounds,List.setIfInBounds_toArray,List.set_cons_succ,List.set_cons_zero]
 have HO4 : Hid (Blk w4 (w.heap.size + 1 + 1) 133 ((splice l3 36 h.root).map u8v)):=by
  have h:=ho4.out
  rw [List.take_of_length_le (by rw [List.length_map];have:=Hk.out.2;omega),splice_mapH] at h
  exact h
 have HL4 : Hid ((splice l3 36 h.root).length = 80):=(length_splice _ _ _ (by rw [HL3.out];have:=Hk.out.2;omega)).trans HL3.out
 have HB4:=Lib.hid (b4.out.grown hg4 (fun e => by injection e with e;omega));have HR4:=Lib.hid (r4.out.grown hg4 (fun e => by injection e with e;omega))
 have HK4 : Hid (Keep w w4):=q4.out.grown hg4 q4.out.size (fun q hq => by injection hq with hq;omega)
 clear ho4 hg4
 generalize hl4 : splice l3 36 h.root = l4 at HO4 HL4
 have El4:=Lib.hid hl4
 clear hl4 HB3 HR3 HO3 HK3 b4 r4 o4 q4 k4 HL3
 go_upto_region 5 with fail
 refine wp_region_tree (.take [0,1,2] .done) [3] (by kernel_rfl) (by kernel_rfl) (fun v5 k5 => ?_)
 have b5:=Lib.hid (HB4.out.keep k5);have r5:=Lib.hid (HR4.out.keep k5);have o5:=Lib.hid (HO4.out.keep k5);have q5:=Lib.hid (keep_trans HK4.out k5)
 have c5:=hd_cell65 b5.out Hk.out
 have a5:=aft_cell c5
 refine mt_take v5 (Below.refl _ _) ?_
 simp only [pick_cons,pick_nil,nth_zero,nth_succ]
 repeat (go_big_quiet_step (fail))
 refine wpQuiet_nil (mt_end ?_)
 clear a5 c5
 go_wp2_with fail
 refine (lay4_any (w.heap.size + 1 + 1) 68 12 12 _ l4 h.time v5 o5.out (by omega) (by rw [HL4.out];omega)).mono ?_
 rintro e w5 ⟨rfl,ho5,hg5⟩
 have HO5:=Lib.hid ho5;have HL5 : Hid ((layK l4 68 h.time 4).length = 80):=(layK_len _ _ _ _).trans HL4.out
 have HB5:=Lib.hid (b5.out.grown hg5 (fun e => by injection e with e;omega));have HR5:=Lib.hid (r5.out.grown hg5 (fun e => by injection e with e;omega))
 have HK5 : Hid (Keep w w5):=q5.out.grown hg5 q5.out.size (fun q hq => by injection hq with hq;omega)
 clear ho5 hg5
 generalize hl5 : layK l4 68 h.time 4 = l5 at HO5 HL5
 have El5:=Lib.hid hl5
 clear hl5 HB4 HR4 HO4 HK4 b5 r5 o5 q5 k5 HL4
 go_upto_region 6 with fail
 refine wp_region_tree (.take [0,1,2] .done) [3] (by kernel_rfl) (by kernel_rfl) (fun v6 k6 => ?_)
 have b6:=Lib.hid (HB5.out.keep k6);have r6:=Lib.hid (HR5.out.keep k6);have o6:=Lib.hid (HO5.out.keep k6);have q6:=Lib.hid (keep_trans HK5.out k6)
 have c6:=hd_cell66 b6.out Hk.out
 have a6:=aft_cell c6
 refine mt_take v6 (Below.refl _ _) ?_
 simp only [pick_cons,pick_nil,nth_zero,nth_succ]
 repeat (go_big_quiet_step (fail))
 refine wpQuiet_nil (mt_end ?_)
 clear a6 c6
 go_wp2_with fail
 refine (lay4_any (w.heap.size + 1 + 1) 72 8 8 _ l5 h.bits v6 o6.out (by omega) (by rw [HL5.out];omega)).mono ?_
 rintro e w6 ⟨rfl,ho6,hg6⟩
 have HO6:=Lib.hid ho6;have HL6 : Hid ((layK l5 72 h.bits 4).length = 80):=(layK_len _ _ _ _).trans HL5.out
 have HB6:=Lib.hid (b6.out.grown hg6 (fun e => by injection e with e;omega));have HR6:=Lib.hid (r6.out.grown hg6 (fun e => by injection e with e;omega))
 have HK6 : Hid (Keep w w6):=q6.out.grown hg6 q6.out.size (fun q hq => by injection hq with hq;omega)
 clear ho6 hg6
 generalize hl6 : layK l5 72 h.bits 4 = l6 at HO6 HL6
 have El6:=Lib.hid hl6
 clear hl6 HB5 HR5 HO5 HK5 b6 r6 o6 q6 k6 HL5
 go_upto_region 7 with fail
 refine wp_region_tree (.take [0,1,2] .done) [3] (by kernel_rfl) (by kernel_rfl) (fun v7 k7 => ?_)
 have b7:=Lib.hid (HB6.out.keep k7);have r7:=Lib.hid (HR6.out.keep k7);have o7:=Lib.hid (HO6.out.keep k7);have q7:=Lib.hid (keep_trans HK6.out k7)
 have c7:=hd_cell67 b7.out Hk.out
 have a7:=aft_cell c7
 refine mt_take v7 (Below.refl _ _) ?_
 simp only [pick_cons,pick_nil,nth_zero,nth_succ]
 repeat (go_big_quiet_step (fail))
 refine wpQuiet_nil (mt_end ?_)
 clear a7 c7
 go_wp2_with fail
 refine (lay4_any (w.heap.size + 1 + 1) 76 4 4 _ l6 h.nonce v7 o7.out (by omega) (by rw [HL6.out];omega)).mono ?_
 rintro e w7 ⟨rfl,ho7,hg7⟩
 have HO7:=Lib.hid ho7;have HL7 : Hid ((layK l6 76 h.nonce 4).length = 80):=(layK_len _ _ _ _).trans HL6.out
 have HB7:=Lib.hid (b7.out.grown hg7 (fun e => by injection e with e;omega));have HR7:=Lib.hid (r7.out.grown hg7 (fun e => by injection e with e;omega))
 have HK7 : Hid (Keep w w7):=q7.out.grown hg7 q7.out.size (fun q hq => by injection hq with hq;omega)
 clear ho7 hg7
 generalize hl7 : layK l6 76 h.nonce 4 = l7 at HO7 HL7
 have El7:=Lib.hid hl7
 clear hl7 HB6 HR6 HO6 HK6 b7 r7 o7 q7 k7 HL6
 have hput : l7 = hputL h:=by
  rw [← El7.out,← El6.out,← El5.out,← El4.out,← El3.out,← El2.out,← El1.out]
  exact hput_steps h Hk.out
 have HP:=Lib.hid hput
 clear hput El7 El6 El5 El4 El3 El2 El1
 obtain ⟨ps,hps⟩ : ∃ ps : Array Value,ps.toList = l7.map u8v:=⟨(l7.map u8v).toArray,rfl⟩
 have hpz : ps.size = 80:=by rw [← Array.length_toList,hps,List.length_map,HL7.out]
 have hpn : ¬ ps = #[]:=by intro h;rw [h] at hpz;simp at hpz
 have hpi : (Try.prog.info? 133).map (·.size) = some ps.size:=by rw [hpz];kernel_rfl
 have Ho7 : Hid (Blk w7 (w.heap.size + 1 + 1) 133 ps.toList):=by rw [hps];exact HO7.out
 have Hps:=Lib.hid hps
 obtain ⟨w8,hst,hb8,hg8⟩:=run_store_blk (P:=Try.prog) ps.toList HR7.out (by simp [hz1,hpz]) (by rw [hps];exact one_w8 _)
 have Hb8:=Lib.hid hb8;have Hg8:=Lib.hid hg8
 clear hps hb8 hg8
 go_upto_region 8 with fail
 go_wp2_with ((with_reducible refine load_arr (w.heap.size + 1 + 1) ps (Eq.trans ?_ rfl) Ho7.out (.array 80 5) Try.underlying133 (arr_row _ _) hpi ?_);rfl)
 have hb8:=Hb8.out
 refine bodyPost_ret (v:=.agg ps) (results_cell_row Try.results66 _ _ (w.heap.size + 1) _ _ _ _ rfl hb8 Try.underlying133 rfl (by rw [List.size_toArray,Array.length_toList,hpz];kernel_rfl)) rfl ⟨?_,HK7.out.grown Hg8.out HK7.out.size (fun q hq => by injection hq with hq;omega)⟩
 rw [← HP.out,← Hps.out,Array.toArray_toList]
end Go.Proofs.Ytbgpgdhndanigaa
namespace Go.Proofs.Ytbgpgdhndanigaa
open Go.RowKit
attribute [local go_sem ↓] Go.wp_at_zero Go.wp_at_succ
theorem z80_letter : ∃ zs : Array Value,zs.size = 80∧(∀ w,(zeroValue 133).run Try.prog w = .ok (.agg zs) w)∧¬ zs = #[] :=
 ⟨z80,z80_size,z80_zero,fun h => by have:=z80_size;rw [h] at this;cases this⟩
theorem results_cell_tmp_row {P : Program} {fn : Func} {p u : Tmp} {ty : TypeId} (h : fn.results = #[.cell p ty,.tmp u]) (tmps : Array Value) (w : World) (g : Nat) (t : TypeId) (cs : Array Value) (fr : Nat × Nat) (d : TypeDesc)
  (hp : tmps.getD p undef = .pointer (some ⟨g,0,none⟩)) (hg : w.heap[g]? = some (.cells cs t fr))
  (hu : P.underlying ty = some d) (hd : (match d with | .struct _ | .array _ _ => true | _ => false) = true) (hi : (P.info? ty).map (·.size) = some cs.size) :
  (results fn tmps).run P w = .ok (.tuple #[.agg cs,tmps.getD u undef]) w:=by
 rw [results_cell_tmp h,hp]
 simp [asAddr,run_loadVar_row w g t ty cs fr d hg hu hd hi]
noncomputable def zhead : Array Value:=match (Try.prog.info? 30).bind (·.zero) with | some (.agg c) => c | _ => #[]
theorem zhead_size : zhead.size = 68:=by kernel_rfl
theorem zhead_zero (w : World) : (zeroValue 30).run Try.prog w = .ok (.agg zhead) w:=by kernel_rfl
def z32 : List UInt8:=List.replicate 32 0
theorem zhead_list : zhead.toList = Hd.cells ⟨0,z32,z32,0,0,0⟩:=by kernel_rfl
theorem zhead_letter : ∃ zs : Array Value,zs.size = 68∧(∀ w,(zeroValue 30).run Try.prog w = .ok (.agg zs) w)∧¬ zs = #[]∧zs.toList = Hd.cells ⟨0,z32,z32,0,0,0⟩ :=
 ⟨zhead,zhead_size,zhead_zero,(fun h => by have:=zhead_size;rw [h] at this;cases this),zhead_list⟩
theorem zhash_letter : ∃ zs : Array Value,zs.size = 32∧(∀ w,(zeroValue 27).run Try.prog w = .ok (.agg zs) w)∧¬ zs = #[]∧zs.toList = (List.replicate 32 (0 : UInt8)).map u8v :=
 ⟨zhash,zhash_size,zhash_zero,(fun h => by have:=zhash_size;rw [h] at this;cases this),zhash_list⟩
end Go.Proofs.Ytbgpgdhndanigaa
/- Hashes and headers compared; loads behind a guard. -/
set_option linter.unusedSimpArgs false
set_option linter.unusedVariables false
namespace Go.Proofs.Ytbgpgdhndanigaa
open Go.RowKit
attribute [local go_sem ↓] Go.wp_at_zero Go.wp_at_succ
theorem HashA.cell {l : List UInt8} {cs : Array Value} (h : HashA l cs) : cs = (l.map Extern.Stop.cell).toArray:=h.e.symm
theorem u8_size (w : World) : (sizeOf 5).run Try.prog w = .ok 1 w:=by kernel_rfl
theorem hash_eqIn (d : Nat) {l m : List UInt8} {cs ds : Array Value} (h : HashA l cs) (g : HashA m ds) (hl : l.length = 32) (hm : m.length = 32) (w : World) :
  (Op.equalIn (d + 2) 27 (.agg cs) (.agg ds)).run Try.prog w = .ok (l == m) w:=by
 rw [h.cell,g.cell]
 exact run_equalIn_bytes w d _ 5 32 hash_under Try.underlying5 u8_size l m hl hm
theorem hash_eql {l m : List UInt8} {cs ds : Array Value} (h : HashA l cs) (g : HashA m ds) (hl : l.length = 32) (hm : m.length = 32) (w : World) :
  (Go.binOp .eql 27 (.agg cs) (.agg ds)).run Try.prog w = .ok (.bool (l == m)) w:=by
 rw [run_eql_struct,show (10000 : Nat) = 9998 + 2 from rfl,hash_eqIn 9998 h g hl hm]
 rfl
theorem hash_guard : Try.prog.eqGuardType Try.prog.depth 27 = false:=by kernel_rfl
def hdEq (a b : Hd) : Bool:=a.ver == b.ver && (a.prev == b.prev && (a.root == b.root && (a.time == b.time && (a.bits == b.bits && a.nonce == b.nonce))))
theorem hdEq_iff (a b : Hd) : hdEq a b = true ↔ a = b:=by
 unfold hdEq
 simp only [Bool.and_eq_true,beq_iff_eq]
 constructor
 ·rintro ⟨h1,h2,h3,h4,h5,h6⟩
  cases a;cases b
  simp only at h1 h2 h3 h4 h5 h6
  subst h1 h2 h3 h4 h5 h6
  rfl
 ·rintro rfl;exact ⟨rfl,rfl,rfl,rfl,rfl,rfl⟩
instance hdDec : DecidableEq Hd:=fun a b => decidable_of_iff _ (hdEq_iff a b)
theorem hd_guard : Try.prog.eqGuardType Try.prog.depth 30 = false:=by kernel_rfl
theorem hd_stood : Try.prog.stoodInHeld 30 = false:=by kernel_rfl
theorem hash_size (w : World) : (sizeOf 27).run Try.prog w = .ok 32 w:=by kernel_rfl
theorem hash_agg (w : World) : (isAgg 27).run Try.prog w = .ok true w:=by kernel_rfl
theorem part_hash (cs : Array Value) (off : Nat) (w : World) : (part 27 cs off).run Try.prog w = .ok (.agg (cs.extract off (off + 32))) w:=by
 simp only [part,Sem.run_bind,hash_agg,hash_size,Result.andThen_ok,if_true,Sem.run_pure]
theorem u32_agg (w : World) : (isAgg 22).run Try.prog w = .ok false w:=by kernel_rfl
theorem part_u32 {cs : Array Value} {off : Nat} {v : Value} (h : cs[off]? = some v) (w : World) : (part 22 cs off).run Try.prog w = .ok v w:=by
 simp only [part,Sem.run_bind,u32_agg,Result.andThen_ok,Bool.false_eq_true,if_false,h,Sem.run_pure]
theorem eq_u32 (d : Nat) (x y : UInt32) (w : World) : (Op.equalIn (d + 1) 22 (u32v x) (u32v y)).run Try.prog w = .ok (x == y) w:=by
 unfold u32v
 rw [run_equalIn_int w d _ .u32 .u32 _ _ Try.underlying22]
 congr 1
 rw [Bool.eq_iff_iff]
 simp [← UInt32.toNat_inj]
 exact Int.ofNat_inj
theorem part_of {cs : Array Value} {all : List Value} (hc : cs.toList = all) (off : Nat) {l : List UInt8} (hl : l.length = 32) (h : (all.drop off).take 32 = l.map u8v) : HashA l (cs.extract off (off + 32)):=by
 have e : cs.extract off (off + 32) = (l.map u8v).toArray:=by
  apply Array.ext'
  rw [Array.toList_extract,List.extract_eq_take_drop,hc,Nat.add_sub_cancel_left,h]
 rw [e];exact HashA.of hl
theorem HdA.parts {h : Hd} {cs : Array Value} (hA : HdA h cs) (hk : h.ok) : cs[0]? = some (u32v h.ver)∧HashA h.prev (cs.extract 1 33)∧HashA h.root (cs.extract 33 65)∧cs[65]? = some (u32v h.time)∧cs[66]? = some (u32v h.bits)∧cs[67]? = some (u32v h.nonce):=by
 have hg : ∀ k,cs[k]? = h.cells[k]?:=fun k => by rw [← hA.l,Array.getElem?_toList]
 refine ⟨(hg 0).trans rfl,part_of hA.l 1 hk.1 ?_,part_of hA.l 33 hk.2 ?_,(hg 65).trans (hd_tail hk 0),(hg 66).trans (hd_tail hk 1),(hg 67).trans (hd_tail hk 2)⟩
 ·unfold Hd.cells
  rw [List.drop_succ_cons,List.drop_zero,List.take_left' (by simp [hk.1])]
 ·unfold Hd.cells
  rw [List.drop_succ_cons,List.drop_left' (by simp [hk.1]),List.take_left' (by simp [hk.2])]
def eqF (P : Program) (d : Nat) (xs ys : Array Value) : List (Bool × TypeId × Nat) → Sem Bool
 | [] => pure true
 | f :: fs =>
   if f.1 = true then do
    let a ← part f.2.1 xs f.2.2
    let b ← part f.2.1 ys f.2.2
    let r ← Op.equalIn d f.2.1 a b
    if (!r) = true then pure false else eqF P d xs ys fs
   else eqF P d xs ys fs
theorem eqF_of (P : Program) (d : Nat) (xs ys : Array Value) : ∀ fs : List Field, Op.eqFields d xs ys fs = eqF P d xs ys (fs.map fun f => (f.name != "_", f.type, f.offset))
 | [] => rfl
 | f :: fs => by
   rw [List.map_cons,Op.eqFields,eqF,eqF_of P d xs ys fs]
   simp
theorem eqF_step {P : Program} {d : Nat} {xs ys : Array Value} {t : TypeId} {o : Nat} {fs : List (Bool × TypeId × Nat)} {a b : Value} {r s : Bool} {w : World} (ha : (part t xs o).run P w = .ok a w) (hb : (part t ys o).run P w = .ok b w)
  (hr : (Op.equalIn d t a b).run P w = .ok r w) (hs : (eqF P d xs ys fs).run P w = .ok s w) : (eqF P d xs ys ((true,t,o) :: fs)).run P w = .ok (r && s) w:=by
 rw [eqF,if_pos rfl]
 simp only [Sem.run_bind,ha,hb,hr,Result.andThen_ok]
 cases r
 ·simp
 ·simpa using hs
theorem hd_fields : ((Try.prog.fieldsOf 30).toList.map fun f => (f.name != "_", f.type, f.offset)) = [(true, 22, 0), (true, 27, 1), (true, 27, 33), (true, 22, 65), (true, 22, 66), (true, 22, 67)] := by kernel_rfl
theorem hd_struct : Try.prog.underlying 30 = some (.struct (Try.prog.fieldsOf 30)):=by kernel_rfl
theorem hd_eqIn (d : Nat) {h g : Hd} {cs ds : Array Value} (hc : HdA h cs) (hd : HdA g ds) (hk : h.ok) (gk : g.ok) (w : World) :
  (Op.equalIn (d + 3) 30 (.agg cs) (.agg ds)).run Try.prog w = .ok (hdEq h g) w:=by
 obtain ⟨a0,a1,a2,a3,a4,a5⟩:=hc.parts hk
 obtain ⟨b0,b1,b2,b3,b4,b5⟩:=hd.parts gk
 rw [run_equalIn_agg w (d + 2) _ _ _ hd_struct hd_stood,eqF_of Try.prog,hd_fields]
 have e : hdEq h g = (h.ver == g.ver && (h.prev == g.prev && (h.root == g.root && (h.time == g.time && (h.bits == g.bits && (h.nonce == g.nonce && true)))))):=by rw [Bool.and_true];rfl
 rw [e]
 refine eqF_step (part_u32 a0 w) (part_u32 b0 w) (eq_u32 _ _ _ w) (eqF_step (part_hash _ _ w) (part_hash _ _ w) (hash_eqIn d a1 b1 hk.1 gk.1 w) (eqF_step (part_hash _ _ w) (part_hash _ _ w) (hash_eqIn d a2 b2 hk.2 gk.2 w) (eqF_step (part_u32 a3 w) (part_u32 b3 w) (eq_u32 _ _ _ w) (eqF_step (part_u32 a4 w) (part_u32 b4 w) (eq_u32 _ _ _ w) (eqF_step (part_u32 a5 w) (part_u32 b5 w) (eq_u32 _ _ _ w) ?_)))))
 rw [eqF];rfl
theorem hd_eql {h g : Hd} {cs ds : Array Value} (hc : HdA h cs) (hd : HdA g ds) (hk : h.ok) (gk : g.ok) (w : World) :
  (Go.binOp .eql 30 (.agg cs) (.agg ds)).run Try.prog w = .ok (.bool (hdEq h g)) w:=by
 rw [run_eql_struct,show (10000 : Nat) = 9997 + 3 from rfl,hd_eqIn 9997 hc hd hk gk]
 rfl
theorem hd_neq {h g : Hd} {cs ds : Array Value} (hc : HdA h cs) (hd : HdA g ds) (hk : h.ok) (gk : g.ok) (w : World) :
  (Go.binOp .neq 30 (.agg cs) (.agg ds)).run Try.prog w = .ok (.bool (!hdEq h g)) w:=by
 rw [run_neq_struct,show (10000 : Nat) = 9997 + 3 from rfl,hd_eqIn 9997 hc hd hk gk]
 rfl
theorem load_partg {P : Program} {w : World} {ops : Array Oper} {rest : List Oper} {a : Act} {Q : Exit → Act → World → Prop} {x : Operand} {dst : Option Tmp} {ty ty' : TypeId} {pos : String} {af : Array Edge} {gd : Option (Nat × Bool)}
  (g off : Nat) (cs : Array Value) (hx : a.eval x = .pointer (some ⟨g,off,none⟩)) (hr : w.rangeAt g off cs.toList) (d : TypeDesc) (hu : P.underlying ty = some d) (hd : d.isRow = true) (hi : (P.info? ty).map (·.size) = some cs.size)
  (hw : Region.wanted { dst:=dst,op:=.load ty x,type:=ty',pos:=pos,after:=af,guard:=gd } (yielded ops a.tmps) = true)
  (h : wpList P ops Q rest (a.put dst (.agg cs)) w) : wpList P ops Q ({ dst:=dst,op:=.load ty x,type:=ty',pos:=pos,after:=af,guard:=gd } :: rest) a w:=by
 unfold wpList
 rw [if_pos hw]
 left
 exact wp_load_mid ty x rfl g off hx cs.toList d hr hu hd (by simpa using hi) h
theorem wpQuiet_load_partg {P : Program} {w0 : World} {ops : Array Oper} {rest : List Oper} {a : Act} {Q : Act → Prop} {x : Operand} {dst : Option Tmp} {ty ty' : TypeId} {pos : String} {af : Array Edge} {gd : Option (Nat × Bool)}
  (g off : Nat) (cs : Array Value) (hx : a.eval x = .pointer (some ⟨g,off,none⟩)) (hr : w0.rangeAt g off cs.toList) (d : TypeDesc) (hu : P.underlying ty = some d) (hd : d.isRow = true) (hi : (P.info? ty).map (·.size) = some cs.size)
  (hw : Region.wanted { dst:=dst,op:=.load ty x,type:=ty',pos:=pos,after:=af,guard:=gd } (yielded ops a.tmps) = true)
  (h : wpQuiet P ops (fun w' => ∃ x,w' = aft w0 x) Q rest (a.put dst (.agg cs))) :
  wpQuiet P ops (fun w' => ∃ x,w' = aft w0 x) Q ({ dst:=dst,op:=.load ty x,type:=ty',pos:=pos,after:=af,guard:=gd } :: rest) a:=by
 refine BigFrame.wpQuiet_want hw fun K hK => ⟨.agg cs,fun w hw => ?_,hK _ h⟩
 obtain ⟨y,rfl⟩:=hw
 unfold Oper.quietAt execOp
 have hl:=run_loadVar_mid (P:=P) (aft w0 y) g off ty cs.toList d (fun j v hv => keep_cell (aft_keep w0 y) (hr j v hv)) hu hd (by simpa using hi)
 simp only [hx,Instr.loadAt,Instr.sureAddr,Sem.run_bind,Sem.run_pure,Result.andThen_ok,hl,Array.toArray_toList]
 exact ⟨rfl,rfl⟩
end Go.Proofs.Ytbgpgdhndanigaa
/- A slice of one built; lists of 32. -/
set_option linter.unusedSimpArgs false
set_option linter.unusedVariables false
namespace Go.Proofs.Ytbgpgdhndanigaa
open Go.RowKit
attribute [local go_sem ↓] Go.wp_at_zero Go.wp_at_succ
theorem foldl_setb : ∀ (l : List Value) (k : Nat) (acc : Array Value),k + l.length = acc.size → (l.zipIdx k).foldl (fun cs x => cs.setIfInBounds (0 + x.2) x.1) acc = (acc.toList.take k ++ l).toArray
 | [],k,acc,h => by
   have : acc.toList.take k = acc.toList:=List.take_of_length_le (by simp at h ⊢;omega)
   simp [this]
 | v :: r,k,acc,h => by
   rw [List.zipIdx_cons,List.foldl_cons,foldl_setb r (k + 1) _ (by simp at h ⊢;omega)]
   have hk : k < acc.size:=by simp at h;omega
   congr 1
   rw [Array.toList_setIfInBounds,Nat.zero_add,List.take_succ_eq_append_getElem (by simpa using hk),List.getElem_set_self,List.take_set_of_le (Nat.le_refl _)]
   simp
theorem wp_build1b {P : Program} {t e : TypeId} {zc : Array Value} {size bytes : Nat} (T : ElT P t e (.agg zc) size bytes) {o : Oper} {a : Act} {w : World} {K : Act → World → Prop} {Q : Exit → Act → World → Prop} (x : Operand) (ho : o.op = .buildSlice t 1 #[(0,x)])
  (cs : Array Value) (hz : cs.size = size) (hsm : size ≤ 1000) (hx : a.eval x = .agg cs)
  (h : K (a.put o.dst (.slice (some ⟨w.heap.size,0,none⟩) 1 1)) (w.alloc (.cells cs e))) : o.wp P a w K Q:=by
 obtain ⟨i,hi,hiz,his,_⟩:=T.info
 have hzc : zc.size = size:=T.zs
 have hp:=T.pos
 refine wp_buildSlice t e 1 _ ho cs i (.agg zc) T.und hi hiz (by rw [his];omega) (by rw [his];omega) ?_ h
 have hc : (Value.agg cs).cells = cs:=rfl
 simp only [List.map_toArray,List.map_cons,List.map_nil,hx,Instr.fill,hc,his,hz,Nat.zero_mul,Nat.one_mul]
 rw [if_neg (by simp)]
 congr 1
 rw [← Array.foldl_toList,Array.toList_zipIdx]
 have hf:=foldl_setb cs.toList 0 ((Array.range size).map fun j => zc[j % zc.size]!) (by simp [hz])
 simp only [List.take_zero,List.nil_append,Array.toArray_toList] at hf
 exact hf
set_option maxRecDepth 100000 in
theorem headTb : ElT Try.prog 24 30 (Value.agg zhead) 68 80:=ElT.mk' Try.underlying24 (by kernel_rfl) zhead_size (by omega)
set_option maxRecDepth 100000 in
theorem list32b {l : List UInt8} (h : l.length = 32) : ∃ a0 a1 a2 a3 a4 a5 a6 a7 a8 a9 b0 b1 b2 b3 b4 b5 b6 b7 b8 b9 c0 c1 c2 c3 c4 c5 c6 c7 c8 c9 d0 d1 : UInt8,l = [a0,a1,a2,a3,a4,a5,a6,a7,a8,a9,b0,b1,b2,b3,b4,b5,b6,b7,b8,b9,c0,c1,c2,c3,c4,c5,c6,c7,c8,c9,d0,d1]:=by
 match l,h with
 | [a0,a1,a2,a3,a4,a5,a6,a7,a8,a9,b0,b1,b2,b3,b4,b5,b6,b7,b8,b9,c0,c1,c2,c3,c4,c5,c6,c7,c8,c9,d0,d1],_ => exact ⟨a0,a1,a2,a3,a4,a5,a6,a7,a8,a9,b0,b1,b2,b3,b4,b5,b6,b7,b8,b9,c0,c1,c2,c3,c4,c5,c6,c7,c8,c9,d0,d1,rfl⟩
theorem heads_at {w : World} {B : Option Addr} {l : List Hd} (hr : Rd w B (l.flatMap Hd.cells)) (hk : ∀ h ∈ l,h.ok) {k : Nat} (h : k < l.length) :
  ∃ b off,B = some ⟨b,off,none⟩∧b < w.heap.size∧w.rangeAt b (off + k * 68) l[k].cells:=by
 have hlen : ∀ a ∈ l,a.cells.length = 68:=fun a ha => Hd.len (hk a ha)
 obtain ⟨b,off,rfl,hb,F⟩:=hr.at (k:=k * 68) (by rw [flatMap_len' _ 68 _ hlen];omega)
 refine ⟨b,off,rfl,hb,fun j v hv => ?_⟩
 have hj : j < 68:=by rw [← hlen l[k] (List.getElem_mem h)];exact (List.getElem?_eq_some_iff.1 hv).1
 have hg:=flatMap_get' Hd.cells 68 l hlen k j h hj
 have hlt : k * 68 + j < (l.flatMap Hd.cells).length:=by rw [flatMap_len' _ 68 _ hlen];omega
 have hc:=F (k * 68 + j) hlt
 rw [Nat.add_assoc,hc,← hv,← hg,List.getElem?_eq_getElem hlt]
end Go.Proofs.Ytbgpgdhndanigaa
/- Rows of hashes. -/
set_option linter.unusedSimpArgs false
set_option linter.unusedVariables false
namespace Go.Proofs.Ytbgpgdhndanigaa
open Go.RowKit
attribute [local go_sem ↓] Go.wp_at_zero Go.wp_at_succ
set_option maxRecDepth 100000 in
theorem hashTb : ElT Try.prog 25 27 (Value.agg zhash) 32 32:=ElT.mk' Try.underlying25 (by kernel_rfl) zhash_size (by omega)
theorem list_build1h {P : Program} {t e : TypeId} {zc : Array Value} {size bytes : Nat} (T : ElT P t e (.agg zc) size bytes) {ops : Array Oper} {rest : List Oper} {a : Act} {w : World} {Q : Exit → Act → World → Prop} {x : Operand} {dst : Option Tmp} {ty' : TypeId} {pos : String} {af : Array Edge}
  (cs : Array Value) (hz : cs.size = size) (hsm : size ≤ 1000) (hx : a.eval x = .agg cs)
  (h : wpList P ops Q rest (a.put dst (.slice (some ⟨w.heap.size,0,none⟩) 1 1)) (w.alloc (.cells cs e))) : wpList P ops Q ({ dst:=dst,op:=.buildSlice t 1 #[(0,x)],type:=ty',pos:=pos,after:=af,guard:=none } :: rest) a w :=
 wpList_plain rfl fun _ hK => wp_build1b T x rfl cs hz hsm hx (hK _ _ h)
def hsL (l : List (List UInt8)) : List Value:=l.flatMap fun h => h.map u8v
theorem hsL_snoc (l : List (List UInt8)) (h : List UInt8) : hsL (l ++ [h]) = hsL l ++ h.map u8v:=by simp [hsL]
theorem hash_at {w : World} {B : Option Addr} {l : List (List UInt8)} (hr : Rd w B (hsL l)) (hk : ∀ h ∈ l,h.length = 32) {k : Nat} (h : k < l.length) :
  ∃ b off,B = some ⟨b,off,none⟩∧b < w.heap.size∧w.rangeAt b (off + k * 32) (l[k].map u8v):=by
 have hlen : ∀ a ∈ l,(a.map u8v).length = 32:=fun a ha => by rw [List.length_map];exact hk a ha
 unfold hsL at hr
 obtain ⟨b,off,rfl,hb,F⟩:=hr.at (k:=k * 32) (by rw [flatMap_len' _ 32 _ hlen];omega)
 refine ⟨b,off,rfl,hb,fun j v hv => ?_⟩
 have hj : j < 32:=by rw [← hlen l[k] (List.getElem_mem h)];exact (List.getElem?_eq_some_iff.1 hv).1
 have hg:=flatMap_get' (fun a : List UInt8 => a.map u8v) 32 l hlen k j h hj
 have hlt : k * 32 + j < (l.flatMap fun a => a.map u8v).length:=by rw [flatMap_len' _ 32 _ hlen];omega
 have hc:=F (k * 32 + j) hlt
 rw [Nat.add_assoc,hc,← hv,← hg,List.getElem?_eq_getElem hlt]
theorem list_bldg {P : Program} {w : World} {ops : Array Oper} {rest : List Oper} {a : Act} {Q : Exit → Act → World → Prop} {parts : Array (Nat × Operand)} {dst : Option Tmp} {t ty' : TypeId} {pos : String} {af : Array Edge} {gd : Option (Nat × Bool)}
  (ps : List (Nat × Value)) (cells : Array Value) (hx : (parts.toList.map fun p => (p.1,a.eval p.2)) = ps) (hb : P.built t ps = some cells)
  (hw : Region.wanted { dst:=dst,op:=.build t parts,type:=ty',pos:=pos,after:=af,guard:=gd } (yielded ops a.tmps) = true)
  (h : wpList P ops Q rest (a.put dst (.agg cells)) w) : wpList P ops Q ({ dst:=dst,op:=.build t parts,type:=ty',pos:=pos,after:=af,guard:=gd } :: rest) a w:=by
 unfold wpList
 rw [if_pos hw]
 left
 exact wp_build t parts rfl (by rw [show (parts.map fun (i,x) => (i,a.eval x)).toList = ps by rw [Array.toList_map];exact hx,hb];rfl) (by rw [show (parts.map fun (i,x) => (i,a.eval x)).toList = ps by rw [Array.toList_map];exact hx,hb];exact h)
end Go.Proofs.Ytbgpgdhndanigaa
