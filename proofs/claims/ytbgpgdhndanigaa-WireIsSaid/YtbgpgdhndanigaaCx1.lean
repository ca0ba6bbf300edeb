/- Texts merged by pack.py: Vp, Base, Rgn, Byt, Seq, Mov, Va, Vb, Vc. -/
import Derived.Test.YtbgpgdhndanigaaProg
import Derived.WalkKit
import Derived.WalkSpells
import Derived.WalkLawsBesides
import Derived.BigQuiet
import Derived.Deep.AppendLies
import Derived.Maps.AppendAt
import Derived.Laws.CopyOwn
import Derived.Lib.Hide
import Derived.Deep.QuietTactic
import Derived.Test.YtbgpgdhndanigaaRows
import Derived.Deep.RegionHeld3
import Derived.Deep.DrawnRows
import Derived.Deep.DeepCutAuto
import Derived.Deep.RegionLaw
import Derived.OrdersHeld
/- Numbers as bytes, the lowest first, and numbers of as few bytes as they need: plain. -/
set_option linter.unusedSimpArgs false
set_option linter.unusedVariables false
namespace Go.Proofs.Ytbgpgdhndanigaa
def loN (n k : Nat) : List UInt8:=(List.range k).map fun i => UInt8.ofNat (n / 2 ^ (8 * i))
theorem lo_len (n k : Nat) : (loN n k).length = k:=by simp [loN]
theorem lo_zero (n : Nat) : loN n 0 = []:=rfl
theorem lo_succ (n k : Nat) : loN n (k + 1) = loN n k ++ [UInt8.ofNat (n / 2 ^ (8 * k))]:=by
 unfold loN;rw [List.range_succ,List.map_append];rfl
theorem lo_get (n : Nat) {k i : Nat} (h : i < k) : (loN n k)[i]? = some (UInt8.ofNat (n / 2 ^ (8 * i))):=by
 unfold loN;rw [List.getElem?_map,List.getElem?_range h];rfl
def numN (b : List UInt8) : Nat → Nat
 | 0 => 0
 | k + 1 => numN b k + (b.getD k 0).toNat * 2 ^ (8 * k)
theorem pow8 (k : Nat) : (2 : Nat) ^ (8 * (k + 1)) = 256 * 2 ^ (8 * k):=by rw [Nat.mul_succ,Nat.pow_add];omega
theorem numN_lt (b : List UInt8) : ∀ k,numN b k < 2 ^ (8 * k)
 | 0 => by simp [numN]
 | k + 1 => by
   have ih:=numN_lt b k
   have hy:=(b.getD k 0).toNat_lt
   rw [numN,pow8]
   have h1 : (b.getD k 0).toNat * 2 ^ (8 * k) ≤ 255 * 2 ^ (8 * k):=Nat.mul_le_mul_right _ (by omega)
   omega
theorem numN_digit (b : List UInt8) : ∀ k i,i < k → numN b k / 2 ^ (8 * i) % 256 = (b.getD i 0).toNat
 | 0,i,h => absurd h (Nat.not_lt_zero _)
 | k + 1,i,h => by
   have hb:=(b.getD i 0).toNat_lt
   by_cases e : i = k
   ·subst e
    rw [numN,Nat.add_mul_div_right _ _ (Nat.two_pow_pos _),Nat.div_eq_of_lt (numN_lt b i)]
    omega
   ·have hk : (2 : Nat) ^ (8 * k) = 256 * 2 ^ (8 * (k - i - 1)) * 2 ^ (8 * i):=by
     rw [Nat.mul_assoc,← Nat.pow_add,show (256 : Nat) = 2 ^ 8 from rfl,← Nat.pow_add]
     congr 1;omega
    rw [numN,hk,← Nat.mul_assoc,Nat.add_mul_div_right _ _ (Nat.two_pow_pos _),← Nat.mul_assoc,Nat.mul_right_comm,Nat.add_mul_mod_self_right]
    exact numN_digit b k i (by omega)
theorem lo_numN {b : List UInt8} {k : Nat} (h : k ≤ b.length) : loN (numN b k) k = b.take k:=by
 apply List.ext_getElem?
 intro i
 by_cases hi : i < k
 ·rw [lo_get _ hi,List.getElem?_take_of_lt hi,List.getElem?_eq_getElem (show i < b.length by omega)]
  congr 1
  apply UInt8.toNat_inj.1
  rw [UInt8.toNat_ofNat',numN_digit b k i hi,List.getD_eq_getElem?_getD,List.getElem?_eq_getElem (show i < b.length by omega)]
  rfl
 ·rw [List.getElem?_eq_none (by rw [lo_len];omega),List.getElem?_eq_none (by rw [List.length_take];omega)]
def sizN (n : Nat) : Nat:=if n < 253 then 1 else if n < 65536 then 3 else if n < 4294967296 then 5 else 9
def cptL (n : Nat) : List UInt8:=if n < 253 then [UInt8.ofNat n] else if n < 65536 then 253 :: loN n 2 else if n < 4294967296 then 254 :: loN n 4 else 255 :: loN n 8
theorem cpt_len (n : Nat) : (cptL n).length = sizN n:=by
 unfold cptL sizN
 split
 ·rfl
 ·split
  ·simp [lo_len]
  ·split <;> simp [lo_len]
theorem siz_le (n : Nat) : 1 ≤ sizN n∧sizN n ≤ 9:=by unfold sizN;split <;> (try split) <;> (try split) <;> omega
def behN (x : UInt8) : Nat:=if x = 253 then 2 else if x = 254 then 4 else if x = 255 then 8 else 0
def cgetN : List UInt8 → Nat × Nat × Int
 | [] => (0,0,1)
 | x :: t => if behN x = 0 then (x.toNat,1,0) else if t.length < behN x then (0,0,1) else if sizN (numN t (behN x)) = 1 + behN x then (numN t (behN x),1 + behN x,0) else (0,0,2)
theorem cget_cons (x : UInt8) (t : List UInt8) : cgetN (x :: t) = if behN x = 0 then (x.toNat,1,0) else if t.length < behN x then (0,0,1) else if sizN (numN t (behN x)) = 1 + behN x then (numN t (behN x),1 + behN x,0) else (0,0,2):=rfl
theorem beh_cases (x : UInt8) : (behN x = 0∧x.toNat < 253) ∨ (x = 253∧behN x = 2) ∨ (x = 254∧behN x = 4) ∨ (x = 255∧behN x = 8):=by
 unfold behN
 by_cases h1 : x = 253
 ·subst h1;exact .inr (.inl ⟨rfl,rfl⟩)
 ·by_cases h2 : x = 254
  ·subst h2;exact .inr (.inr (.inl ⟨rfl,rfl⟩))
  ·by_cases h3 : x = 255
   ·subst h3;exact .inr (.inr (.inr ⟨rfl,rfl⟩))
   ·left
    rw [if_neg h1,if_neg h2,if_neg h3]
    have e1 : x.toNat ≠ 253:=fun e => h1 (UInt8.toNat_inj.1 e)
    have e2 : x.toNat ≠ 254:=fun e => h2 (UInt8.toNat_inj.1 e)
    have e3 : x.toNat ≠ 255:=fun e => h3 (UInt8.toNat_inj.1 e)
    have:=x.toNat_lt
    exact ⟨rfl,by omega⟩
theorem ofNat_toNat8 (x : UInt8) : UInt8.ofNat x.toNat = x:=UInt8.toNat_inj.1 (by rw [UInt8.toNat_ofNat'];have:=x.toNat_lt;omega)
theorem cget_once {b : List UInt8} {n k : Nat} (h : cgetN b = (n,k,0)) : k ≤ b.length∧b.take k = cptL n∧k = sizN n∧n < 2 ^ 64:=by
 cases b with
 | nil => unfold cgetN at h;cases h
 | cons x t =>
   rw [cget_cons] at h
   rcases beh_cases x with ⟨q,hx⟩ | ⟨q,hb⟩ | ⟨q,hb⟩ | ⟨q,hb⟩
   ·rw [if_pos q] at h
    obtain ⟨rfl,rfl,-⟩ : x.toNat = n∧1 = k∧True:=by simpa using h
    refine ⟨by simp,?_,?_,by omega⟩
    ·unfold cptL;rw [if_pos hx,ofNat_toNat8];rfl
    ·unfold sizN;rw [if_pos hx]
   all_goals
    have hlt:=numN_lt t (behN x)
    have hln : behN x ≤ t.length → loN (numN t (behN x)) (behN x) = t.take (behN x):=fun h => lo_numN h
    rw [hb] at h hlt hln
    rw [if_neg (by omega)] at h
    split at h
    ·cases h
    ·rename_i hl
     split at h
     ·rename_i hs
      have hln:=hln (by omega)
      have e1:=(Prod.mk.inj h).1
      have e2:=(Prod.mk.inj (Prod.mk.inj h).2).1
      subst e2
      rw [e1] at hs hlt hln
      refine ⟨by simp;omega,?_,hs.symm,by simp at hlt ⊢;omega⟩
      subst q
      unfold sizN at hs
      unfold cptL
      by_cases h1 : n < 253
      ·rw [if_pos h1] at hs;omega
      ·rw [if_neg h1] at hs ⊢
       by_cases h2 : n < 65536
       ·rw [if_pos h2] at hs ⊢
        first | omega | (rw [hln,Nat.add_comm,List.take_succ_cons])
       ·rw [if_neg h2] at hs ⊢
        by_cases h3 : n < 4294967296
        ·rw [if_pos h3] at hs ⊢
         first | omega | (rw [hln,Nat.add_comm,List.take_succ_cons])
        ·rw [if_neg h3] at hs ⊢
         first | omega | (rw [hln,Nat.add_comm,List.take_succ_cons])
     ·cases h
def bndN (b : List UInt8) (most : Nat) : Nat × Nat × Int :=
 if (cgetN b).2.2 = 0 then if most < (cgetN b).1 ∨ 2147483647 < (cgetN b).1 then (0,0,3) else cgetN b else (0,0,(cgetN b).2.2)
def bytN (b : List UInt8) (most : Nat) : List UInt8 × Nat × Int :=
 if (bndN b most).2.2 = 0 then if b.length - (bndN b most).2.1 < (bndN b most).1 then ([],0,1) else ((b.drop (bndN b most).2.1).take (bndN b most).1,(bndN b most).2.1 + (bndN b most).1,0) else ([],0,(bndN b most).2.2)
end Go.Proofs.Ytbgpgdhndanigaa
/- Words for memory that every walk of this seat uses: a slice that reads as a list of cells, a step from world to world that leaves what was there, appends onto a row of the call's own. -/
set_option linter.unusedSimpArgs false
set_option linter.unusedVariables false
namespace Go.Proofs.Ytbgpgdhndanigaa
open Go.RowKit
theorem add_lit0 (b off j : Nat) : (⟨b,off,none⟩ : Addr).add j = ⟨b,off + j,none⟩:=by
 unfold Addr.add;split <;> simp_all
def Rd (w : World) (A : Option Addr) (xs : List Value) : Prop :=
 xs = [] ∨ ∃ b off,A = some ⟨b,off,none⟩∧∀ j (h : j < xs.length),w.cell? ⟨b,off + j,none⟩ = some xs[j]
theorem cell_lt {w : World} {b o : Nat} {v : Value} (h : w.cell? ⟨b,o,none⟩ = some v) : b < w.heap.size:=World.block_lt_of_cell? w _ h
abbrev Keep (w w' : World) : Prop:=Below w.heap.size w w'
section
variable {w w' : World} {A : Option Addr} {xs ys : List Value}
theorem Rd.nil (w : World) (A : Option Addr) : Rd w A []:=.inl rfl
theorem Rd.at (h : Rd w A xs) {k : Nat} (hk : k < xs.length) : ∃ b off,A = some ⟨b,off,none⟩∧b < w.heap.size∧∀ j (h : j < xs.length),w.cell? ⟨b,off + j,none⟩ = some xs[j]:=by
 rcases h with rfl | ⟨b,off,rfl,hc⟩
 ·simp at hk
 ·exact ⟨b,off,rfl,cell_lt (hc k hk),hc⟩
theorem Rd.mono (h : Rd w A xs) (hk : ∀ b o v,w.cell? ⟨b,o,none⟩ = some v → w'.cell? ⟨b,o,none⟩ = some v) : Rd w' A xs:=by
 rcases h with rfl | ⟨b,off,rfl,hc⟩
 ·exact .inl rfl
 ·exact .inr ⟨b,off,rfl,fun j hj => hk _ _ _ (hc j hj)⟩
theorem Rd.keep (h : Rd w A xs) (hb : Keep w w') : Rd w' A xs :=
 h.mono fun b o v hv => by rw [hb.cell (p:=⟨b,o,none⟩) (cell_lt hv)];exact hv
theorem keep_grown {w wr w1 : World} {base : Nat} {e : TypeId} {size : Nat} {v : Value} {n : Nat} {xs : List Value} (hk : Below base w wr) (hs : base ≤ wr.heap.size) (hg : wr.grownBy w1 v.ownBlock)
  (hown : wr.ownsRow base e size v n xs) : Below base w w1:=hk.grown hg hs fun k hk => (hown.lt k hk).1
theorem keep_cell {w w' : World} (hk : Keep w w') {b o : Nat} {v : Value} (h : w.cell? ⟨b,o,none⟩ = some v) : w'.cell? ⟨b,o,none⟩ = some v :=
 (hk.cell (p:=⟨b,o,none⟩) (cell_lt h)).trans h
theorem keep_trans {a b c : World} (h : Keep a b) (k : Keep b c) : Keep a c:=h.trans (k.mono h.size)
theorem box_cell (w : World) (cs : Array Value) (t : TypeId) (j : Nat) : (w.alloc (.cells cs t)).cell? ⟨w.heap.size,j,none⟩ = cs[j]? :=
 cell_of_row _ _ _ _ _ (0,0) (heap_alloc_new w _)
theorem own_keep {w w' : World} {base : Nat} {e : TypeId} {size : Nat} {v : Value} {n : Nat} {xs : List Value} (h : w.ownsRow base e size v n xs) (hk : Keep w w') : w'.ownsRow base e size v n xs :=
 h.kept ⟨hk.os,hk.tape,hk.output,hk.size,fun k hl _ => hk.block k hl⟩ (row:=none) (by cases hv : v.ownBlock <;> simp)
theorem grown_cell {w w' : World} {row : Option Nat} (hg : w.grownBy w' row) {b o : Nat} {v : Value} (h : w.cell? ⟨b,o,none⟩ = some v) (hne : row ≠ some b) : w'.cell? ⟨b,o,none⟩ = some v :=
 (hg.cell_far _ (cell_lt h) (Ne.symm hne)).trans h
theorem own_ne {w : World} {base : Nat} {e : TypeId} {size : Nat} {v : Value} {n : Nat} {xs : List Value} (h : w.ownsRow base e size v n xs) {b : Nat} (hb : w.heap.size ≤ b) : v.ownBlock ≠ some b :=
 fun e => by have:=(h.lt b e).2;omega
theorem own_eq {w : World} {base : Nat} {e : TypeId} {size : Nat} {v : Value} {n n' : Nat} {xs xs' : List Value} (h : w.ownsRow base e size v n xs) (hn : n = n') (hx : xs = xs') : w.ownsRow base e size v n' xs':=hn ▸ hx ▸ h
theorem own_form {w : World} {base : Nat} {e : TypeId} {size : Nat} {v : Value} {n : Nat} {xs : List Value} (h : w.ownsRow base e size v n xs) :
  ∃ A c,v = .slice A n c∧n ≤ c∧c ≤ maxLen∧Rd w A xs:=by
 rcases h.2 with ⟨rfl,rfl⟩ | ⟨g,cap,cur,rfl,hb,hg,h1,h2,h3,h4⟩
 ·exact ⟨none,0,rfl,Nat.le_refl _,Nat.zero_le _,.inl (List.eq_nil_of_length_eq_zero (by simpa using h.1))⟩
 ·refine ⟨_,cap,rfl,h1,h2,.inr ⟨g,0,rfl,fun j hj => ?_⟩⟩
  have:=h.cells (g:=g) rfl j _ (List.getElem?_eq_getElem hj)
  rwa [add_lit0] at this
theorem Rd.drew (h : Rd w A xs) : Rd w.drew A xs:=h
theorem Rd.alloc (h : Rd w A xs) (o : Obj) : Rd (w.alloc o) A xs:=h.keep ((Below.refl _ _).alloc (Nat.le_refl _) o)
end
theorem ret_int {k : IntKind} {a b : Int} (h : a = b) : Ending.returned (.int k a) = .returned (.int k b):=by rw [h]
theorem byte_i64 (x : UInt8) : IntKind.i64.wrap x.toNat = x.toNat:=IntWalk.i64_in _ (by have:=x.toNat_lt;omega)
theorem byte_w64 (x : UInt8) : wrap64 x.toNat = x.toNat:=IntWalk.wrap64_in _ (by have:=x.toNat_lt;omega)
attribute [go_sem] byte_i64 byte_w64
abbrev u8v (x : UInt8) : Value:=.int .u8 x.toNat
abbrev u32v (x : UInt32) : Value:=.int .u32 x.toNat
abbrev iv (n : Int) : Value:=.int .i64 n
abbrev u64v (n : Nat) : Value:=.int .u64 n
theorem flatMap_len {α β : Type} (f : α → List β) (size : Nat) (hf : ∀ a,(f a).length = size) (l : List α) : (l.flatMap f).length = l.length * size:=by
 induction l with
 | nil => simp
 | cons a l ih => simp [hf,ih,Nat.add_mul];omega
theorem flatMap_get {α β : Type} (f : α → List β) (size : Nat) (hf : ∀ a,(f a).length = size) (l : List α) (i j : Nat) (hi : i < l.length) (hj : j < size) :
  (l.flatMap f)[i * size + j]? = (f l[i])[j]?:=by
 induction l generalizing i with
 | nil => simp at hi
 | cons a l ih =>
   cases i with
   | zero => simp [List.getElem?_append_left (show j < (f a).length by rw [hf];exact hj)]
   | succ i =>
     have h:=ih i (by simpa using hi)
     simp only [List.flatMap_cons,List.getElem_cons_succ]
     rw [List.getElem?_append_right (by rw [hf,Nat.succ_mul];omega),hf,show (i + 1) * size + j - size = i * size + j from by rw [Nat.succ_mul];omega]
     exact h
theorem flatMap_len' {α β : Type} (f : α → List β) (size : Nat) (l : List α) (hf : ∀ a ∈ l,(f a).length = size) : (l.flatMap f).length = l.length * size:=by
 induction l with
 | nil => simp
 | cons a l ih =>
   have:=ih fun b hb => hf b (by simp [hb])
   simp [hf a (by simp),Nat.add_mul];simp at this;omega
theorem flatMap_get' {α β : Type} (f : α → List β) (size : Nat) (l : List α) (hf : ∀ a ∈ l,(f a).length = size) (i j : Nat) (hi : i < l.length) (hj : j < size) :
  (l.flatMap f)[i * size + j]? = (f l[i])[j]?:=by
 induction l generalizing i with
 | nil => simp at hi
 | cons a l ih =>
   have ha:=hf a (by simp)
   cases i with
   | zero => simp [List.getElem?_append_left (show j < (f a).length by rw [ha];exact hj)]
   | succ i =>
     have h:=ih (fun b hb => hf b (by simp [hb])) i (by simpa using hi)
     simp only [List.flatMap_cons,List.getElem_cons_succ]
     rw [List.getElem?_append_right (by rw [ha,Nat.succ_mul];omega),ha,show (i + 1) * size + j - size = i * size + j from by rw [Nat.succ_mul];omega]
     exact h
theorem add_add' (a : Addr) (i j : Nat) : (a.add i).add j = a.add (i + j):=by
 unfold Addr.add
 by_cases hi : i = 0 <;> by_cases hj : j = 0 <;> simp [hi,hj,Nat.add_assoc]
theorem Rd.field {α : Type} {w : World} {b off size : Nat} {f : α → List Value} (hf : ∀ a,(f a).length = size) {l : List α}
  (h : ∀ j (h : j < (l.flatMap f).length),w.cell? ⟨b,off + j,none⟩ = some (l.flatMap f)[j]) (i j : Nat) (hi : i < l.length) (hj : j < size) :
  w.cell? ⟨b,off + i * size + j,none⟩ = (f l[i])[j]?:=by
 have hl:=flatMap_len f size hf l
 have hlt : i * size + j < (l.flatMap f).length:=by
  rw [hl]
  calc i * size + j < i * size + size:=by omega
   _ = (i + 1) * size:=by rw [Nat.succ_mul]
   _ ≤ l.length * size:=Nat.mul_le_mul_right _ hi
 have:=h (i * size + j) hlt
 rw [Nat.add_assoc,this,← flatMap_get f size hf l i j hi hj,List.getElem?_eq_getElem hlt]
structure ElT (P : Program) (t e : TypeId) (z : Value) (size bytes : Nat) : Prop where
 und : P.underlying t = some (.slice e)
 info : ∃ i,P.info? e = some i∧i.zero = some z∧i.size = size∧i.bytes = bytes
 zs : z.cells.size = size
 pos : 0 < size
theorem ElT.mk' {P : Program} {t e : TypeId} {z : Value} {size bytes : Nat} (h1 : P.underlying t = some (.slice e)) (h2 : (P.info? e).map (fun i => (i.zero,i.size,i.bytes)) = some (some z,size,bytes))
  (h3 : z.cells.size = size) (h4 : 0 < size) : ElT P t e z size bytes:=by
 obtain ⟨i,hi,a,b,c⟩:=info_parts h2
 exact ⟨h1,⟨i,hi,a,b,c⟩,h3,h4⟩
section
variable {P : Program} {t e : TypeId} {z : Value} {size bytes : Nat}
theorem Rd.run_append (T : ElT P t e z size bytes) (w : World) (base : Nat) (ty : TypeId) (v : Value) (n : Nat) (xs : List Value) (hown : w.ownsRow base e size v n xs)
  (A : Option Addr) (m c : Nat) (news : List Value) (hl : news.length = m * size) (hr : Rd w A news) (h1 : ∀ u ∈ news,u.oneCell' = true)
  (hb : (n + m) * bytes ≤ 140737488355328) (h63 : n + m ≤ maxLen) (hbase : base ≤ w.heap.size) :
  ∃ v' w',(Builtin.append_ #[t,t] ty #[v,.slice A m c]).run P w = .ok v' w'∧w'.ownsRow base e size v' (n + m) (xs ++ news)∧w.grownBy w' v.ownBlock ∧
    (v'.ownBlock = v.ownBlock ∨ v'.ownBlock = some w.heap.size):=by
 obtain ⟨i,hi,hz,hsz,hby⟩:=T.info
 by_cases hm : m = 0
 ·subst hm
  obtain rfl : news = []:=List.eq_nil_of_length_eq_zero (by simpa using hl)
  refine ⟨v,w,?_,by simpa using hown,World.grownBy.refl w _,.inl rfl⟩
  rcases hown.2 with ⟨rfl,rfl⟩ | ⟨g,cap,cur,rfl,_,_,hnc,_⟩ <;> cases A <;>
   simp [Builtin.append_,run_underlying T.und,sizeOf,typeInfo,Builtin.lenOf,Builtin.firstCells,loadCells,loadCellsFrom,storeCells, *]
 ·have hpos : 0 < m * size:=Nat.mul_pos (by omega) T.pos
  rcases hr with rfl | ⟨b,off,rfl,hc⟩
  ·simp at hl;omega
  ·obtain ⟨v',w',hrun,h2,h3,_,h5⟩:=run_append_own_at (P:=P) w base t ty e i z size bytes T.und hi hz hsz hby T.zs T.pos v n xs hown ⟨b,off,none⟩ m c news hl
    (fun j u hu => by
     obtain ⟨hj,rfl⟩:=List.getElem?_eq_some_iff.1 hu
     rw [add_lit0];exact hc j hj) h1 h63 hb hbase
   exact ⟨v',w',hrun,h2,h3,h5⟩
theorem wp_app (T : ElT P t e z size bytes) {w : World} {o : Oper} {a : Act} {K : Act → World → Prop} {Q : Exit → Act → World → Prop} (s x : Operand)
  (ho : o.op = .call { callee:=.builtin .append,args:=#[s,x],argTypes:=#[t,t] }) (base : Nat)
  (v : Value) (n : Nat) (xs : List Value) (hs : a.eval s = v) (hown : w.ownsRow base e size v n xs)
  (A : Option Addr) (m c : Nat) (news : List Value) (hx : a.eval x = .slice A m c) (hl : news.length = m * size) (hr : Rd w A news) (h1 : ∀ u ∈ news,u.oneCell' = true)
  (hb : (n + m) * bytes ≤ 140737488355328) (h63 : n + m ≤ maxLen) (hbase : base ≤ w.heap.size)
  (h : ∀ v' w',w'.ownsRow base e size v' (n + m) (xs ++ news) → w.grownBy w' v.ownBlock → (v'.ownBlock = v.ownBlock ∨ v'.ownBlock = some w.heap.size) → K (a.put o.dst v') w') : o.wp P a w K Q:=by
 obtain ⟨v',w',hrun,h2,h3,h4⟩:=Rd.run_append T w base o.type v n xs hown A m c news hl hr h1 hb h63 hbase
 unfold Oper.wp execOp
 simp only [ho,resolve,invoke,builtin,Sem.run_bind,Sem.run_pure,Result.andThen_ok,List.map_toArray,List.map_cons,List.map_nil,hs,hx,hrun]
 exact h v' w' h2 h3 h4
theorem wpList_app (T : ElT P t e z size bytes) {w : World} {ops : Array Oper} {rest : List Oper} {o : Oper} {a : Act} {Q : Exit → Act → World → Prop} (hgd : o.guard = none) (s x : Operand)
  (ho : o.op = .call { callee:=.builtin .append,args:=#[s,x],argTypes:=#[t,t] }) (base : Nat)
  (v : Value) (n : Nat) (xs : List Value) (hs : a.eval s = v) (hown : w.ownsRow base e size v n xs)
  (A : Option Addr) (m c : Nat) (news : List Value) (hx : a.eval x = .slice A m c) (hl : news.length = m * size) (hr : Rd w A news) (h1 : ∀ u ∈ news,u.oneCell' = true)
  (hb : (n + m) * bytes ≤ 140737488355328) (h63 : n + m ≤ maxLen) (hbase : base ≤ w.heap.size)
  (h : ∀ v' w',w'.ownsRow base e size v' (n + m) (xs ++ news) → w.grownBy w' v.ownBlock → (v'.ownBlock = v.ownBlock ∨ v'.ownBlock = some w.heap.size) → wpList P ops Q rest (a.put o.dst v') w') : wpList P ops Q (o :: rest) a w :=
 wpList_plain hgd fun _ hK => wp_app T s x ho base v n xs hs hown A m c news hx hl hr h1 hb h63 hbase fun v' w' h2 h3 h4 => hK _ _ (h v' w' h2 h3 h4)
end
theorem Rd.new (w : World) (cs : List Value) (t : TypeId) : Rd (w.alloc (.cells cs.toArray t)) (some ⟨w.heap.size,0,none⟩) cs:=by
 refine .inr ⟨_,_,rfl,fun j hj => ?_⟩
 rw [cell_of_row _ _ _ _ _ (0,0) (heap_alloc_new w _)]
 simp
section
variable {P : Program} {t e : TypeId} {z : Value} {bytes : Nat}
theorem wp_cpy (T : ElT P t e z 1 bytes) {w : World} {o : Oper} {a : Act} {K : Act → World → Prop} {Q : Exit → Act → World → Prop} (d x : Operand)
  (ho : o.op = .call { callee:=.builtin .copy,args:=#[d,x],argTypes:=#[t,t] }) (g off dLen dCap : Nat) (hd : a.eval d = .slice (some ⟨g,off,none⟩) dLen dCap)
  (A : Option Addr) (n c : Nat) (xs : List Value) (hx : a.eval x = .slice A n c) (hn : xs.length = n) (hr : Rd w A xs) (h1 : ∀ u ∈ xs,u.oneCell' = true)
  (cur : List Value) (t' : TypeId) (hg : w.heap[g]? = some (.cells cur.toArray t' (0,0))) (hfit : off + min n dLen ≤ cur.length)
  (h : ∀ w',Hid (w'.heap[g]? = some (.cells (splice cur off (xs.take dLen)).toArray t' (0,0))) → w.grownBy w' (some g) → K (a.put o.dst (.int .i64 (min n dLen : Nat))) w') : o.wp P a w K Q:=by
 have hsz : (P.info? e).map (·.size) = some 1:=by obtain ⟨i,hi,_,h2,_⟩:=T.info;simp [hi,h2]
 have hl : (xs.take dLen).length = min n dLen:=by simp [hn,Nat.min_comm]
 by_cases h0 : min n dLen = 0
 ·have hrun:=run_copy_none (P:=P) w t t o.type e (some ⟨g,off,none⟩) A dLen dCap n c T.und hsz h0
  unfold Oper.wp
  simp [execOp,ho,resolve,invoke,builtin,hd,hx,hrun,Result.andThen]
  have hk:=h w (show _ = _ by
   have : xs.take dLen = []:=List.eq_nil_of_length_eq_zero (by omega)
   simpa [this,splice] using hg) (World.grownBy.refl w _)
  rw [h0] at hk
  exact hk
 ·rcases hr with rfl | ⟨b,o2,rfl,hc⟩
  ·simp at hn;omega
  ·have hrun:=run_copy_row (P:=P) w t t o.type e g off dLen dCap ⟨b,o2,none⟩ n c cur.toArray t' (xs.take dLen) T.und hsz hg hl (fun j v hv => by
    obtain ⟨hj,rfl⟩:=List.getElem?_eq_some_iff.1 hv
    rw [add_lit0,hc j (by simp at hj;omega)];simp) (by rw [hl];simpa using hfit) (fun v hv => h1 v (List.mem_of_mem_take hv))
   unfold Oper.wp
   simp only [execOp,ho,resolve,invoke,builtin,Sem.run_bind,Sem.run_pure,Result.andThen_ok,List.map_toArray,List.map_cons,List.map_nil,hd,hx,hrun,Oper.upon]
   rw [hl]
   refine h _ ?_ ⟨rfl,rfl,rfl,by simp [World.setRow],fun k _ hne => setRow_other w g k _ (fun e => hne (by rw [e]))⟩
   have hs : splice cur off (xs.take dLen) = cur.take off ++ xs.take dLen ++ cur.drop (off + min n dLen):=by rw [splice,hl,List.append_assoc]
   rw [hs]
   exact setRow_heap w g cur.toArray _ t' (0,0) hg
theorem wpList_cpy (T : ElT P t e z 1 bytes) {w : World} {ops : Array Oper} {rest : List Oper} {o : Oper} {a : Act} {Q : Exit → Act → World → Prop} (hgd : o.guard = none) (d x : Operand)
  (ho : o.op = .call { callee:=.builtin .copy,args:=#[d,x],argTypes:=#[t,t] }) (g off dLen dCap : Nat) (hd : a.eval d = .slice (some ⟨g,off,none⟩) dLen dCap)
  (A : Option Addr) (n c : Nat) (xs : List Value) (hx : a.eval x = .slice A n c) (hn : xs.length = n) (hr : Rd w A xs) (h1 : ∀ u ∈ xs,u.oneCell' = true)
  (cur : List Value) (t' : TypeId) (hg : w.heap[g]? = some (.cells cur.toArray t' (0,0))) (hfit : off + min n dLen ≤ cur.length)
  (h : ∀ w',Hid (w'.heap[g]? = some (.cells (splice cur off (xs.take dLen)).toArray t' (0,0))) → w.grownBy w' (some g) → wpList P ops Q rest (a.put o.dst (.int .i64 (min n dLen : Nat))) w') : wpList P ops Q (o :: rest) a w :=
 wpList_plain hgd fun _ hK => wp_cpy T d x ho g off dLen dCap hd A n c xs hx hn hr h1 cur t' hg hfit fun w' h2 h3 => hK _ _ (h w' h2 h3)
end
theorem Rd.drop {w : World} {A : Option Addr} {xs : List Value} (h : Rd w A xs) {k cap : Nat} (hk : k ≤ xs.length) (hc : xs.length ≤ cap) : Rd w (if cap = k then A else A.map (·.add (k * 1))) (xs.drop k):=by
 by_cases h0 : k = xs.length
 ·subst h0;exact .inl (by simp)
 ·rcases h with rfl | ⟨b,off,rfl,hcell⟩
  ·simp at hk h0;omega
  ·rw [if_neg (by omega)]
   refine .inr ⟨b,off + k,by simp [add_lit0],fun j hj => ?_⟩
   simp at hj
   rw [Nat.add_assoc,hcell (k + j) (by omega)];simp
theorem Rd.dropN {w : World} {A : Option Addr} {xs : List Value} (h : Rd w A xs) {k : Nat} (hk : k ≤ xs.length) : Rd w (A.map (·.add k)) (xs.drop k):=by
 have h2:=h.drop (k:=k) (cap:=xs.length + k + 1) hk (by omega)
 rw [if_neg (by omega),Nat.mul_one] at h2
 exact h2
theorem Rd.take {w : World} {A : Option Addr} {xs : List Value} (h : Rd w A xs) (k : Nat) : Rd w A (xs.take k):=by
 rcases h with rfl | ⟨b,off,rfl,hcell⟩
 ·exact .inl (by simp)
 ·exact .inr ⟨b,off,rfl,fun j hj => by simp at hj;rw [hcell j (by omega)];simp⟩
theorem own_rd {w : World} {base : Nat} {e : TypeId} {size : Nat} {A : Option Addr} {n m c : Nat} {xs : List Value} (h : w.ownsRow base e size (.slice A m c) n xs) : Rd w A xs:=by
 obtain ⟨A',c',h1,_,_,h2⟩:=own_form h
 injection h1 with h1
 rw [h1];exact h2
def FreshA (base : Nat) (A : Option Addr) (n : Nat) : Prop:=n = 0 ∨ ∃ b off,A = some ⟨b,off,none⟩∧base ≤ b
theorem FreshA.mono {b b' : Nat} {A : Option Addr} {n : Nat} (h : FreshA b A n) (hb : b' ≤ b) : FreshA b' A n:=h.imp id fun ⟨x,o,h1,h2⟩ => ⟨x,o,h1,by omega⟩
def RdX (row : Option Nat) (w : World) (A : Option Addr) (xs : List Value) : Prop :=
 xs = [] ∨ ∃ b off,A = some ⟨b,off,none⟩∧row ≠ some b∧∀ j (h : j < xs.length),w.cell? ⟨b,off + j,none⟩ = some xs[j]
section
variable {w w' : World} {row row' : Option Nat} {A : Option Addr} {xs : List Value}
theorem RdX.rd (h : RdX row w A xs) : Rd w A xs:=h.imp id fun ⟨b,off,h1,_,h3⟩ => ⟨b,off,h1,h3⟩
theorem RdX.keep (h : RdX row w A xs) (hk : Keep w w') : RdX row w' A xs :=
 h.imp id fun ⟨b,off,h1,h2,h3⟩ => ⟨b,off,h1,h2,fun j hj => keep_cell hk (h3 j hj)⟩
theorem RdX.grown (h : RdX row w A xs) (hg : w.grownBy w' row) (hr : row' = row ∨ row' = some w.heap.size) : RdX row' w' A xs:=by
 rcases h with rfl | ⟨b,off,rfl,h2,h3⟩
 ·exact .inl rfl
 ·by_cases h0 : xs = []
  ·exact .inl h0
  ·have hp : 0 < xs.length:=List.length_pos_iff.2 h0
   have hb:=cell_lt (h3 0 hp)
   refine .inr ⟨b,off,rfl,?_,fun j hj => grown_cell hg (h3 j hj) h2⟩
   rcases hr with rfl | rfl
   ·exact h2
   ·intro e;injection e with e;omega
theorem RdX.of_own {base : Nat} {e : TypeId} {size n m c : Nat} (h : w.ownsRow base e size (.slice A m c) n xs) (hr : ∀ k,row = some k → k < base) : RdX row w A xs:=by
 rcases own_rd h with h0 | ⟨b,off,rfl,h3⟩
 ·exact .inl h0
 ·refine .inr ⟨b,off,rfl,fun e => ?_,h3⟩
  have:=(h.lt b rfl).1
  have:=hr b e
  omega
theorem RdX.of_old (h : Rd w A xs) (hr : ∀ k,row = some k → w.heap.size ≤ k) : RdX row w A xs:=by
 by_cases h0 : xs = []
 ·exact .inl h0
 ·rcases h with h | ⟨b,off,rfl,h3⟩
  ·exact .inl h
  ·exact .inr ⟨b,off,rfl,fun e => by have:=cell_lt (h3 0 (List.length_pos_iff.2 h0));have:=hr b e;omega,h3⟩
theorem RdX.setCell (h : RdX row w A xs) {p : Addr} (u : Value) (hp : row = some p.block) : RdX row (w.setCell p u) A xs :=
 h.imp id fun ⟨b,off,h1,h2,h3⟩ => ⟨b,off,h1,h2,fun j hj => (World.cell?_setCell_other w p _ u (fun e => h2 (by rw [hp,e]))).trans (h3 j hj)⟩
end
def Blk (w : World) (g : Nat) (t : TypeId) (cs : List Value) : Prop:=w.heap[g]? = some (.cells cs.toArray t (0,0))
section
variable {w w' : World} {g : Nat} {t : TypeId} {cs : List Value}
theorem Blk.lt (h : Blk w g t cs) : g < w.heap.size:=(Array.getElem?_eq_some_iff.1 h).1
theorem Blk.cell (h : Blk w g t cs) (i : Nat) : w.cell? ⟨g,i,none⟩ = cs[i]?:=by rw [cell_of_row w g i _ t (0,0) h];simp
theorem Blk.frozen (h : Blk w g t cs) (i : Nat) : w.frozen? ⟨g,i,none⟩ = false:=by unfold Blk at h;simp [World.frozen?,h]
theorem Blk.new (w : World) (t : TypeId) (cs : List Value) : Blk (w.alloc (.cells cs.toArray t)) w.heap.size t cs:=heap_alloc_new w _
theorem Blk.drew (h : Blk w g t cs) : Blk w.drew g t cs:=h
theorem Blk.keep (h : Blk w g t cs) (hk : Keep w w') : Blk w' g t cs:=(hk.block g h.lt).trans h
theorem Blk.alloc (h : Blk w g t cs) (o : Obj) : Blk (w.alloc o) g t cs:=(Below.heap_alloc w o g h.lt).trans h
theorem Blk.grown {row : Option Nat} (h : Blk w g t cs) (hg : w.grownBy w' row) (hne : row ≠ some g) : Blk w' g t cs:=(hg.block g h.lt (Ne.symm hne)).trans h
theorem Blk.far (h : Blk w g t cs) {p : Addr} (hp : g ≠ p.block) (u : Value) : Blk (w.setCell p u) g t cs:=(Below.heap_setCell w p u g hp).trans h
theorem Blk.set_ (h : Blk w g t cs) (i : Nat) (u : Value) : Blk (w.setCell ⟨g,i,none⟩ u) g t (cs.set i u):=by
 unfold Blk at h ⊢
 simp [World.setCell,Array.getElem?_modify,h]
theorem Blk.rd (h : Blk w g t cs) : Rd w (some ⟨g,0,none⟩) cs:=.inr ⟨g,0,rfl,fun j hj => by rw [h.cell];simp [hj]⟩
end
theorem ElT.make {P : Program} {t e : TypeId} {z : Value} {size bytes : Nat} (T : ElT P t e z size bytes) (n c : Nat) (hnc : n ≤ c) (hb : bytes * c ≤ 281474976710656) (h63 : c ≤ 9223372036854775807) (w : World) :
  (Instr.makeSlice t (.int .i64 (n : Int)) (.int .i64 (c : Int))).run P w = .ok (.slice (some ⟨w.heap.size,0,none⟩) n c) (w.alloc (.cells (madeCells z.cells (c * size)) e)):=by
 obtain ⟨i,hi,hz,h1,h2⟩:=T.info
 have hb' : (i.bytes : Int) * (c : Int) ≤ 281474976710656:=by
  have h : ((i.bytes * c : Nat) : Int) ≤ 281474976710656:=by rw [h2];omega
  rwa [Int.natCast_mul] at h
 have hr:=run_make (P:=P) w t e i z T.und hi hz .i64 .i64 n c (by omega) (by omega) hb' (by omega)
 simp only [Int.toNat_natCast] at hr
 rw [hr,h1]
theorem run_eql_slice_nil {P : Program} (w : World) {t e : TypeId} (a : Option Addr) (n c : Nat) (ht : P.underlying t = some (.slice e)) :
  (binOp .eql t (.slice a n c) (.slice none 0 0)).run P w = .ok (.bool a.isNone) w:=by
 have h : ∀ d : Nat,(Op.equalIn (d + 1) t (.slice a n c) (.slice none 0 0)).run P w = .ok a.isNone w:=fun d => by
  cases a <;> simp [Op.equalIn,run_underlying ht]
 simp only [binOp]
 simp [Op.equal,Op.maxDepth,h 9999]
theorem own_base {w : World} {b b' : Nat} {e : TypeId} {size : Nat} {v : Value} {n : Nat} {xs : List Value} (h : w.ownsRow b e size v n xs) (hb : b' ≤ b) : w.ownsRow b' e size v n xs :=
 ⟨h.1,h.2.imp id fun ⟨g,cap,cur,h1,h2,rest⟩ => ⟨g,cap,cur,h1,Nat.le_trans hb h2,rest⟩⟩
theorem own_zero (w : World) (e : TypeId) (size : Nat) : (w.alloc (.cells #[] e)).ownsRow w.heap.size e size (.slice (some ⟨w.heap.size,0,none⟩) 0 0) 0 [] :=
 World.ownsRow_made w #[] 0 (Nat.le_refl _) (Nat.zero_le _) (by simp)
theorem Rd.sub {w : World} {b off : Nat} {xs : List Value} (h : Rd w (some ⟨b,off,none⟩) xs) (k m : Nat) (hk : k + m ≤ xs.length) : Rd w (some ⟨b,off + k,none⟩) ((xs.drop k).take m):=by
 have h1:=(h.dropN (k:=k) (by omega)).take m
 rwa [Option.map_some,add_lit0] at h1
theorem Rd.far {w : World} {g off : Nat} {xs : List Value} (h : Rd w (some ⟨g,off,none⟩) xs) {p : Addr} (hp : p.block ≠ g) (u : Value) : Rd (w.setCell p u) (some ⟨g,off,none⟩) xs:=by
 rcases h with h | ⟨b,o,e,hc⟩
 ·exact .inl h
 ·injection e with e;injection e with e1 e2;subst e1 e2
  exact .inr ⟨g,off,rfl,fun j hj => (World.cell?_setCell_other w p _ u (fun e => hp (by rw [e]))).trans (hc j hj)⟩
def MidF (F : World → Prop) (w w' W : World) : Prop:=F W∧∀ k,w.heap.size ≤ k → k < w'.heap.size → W.heap[k]? = w'.heap[k]?
def Mid (w0 w w' W : World) : Prop:=MidF (fun W => Keep w0 W) w w' W
theorem Mid.of_keep {w0 w w' W : World} (h0 : Keep w0 w') (h : Keep w' W) : Mid w0 w w' W:=⟨keep_trans h0 h,fun k _ h2 => h.block k h2⟩
theorem Rd.mid {F : World → Prop} {w w' W : World} {b off : Nat} {xs : List Value} (h : Rd w' (some ⟨b,off,none⟩) xs) (hb : w.heap.size ≤ b) (hm : MidF F w w' W) : Rd W (some ⟨b,off,none⟩) xs:=by
 by_cases h0 : xs = []
 ·exact .inl h0
 ·rcases h with h | ⟨b',o',e,hc⟩
  ·exact .inl h
  ·injection e with e;injection e with e1 e2;subst e1 e2
   exact .inr ⟨b,off,rfl,fun j hj => (World.cell?_of_block (w:=w') (hm.2 b hb (cell_lt (hc 0 (List.length_pos_iff.2 h0))))).trans (hc j hj)⟩
theorem own_mid {F : World → Prop} {w w' W : World} {base : Nat} {e : TypeId} {size : Nat} {A : Option Addr} {n m c : Nat} {xs : List Value} (h : w'.ownsRow base e size (.slice A m c) n xs) (hb : w.heap.size ≤ base) (hm : MidF F w w' W) : Rd W A xs:=by
 rcases own_rd h with h0 | ⟨b,off,rfl,hc⟩
 ·exact .inl h0
 ·exact Rd.mid (.inr ⟨b,off,rfl,hc⟩) (by have:=(h.lt b rfl).1;omega) hm
def str (l : List UInt8) : ByteArray:=⟨l.toArray⟩
theorem str_beq (a b : List UInt8) : (str a == str b) = decide (a = b):=by
 have h : (str a == str b) = ((str a).data == (str b).data):=rfl
 rw [h]
 show (a.toArray == b.toArray) = _
 by_cases hab : a = b
 ·subst hab;simp
 ·simp [hab]
theorem str_bne (a b : List UInt8) : (str a != str b) = !decide (a = b):=by
 show (!(str a == str b)) = _;rw [str_beq]
theorem str_eq_t {a b : List UInt8} (h : a = b) : (str a == str b) = true:=by rw [str_beq];simp [h]
theorem str_eq_f {a b : List UInt8} (h : a ≠ b) : (str a == str b) = false:=by rw [str_beq];simp [h]
theorem str_toList (l : List UInt8) : (str l).toList = l:=by
 rw [ByteArray.toList_eq];rfl
attribute [go_sem] str_toList
theorem run_bytes_str {P : Program} {w : World} {src dst e : TypeId} (hs : P.underlying src = some (.slice e)) (he : P.underlying e = some (.int .u8)) (hd : P.underlying dst = some .string)
  {A : Option Addr} {l : List UInt8} (c : Nat) (hr : Rd w A (l.map u8v)) : (convert src dst (.slice A l.length c)).run P w = .ok (.string (str l)) w:=by
 rcases hr with h | ⟨b,off,rfl,hc⟩
 ·obtain rfl : l = []:=by simpa using h
  rw [run_convert_bytes_string w src dst e _ _ c hs he hd]
  cases A <;> simp [Conv.bytesToString,loadCells,loadCellsFrom] <;> rfl
 ·rw [run_convert_bytes_arg w src e hs he b off l.length c (l.map fun x => (x.toNat : Int)) (by simp) (fun i hi => by
   rw [hc i (by simpa using hi)];simp [hi]) dst hd]
  congr 2
  simp only [strOfNums,str,List.map_map]
  congr 2
  exact List.map_id'' (fun x => by simp) l
end Go.Proofs.Ytbgpgdhndanigaa
/- A region that draws its order, whose operations read and whose callees leave what was there (they may make memory that the value does not show): one walk in the order of the text, guards and all. -/
set_option linter.unusedSimpArgs false
set_option linter.unusedVariables false
namespace Go.Proofs.Ytbgpgdhndanigaa
open Go.RowKit
open Classical in
noncomputable def aft (w x : World) : World:=if Keep w x then x else w
theorem aft_keep (w x : World) : Keep w (aft w x):=by
 unfold aft;split
 ·assumption
 ·exact Below.refl _ _
theorem aft_of {w w' : World} (h : Keep w w') : w' = aft w w':=by unfold aft;rw [if_pos h]
theorem aft_cell {w : World} {b o : Nat} {v : Value} (h : w.cell? ⟨b,o,none⟩ = some v) : ∀ x,(aft w x).cell? ⟨b,o,none⟩ = some v:=fun x => keep_cell (aft_keep w x) h
theorem quiet_aft {P : Program} {f : FuncId} {args : Array Value} {w x : World} {v : Value} (h : Calls P f args (aft w x) fun e w' => e = .returned v∧Keep (aft w x) w') :
  Calls P f args (aft w x) fun e w'' => e = .returned v∧∃ y,w'' = aft w y :=
 h.mono fun _ w' ⟨he,hk⟩ => ⟨he,w',aft_of (keep_trans (aft_keep w x) hk)⟩
end Go.Proofs.Ytbgpgdhndanigaa
/- Rows of bytes; bytes.Clone. -/
set_option linter.unusedSimpArgs false
set_option linter.unusedVariables false
namespace Go.Proofs.Ytbgpgdhndanigaa
open Go.RowKit
attribute [local go_sem ↓] Go.wp_at_zero Go.wp_at_succ
theorem byteT : ElT Try.prog 31 5 (.int .u8 0) 1 1:=ElT.mk' Try.underlying31 (by kernel_rfl) rfl (by omega)
theorem one_bytes (l : List UInt8) : ∀ u ∈ l.map u8v,u.oneCell' = true:=by
 intro u hu;obtain ⟨x,_,rfl⟩:=List.mem_map.1 hu;rfl
set_option maxHeartbeats 400000 in
theorem clone_any (A : Option Addr) (l : List UInt8) (c : Nat) (w : World) (hl : l.length ≤ 140737488355328) (hr : Rd w A (l.map u8v)) :
  Calls Try.prog 73 #[.slice A l.length c] w fun e w' => ∃ v,e = .returned v∧w'.ownsRow w.heap.size 5 1 v l.length (l.map u8v)∧Keep w w':=by
 have hq:=fun W => run_eql_slice_nil (P:=Try.prog) W A l.length c Try.underlying31
 cases A with
 | none =>
   obtain rfl : l = []:=by
    rcases hr with h | ⟨b,off,h,_⟩
    ·simpa using h
    ·cases h
   simp only [List.length_nil,Option.isNone_none] at hq
   go_enter Try.func73,Try.ntmps73
   go_wp2
   go_ret
   exact ⟨_,rfl,World.ownsRow_nil _ _ _ _,Below.refl _ _⟩
 | some a =>
   go_enter Try.func73,Try.ntmps73
   simp only [Option.isNone_some] at hq
   go_wp2_with (at_builtin;refine wpList_app byteT (by rfl) (.tmp 5) (.tmp 6) (by rfl) w.heap.size _ 0 [] (by rfl) (own_zero _ _ _) _ l.length c (l.map u8v) (by rfl) (by simp) (hr.alloc _) (one_bytes _) (by omega) (by unfold maxLen;omega) (by simp) ?_;intro v1 w1 hown1 hg1 hat1)
   go_ret
   rw [List.nil_append,Nat.zero_add] at hown1
   exact ⟨_,rfl,hown1,keep_grown ((Below.refl _ _).alloc (Nat.le_refl _) _) (by simp) hg1 (own_zero _ _ 1)⟩
end Go.Proofs.Ytbgpgdhndanigaa
/- A region that draws its order: some operations first, that answer the same in every world of a class, in any order that their edges allow; behind them the others, in one forced order. One walk serves every order. -/
set_option linter.unusedSimpArgs false
set_option linter.unusedVariables false
namespace Go.Proofs.Ytbgpgdhndanigaa
open Go.RowKit
def waits (ops : Array Oper) (j i : Nat) : Bool :=
 match ops[j]? with
 | some o => o.after.any fun e => Region.binds .any e && e.on == i
 | none => false
theorem waits_spec {ops : Array Oper} {j i : Nat} (h : waits ops j i = true) : ∃ o,ops[j]? = some o∧∃ e ∈ o.after,Region.binds .any e = true∧e.on = i:=by
 unfold waits at h
 split at h
 ·rename_i o ho
  obtain ⟨e,he,hb⟩:=Array.any_eq_true'.1 h
  simp only [Bool.and_eq_true,beq_iff_eq] at hb
  exact ⟨o,ho,e,he,hb.1,hb.2⟩
 ·cases h
theorem waits_mk {ops : Array Oper} {j i : Nat} {o : Oper} (ho : ops[j]? = some o) {e : Edge} (he : e ∈ o.after) (hb : Region.binds .any e = true) (hi : e.on = i) : waits ops j i = true:=by
 unfold waits
 rw [ho]
 exact Array.any_eq_true'.2 ⟨e,he,by simp [hb,hi]⟩
def partB (ops : Array Oper) (i j : Nat) : Bool :=
 match ops[i]?,ops[j]? with
 | some x,some y => x.apart ops y
 | _,_ => false
structure HT (ops : Array Oper) (listed : Array Bool) (hd tl : List Nat) : Prop where
 un : ∀ i,listed.getD i true = false ↔ i ∈ hd ++ tl
 inb : ∀ i ∈ hd ++ tl,i < ops.size
 nd : (hd ++ tl).Nodup
 edge : ∀ pre i post,hd ++ tl = pre ++ i :: post → ∀ k,waits ops i k = true → listed.getD k false = true ∨ k ∈ pre
 part : ∀ pre i post j,hd = pre ++ i :: post → j ∈ post → waits ops j i = true ∨ partB ops i j = true
 sink : ∀ pre i post,hd = pre ++ i :: post → ∃ j ∈ post ++ tl.head?.toList,waits ops j i = true
 chain : ∀ pre t t' post,tl = pre ++ t :: t' :: post → waits ops t' t = true
section
variable {P : Program} {ops : Array Oper} {listed : Array Bool} {hd tl : List Nat} {C : World → Prop} {Q : Exit → Act → World → Prop}
theorem getD_tf {l : Array Bool} {i : Nat} (h : l.getD i true = false) : l.getD i false = false:=by
 rcases Nat.lt_or_ge i l.size with h' | h'
 ·simp [h'] at h ⊢;exact h
 ·simp [Array.getElem?_eq_none h'] at h
end
def edgeB (ops : Array Oper) : List Nat → List Nat → Bool
 | _,[] => true
 | pre,i :: post => (match ops[i]? with | some o => o.after.all fun e => !Region.binds .any e || pre.contains e.on | none => false) && edgeB ops (i :: pre) post
def partsB (ops : Array Oper) : List Nat → Bool
 | [] => true
 | i :: post => (post.all fun j => waits ops j i || partB ops i j) && partsB ops post
def sinkB (ops : Array Oper) (t : List Nat) : List Nat → Bool
 | [] => true
 | i :: post => ((post ++ t).any fun j => waits ops j i) && sinkB ops t post
def chainB (ops : Array Oper) : List Nat → Bool
 | [] => true
 | [_] => true
 | t :: t' :: post => waits ops t' t && chainB ops (t' :: post)
theorem edgeB_spec {ops : Array Oper} : ∀ (l pre0 : List Nat),edgeB ops pre0 l = true → ∀ pre i post,l = pre ++ i :: post → ∀ k,waits ops i k = true → k ∈ pre ∨ k ∈ pre0
 | [],_,_,pre,i,post,e,_,_ => by simp at e
 | x :: l,pre0,h,pre,i,post,e,k,hk => by
   simp only [edgeB,Bool.and_eq_true] at h
   cases pre with
   | nil =>
     simp at e
     obtain ⟨rfl,rfl⟩:=e
     obtain ⟨o,ho,ed,hed,hb,hon⟩:=waits_spec hk
     have h1:=h.1
     rw [ho] at h1
     have:=Array.all_eq_true_iff_forall_mem.1 h1 ed hed
     simp [hb] at this
     exact .inr (hon ▸ this)
   | cons y pre =>
     simp at e
     obtain ⟨rfl,e⟩:=e
     rcases edgeB_spec l (x :: pre0) h.2 pre i post e k hk with h1 | h1
     ·exact .inl (by simp [h1])
     ·rcases List.mem_cons.1 h1 with rfl | h1
      ·exact .inl (by simp)
      ·exact .inr h1
theorem partsB_spec {ops : Array Oper} : ∀ (l : List Nat),partsB ops l = true → ∀ pre i post j,l = pre ++ i :: post → j ∈ post → waits ops j i = true ∨ partB ops i j = true
 | [],_,pre,i,post,j,e,_ => by simp at e
 | x :: l,h,pre,i,post,j,e,hj => by
   simp only [partsB,Bool.and_eq_true] at h
   cases pre with
   | nil => simp at e;obtain ⟨rfl,rfl⟩:=e;simpa using List.all_eq_true.1 h.1 j hj
   | cons y pre => simp at e;exact partsB_spec l h.2 pre i post j e.2 hj
theorem sinkB_spec {ops : Array Oper} {t : List Nat} : ∀ (l : List Nat),sinkB ops t l = true → ∀ pre i post,l = pre ++ i :: post → ∃ j ∈ post ++ t,waits ops j i = true
 | [],_,pre,i,post,e => by simp at e
 | x :: l,h,pre,i,post,e => by
   simp only [sinkB,Bool.and_eq_true] at h
   cases pre with
   | nil => simp at e;obtain ⟨rfl,rfl⟩:=e;exact List.any_eq_true.1 h.1
   | cons y pre => simp at e;exact sinkB_spec l h.2 pre i post e.2
theorem chainB_spec {ops : Array Oper} : ∀ (l : List Nat),chainB ops l = true → ∀ pre t t' post,l = pre ++ t :: t' :: post → waits ops t' t = true
 | [],_,pre,t,t',post,e => by simp at e
 | [x],_,pre,t,t',post,e => by
   have:=congrArg List.length e;simp at this;omega
 | x :: y :: l,h,pre,t,t',post,e => by
   simp only [chainB,Bool.and_eq_true] at h
   cases pre with
   | nil => simp at e;obtain ⟨rfl,rfl,rfl⟩:=e;exact h.1
   | cons z pre => simp at e;exact chainB_spec (y :: l) h.2 pre t t' post e.2
def takeB (ops : Array Oper) : List Nat → Array Bool → Bool
 | [],_ => true
 | i :: l,listed => (Region.ready .any ops listed).contains i && Region.free .any ops listed i && takeB ops l (listed.setIfInBounds i true)
def setAll (listed : Array Bool) (l : List Nat) : Array Bool:=l.foldl (fun x i => x.setIfInBounds i true) listed
def plainB (o : Oper) : Bool :=
 match o.op with
 | .move _ | .assign _ | .load .. | .fieldAddr .. | .indexAddr .. | .index .. | .binOp .. | .unOp .. | .convert .. | .slice .. | .field .. | .extract .. | .build .. => true
 | .pick .. | .makeInterface .. | .nilCheck .. | .typeAssert .. => true
 | .call { callee:=.builtin .len,.. } | .call { callee:=.builtin .cap,.. } | .call { callee:=.builtin .min,.. } | .call { callee:=.builtin .max,.. } => true
 | _ => false
theorem nilCheck_run {P : Program} {C : World → Prop} {w : World} {v : Value} {o : Oper} {a : Act} {x : Operand} (ho : o.op = .nilCheck x) (h : Oper.quietUpon P C w v ((execOp a.eval o).run P w)) : (execOp a.eval o).run P w = .ok (.value v) w:=by
 unfold execOp at h ⊢
 simp only [ho] at h ⊢
 generalize a.eval x = y at h ⊢
 split at h
 ·simp [runtimePanic,Oper.quietUpon] at h
 ·simp [runtimePanic,Oper.quietUpon] at h
 ·simp [runtimePanic,Oper.quietUpon] at h
 ·split at h
  ·simp [runtimePanic,Oper.quietUpon] at h
  ·rename_i t w0 hq
   simp only [Sem.run_bind] at h ⊢
   cases hx : (program).run P w with
   | halt e w' => rw [hx] at h;simp [Result.andThen,Oper.quietUpon] at h
   | ok p w' =>
     rw [hx] at h
     simp only [Result.andThen_ok] at h ⊢
     cases hy : (nilAhead (p.types.size + Made.depth) t w0 _).run P w' with
     | halt e w'' => rw [hy] at h;simp [Result.andThen,Oper.quietUpon] at h
     | ok b w'' =>
       rw [hy] at h
       simp only [Result.andThen_ok] at h ⊢
       split at h
       ·simp [unsupported,Oper.quietUpon,Result.andThen] at h
       ·rename_i hb
        rw [if_neg hb]
        simp only [Sem.run_pure,Oper.quietUpon] at h ⊢
        rw [h.1,h.2]
  ·simp only [Sem.run_pure,Oper.quietUpon] at h ⊢
   rw [h.2]
 ·simp only [Sem.run_pure,Oper.quietUpon] at h ⊢
  rw [h.2]
theorem plain_run {P : Program} {o : Oper} {a : Act} {C : World → Prop} {w : World} {v : Value} (hp : plainB o = true) (h : o.quietAt P a C w v) : (execOp a.eval o).run P w = .ok (.value v) w:=by
 have fin : ∀ (r : Sem Value),Oper.quietUpon P C w v ((do pure (Next.value (← r)) : Sem Next).run P w) → (do pure (Next.value (← r)) : Sem Next).run P w = .ok (.value v) w:=by
  intro r hr
  rw [Sem.run_bind] at hr ⊢
  cases hx : r.run P w with
  | ok u w' =>
    rw [hx] at hr
    simp only [Result.andThen_ok,Sem.run_pure,Oper.quietUpon] at hr ⊢
    rw [hr.1,hr.2]
  | halt x w' => rw [hx] at hr;simp [Result.andThen,Oper.quietUpon] at hr
 have fin2 : ∀ (r : Sem Bool) (g : Bool → Value),Oper.quietUpon P C w v ((do let b ← r;pure (Next.value (g b)) : Sem Next).run P w) → (do let b ← r;pure (Next.value (g b)) : Sem Next).run P w = .ok (.value v) w:=by
  intro r g hr
  rw [Sem.run_bind] at hr ⊢
  cases hx : r.run P w with
  | ok u w' =>
    rw [hx] at hr
    simp only [Result.andThen_ok,Sem.run_pure,Oper.quietUpon] at hr ⊢
    rw [hr.1,hr.2]
  | halt x w' => rw [hx] at hr;simp [Result.andThen,Oper.quietUpon] at hr
 unfold Oper.quietAt at h
 unfold plainB at hp
 by_cases hnc : ∃ x,o.op = .nilCheck x
 ·obtain ⟨x,hx⟩:=hnc;exact nilCheck_run hx h
 unfold execOp at h ⊢
 split at hp <;> rename_i ho <;> (try cases hp) <;> simp only [ho] at h ⊢ <;> first
  | exact (hnc ⟨_,ho⟩).elim
  | exact fin _ h
  | exact fin2 _ (fun b => if b = true then _ else _) h
  | (simp only [resolve,invoke,builtin,Sem.run_bind,Sem.run_pure,Result.andThen_ok] at h ⊢;simp only [← Sem.run_pure,← Sem.run_bind] at h ⊢;exact fin _ h)
  | (simp only [resolve,invoke,builtin,Sem.run_bind,Sem.run_pure,Result.andThen_ok] at h ⊢
     have h2:=fin _ (by rw [Sem.run_bind];exact h)
     rw [Sem.run_bind] at h2
     exact h2)
  | (simp only [Sem.run_pure,Oper.quietUpon] at h ⊢;rw [h.2])
def depsOf (ops : Array Oper) (k : Nat) : List Nat :=
 match ops[k]? with
 | some o => (o.after.toList.filter fun e => Region.binds .any e).map (·.on)
 | none => []
def downB (ops : Array Oper) : Nat → List Nat → List Nat
 | 0,S => S
 | k + 1,S => downB ops k (if S.contains k then depsOf ops k ++ S else S)
def reachB (ops : Array Oper) (j i : Nat) : Bool:=(downB ops ops.size (depsOf ops j)).contains i
theorem depsOf_waits {ops : Array Oper} {k i : Nat} (h : i ∈ depsOf ops k) : waits ops k i = true:=by
 unfold depsOf at h
 split at h
 ·rename_i o ho
  obtain ⟨e,he,rfl⟩:=List.mem_map.1 h
  obtain ⟨h1,h2⟩:=List.mem_filter.1 he
  exact waits_mk ho (Array.mem_toList_iff.1 h1) h2 rfl
 ·cases h
def Closed (ops : Array Oper) (listed : Array Bool) : Prop:=∀ j k,listed.getD j false = true → waits ops j k = true → listed.getD k false = true
theorem ready_waits {ops : Array Oper} {listed : Array Bool} {j k : Nat} (hj : j ∈ Region.ready .any ops listed) (hk : waits ops j k = true) : listed.getD k false = true:=by
 obtain ⟨_,o,ho,hall⟩:=mem_ready.1 hj
 obtain ⟨o',ho',e,he,hb,hon⟩:=waits_spec hk
 have : o' = o:=Option.some.inj (ho'.symm.trans ho)
 subst this
 exact hon ▸ hall e he hb
theorem down_listed {ops : Array Oper} {listed : Array Bool} (hc : Closed ops listed) : ∀ (k : Nat) (S : List Nat),(∀ s ∈ S,listed.getD s false = true) → ∀ s ∈ downB ops k S,listed.getD s false = true
 | 0,S,h => h
 | k + 1,S,h => by
   refine down_listed hc k _ ?_
   split
   ·rename_i hk
    have hk' : k ∈ S:=by simpa using hk
    intro s hs
    rcases List.mem_append.1 hs with h1 | h1
    ·exact hc k s (h k hk') (depsOf_waits h1)
    ·exact h s h1
   ·exact h
theorem reach_listed {ops : Array Oper} {listed : Array Bool} (hc : Closed ops listed) (j i : Nat) (hj : ∀ k,waits ops j k = true → listed.getD k false = true) (h : reachB ops j i = true) : listed.getD i false = true :=
 down_listed hc _ _ (fun s hs => hj s (depsOf_waits hs)) i (by simpa [reachB] using h)
theorem Closed.set_ {ops : Array Oper} {listed : Array Bool} (hc : Closed ops listed) {i : Nat} (hi : i ∈ Region.ready .any ops listed) : Closed ops (listed.setIfInBounds i true):=by
 intro j k hj hk
 by_cases hij : i = j
 ·subst hij;exact getD_set_true (ready_waits hi hk)
 ·rw [getD_set_ne false hij] at hj;exact getD_set_true (hc j k hj hk)
def htfB (ops : Array Oper) (fl hd al tl : List Nat) : Bool :=
 Region.noSelect ops && takeB ops fl (Array.replicate ops.size false) && (fl ++ hd ++ (al ++ tl)).all (· < ops.size) && decide ((fl ++ hd ++ (al ++ tl)).length = ops.size) && decide ((fl ++ hd ++ (al ++ tl)).Nodup) &&
  (List.range ops.size).all (fun i => (fl ++ hd ++ (al ++ tl)).contains i) && edgeB ops fl (hd ++ (al ++ tl)) && partsB ops hd && sinkB ops (al ++ tl).head?.toList hd && chainB ops (al ++ tl) &&
  (fl.all fun i => (tl.all fun j => reachB ops j i) && match ops[i]? with | some o => plainB o | none => false)
theorem setAll_get : ∀ (l : List Nat) (listed : Array Bool) (i : Nat) (d : Bool),(∀ j ∈ l,j < listed.size) → (setAll listed l).getD i d = if i ∈ l then true else listed.getD i d
 | [],_,_,_,_ => by simp [setAll]
 | x :: l,listed,i,d,h => by
   have ih:=setAll_get l (listed.setIfInBounds x true) i d (fun j hj => by simpa using h j (by simp [hj]))
   have e : setAll listed (x :: l) = setAll (listed.setIfInBounds x true) l:=rfl
   rw [e,ih]
   by_cases h1 : i ∈ l
   ·simp [h1]
   ·rw [if_neg h1]
    by_cases h2 : i = x
    ·subst h2;simp [h i (by simp)]
    ·rw [getD_set_ne d (Ne.symm h2),if_neg (by simp [h1,h2])]
theorem HT.off {ops : Array Oper} {fl hd al tl : List Nat} (h : htfB ops fl hd al tl = true) : Region.noSelect ops = true∧takeB ops fl (Array.replicate ops.size false) = true∧(fl ++ hd ++ (al ++ tl)).length = ops.size∧HT ops (setAll (Array.replicate ops.size false) fl) hd (al ++ tl)∧(∀ i ∈ fl,i < ops.size)∧(∀ i ∈ hd,i ∉ tl)∧(∀ i ∈ fl,∀ j ∈ tl,reachB ops j i = true)∧(∀ i ∈ fl,∀ o,ops[i]? = some o → plainB o = true):=by
 simp only [htfB,Bool.and_eq_true,decide_eq_true_eq] at h
 obtain ⟨⟨⟨⟨⟨⟨⟨⟨⟨⟨h0,h9⟩,h1⟩,h2⟩,h3⟩,h8⟩,h4⟩,h5⟩,h6⟩,h7⟩,h11⟩:=h
 have h1' : ∀ i ∈ fl ++ hd ++ (al ++ tl),i < ops.size:=fun i hi => by simpa using List.all_eq_true.1 h1 i hi
 have hfl : ∀ j ∈ fl,j < (Array.replicate ops.size false).size:=fun j hj => by simpa using h1' j (by simp [hj])
 rw [List.append_assoc,List.nodup_append] at h3
 obtain ⟨n1,n2,n3⟩:=h3
 refine ⟨h0,h9,h2,⟨fun i => ?_,fun i hi => h1' i (by rw [List.append_assoc];exact List.mem_append_right _ hi),n2,fun pre i post e k hk => ?_,partsB_spec hd h5,sinkB_spec hd h6,chainB_spec (al ++ tl) h7⟩,fun i hi => h1' i (by simp [hi]),fun i hi ht => ?_,fun i hi j hj => ?_,fun i hi o ho => ?_⟩
 ·rw [setAll_get fl _ i true hfl]
  constructor
  ·intro hi
   by_cases hf : i ∈ fl
   ·simp [hf] at hi
   ·rw [if_neg hf] at hi
    have hlt : i < ops.size:=by
     rcases Nat.lt_or_ge i ops.size with h | h
     ·exact h
     ·rw [Array.getD_eq_getD_getElem?,Array.getElem?_eq_none (show (Array.replicate ops.size false).size ≤ i by simpa using h)] at hi
      cases hi
    have:=List.all_eq_true.1 h8 i (List.mem_range.2 hlt)
    have h10 : i ∈ fl ++ (hd ++ (al ++ tl)):=by simpa using this
    exact (List.mem_append.1 h10).resolve_left hf
  ·intro hi
   have hf : i ∉ fl:=fun hf => n3 i hf i hi rfl
   rw [if_neg hf]
   have:=h1' i (by rw [List.append_assoc];exact List.mem_append_right _ hi)
   simp [this]
 ·rcases edgeB_spec _ _ h4 pre i post e k hk with h | h
  ·exact .inr h
  ·left;rw [setAll_get fl _ k false hfl,if_pos h]
 ·rw [List.nodup_append] at n2
  exact n2.2.2 i hi i (List.mem_append_right _ ht) rfl
 ·have:=List.all_eq_true.1 h11 i hi
  simp only [Bool.and_eq_true] at this
  exact List.all_eq_true.1 this.1 j hj
 ·have:=List.all_eq_true.1 h11 i hi
  simp only [Bool.and_eq_true,ho] at this
  exact this.2
def nth (l : List Oper) (i : Nat) : Oper:=(l[i]?).getD default
def pick (l : List Oper) (is : List Nat) : List Oper:=is.map (nth l)
theorem pick_nil (l : List Oper) : pick l [] = []:=rfl
theorem pick_cons (l : List Oper) (i : Nat) (is : List Nat) : pick l (i :: is) = nth l i :: pick l is:=rfl
theorem nth_zero (o : Oper) (l : List Oper) : nth (o :: l) 0 = o:=rfl
theorem nth_succ (o : Oper) (l : List Oper) (n : Nat) : nth (o :: l) (n + 1) = nth l n:=rfl
theorem filter_get {l : List Oper} (m : List Nat) (hm : ∀ i ∈ m,i < l.length) : (pick l m).length = m.length∧∀ (k : Nat),(pick l m)[k]? = (m[k]?).bind (fun (i : Nat) => l.toArray[i]?):=by
 refine ⟨by simp [pick],fun k => ?_⟩
 unfold pick
 rw [List.getElem?_map]
 cases hk : m[k]? with
 | none => rfl
 | some i =>
   have hi:=hm i (List.mem_of_getElem? hk)
   simp [nth,hi]
theorem closed_none (ops : Array Oper) (n : Nat) : Closed ops (Array.replicate n false):=by
 intro j k hj
 rcases Nat.lt_or_ge j n with h | h
 ·simp [h] at hj
 ·rw [Array.getD_eq_getD_getElem?,Array.getElem?_eq_none (by simpa using h)] at hj;cases hj
theorem keep_new (w : World) (o : Obj) : Keep w (w.alloc o):=(Below.refl _ _).alloc (Nat.le_refl _) o
end Go.Proofs.Ytbgpgdhndanigaa
/- A region that draws its order, walked as a row of moves: 'taken first' (it answers the same in every later world) or 'forced' (it alone may come up). One walk serves every order. -/
set_option linter.unusedSimpArgs false
set_option linter.unusedVariables false
namespace Go.Proofs.Ytbgpgdhndanigaa
open Go.RowKit
section
variable {P : Program} {ops : Array Oper} {Q : Exit → Act → World → Prop} {tl : List Nat}
def wpAnyK (P : Program) (ops : Array Oper) (Q : Exit → Act → World → Prop) (tl : List Nat) : Nat → Array Bool → Act → World → Prop
 | 0,listed,a,w => Region.ready .any ops listed = []∧Q .normal a w
 | n + 1,listed,a,w => (Region.ready .any ops listed = [] → Q .normal a w) ∧
   ∀ i ∈ Region.ready .any ops listed,wpOp P ops Q i (fun a' w' => (i ∉ tl → Keep w w')∧wpAnyK P ops Q tl n (listed.setIfInBounds i true) a' w') a w
theorem wpAny_of_K : ∀ (n : Nat) (listed : Array Bool) (a : Act) (w : World),wpAnyK P ops Q tl n listed a w → wpAny P .any ops Q n listed a w
 | 0,_,_,_,h => h
 | n + 1,_,_,_,h => ⟨h.1,fun i hi => wpOp_mono (fun a' w' h' => wpAny_of_K n _ a' w' h'.2) (h.2 i hi)⟩
theorem wpAnyK_first (hs : Region.noSelect ops = true) {i : Nat} {oi : Oper} {v : Value} (hi : ops[i]? = some oi) (hQ : ∀ c a w,Q (.panic c) (a.put oi.dst v) w → Q (.panic c) a w)
  {S : World → Prop} (hk : ∀ w w',S w → Keep w w' → S w') (hr : (∀ j ∈ tl,reachB ops j i = true) ∨ ∀ w,S w) : ∀ (fuel : Nat) (listed : Array Bool) (a : Act) (w : World),Closed ops listed →
   (∀ j oj,ops[j]? = some oj → j ≠ i → listed.getD j true = false → (∀ e ∈ oj.after,Region.binds .any e = true → e.on ≠ i) → oi.apart ops oj = true) →
   i ∈ Region.ready .any ops listed → YieldsIf P ops S oi v a → S w →
   wpAnyK P ops Q tl fuel (listed.setIfInBounds i true) (a.put oi.dst v) w → wpAnyK P ops Q tl (fuel + 1) listed a w:=by
 intro fuel
 have hsel:=fun j o cs b (h : ops[j]? = some o) => Region.noSelect_spec hs j o cs b h
 induction fuel with
 | zero =>
   intro listed a w _ _ hri hy hS H
   refine ⟨fun h => absurd hri (by rw [h];simp),fun j hj => ?_⟩
   by_cases hji : j = i
   ·subst hji;exact hy.wpOp hi hS ⟨fun _ => Below.refl _ _,H⟩
   ·have:=ready_mono hj hji
    rw [H.1] at this
    cases this
 | succ fuel ih =>
   intro listed a w hc hfree hri hy hS H
   refine ⟨fun h => absurd hri (by rw [h];simp),fun j hj => ?_⟩
   by_cases hji : j = i
   ·subst hji;exact hy.wpOp hi hS ⟨fun _ => Below.refl _ _,H⟩
   ·have h1:=H.2 j (ready_mono hj hji)
    obtain ⟨hjun,oj,hoj,hall⟩:=mem_ready.1 hj
    have hiun:=(mem_ready.1 hri).1
    have hnot : ∀ e ∈ oj.after,Region.binds .any e = true → e.on ≠ i:=fun e he hb heq => by
     have h1:=hall e he hb
     rw [heq,getD_tf hiun] at h1
     cases h1
    have hjt : j ∉ tl ∨ ∀ w,S w:=hr.imp (fun hr hjt => by
     have:=reach_listed hc j i (fun k hk => ready_waits hj hk) (hr j hjt)
     rw [getD_tf hiun] at this
     cases this) id
    have h2:=wpOp_putIf hoj (hfree j oj hoj hji hjun hnot) (fun cs b => hsel i oi cs b hi) (fun cs b => hsel j oj cs b hoj) hQ hy h1
    have hfree' : ∀ k ok,ops[k]? = some ok → k ≠ i → (listed.setIfInBounds j true).getD k true = false →
      (∀ e ∈ ok.after,Region.binds .any e = true → e.on ≠ i) → oi.apart ops ok = true:=fun k ok hk hki hun hno => by
     refine hfree k ok hk hki ?_ hno
     by_cases hjk : j = k
     ·subst hjk;exact hjun
     ·rw [getD_set_ne true hjk] at hun;exact hun
    refine wpOp_mono (fun a' w' h3 => ⟨fun hn => h3.2.1 hn,ih (listed.setIfInBounds j true) a' w' (hc.set_ hj) hfree' (ready_mono hri (Ne.symm hji)) h3.1 (hjt.elim (fun hn => hk _ _ hS (h3.2.1 hn)) (fun h => h _)) ?_⟩) h2
    rw [Array.setIfInBounds_comm _ _ hji]
    exact h3.2.2
def freeB (o : Oper) : Bool :=
 match o.op with
 | .move _ | .assign _ | .extract .. => true
 | _ => false
theorem free_run {P : Program} {o : Oper} {a : Act} {w : World} {v : Value} (hf : freeB o = true) (h : (execOp a.eval o).run P w = .ok (.value v) w) (w' : World) : (execOp a.eval o).run P w' = .ok (.value v) w':=by
 unfold freeB at hf
 unfold execOp at h ⊢
 split at hf <;> rename_i ho <;> (try cases hf) <;> simp only [ho] at h ⊢
 ·simp only [Sem.run_pure] at h ⊢
  injection h with h1
  rw [h1]
 ·simp only [Sem.run_pure] at h ⊢
  injection h with h1
  rw [h1]
 ·rename_i t ix
  unfold Instr.extract at h ⊢
  cases ht : a.eval t with
  | tuple vs =>
    rw [ht] at h
    simp only at h ⊢
    cases hv : vs[ix]? with
    | some u =>
      rw [hv] at h
      simp only [Sem.run_bind,Sem.run_pure,Result.andThen_ok] at h ⊢
      injection h with h1
      rw [h1]
    | none => rw [hv] at h;simp [Sem.run_bind,stuck,Result.andThen] at h
  | _ => rw [ht] at h;simp [Sem.run_bind,stuck,Result.andThen] at h
def takesB (ops : Array Oper) (tl : List Nat) : List Nat → Array Bool → Bool
 | [],_ => true
 | i :: l,listed => (Region.ready .any ops listed).contains i && Region.free .any ops listed i && (match ops[i]? with | some o => plainB o | none => false) && ((match ops[i]? with | some o => freeB o | none => false) || tl.all fun j => reachB ops j i) && takesB ops tl l (listed.setIfInBounds i true)
def forceB (ops : Array Oper) : List Nat → Array Bool → Bool
 | [],_ => true
 | i :: l,listed => decide (Region.ready .any ops listed = [i]) && forceB ops l (listed.setIfInBounds i true)
def wpForce (P : Program) (ops : Array Oper) (Q : Exit → Act → World → Prop) (N : Act → World → Prop) : List Oper → Act → World → Prop
 | [],a,w => N a w
 | o :: l,a,w => if Region.wanted o (yielded ops a.tmps) then (∀ K : Act → World → Prop,(∀ a' w',Keep w w' → wpForce P ops Q N l a' w' → K a' w') → o.wp P a w K Q) else wpForce P ops Q N l (a.put o.dst undef) w
theorem wpAnyK_tail (t0 : List Nat) : ∀ (t : List Nat) (T : List Oper) (listed : Array Bool) (a : Act) (w : World),(∀ i ∈ t,i ∈ t0) → forceB ops t listed = true → Region.ready .any ops (setAll listed t) = [] →
  (∀ (k : Nat),T[k]? = (t[k]?).bind (fun (i : Nat) => ops[i]?)) → wpList P ops Q T a w → wpAnyK P ops Q t0 t.length listed a w
 | [],T,listed,a,w,_,_,he,hT,hw => by
   have : T = []:=by cases T with
    | nil => rfl
    | cons x T => have:=hT 0;simp at this
   subst this
   exact ⟨he,hw⟩
 | t :: l,T,listed,a,w,h0,hB,he,hT,hw => by
   simp only [forceB,Bool.and_eq_true,decide_eq_true_eq] at hB
   refine ⟨fun h0 => (by rw [hB.1] at h0;cases h0),fun i hi => ?_⟩
   rw [hB.1] at hi
   obtain rfl : i = t:=by simpa using hi
   have hlt : i < ops.size:=by
    have hr : i ∈ Region.ready .any ops listed:=by rw [hB.1];simp
    obtain ⟨o,ho,_⟩:=(mem_ready.1 hr).2
    exact (Array.getElem?_eq_some_iff.1 ho).1
   cases T with
   | nil => have:=hT 0;simp [hlt] at this
   | cons o T =>
     have ho : ops[i]? = some o:=by have:=hT 0;simpa using this.symm
     have hw' : wpOp P ops Q i (wpList P ops Q T) a w:=by unfold wpOp;simp only [ho];exact hw
     exact wpOp_mono (fun a' w' h' => ⟨fun hn => absurd (h0 i (by simp)) hn,wpAnyK_tail t0 l T _ a' w' (fun j hj => h0 j (by simp [hj])) hB.2 he (fun k => by have:=hT (k + 1);simpa using this) h'⟩) hw'
theorem wpAnyK_force (g : Nat) {N : Act → World → Prop} : ∀ (l : List Nat) (L : List Oper) (listed : Array Bool) (a : Act) (w : World),Closed ops listed → forceB ops l listed = true →
  (∀ (k : Nat),L[k]? = (l[k]?).bind (fun (i : Nat) => ops[i]?)) → (∀ a w,Closed ops (setAll listed l) → N a w → wpAnyK P ops Q tl g (setAll listed l) a w) → wpForce P ops Q N L a w → wpAnyK P ops Q tl (g + l.length) listed a w
 | [],L,listed,a,w,hc,_,hL,hN,h => by
   have : L = []:=by cases L with
    | nil => rfl
    | cons x T => have:=hL 0;simp at this
   subst this
   exact hN a w hc h
 | t :: l,L,listed,a,w,hc,hB,hL,hN,h => by
   simp only [forceB,Bool.and_eq_true,decide_eq_true_eq] at hB
   refine ⟨fun h0 => (by rw [hB.1] at h0;cases h0),fun i hi => ?_⟩
   have hi':=hi
   rw [hB.1] at hi
   obtain rfl : i = t:=by simpa using hi
   have hlt : i < ops.size:=by
    obtain ⟨o,ho,_⟩:=(mem_ready.1 hi').2
    exact (Array.getElem?_eq_some_iff.1 ho).1
   cases L with
   | nil => have:=hL 0;simp [hlt] at this
   | cons o L =>
     have ho : ops[i]? = some o:=by have:=hL 0;simpa using this.symm
     have go:=fun (a' : Act) (w' : World) (h' : wpForce P ops Q N L a' w') => wpAnyK_force g l L (listed.setIfInBounds i true) a' w' (hc.set_ hi') hB.2 (fun k => by have:=hL (k + 1);simpa using this) hN h'
     unfold wpOp
     simp only [ho]
     unfold wpForce at h
     split at h
     ·rename_i hwt
      rw [if_pos hwt]
      exact .inl (h _ fun a' w' hk h' => ⟨fun _ => hk,go a' w' h'⟩)
     ·rename_i hwt
      rw [if_neg hwt]
      exact ⟨fun _ => Below.refl _ _,go _ _ h⟩
theorem wpAnyK_takes (hs : Region.noSelect ops = true) (hQ : ∀ c a x v w,Q (.panic c) (a.put x v) w → Q (.panic c) a w) (g : Nat) (w w0 : World) (hw : Keep w0 w) : ∀ (l : List Nat) (L : List Oper) (listed : Array Bool) (a : Act),Closed ops listed → takesB ops tl l listed = true →
  (∀ (k : Nat),L[k]? = (l[k]?).bind (fun (i : Nat) => ops[i]?)) → wpQuiet P ops (fun w' => ∃ x,w' = aft w0 x) (fun a' => Closed ops (setAll listed l) → wpAnyK P ops Q tl g (setAll listed l) a' w) L a → wpAnyK P ops Q tl (g + l.length) listed a w
 | [],L,listed,a,hc,_,hL,h => by
   have : L = []:=by cases L with
    | nil => rfl
    | cons x T => have:=hL 0;simp at this
   subst this
   exact h hc
 | i :: l,L,listed,a,hc,hB,hL,h => by
   simp only [takesB,Bool.and_eq_true] at hB
   obtain ⟨⟨⟨⟨hr,hf⟩,hpl⟩,hre⟩,hB⟩:=hB
   have hr' : i ∈ Region.ready .any ops listed:=by simpa using hr
   have hi : i < ops.size:=by
    obtain ⟨o,ho,_⟩:=(mem_ready.1 hr').2
    exact (Array.getElem?_eq_some_iff.1 ho).1
   cases L with
   | nil => have:=hL 0;simp [hi] at this
   | cons o L =>
     have ho : ops[i]? = some o:=by have:=hL 0;simpa using this.symm
     rw [ho] at hpl
     have h1 : qOp P ops (fun w' => ∃ x,w' = aft w0 x) i (wpQuiet P ops (fun w' => ∃ x,w' = aft w0 x) (fun a' => Closed ops (setAll listed (i :: l)) → wpAnyK P ops Q tl g (setAll listed (i :: l)) a' w) L) a:=by unfold qOp;simp only [ho];exact h
     obtain ⟨v,hy,h⟩:=yieldsIn_of_qOp ho h1
     have hy' : YieldsIf P ops (fun w' => Keep w0 w') o v a:=by
      rcases hy with ⟨h2,h3⟩ | h2
      ·exact .inl ⟨h2,fun w hw => plain_run hpl (h3 w ⟨_,aft_of hw⟩)⟩
      ·exact .inr h2
     have:=wpAnyK_takes hs hQ g w w0 hw l L (listed.setIfInBounds i true) (a.put o.dst v) (hc.set_ hr') hB (fun k => by have:=hL (k + 1);simpa using this) h
     rw [ho,Bool.or_eq_true] at hre
     rcases hre with hre | hre
     ·have hy2 : YieldsIf P ops (fun _ => True) o v a:=by
       rcases hy' with ⟨h2,h3⟩ | h2
       ·exact .inl ⟨h2,fun w' _ => free_run hre (h3 w hw) w'⟩
       ·exact .inr h2
      exact wpAnyK_first hs ho (fun c a w => hQ c a _ _ w) (fun _ _ _ _ => trivial) (.inr fun _ => trivial) _ listed a w hc (Region.free_spec ho hf) hr' hy2 trivial this
     ·exact wpAnyK_first hs ho (fun c a w => hQ c a _ _ w) (fun _ _ h1 h2 => keep_trans h1 h2) (.inl fun j hj => List.all_eq_true.1 hre j hj) _ listed a w hc (Region.free_spec ho hf) hr' hy' hw this
def total : List (Bool × List Nat) → Nat
 | [] => 0
 | (_,l) :: r => total r + l.length
theorem quiet_mono' {C : World → Prop} {N N' : Act → Prop} (hN : ∀ a,N a → N' a) : ∀ (F : List Oper) (a : Act),wpQuiet P ops C N F a → wpQuiet P ops C N' F a
 | [],a,h => hN _ h
 | o :: F,a,h => by
   unfold wpQuiet at h ⊢
   split
   ·rename_i hw;rw [if_pos hw] at h;exact Oper.quiet_mono (fun a h => quiet_mono' hN F a h) h
   ·rename_i hw;rw [if_neg hw] at h;exact quiet_mono' hN F _ h
end
section
variable {P : Program} {ops : Array Oper} {Q : Exit → Act → World → Prop} {T l : List Oper} {r : List (Bool × List Oper)} {o : Oper} {a : Act} {w : World} {N : Act → World → Prop}
theorem fc_nil (h : N a w) : wpForce P ops Q N [] a w:=h
theorem fc_step (hw : Region.wanted o (yielded ops a.tmps) = true) (h : ∀ K : Act → World → Prop,(∀ a' w',Keep w w' → wpForce P ops Q N l a' w' → K a' w') → o.wp P a w K Q) : wpForce P ops Q N (o :: l) a w:=by
 unfold wpForce;rw [if_pos hw];exact h
end
inductive Mv where
 | done
 | take (l : List Nat) (r : Mv)
 | force (l : List Nat) (r : Mv)
 | fork (i : Nat) (ri : Mv) (j : Nat) (rj : Mv)
 | fork3 (i : Nat) (ri : Mv) (j : Nat) (rj : Mv) (k : Nat) (rk : Mv)
def Mv.total : Mv → Nat
 | .done => 0
 | .take l r => r.total + l.length
 | .force l r => r.total + l.length
 | .fork _ ri _ _ => ri.total + 1
 | .fork3 _ ri _ _ _ _ => ri.total + 1
def Mv.okB (ops : Array Oper) (tl : List Nat) : Mv → Array Bool → Bool
 | .done,listed => forceB ops tl listed && decide (Region.ready .any ops (setAll listed tl) = [])
 | .take l r,listed => (l.all (· < ops.size)) && takesB ops tl l listed && r.okB ops tl (setAll listed l)
 | .force l r,listed => (l.all (· < ops.size)) && forceB ops l listed && r.okB ops tl (setAll listed l)
 | .fork i ri j rj,listed => decide (i < ops.size) && decide (j < ops.size) && decide (Region.ready .any ops listed = [i,j]) && decide (ri.total = rj.total) && ri.okB ops tl (listed.setIfInBounds i true) && rj.okB ops tl (listed.setIfInBounds j true)
 | .fork3 i ri j rj k rk,listed => decide (i < ops.size) && decide (j < ops.size) && decide (k < ops.size) && decide (Region.ready .any ops listed = [i,j,k]) && decide (ri.total = rj.total) && decide (ri.total = rk.total) && ri.okB ops tl (listed.setIfInBounds i true) && rj.okB ops tl (listed.setIfInBounds j true) && rk.okB ops tl (listed.setIfInBounds k true)
def Mv.wp (P : Program) (l0 : List Oper) (Q : Exit → Act → World → Prop) (T : List Oper) : Mv → Act → World → Prop
 | .done,a,w => wpList P l0.toArray Q T a w
 | .take l r,a,w => ∃ w0,Keep w0 w∧wpQuiet P l0.toArray (fun w' => ∃ x,w' = aft w0 x) (fun a' => r.wp P l0 Q T a' w) (pick l0 l) a
 | .force l r,a,w => wpForce P l0.toArray Q (r.wp P l0 Q T) (pick l0 l) a w
 | .fork i ri j rj,a,w => wpForce P l0.toArray Q (ri.wp P l0 Q T) [nth l0 i] a w∧wpForce P l0.toArray Q (rj.wp P l0 Q T) [nth l0 j] a w
 | .fork3 i ri j rj k rk,a,w => wpForce P l0.toArray Q (ri.wp P l0 Q T) [nth l0 i] a w∧wpForce P l0.toArray Q (rj.wp P l0 Q T) [nth l0 j] a w∧wpForce P l0.toArray Q (rk.wp P l0 Q T) [nth l0 k] a w
section
variable {P : Program} {Q : Exit → Act → World → Prop} {tl : List Nat} {l0 : List Oper}
theorem one_force {ops : Array Oper} {N : Act → World → Prop} {i : Nat} {o : Oper} (ho : ops[i]? = some o) {listed : Array Bool} {a : Act} {w : World} {g : Nat} (hN : ∀ a w,N a w → wpAnyK P ops Q tl g (listed.setIfInBounds i true) a w)
  (h : wpForce P ops Q N [o] a w) : wpOp P ops Q i (fun a' w' => (i ∉ tl → Keep w w')∧wpAnyK P ops Q tl g (listed.setIfInBounds i true) a' w') a w:=by
 unfold wpOp
 simp only [ho]
 unfold wpForce at h
 split at h
 ·rename_i hwt
  rw [if_pos hwt]
  exact .inl (h _ fun a' w' hk h' => ⟨fun _ => hk,hN _ _ h'⟩)
 ·rename_i hwt
  rw [if_neg hwt]
  exact ⟨fun _ => Below.refl _ _,hN _ _ h⟩
theorem Mv.sound (hs : Region.noSelect l0.toArray = true) (hQ : ∀ c a x v w,Q (.panic c) (a.put x v) w → Q (.panic c) a w) (htl : ∀ i ∈ tl,i < l0.length) : ∀ (mv : Mv) (listed : Array Bool) (a : Act) (w : World),Closed l0.toArray listed → mv.okB l0.toArray tl listed = true →
  mv.wp P l0 Q (pick l0 tl) a w → wpAnyK P l0.toArray Q tl (mv.total + tl.length) listed a w
 | .done,listed,a,w,hc,hB,h => by
   simp only [Mv.okB,Bool.and_eq_true,decide_eq_true_eq] at hB
   rw [Mv.total,Nat.zero_add]
   exact wpAnyK_tail tl tl (pick l0 tl) listed a w (fun _ h => h) hB.1 hB.2 (filter_get tl htl).2 h
 | .take l r,listed,a,w,hc,hB,h => by
   simp only [Mv.okB,Bool.and_eq_true] at hB
   obtain ⟨⟨hin,htk⟩,hB⟩:=hB
   obtain ⟨w0,hw0,hq⟩:=h
   have hl : ∀ i ∈ l,i < l0.length:=fun i hi => by simpa using List.all_eq_true.1 hin i hi
   rw [show (Mv.take l r).total + tl.length = (r.total + tl.length) + l.length by show r.total + l.length + tl.length = _;omega]
   exact wpAnyK_takes hs hQ _ w w0 hw0 l (pick l0 l) listed a hc htk (filter_get l hl).2 (quiet_mono' (fun a' h' hc' => Mv.sound hs hQ htl r _ a' w hc' hB h') _ _ hq)
 | .force l r,listed,a,w,hc,hB,h => by
   simp only [Mv.okB,Bool.and_eq_true] at hB
   obtain ⟨⟨hin,hfo⟩,hB⟩:=hB
   have hl : ∀ i ∈ l,i < l0.length:=fun i hi => by simpa using List.all_eq_true.1 hin i hi
   rw [show (Mv.force l r).total + tl.length = (r.total + tl.length) + l.length by show r.total + l.length + tl.length = _;omega]
   exact wpAnyK_force _ l (pick l0 l) listed a w hc hfo (filter_get l hl).2 (fun a' w' hc' h' => Mv.sound hs hQ htl r _ a' w' hc' hB h') h
 | .fork i ri j rj,listed,a,w,hc,hB,h => by
   simp only [Mv.okB,Bool.and_eq_true,decide_eq_true_eq] at hB
   obtain ⟨⟨⟨⟨⟨hi,hj⟩,hr⟩,ht⟩,hBi⟩,hBj⟩:=hB
   obtain ⟨h1,h2⟩:=h
   have hoi : l0.toArray[i]? = some (nth l0 i):=by simp at hi ⊢;simp [nth,hi]
   have hoj : l0.toArray[j]? = some (nth l0 j):=by simp at hj ⊢;simp [nth,hj]
   have hri : i ∈ Region.ready .any l0.toArray listed:=by rw [hr];simp
   have hrj : j ∈ Region.ready .any l0.toArray listed:=by rw [hr];simp
   rw [show (Mv.fork i ri j rj).total + tl.length = (ri.total + tl.length) + 1 by show ri.total + 1 + tl.length = _;omega]
   refine ⟨fun h0 => (by rw [hr] at h0;cases h0),fun k hk => ?_⟩
   rw [hr] at hk
   have hk' : k = i ∨ k = j:=by simpa using hk
   by_cases hki : k = i
   ·subst hki
    exact one_force hoi (fun a' w' h' => Mv.sound hs hQ htl ri _ a' w' (hc.set_ hri) hBi h') h1
   ·obtain rfl : k = j:=hk'.resolve_left hki
    rw [ht]
    exact one_force hoj (fun a' w' h' => Mv.sound hs hQ htl rj _ a' w' (hc.set_ hrj) hBj h') h2
 | .fork3 i ri j rj k rk,listed,a,w,hc,hB,h => by
   simp only [Mv.okB,Bool.and_eq_true,decide_eq_true_eq] at hB
   obtain ⟨⟨⟨⟨⟨⟨⟨⟨hi,hj⟩,hk⟩,hr⟩,ht⟩,ht2⟩,hBi⟩,hBj⟩,hBk⟩:=hB
   obtain ⟨h1,h2,h3⟩:=h
   have hoi : l0.toArray[i]? = some (nth l0 i):=by simp at hi ⊢;simp [nth,hi]
   have hoj : l0.toArray[j]? = some (nth l0 j):=by simp at hj ⊢;simp [nth,hj]
   have hok : l0.toArray[k]? = some (nth l0 k):=by simp at hk ⊢;simp [nth,hk]
   have hri : i ∈ Region.ready .any l0.toArray listed:=by rw [hr];simp
   have hrj : j ∈ Region.ready .any l0.toArray listed:=by rw [hr];simp
   have hrk : k ∈ Region.ready .any l0.toArray listed:=by rw [hr];simp
   rw [show (Mv.fork3 i ri j rj k rk).total + tl.length = (ri.total + tl.length) + 1 by show ri.total + 1 + tl.length = _;omega]
   refine ⟨fun h0 => (by rw [hr] at h0;cases h0),fun m hm => ?_⟩
   rw [hr] at hm
   have hm' : m = i ∨ m = j ∨ m = k:=by simpa using hm
   by_cases hmi : m = i
   ·subst hmi
    exact one_force hoi (fun a' w' h' => Mv.sound hs hQ htl ri _ a' w' (hc.set_ hri) hBi h') h1
   ·by_cases hmj : m = j
    ·subst hmj
     rw [ht]
     exact one_force hoj (fun a' w' h' => Mv.sound hs hQ htl rj _ a' w' (hc.set_ hrj) hBj h') h2
    ·obtain rfl : m = k:=(hm'.resolve_left hmi).resolve_left hmj
     rw [ht2]
     exact one_force hok (fun a' w' h' => Mv.sound hs hQ htl rk _ a' w' (hc.set_ hrk) hBk h') h3
end
def mtB (ops : Array Oper) (mv : Mv) (tl : List Nat) : Bool :=
 Region.noSelect ops && (tl.all (· < ops.size)) && decide (mv.total + tl.length = ops.size) && mv.okB ops tl (Array.replicate ops.size false)
theorem wp_region_tree {P : Program} {id : Nat} {Q : Exit → Act → World → Prop} {a : Act} {w : World} {l : List Oper} (mv : Mv) (tl : List Nat) (hm : P.follows .mixedOrders = true) (hB : mtB l.toArray mv tl = true)
  (h : ∀ w1,Keep w w1 → mv.wp P l (Exit.then (fun a w => Q .normal a w) (fun _ _ _ => False)) (pick l tl) a w1) : (Code.region id l.toArray true).wp P Q a w:=by
 simp only [mtB,Bool.and_eq_true,decide_eq_true_eq] at hB
 obtain ⟨⟨⟨hs,htl⟩,hlen⟩,hB⟩:=hB
 refine wp_mono (Q:=Exit.then (fun a w => Q .normal a w) (fun _ _ _ => False)) (wp_region_any hm ?_) fun e a w h => by
  cases e with
  | normal => exact h
  | _ => exact False.elim h
 have:=Mv.sound (P:=P) (Q:=Exit.then (fun a w => Q .normal a w) (fun _ _ _ => False)) hs (fun _ _ _ _ _ h => h) (fun i hi => by simpa using List.all_eq_true.1 htl i hi) mv _ a { w with drawn:=w.drawn + 1 } (closed_none _ _) hB (h _ ((Below.refl _ _).drew))
 rw [hlen] at this
 exact wpAny_of_K _ _ _ _ this
section
variable {P : Program} {l0 T : List Oper} {Q : Exit → Act → World → Prop} {a : Act} {w : World} {l : List Nat} {r ri rj rk : Mv} {i j k : Nat}
theorem mt_take (w0 : World) (hw : Keep w0 w) (h : wpQuiet P l0.toArray (fun w' => ∃ x,w' = aft w0 x) (fun a' => r.wp P l0 Q T a' w) (pick l0 l) a) : (Mv.take l r).wp P l0 Q T a w:=⟨w0,hw,h⟩
theorem mt_force (h : wpForce P l0.toArray Q (r.wp P l0 Q T) (pick l0 l) a w) : (Mv.force l r).wp P l0 Q T a w:=h
theorem mt_fork (h1 : wpForce P l0.toArray Q (ri.wp P l0 Q T) [nth l0 i] a w) (h2 : wpForce P l0.toArray Q (rj.wp P l0 Q T) [nth l0 j] a w) : (Mv.fork i ri j rj).wp P l0 Q T a w:=⟨h1,h2⟩
theorem mt_end (h : wpList P l0.toArray Q T a w) : Mv.done.wp P l0 Q T a w:=h
end
end Go.Proofs.Ytbgpgdhndanigaa
/- Numbers of as few bytes as they need: compact's functions. -/
set_option linter.unusedSimpArgs false
set_option linter.unusedVariables false
namespace Go.Proofs.Ytbgpgdhndanigaa
open Go.RowKit
attribute [local go_sem ↓] Go.wp_at_zero Go.wp_at_succ
set_option maxHeartbeats 1000000 in
theorem csize_any (n : Nat) (w : World) : Calls Try.prog 85 #[u64v n] w fun e w' => e = .returned (iv (sizN n))∧Keep w w':=by
 unfold sizN
 by_cases h1 : n < 253
 ·rw [if_pos h1]
  have a1 : ¬ (4294967295 : Int) < n:=by omega
  have a2 : ¬ (65535 : Int) < n:=by omega
  have a3 : ¬ (253 : Int) ≤ n:=by omega
  go_enter Try.func85,Try.ntmps85
  go_wp2
  exact bodyPost_ret (v:=iv 1) (by simp [results,Try.results85]) rfl ⟨rfl,Below.refl _ _⟩
 ·rw [if_neg h1]
  have a3 : (253 : Int) ≤ n:=by omega
  by_cases h2 : n < 65536
  ·rw [if_pos h2]
   have a1 : ¬ (4294967295 : Int) < n:=by omega
   have a2 : ¬ (65535 : Int) < n:=by omega
   go_enter Try.func85,Try.ntmps85
   go_wp2
   exact bodyPost_ret (v:=iv 3) (by simp [results,Try.results85]) rfl ⟨rfl,Below.refl _ _⟩
  ·rw [if_neg h2]
   have a2 : (65535 : Int) < n:=by omega
   by_cases h3 : n < 4294967296
   ·rw [if_pos h3]
    have a1 : ¬ (4294967295 : Int) < n:=by omega
    go_enter Try.func85,Try.ntmps85
    go_wp2
    exact bodyPost_ret (v:=iv 5) (by simp [results,Try.results85]) rfl ⟨rfl,Below.refl _ _⟩
   ·rw [if_neg h3]
    have a1 : (4294967295 : Int) < n:=by omega
    go_enter Try.func85,Try.ntmps85
    go_wp2
    exact bodyPost_ret (v:=iv 9) (by simp [results,Try.results85]) rfl ⟨rfl,Below.refl _ _⟩
set_option maxHeartbeats 1000000 in
theorem behind_any (x : UInt8) (w : World) : Calls Try.prog 95 #[u8v x] w fun e w' => e = .returned (iv (behN x))∧Keep w w':=by
 rcases beh_cases x with ⟨q,hx⟩ | ⟨rfl,q⟩ | ⟨rfl,q⟩ | ⟨rfl,q⟩
 ·rw [q]
  have a1 : ((x.toNat : Int) == 253) = false:=by rw [beq_eq_false_iff_ne];omega
  have a2 : ((x.toNat : Int) == 254) = false:=by rw [beq_eq_false_iff_ne];omega
  have a3 : ((x.toNat : Int) == 255) = false:=by rw [beq_eq_false_iff_ne];omega
  clear q hx
  go_enter Try.func95,Try.ntmps95
  go_wp2
  exact bodyPost_ret (v:=iv 0) (by simp [results,Try.results95]) rfl ⟨rfl,Below.refl _ _⟩
 ·rw [q]
  show Calls Try.prog 95 #[.int .u8 253] w _
  go_enter Try.func95,Try.ntmps95
  go_wp2
  exact bodyPost_ret (v:=iv 2) (by simp [results,Try.results95]) rfl ⟨rfl,Below.refl _ _⟩
 ·rw [q]
  show Calls Try.prog 95 #[.int .u8 254] w _
  go_enter Try.func95,Try.ntmps95
  go_wp2
  exact bodyPost_ret (v:=iv 4) (by simp [results,Try.results95]) rfl ⟨rfl,Below.refl _ _⟩
 ·rw [q]
  show Calls Try.prog 95 #[.int .u8 255] w _
  go_enter Try.func95,Try.ntmps95
  go_wp2
  exact bodyPost_ret (v:=iv 8) (by simp [results,Try.results95]) rfl ⟨rfl,Below.refl _ _⟩
end Go.Proofs.Ytbgpgdhndanigaa
/- compact.Put. (printed by gen_vb.py) -/
set_option linter.unusedSimpArgs false
set_option linter.unusedVariables false
namespace Go.Proofs.Ytbgpgdhndanigaa
open Go.RowKit
attribute [local go_sem ↓] Go.wp_at_zero Go.wp_at_succ
theorem mk_bytes0 (c : Nat) (hc : c ≤ 200000000) (W : World) : ∃ W',(∀ i : Int,i = c → (Instr.makeSlice 31 (.int .i64 0) (.int .i64 i)).run Try.prog W = .ok (.slice (some ⟨W.heap.size,0,none⟩) 0 c) W') ∧
  W'.ownsRow W.heap.size 5 1 (.slice (some ⟨W.heap.size,0,none⟩) 0 c) 0 []∧Keep W W'∧W.heap.size < W'.heap.size:=by
 refine ⟨_,fun i hi => ?_,World.ownsRow_made W (madeCells #[.int .u8 0] (c * 1)) c (Nat.le_refl _) (by unfold maxLen;omega) (by simp [madeCells]),keep_new _ _,by simp⟩
 ·subst hi;exact byteT.make 0 c (Nat.zero_le _) (by omega) (by omega) W
set_option maxRecDepth 100000 in
set_option maxHeartbeats 4000000 in
theorem cput_any (n : Nat) (hn : n < 2 ^ 64) (w : World) :
  Calls Try.prog 65 #[.slice none 0 0,u64v n] w fun e w' => ∃ v,e = .returned v∧w'.ownsRow w.heap.size 5 1 v (sizN n) ((cptL n).map u8v)∧Keep w w':=by
 have S1 : Hid (∀ y,Calls Try.prog 85 #[u64v n] y fun e w' => e = .returned (iv (sizN n))∧Keep y w'):=Lib.hid fun y => csize_any n y
 have HL:=Lib.hid (cpt_len n)
 have hs:=siz_le n
 have HC : Hid (sizN n = (cptL n).length∧((sizN n = 1∧cptL n = [UInt8.ofNat n]) ∨ (sizN n = 3∧cptL n = 253 :: loN n 2) ∨ (sizN n = 5∧cptL n = 254 :: loN n 4) ∨ (sizN n = 9∧cptL n = 255 :: loN n 8))):=Lib.hid ⟨(cpt_len n).symm,by
  unfold sizN cptL
  split
  ·exact .inl ⟨rfl,rfl⟩
  ·split
   ·exact .inr (.inl ⟨rfl,rfl⟩)
   ·split
    ·exact .inr (.inr (.inl ⟨rfl,rfl⟩))
    ·exact .inr (.inr (.inr ⟨rfl,rfl⟩))⟩
 generalize cptL n = C at *
 generalize sizN n = s at *
 go_enter Try.func65,Try.ntmps65
 go_wp2_with fail
 refine (S1.out _).mono ?_
 clear S1 HL
 rintro e w1 ⟨rfl,k1⟩
 obtain ⟨w2,hmk,own2,k2,hsz2⟩:=mk_bytes0 s (by omega) w1
 have hmk:=hmk _ rfl
 have hb1:=k1.size
 have Own2:=Lib.hid (own_base own2 hb1)
 have HK2:=Lib.hid (keep_trans k1 k2)
 clear own2 k1 k2
 generalize w1.heap.size = g at *
 go_upto_region 3 with fail
 clear hmk
 obtain ⟨-,hcs⟩:=HC.out
 rcases hcs with ⟨h1,h2⟩ | ⟨h1,h2⟩ | ⟨h1,h2⟩ | ⟨h1,h2⟩
 all_goals
  subst h1
  subst h2
 ·
  go_upto_region 4 with (at_builtin;refine wpList_app byteT (by rfl) _ _ (by rfl) w.heap.size _ 0 [] (by rfl) Own2.out _ 0 0 [] (by rfl) (by simp) (Rd.nil _ _) (by simp) (by omega) (by unfold maxLen;omega) (by have:=HK2.out.size;omega) ?_;intro v3 w3 ownv3 hgv3 hatv3;have Ownv3:=Lib.hid ownv3;have HKv3:=Lib.hid (keep_grown HK2.out (by have:=HK2.out.size;omega) hgv3 Own2.out);clear ownv3 hgv3 hatv3 Own2 HK2)
  obtain ⟨x,hx⟩ : ∃ x : UInt8,x = UInt8.ofNat n:=⟨_,rfl⟩
  have hb : (n : Int) % 256 = (x.toNat : Int):=by rw [hx,UInt8.toNat_ofNat'];omega
  have HX:=Lib.hid hx
  clear hx
  go_wp2_with (at_builtin;refine wpList_app byteT (by rfl) _ _ (by rfl) w.heap.size _ _ _ (by rfl) (Ownv3.out.alloc _) _ 1 1 [u8v x] (by rfl) (by rfl) (Rd.new _ _ _) (by simp [Value.oneCell']) (by omega) (by unfold maxLen;omega) (by have:=HKv3.out.size;simp;omega) ?_;intro v4 w4 ownv4 hgv4 hatv4;have Ownv4:=Lib.hid ownv4;have HKv4:=Lib.hid (keep_grown (HKv3.out.alloc (HKv3.out.size) _) (by have:=HKv3.out.size;simp;omega) hgv4 (Ownv3.out.alloc _));clear ownv4 hgv4 hatv4 Ownv3 HKv3)
  exact bodyPost_ret (v:=v4) (by simp [results,Try.results65]) rfl ⟨v4,rfl,own_eq Ownv4.out (by omega) (by rw [HX.out];rfl),HKv4.out⟩
 ·
  go_upto_region 4 with (at_builtin;refine wpList_app byteT (by rfl) _ _ (by rfl) w.heap.size _ 0 [] (by rfl) Own2.out _ 0 0 [] (by rfl) (by simp) (Rd.nil _ _) (by simp) (by omega) (by unfold maxLen;omega) (by have:=HK2.out.size;omega) ?_;intro v3 w3 ownv3 hgv3 hatv3;have Ownv3:=Lib.hid ownv3;have HKv3:=Lib.hid (keep_grown HK2.out (by have:=HK2.out.size;omega) hgv3 Own2.out);clear ownv3 hgv3 hatv3 Own2 HK2)
  go_upto_region 12 with (at_builtin;refine wpList_app byteT (by rfl) _ _ (by rfl) w.heap.size _ _ _ (by rfl) (Ownv3.out.alloc _) _ 1 1 [.int .u8 253] (by rfl) (by rfl) (Rd.new _ _ _) (by simp [Value.oneCell']) (by omega) (by unfold maxLen;omega) (by have:=HKv3.out.size;simp;omega) ?_;intro v4 w4 ownv4 hgv4 hatv4;have Ownv4:=Lib.hid ownv4;have HKv4:=Lib.hid (keep_grown (HKv3.out.alloc (HKv3.out.size) _) (by have:=HKv3.out.size;simp;omega) hgv4 (Ownv3.out.alloc _));clear ownv4 hgv4 hatv4 Ownv3 HKv3)
  have Own4 : Hid (w4.ownsRow w.heap.size 5 1 v4 (1 + 0) (((253 :: loN n 0) : List UInt8).map u8v)):=Lib.hid (own_eq Ownv4.out (by omega) (by simp [lo_zero]))
  clear Ownv4
  go_wp2_with fail
  go_loopw [6,41] (fun v c wr => ∃ k : Nat,k ≤ 2∧c = .int .i64 k∧Hid (wr.ownsRow w.heap.size 5 1 v (1 + k) (((253 :: loN n k) : List UInt8).map u8v))∧Hid (Keep w wr)) (fun _ c _ => 2 - (intOf c).toNat)
  case atStart => exact ⟨0,Nat.zero_le _,rfl,Own4,HKv4⟩
  case round =>
   obtain ⟨k,hk,rfl,Own5,HK5⟩:=hrel
   by_cases hlt : k < 2
   ·obtain ⟨x,hx⟩ : ∃ x : UInt8,x = UInt8.ofNat (n / 2 ^ (8 * k)):=⟨_,rfl⟩
    have hb : (n : Int) / 2 ^ (8 * k) % 256 = (x.toNat : Int):=by
     rw [hx,UInt8.toNat_ofNat',Int.natCast_emod,Int.natCast_ediv,Int.natCast_pow];rfl
    have HN:=Lib.hid (lo_succ n k)
    rw [← hx] at HN
    clear hx
    go_wp2_with (at_builtin;refine wpList_app byteT (by rfl) _ _ (by rfl) w.heap.size _ _ _ (by rfl) (Own5.out.alloc _) _ 1 1 [u8v x] (by rfl) (by rfl) (Rd.new _ _ _) (by simp [Value.oneCell']) (by omega) (by unfold maxLen;omega) (by have:=HK5.out.size;simp;omega) ?_;intro v6 w6 ownv6 hgv6 hatv6;have Ownv6:=Lib.hid ownv6;have HKv6:=Lib.hid (keep_grown (HK5.out.alloc (HK5.out.size) _) (by have:=HK5.out.size;simp;omega) hgv6 (Own5.out.alloc _));clear ownv6 hgv6 hatv6 Own5 HK5)
    clear hb
    go_roundw
    case rel => exact ⟨k + 1,by omega,by go_num,Lib.hid (own_eq Ownv6.out (by omega) (by rw [HN.out];simp)),HKv6⟩
    case measure => simp [intOf];omega
   ·obtain rfl : k = 2:=by omega
    go_wp2
    exact bodyPost_ret (by simp [results,Try.results65]) rfl ⟨_,rfl,own_eq Own5.out (by omega) rfl,HK5.out⟩
 ·
  go_upto_region 4 with (at_builtin;refine wpList_app byteT (by rfl) _ _ (by rfl) w.heap.size _ 0 [] (by rfl) Own2.out _ 0 0 [] (by rfl) (by simp) (Rd.nil _ _) (by simp) (by omega) (by unfold maxLen;omega) (by have:=HK2.out.size;omega) ?_;intro v3 w3 ownv3 hgv3 hatv3;have Ownv3:=Lib.hid ownv3;have HKv3:=Lib.hid (keep_grown HK2.out (by have:=HK2.out.size;omega) hgv3 Own2.out);clear ownv3 hgv3 hatv3 Own2 HK2)
  go_upto_region 12 with (at_builtin;refine wpList_app byteT (by rfl) _ _ (by rfl) w.heap.size _ _ _ (by rfl) (Ownv3.out.alloc _) _ 1 1 [.int .u8 254] (by rfl) (by rfl) (Rd.new _ _ _) (by simp [Value.oneCell']) (by omega) (by unfold maxLen;omega) (by have:=HKv3.out.size;simp;omega) ?_;intro v4 w4 ownv4 hgv4 hatv4;have Ownv4:=Lib.hid ownv4;have HKv4:=Lib.hid (keep_grown (HKv3.out.alloc (HKv3.out.size) _) (by have:=HKv3.out.size;simp;omega) hgv4 (Ownv3.out.alloc _));clear ownv4 hgv4 hatv4 Ownv3 HKv3)
  have Own4 : Hid (w4.ownsRow w.heap.size 5 1 v4 (1 + 0) (((254 :: loN n 0) : List UInt8).map u8v)):=Lib.hid (own_eq Ownv4.out (by omega) (by simp [lo_zero]))
  clear Ownv4
  go_wp2_with fail
  go_loopw [6,41] (fun v c wr => ∃ k : Nat,k ≤ 4∧c = .int .i64 k∧Hid (wr.ownsRow w.heap.size 5 1 v (1 + k) (((254 :: loN n k) : List UInt8).map u8v))∧Hid (Keep w wr)) (fun _ c _ => 4 - (intOf c).toNat)
  case atStart => exact ⟨0,Nat.zero_le _,rfl,Own4,HKv4⟩
  case round =>
   obtain ⟨k,hk,rfl,Own5,HK5⟩:=hrel
   by_cases hlt : k < 4
   ·obtain ⟨x,hx⟩ : ∃ x : UInt8,x = UInt8.ofNat (n / 2 ^ (8 * k)):=⟨_,rfl⟩
    have hb : (n : Int) / 2 ^ (8 * k) % 256 = (x.toNat : Int):=by
     rw [hx,UInt8.toNat_ofNat',Int.natCast_emod,Int.natCast_ediv,Int.natCast_pow];rfl
    have HN:=Lib.hid (lo_succ n k)
    rw [← hx] at HN
    clear hx
    go_wp2_with (at_builtin;refine wpList_app byteT (by rfl) _ _ (by rfl) w.heap.size _ _ _ (by rfl) (Own5.out.alloc _) _ 1 1 [u8v x] (by rfl) (by rfl) (Rd.new _ _ _) (by simp [Value.oneCell']) (by omega) (by unfold maxLen;omega) (by have:=HK5.out.size;simp;omega) ?_;intro v6 w6 ownv6 hgv6 hatv6;have Ownv6:=Lib.hid ownv6;have HKv6:=Lib.hid (keep_grown (HK5.out.alloc (HK5.out.size) _) (by have:=HK5.out.size;simp;omega) hgv6 (Own5.out.alloc _));clear ownv6 hgv6 hatv6 Own5 HK5)
    clear hb
    go_roundw
    case rel => exact ⟨k + 1,by omega,by go_num,Lib.hid (own_eq Ownv6.out (by omega) (by rw [HN.out];simp)),HKv6⟩
    case measure => simp [intOf];omega
   ·obtain rfl : k = 4:=by omega
    go_wp2
    exact bodyPost_ret (by simp [results,Try.results65]) rfl ⟨_,rfl,own_eq Own5.out (by omega) rfl,HK5.out⟩
 ·
  go_upto_region 4 with (at_builtin;refine wpList_app byteT (by rfl) _ _ (by rfl) w.heap.size _ 0 [] (by rfl) Own2.out _ 0 0 [] (by rfl) (by simp) (Rd.nil _ _) (by simp) (by omega) (by unfold maxLen;omega) (by have:=HK2.out.size;omega) ?_;intro v3 w3 ownv3 hgv3 hatv3;have Ownv3:=Lib.hid ownv3;have HKv3:=Lib.hid (keep_grown HK2.out (by have:=HK2.out.size;omega) hgv3 Own2.out);clear ownv3 hgv3 hatv3 Own2 HK2)
  go_upto_region 12 with (at_builtin;refine wpList_app byteT (by rfl) _ _ (by rfl) w.heap.size _ _ _ (by rfl) (Ownv3.out.alloc _) _ 1 1 [.int .u8 255] (by rfl) (by rfl) (Rd.new _ _ _) (by simp [Value.oneCell']) (by omega) (by unfold maxLen;omega) (by have:=HKv3.out.size;simp;omega) ?_;intro v4 w4 ownv4 hgv4 hatv4;have Ownv4:=Lib.hid ownv4;have HKv4:=Lib.hid (keep_grown (HKv3.out.alloc (HKv3.out.size) _) (by have:=HKv3.out.size;simp;omega) hgv4 (Ownv3.out.alloc _));clear ownv4 hgv4 hatv4 Ownv3 HKv3)
  have Own4 : Hid (w4.ownsRow w.heap.size 5 1 v4 (1 + 0) (((255 :: loN n 0) : List UInt8).map u8v)):=Lib.hid (own_eq Ownv4.out (by omega) (by simp [lo_zero]))
  clear Ownv4
  go_wp2_with fail
  go_loopw [6,41] (fun v c wr => ∃ k : Nat,k ≤ 8∧c = .int .i64 k∧Hid (wr.ownsRow w.heap.size 5 1 v (1 + k) (((255 :: loN n k) : List UInt8).map u8v))∧Hid (Keep w wr)) (fun _ c _ => 8 - (intOf c).toNat)
  case atStart => exact ⟨0,Nat.zero_le _,rfl,Own4,HKv4⟩
  case round =>
   obtain ⟨k,hk,rfl,Own5,HK5⟩:=hrel
   by_cases hlt : k < 8
   ·obtain ⟨x,hx⟩ : ∃ x : UInt8,x = UInt8.ofNat (n / 2 ^ (8 * k)):=⟨_,rfl⟩
    have hb : (n : Int) / 2 ^ (8 * k) % 256 = (x.toNat : Int):=by
     rw [hx,UInt8.toNat_ofNat',Int.natCast_emod,Int.natCast_ediv,Int.natCast_pow];rfl
    have HN:=Lib.hid (lo_succ n k)
    rw [← hx] at HN
    clear hx
    go_wp2_with (at_builtin;refine wpList_app byteT (by rfl) _ _ (by rfl) w.heap.size _ _ _ (by rfl) (Own5.out.alloc _) _ 1 1 [u8v x] (by rfl) (by rfl) (Rd.new _ _ _) (by simp [Value.oneCell']) (by omega) (by unfold maxLen;omega) (by have:=HK5.out.size;simp;omega) ?_;intro v6 w6 ownv6 hgv6 hatv6;have Ownv6:=Lib.hid ownv6;have HKv6:=Lib.hid (keep_grown (HK5.out.alloc (HK5.out.size) _) (by have:=HK5.out.size;simp;omega) hgv6 (Own5.out.alloc _));clear ownv6 hgv6 hatv6 Own5 HK5)
    clear hb
    go_roundw
    case rel => exact ⟨k + 1,by omega,by go_num,Lib.hid (own_eq Ownv6.out (by omega) (by rw [HN.out];simp)),HKv6⟩
    case measure => simp [intOf];omega
   ·obtain rfl : k = 8:=by omega
    go_wp2
    exact bodyPost_ret (by simp [results,Try.results65]) rfl ⟨_,rfl,own_eq Own5.out (by omega) rfl,HK5.out⟩
end Go.Proofs.Ytbgpgdhndanigaa
/- compact.Get, Bounded, Bytes. (printed by gen_vc.py) -/
set_option linter.unusedSimpArgs false
set_option linter.unusedVariables false
namespace Go.Proofs.Ytbgpgdhndanigaa
open Go.RowKit
attribute [local go_sem ↓] Go.wp_at_zero Go.wp_at_succ
theorem u64_or (n y k : Nat) (hk : k < 8) (hn : n < 2 ^ (8 * k)) (hy : y < 256) : bits .or .u64 (n : Int) (IntKind.u64.wrap ((y : Int) * 2 ^ (8 * k))) = ((n + y * 2 ^ (8 * k) : Nat) : Int):=by
 have hlt : y * 2 ^ (8 * k) < 2 ^ 64:=by
  have h1 : y * 2 ^ (8 * k) < 2 ^ 8 * 2 ^ (8 * k):=Nat.mul_lt_mul_of_pos_right (by omega) (Nat.two_pow_pos _)
  have h2 : (2 : Nat) ^ 8 * 2 ^ (8 * k) ≤ 2 ^ 64:=by rw [← Nat.pow_add];exact Nat.pow_le_pow_right (by omega) (by omega)
  omega
 have hn2 : n < 2 ^ 64:=Nat.lt_of_lt_of_le hn (Nat.pow_le_pow_right (by omega) (by omega))
 have e0 : (y : Int) * 2 ^ (8 * k) = ((y * 2 ^ (8 * k) : Nat) : Int):=by rw [Int.natCast_mul,Int.natCast_pow];rfl
 have e1 : (y : Int) * 2 ^ (8 * k) % 18446744073709551616 = ((y * 2 ^ (8 * k) : Nat) : Int):=by rw [e0];omega
 rw [IntKind.wrap_u64,e1]
 have hor : n ||| y * 2 ^ (8 * k) = n + y * 2 ^ (8 * k):=by
  rw [Nat.mul_comm y,Nat.or_comm,← Nat.two_pow_add_eq_or_of_lt hn y,Nat.add_comm]
 have hor2 : n + y * 2 ^ (8 * k) < 2 ^ 64:=by rw [← hor];exact Nat.or_lt_two_pow hn2 hlt
 show IntKind.u64.wrap ((BitVec.ofInt 64 n ||| BitVec.ofInt 64 (y * 2 ^ (8 * k) : Nat)).toNat : Nat) = _
 have e2 : (BitVec.ofInt 64 (n : Int) ||| BitVec.ofInt 64 (y * 2 ^ (8 * k) : Nat)).toNat = n + y * 2 ^ (8 * k):=by
  rw [BitVec.toNat_or,BitVec.toNat_ofInt,BitVec.toNat_ofInt,← hor]
  congr 1
  ·omega
  ·omega
 rw [e2,IntKind.wrap_u64]
 omega
set_option maxRecDepth 100000 in
set_option maxHeartbeats 4000000 in
theorem cget_any (A : Option Addr) (b : List UInt8) (c : Nat) (w : World) (hl : b.length ≤ 4611686018427387904) (hr : Rd w A (b.map u8v)) :
  Calls Try.prog 87 #[.slice A b.length c] w fun e w' => e = .returned (.tuple #[u64v (cgetN b).1,iv (cgetN b).2.1,iv (cgetN b).2.2])∧Keep w w':=by
 cases b with
 | nil =>
   go_enter Try.func87,Try.ntmps87
   go_wp2
   exact bodyPost_ret (v:=.tuple #[u64v 0,iv 0,iv 1]) (by simp [results,Try.results87]) rfl ⟨rfl,Below.refl _ _⟩
 | cons x t =>
 rw [cget_cons]
 obtain ⟨g,off,rfl,hg,hc⟩:=hr.at (k:=0) (by simp)
 have HC : Hid (∀ k,k < t.length → w.cell? ⟨g,off + (1 + k),none⟩ = some (u8v (t.getD k 0))):=Lib.hid fun k hk => by
  rw [hc (1 + k) (by simp;omega)]
  simp [Nat.add_comm 1 k,List.getD_eq_getElem?_getD,List.getElem?_eq_getElem hk]
 have c0 : w.cell? ⟨g,off,none⟩ = some (u8v x):=hc 0 (by simp)
 have BH : Hid (∀ y,Calls Try.prog 95 #[u8v x] y fun e w' => e = .returned (iv (behN x))∧Keep y w'):=Lib.hid fun y => behind_any x y
 have hb8 : behN x ≤ 8:=by rcases beh_cases x with q | q | q | q <;> omega
 have HS : Hid (∀ n y,Calls Try.prog 85 #[u64v n] y fun e w' => e = .returned (iv (sizN n))∧Keep y w'):=Lib.hid fun n y => csize_any n y
 have HN : Hid (∀ k,numN t k < 2 ^ (8 * k)∧numN t (k + 1) = numN t k + (t.getD k 0).toNat * 2 ^ (8 * k)):=Lib.hid fun k => ⟨numN_lt t k,rfl⟩
 have HN0 : Hid (numN t 0 = 0):=Lib.hid rfl
 rw [List.length_cons] at hl ⊢
 clear hc hr hg
 generalize behN x = m at *
 generalize t.length = L at *
 obtain ⟨nt,hnt⟩ : ∃ f,numN t = f:=⟨_,rfl⟩
 obtain ⟨tt,htt⟩ : ∃ f : Nat → UInt8,(fun k => t.getD k 0) = f:=⟨_,rfl⟩
 have htt' : ∀ k,t.getD k 0 = tt k:=fun k => by rw [← htt]
 rw [hnt] at HN HN0 ⊢
 simp only [htt'] at HC HN
 clear hnt htt htt'
 obtain ⟨R,hR⟩ : ∃ R,(if m = 0 then (x.toNat,1,(0 : Int)) else if L < m then (0,0,1) else if sizN (nt m) = 1 + m then (nt m,1 + m,0) else (0,0,2)) = R:=⟨_,rfl⟩
 rw [hR]
 have HR:=Lib.hid hR
 clear hR
 have hw8 : IntKind.u64.wrap (x.toNat : Int) = x.toNat:=by rw [IntKind.wrap_u64];have:=x.toNat_lt;omega
 have HK : Hid (Keep w w):=Lib.hid (Below.refl _ _)
 go_enter Try.func87,Try.ntmps87
 have hL : (((L + 1 : Nat) : Int) == 0) = false:=by rw [beq_eq_false_iff_ne];omega
 go_wp2_with fail
 refine (BH.out _).mono ?_
 clear BH
 rintro e w1 ⟨rfl,k1⟩
 have c0:=keep_cell k1 c0
 have HK1:=Lib.hid (keep_trans HK.out k1)
 clear k1 HK
 by_cases hm : m = 0
 ·have hv:=HR.out
  rw [if_pos hm] at hv
  subst hv
  clear HR
  have d1 : ((m : Int) == 0) = true:=by simp [hm]
  clear hm
  go_wp2
  exact bodyPost_ret (v:=.tuple #[u64v x.toNat,iv 1,iv 0]) (by simp [results,Try.results87]) rfl ⟨rfl,HK1.out⟩
 have hv:=HR.out
 rw [if_neg hm] at hv
 have d1 : ((m : Int) == 0) = false:=by rw [beq_eq_false_iff_ne];omega
 by_cases hlm : L < m
 ·rw [if_pos hlm] at hv
  subst hv
  clear HR
  have d2 : (L : Int) + 1 < 1 + (m : Int):=by omega
  clear c0
  go_wp2
  exact bodyPost_ret (v:=.tuple #[u64v 0,iv 0,iv 1]) (by simp [results,Try.results87]) rfl ⟨rfl,HK1.out⟩
 rw [if_neg hlm] at hv
 replace HR:=Lib.hid hv
 clear hv
 have d2 : ¬ (L : Int) + 1 < 1 + (m : Int):=by omega
 clear c0
 go_wp2_with fail
 clear d1 d2
 go_loopw [6,27] (fun v c wr => ∃ k : Nat,k ≤ m∧c = .int .i64 k∧v = .int .u64 (nt k : Nat)∧w1 = wr) (fun _ c _ => m - (intOf c).toNat)
 case atStart => exact ⟨0,Nat.zero_le _,rfl,by rw [HN0.out];rfl,rfl⟩
 case round =>
  obtain ⟨k,hk,rfl,rfl,rfl⟩:=hrel
  by_cases hlt : k < m
  ·have c0:=keep_cell HK1.out (HC.out k (by omega))
   obtain ⟨h1,h2⟩:=HN.out k
   have hy:=(tt k).toNat_lt
   have hor:=u64_or (nt k) (tt k).toNat k (by omega) h1 (by omega)
   rw [← h2] at hor
   clear h1 h2
   obtain ⟨n1,hn1⟩ : ∃ n1,nt (k + 1) = n1:=⟨_,rfl⟩
   rw [hn1] at hor
   have HNX : Hid (n1 = nt (k + 1)):=Lib.hid hn1.symm
   clear hn1
   generalize nt k = n0 at *
   generalize tt k = y at *
   go_wp2
   go_roundw
   case rel => exact ⟨k + 1,by omega,by go_num,by rw [← HNX.out],by first | rfl | trivial⟩
   case measure => simp [intOf];omega
  ·obtain rfl : k = m:=by omega
   have d2 : ¬ (k : Int) < k:=by omega
   go_wp2_with fail
   refine (HS.out _ _).mono ?_
   clear HS HC HN HN0
   rintro e w2 ⟨rfl,k2⟩
   have HK2:=Lib.hid (keep_trans HK1.out k2)
   clear k2 HK1
   have hv:=HR.out
   generalize nt k = n at *
   by_cases hs : sizN n = 1 + k
   ·rw [if_pos hs] at hv
    subst hv
    have d3 : ((sizN n : Int) != 1 + (k : Int)) = false:=by rw [bne_eq_false_iff_eq];omega
    clear HR hs
    generalize sizN n = sn at *
    go_wp2
    exact bodyPost_ret (v:=.tuple #[u64v n,iv (1 + k),iv 0]) (by simp [results,Try.results87]) rfl ⟨by simp,HK2.out⟩
   ·rw [if_neg hs] at hv
    subst hv
    have d3 : ((sizN n : Int) != 1 + (k : Int)) = true:=by rw [bne_iff_ne];omega
    clear HR hs
    generalize sizN n = sn at *
    go_wp2
    exact bodyPost_ret (v:=.tuple #[u64v 0,iv 0,iv 2]) (by simp [results,Try.results87]) rfl ⟨rfl,HK2.out⟩
set_option maxRecDepth 100000 in
set_option maxHeartbeats 4000000 in
theorem bnd_any (A : Option Addr) (b : List UInt8) (c most : Nat) (w : World) (hl : b.length ≤ 4611686018427387904) (hr : Rd w A (b.map u8v)) :
  Calls Try.prog 72 #[.slice A b.length c,u64v most] w fun e w' => e = .returned (.tuple #[iv (bndN b most).1,iv (bndN b most).2.1,iv (bndN b most).2.2])∧Keep w w':=by
 have G1 : Hid (Calls Try.prog 87 #[.slice A b.length c] w fun e w' => e = .returned (.tuple #[u64v (cgetN b).1,iv (cgetN b).2.1,iv (cgetN b).2.2])∧Keep w w'):=Lib.hid (cget_any A b c w hl hr)
 have HB : Hid (∀ R,bndN b most = R → R = if (cgetN b).2.2 = 0 then if most < (cgetN b).1 ∨ 2147483647 < (cgetN b).1 then (0,0,3) else cgetN b else (0,0,(cgetN b).2.2)):=Lib.hid fun R h => by subst h;rfl
 replace HB:=Lib.hid (HB.out _ rfl)
 clear hr
 generalize bndN b most = R at *
 generalize cgetN b = G at *
 obtain ⟨n,k,e0⟩:=G
 generalize b.length = L at *
 simp only at G1 HB
 go_enter Try.func72,Try.ntmps72
 go_wp2_with fail
 refine G1.out.mono ?_
 clear G1
 rintro e w1 ⟨rfl,k1⟩
 have HK1:=Lib.hid k1
 clear k1
 have hv:=HB.out
 by_cases h0 : e0 = 0
 ·subst h0
  rw [if_pos rfl] at hv
  by_cases h1 : most < n
  ·rw [if_pos (.inl h1)] at hv
   subst hv
   have d1 : (most : Int) < n:=by omega
   clear HB h1
   go_wp2
   exact bodyPost_ret (v:=.tuple #[iv 0,iv 0,iv 3]) (by simp [results,Try.results72]) rfl ⟨rfl,HK1.out⟩
  ·have d1 : ¬ (most : Int) < n:=by omega
   by_cases h2 : 2147483647 < n
   ·rw [if_pos (.inr h2)] at hv
    subst hv
    have d2 : decide ((2147483647 : Int) < n) = true:=decide_eq_true (by omega)
    clear HB h1 h2
    go_wp2
    exact bodyPost_ret (v:=.tuple #[iv 0,iv 0,iv 3]) (by simp [results,Try.results72]) rfl ⟨rfl,HK1.out⟩
   ·rw [if_neg (by omega)] at hv
    subst hv
    have d2 : decide ((2147483647 : Int) < n) = false:=decide_eq_false (by omega)
    have hw : IntKind.i64.wrap (n : Int) = n:=IntWalk.i64_in _ (by omega)
    clear HB h1 h2
    go_wp2
    exact bodyPost_ret (v:=.tuple #[iv n,iv k,iv 0]) (by simp [results,Try.results72]) rfl ⟨rfl,HK1.out⟩
 ·rw [if_neg h0] at hv
  subst hv
  have d1 : (e0 != 0) = true:=by rw [bne_iff_ne];exact h0
  clear HB
  go_wp2
  exact bodyPost_ret (v:=.tuple #[iv 0,iv 0,iv e0]) (by simp [results,Try.results72]) rfl ⟨rfl,HK1.out⟩
theorem bnd_rng (b : List UInt8) (most : Nat) (hm : (bndN b most).2.2 = 0) : (bndN b most).1 ≤ most∧(bndN b most).1 ≤ 2147483647∧(bndN b most).2.1 ≤ b.length∧(bndN b most).2.1 ≤ 9∧1 ≤ (bndN b most).2.1:=by
 unfold bndN at hm ⊢
 split
 ·rename_i h0
  rw [if_pos h0] at hm
  split
  ·rename_i h1
   rw [if_pos h1] at hm;cases hm
  ·rename_i h1
   rcases hG : cgetN b with ⟨n,k,e⟩
   rw [hG] at h0 h1
   simp only at h0 h1
   subst h0
   obtain ⟨q1,-,q3,-⟩:=cget_once hG
   have:=siz_le n
   refine ⟨?_,?_,?_,?_,?_⟩ <;> simp only <;> omega
 ·rename_i h0
  rw [if_neg h0] at hm
  exact absurd hm h0
set_option maxRecDepth 100000 in
set_option maxHeartbeats 4000000 in
theorem cbytes_any (A : Option Addr) (b : List UInt8) (c most : Nat) (w : World) (hl : b.length ≤ 140737488355328) (hc : b.length ≤ c) (hm : most ≤ 2147483647) (hr : Rd w A (b.map u8v)) :
  Calls Try.prog 54 #[.slice A b.length c,iv most] w fun e w' => ∃ v,e = .returned (.tuple #[v,iv (bytN b most).2.1,iv (bytN b most).2.2])∧w'.ownsRow w.heap.size 5 1 v (bytN b most).1.length ((bytN b most).1.map u8v)∧Keep w w':=by
 have G1 : Hid (Calls Try.prog 72 #[.slice A b.length c,u64v most] w fun e w' => e = .returned (.tuple #[iv (bndN b most).1,iv (bndN b most).2.1,iv (bndN b most).2.2])∧Keep w w'):=Lib.hid (bnd_any A b c most w (by omega) hr)
 have HRG:=Lib.hid (bnd_rng b most)
 have HB : Hid (∀ R,bytN b most = R → R = if (bndN b most).2.2 = 0 then if b.length - (bndN b most).2.1 < (bndN b most).1 then ([],0,1) else ((b.drop (bndN b most).2.1).take (bndN b most).1,(bndN b most).2.1 + (bndN b most).1,0) else ([],0,(bndN b most).2.2)):=Lib.hid fun R h => by subst h;rfl
 replace HB:=Lib.hid (HB.out _ rfl)
 have RB:=Lib.hid hr
 clear hr
 generalize bytN b most = R at *
 generalize bndN b most = G at *
 obtain ⟨n,k,e0⟩:=G
 have CL : Hid (∀ y A' l' n' c',Keep w y → (l' : List UInt8).length = n' → n' ≤ 140737488355328 → Rd y A' (l'.map u8v) → Calls Try.prog 73 #[.slice A' n' c'] y fun e w' => ∃ v,e = .returned v∧w'.ownsRow y.heap.size 5 1 v n' (l'.map u8v)∧Keep y w'):=Lib.hid fun y A' l' n' c' hy h1 h2 h3 => by subst h1;exact clone_any A' l' c' y h2 h3
 have HLB : Hid (∀ L,b.length = L → b.length = L):=Lib.hid fun _ h => h
 obtain ⟨L,hL⟩ : ∃ L,b.length = L:=⟨_,rfl⟩
 have HLL:=Lib.hid hL
 rw [hL] at HB G1 HRG hl hc ⊢
 clear hL HLB
 simp only at G1 HB HRG
 have hmx : max (most : Int) 0 = (most : Int):=by omega
 have hm1 : ¬ (most : Int) < 0:=by omega
 have hmw : IntKind.u64.wrap (most : Int) = (most : Int):=by rw [IntKind.wrap_u64];omega
 have hmw2 : (most : Int) % 18446744073709551616 = most:=by omega
 go_enter Try.func54,Try.ntmps54
 go_wp2_with fail
 refine G1.out.mono ?_
 clear G1
 rintro e w1 ⟨rfl,k1⟩
 have HK1:=Lib.hid k1
 clear k1
 have hv:=HB.out
 by_cases h0 : e0 = 0
 ·subst h0
  rw [if_pos rfl] at hv
  obtain ⟨q1,q2,q3,q4⟩:=HRG.out rfl
  by_cases h1 : L - k < n
  ·rw [if_pos h1] at hv
   subst hv
   have d1 : (L : Int) - k < n:=by omega
   have hw : IntKind.i64.wrap ((L : Int) - k) = (L : Int) - k:=IntWalk.i64_in _ (by omega)
   clear HB h1 HRG
   go_wp2
   exact bodyPost_ret (v:=.tuple #[.slice none 0 0,iv 0,iv 1]) (by simp [results,Try.results54]) rfl ⟨_,rfl,World.ownsRow_nil _ _ _ _,HK1.out⟩
  ·rw [if_neg h1] at hv
   have d1 : ¬ (L : Int) - k < n:=by omega
   have hw : IntKind.i64.wrap ((L : Int) - k) = (L : Int) - k:=IntWalk.i64_in _ (by omega)
   have hw2 : IntKind.i64.wrap ((k : Int) + n) = (k : Int) + n:=IntWalk.i64_in _ (by omega)
   have hlen : ((b.drop k).take n).length = n:=by rw [List.length_take,List.length_drop,HLL.out];omega
   have HLEN:=Lib.hid hlen
   have HV:=Lib.hid hv
   clear hlen hv HB HRG
   by_cases hA : A = none
   ·subst hA
    have hL0 : L = 0:=by
     rw [← HLL.out]
     rcases RB.out with q | ⟨_,_,q,_⟩
     ·simpa using q
     ·cases q
    obtain rfl : k = 0:=by omega
    obtain rfl : n = 0:=by omega
    subst hL0
    go_wp2_with fail
    all_goals
     with_reducible refine (CL.out _ _ ((b.drop 0).take 0) _ _ HK1.out HLEN.out (by omega) ?_).mono ?_
     ·have e0 : (b.drop 0).take 0 = []:=by simp
      rw [e0];exact Rd.nil _ _
     clear CL
     rintro e w2 ⟨v,rfl,hown,k2⟩
     have HOWN:=Lib.hid (own_base hown HK1.out.size)
     have HK2:=Lib.hid (keep_trans HK1.out k2)
     have hv:=HV.out
     subst hv
     clear hown k2 HK1 HV
     go_wp2
     exact bodyPost_ret (v:=.tuple #[v,iv 0,iv 0]) (by simp [results,Try.results54]) rfl ⟨_,by simp,own_eq HOWN.out (by have q:=HLEN.out;first | exact q.symm | (rw [List.length_take,List.length_drop] at q;omega)) (by first | rfl | simp),HK2.out⟩
   ·obtain ⟨a,rfl⟩ : ∃ a,A = some a:=by cases A with | none => exact absurd rfl hA | some a => exact ⟨a,rfl⟩
    go_wp2_with fail
    all_goals
     with_reducible refine (CL.out _ _ ((b.drop k).take n) _ _ HK1.out HLEN.out (by omega) ?_).mono ?_
     ·first
      | (have q:=((RB.out.keep HK1.out).dropN (k:=k) (by rw [List.length_map,HLL.out];omega)).take n
         rw [← List.map_drop,← List.map_take] at q
         exact q)
      | (have e0 : (b.drop k).take n = []:=List.eq_nil_of_length_eq_zero (by rw [HLEN.out];omega)
         rw [e0];exact Rd.nil _ _)
     clear CL
     rintro e w2 ⟨v,rfl,hown,k2⟩
     have HOWN:=Lib.hid (own_base hown HK1.out.size)
     have HK2:=Lib.hid (keep_trans HK1.out k2)
     have hv:=HV.out
     subst hv
     clear hown k2 HK1 HV
     go_wp2
     exact bodyPost_ret (v:=.tuple #[v,iv ((k : Int) + n),iv 0]) (by simp [results,Try.results54]) rfl ⟨_,by simp,own_eq HOWN.out (by have q:=HLEN.out;first | exact q.symm | (rw [List.length_take,List.length_drop] at q;omega)) (by first | rfl | simp),HK2.out⟩
 ·rw [if_neg h0] at hv
  subst hv
  have d1 : (e0 != 0) = true:=by rw [bne_iff_ne];exact h0
  clear HB HRG
  go_wp2
  exact bodyPost_ret (v:=.tuple #[.slice none 0 0,iv 0,iv e0]) (by simp [results,Try.results54]) rfl ⟨_,rfl,World.ownsRow_nil _ _ _ _,HK1.out⟩
end Go.Proofs.Ytbgpgdhndanigaa
