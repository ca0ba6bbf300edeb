/- Texts merged by pack.py: ShP, Sha, HdA, HdE, UP, UA, Na, Nb, Nbf. -/
import Derived.Test.YtmbbknjddebhoaaGreatDoorRows
import Derived.Test.YtmbbknjddebhoaaGreatDoorCx2
import Derived.Deep.RegionHeld3
import Derived.Deep.DrawnRows
import Derived.Deep.DeepCutAuto
import Derived.Deep.RegionLaw
import Derived.Deep.MidRow
import Derived.Deep.WholeRow
import Derived.Lib.EndianBits
import Derived.Laws.ResultCell
import Derived.Stop.BytesEq
import Derived.Lib.BitFns
/- Whole variables loaded and stored; hashes as values. -/
set_option linter.unusedSimpArgs false
set_option linter.unusedVariables false
namespace Go.Proofs.YtmbbknjddebhoaaGreatDoor
open Go.RowKit
attribute [local go_sem ↓] Go.wp_at_zero Go.wp_at_succ
section
variable {P : Program} {w : World} {ops : Array Oper} {rest : List Oper} {a : Act} {Q : Exit → Act → World → Prop} {x y : Operand} {dst : Option Tmp} {ty ty' t : TypeId} {pos : String} {af : Array Edge}
theorem arr_row (n : Nat) (e : TypeId) : (TypeDesc.array n e).isRow = true:=rfl
theorem load_blk (g : Nat) (cs : List Value) (hx : a.eval x = .pointer (some ⟨g,0,none⟩)) (hb : Blk w g t cs) (d : TypeDesc) (hu : P.underlying ty = some d) (hd : d.isRow = true) (hi : (P.info? ty).map (·.size) = some cs.length)
  (h : wpList P ops Q rest (a.put dst (.agg cs.toArray)) w) : wpList P ops Q ({ dst:=dst,op:=.load ty x,type:=ty',pos:=pos,after:=af,guard:=none } :: rest) a w :=
 wpList_load_mid rfl ty x rfl g 0 hx cs d (fun j v hv => by rw [Nat.zero_add,hb.cell];exact hv) hu hd hi h
theorem load_arr (g : Nat) (cs : Array Value) (hx : a.eval x = .pointer (some ⟨g,0,none⟩)) (hb : Blk w g t cs.toList) (d : TypeDesc) (hu : P.underlying ty = some d) (hd : d.isRow = true) (hi : (P.info? ty).map (·.size) = some cs.size)
  (h : wpList P ops Q rest (a.put dst (.agg cs)) w) : wpList P ops Q ({ dst:=dst,op:=.load ty x,type:=ty',pos:=pos,after:=af,guard:=none } :: rest) a w :=
 load_blk g cs.toList hx hb d hu hd (by simpa using hi) h
end
def w32 (n : Int) : UInt32:=UInt32.ofNat n.toNat
theorem w32_of {n : Int} (h0 : 0 ≤ n) (h1 : n ≤ 4294967295) : n = ((w32 n).toNat : Int):=by
 unfold w32;rw [UInt32.toNat_ofNat'];omega
theorem w32_hi (x : UInt32) : (x.toNat : Int) ≤ 4294967295:=by have:=x.toNat_lt;omega
theorem one_w32 (l : List UInt32) : ∀ u ∈ l.map u32v,u.oneCell' = true:=by
 intro u hu;obtain ⟨x,_,rfl⟩:=List.mem_map.1 hu;rfl
theorem set_map (l : List UInt32) (k : Nat) (E : Int) (h0 : 0 ≤ E) (h1 : E ≤ 4294967295) : (l.set k (w32 E)).map u32v = (l.map u32v).set k (.int .u32 E):=by
 rw [List.map_set];unfold u32v;rw [← w32_of h0 h1]
theorem getD_of {α : Type} {l : List α} {k : Nat} {d y : α} (h : l[k]? = some y) : l.getD k d = y:=by simp [h]
theorem run_store_blk {P : Program} {w : World} {g : Nat} {t : TypeId} {old : List Value} (cs : List Value) (hb : Blk w g t old) (ho : old.length = cs.length) (h1 : ∀ v ∈ cs,v.oneCell' = true) :
  ∃ w',(storeCells ⟨g,0,none⟩ cs 0).run P w = .ok () w'∧Blk w' g t cs∧w.grownBy w' (some g):=by
 refine ⟨_,run_storeCells_from g t cs 0 old.toArray w hb (by simp [ho]) h1,?_,rfl,rfl,rfl,by simp [World.setRow],fun k _ hne => setRow_other w g k _ (fun e => hne (by rw [e]))⟩
 have:=setRow_heap w g old.toArray cs.toArray t (0,0) hb
 simpa [Blk] using this
theorem byteW : ElT Tryz.prog 58 5 (.int .u8 0) 1 1:=ElT.mk' Tryz.underlying58 (by kernel_rfl) rfl (by omega)
theorem one_w8 (l : List UInt8) : ∀ u ∈ l.map u8v,u.oneCell' = true:=by
 intro u hu;obtain ⟨x,_,rfl⟩:=List.mem_map.1 hu;rfl
def zb (n : Nat) : Array Value:=madeCells #[.int .u8 0] (n * 1)
theorem zb_list (n : Nat) : (zb n).toList = (List.replicate n (0 : UInt8)).map u8v:=by
 apply List.ext_getElem
 ·simp [zb,madeCells]
 ·intro i h1 h2
  simp [zb,madeCells,Nat.mod_one]
theorem zb_blk (w : World) (n : Nat) : Blk (w.alloc (.cells (zb n) 5)) w.heap.size 5 ((List.replicate n (0 : UInt8)).map u8v):=by
 rw [← zb_list];exact Blk.new w _ (zb n).toList
theorem make_bytes (k c : Nat) (hk : k ≤ c) (hc : c ≤ 1000000) (W : World) : (Instr.makeSlice 58 (.int .i64 (k : Int)) (.int .i64 (c : Int))).run Tryz.prog W = .ok (.slice (some ⟨W.heap.size,0,none⟩) k c) (W.alloc (.cells (zb c) 5)):=by
 rw [byteW.make k c hk (by omega) (by omega) W];rfl
theorem make_blk (k c : Nat) (i j : Int) (hi : i = k) (hj : j = c) (hk : k ≤ c) (hc : c ≤ 1000000) (W : World) : ∃ W',(Instr.makeSlice 58 (.int .i64 i) (.int .i64 j)).run Tryz.prog W = .ok (.slice (some ⟨W.heap.size,0,none⟩) k c) W' ∧
  Blk W' W.heap.size 5 ((List.replicate c (0 : UInt8)).map u8v)∧Keep W W'∧W'.heap.size = W.heap.size + 1:=by
 subst hi hj
 exact ⟨_,make_bytes k c hk hc W,zb_blk W c,keep_new _ _,by simp⟩
def w8 (n : Int) : UInt8:=UInt8.ofNat n.toNat
theorem w8_of {n : Int} (h0 : 0 ≤ n) (h1 : n ≤ 255) : n = ((w8 n).toNat : Int):=by
 unfold w8;rw [UInt8.toNat_ofNat'];omega
theorem set_map8 (l : List UInt8) (k : Nat) (E : Int) (h0 : 0 ≤ E) (h1 : E ≤ 255) : (l.set k (w8 E)).map u8v = (l.map u8v).set k (.int .u8 E):=by
 rw [List.map_set];unfold u8v;rw [← w8_of h0 h1]
theorem own_made {w : World} {base g c : Nat} {e : TypeId} (h : Blk w g e ((List.replicate c (0 : UInt8)).map u8v)) (hb : base ≤ g) (hc : c ≤ maxLen) : w.ownsRow base e 1 (.slice (some ⟨g,0,none⟩) 0 c) 0 []:=by
 have h2 : w.heap[g]? = some (.cells (splice ((List.replicate c (0 : UInt8)).map u8v) 0 []).toArray e (0,0)):=by
  rw [show splice ((List.replicate c (0 : UInt8)).map u8v) 0 [] = (List.replicate c (0 : UInt8)).map u8v by simp [splice]]
  exact h
 exact own_fill h2 hb rfl (by simp) (Nat.zero_le _) hc
theorem Rd.dropS {w : World} {A : Option Addr} {xs : List Value} (h : Rd w A xs) (k c : Nat) (hk : k ≤ xs.length) (hc : xs.length ≤ c) :
  Rd w (if c = k then A else A.map (fun x => (⟨x.block,x.off + k,none⟩ : Addr))) (xs.drop k):=by
 split
 ·exact .inl (List.drop_eq_nil_of_le (by omega))
 ·rcases h with rfl | ⟨b,off,rfl,hcell⟩
  ·exact .inl (by simp)
  ·refine .inr ⟨b,off + k,rfl,fun j hj => ?_⟩
   simp at hj
   rw [Nat.add_assoc,hcell (k + j) (by omega)];simp
abbrev hashV (h : List UInt8) : Value:=.agg (h.map u8v).toArray
theorem z32_blk (w : World) (n : Nat) (t : TypeId) (hn : n = w.heap.size) : Blk (w.alloc (.cells #[.int .u8 0,.int .u8 0,.int .u8 0,.int .u8 0,.int .u8 0,.int .u8 0,.int .u8 0,.int .u8 0,.int .u8 0,.int .u8 0,.int .u8 0,.int .u8 0,.int .u8 0,.int .u8 0,.int .u8 0,.int .u8 0,.int .u8 0,.int .u8 0,.int .u8 0,.int .u8 0,.int .u8 0,.int .u8 0,.int .u8 0,.int .u8 0,.int .u8 0,.int .u8 0,.int .u8 0,.int .u8 0,.int .u8 0,.int .u8 0,.int .u8 0,.int .u8 0] t)) n t ((List.replicate 32 (0 : UInt8)).map u8v):=hn ▸ Blk.new w t ((List.replicate 32 (0 : UInt8)).map u8v)
noncomputable def zhash : Array Value:=match (Tryz.prog.info? 28).bind (·.zero) with | some (.agg c) => c | _ => #[]
theorem zhash_size : zhash.size = 32:=by kernel_rfl
theorem zhash_zero (w : World) : (zeroValue 28).run Tryz.prog w = .ok (.agg zhash) w:=by kernel_rfl
theorem zhash_list : zhash.toList = (List.replicate 32 (0 : UInt8)).map u8v:=by kernel_rfl
theorem hash_under : Tryz.prog.underlying 28 = some (.array 32 5):=by kernel_rfl
structure HashA (h : List UInt8) (cs : Array Value) : Prop where
 l : cs.toList = h.map u8v
 z : cs.size = 32
 i : (Tryz.prog.info? 28).map (·.size) = some cs.size
 n : ¬ cs = #[]
 o : ∀ v ∈ cs.toList,v.oneCell' = true
 e : (h.map u8v).toArray = cs
theorem HashA.of {h : List UInt8} (hl : h.length = 32) : HashA h (h.map u8v).toArray:=by
 have hz : (h.map u8v).toArray.size = 32:=by simp [hl]
 refine ⟨rfl,hz,by rw [hz];kernel_rfl,fun e => by rw [e] at hz;simp at hz,?_,rfl⟩
 exact one_w8 h
end Go.Proofs.YtmbbknjddebhoaaGreatDoor
/- SHA-256: its words. -/
set_option linter.unusedSimpArgs false
set_option linter.unusedVariables false
namespace Go.Proofs.YtmbbknjddebhoaaGreatDoor
open Go.RowKit
attribute [local go_sem ↓] Go.wp_at_zero Go.wp_at_succ
def rotL (x : UInt32) (s : Nat) : UInt32:=w32 (bits .or .u32 ((x.toNat : Int) * 2 ^ s % 4294967296) ((x.toNat : Int) / 2 ^ (32 - s)))
set_option maxHeartbeats 400000 in
theorem rotl_any (x : UInt32) (k : Int) (s : Nat) (w : World) (hs : bits BinOp.and IntKind.u64 (IntKind.u64.wrap k) 31 = s) (hs1 : 1 ≤ s) (hs2 : s ≤ 31) :
  Calls Tryz.prog 114 #[u32v x,.int .i64 k] w fun e w' => e = .returned (u32v (rotL x s))∧w = w':=by
 have hx:=w32_hi x
 go_enter Tryz.func114,Tryz.ntmps114
 go_wp2
 go_ret
 exact ⟨ret_int (w32_of (bits_lo_u32 _ _ _) (bits_hi_u32 _ _ _)),rfl⟩
def rotR (x : UInt32) (n : Nat) : UInt32:=rotL x (32 - n)
set_option maxHeartbeats 400000 in
theorem turned_any (x : UInt32) (k : Int) (w : World) (hs : bits BinOp.and IntKind.u64 (IntKind.u64.wrap (-k)) 31 = (32 - k.toNat : Nat)) (hs1 : 1 ≤ k.toNat) (hs2 : k.toNat ≤ 31) :
  Calls Tryz.prog 106 #[u32v x,.int .i64 k] w fun e w' => e = .returned (u32v (rotR x k.toNat))∧w = w':=by
 go_enter Tryz.func106,Tryz.ntmps106
 go_wp2_with fail
 refine (rotl_any x (-k) (32 - k.toNat) w hs (by omega) (by omega)).mono ?_
 rintro e w1 ⟨rfl,rfl⟩
 go_wp2
 go_ret
 exact ⟨rfl,rfl⟩
def z64 : List UInt32:=List.replicate 64 0
def beE (y0 y1 y2 y3 : UInt8) : Int:=bits .or .u32 (bits .or .u32 (bits .or .u32 ((y0.toNat : Int) % 4294967296 * 16777216 % 4294967296) ((y1.toNat : Int) % 4294967296 * 65536 % 4294967296)) ((y2.toNat : Int) % 4294967296 * 256 % 4294967296)) ((y3.toNat : Int) % 4294967296)
def be32 (b : List UInt8) (k : Nat) : UInt32:=w32 (beE (b.getD (4 * k) 0) (b.getD (4 * k + 1) 0) (b.getD (4 * k + 2) 0) (b.getD (4 * k + 3) 0))
def wdE (x y a c : UInt32) : Int:=(bits .xor .u32 (bits .xor .u32 ((rotR y 17).toNat : Int) ((rotR y 19).toNat : Int)) ((y.toNat : Int) / 1024) + (a.toNat : Int) + bits .xor .u32 (bits .xor .u32 ((rotR x 7).toNat : Int) ((rotR x 18).toNat : Int)) ((x.toNat : Int) / 8) + (c.toNat : Int)) % 4294967296
def wd2 (l : List UInt32) : Nat → List UInt32
 | 0 => l
 | j + 1 => (wd2 l j).set (j + 16) (w32 (wdE ((wd2 l j).getD (j + 1) 0) ((wd2 l j).getD (j + 14) 0) ((wd2 l j).getD (j + 9) 0) ((wd2 l j).getD j 0)))
theorem wd2_len (l : List UInt32) (j : Nat) : (wd2 l j).length = l.length:=by
 induction j with
 | zero => rfl
 | succ j ih => rw [wd2,List.length_set,ih]
def wd1 (b : List UInt8) : Nat → List UInt32
 | 0 => z64
 | k + 1 => (wd1 b k).set k (be32 b k)
theorem wd1_len (b : List UInt8) (k : Nat) : (wd1 b k).length = 64:=by
 induction k with
 | zero => rfl
 | succ k ih => rw [wd1,List.length_set,ih]
def wordsL (b : List UInt8) : List UInt32:=wd2 (wd1 b 16) 48
theorem z64_blk (w : World) (n : Nat) (hn : n = w.heap.size) : Blk (w.alloc (.cells #[.int .u32 0,.int .u32 0,.int .u32 0,.int .u32 0,.int .u32 0,.int .u32 0,.int .u32 0,.int .u32 0,.int .u32 0,.int .u32 0,.int .u32 0,.int .u32 0,.int .u32 0,.int .u32 0,.int .u32 0,.int .u32 0,.int .u32 0,.int .u32 0,.int .u32 0,.int .u32 0,.int .u32 0,.int .u32 0,.int .u32 0,.int .u32 0,.int .u32 0,.int .u32 0,.int .u32 0,.int .u32 0,.int .u32 0,.int .u32 0,.int .u32 0,.int .u32 0,.int .u32 0,.int .u32 0,.int .u32 0,.int .u32 0,.int .u32 0,.int .u32 0,.int .u32 0,.int .u32 0,.int .u32 0,.int .u32 0,.int .u32 0,.int .u32 0,.int .u32 0,.int .u32 0,.int .u32 0,.int .u32 0,.int .u32 0,.int .u32 0,.int .u32 0,.int .u32 0,.int .u32 0,.int .u32 0,.int .u32 0,.int .u32 0,.int .u32 0,.int .u32 0,.int .u32 0,.int .u32 0,.int .u32 0,.int .u32 0,.int .u32 0,.int .u32 0] 152)) n 152 (z64.map u32v):=hn ▸ Blk.new w _ (z64.map u32v)
set_option maxRecDepth 100000 in
set_option maxHeartbeats 3000000 in
theorem words_any (A : Option Addr) (b : List UInt8) (c : Nat) (w : World) (hb : b.length = 64) (hr : Rd w A (b.map u8v)) :
  Calls Tryz.prog 105 #[.slice A 64 c] w fun e w' => e = .returned (.agg ((wordsL b).map u32v).toArray)∧Keep w w':=by
 go_enter Tryz.func105,Tryz.ntmps105
 go_wp2_with fail
 go_loopw [10] (fun i wr => ∃ k : Nat,k ≤ 16∧i = .int .i64 k∧Keep w wr∧Blk wr w.heap.size 152 (z64.map u32v)∧Blk wr (w.heap.size + 1) 152 ((wd1 b k).map u32v)) (fun i _ => 16 - (intOf i).toNat)
 case atStart => exact ⟨0,by omega,rfl,keep_trans (keep_new _ _) (keep_new _ _),(z64_blk _ _ rfl).alloc _,z64_blk _ _ (by simp)⟩
 case round =>
  obtain ⟨k,hk,rfl,hkr,hb0,hb1⟩:=hrel
  by_cases hlt : k < 16
  ·obtain ⟨g,off,rfl,hg,hc⟩:=(hr.keep hkr).at (k:=0) (by simp;omega)
   have rd : ∀ j y,b[j]? = some y → wr.cell? ⟨g,off + j,none⟩ = some (u8v y):=fun j y h => by
    obtain ⟨hj,rfl⟩:=List.getElem?_eq_some_iff.1 h
    rw [hc j (by simpa using hj)];simp
   obtain ⟨y0,h0⟩ : ∃ y,b[4 * k]? = some y:=⟨_,List.getElem?_eq_getElem (by omega)⟩
   obtain ⟨y1,h1⟩ : ∃ y,b[4 * k + 1]? = some y:=⟨_,List.getElem?_eq_getElem (by omega)⟩
   obtain ⟨y2,h2⟩ : ∃ y,b[4 * k + 2]? = some y:=⟨_,List.getElem?_eq_getElem (by omega)⟩
   obtain ⟨y3,h3⟩ : ∃ y,b[4 * k + 3]? = some y:=⟨_,List.getElem?_eq_getElem (by omega)⟩
   have e0:=rd _ _ h0;have e1:=rd _ _ h1;have e2:=rd _ _ h2;have e3:=rd _ _ h3
   have Hbe:=Lib.hid (show be32 b k = w32 (beE y0 y1 y2 y3) by unfold be32;rw [getD_of h0,getD_of h1,getD_of h2,getD_of h3])
   clear h0 h1 h2 h3
   have Hb0:=Lib.hid hb0;have Hb1:=Lib.hid hb1;clear hb0 hb1
   clear hc rd
   go_wp2
   refine wp_region_tree (.take [0,1,2,3,4,5,6,7,8,9,10,11,12,13,14,15,16,17,18,19,20,21,22,23,24,25,26,27,28,29,30,31,32,33,34] .done) [35] (by kernel_rfl) (by kernel_rfl) (fun w1 k1 => ?_)
   have a0:=aft_cell (keep_cell k1 e0);have a1:=aft_cell (keep_cell k1 e1);have a2:=aft_cell (keep_cell k1 e2);have a3:=aft_cell (keep_cell k1 e3)
   refine mt_take w1 (Below.refl _ _) ?_
   simp only [pick_cons,pick_nil,nth_zero,nth_succ]
   repeat (go_big_quiet_step (fail))
   refine wpQuiet_nil (mt_end ?_)
   have hb1 : Blk w1 (w.heap.size + 1) 152 ((wd1 b k).map u32v):=Hb1.out.keep k1
   have Hb1':=Lib.hid hb1
   have x0:=hb1.cell k;rw [List.getElem?_map,List.getElem?_eq_getElem (by rw [wd1_len];omega)] at x0
   have x1:=hb1.frozen k
   have Hb0':=Lib.hid (Hb0.out.keep k1)
   have k9:=keep_trans hkr k1
   clear a0 a1 a2 a3 e0 e1 e2 e3 hb1
   go_wp2
   go_roundw
   case rel =>
    refine ⟨k + 1,by omega,by go_num,k9.setCell (by simp) _,Hb0'.out.far (by simp) _,?_⟩
    rw [wd1,Hbe.out,set_map _ _ (beE y0 y1 y2 y3) (bits_lo_u32 _ _ _) (bits_hi_u32 _ _ _)]
    exact Hb1'.out.set_ _ _
   case measure => simp [intOf];omega
  ·have Hk:=Lib.hid (show k = 16 by omega)
   have Hb0:=Lib.hid hb0;have Hb1:=Lib.hid hb1;clear hb0 hb1
   go_wp2_with fail
   have hll : (wd1 b k).length = 64:=wd1_len b k
   generalize hl : wd1 b k = l at Hb1 hll
   have Hl:=Lib.hid hl;clear hl
   have hkw:=hkr
   go_loopw [5] (fun i wr => ∃ j : Nat,j ≤ 48∧i = .int .i64 ((j + 16 : Nat) : Int)∧Keep w wr∧Blk wr w.heap.size 152 (z64.map u32v)∧Blk wr (w.heap.size + 1) 152 ((wd2 l j).map u32v)) (fun i _ => 64 - (intOf i).toNat)
   case atStart => exact ⟨0,by omega,rfl,hkw,Hb0.out,Hb1.out⟩
   case round =>
    obtain ⟨j,hj,rfl,hkr,hb0,hb1⟩:=hrel
    by_cases hlt : j < 48
    ·have hl' : (wd2 l j).length = 64:=by rw [wd2_len,hll]
     obtain ⟨x,h0⟩ : ∃ y,(wd2 l j)[j + 1]? = some y:=⟨_,List.getElem?_eq_getElem (by omega)⟩
     obtain ⟨y,h1⟩ : ∃ y,(wd2 l j)[j + 14]? = some y:=⟨_,List.getElem?_eq_getElem (by omega)⟩
     obtain ⟨a,h2⟩ : ∃ y,(wd2 l j)[j + 9]? = some y:=⟨_,List.getElem?_eq_getElem (by omega)⟩
     obtain ⟨d,h3⟩ : ∃ y,(wd2 l j)[j]? = some y:=⟨_,List.getElem?_eq_getElem (by omega)⟩
     obtain ⟨o,h4⟩ : ∃ y,(wd2 l j)[j + 16]? = some y:=⟨_,List.getElem?_eq_getElem (by omega)⟩
     have Hwd:=Lib.hid (show wd2 l (j + 1) = (wd2 l j).set (j + 16) (w32 (wdE x y a d)) by rw [wd2,getD_of h0,getD_of h1,getD_of h2,getD_of h3])
     have c0:=hb1.cell (j + 1);rw [List.getElem?_map,h0] at c0
     have c1:=hb1.cell (j + 14);rw [List.getElem?_map,h1] at c1
     have c2:=hb1.cell (j + 9);rw [List.getElem?_map,h2] at c2
     have c3:=hb1.cell j;rw [List.getElem?_map,h3] at c3
     have c4:=hb1.cell (j + 16);rw [List.getElem?_map,h4] at c4
     have f4:=hb1.frozen (j + 16)
     simp only [Option.map_some] at c0 c1 c2 c3 c4
     have Hb0:=Lib.hid hb0;have Hb1:=Lib.hid hb1
     clear hb0 hb1 h0 h1 h2 h3 h4
     go_wp2
     have a0:=aft_cell c0;have a1:=aft_cell c1
     refine wp_region_aft (by kernel_rfl) (by kernel_rfl) wr (Below.refl _ _) ?_
     repeat (go_big_quiet_step (fail))
     refine wpQuiet_nil ?_
     rintro _ ⟨z,rfl⟩
     have k2:=aft_keep wr z
     generalize aft wr z = w2 at k2 ⊢
     clear a0 a1 c0 c1
     replace c2:=keep_cell k2 c2;replace c3:=keep_cell k2 c3
     have k3:=keep_trans hkr k2
     replace f4:=keep_frozen k2 (cell_lt c4) f4;replace c4:=keep_cell k2 c4
     go_wp2_with (go_at_call 106;refine (turned_any _ _ _ (by rfl) (by decide) (by decide)).mono ?_;rintro e w9 ⟨rfl,rfl⟩)
     refine wp_region_tree (.take [0,1,2,3,4,5,6,7,8,9,10,11,12,13,14] .done) [15] (by kernel_rfl) (by kernel_rfl) (fun w1 k1 => ?_)
     have a2:=aft_cell (keep_cell k1 c2);have a3:=aft_cell (keep_cell k1 c3)
     refine mt_take w1 (Below.refl _ _) ?_
     simp only [pick_cons,pick_nil,nth_zero,nth_succ]
     repeat (go_big_quiet_step (fail))
     refine wpQuiet_nil (mt_end ?_)
     have k4:=keep_trans k3 k1
     have k5:=keep_trans k2 k1
     replace f4:=keep_frozen k1 (cell_lt c4) f4;replace c4:=keep_cell k1 c4
     clear a2 a3 c2 c3
     go_wp2
     go_roundw
     case rel =>
      refine ⟨j + 1,by omega,by go_num,k4.setCell (by simp) _,(Hb0.out.keep k5).far (by simp) _,?_⟩
      rw [Hwd.out,set_map _ _ (wdE x y a d) (by unfold wdE;omega) (by unfold wdE;omega)]
      exact (Hb1.out.keep k5).set_ _ _
     case measure => simp [intOf];omega
    ·have Hj:=Lib.hid (show j = 48 by omega)
     have hl' : (wd2 l j).length = 64:=by rw [wd2_len,hll]
     generalize hl2 : wd2 l j = l' at hb1 hl'
     have Hl2:=Lib.hid hl2;clear hl2
     obtain ⟨cs,hcs⟩ : ∃ cs : Array Value,cs.toList = l'.map u32v:=⟨(l'.map u32v).toArray,rfl⟩
     have hcz : cs.size = 64:=by rw [← Array.length_toList,hcs,List.length_map,hl']
     have hci : (Tryz.prog.info? 152).map (·.size) = some cs.size:=by rw [hcz];kernel_rfl
     have hcn : ¬ cs = #[]:=by intro h;rw [h] at hcz;simp at hcz
     rw [← hcs] at hb1
     obtain ⟨w8,hst,hb8,hg8⟩:=run_store_blk (P:=Tryz.prog) cs.toList hb0 (by simp [hcz];rfl) (by rw [hcs];exact one_w32 _)
     have Hb1':=Lib.hid hb1;have Hb8:=Lib.hid hb8;have Hg8:=Lib.hid hg8;have Hcs:=Lib.hid hcs;clear hb0 hb1 hb8 hg8 hcs
     go_upto_region 14 with fail
     go_wp2_with ((with_reducible refine load_arr (w.heap.size + 1) cs (Eq.trans ?_ rfl) Hb1'.out (.array 64 22) Tryz.underlying152 (arr_row _ _) hci ?_);rfl)
     have hb8:=Hb8.out
     refine bodyPost_ret (v:=.agg cs) (results_cell_row Tryz.results105 _ _ w.heap.size _ _ _ _ rfl hb8 Tryz.underlying152 rfl (by rw [List.size_toArray,Array.length_toList,hcz];kernel_rfl)) rfl ⟨?_,hkr.grown Hg8.out (by have:=hkr.size;omega) (fun q hq => by injection hq with hq;omega)⟩
     rw [show cs = (l'.map u32v).toArray from by rw [← Hcs.out,Array.toArray_toList],← Hl2.out,← Hl.out,Hj.out,Hk.out]
     rfl
end Go.Proofs.YtmbbknjddebhoaaGreatDoor
namespace Go.Proofs.YtmbbknjddebhoaaGreatDoor
open Go.RowKit
attribute [local go_sem ↓] Go.wp_at_zero Go.wp_at_succ
def kTab : List UInt32:=[1116352408,1899447441,3049323471,3921009573,961987163,1508970993,2453635748,2870763221,3624381080,310598401,607225278,1426881987,1925078388,2162078206,2614888103,3248222580,3835390401,4022224774,264347078,604807628,770255983,1249150122,1555081692,1996064986,2554220882,2821834349,2952996808,3210313671,3336571891,3584528711,113926993,338241895,666307205,773529912,1294757372,1396182291,1695183700,1986661051,2177026350,2456956037,2730485921,2820302411,3259730800,3345764771,3516065817,3600352804,4094571909,275423344,430227734,506948616,659060556,883997877,958139571,1322822218,1537002063,1747873779,1955562222,2024104815,2227730452,2361852424,2428436474,2756734187,3204031479,3329325298]
def hTab : List UInt32:=[1779033703,3144134277,1013904242,2773480762,1359893119,2600822924,528734635,1541459225]
structure ShaOk (w : World) : Prop where
 k : ∀ (i : Nat) (y : UInt32),kTab[i]? = some y → w.cell? ⟨3,i,none⟩ = some (u32v y)
 h : ∀ (i : Nat) (y : UInt32),hTab[i]? = some y → w.cell? ⟨0,i,none⟩ = some (u32v y)
theorem ShaOk.keep {w w' : World} (h : ShaOk w) (hk : Keep w w') : ShaOk w':=⟨fun i y e => keep_cell hk (h.k i y e),fun i y e => keep_cell hk (h.h i y e)⟩
set_option maxRecDepth 100000 in
set_option maxHeartbeats 400000 in
theorem constant_any (i : Nat) (w : World) (hS : ShaOk w) (hi : i < 64) :
  Calls Tryz.prog 107 #[.int .i64 i] w fun e w' => e = .returned (u32v (kTab.getD i 0))∧w = w':=by
 obtain ⟨y,hy⟩ : ∃ y,kTab[i]? = some y:=⟨_,List.getElem?_eq_getElem (by exact hi)⟩
 rw [getD_of hy]
 have c0:=hS.k i y hy
 clear hy hS
 go_enter Tryz.func107,Tryz.ntmps107
 go_wp2
 go_ret
 exact ⟨rfl,rfl⟩
set_option maxRecDepth 100000 in
set_option maxHeartbeats 400000 in
theorem initial_any (i : Nat) (w : World) (hS : ShaOk w) (hi : i < 8) :
  Calls Tryz.prog 90 #[.int .i64 i] w fun e w' => e = .returned (u32v (hTab.getD i 0))∧w = w':=by
 obtain ⟨y,hy⟩ : ∃ y,hTab[i]? = some y:=⟨_,List.getElem?_eq_getElem (by exact hi)⟩
 rw [getD_of hy]
 have c0:=hS.h i y hy
 clear hy hS
 go_enter Tryz.func90,Tryz.ntmps90
 go_wp2
 go_ret
 exact ⟨rfl,rfl⟩
structure H8 where
 a : UInt32
 b : UInt32
 c : UInt32
 d : UInt32
 e : UInt32
 f : UInt32
 g : UInt32
 h : UInt32
def H8.l (v : H8) : List UInt32:=[v.a,v.b,v.c,v.d,v.e,v.f,v.g,v.h]
def H8.cells (v : H8) : List Value:=[u32v v.a,u32v v.b,u32v v.c,u32v v.d,u32v v.e,u32v v.f,u32v v.g,u32v v.h]
abbrev H8.agg (v : H8) : Value:=.agg #[u32v v.a,u32v v.b,u32v v.c,u32v v.d,u32v v.e,u32v v.f,u32v v.g,u32v v.h]
theorem H8.cells_eq (v : H8) : v.cells = v.l.map u32v:=rfl
theorem h8 {w : World} {g : Nat} {t : TypeId} {v : H8} (h : Blk w g t v.cells) : w.cell? ⟨g,0,none⟩ = some (u32v v.a)∧w.cell? ⟨g,1,none⟩ = some (u32v v.b)∧w.cell? ⟨g,2,none⟩ = some (u32v v.c)∧w.cell? ⟨g,3,none⟩ = some (u32v v.d)∧w.cell? ⟨g,4,none⟩ = some (u32v v.e)∧w.cell? ⟨g,5,none⟩ = some (u32v v.f)∧w.cell? ⟨g,6,none⟩ = some (u32v v.g)∧w.cell? ⟨g,7,none⟩ = some (u32v v.h) :=
 ⟨h.cell 0,h.cell 1,h.cell 2,h.cell 3,h.cell 4,h.cell 5,h.cell 6,h.cell 7⟩
def h80 : H8:=⟨0,0,0,0,0,0,0,0⟩
theorem h80_blk (w : World) (n : Nat) (t : TypeId) (hn : n = w.heap.size) : Blk (w.alloc (.cells #[.int .u32 0,.int .u32 0,.int .u32 0,.int .u32 0,.int .u32 0,.int .u32 0,.int .u32 0,.int .u32 0] t)) n t h80.cells:=hn ▸ Blk.new w t h80.cells
theorem h8_blk (w : World) (n : Nat) (t : TypeId) (v : H8) (hn : n = w.heap.size) : Blk (w.alloc (.cells #[u32v v.a,u32v v.b,u32v v.c,u32v v.d,u32v v.e,u32v v.f,u32v v.g,u32v v.h] t)) n t v.cells:=hn ▸ Blk.new w t v.cells
def rndT (v : H8) (k w : UInt32) : Int:=(v.h.toNat : Int) + bits .xor .u32 (bits .xor .u32 ((rotR v.e 6).toNat : Int) ((rotR v.e 11).toNat : Int)) ((rotR v.e 25).toNat : Int) + bits .xor .u32 (bits .and .u32 (v.e.toNat : Int) (v.f.toNat : Int)) (bits .and .u32 (bits .xor .u32 IntKind.u32.max (v.e.toNat : Int)) (v.g.toNat : Int)) + (k.toNat : Int) + (w.toNat : Int)
def rndA (v : H8) (k w : UInt32) : Int:=(rndT v k w + (bits .xor .u32 (bits .xor .u32 ((rotR v.a 2).toNat : Int) ((rotR v.a 13).toNat : Int)) ((rotR v.a 22).toNat : Int) + bits .xor .u32 (bits .xor .u32 (bits .and .u32 (v.a.toNat : Int) (v.b.toNat : Int)) (bits .and .u32 (v.a.toNat : Int) (v.c.toNat : Int))) (bits .and .u32 (v.b.toNat : Int) (v.c.toNat : Int)))) % 4294967296
def rndE (v : H8) (k w : UInt32) : Int:=((v.d.toNat : Int) + rndT v k w) % 4294967296
def rnd (v : H8) (k w : UInt32) : H8:=⟨w32 (rndA v k w),v.a,v.b,v.c,w32 (rndE v k w),v.e,v.f,v.g⟩
def addL (v h : List UInt32) : Nat → List UInt32
 | 0 => v
 | k + 1 => (addL v h k).set k (w32 (((v.getD k 0).toNat + (h.getD k 0).toNat : Int) % 4294967296))
theorem addL_get (v h : List UInt32) : ∀ (k j : Nat),k ≤ j → (addL v h k)[j]? = v[j]?
 | 0,_,_ => rfl
 | k + 1,j,hj => by rw [addL,List.getElem?_set_ne (by omega)];exact addL_get v h k j (by omega)
def add32 (x y : UInt32) : UInt32:=w32 ((x.toNat + y.toNat : Int) % 4294967296)
def H8.add (v h : H8) : H8:=⟨add32 v.a h.a,add32 v.b h.b,add32 v.c h.c,add32 v.d h.d,add32 v.e h.e,add32 v.f h.f,add32 v.g h.g,add32 v.h h.h⟩
theorem addL_h8 (v h : H8) : addL v.l h.l 8 = (v.add h).l:=rfl
def rnds (ws : List UInt32) (v : H8) : Nat → H8
 | 0 => v
 | k + 1 => rnd (rnds ws v k) (kTab.getD k 0) (ws.getD k 0)
def blockH (v : H8) (b : List UInt8) : H8:=(rnds (wordsL b) v 64).add v
noncomputable def zw64 : Array Value:=match (Tryz.prog.info? 152).bind (·.zero) with | some (.agg c) => c | _ => #[]
theorem zw64_size : zw64.size = 64:=by kernel_rfl
theorem zw64_zero (w : World) : (zeroValue 152).run Tryz.prog w = .ok (.agg zw64) w:=by kernel_rfl
theorem u32v_w {E : Int} (h0 : 0 ≤ E) (h1 : E ≤ 4294967295) : Value.int .u32 E = u32v (w32 E):=by unfold u32v;rw [← w32_of h0 h1]
theorem h8_set {w : World} {g : Nat} {t : TypeId} {u : H8} (h : Blk w g t u.cells) (v0 v1 v2 v3 v4 v5 v6 v7 : Value) :
  Blk ((((((((w.setCell ⟨g,0,none⟩ v0).setCell ⟨g,1,none⟩ v1).setCell ⟨g,2,none⟩ v2).setCell ⟨g,3,none⟩ v3).setCell ⟨g,4,none⟩ v4).setCell ⟨g,5,none⟩ v5).setCell ⟨g,6,none⟩ v6).setCell ⟨g,7,none⟩ v7) g t [v0,v1,v2,v3,v4,v5,v6,v7] :=
 (((((((h.set_ 0 v0).set_ 1 v1).set_ 2 v2).set_ 3 v3).set_ 4 v4).set_ 5 v5).set_ 6 v6).set_ 7 v7
theorem rnd_cells (u : H8) (k y : UInt32) : (rnd u k y).cells = [.int .u32 (rndA u k y),u32v u.a,u32v u.b,u32v u.c,.int .u32 (rndE u k y),u32v u.e,u32v u.f,u32v u.g]:=by
 have h1:=u32v_w (E:=rndA u k y) (by unfold rndA;omega) (by unfold rndA;omega)
 have h2:=u32v_w (E:=rndE u k y) (by unfold rndE;omega) (by unfold rndE;omega)
 rw [h1,h2];rfl
set_option maxRecDepth 100000 in
set_option maxHeartbeats 3000000 in
theorem block_any (v : H8) (A : Option Addr) (b : List UInt8) (c : Nat) (w : World) (hb : b.length = 64) (hr : Rd w A (b.map u8v)) (hS : ShaOk w) :
  Calls Tryz.prog 89 #[v.agg,.slice A 64 c] w fun e w' => e = .returned (blockH v b).agg∧Keep w w':=by
 obtain ⟨R,hR⟩ : ∃ R,blockH v b = R:=⟨_,rfl⟩
 rw [hR]
 have HR : Hid ((rnds (wordsL b) v 64).add v = R):=hR
 clear hR
 have hwl : (wordsL b).length = 64:=by unfold wordsL;rw [wd2_len,wd1_len]
 have W1 : ∀ w',Keep w w' → Calls Tryz.prog 105 #[.slice A 64 c] w' fun e w'' => e = .returned (.agg ((wordsL b).map u32v).toArray)∧Keep w' w'':=fun w' hk => words_any A b c w' hb (hr.keep hk)
 generalize wordsL b = ws at *
 obtain ⟨cs,hcs⟩ : ∃ cs : Array Value,cs.toList = ws.map u32v:=⟨(ws.map u32v).toArray,rfl⟩
 have hcz : cs.size = 64:=by rw [← Array.length_toList,hcs,List.length_map,hwl]
 have hci : (Tryz.prog.info? 152).map (·.size) = some cs.size:=by rw [hcz];kernel_rfl
 have hcn : ¬ cs = #[]:=by intro h;rw [h] at hcz;simp at hcz
 have hc1 : cs.all (·.oneCell') = true:=by
  rw [show cs = (ws.map u32v).toArray from by rw [← hcs,Array.toArray_toList]];exact all_oneCell_toArray (one_w32 _)
 rw [show (ws.map u32v).toArray = cs from by rw [← hcs,Array.toArray_toList]] at W1
 have HW1:=Lib.hid W1;have Hcs:=Lib.hid hcs;clear W1 hcs hr
 obtain ⟨zs,hzs⟩ : ∃ zs,zs = zw64:=⟨_,rfl⟩
 have hz1 : zs.size = 64:=by rw [hzs];exact zw64_size
 have hz2 : ∀ w,(zeroValue 152).run Tryz.prog w = .ok (.agg zs) w:=fun w => by rw [hzs];exact zw64_zero w
 have hz3 : ¬ zs = #[]:=fun h => by rw [h] at hz1;cases hz1
 have hst : ∀ ww : World,(storeCells ⟨ww.heap.size,0,none⟩ cs.toList 0).run Tryz.prog (ww.alloc (.cells zs 152)) = .ok () (ww.alloc (.cells cs 152)):=fun ww => run_storeCells_new (P:=Tryz.prog) ww 152 zs cs hci (hz1.trans hcz.symm) hc1
 clear hzs hci hc1
 go_enter Tryz.func89,Tryz.ntmps89
 go_wp2_with fail
 refine (HW1.out _ (keep_trans (keep_new _ _) (keep_new _ _))).mono ?_
 rintro e w1 ⟨rfl,k1⟩
 have Hbx:=Lib.hid (((h8_blk w w.heap.size 104 v rfl).alloc _).keep k1)
 have Hbr:=Lib.hid ((h80_blk _ (w.heap.size + 1) 104 (by simp)).keep k1)
 obtain ⟨x0,x1,x2,x3,x4,x5,x6,x7⟩:=h8 Hbx.out
 have hz1 : w.heap.size + 2 ≤ w1.heap.size:=by have:=k1.size;simpa using this
 have hzl : w.heap.size < w1.heap.size:=by omega
 have kw:=keep_trans (keep_trans (keep_new _ _) (keep_new _ _)) k1
 go_wp2_with fail
 have Hb5:=Lib.hid ((Blk.new w1 152 cs.toList).alloc (.cells #[u32v v.a,u32v v.b,u32v v.c,u32v v.d,u32v v.e,u32v v.f,u32v v.g,u32v v.h] 104))
 have Hb6:=Lib.hid (h8_blk (w1.alloc (.cells cs 152)) (w1.heap.size + 1) 104 v (by simp))
 have k2:=keep_trans (keep_new w1 (.cells cs 152)) (keep_new (w1.alloc (.cells cs 152)) (.cells #[u32v v.a,u32v v.b,u32v v.c,u32v v.d,u32v v.e,u32v v.f,u32v v.g,u32v v.h] 104))
 have Hbx2:=Lib.hid (Hbx.out.keep k2);have Hbr2:=Lib.hid (Hbr.out.keep k2)
 clear x0 x1 x2 x3 x4 x5 x6 x7 Hbx Hbr hst
 have kv:=keep_trans kw k2
 generalize (w1.alloc (.cells cs 152)).alloc (.cells #[u32v v.a,u32v v.b,u32v v.c,u32v v.d,u32v v.e,u32v v.f,u32v v.g,u32v v.h] 104) = w2 at k2 kv Hb5 Hb6 Hbx2 Hbr2 ⊢
 go_loopw [22] (fun i wr => ∃ k : Nat,k ≤ 64∧i = .int .i64 k∧Keep w wr∧Blk wr w.heap.size 104 v.cells∧Blk wr (w.heap.size + 1) 104 h80.cells∧Blk wr w1.heap.size 152 cs.toList∧Blk wr (w1.heap.size + 1) 104 (rnds ws v k).cells) (fun i _ => 64 - (intOf i).toNat)
 case atStart => exact ⟨0,by omega,rfl,kv,Hbx2.out,Hbr2.out,Hb5.out,Hb6.out⟩
 case round =>
  obtain ⟨k,hk,rfl,hkr,hbx,hbr,hbw,hbv⟩:=hrel
  by_cases hlt : k < 64
  ·obtain ⟨y,hy⟩ : ∃ y,ws[k]? = some y:=⟨_,List.getElem?_eq_getElem (by omega)⟩
   have Hrn:=Lib.hid (show rnds ws v (k + 1) = rnd (rnds ws v k) (kTab.getD k 0) y by rw [rnds,getD_of hy])
   have cw:=hbw.cell k;rw [Hcs.out,List.getElem?_map,hy,Option.map_some] at cw
   generalize rnds ws v k = u at hbv Hrn
   have hkk : ∀ w',Keep w w' → Calls Tryz.prog 107 #[.int .i64 k] w' fun e w'' => e = .returned (u32v (kTab.getD k 0))∧w' = w'':=fun w' h => constant_any k w' (hS.keep h) hlt
   generalize kTab.getD k 0 = kk at Hrn hkk
   have Hkk:=Lib.hid hkk;clear hkk
   obtain ⟨x0,x1,x2,x3,x4,x5,x6,x7⟩:=h8 hbv
   clear hy
   have Hx:=Lib.hid hbx;have Hr:=Lib.hid hbr;have Hw:=Lib.hid hbw;have Hv:=Lib.hid hbv
   clear hbx hbr hbw hbv
   have a4:=aft_cell x4
   go_wp2
   refine wp_region_aft (by kernel_rfl) (by kernel_rfl) wr (Below.refl _ _) ?_
   repeat (go_big_quiet_step ((go_at_call 106;exact quiet_aft_same (turned_any _ _ _ (by rfl) (by decide) (by decide)))))
   refine wpQuiet_nil ?_
   rintro _ ⟨z,rfl⟩
   have j3:=aft_keep wr z
   generalize aft wr z = w3 at j3 ⊢
   clear a4 x0 x1 x2 x3 x4 x5 x6 x7
   have hbv:=Hv.out.keep j3
   obtain ⟨x0,x1,x2,x3,x4,x5,x6,x7⟩:=h8 hbv
   have k3:=keep_trans hkr j3
   replace cw:=keep_cell j3 cw
   clear hbv
   go_wp2
   have a7:=aft_cell x7;have aw:=aft_cell cw
   refine wp_region_aft (by kernel_rfl) (by kernel_rfl) w3 (Below.refl _ _) ?_
   repeat (go_big_quiet_step ((go_at_call 107;exact quiet_aft_same (Hkk.out _ (keep_trans k3 (aft_keep _ _))))))
   refine wpQuiet_nil ?_
   rintro _ ⟨z4,rfl⟩
   have j4:=aft_keep w3 z4
   generalize aft w3 z4 = w4 at j4 ⊢
   clear a7 aw cw x0 x1 x2 x3 x4 x5 x6 x7
   have k4:=keep_trans k3 j4
   obtain ⟨x0,x1,x2,x3,x4,x5,x6,x7⟩:=h8 (Hv.out.keep (keep_trans j3 j4))
   have a0:=aft_cell x0
   go_wp2
   refine wp_region_aft (by kernel_rfl) (by kernel_rfl) w4 (Below.refl _ _) ?_
   repeat (go_big_quiet_step ((go_at_call 106;exact quiet_aft_same (turned_any _ _ _ (by rfl) (by decide) (by decide)))))
   refine wpQuiet_nil ?_
   rintro _ ⟨z5,rfl⟩
   have j5:=aft_keep w4 z5
   generalize aft w4 z5 = w5 at j5 ⊢
   clear a0 x0 x1 x2 x3 x4 x5 x6 x7
   have k5:=keep_trans k4 j5
   have j2:=keep_trans (keep_trans j3 j4) j5
   have Hv5:=Lib.hid (Hv.out.keep j2)
   obtain ⟨x0,x1,x2,x3,x4,x5,x6,x7⟩:=h8 Hv5.out
   have f0:=Hv5.out.frozen 0;have f1:=Hv5.out.frozen 1;have f2:=Hv5.out.frozen 2;have f3:=Hv5.out.frozen 3;have f4:=Hv5.out.frozen 4;have f5:=Hv5.out.frozen 5;have f6:=Hv5.out.frozen 6;have f7:=Hv5.out.frozen 7
   go_wp2
   go_roundw
   case rel =>
    refine ⟨k + 1,by omega,by go_num,?_,?_,?_,?_,?_⟩
    ·repeat (refine Below.setCell ?_ (by simp;omega) _)
     exact k5
    ·repeat (refine Blk.far ?_ (by simp;omega) _)
     exact Hx.out.keep j2
    ·repeat (refine Blk.far ?_ (by simp;omega) _)
     exact Hr.out.keep j2
    ·repeat (refine Blk.far ?_ (by simp) _)
     exact Hw.out.keep j2
    ·rw [Hrn.out,rnd_cells]
     exact h8_set Hv5.out _ _ _ _ _ _ _ _
   case measure => simp [intOf];omega
  ·have Hk:=Lib.hid (show k = 64 by omega)
   generalize hu : rnds ws v k = u at hbv
   have Hu:=Lib.hid hu
   have Hx:=Lib.hid hbx;have Hr:=Lib.hid hbr;have Hw:=Lib.hid hbw;have Hv:=Lib.hid hbv
   clear hbx hbr hbw hbv hu
   go_wp2_with fail
   go_loopw [113] (fun i w9 => ∃ j : Nat,j ≤ 8∧i = .int .i64 j∧Keep w w9∧Blk w9 w.heap.size 104 (v.l.map u32v)∧Blk w9 (w.heap.size + 1) 104 h80.cells∧Blk w9 (w1.heap.size + 1) 104 ((addL u.l v.l j).map u32v)) (fun i _ => 8 - (intOf i).toNat)
   case atStart => exact ⟨0,by omega,rfl,hkr,Hx.out,Hr.out,Hv.out⟩
   case round =>
    obtain ⟨j,hj,rfl,hkr,hbx,hbr,hbv⟩:=hrel
    by_cases hlt : j < 8
    ·obtain ⟨y,hy⟩ : ∃ y,v.l[j]? = some y:=⟨_,List.getElem?_eq_getElem (by exact hlt)⟩
     obtain ⟨x,hx⟩ : ∃ x,u.l[j]? = some x:=⟨_,List.getElem?_eq_getElem (by exact hlt)⟩
     have Had:=Lib.hid (show addL u.l v.l (j + 1) = (addL u.l v.l j).set j (w32 ((x.toNat + y.toNat : Int) % 4294967296)) by rw [addL,getD_of hy,getD_of hx])
     have c0:=hbv.cell j;rw [List.getElem?_map,addL_get _ _ _ _ (Nat.le_refl _),hx,Option.map_some] at c0
     have c1:=hbx.cell j;rw [List.getElem?_map,hy,Option.map_some] at c1
     have Hx:=Lib.hid hbx;have Hr:=Lib.hid hbr;have Hv:=Lib.hid hbv
     clear hbx hbr hbv hy hx
     go_wp2
     refine wp_region_tree (.take [0,1,2,3,4,5,6,7] .done) [8] (by kernel_rfl) (by kernel_rfl) (fun w3 k3 => ?_)
     have a0:=aft_cell (keep_cell k3 c0);have a1:=aft_cell (keep_cell k3 c1)
     refine mt_take w3 (Below.refl _ _) ?_
     simp only [pick_cons,pick_nil,nth_zero,nth_succ]
     repeat (go_big_quiet_step (fail))
     refine wpQuiet_nil (mt_end ?_)
     have k4:=keep_trans hkr k3
     replace c0:=keep_cell k3 c0
     have f0:=(Hv.out.keep k3).frozen j
     clear a0 a1 c1
     go_wp2
     go_roundw
     case rel =>
      refine ⟨j + 1,by omega,by go_num,k4.setCell (by simp;omega) _,(Hx.out.keep k3).far (by simp;omega) _,(Hr.out.keep k3).far (by simp;omega) _,?_⟩
      rw [Had.out,set_map _ _ _ (by omega) (by omega)]
      exact (Hv.out.keep k3).set_ _ _
     case measure => simp [intOf];omega
    ·have Hj:=Lib.hid (show j = 8 by omega)
     have e8 : addL u.l v.l j = (u.add v).l:=by rw [Hj.out];exact addL_h8 u v
     rw [e8,← H8.cells_eq] at hbv
     clear e8
     have HR2 : Hid (u.add v = R):=by
      have h:=HR.out
      rw [← Hk.out,Hu.out] at h
      exact h
     generalize u.add v = r at hbv HR2
     obtain ⟨x0,x1,x2,x3,x4,x5,x6,x7⟩:=h8 hbv
     have Hr:=Lib.hid hbr
     have c0:=Hr.out.cell 0;have c1:=Hr.out.cell 1;have c2:=Hr.out.cell 2;have c3:=Hr.out.cell 3;have c4:=Hr.out.cell 4;have c5:=Hr.out.cell 5;have c6:=Hr.out.cell 6;have c7:=Hr.out.cell 7
     have f0:=Hr.out.frozen 0;have f1:=Hr.out.frozen 1;have f2:=Hr.out.frozen 2;have f3:=Hr.out.frozen 3;have f4:=Hr.out.frozen 4;have f5:=Hr.out.frozen 5;have f6:=Hr.out.frozen 6;have f7:=Hr.out.frozen 7
     simp only [H8.cells,List.getElem?_cons_zero,List.getElem?_cons_succ] at c0 c1 c2 c3 c4 c5 c6 c7
     clear hbr hbx hbv
     go_wp2
     refine bodyPost_ret (v:=r.agg) (results_cell_row Tryz.results89 _ _ (w.heap.size + 1) _ _ _ _ rfl (h8_set Hr.out _ _ _ _ _ _ _ _) Tryz.underlying104 rfl (by kernel_rfl)) rfl ⟨by rw [← HR2.out],?_⟩
     repeat (refine Below.setCell ?_ (by simp) _)
     exact hkr
end Go.Proofs.YtmbbknjddebhoaaGreatDoor
namespace Go.Proofs.YtmbbknjddebhoaaGreatDoor
open Go.RowKit
attribute [local go_sem ↓] Go.wp_at_zero Go.wp_at_succ
abbrev SV (v : H8) (A : Option Addr) (n c : Nat) (N : Int) : Value:=.agg #[u32v v.a,u32v v.b,u32v v.c,u32v v.d,u32v v.e,u32v v.f,u32v v.g,u32v v.h,.slice A n c,.int .u64 N]
def h0V : H8:=⟨1779033703,3144134277,1013904242,2773480762,1359893119,2600822924,528734635,1541459225⟩
def stL : Nat → List UInt32
 | 0 => [0,0,0,0,0,0,0,0]
 | k + 1 => (stL k).set k (hTab.getD k 0)
theorem stL_len (k : Nat) : (stL k).length = 8:=by
 induction k with
 | zero => rfl
 | succ k ih => rw [stL,List.length_set,ih]
theorem stL_8 : stL 8 = h0V.l:=by decide
set_option maxRecDepth 100000 in
set_option maxHeartbeats 1000000 in
theorem start_any (w : World) (hS : ShaOk w) : Calls Tryz.prog 72 #[] w fun e w' => e = .returned (SV h0V none 0 0 0)∧Keep w w':=by
 go_enter Tryz.func72,Tryz.ntmps72
 go_wp2_with fail
 go_loopw [3] (fun i wr => ∃ k : Nat,k ≤ 8∧i = .int .i64 k∧Keep w wr∧Blk wr w.heap.size 106 ((stL 0).map u32v ++ ([.slice none 0 0,.int .u64 0] : List Value))∧Blk wr (w.heap.size + 1) 106 ((stL k).map u32v ++ ([.slice none 0 0,.int .u64 0] : List Value))) (fun i _ => 8 - (intOf i).toNat)
 case atStart =>
  refine ⟨0,by omega,rfl,keep_trans (keep_new _ _) (keep_new _ _),(Blk.new w _ ((stL 0).map u32v ++ ([.slice none 0 0,.int .u64 0] : List Value))).alloc _,?_⟩
  have h:=Blk.new (w.alloc (.cells ((stL 0).map u32v ++ ([.slice none 0 0,.int .u64 0] : List Value)).toArray 106)) 106 ((stL 0).map u32v ++ ([.slice none 0 0,.int .u64 0] : List Value))
  rw [World.size_alloc] at h
  exact h
 case round =>
  obtain ⟨k,hk,rfl,hkr,hbr,hbs⟩:=hrel
  by_cases hlt : k < 8
  ·have hst:=stL_len k
   have hsu:=Lib.hid (show stL (k + 1) = (stL k).set k (hTab.getD k 0) from rfl)
   have hh : ∀ w',Keep w w' → Calls Tryz.prog 90 #[.int .i64 k] w' fun e w'' => e = .returned (u32v (hTab.getD k 0))∧w' = w'':=fun w' h => initial_any k w' (hS.keep h) hlt
   generalize hTab.getD k 0 = y at hh hsu
   obtain ⟨o,ho⟩ : ∃ o,(stL k)[k]? = some o:=⟨_,List.getElem?_eq_getElem (by omega)⟩
   have c0:=hbs.cell k
   rw [List.getElem?_append_left (by rw [List.length_map,hst];exact hlt),List.getElem?_map,ho,Option.map_some] at c0
   have f0:=hbs.frozen k
   have Hr:=Lib.hid hbr;have Hs:=Lib.hid hbs;have Hst:=Lib.hid hst;have Hh:=Lib.hid hh
   clear hbr hbs hst hh ho
   go_wp2_with (go_at_call 90;refine (Hh.out _ hkr).mono ?_;rintro e w3 ⟨rfl,rfl⟩)
   go_roundw
   case rel =>
    refine ⟨k + 1,by omega,by go_num,hkr.setCell (by simp) _,Hr.out.far (by simp) _,?_⟩
    have h:=Hs.out.set_ k (u32v y)
    rw [List.set_append_left _ _ (by rw [List.length_map,Hst.out];exact hlt),← List.map_set,← hsu.out] at h
    exact h
   case measure => simp [intOf];omega
  ·obtain rfl : 8 = k:=by omega
   rw [stL_8] at hbs
   have c0:=hbs.cell 0;have c1:=hbs.cell 1;have c2:=hbs.cell 2;have c3:=hbs.cell 3;have c4:=hbs.cell 4;have c5:=hbs.cell 5;have c6:=hbs.cell 6;have c7:=hbs.cell 7;have c8:=hbs.cell 8;have c9:=hbs.cell 9
   have d0:=hbr.cell 0;have d1:=hbr.cell 1;have d2:=hbr.cell 2;have d3:=hbr.cell 3;have d4:=hbr.cell 4;have d5:=hbr.cell 5;have d6:=hbr.cell 6;have d7:=hbr.cell 7;have d8:=hbr.cell 8;have d9:=hbr.cell 9
   have f0:=hbr.frozen 0;have f1:=hbr.frozen 1;have f2:=hbr.frozen 2;have f3:=hbr.frozen 3;have f4:=hbr.frozen 4;have f5:=hbr.frozen 5;have f6:=hbr.frozen 6;have f7:=hbr.frozen 7;have f8:=hbr.frozen 8;have f9:=hbr.frozen 9
   simp only [H8.l,stL,List.map_cons,List.map_nil,List.cons_append,List.nil_append,List.getElem?_cons_zero,List.getElem?_cons_succ] at c0 c1 c2 c3 c4 c5 c6 c7 c8 c9 d0 d1 d2 d3 d4 d5 d6 d7 d8 d9
   clear hbr hbs
   go_wp2
   refine bodyPost_ret (v:=SV h0V none 0 0 0) (by simp [results,Tryz.results72,go_sem,d0,d1,d2,d3,d4,d5,d6,d7,d8,d9]) rfl ⟨rfl,?_⟩
   repeat (refine Below.setCell ?_ (by simp) _)
   exact hkr
def padZ (n : Nat) : Nat:=if n % 64 ≤ 55 then 55 - n % 64 else 119 - n % 64
def padE (n k : Nat) : Int:=(n : Int) * 8 / 2 ^ (56 - 8 * k) % 256
def padK (n : Nat) : Nat → List UInt8
 | 0 => 128 :: List.replicate (padZ n + 8) 0
 | k + 1 => (padK n k).set (1 + padZ n + k) (w8 (padE n k))
theorem padK_len (n k : Nat) : (padK n k).length = 9 + padZ n:=by
 induction k with
 | zero => rw [padK,List.length_cons,List.length_replicate];omega
 | succ k ih => rw [padK,List.length_set,ih]
set_option maxRecDepth 100000 in
set_option maxHeartbeats 1000000 in
theorem pad_any (n : Nat) (w : World) (hn : n ≤ 1000000000000) : Calls Tryz.prog 88 #[.int .u64 n] w fun e w' => e = .returned (.slice (some ⟨w.heap.size,0,none⟩) (9 + padZ n) (9 + padZ n))∧Blk w' w.heap.size 5 ((padK n 8).map u8v)∧Keep w w':=by
 obtain ⟨z,hz⟩ : ∃ z,padZ n = z:=⟨_,rfl⟩
 have hzl : z ≤ 63:=by rw [← hz];unfold padZ;split <;> omega
 have Hz:=Lib.hid hz
 rw [hz]
 go_enter Tryz.func88,Tryz.ntmps88
 go_upto_if 13 with fail
 go_cut [3,4] (fun v3 v4 wx => v4 = .int .i64 z∧wx = w)
 case first =>
  by_cases h : n % 64 ≤ 55
  ·have hz:=Hz.out;rw [padZ,if_pos h] at hz
   go_wp2
   all_goals go_meet
   all_goals exact ⟨by congr 1;omega,rfl⟩
  ·have hz:=Hz.out;rw [padZ,if_neg h] at hz
   go_wp2
   all_goals go_meet
   all_goals exact ⟨by congr 1;omega,rfl⟩
 case rest =>
  obtain ⟨rfl,rfl⟩:=hcut
  obtain ⟨wm,hmk,hbm,km,hsz⟩:=make_blk (z + 9) (z + 9) (1 + (z : Int) + 8) (1 + (z : Int) + 8) (by omega) (by omega) (Nat.le_refl _) (by omega) wc
  have c0:=hbm.cell 0;rw [List.getElem?_map,List.getElem?_replicate,if_pos (by omega),Option.map_some] at c0
  have f0:=hbm.frozen 0
  have Hbm:=Lib.hid hbm
  clear hbm hsz
  go_wp2_with fail
  go_loopw [22] (fun i wr => ∃ k : Nat,k ≤ 8∧i = .int .i64 k∧Keep wc wr∧Blk wr wc.heap.size 5 ((padK n k).map u8v)) (fun i _ => 8 - (intOf i).toNat)
  case atStart =>
   refine ⟨0,by omega,rfl,km.setCell (by simp) _,?_⟩
   have h:=Hbm.out.set_ 0 (u8v 128)
   rw [show ((List.replicate (z + 9) (0 : UInt8)).map u8v).set 0 (u8v 128) = (padK n 0).map u8v by rw [padK,Hz.out];rfl] at h
   exact h
  case round =>
   obtain ⟨k,hk,rfl,hkr,hb⟩:=hrel
   by_cases hlt : k < 8
   ·have hpl:=padK_len n k
    rw [Hz.out] at hpl
    obtain ⟨o,ho⟩ : ∃ o,(padK n k)[1 + z + k]? = some o:=⟨_,List.getElem?_eq_getElem (by omega)⟩
    have c1:=hb.cell (1 + z + k);rw [List.getElem?_map,ho,Option.map_some] at c1
    have f1:=hb.frozen (1 + z + k)
    have Hb:=Lib.hid hb
    clear hb ho hpl
    go_wp2
    go_roundw
    case rel =>
     refine ⟨k + 1,by omega,by go_num,hkr.setCell (by simp) _,?_⟩
     rw [padK,Hz.out,set_map8 _ _ (padE n k) (by unfold padE;omega) (by unfold padE;omega)]
     exact Hb.out.set_ _ _
    case measure => simp [intOf];omega
   ·have Hk:=Lib.hid (show k = 8 by omega)
    have Hb:=Lib.hid hb;clear hb
    go_wp2
    go_ret
    refine ⟨by show Ending.returned (Value.slice _ (z + 9) (z + 9)) = _;rw [Nat.add_comm z 9],?_,hkr⟩
    have h:=Hb.out
    rw [Hk.out] at h
    exact h
end Go.Proofs.YtmbbknjddebhoaaGreatDoor
namespace Go.Proofs.YtmbbknjddebhoaaGreatDoor
open Go.RowKit
attribute [local go_sem ↓] Go.wp_at_zero Go.wp_at_succ
set_option maxHeartbeats 1000000 in
theorem ssane_any (v : H8) (A : Option Addr) (n c N : Nat) (w : World) (hn : n < 64) (hN : N ≤ 1000000000000) (h : n = N % 64) :
  Calls Tryz.prog 87 #[SV v A n c N] w fun e w' => e = .returned (.bool true)∧Keep w w':=by
 have t : ((n : Int) == (N : Int) % 64) = true:=by simp;omega
 go_enter Tryz.func87,Tryz.ntmps87
 go_wp2
 go_ret
 exact ⟨ret_bool (by first | rfl | (simp;omega)),keep_new _ _⟩
def blocks (v : H8) (l : List UInt8) : Nat → H8
 | 0 => v
 | k + 1 => blockH (blocks v l k) ((l.drop (64 * k)).take 64)
structure StCells (w : World) (g : Nat) (v : H8) (A : Option Addr) (n c : Nat) (N : Int) : Prop where
 b : Blk w g 106 (v.cells ++ [.slice A n c,.int .u64 N])
theorem StCells.all {w : World} {g : Nat} {v : H8} {A : Option Addr} {n c : Nat} {N : Int} (h : StCells w g v A n c N) :
  w.cell? ⟨g,0,none⟩ = some (u32v v.a)∧w.cell? ⟨g,1,none⟩ = some (u32v v.b)∧w.cell? ⟨g,2,none⟩ = some (u32v v.c)∧w.cell? ⟨g,3,none⟩ = some (u32v v.d)∧w.cell? ⟨g,4,none⟩ = some (u32v v.e)∧w.cell? ⟨g,5,none⟩ = some (u32v v.f)∧w.cell? ⟨g,6,none⟩ = some (u32v v.g)∧w.cell? ⟨g,7,none⟩ = some (u32v v.h)∧w.cell? ⟨g,8,none⟩ = some (.slice A n c)∧w.cell? ⟨g,9,none⟩ = some (.int .u64 N) :=
 ⟨h.b.cell 0,h.b.cell 1,h.b.cell 2,h.b.cell 3,h.b.cell 4,h.b.cell 5,h.b.cell 6,h.b.cell 7,h.b.cell 8,h.b.cell 9⟩
theorem StCells.fr {w : World} {g : Nat} {v : H8} {A : Option Addr} {n c : Nat} {N : Int} (h : StCells w g v A n c N) :
  w.frozen? ⟨g,0,none⟩ = false∧w.frozen? ⟨g,1,none⟩ = false∧w.frozen? ⟨g,2,none⟩ = false∧w.frozen? ⟨g,3,none⟩ = false∧w.frozen? ⟨g,4,none⟩ = false∧w.frozen? ⟨g,5,none⟩ = false∧w.frozen? ⟨g,6,none⟩ = false∧w.frozen? ⟨g,7,none⟩ = false∧w.frozen? ⟨g,8,none⟩ = false∧w.frozen? ⟨g,9,none⟩ = false :=
 ⟨h.b.frozen 0,h.b.frozen 1,h.b.frozen 2,h.b.frozen 3,h.b.frozen 4,h.b.frozen 5,h.b.frozen 6,h.b.frozen 7,h.b.frozen 8,h.b.frozen 9⟩
theorem StCells.keep {w w' : World} {g : Nat} {v : H8} {A : Option Addr} {n c : Nat} {N : Int} (h : StCells w g v A n c N) (hk : Keep w w') : StCells w' g v A n c N:=⟨h.b.keep hk⟩
theorem StCells.grown {w w' : World} {g : Nat} {v : H8} {A : Option Addr} {n c : Nat} {N : Int} {row : Option Nat} (h : StCells w g v A n c N) (hg : w.grownBy w' row) (hne : row ≠ some g) : StCells w' g v A n c N:=⟨h.b.grown hg hne⟩
theorem StCells.new (w : World) (g : Nat) (v : H8) (A : Option Addr) (n c : Nat) (N : Int) (hg : g = w.heap.size) : StCells (w.alloc (.cells #[u32v v.a,u32v v.b,u32v v.c,u32v v.d,u32v v.e,u32v v.f,u32v v.g,u32v v.h,.slice A n c,.int .u64 N] 106)) g v A n c N :=
 ⟨hg ▸ Blk.new w _ (v.cells ++ [.slice A n c,.int .u64 N])⟩
theorem StCells.set8 {w : World} {g : Nat} {v : H8} {A : Option Addr} {n c : Nat} {N : Int} (h : StCells w g v A n c N) (u : H8) :
  StCells ((((((((w.setCell ⟨g,0,none⟩ (u32v u.a)).setCell ⟨g,1,none⟩ (u32v u.b)).setCell ⟨g,2,none⟩ (u32v u.c)).setCell ⟨g,3,none⟩ (u32v u.d)).setCell ⟨g,4,none⟩ (u32v u.e)).setCell ⟨g,5,none⟩ (u32v u.f)).setCell ⟨g,6,none⟩ (u32v u.g)).setCell ⟨g,7,none⟩ (u32v u.h)) g u A n c N :=
 ⟨(((((((h.b.set_ 0 (u32v u.a)).set_ 1 (u32v u.b)).set_ 2 (u32v u.c)).set_ 3 (u32v u.d)).set_ 4 (u32v u.e)).set_ 5 (u32v u.f)).set_ 6 (u32v u.g)).set_ 7 (u32v u.h)⟩
theorem StCells.set10 {w : World} {g : Nat} {v : H8} {A : Option Addr} {n c : Nat} {N : Int} (h : StCells w g v A n c N) (u : H8) (A' : Option Addr) (n' c' : Nat) (N' : Int) :
  ((((((((((w.setCell ⟨g,0,none⟩ (u32v u.a)).setCell ⟨g,1,none⟩ (u32v u.b)).setCell ⟨g,2,none⟩ (u32v u.c)).setCell ⟨g,3,none⟩ (u32v u.d)).setCell ⟨g,4,none⟩ (u32v u.e)).setCell ⟨g,5,none⟩ (u32v u.f)).setCell ⟨g,6,none⟩ (u32v u.g)).setCell ⟨g,7,none⟩ (u32v u.h)).setCell ⟨g,8,none⟩ (.slice A' n' c')).setCell ⟨g,9,none⟩ (.int .u64 N')).heap[g]? = some (.cells #[u32v u.a,u32v u.b,u32v u.c,u32v u.d,u32v u.e,u32v u.f,u32v u.g,u32v u.h,.slice A' n' c',.int .u64 N'] 106 (0,0)) :=
 (((((((((h.b.set_ 0 (u32v u.a)).set_ 1 (u32v u.b)).set_ 2 (u32v u.c)).set_ 3 (u32v u.d)).set_ 4 (u32v u.e)).set_ 5 (u32v u.f)).set_ 6 (u32v u.g)).set_ 7 (u32v u.h)).set_ 8 (.slice A' n' c')).set_ 9 (.int .u64 N')
structure Summed (F : List UInt8) (v : H8) (bk : List UInt8) (vk : H8) : Prop where
 at_ : ∃ m,F.drop (64 * m) = bk∧64 * m + bk.length = F.length∧vk = blocks v F m
theorem Summed.first {F r b : List UInt8} (v : H8) (h : r ++ b = F) (h1 : r.length < 64) (h2 : 64 ≤ r.length + b.length) : Summed F v (b.drop (64 - r.length)) (blockH v (r ++ b.take (64 - r.length))):=by
 subst h
 refine ⟨1,?_,?_,?_⟩
 ·rw [List.drop_append,List.drop_eq_nil_of_le (by omega),List.nil_append]
 ·rw [List.length_drop,List.length_append];omega
 ·show _ = blockH v (((r ++ b).drop (64 * 0)).take 64)
  rw [Nat.mul_zero,List.drop_zero,List.take_append,List.take_of_length_le (l:=r) (by omega)]
theorem Summed.zero {F r b : List UInt8} (v : H8) (h : r ++ b = F) (h1 : r = []) : Summed F v b v:=by
 subst h h1
 exact ⟨0,rfl,by simp,rfl⟩
theorem Summed.next {F bk : List UInt8} {v vk : H8} (h : Summed F v bk vk) (hl : 64 ≤ bk.length) : Summed F v (bk.drop 64) (blockH vk (bk.take 64)):=by
 obtain ⟨m,h1,h2,h3⟩:=h
 refine ⟨m + 1,?_,?_,?_⟩
 ·rw [← h1,List.drop_drop,Nat.mul_succ]
 ·rw [List.length_drop];omega
 ·rw [blocks,h1,h3]
theorem Summed.done {F bk : List UInt8} {v vk : H8} (h : Summed F v bk vk) (hl : bk.length < 64) : blocks v F (F.length / 64) = vk∧F.length % 64 = bk.length∧F.drop (64 * (F.length / 64)) = bk:=by
 obtain ⟨m,h1,h2,h3⟩:=h
 have e : F.length / 64 = m:=by omega
 rw [e]
 exact ⟨h3.symm,by omega,h1⟩
set_option maxRecDepth 100000 in
set_option maxHeartbeats 3000000 in
theorem write_any (v : H8) (RA : Option Addr) (r : List UInt8) (rc N : Nat) (A : Option Addr) (b : List UInt8) (c : Nat) (w : World) (hS : ShaOk w) (hr : Rd w RA (r.map u8v)) (hrl : r.length = N % 64) (hb : Rd w A (b.map u8v)) (hbc : b.length ≤ c) (hcm : c ≤ maxLen) (hbl : b.length ≤ 100000000) (hN : N ≤ 100000000000) (hrb : r = [] ∨ 64 ≤ r.length + b.length) :
  Calls Tryz.prog 71 #[SV v RA r.length rc N,.slice A b.length c] w fun e w' => ∃ A' c',e = .returned (SV (blocks v (r ++ b) ((r ++ b).length / 64)) A' ((r ++ b).length % 64) c' ((N + b.length : Nat) : Int))∧Rd w' A' (((r ++ b).drop (64 * ((r ++ b).length / 64))).map u8v)∧Keep w w':=by
 have Hrl:=Lib.hid hrl;have Hrb:=Lib.hid hrb
 have hrn : r.length < 64:=by omega
 unfold maxLen at hcm
 clear hrl hrb
 obtain ⟨F,hF⟩ : ∃ F,r ++ b = F:=⟨_,rfl⟩
 rw [hF]
 have HF:=Lib.hid hF;clear hF
 have Hr:=Lib.hid hr;have Hb:=Lib.hid hb;have HS:=Lib.hid hS
 clear hr hb hS
 go_enter Tryz.func71,Tryz.ntmps71
 go_wp2_with fail
 refine (ssane_any v RA r.length rc N _ hrn (by omega) Hrl.out).mono ?_
 rintro e w1 ⟨rfl,k1⟩
 have HX1:=Lib.hid (((StCells.new w w.heap.size v RA r.length rc N rfl).b.alloc (.cells (h80.cells ++ ([.slice none 0 0,.int .u64 0] : List Value)).toArray 106)).keep k1)
 have HR1 : Hid (StCells w1 (w.heap.size + 1) h80 none 0 0 0):=(StCells.new _ _ h80 none 0 0 0 (by simp)).keep k1
 have hz1 : w.heap.size + 2 ≤ w1.heap.size:=by have:=k1.size;simpa using this
 have hzl : w.heap.size < w1.heap.size:=by omega
 have kw:=keep_trans (keep_trans (keep_new _ _) (keep_new _ _)) k1
 clear k1
 obtain ⟨x0,x1,x2,x3,x4,x5,x6,x7,x8,x9⟩:=(show StCells w1 w.heap.size v RA r.length rc N from ⟨HX1.out⟩).all
 go_upto_if 24 with fail
 have HO2 : Hid (StCells (w1.alloc (.cells #[.int .u32 v.a.toNat,.int .u32 v.b.toNat,.int .u32 v.c.toNat,.int .u32 v.d.toNat,.int .u32 v.e.toNat,.int .u32 v.f.toNat,.int .u32 v.g.toNat,.int .u32 v.h.toNat,.slice none 0 0,.int .u64 ((N : Int) + (b.length : Int))] 106)) w1.heap.size v none 0 0 ((N : Int) + (b.length : Int))):=StCells.new w1 w1.heap.size v none 0 0 _ rfl
 have k2:=keep_new w1 (.cells #[.int .u32 v.a.toNat,.int .u32 v.b.toNat,.int .u32 v.c.toNat,.int .u32 v.d.toNat,.int .u32 v.e.toNat,.int .u32 v.f.toNat,.int .u32 v.g.toNat,.int .u32 v.h.toNat,.slice none 0 0,.int .u64 ((N : Int) + (b.length : Int))] 106)
 have hz2 : w1.heap.size < (w1.alloc (.cells #[.int .u32 v.a.toNat,.int .u32 v.b.toNat,.int .u32 v.c.toNat,.int .u32 v.d.toNat,.int .u32 v.e.toNat,.int .u32 v.f.toNat,.int .u32 v.g.toNat,.int .u32 v.h.toNat,.slice none 0 0,.int .u64 ((N : Int) + (b.length : Int))] 106)).heap.size:=by simp
 generalize w1.alloc (.cells #[.int .u32 v.a.toNat,.int .u32 v.b.toNat,.int .u32 v.c.toNat,.int .u32 v.d.toNat,.int .u32 v.e.toNat,.int .u32 v.f.toNat,.int .u32 v.g.toNat,.int .u32 v.h.toNat,.slice none 0 0,.int .u64 ((N : Int) + (b.length : Int))] 106) = w2 at HO2 k2 hz2 ⊢
 clear x0 x1 x2 x3 x4 x5 x6 x7 x8 x9
 have HX2:=Lib.hid (HX1.out.keep k2);have HR2:=Lib.hid (HR1.out.keep k2)
 replace kw:=keep_trans kw k2
 clear HX1 HR1 k2
 go_cut [1] (fun s wx => ∃ A1 b1 c1 v1,s = .slice A1 b1.length c1∧b1.length ≤ c1∧c1 ≤ 9223372036854775807∧b1.length ≤ 100000000∧Rd w A1 (b1.map u8v)∧Hid (Summed F v b1 v1)∧Hid (StCells wx w1.heap.size v1 none 0 0 ((N : Int) + (b.length : Int)))∧Hid (StCells wx (w.heap.size + 1) h80 none 0 0 0)∧Keep w wx)
 case first =>
  by_cases hr0 : 0 < r.length
  ·have hge : 64 ≤ r.length + b.length:=by
    rcases Hrb.out with h | h
    ·rw [h] at hr0;simp at hr0
    ·exact h
   obtain ⟨_,_,_,_,_,_,_,_,x8,_⟩:=(show StCells w2 w.heap.size v RA r.length rc N from ⟨HX2.out⟩).all
   obtain ⟨wm,hmk,hbm,km,hsz⟩:=make_blk 0 64 0 64 rfl rfl (by omega) (by omega) w2
   have x8m:=keep_cell km x8
   have own0:=own_made hbm (Nat.le_refl _) (by unfold maxLen;omega)
   have Own0:=Lib.hid own0;have Km:=Lib.hid km
   have hqb : 64 - r.length ≤ b.length:=by omega
   have x8m:=keep_cell km x8
   have own0:=own_made hbm (Nat.le_refl _) (by unfold maxLen;omega)
   have Own0:=Lib.hid own0;have Km:=Lib.hid km
   obtain ⟨q,hq⟩ : ∃ q,r.length + q = 64:=⟨64 - r.length,by omega⟩
   have hmin : min (64 - (r.length : Int)) (b.length : Int) = (q : Int):=by omega
   have hqb : q ≤ b.length:=by omega
   have Hq:=Lib.hid hq;clear hq
   clear hbm own0
   go_upto_region 8 with (at_builtin;refine wpList_app byteW (by rfl) _ _ (by rfl) w2.heap.size _ 0 _ (by rfl) Own0.out _ r.length rc (r.map u8v) (by rfl) (by simp) (Hr.out.keep (keep_trans kw Km.out)) (one_w8 _) (by omega) (by unfold maxLen;omega) (by omega) ?_;intro v3 w3 own3 hg3 hat3)
   rw [Nat.zero_add,List.nil_append] at own3
   obtain ⟨A3,c3,rfl,hc3,hm3,hr3⟩:=own_form own3
   have Own3:=Lib.hid own3
   have k3:=keep_grown Km.out Km.out.size hg3 Own0.out
   clear own3 hr3
   have Brd:=Lib.hid (((Hb.out.take (64 - r.length)).keep (keep_trans kw k3)))
   have hbk : (r ++ b.take (64 - r.length)).length = 64:=by rw [List.length_append,List.length_take];omega
   go_upto_if 44 with (at_builtin;refine wpList_app byteW (by rfl) _ _ (by rfl) w2.heap.size _ r.length _ (by rfl) Own3.out _ (64 - r.length) c ((b.map u8v).take (64 - r.length)) (by rfl) (by simp;omega) Brd.out (fun u hu => one_w8 b u (List.mem_of_mem_take hu)) (by omega) (by unfold maxLen;omega) (by have:=k3.size;omega) ?_;intro v4 w4 own4 hg4 hat4;have own5:=own_eq own4 (n':=64) (xs':=(r ++ b.take (64 - r.length)).map u8v) (by omega) (by rw [List.map_append,List.map_take]);obtain ⟨A4,c4,rfl,hc4,hm4,hr4⟩:=own_form own5)
   have k4:=keep_grown k3 k3.size hg4 Own3.out
   have HO4:=Lib.hid (HO2.out.keep k4);have HR4:=Lib.hid (HR2.out.keep k4)
   have kw4:=keep_trans kw k4
   obtain ⟨x0,x1,x2,x3,x4,x5,x6,x7,_,_⟩:=HO4.out.all
   have Hr4:=Lib.hid hr4;have Hbk:=Lib.hid hbk
   clear own4 own5 hg3 hg4 hat3 hat4 hr4 x8 x8m hmk
   go_wp2_with fail
   refine (block_any v A4 _ c4 _ Hbk.out Hr4.out (HS.out.keep kw4)).mono ?_
   rintro e w5 ⟨rfl,k5⟩
   have HO5:=Lib.hid (HO4.out.keep k5);have HR5:=Lib.hid (HR4.out.keep k5)
   have kw5:=keep_trans kw4 k5
   obtain ⟨y0,y1,y2,y3,y4,y5,y6,y7,_,_⟩:=HO5.out.all
   obtain ⟨f0,f1,f2,f3,f4,f5,f6,f7,_,_⟩:=HO5.out.fr
   clear x0 x1 x2 x3 x4 x5 x6 x7
   have HF':=HF.out
   generalize hu : blockH v (r ++ b.take (64 - r.length)) = u
   have Hu:=Lib.hid hu;clear hu
   go_wp2
   all_goals go_meet
   all_goals refine ⟨_,b.drop (64 - r.length),_,u,by rw [List.length_drop],by rw [List.length_drop];omega,by omega,by rw [List.length_drop];omega,?_,by rw [← Hu.out];exact Summed.first v HF.out hrn hge,HO5.out.set8 u,?_,?_⟩
   all_goals first
    | (rw [List.map_drop];exact Hb.out.dropN (by simp;omega))
    | (rw [List.drop_eq_nil_of_le (by omega)];exact .inl rfl)
    | (repeat (refine Below.setCell ?_ (by simp;omega) _)
       exact kw5)
    | (refine ⟨?_⟩
       repeat (refine Blk.far ?_ (by simp;omega) _)
       exact HR5.out.b)
  ·have HF':=HF.out
   have hr1 : r = []:=List.eq_nil_of_length_eq_zero (by omega)
   have Hr1:=Lib.hid hr1;clear hr1
   go_wp2
   all_goals go_meet
   all_goals exact ⟨A,b,c,v,rfl,hbc,hcm,hbl,Hb.out,Summed.zero v HF.out Hr1.out,HO2.out,HR2.out,kw⟩
 case rest =>
  obtain ⟨A1,b1,c1,v1,rfl,hbc1,hcm1,hbl1,hb1,HS1,HO1,HR1,kw1⟩:=hcut
  have Hb1:=Lib.hid hb1;clear hb1
  go_wp2_with fail
  go_loopw [1] (fun s wr => ∃ A2 b2 c2 v2,s = .slice A2 b2.length c2∧b2.length ≤ c2∧c2 ≤ 9223372036854775807∧b2.length ≤ 100000000∧Rd w A2 (b2.map u8v)∧Hid (Summed F v b2 v2)∧Hid (StCells wr w1.heap.size v2 none 0 0 ((N : Int) + (b.length : Int)))∧Hid (StCells wr (w.heap.size + 1) h80 none 0 0 0)∧Keep w wr) (fun s _ => match s with | .slice _ n _ => n | _ => 0)
  case atStart => exact ⟨A1,b1,c1,v1,rfl,hbc1,hcm1,hbl1,Hb1.out,HS1,HO1,HR1,kw1⟩
  case round =>
   obtain ⟨A2,b2,c2,v2,rfl,hbc2,hcm2,hbl2,hb2,HS2,HO2,HR2,kw2⟩:=hrel
   have Hb2:=Lib.hid hb2;clear hb2
   by_cases hlt : 64 ≤ b2.length
   ·obtain ⟨x0,x1,x2,x3,x4,x5,x6,x7,_,_⟩:=HO2.out.all
    have HBl : Hid (∀ w',Keep w w' → ∀ c',Calls Tryz.prog 89 #[v2.agg,.slice A2 64 c'] w' fun e w'' => e = .returned (blockH v2 (b2.take 64)).agg∧Keep w' w''):=fun w' h c' => block_any v2 A2 (b2.take 64) c' w' (by rw [List.length_take];omega) (by rw [List.map_take];exact (Hb2.out.keep h).take 64) (HS.out.keep h)
    generalize hu : blockH v2 (b2.take 64) = u at HBl
    have Hu:=Lib.hid hu;clear hu
    go_wp2
    refine wp_region_tree (.take [0,1,2,3] (.force [4] (.take [5] .done))) [6] (by kernel_rfl) (by kernel_rfl) (fun w3 k3 => ?_)
    have a0:=aft_cell (keep_cell k3 x0);have a1:=aft_cell (keep_cell k3 x1);have a2:=aft_cell (keep_cell k3 x2);have a3:=aft_cell (keep_cell k3 x3)
    have a4:=aft_cell (keep_cell k3 x4);have a5:=aft_cell (keep_cell k3 x5);have a6:=aft_cell (keep_cell k3 x6);have a7:=aft_cell (keep_cell k3 x7)
    refine mt_take w3 (Below.refl _ _) ?_
    simp only [pick_cons,pick_nil,nth_zero,nth_succ]
    repeat (go_big_quiet_step (fail))
    refine wpQuiet_nil ?_
    clear a0 a1 a2 a3 a4 a5 a6 a7 x0 x1 x2 x3 x4 x5 x6 x7
    refine mt_force ?_
    simp only [pick_cons,pick_nil,nth_zero,nth_succ]
    refine fc_step rfl (fun K hK => ?_)
    go_simp
    have kw3:=keep_trans kw2 k3
    (with_reducible refine (HBl.out _ kw3 _).mono ?_)
    rintro e w4 ⟨rfl,hk⟩
    refine hK _ _ hk ?_
    clear hK K
    refine fc_nil ?_
    refine mt_take w4 (Below.refl _ _) ?_
    simp only [pick_cons,pick_nil,nth_zero,nth_succ]
    repeat (go_big_quiet_step (fail))
    refine wpQuiet_nil (mt_end ?_)
    have k4:=keep_trans k3 hk
    have HO4:=Lib.hid (HO2.out.keep k4);have HR4:=Lib.hid (HR2.out.keep k4)
    have kw4:=keep_trans kw3 hk
    obtain ⟨x0,x1,x2,x3,x4,x5,x6,x7,_,_⟩:=HO4.out.all
    obtain ⟨f0,f1,f2,f3,f4,f5,f6,f7,_,_⟩:=HO4.out.fr
    clear hk
    go_wp2
    go_roundw
    case rel =>
     refine ⟨_,b2.drop 64,c2 - 64,u,by rw [List.length_drop],by rw [List.length_drop];omega,by omega,by rw [List.length_drop];omega,by rw [List.map_drop];exact Hb2.out.dropS 64 c2 (by simpa using hlt) (by simpa using hbc2),by rw [← Hu.out];exact Summed.next HS2.out hlt,HO4.out.set8 u,?_,?_⟩
     ·refine ⟨?_⟩
      repeat (refine Blk.far ?_ (by simp;omega) _)
      exact HR4.out.b
     ·repeat (refine Below.setCell ?_ (by simp;omega) _)
      exact kw4
    case measure => simp;omega
   ·have hlt2 : b2.length < 64:=by omega
    have Hd:=Lib.hid (HS2.out.done hlt2)
    have hnn : ¬ (64 : Int) ≤ (b2.length : Int):=by omega
    go_upto_region 18 with (at_builtin;refine wpList_app byteW (by rfl) _ _ (by rfl) wr.heap.size _ 0 [] (by rfl) (own_zero _ _ _) _ b2.length c2 (b2.map u8v) (by rfl) (by simp) (Hb2.out.keep (keep_trans kw2 (keep_new _ _))) (one_w8 _) (by omega) (by unfold maxLen;omega) (by simp) ?_;intro v9 w9 own9 hg9 hat9;have own10:=own_eq own9 (n':=b2.length) (xs':=b2.map u8v) (by omega) (by simp);obtain ⟨A9,c9,rfl,hc9,hm9,hr9⟩:=own_form own10;have Hf9:=Lib.hid (own_fresh own10);have k9:=keep_grown (keep_new wr _) (by simp) hg9 (own_zero _ _ 1);have HO9:=Lib.hid (HO2.out.keep k9);have HR9:=Lib.hid (HR2.out.keep k9);obtain ⟨x0,x1,x2,x3,x4,x5,x6,x7,x8,x9⟩:=HO9.out.all;obtain ⟨f0,f1,f2,f3,f4,f5,f6,f7,f8,f9⟩:=HO9.out.fr;obtain ⟨y0,y1,y2,y3,y4,y5,y6,y7,y8,y9⟩:=HR9.out.all;obtain ⟨g0,g1,g2,g3,g4,g5,g6,g7,g8,g9⟩:=HR9.out.fr;have Hr9:=Lib.hid hr9;clear own9 own10 hr9 hg9 hat9)
    go_wp2
    have hws:=kw2.size
    have hw1:=HO2.out.b.lt
    have hw2:=HR2.out.b.lt
    refine bodyPost_ret (v:=SV v2 A9 b2.length c9 ((N : Int) + (b.length : Int))) (results_cell_row Tryz.results71 _ _ (w.heap.size + 1) _ _ _ _ rfl (StCells.set10 ⟨HR9.out.b.far (p:=⟨w1.heap.size,8,none⟩) (by simp;omega) _⟩ v2 A9 b2.length c9 _) Tryz.underlying106 rfl (by kernel_rfl)) rfl ?_
    obtain ⟨e1,e2,e3⟩:=Hd.out
    rw [e1,e2,← List.map_drop,e3]
    refine ⟨A9,⟨c9,rfl⟩,?_,?_⟩
    ·rcases Hf9.out with h0 | ⟨g,off,rfl,hg⟩
     ·rw [List.eq_nil_of_length_eq_zero h0];exact .inl rfl
     ·iterate 11 (refine Rd.far ?_ (by simp;omega) _)
      exact Hr9.out
    ·iterate 11 (refine Below.setCell ?_ (by first | (simp;omega) | simp) _)
     exact keep_trans kw2 k9
end Go.Proofs.YtmbbknjddebhoaaGreatDoor
namespace Go.Proofs.YtmbbknjddebhoaaGreatDoor
open Go.RowKit
attribute [local go_sem ↓] Go.wp_at_zero Go.wp_at_succ
def byE (x : UInt32) (d : Int) : Int:=(x.toNat : Int) / d % 256
def outK (V : List UInt32) : Nat → List UInt8
 | 0 => List.replicate 32 0
 | k + 1 => ((((outK V k).set (4 * k) (w8 (byE (V.getD k 0) 16777216))).set (4 * k + 1) (w8 (byE (V.getD k 0) 65536))).set (4 * k + 2) (w8 (byE (V.getD k 0) 256))).set (4 * k + 3) (w8 (byE (V.getD k 0) 1))
theorem outK_len (V : List UInt32) (k : Nat) : (outK V k).length = 32:=by
 induction k with
 | zero => rfl
 | succ k ih => rw [outK,List.length_set,List.length_set,List.length_set,List.length_set,ih]
def outH (V : H8) : List UInt8:=outK V.l 8
theorem outH_len (V : H8) : (outH V).length = 32:=outK_len _ _
def endH (v : H8) (r : List UInt8) (N : Nat) : H8:=blocks v (r ++ padK N 8) ((r ++ padK N 8).length / 64)
def sumL (l : List UInt8) : List UInt8:=outH (endH (blocks h0V l (l.length / 64)) (l.drop (64 * (l.length / 64))) l.length)
def dblL (l : List UInt8) : List UInt8:=sumL (sumL l)
theorem sumL_len (l : List UInt8) : (sumL l).length = 32:=by unfold sumL;exact outH_len _
theorem dblL_len (l : List UInt8) : (dblL l).length = 32:=by unfold dblL;exact sumL_len _
theorem idx8 (V : H8) (k : Nat) (hk : k < 8) (y : UInt32) (hy : V.l[k]? = some y) (w : World) :
  (Instr.index 104 (.agg #[.int .u32 V.a.toNat,.int .u32 V.b.toNat,.int .u32 V.c.toNat,.int .u32 V.d.toNat,.int .u32 V.e.toNat,.int .u32 V.f.toNat,.int .u32 V.g.toNat,.int .u32 V.h.toNat]) (.int .i64 k)).run Tryz.prog w = .ok (u32v y) w:=by
 rcases (show k = 0 ∨ k = 1 ∨ k = 2 ∨ k = 3 ∨ k = 4 ∨ k = 5 ∨ k = 6 ∨ k = 7 by omega) with rfl | rfl | rfl | rfl | rfl | rfl | rfl | rfl
 all_goals
  clear hk
  simp only [H8.l,List.getElem?_cons_zero,List.getElem?_cons_succ,Option.some.injEq] at hy
  subst hy
  first | (go_simp;done) | (simp [Instr.index,asIntOf,run_underlying Tryz.underlying104,go_sem];done)
set_option maxRecDepth 100000 in
set_option maxHeartbeats 3000000 in
theorem end_any (v : H8) (RA : Option Addr) (r : List UInt8) (rc N : Nat) (w : World) (hS : ShaOk w) (hr : Rd w RA (r.map u8v)) (hrl : r.length = N % 64) (hN : N ≤ 100000000000) :
  Calls Tryz.prog 70 #[SV v RA r.length rc N] w fun e w' => e = .returned (hashV (outH (endH v r N)))∧Keep w w':=by
 have hpl:=padK_len N 8
 have P1 : Hid (∀ w',Keep w w' → Calls Tryz.prog 88 #[.int .u64 N] w' fun e w'' => ∃ A',e = .returned (.slice A' (padK N 8).length (padK N 8).length)∧Rd w'' A' ((padK N 8).map u8v)∧Keep w' w''):=fun w' hk =>
  (pad_any N w' (by omega)).mono fun e w'' ⟨h1,h2,h3⟩ => ⟨_,by rw [h1,hpl],h2.rd,h3⟩
 have W1 : Hid (∀ w' A',Keep w w' → Rd w' A' ((padK N 8).map u8v) → Calls Tryz.prog 71 #[SV v RA r.length rc N,.slice A' (padK N 8).length (padK N 8).length] w' fun e w'' => ∃ A2 n2 c2 N2,e = .returned (SV (endH v r N) A2 n2 c2 N2)∧Keep w' w''):=fun w' A' hk hp =>
  (write_any v RA r rc N A' (padK N 8) _ w' (hS.keep hk) (hr.keep hk) hrl hp (Nat.le_refl _) (by rw [hpl];unfold padZ maxLen;split <;> omega) (by rw [hpl];unfold padZ;split <;> omega) hN (by right;rw [hpl,hrl];unfold padZ;split <;> omega)).mono
   fun e w'' ⟨A',c',h1,h2,h3⟩ => ⟨_,_,_,_,h1,h3⟩
 have Hrl:=Lib.hid hrl
 have hrn : r.length < 64:=by omega
 clear hpl hrl hr hS
 generalize endH v r N = V at *
 generalize padK N 8 = pd at *
 go_enter Tryz.func70,Tryz.ntmps70
 go_wp2_with fail
 refine (ssane_any v RA r.length rc N _ hrn (by omega) Hrl.out).mono ?_
 rintro e w1 ⟨rfl,k1⟩
 have HX1 : Hid (StCells w1 w.heap.size v RA r.length rc N):=⟨((StCells.new w w.heap.size v RA r.length rc N rfl).b.alloc _).keep k1⟩
 have HR1:=Lib.hid ((z32_blk (w.alloc (.cells #[u32v v.a,u32v v.b,u32v v.c,u32v v.d,u32v v.e,u32v v.f,u32v v.g,u32v v.h,.slice RA r.length rc,.int .u64 N] 106)) (w.heap.size + 1) 28 (by simp)).keep k1)
 have hz1 : w.heap.size + 2 ≤ w1.heap.size:=by have:=k1.size;simpa using this
 have kw:=keep_trans (keep_trans (keep_new _ _) (keep_new _ _)) k1
 clear k1
 obtain ⟨x0,x1,x2,x3,x4,x5,x6,x7,x8,x9⟩:=HX1.out.all
 go_wp2_with fail
 refine wp_region_tree (.take [0,1,2] (.force [3,4] .done)) [5] (by kernel_rfl) (by kernel_rfl) (fun w3 k3 => ?_)
 have a0:=aft_cell (keep_cell k3 x0);have a1:=aft_cell (keep_cell k3 x1);have a2:=aft_cell (keep_cell k3 x2);have a3:=aft_cell (keep_cell k3 x3)
 have a4:=aft_cell (keep_cell k3 x4);have a5:=aft_cell (keep_cell k3 x5);have a6:=aft_cell (keep_cell k3 x6);have a7:=aft_cell (keep_cell k3 x7)
 have a8:=aft_cell (keep_cell k3 x8);have a9:=aft_cell (keep_cell k3 x9)
 refine mt_take w3 (Below.refl _ _) ?_
 simp only [pick_cons,pick_nil,nth_zero,nth_succ]
 repeat (go_big_quiet_step (fail))
 refine wpQuiet_nil ?_
 clear a0 a1 a2 a3 a4 a5 a6 a7 a8 a9 x0 x1 x2 x3 x4 x5 x6 x7 x8 x9
 refine mt_force ?_
 simp only [pick_cons,pick_nil,nth_zero,nth_succ]
 refine fc_step rfl (fun K hK => ?_)
 go_simp
 have kw3:=keep_trans kw k3
 (with_reducible refine (P1.out _ kw3).mono ?_)
 rintro e w4 ⟨A4,rfl,hr4,hk⟩
 refine hK _ _ hk ?_
 clear hK K
 have kw4:=keep_trans kw3 hk
 have Hr4:=Lib.hid hr4
 have k4:=keep_trans k3 hk
 clear hk hr4
 refine fc_step rfl (fun K hK => ?_)
 go_simp
 (with_reducible refine (W1.out _ _ kw4 Hr4.out).mono ?_)
 rintro e w5 ⟨A5,n5,c5,N5,rfl,hk⟩
 refine hK _ _ hk ?_
 clear hK K
 have kw5:=keep_trans kw4 hk
 have k5:=keep_trans k4 hk
 have HX5:=Lib.hid (HX1.out.keep k5);have HR5:=Lib.hid (HR1.out.keep k5)
 have hz5:=k5.size
 clear hk
 refine fc_nil (mt_end ?_)
 obtain ⟨x0,x1,x2,x3,x4,x5,x6,x7,x8,x9⟩:=HX5.out.all
 obtain ⟨f0,f1,f2,f3,f4,f5,f6,f7,f8,f9⟩:=HX5.out.fr
 have hzl : w.heap.size < w5.heap.size:=by omega
 go_wp2_with fail
 obtain ⟨wq,hwq⟩ : ∃ wq,wq = ((((((((((w5.setCell ⟨w.heap.size,0,none⟩ (u32v V.a)).setCell ⟨w.heap.size,1,none⟩ (u32v V.b)).setCell ⟨w.heap.size,2,none⟩ (u32v V.c)).setCell ⟨w.heap.size,3,none⟩ (u32v V.d)).setCell ⟨w.heap.size,4,none⟩ (u32v V.e)).setCell ⟨w.heap.size,5,none⟩ (u32v V.f)).setCell ⟨w.heap.size,6,none⟩ (u32v V.g)).setCell ⟨w.heap.size,7,none⟩ (u32v V.h)).setCell ⟨w.heap.size,8,none⟩ (.slice A5 n5 c5)).setCell ⟨w.heap.size,9,none⟩ (.int .u64 N5)):=⟨_,rfl⟩
 have hzq : wq.heap.size = w5.heap.size:=by rw [hwq];simp
 have kwq : Keep w wq:=by
  rw [hwq]
  iterate 10 (refine Below.setCell ?_ (by simp) _)
  exact kw5
 have hrq : Blk wq (w.heap.size + 1) 28 ((List.replicate 32 (0 : UInt8)).map u8v):=by
  rw [hwq]
  iterate 10 (refine Blk.far ?_ (by simp) _)
  exact HR5.out
 rw [← hwq]
 clear hwq x0 x1 x2 x3 x4 x5 x6 x7 x8 x9 f0 f1 f2 f3 f4 f5 f6 f7 f8 f9
 rw [← hzq]
 have hsq : w.heap.size + 1 < wq.heap.size:=by omega
 clear hzq
 have ho6:=z32_blk wq wq.heap.size 28 rfl
 have hr6:=hrq.alloc (.cells #[.int .u8 0,.int .u8 0,.int .u8 0,.int .u8 0,.int .u8 0,.int .u8 0,.int .u8 0,.int .u8 0,.int .u8 0,.int .u8 0,.int .u8 0,.int .u8 0,.int .u8 0,.int .u8 0,.int .u8 0,.int .u8 0,.int .u8 0,.int .u8 0,.int .u8 0,.int .u8 0,.int .u8 0,.int .u8 0,.int .u8 0,.int .u8 0,.int .u8 0,.int .u8 0,.int .u8 0,.int .u8 0,.int .u8 0,.int .u8 0,.int .u8 0,.int .u8 0] 28)
 have kw6:=keep_trans kwq (keep_new wq (.cells #[.int .u8 0,.int .u8 0,.int .u8 0,.int .u8 0,.int .u8 0,.int .u8 0,.int .u8 0,.int .u8 0,.int .u8 0,.int .u8 0,.int .u8 0,.int .u8 0,.int .u8 0,.int .u8 0,.int .u8 0,.int .u8 0,.int .u8 0,.int .u8 0,.int .u8 0,.int .u8 0,.int .u8 0,.int .u8 0,.int .u8 0,.int .u8 0,.int .u8 0,.int .u8 0,.int .u8 0,.int .u8 0,.int .u8 0,.int .u8 0,.int .u8 0,.int .u8 0] 28))
 have Ho6:=Lib.hid ho6;have Hr6:=Lib.hid hr6
 generalize wq.alloc (.cells #[.int .u8 0,.int .u8 0,.int .u8 0,.int .u8 0,.int .u8 0,.int .u8 0,.int .u8 0,.int .u8 0,.int .u8 0,.int .u8 0,.int .u8 0,.int .u8 0,.int .u8 0,.int .u8 0,.int .u8 0,.int .u8 0,.int .u8 0,.int .u8 0,.int .u8 0,.int .u8 0,.int .u8 0,.int .u8 0,.int .u8 0,.int .u8 0,.int .u8 0,.int .u8 0,.int .u8 0,.int .u8 0,.int .u8 0,.int .u8 0,.int .u8 0,.int .u8 0] 28) = w6 at Ho6 Hr6 kw6 ⊢
 clear ho6 hr6
 go_loopw [17] (fun i wr => ∃ k : Nat,k ≤ 8∧i = .int .i64 k∧Keep w wr∧Blk wr (w.heap.size + 1) 28 ((List.replicate 32 (0 : UInt8)).map u8v)∧Blk wr wq.heap.size 28 ((outK V.l k).map u8v)) (fun i _ => 8 - (intOf i).toNat)
 case atStart => exact ⟨0,by omega,rfl,kw6,Hr6.out,Ho6.out⟩
 case round =>
  obtain ⟨k,hk,rfl,hkr,hbr,hbo⟩:=hrel
  by_cases hlt : k < 8
  ·obtain ⟨y,hy⟩ : ∃ y,V.l[k]? = some y:=⟨_,List.getElem?_eq_getElem (by exact hlt)⟩
   have hix:=idx8 V k hlt y hy wr
   have Hou:=Lib.hid (show outK V.l (k + 1) = ((((outK V.l k).set (4 * k) (w8 (byE y 16777216))).set (4 * k + 1) (w8 (byE y 65536))).set (4 * k + 2) (w8 (byE y 256))).set (4 * k + 3) (w8 (byE y 1)) by rw [outK,getD_of hy])
   have HL0:=Lib.hid (outK_len V.l k)
   have Hbr:=Lib.hid hbr;have Hbo0:=Lib.hid hbo
   clear hbr hbo hy
   have Hkr0:=Lib.hid hkr
   have hwz:=hkr.size
   obtain ⟨o0,h0⟩ : ∃ o,(outK V.l k)[4 * k]? = some o:=⟨_,List.getElem?_eq_getElem (by rw [HL0.out];omega)⟩
   have c0:=Hbo0.out.cell (4 * k);rw [List.getElem?_map,h0,Option.map_some] at c0
   have f0:=Hbo0.out.frozen (4 * k)
   clear h0
   go_upto_region 9 with fail
   obtain ⟨wa,hw0⟩ : ∃ ww,ww = wr.setCell ⟨wq.heap.size,4 * k,none⟩ (.int .u8 ((y.toNat : Int) / 16777216 % 256)):=⟨_,rfl⟩
   have Hbo1 : Hid (Blk wa wq.heap.size 28 (((outK V.l k).set (4 * k) (w8 (byE y 16777216))).map u8v)):=by
    rw [set_map8 _ _ (byE y 16777216) (by unfold byE;omega) (by unfold byE;omega),hw0]
    have h:=Hbo0.out.set_ (4 * k) (.int .u8 (byE y 16777216))
    exact h
   have HL1 : Hid (((outK V.l k).set (4 * k) (w8 (byE y 16777216))).length = 32):=by
    have h:=HL0.out
    show (List.set _ _ _).length = 32
    rw [List.length_set];exact h
   have Hbr1 : Hid (Blk wa (w.heap.size + 1) 28 ((List.replicate 32 (0 : UInt8)).map u8v)):=by rw [hw0];exact Hbr.out.far (by simp;omega) _
   have Hkr1 : Hid (Keep w wa):=by rw [hw0];exact Hkr0.out.setCell (by simp;omega) _
   rw [← hw0]
   clear hw0 c0 f0
   obtain ⟨o1,h1⟩ : ∃ o,((outK V.l k).set (4 * k) (w8 (byE y 16777216)))[4 * k + 1]? = some o:=⟨_,List.getElem?_eq_getElem (by rw [HL1.out];omega)⟩
   have c1:=Hbo1.out.cell (4 * k + 1);rw [List.getElem?_map,h1,Option.map_some] at c1
   have f1:=Hbo1.out.frozen (4 * k + 1)
   clear h1
   go_upto_region 10 with fail
   obtain ⟨wb,hw1⟩ : ∃ ww,ww = wa.setCell ⟨wq.heap.size,4 * k + 1,none⟩ (.int .u8 ((y.toNat : Int) / 65536 % 256)):=⟨_,rfl⟩
   have Hbo2 : Hid (Blk wb wq.heap.size 28 ((((outK V.l k).set (4 * k) (w8 (byE y 16777216))).set (4 * k + 1) (w8 (byE y 65536))).map u8v)):=by
    rw [set_map8 _ _ (byE y 65536) (by unfold byE;omega) (by unfold byE;omega),hw1]
    have h:=Hbo1.out.set_ (4 * k + 1) (.int .u8 (byE y 65536))
    exact h
   have HL2 : Hid ((((outK V.l k).set (4 * k) (w8 (byE y 16777216))).set (4 * k + 1) (w8 (byE y 65536))).length = 32):=by
    have h:=HL1.out
    show (List.set _ _ _).length = 32
    rw [List.length_set];exact h
   have Hbr2 : Hid (Blk wb (w.heap.size + 1) 28 ((List.replicate 32 (0 : UInt8)).map u8v)):=by rw [hw1];exact Hbr1.out.far (by simp;omega) _
   have Hkr2 : Hid (Keep w wb):=by rw [hw1];exact Hkr1.out.setCell (by simp;omega) _
   rw [← hw1]
   clear hw1 c1 f1
   obtain ⟨o2,h2⟩ : ∃ o,(((outK V.l k).set (4 * k) (w8 (byE y 16777216))).set (4 * k + 1) (w8 (byE y 65536)))[4 * k + 2]? = some o:=⟨_,List.getElem?_eq_getElem (by rw [HL2.out];omega)⟩
   have c2:=Hbo2.out.cell (4 * k + 2);rw [List.getElem?_map,h2,Option.map_some] at c2
   have f2:=Hbo2.out.frozen (4 * k + 2)
   clear h2
   go_upto_region 11 with fail
   obtain ⟨wc,hw2⟩ : ∃ ww,ww = wb.setCell ⟨wq.heap.size,4 * k + 2,none⟩ (.int .u8 ((y.toNat : Int) / 256 % 256)):=⟨_,rfl⟩
   have Hbo3 : Hid (Blk wc wq.heap.size 28 (((((outK V.l k).set (4 * k) (w8 (byE y 16777216))).set (4 * k + 1) (w8 (byE y 65536))).set (4 * k + 2) (w8 (byE y 256))).map u8v)):=by
    rw [set_map8 _ _ (byE y 256) (by unfold byE;omega) (by unfold byE;omega),hw2]
    have h:=Hbo2.out.set_ (4 * k + 2) (.int .u8 (byE y 256))
    exact h
   have HL3 : Hid (((((outK V.l k).set (4 * k) (w8 (byE y 16777216))).set (4 * k + 1) (w8 (byE y 65536))).set (4 * k + 2) (w8 (byE y 256))).length = 32):=by
    have h:=HL2.out
    show (List.set _ _ _).length = 32
    rw [List.length_set];exact h
   have Hbr3 : Hid (Blk wc (w.heap.size + 1) 28 ((List.replicate 32 (0 : UInt8)).map u8v)):=by rw [hw2];exact Hbr2.out.far (by simp;omega) _
   have Hkr3 : Hid (Keep w wc):=by rw [hw2];exact Hkr2.out.setCell (by simp;omega) _
   rw [← hw2]
   clear hw2 c2 f2
   obtain ⟨o3,h3⟩ : ∃ o,((((outK V.l k).set (4 * k) (w8 (byE y 16777216))).set (4 * k + 1) (w8 (byE y 65536))).set (4 * k + 2) (w8 (byE y 256)))[4 * k + 3]? = some o:=⟨_,List.getElem?_eq_getElem (by rw [HL3.out];omega)⟩
   have c3:=Hbo3.out.cell (4 * k + 3);rw [List.getElem?_map,h3,Option.map_some] at c3
   have f3:=Hbo3.out.frozen (4 * k + 3)
   clear h3
   go_upto_region 12 with fail
   obtain ⟨wd,hw3⟩ : ∃ ww,ww = wc.setCell ⟨wq.heap.size,4 * k + 3,none⟩ (.int .u8 ((y.toNat : Int) % 256)):=⟨_,rfl⟩
   have Hbo4 : Hid (Blk wd wq.heap.size 28 ((((((outK V.l k).set (4 * k) (w8 (byE y 16777216))).set (4 * k + 1) (w8 (byE y 65536))).set (4 * k + 2) (w8 (byE y 256))).set (4 * k + 3) (w8 (byE y 1))).map u8v)):=by
    rw [set_map8 _ _ (byE y 1) (by unfold byE;omega) (by unfold byE;omega),hw3]
    have h:=Hbo3.out.set_ (4 * k + 3) (.int .u8 (byE y 1))
    unfold byE at h ⊢;rw [Int.ediv_one] at h ⊢;exact h
   have HL4 : Hid ((((((outK V.l k).set (4 * k) (w8 (byE y 16777216))).set (4 * k + 1) (w8 (byE y 65536))).set (4 * k + 2) (w8 (byE y 256))).set (4 * k + 3) (w8 (byE y 1))).length = 32):=by
    have h:=HL3.out
    show (List.set _ _ _).length = 32
    rw [List.length_set];exact h
   have Hbr4 : Hid (Blk wd (w.heap.size + 1) 28 ((List.replicate 32 (0 : UInt8)).map u8v)):=by rw [hw3];exact Hbr3.out.far (by simp;omega) _
   have Hkr4 : Hid (Keep w wd):=by rw [hw3];exact Hkr3.out.setCell (by simp;omega) _
   rw [← hw3]
   clear hw3 c3 f3
   go_wp2
   go_roundw
   case rel =>
    refine ⟨k + 1,by omega,by go_num,Hkr4.out,Hbr4.out,?_⟩
    rw [Hou.out]
    exact Hbo4.out
   case measure => simp [intOf];omega
  ·have Hk:=Lib.hid (show k = 8 by omega)
   have hxl:=outK_len V.l k
   generalize hx : outK V.l k = x at hbo hxl
   have Hx:=Lib.hid hx;clear hx
   obtain ⟨cs,hcs⟩ : ∃ cs : Array Value,cs.toList = x.map u8v:=⟨(x.map u8v).toArray,rfl⟩
   have hcz : cs.size = 32:=by rw [← Array.length_toList,hcs,List.length_map,hxl]
   have hci : (Tryz.prog.info? 28).map (·.size) = some cs.size:=by rw [hcz];kernel_rfl
   have hcn : ¬ cs = #[]:=by intro h;rw [h] at hcz;simp at hcz
   rw [← hcs] at hbo
   obtain ⟨w8,hst,hb8,hg8⟩:=run_store_blk (P:=Tryz.prog) cs.toList hbr (by simp [hcz]) (by rw [hcs];exact one_w8 _)
   have Hbo:=Lib.hid hbo;have Hb8:=Lib.hid hb8;have Hg8:=Lib.hid hg8;have Hcs:=Lib.hid hcs
   clear hbo hb8 hg8 hcs hbr
   go_upto_region 13 with fail
   go_wp2_with ((with_reducible refine load_arr wq.heap.size cs (Eq.trans ?_ rfl) Hbo.out (.array 32 5) (show Tryz.prog.underlying 28 = _ by kernel_rfl) (arr_row _ _) hci ?_);rfl)
   have hb8:=Hb8.out
   refine bodyPost_ret (v:=.agg cs) (results_cell_row Tryz.results70 _ _ (w.heap.size + 1) _ _ _ (.array 32 5) rfl hb8 (by kernel_rfl) rfl (by rw [List.size_toArray,Array.length_toList,hcz];kernel_rfl)) rfl ⟨?_,hkr.grown Hg8.out (by have:=hkr.size;omega) (fun q hq => by injection hq with hq;omega)⟩
   rw [show cs = (x.map u8v).toArray from by rw [← Hcs.out,Array.toArray_toList],← Hx.out,Hk.out]
   rfl
set_option maxRecDepth 100000 in
set_option maxHeartbeats 1000000 in
theorem sum_any (A : Option Addr) (l : List UInt8) (c : Nat) (w : World) (hS : ShaOk w) (hr : Rd w A (l.map u8v)) (hlc : l.length ≤ c) (hcm : c ≤ maxLen) (hl : l.length ≤ 100000000) :
  Calls Tryz.prog 50 #[.slice A l.length c] w fun e w' => e = .returned (hashV (sumL l))∧Keep w w':=by
 obtain ⟨cs,hcs⟩ : ∃ cs,HashA (sumL l) cs:=⟨_,HashA.of (sumL_len l)⟩
 have E1 : Hid (∀ w' A' c',Keep w w' → Rd w' A' ((l.drop (64 * (l.length / 64))).map u8v) → Calls Tryz.prog 70 #[SV (blocks h0V l (l.length / 64)) A' (l.length % 64) c' l.length] w' fun e w'' => e = .returned (.agg cs)∧Keep w' w''):=fun w' A' c' hk hr' => by
  have hm : (l.drop (64 * (l.length / 64))).length = l.length % 64:=by rw [List.length_drop];omega
  have h:=end_any (blocks h0V l (l.length / 64)) A' (l.drop (64 * (l.length / 64))) c' l.length w' (hS.keep hk) hr' hm (by omega)
  rw [hm] at h
  refine h.mono fun e w'' ⟨h1,h2⟩ => ⟨?_,h2⟩
  rw [h1,← hcs.e];rfl
 have W1 : Hid (∀ w',Keep w w' → Calls Tryz.prog 71 #[SV h0V none 0 0 0,.slice A l.length c] w' fun e w'' => ∃ A' c',e = .returned (SV (blocks h0V l (l.length / 64)) A' (l.length % 64) c' l.length)∧Rd w'' A' ((l.drop (64 * (l.length / 64))).map u8v)∧Keep w' w''):=fun w' hk => by
  have h:=write_any h0V none [] 0 0 A l c w' (hS.keep hk) (.inl rfl) rfl (hr.keep hk) hlc hcm hl (by omega) (.inl rfl)
  simp only [List.nil_append,Nat.zero_add,List.length_nil] at h
  exact h
 have S1 : Hid (∀ w',Keep w w' → Calls Tryz.prog 72 #[] w' fun e w'' => e = .returned (SV h0V none 0 0 0)∧Keep w' w''):=fun w' hk => start_any w' (hS.keep hk)
 rw [show (hashV (sumL l)) = .agg cs by rw [← hcs.e]]
 generalize blocks h0V l (l.length / 64) = V at *
 generalize l.drop (64 * (l.length / 64)) = lr at *
 generalize l.length % 64 = nr at *
 obtain ⟨zs,hzs⟩ : ∃ zs,zs = zhash:=⟨_,rfl⟩
 have hz1 : zs.size = 32:=by rw [hzs];exact zhash_size
 have hz2 : ∀ w,(zeroValue 28).run Tryz.prog w = .ok (.agg zs) w:=fun w => by rw [hzs];exact zhash_zero w
 have hz3 : ¬ zs = #[]:=fun h => by rw [h] at hz1;cases hz1
 have hcz:=hcs.z;have hcn:=hcs.n
 have Hcs:=Lib.hid hcs
 clear hzs hcs hr hS
 go_enter Tryz.func50,Tryz.ntmps50
 go_wp2_with fail
 refine (S1.out _ (keep_new _ _)).mono ?_
 rintro e w1 ⟨rfl,k1⟩
 have kw1:=keep_trans (keep_new w _) k1
 have Hb1:=Lib.hid ((show Blk _ w.heap.size 28 zs.toList from Blk.new w 28 zs.toList).keep k1)
 go_wp2_with fail
 refine (W1.out _ kw1).mono ?_
 rintro e w2 ⟨A2,c2,rfl,hr2,k2⟩
 have Hr2:=Lib.hid hr2;clear hr2
 have kw2:=keep_trans kw1 k2
 go_wp2_with fail
 refine (E1.out _ _ _ kw2 Hr2.out).mono ?_
 rintro e w3 ⟨rfl,k3⟩
 have kw3:=keep_trans kw2 k3
 obtain ⟨w8,hst,hb8,hg8⟩:=run_store_blk (P:=Tryz.prog) cs.toList (Hb1.out.keep (keep_trans k2 k3)) (by simp [hz1,hcz]) Hcs.out.o
 have Hg8:=Lib.hid hg8;have Hb8:=Lib.hid hb8;clear hg8 hb8
 go_wp2
 have hb8:=Hb8.out
 exact bodyPost_ret (v:=.agg cs) (results_cell_row Tryz.results50 _ _ w.heap.size _ _ _ (.array 32 5) rfl hb8 hash_under rfl (by rw [List.size_toArray,Array.length_toList];exact Hcs.out.i)) rfl ⟨rfl,kw3.grown Hg8.out kw3.size (fun q hq => by injection hq with hq;omega)⟩
set_option maxRecDepth 100000 in
set_option maxHeartbeats 1000000 in
theorem double_any (A : Option Addr) (l : List UInt8) (c : Nat) (w : World) (hS : ShaOk w) (hr : Rd w A (l.map u8v)) (hlc : l.length ≤ c) (hcm : c ≤ maxLen) (hl : l.length ≤ 100000000) :
  Calls Tryz.prog 31 #[.slice A l.length c] w fun e w' => e = .returned (hashV (dblL l))∧Keep w w':=by
 obtain ⟨cs,hcs⟩ : ∃ cs,HashA (sumL l) cs:=⟨_,HashA.of (sumL_len l)⟩
 obtain ⟨ds,hds⟩ : ∃ ds,HashA (dblL l) ds:=⟨_,HashA.of (dblL_len l)⟩
 have E1 : Hid (∀ w',Keep w w' → Calls Tryz.prog 50 #[.slice A l.length c] w' fun e w'' => e = .returned (.agg cs)∧Keep w' w''):=fun w' hk =>
  (sum_any A l c w' (hS.keep hk) (hr.keep hk) hlc hcm hl).mono fun e w'' ⟨h1,h2⟩ => ⟨by rw [h1,← hcs.e],h2⟩
 have E2 : Hid (∀ w' g,Keep w w' → Rd w' (some ⟨g,0,none⟩) cs.toList → Calls Tryz.prog 50 #[.slice (some ⟨g,0,none⟩) 32 32] w' fun e w'' => e = .returned (.agg ds)∧Keep w' w''):=fun w' g hk hr' => by
  have h:=sum_any (some ⟨g,0,none⟩) (sumL l) 32 w' (hS.keep hk) (by rw [← hcs.l];exact hr') (by rw [sumL_len];omega) (by unfold maxLen;omega) (by rw [sumL_len];omega)
  rw [sumL_len] at h
  exact h.mono fun e w'' ⟨h1,h2⟩ => ⟨by rw [h1,← hds.e];rfl,h2⟩
 rw [show (hashV (dblL l)) = .agg ds by rw [← hds.e]]
 obtain ⟨zs,hzs⟩ : ∃ zs,zs = zhash:=⟨_,rfl⟩
 have hz1 : zs.size = 32:=by rw [hzs];exact zhash_size
 have hz2 : ∀ w,(zeroValue 28).run Tryz.prog w = .ok (.agg zs) w:=fun w => by rw [hzs];exact zhash_zero w
 have hz3 : ¬ zs = #[]:=fun h => by rw [h] at hz1;cases hz1
 have hcz:=hcs.z;have hcn:=hcs.n
 have hdz:=hds.z;have hdn:=hds.n
 have Hcs:=Lib.hid hcs;have Hds:=Lib.hid hds
 have hst1 : ∀ ww : World,(storeCells ⟨ww.heap.size,0,none⟩ cs.toList 0).run Tryz.prog (ww.alloc (.cells zs 28)) = .ok () (ww.alloc (.cells cs 28)):=fun ww => run_storeCells_new (P:=Tryz.prog) ww 28 zs cs Hcs.out.i (hz1.trans hcz.symm) (by have:=all_oneCell_toArray Hcs.out.o;rwa [Array.toArray_toList] at this)
 clear hzs hcs hds hr hS
 go_enter Tryz.func31,Tryz.ntmps31
 go_wp2_with fail
 refine (E1.out _ (keep_new _ _)).mono ?_
 rintro e w1 ⟨rfl,k1⟩
 have kw1:=keep_trans (keep_new w _) k1
 have Hb1:=Lib.hid ((show Blk _ w.heap.size 28 zs.toList from Blk.new w 28 zs.toList).keep k1)
 go_wp2_with fail
 have hbn : Blk (w1.alloc (.cells cs 28)) w1.heap.size 28 cs.toList:=Blk.new w1 28 cs.toList
 refine (E2.out _ _ (keep_trans kw1 (keep_new _ _)) hbn.rd).mono ?_
 rintro e w2 ⟨rfl,k2⟩
 have kw2:=keep_trans (keep_trans kw1 (keep_new w1 (.cells cs 28))) k2
 obtain ⟨w8,hst,hb8,hg8⟩:=run_store_blk (P:=Tryz.prog) ds.toList ((Hb1.out.alloc _).keep k2) (by simp [hz1,hdz]) Hds.out.o
 have Hg8:=Lib.hid hg8;have Hb8:=Lib.hid hb8;clear hg8 hb8 hst1
 go_wp2
 have hb8:=Hb8.out
 exact bodyPost_ret (v:=.agg ds) (results_cell_row Tryz.results31 _ _ w.heap.size _ _ _ (.array 32 5) rfl hb8 hash_under rfl (by rw [List.size_toArray,Array.length_toList];exact Hds.out.i)) rfl ⟨rfl,kw2.grown Hg8.out kw2.size (fun q hq => by injection hq with hq;omega)⟩
end Go.Proofs.YtmbbknjddebhoaaGreatDoor
/- A header's bytes. -/
set_option linter.unusedSimpArgs false
set_option linter.unusedVariables false
namespace Go.Proofs.YtmbbknjddebhoaaGreatDoor
open Go.RowKit
attribute [local go_sem ↓] Go.wp_at_zero Go.wp_at_succ
theorem range_of {w : World} {g : Nat} {t : TypeId} {all : List Value} (hb : Blk w g t all) (off : Nat) (cs : List Value) (hs : (all.drop off).take cs.length = cs) : w.rangeAt g off cs:=fun j v hv => by
 have hj : j < cs.length:=(List.getElem?_eq_some_iff.1 hv).1
 rw [hb.cell]
 rw [← hs,List.getElem?_take_of_lt hj,List.getElem?_drop] at hv
 exact hv
theorem grown_set {w w' : World} {g o : Nat} {u : Value} (h : w.grownBy w' (some g)) : w.grownBy (w'.setCell ⟨g,o,none⟩ u) (some g) :=
 h.trans ⟨rfl,rfl,rfl,by simp,fun k _ hne => Below.heap_setCell w' _ u k (fun e => hne (by rw [e]))⟩
theorem grown_refl (w : World) (r : Option Nat) : w.grownBy w r:=⟨rfl,rfl,rfl,Nat.le_refl _,fun _ _ _ => rfl⟩
def leE (x : UInt32) (k : Nat) : Int:=(x.toNat : Int) / 2 ^ (8 * k) % 256
def layK (l : List UInt8) (off : Nat) (x : UInt32) : Nat → List UInt8
 | 0 => l
 | k + 1 => (layK l off x k).set (off + k) (w8 (leE x k))
theorem layK_len (l : List UInt8) (off : Nat) (x : UInt32) (k : Nat) : (layK l off x k).length = l.length:=by
 induction k with
 | zero => rfl
 | succ k ih => rw [layK,List.length_set,ih]
set_option maxRecDepth 100000 in
set_option maxHeartbeats 1000000 in
theorem lay4_any (g off n c : Nat) (t : TypeId) (l : List UInt8) (x : UInt32) (w : World) (hb : Blk w g t (l.map u8v)) (hn : 4 ≤ n) (hl : off + 4 ≤ l.length) :
  Calls Tryz.prog 49 #[.slice (some ⟨g,off,none⟩) n c,u32v x] w fun e w' => e = .returned (.tuple #[])∧Blk w' g t ((layK l off x 4).map u8v)∧w.grownBy w' (some g):=by
 have Hb:=Lib.hid hb;clear hb
 go_enter Tryz.func49,Tryz.ntmps49
 go_wp2_with fail
 go_loopw [5] (fun i wr => ∃ k : Nat,k ≤ 4∧i = .int .i64 k∧Blk wr g t ((layK l off x k).map u8v)∧w.grownBy wr (some g)) (fun i _ => 4 - (intOf i).toNat)
 case atStart => exact ⟨0,by omega,rfl,Hb.out,grown_refl _ _⟩
 case round =>
  obtain ⟨k,hk,rfl,hb,hg⟩:=hrel
  by_cases hlt : k < 4
  ·have hx:=w32_hi x
   obtain ⟨o,ho⟩ : ∃ o,(layK l off x k)[off + k]? = some o:=⟨_,List.getElem?_eq_getElem (by rw [layK_len];omega)⟩
   have c0:=hb.cell (off + k);rw [List.getElem?_map,ho,Option.map_some] at c0
   have f0:=hb.frozen (off + k)
   have Hb2:=Lib.hid hb;have Hg:=Lib.hid hg
   clear hb hg ho
   go_wp2
   go_roundw
   case rel =>
    refine ⟨k + 1,by omega,by go_num,?_,grown_set Hg.out⟩
    rw [layK,set_map8 _ _ (leE x k) (by unfold leE;omega) (by unfold leE;omega)]
    exact Hb2.out.set_ _ _
   case measure => simp [intOf];omega
  ·have Hk:=Lib.hid (show k = 4 by omega)
   have Hb2:=Lib.hid hb;have Hg:=Lib.hid hg
   clear hb hg
   go_wp2
   refine bodyPost_end (v:=.tuple #[]) (by simp [results,Tryz.results49]) rfl ⟨rfl,?_,Hg.out⟩
   have h:=Hb2.out
   rw [Hk.out] at h
   exact h
structure Hd where
 ver : UInt32
 prev : List UInt8
 root : List UInt8
 time : UInt32
 bits : UInt32
 nonce : UInt32
def Hd.ok (h : Hd) : Prop:=h.prev.length = 32∧h.root.length = 32
def Hd.cells (h : Hd) : List Value:=u32v h.ver :: (h.prev.map u8v ++ (h.root.map u8v ++ [u32v h.time,u32v h.bits,u32v h.nonce]))
theorem Hd.len {h : Hd} (hk : h.ok) : h.cells.length = 68:=by simp [Hd.cells,hk.1,hk.2]
def le4 (x : UInt32) : List UInt8:=[w8 (leE x 0),w8 (leE x 1),w8 (leE x 2),w8 (leE x 3)]
def hputL (h : Hd) : List UInt8:=le4 h.ver ++ (h.prev ++ (h.root ++ (le4 h.time ++ (le4 h.bits ++ le4 h.nonce))))
theorem hputL_len {h : Hd} (hk : h.ok) : (hputL h).length = 80:=by simp [hputL,le4,hk.1,hk.2]
theorem layK_mid (a m b : List UInt8) (x : UInt32) (off : Nat) (ha : a.length = off) (hm : m.length = 4) : layK (a ++ (m ++ b)) off x 4 = a ++ (le4 x ++ b):=by
 subst ha
 match m,hm with
 | [p,q,r,s],_ => simp [layK,le4,List.set_append_right]
theorem splice_mid {α : Type} (a m b d : List α) (off : Nat) (ha : a.length = off) (hm : m.length = d.length) : splice (a ++ (m ++ b)) off d = a ++ (d ++ b):=by
 subst ha
 unfold splice
 rw [List.take_left,← hm,← List.drop_drop,List.drop_left,List.drop_left]
section
variable {w : World} {g : Nat} {t : TypeId} {h : Hd}
theorem hd_cell0 (hb : Blk w g t h.cells) (hk : h.ok) : w.cell? ⟨g,0,none⟩ = some (u32v h.ver):=(hb.cell 0).trans rfl
theorem hd_tail (hk : h.ok) (j : Nat) : h.cells[65 + j]? = [u32v h.time,u32v h.bits,u32v h.nonce][j]?:=by
 unfold Hd.cells
 rw [show 65 + j = (64 + j) + 1 by omega,List.getElem?_cons_succ,List.getElem?_append_right (by simp [hk.1];omega),List.getElem?_append_right (by simp [hk.1,hk.2];omega)]
 congr 1
 simp [hk.1,hk.2];omega
theorem hd_cell65 (hb : Blk w g t h.cells) (hk : h.ok) : w.cell? ⟨g,65,none⟩ = some (u32v h.time):=(hb.cell 65).trans (hd_tail hk 0)
theorem hd_cell66 (hb : Blk w g t h.cells) (hk : h.ok) : w.cell? ⟨g,66,none⟩ = some (u32v h.bits):=(hb.cell 66).trans (hd_tail hk 1)
theorem hd_cell67 (hb : Blk w g t h.cells) (hk : h.ok) : w.cell? ⟨g,67,none⟩ = some (u32v h.nonce):=(hb.cell 67).trans (hd_tail hk 2)
theorem hd_prev (hb : Blk w g t h.cells) (hk : h.ok) : Rd w (some ⟨g,1,none⟩) (h.prev.map u8v):=by
 have h1:=hb.rd.sub 1 32 (by rw [Hd.len hk];omega)
 rw [Nat.zero_add] at h1
 have e : (h.cells.drop 1).take 32 = h.prev.map u8v:=by
  unfold Hd.cells
  rw [List.drop_succ_cons,List.drop_zero,List.take_left' (by simp [hk.1])]
 rwa [e] at h1
theorem hd_root (hb : Blk w g t h.cells) (hk : h.ok) : Rd w (some ⟨g,33,none⟩) (h.root.map u8v):=by
 have h1:=hb.rd.sub 33 32 (by rw [Hd.len hk];omega)
 rw [Nat.zero_add] at h1
 have e : (h.cells.drop 33).take 32 = h.root.map u8v:=by
  unfold Hd.cells
  rw [List.drop_succ_cons,List.drop_left' (by simp [hk.1]),List.take_left' (by simp [hk.2])]
 rwa [e] at h1
end
theorem splice_mapH {α β : Type} (f : α → β) (b : List α) (off : Nat) (d : List α) : splice (b.map f) off (d.map f) = (splice b off d).map f:=by
 simp [splice,List.map_append,List.map_take,List.map_drop]
theorem hput_steps (h : Hd) (hk : h.ok) : layK (layK (layK (splice (splice (layK (List.replicate 80 (0 : UInt8)) 0 h.ver 4) 4 h.prev) 36 h.root) 68 h.time 4) 72 h.bits 4) 76 h.nonce 4 = hputL h:=by
 have hr : ∀ n m : Nat,List.replicate (n + m) (0 : UInt8) = List.replicate n 0 ++ List.replicate m 0:=fun n m => (List.replicate_append_replicate ..).symm
 have z0 : List.replicate 80 (0 : UInt8) = [] ++ (List.replicate 4 0 ++ (List.replicate 32 0 ++ (List.replicate 32 0 ++ (List.replicate 4 0 ++ (List.replicate 4 0 ++ (List.replicate 4 0 ++ [])))))):=by rfl
 rw [z0,layK_mid [] _ _ h.ver 0 rfl (by simp)]
 have e1 : ∀ (a b c : List UInt8),[] ++ (a ++ (b ++ c)) = a ++ (b ++ c):=fun _ _ _ => rfl
 rw [List.nil_append,splice_mid (le4 h.ver) _ _ h.prev 4 rfl (by simp [hk.1])]
 rw [← List.append_assoc (le4 h.ver),splice_mid (le4 h.ver ++ h.prev) _ _ h.root 36 (by simp [le4,hk.1]) (by simp [hk.2])]
 rw [← List.append_assoc (le4 h.ver ++ h.prev),layK_mid (le4 h.ver ++ h.prev ++ h.root) _ _ h.time 68 (by simp [le4,hk.1,hk.2]) (by simp)]
 rw [← List.append_assoc (le4 h.ver ++ h.prev ++ h.root),layK_mid (le4 h.ver ++ h.prev ++ h.root ++ le4 h.time) _ _ h.bits 72 (by simp [le4,hk.1,hk.2]) (by simp)]
 rw [← List.append_assoc (le4 h.ver ++ h.prev ++ h.root ++ le4 h.time),layK_mid (le4 h.ver ++ h.prev ++ h.root ++ le4 h.time ++ le4 h.bits) _ _ h.nonce 76 (by simp [le4,hk.1,hk.2]) (by simp)]
 simp [hputL]
structure HdA (h : Hd) (cs : Array Value) : Prop where
 l : cs.toList = h.cells
 z : cs.size = 68
 i : (Tryz.prog.info? 30).map (·.size) = some cs.size
 n : ¬ cs = #[]
 o : ∀ v ∈ cs.toList,v.oneCell' = true
theorem Hd.one (h : Hd) : ∀ u ∈ h.cells,u.oneCell' = true:=by
 intro u hu
 unfold Hd.cells at hu
 simp only [List.mem_cons,List.mem_append,List.not_mem_nil,or_false] at hu
 rcases hu with rfl | hu | hu | rfl | rfl | rfl
 ·rfl
 ·exact one_w8 _ u hu
 ·exact one_w8 _ u hu
 ·rfl
 ·rfl
 ·rfl
theorem HdA.of {h : Hd} (hk : h.ok) : HdA h h.cells.toArray:=by
 have hz : h.cells.toArray.size = 68:=by rw [List.size_toArray];exact Hd.len hk
 exact ⟨rfl,hz,by rw [hz];kernel_rfl,fun e => by rw [e] at hz;simp at hz,h.one⟩
noncomputable def z80 : Array Value:=match (Tryz.prog.info? 55).bind (·.zero) with | some (.agg c) => c | _ => #[]
theorem z80_size : z80.size = 80:=by kernel_rfl
theorem z80_zero (w : World) : (zeroValue 55).run Tryz.prog w = .ok (.agg z80) w:=by kernel_rfl
theorem z80_list : z80.toList = (List.replicate 80 (0 : UInt8)).map u8v:=by kernel_rfl
set_option maxRecDepth 100000 in
set_option maxHeartbeats 3000000 in
theorem array_any (h : Hd) (cs : Array Value) (w : World) (hk : h.ok) (hcs : HdA h cs) :
  Calls Tryz.prog 30 #[.agg cs] w fun e w' => e = .returned (.agg ((hputL h).map u8v).toArray)∧Keep w w':=by
 obtain ⟨zs,hzs⟩ : ∃ zs,zs = z80:=⟨_,rfl⟩
 have hz1 : zs.size = 80:=by rw [hzs];exact z80_size
 have hz2 : ∀ w,(zeroValue 55).run Tryz.prog w = .ok (.agg zs) w:=fun w => by rw [hzs];exact z80_zero w
 have hz3 : ¬ zs = #[]:=fun h => by rw [h] at hz1;cases hz1
 have Hzl : Hid (zs.toList = (List.replicate 80 (0 : UInt8)).map u8v):=by rw [hzs];exact z80_list
 have hcz:=hcs.z;have hcn:=hcs.n
 have Hcs:=Lib.hid hcs;have Hk:=Lib.hid hk
 clear hzs hcs hk
 go_enter Tryz.func30,Tryz.ntmps30
 go_wp2_with fail
 obtain ⟨w1,hw1⟩ : ∃ w1,w1 = ((w.alloc (.cells cs 30)).alloc (.cells zs 55)).alloc (.cells zs 55):=⟨_,rfl⟩
 have hB : Blk w1 w.heap.size 30 h.cells:=by
  rw [hw1];exact (((show Blk _ w.heap.size _ h.cells by rw [← Hcs.out.l];exact Blk.new w _ cs.toList).alloc _).alloc _)
 have hR : Blk w1 (w.heap.size + 1) 55 zs.toList:=by
  rw [hw1]
  have h1:=Blk.new (w.alloc (.cells cs 30)) 55 zs.toList
  rw [World.size_alloc] at h1
  exact h1.alloc _
 have hO : Blk w1 (w.heap.size + 1 + 1) 55 ((List.replicate 80 (0 : UInt8)).map u8v):=by
  rw [hw1,← Hzl.out]
  have h1:=Blk.new ((w.alloc (.cells cs 30)).alloc (.cells zs 55)) 55 zs.toList
  rw [World.size_alloc,World.size_alloc] at h1
  exact h1
 have kw1 : Keep w w1:=by rw [hw1];exact keep_trans (keep_trans (keep_new _ _) (keep_new _ _)) (keep_new _ _)
 rw [← hw1]
 clear hw1
 have HB1:=Lib.hid hB;have HR1:=Lib.hid hR;have HO1:=Lib.hid hO;have HK1:=Lib.hid kw1
 have HL1 : Hid ((List.replicate 80 (0 : UInt8)).length = 80):=List.length_replicate
 generalize hl1 : List.replicate 80 (0 : UInt8) = l1 at HO1 HL1
 have El1:=Lib.hid hl1
 clear hB hR hO kw1 hl1
 refine wp_region_tree (.take [0,1,2] .done) [3] (by kernel_rfl) (by kernel_rfl) (fun v2 k2 => ?_)
 have b2:=Lib.hid (HB1.out.keep k2);have r2:=Lib.hid (HR1.out.keep k2);have o2:=Lib.hid (HO1.out.keep k2);have q2:=Lib.hid (keep_trans HK1.out k2)
 have c2:=hd_cell0 b2.out Hk.out
 have a2:=aft_cell c2
 refine mt_take v2 (Below.refl _ _) ?_
 simp only [pick_cons,pick_nil,nth_zero,nth_succ]
 repeat (go_big_quiet_step (fail))
 refine wpQuiet_nil (mt_end ?_)
 clear a2 c2
 go_wp2_with fail
 refine (lay4_any (w.heap.size + 1 + 1) 0 80 80 _ l1 h.ver v2 o2.out (by omega) (by rw [HL1.out];omega)).mono ?_
 rintro e w2 ⟨rfl,ho2,hg2⟩
 have HO2:=Lib.hid ho2;have HL2 : Hid ((layK l1 0 h.ver 4).length = 80):=(layK_len _ _ _ _).trans HL1.out
 have HB2:=Lib.hid (b2.out.grown hg2 (fun e => by injection e with e;omega));have HR2:=Lib.hid (r2.out.grown hg2 (fun e => by injection e with e;omega))
 have HK2 : Hid (Keep w w2):=q2.out.grown hg2 q2.out.size (fun q hq => by injection hq with hq;omega)
 clear ho2 hg2
 generalize hl2 : layK l1 0 h.ver 4 = l2 at HO2 HL2
 have El2:=Lib.hid hl2
 clear hl2 HB1 HR1 HO1 HK1 b2 r2 o2 q2 k2 HL1
 go_upto_region 3 with fail
 refine wp_region_tree (.take [0,1,2] .done) [3] (by kernel_rfl) (by kernel_rfl) (fun v3 k3 => ?_)
 have b3:=Lib.hid (HB2.out.keep k3);have r3:=Lib.hid (HR2.out.keep k3);have o3:=Lib.hid (HO2.out.keep k3);have q3:=Lib.hid (keep_trans HK2.out k3)
 refine mt_take v3 (Below.refl _ _) ?_
 simp only [pick_cons,pick_nil,nth_zero,nth_succ]
 repeat (go_big_quiet_step (fail))
 refine wpQuiet_nil (mt_end ?_)
 refine wpList_cpy byteW (by rfl) _ _ (by rfl) (w.heap.size + 1 + 1) 4 76 76 (by rfl) (some ⟨w.heap.size,1,none⟩) 32 32 (h.prev.map u8v) (by rfl) (by rw [List.length_map];exact Hk.out.1) (hd_prev b3.out Hk.out) (one_w8 _) (l2.map u8v) _ o3.out (by rw [List.length_map,HL2.out];omega) ?_
 intro w3 ho3 hg3
 simp only [Act.put,Array.set!_eq_setIfInBounds,List.setIfInBounds_toArray,List.set_cons_succ,List.set_cons_zero]
 have HO3 : Hid (Blk w3 (w.heap.size + 1 + 1) 55 ((splice l2 4 h.prev).map u8v)):=by
  have h:=ho3.out
  rw [List.take_of_length_le (by rw [List.length_map];have:=Hk.out.1;omega),splice_mapH] at h
  exact h
 have HL3 : Hid ((splice l2 4 h.prev).length = 80):=(length_splice _ _ _ (by rw [HL2.out];have:=Hk.out.1;omega)).trans HL2.out
 have HB3:=Lib.hid (b3.out.grown hg3 (fun e => by injection e with e;omega));have HR3:=Lib.hid (r3.out.grown hg3 (fun e => by injection e with e;omega))
 have HK3 : Hid (Keep w w3):=q3.out.grown hg3 q3.out.size (fun q hq => by injection hq with hq;omega)
 clear ho3 hg3
 generalize hl3 : splice l2 4 h.prev = l3 at HO3 HL3
 have El3:=Lib.hid hl3
 clear hl3 HB2 HR2 HO2 HK2 b3 r3 o3 q3 k3 HL2
 go_upto_region 4 with fail
 refine wp_region_tree (.take [0,1,2] .done) [3] (by kernel_rfl) (by kernel_rfl) (fun v4 k4 => ?_)
 have b4:=Lib.hid (HB3.out.keep k4);have r4:=Lib.hid (HR3.out.keep k4);have o4:=Lib.hid (HO3.out.keep k4);have q4:=Lib.hid (keep_trans HK3.out k4)
 refine mt_take v4 (Below.refl _ _) ?_
 simp only [pick_cons,pick_nil,nth_zero,nth_succ]
 repeat (go_big_quiet_step (fail))
 refine wpQuiet_nil (mt_end ?_)
 refine wpList_cpy byteW (by rfl) _ _ (by rfl) (w.heap.size + 1 + 1) 36 44 44 (by rfl) (some ⟨w.heap.size,33,none⟩) 32 32 (h.root.map u8v) (by rfl) (by rw [List.length_map];exact Hk.out.2) (hd_root b4.out Hk.out) (one_w8 _) (l3.map u8v) _ o4.out (by rw [List.length_map,HL3.out];omega) ?_
 intro w4 ho4 hg4
 simp only [Act.put,Array.set!_eq_setIfInBounds,List.setIfInBounds_toArray,List.set_cons_succ,List.set_cons_zero]
 have HO4 : Hid (Blk w4 (w.heap.size + 1 + 1) 55 ((splice l3 36 h.root).map u8v)):=by
  have h:=ho4.out
  rw [List.take_of_length_le (by rw [List.length_map];have:=Hk.out.2;omega),splice_mapH] at h
  exact h
 have HL4 : Hid ((splice l3 36 h.root).length = 80):=(length_splice _ _ _ (by rw [HL3.out];have:=Hk.out.2;omega)).trans HL3.out
 have HB4:=Lib.hid (b4.out.grown hg4 (fun e => by injection e with e;omega));have HR4:=Lib.hid (r4.out.grown hg4 (fun e => by injection e with e;omega))
 have HK4 : Hid (Keep w w4):=q4.out.grown hg4 q4.out.size (fun q hq => by injection hq with hq;omega)
 clear ho4 hg4
 generalize hl4 : splice l3 36 h.root = l4 at HO4 HL4
 have El4:=Lib.hid hl4
 clear hl4 HB3 HR3 HO3 HK3 b4 r4 o4 q4 k4 HL3
 go_upto_region 5 with fail
 refine wp_region_tree (.take [0,1,2] .done) [3] (by kernel_rfl) (by kernel_rfl) (fun v5 k5 => ?_)
 have b5:=Lib.hid (HB4.out.keep k5);have r5:=Lib.hid (HR4.out.keep k5);have o5:=Lib.hid (HO4.out.keep k5);have q5:=Lib.hid (keep_trans HK4.out k5)
 have c5:=hd_cell65 b5.out Hk.out
 have a5:=aft_cell c5
 refine mt_take v5 (Below.refl _ _) ?_
 simp only [pick_cons,pick_nil,nth_zero,nth_succ]
 repeat (go_big_quiet_step (fail))
 refine wpQuiet_nil (mt_end ?_)
 clear a5 c5
 go_wp2_with fail
 refine (lay4_any (w.heap.size + 1 + 1) 68 12 12 _ l4 h.time v5 o5.out (by omega) (by rw [HL4.out];omega)).mono ?_
 rintro e w5 ⟨rfl,ho5,hg5⟩
 have HO5:=Lib.hid ho5;have HL5 : Hid ((layK l4 68 h.time 4).length = 80):=(layK_len _ _ _ _).trans HL4.out
 have HB5:=Lib.hid (b5.out.grown hg5 (fun e => by injection e with e;omega));have HR5:=Lib.hid (r5.out.grown hg5 (fun e => by injection e with e;omega))
 have HK5 : Hid (Keep w w5):=q5.out.grown hg5 q5.out.size (fun q hq => by injection hq with hq;omega)
 clear ho5 hg5
 generalize hl5 : layK l4 68 h.time 4 = l5 at HO5 HL5
 have El5:=Lib.hid hl5
 clear hl5 HB4 HR4 HO4 HK4 b5 r5 o5 q5 k5 HL4
 go_upto_region 6 with fail
 refine wp_region_tree (.take [0,1,2] .done) [3] (by kernel_rfl) (by kernel_rfl) (fun v6 k6 => ?_)
 have b6:=Lib.hid (HB5.out.keep k6);have r6:=Lib.hid (HR5.out.keep k6);have o6:=Lib.hid (HO5.out.keep k6);have q6:=Lib.hid (keep_trans HK5.out k6)
 have c6:=hd_cell66 b6.out Hk.out
 have a6:=aft_cell c6
 refine mt_take v6 (Below.refl _ _) ?_
 simp only [pick_cons,pick_nil,nth_zero,nth_succ]
 repeat (go_big_quiet_step (fail))
 refine wpQuiet_nil (mt_end ?_)
 clear a6 c6
 go_wp2_with fail
 refine (lay4_any (w.heap.size + 1 + 1) 72 8 8 _ l5 h.bits v6 o6.out (by omega) (by rw [HL5.out];omega)).mono ?_
 rintro e w6 ⟨rfl,ho6,hg6⟩
 have HO6:=Lib.hid ho6;have HL6 : Hid ((layK l5 72 h.bits 4).length = 80):=(layK_len _ _ _ _).trans HL5.out
 have HB6:=Lib.hid (b6.out.grown hg6 (fun e => by injection e with e;omega));have HR6:=Lib.hid (r6.out.grown hg6 (fun e => by injection e with e;omega))
 have HK6 : Hid (Keep w w6):=q6.out.grown hg6 q6.out.size (fun q hq => by injection hq with hq;omega)
 clear ho6 hg6
 generalize hl6 : layK l5 72 h.bits 4 = l6 at HO6 HL6
 have El6:=Lib.hid hl6
 clear hl6 HB5 HR5 HO5 HK5 b6 r6 o6 q6 k6 HL5
 go_upto_region 7 with fail
 refine wp_region_tree (.take [0,1,2] .done) [3] (by kernel_rfl) (by kernel_rfl) (fun v7 k7 => ?_)
 have b7:=Lib.hid (HB6.out.keep k7);have r7:=Lib.hid (HR6.out.keep k7);have o7:=Lib.hid (HO6.out.keep k7);have q7:=Lib.hid (keep_trans HK6.out k7)
 have c7:=hd_cell67 b7.out Hk.out
 have a7:=aft_cell c7
 refine mt_take v7 (Below.refl _ _) ?_
 simp only [pick_cons,pick_nil,nth_zero,nth_succ]
 repeat (go_big_quiet_step (fail))
 refine wpQuiet_nil (mt_end ?_)
 clear a7 c7
 go_wp2_with fail
 refine (lay4_any (w.heap.size + 1 + 1) 76 4 4 _ l6 h.nonce v7 o7.out (by omega) (by rw [HL6.out];omega)).mono ?_
 rintro e w7 ⟨rfl,ho7,hg7⟩
 have HO7:=Lib.hid ho7;have HL7 : Hid ((layK l6 76 h.nonce 4).length = 80):=(layK_len _ _ _ _).trans HL6.out
 have HB7:=Lib.hid (b7.out.grown hg7 (fun e => by injection e with e;omega));have HR7:=Lib.hid (r7.out.grown hg7 (fun e => by injection e with e;omega))
 have HK7 : Hid (Keep w w7):=q7.out.grown hg7 q7.out.size (fun q hq => by injection hq with hq;omega)
 clear ho7 hg7
 generalize hl7 : layK l6 76 h.nonce 4 = l7 at HO7 HL7
 have El7:=Lib.hid hl7
 clear hl7 HB6 HR6 HO6 HK6 b7 r7 o7 q7 k7 HL6
 have hput : l7 = hputL h:=by
  rw [← El7.out,← El6.out,← El5.out,← El4.out,← El3.out,← El2.out,← El1.out]
  exact hput_steps h Hk.out
 have HP:=Lib.hid hput
 clear hput El7 El6 El5 El4 El3 El2 El1
 obtain ⟨ps,hps⟩ : ∃ ps : Array Value,ps.toList = l7.map u8v:=⟨(l7.map u8v).toArray,rfl⟩
 have hpz : ps.size = 80:=by rw [← Array.length_toList,hps,List.length_map,HL7.out]
 have hpn : ¬ ps = #[]:=by intro h;rw [h] at hpz;simp at hpz
 have hpi : (Tryz.prog.info? 55).map (·.size) = some ps.size:=by rw [hpz];kernel_rfl
 have Ho7 : Hid (Blk w7 (w.heap.size + 1 + 1) 55 ps.toList):=by rw [hps];exact HO7.out
 have Hps:=Lib.hid hps
 obtain ⟨w8,hst,hb8,hg8⟩:=run_store_blk (P:=Tryz.prog) ps.toList HR7.out (by simp [hz1,hpz]) (by rw [hps];exact one_w8 _)
 have Hb8:=Lib.hid hb8;have Hg8:=Lib.hid hg8
 clear hps hb8 hg8
 go_upto_region 8 with fail
 go_wp2_with ((with_reducible refine load_arr (w.heap.size + 1 + 1) ps (Eq.trans ?_ rfl) Ho7.out (.array 80 5) Tryz.underlying55 (arr_row _ _) hpi ?_);rfl)
 have hb8:=Hb8.out
 refine bodyPost_ret (v:=.agg ps) (results_cell_row Tryz.results30 _ _ (w.heap.size + 1) _ _ _ _ rfl hb8 Tryz.underlying55 rfl (by rw [List.size_toArray,Array.length_toList,hpz];kernel_rfl)) rfl ⟨?_,HK7.out.grown Hg8.out HK7.out.size (fun q hq => by injection hq with hq;omega)⟩
 rw [← HP.out,← Hps.out,Array.toArray_toList]
end Go.Proofs.YtmbbknjddebhoaaGreatDoor
namespace Go.Proofs.YtmbbknjddebhoaaGreatDoor
open Go.RowKit
attribute [local go_sem ↓] Go.wp_at_zero Go.wp_at_succ
theorem z80_letter : ∃ zs : Array Value,zs.size = 80∧(∀ w,(zeroValue 55).run Tryz.prog w = .ok (.agg zs) w)∧¬ zs = #[] :=
 ⟨z80,z80_size,z80_zero,fun h => by have:=z80_size;rw [h] at this;cases this⟩
theorem results_cell_tmp_row {P : Program} {fn : Func} {p u : Tmp} {ty : TypeId} (h : fn.results = #[.cell p ty,.tmp u]) (tmps : Array Value) (w : World) (g : Nat) (t : TypeId) (cs : Array Value) (fr : Nat × Nat) (d : TypeDesc)
  (hp : tmps.getD p undef = .pointer (some ⟨g,0,none⟩)) (hg : w.heap[g]? = some (.cells cs t fr))
  (hu : P.underlying ty = some d) (hd : (match d with | .struct _ | .array _ _ => true | _ => false) = true) (hi : (P.info? ty).map (·.size) = some cs.size) :
  (results fn tmps).run P w = .ok (.tuple #[.agg cs,tmps.getD u undef]) w:=by
 rw [results_cell_tmp h,hp]
 simp [asAddr,run_loadVar_row w g t ty cs fr d hg hu hd hi]
noncomputable def zhead : Array Value:=match (Tryz.prog.info? 30).bind (·.zero) with | some (.agg c) => c | _ => #[]
theorem zhead_size : zhead.size = 68:=by kernel_rfl
theorem zhead_zero (w : World) : (zeroValue 30).run Tryz.prog w = .ok (.agg zhead) w:=by kernel_rfl
def z32 : List UInt8:=List.replicate 32 0
theorem zhead_list : zhead.toList = Hd.cells ⟨0,z32,z32,0,0,0⟩:=by kernel_rfl
theorem zhead_letter : ∃ zs : Array Value,zs.size = 68∧(∀ w,(zeroValue 30).run Tryz.prog w = .ok (.agg zs) w)∧¬ zs = #[]∧zs.toList = Hd.cells ⟨0,z32,z32,0,0,0⟩ :=
 ⟨zhead,zhead_size,zhead_zero,(fun h => by have:=zhead_size;rw [h] at this;cases this),zhead_list⟩
theorem zhash_letter : ∃ zs : Array Value,zs.size = 32∧(∀ w,(zeroValue 28).run Tryz.prog w = .ok (.agg zs) w)∧¬ zs = #[]∧zs.toList = (List.replicate 32 (0 : UInt8)).map u8v :=
 ⟨zhash,zhash_size,zhash_zero,(fun h => by have:=zhash_size;rw [h] at this;cases this),zhash_list⟩
end Go.Proofs.YtmbbknjddebhoaaGreatDoor
/- Hashes and headers compared; loads behind a guard. -/
set_option linter.unusedSimpArgs false
set_option linter.unusedVariables false
namespace Go.Proofs.YtmbbknjddebhoaaGreatDoor
open Go.RowKit
attribute [local go_sem ↓] Go.wp_at_zero Go.wp_at_succ
theorem HashA.cell {l : List UInt8} {cs : Array Value} (h : HashA l cs) : cs = (l.map Extern.Stop.cell).toArray:=h.e.symm
theorem u8_size (w : World) : (sizeOf 5).run Tryz.prog w = .ok 1 w:=by kernel_rfl
theorem hash_eqIn (d : Nat) {l m : List UInt8} {cs ds : Array Value} (h : HashA l cs) (g : HashA m ds) (hl : l.length = 32) (hm : m.length = 32) (w : World) :
  (Op.equalIn (d + 2) 28 (.agg cs) (.agg ds)).run Tryz.prog w = .ok (l == m) w:=by
 rw [h.cell,g.cell]
 exact run_equalIn_bytes w d _ 5 32 hash_under Tryz.underlying5 u8_size l m hl hm
theorem hash_eql {l m : List UInt8} {cs ds : Array Value} (h : HashA l cs) (g : HashA m ds) (hl : l.length = 32) (hm : m.length = 32) (w : World) :
  (Go.binOp .eql 28 (.agg cs) (.agg ds)).run Tryz.prog w = .ok (.bool (l == m)) w:=by
 rw [run_eql_struct,show (10000 : Nat) = 9998 + 2 from rfl,hash_eqIn 9998 h g hl hm]
 rfl
def hdEq (a b : Hd) : Bool:=a.ver == b.ver && (a.prev == b.prev && (a.root == b.root && (a.time == b.time && (a.bits == b.bits && a.nonce == b.nonce))))
theorem hdEq_iff (a b : Hd) : hdEq a b = true ↔ a = b:=by
 unfold hdEq
 simp only [Bool.and_eq_true,beq_iff_eq]
 constructor
 ·rintro ⟨h1,h2,h3,h4,h5,h6⟩
  cases a;cases b
  simp only at h1 h2 h3 h4 h5 h6
  subst h1 h2 h3 h4 h5 h6
  rfl
 ·rintro rfl;exact ⟨rfl,rfl,rfl,rfl,rfl,rfl⟩
instance hdDec : DecidableEq Hd:=fun a b => decidable_of_iff _ (hdEq_iff a b)
theorem part_of {cs : Array Value} {all : List Value} (hc : cs.toList = all) (off : Nat) {l : List UInt8} (hl : l.length = 32) (h : (all.drop off).take 32 = l.map u8v) : HashA l (cs.extract off (off + 32)):=by
 have e : cs.extract off (off + 32) = (l.map u8v).toArray:=by
  apply Array.ext'
  rw [Array.toList_extract,List.extract_eq_take_drop,hc,Nat.add_sub_cancel_left,h]
 rw [e];exact HashA.of hl
theorem HdA.parts {h : Hd} {cs : Array Value} (hA : HdA h cs) (hk : h.ok) : cs[0]? = some (u32v h.ver)∧HashA h.prev (cs.extract 1 33)∧HashA h.root (cs.extract 33 65)∧cs[65]? = some (u32v h.time)∧cs[66]? = some (u32v h.bits)∧cs[67]? = some (u32v h.nonce):=by
 have hg : ∀ k,cs[k]? = h.cells[k]?:=fun k => by rw [← hA.l,Array.getElem?_toList]
 refine ⟨(hg 0).trans rfl,part_of hA.l 1 hk.1 ?_,part_of hA.l 33 hk.2 ?_,(hg 65).trans (hd_tail hk 0),(hg 66).trans (hd_tail hk 1),(hg 67).trans (hd_tail hk 2)⟩
 ·unfold Hd.cells
  rw [List.drop_succ_cons,List.drop_zero,List.take_left' (by simp [hk.1])]
 ·unfold Hd.cells
  rw [List.drop_succ_cons,List.drop_left' (by simp [hk.1]),List.take_left' (by simp [hk.2])]
theorem load_partg {P : Program} {w : World} {ops : Array Oper} {rest : List Oper} {a : Act} {Q : Exit → Act → World → Prop} {x : Operand} {dst : Option Tmp} {ty ty' : TypeId} {pos : String} {af : Array Edge} {gd : Option (Nat × Bool)}
  (g off : Nat) (cs : Array Value) (hx : a.eval x = .pointer (some ⟨g,off,none⟩)) (hr : w.rangeAt g off cs.toList) (d : TypeDesc) (hu : P.underlying ty = some d) (hd : d.isRow = true) (hi : (P.info? ty).map (·.size) = some cs.size)
  (hw : Region.wanted { dst:=dst,op:=.load ty x,type:=ty',pos:=pos,after:=af,guard:=gd } (yielded ops a.tmps) = true)
  (h : wpList P ops Q rest (a.put dst (.agg cs)) w) : wpList P ops Q ({ dst:=dst,op:=.load ty x,type:=ty',pos:=pos,after:=af,guard:=gd } :: rest) a w:=by
 unfold wpList
 rw [if_pos hw]
 left
 exact wp_load_mid ty x rfl g off hx cs.toList d hr hu hd (by simpa using hi) h
theorem wpQuiet_load_partg {P : Program} {w0 : World} {ops : Array Oper} {rest : List Oper} {a : Act} {Q : Act → Prop} {x : Operand} {dst : Option Tmp} {ty ty' : TypeId} {pos : String} {af : Array Edge} {gd : Option (Nat × Bool)}
  (g off : Nat) (cs : Array Value) (hx : a.eval x = .pointer (some ⟨g,off,none⟩)) (hr : w0.rangeAt g off cs.toList) (d : TypeDesc) (hu : P.underlying ty = some d) (hd : d.isRow = true) (hi : (P.info? ty).map (·.size) = some cs.size)
  (hw : Region.wanted { dst:=dst,op:=.load ty x,type:=ty',pos:=pos,after:=af,guard:=gd } (yielded ops a.tmps) = true)
  (h : wpQuiet P ops (fun w' => ∃ x,w' = aft w0 x) Q rest (a.put dst (.agg cs))) :
  wpQuiet P ops (fun w' => ∃ x,w' = aft w0 x) Q ({ dst:=dst,op:=.load ty x,type:=ty',pos:=pos,after:=af,guard:=gd } :: rest) a:=by
 refine BigFrame.wpQuiet_want hw fun K hK => ⟨.agg cs,fun w hw => ?_,hK _ h⟩
 obtain ⟨y,rfl⟩:=hw
 unfold Oper.quietAt execOp
 have hl:=run_loadVar_mid (P:=P) (aft w0 y) g off ty cs.toList d (fun j v hv => keep_cell (aft_keep w0 y) (hr j v hv)) hu hd (by simpa using hi)
 simp only [hx,Instr.loadAt,Instr.sureAddr,Sem.run_bind,Sem.run_pure,Result.andThen_ok,hl,Array.toArray_toList]
 exact ⟨rfl,rfl⟩
end Go.Proofs.YtmbbknjddebhoaaGreatDoor
/- Numbers below 2^256 in four words, targets: plainly. -/
set_option linter.unusedSimpArgs false
set_option linter.unusedVariables false
namespace Go.Proofs.YtmbbknjddebhoaaGreatDoor
def limb (N i : Nat) : Nat := N / 2 ^ (64 * i) % 2 ^ 64
theorem limb_lt (N i : Nat) : limb N i < 2 ^ 64 := Nat.mod_lt _ (by decide)
theorem limb_bit (N i j : Nat) : (limb N i).testBit j = (decide (j < 64) && N.testBit (64 * i + j)) := by
  unfold limb
  rw [Nat.testBit_mod_two_pow, Nat.testBit_div_two_pow, Nat.add_comm]
theorem bit_hi {N j p : Nat} (h : N < 2 ^ p) (hj : p ≤ j) : N.testBit j = false :=
  Nat.testBit_lt_two_pow (Nat.lt_of_lt_of_le h (Nat.pow_le_pow_right (by decide) hj))
theorem limb_ext {N M : Nat} (hN : N < 2 ^ 256) (hM : M < 2 ^ 256) (h : ∀ i, i < 4 → limb N i = limb M i) : N = M := by
  apply Nat.eq_of_testBit_eq
  intro j
  by_cases hj : j < 256
  · have h1 := congrArg (fun x => x.testBit (j % 64)) (h (j / 64) (by omega))
    simp only [limb_bit] at h1
    have e : 64 * (j / 64) + j % 64 = j := by omega
    have e2 : j % 64 < 64 := Nat.mod_lt _ (by decide)
    simpa [e, e2] using h1
  · rw [bit_hi hN (by omega), bit_hi hM (by omega)]
theorem limb0 (i : Nat) : limb 0 i = 0 := by simp [limb]
theorem limb_small {N : Nat} (h : N < 2 ^ 64) (i : Nat) : limb N i = if i = 0 then N else 0 := by
  by_cases hi : i = 0
  · subst hi; rw [if_pos rfl]; unfold limb; rw [Nat.mul_zero, Nat.pow_zero, Nat.div_one, Nat.mod_eq_of_lt h]
  · rw [if_neg hi]; unfold limb
    rw [Nat.div_eq_of_lt (Nat.lt_of_lt_of_le h (Nat.pow_le_pow_right (by decide) (by omega))), Nat.zero_mod]
theorem by_words {N : Nat} (h : N < 2 ^ 256) : N = limb N 0 + 2 ^ 64 * limb N 1 + 2 ^ 128 * limb N 2 + 2 ^ 192 * limb N 3 := by
  unfold limb
  simp only [Nat.mul_zero, Nat.mul_one, Nat.reduceMul, Nat.reducePow, Nat.div_one] at *
  omega
def cmpN (a b : Nat) : Int := if a < b then -1 else if b < a then 1 else 0
theorem cmp_at {a b k : Nat} (ha : a < 2 ^ 256) (hb : b < 2 ^ 256) (hk : k < 4) (he : ∀ j, k < j → j < 4 → limb a j = limb b j) (hl : limb a k < limb b k) : a < b := by
  have h1 := by_words ha; have h2 := by_words hb
  have a0 := limb_lt a 0; have a1 := limb_lt a 1; have a2 := limb_lt a 2; have a3 := limb_lt a 3
  have b0 := limb_lt b 0; have b1 := limb_lt b 1; have b2 := limb_lt b 2; have b3 := limb_lt b 3
  have e3 : k < 3 → limb a 3 = limb b 3 := fun h => he 3 h (by decide)
  have e2 : k < 2 → limb a 2 = limb b 2 := fun h => he 2 h (by decide)
  have e1 : k < 1 → limb a 1 = limb b 1 := fun h => he 1 h (by decide)
  rcases (show k = 0 ∨ k = 1 ∨ k = 2 ∨ k = 3 by omega) with rfl | rfl | rfl | rfl <;> simp only [Nat.reducePow] at * <;> omega
theorem shl_limb (N n i : Nat) (hi : i < 4) : limb (N * 2 ^ n % 2 ^ 256) i =
    if i < n / 64 then 0 else ((limb N (i - n / 64) * 2 ^ (n % 64)) % 2 ^ 64) ||| (if n / 64 < i then limb N (i - n / 64 - 1) / 2 ^ (64 - n % 64) else 0) := by
  apply Nat.eq_of_testBit_eq
  intro j
  rw [limb_bit, Nat.testBit_mod_two_pow, Nat.mul_comm N, Nat.testBit_two_pow_mul]
  by_cases hj : j < 64
  · have e1 : decide (j < 64) = true := by simpa using hj
    have e2 : decide (64 * i + j < 256) = true := by simp; omega
    rw [e1, e2, Bool.true_and, Bool.true_and]
    by_cases h1 : i < n / 64
    · rw [if_pos h1, Nat.zero_testBit]
      have : decide (64 * i + j ≥ n) = false := by simp; omega
      rw [this, Bool.false_and]
    · rw [if_neg h1, Nat.testBit_or, Nat.testBit_mod_two_pow, e1, Bool.true_and, Nat.mul_comm (limb N _), Nat.testBit_two_pow_mul, limb_bit]
      by_cases h2 : n % 64 ≤ j
      · have e3 : decide (j ≥ n % 64) = true := by simpa using h2
        have e4 : decide (j - n % 64 < 64) = true := by simp; omega
        have e5 : decide (64 * i + j ≥ n) = true := by simp; omega
        have e6 : 64 * (i - n / 64) + (j - n % 64) = 64 * i + j - n := by omega
        rw [e3, e4, e5, e6]
        simp only [Bool.true_and]
        have e7 : (if n / 64 < i then limb N (i - n / 64 - 1) / 2 ^ (64 - n % 64) else 0).testBit j = false := by
          split
          · rw [Nat.testBit_div_two_pow, limb_bit]
            have : decide (j + (64 - n % 64) < 64) = false := by simp; omega
            rw [this, Bool.false_and]
          · exact Nat.zero_testBit j
        rw [e7, Bool.or_false]
      · have e3 : decide (j ≥ n % 64) = false := by simp; omega
        rw [e3, Bool.false_and, Bool.false_or]
        by_cases h3 : n / 64 < i
        · rw [if_pos h3, Nat.testBit_div_two_pow, limb_bit]
          have e4 : decide (j + (64 - n % 64) < 64) = true := by simp; omega
          have e5 : decide (64 * i + j ≥ n) = true := by simp; omega
          have e6 : 64 * (i - n / 64 - 1) + (j + (64 - n % 64)) = 64 * i + j - n := by omega
          rw [e4, e5, e6]
        · rw [if_neg h3, Nat.zero_testBit]
          have e5 : decide (64 * i + j ≥ n) = false := by simp; omega
          rw [e5, Bool.false_and]
  · have e1 : decide (j < 64) = false := by simpa using hj
    rw [e1, Bool.false_and]
    symm
    split
    · exact Nat.zero_testBit j
    · rw [Nat.testBit_or, Nat.testBit_mod_two_pow, e1, Bool.false_and, Bool.false_or]
      split
      · rw [Nat.testBit_div_two_pow, limb_bit]
        have : decide (j + (64 - n % 64) < 64) = false := by simp; omega
        rw [this, Bool.false_and]
      · exact Nat.zero_testBit j
theorem shr_limb (N n i : Nat) (hN : N < 2 ^ 256) : limb (N / 2 ^ n) i =
    if i + n / 64 < 4 then (limb N (i + n / 64) / 2 ^ (n % 64)) ||| (if i + n / 64 < 3 then (limb N (i + n / 64 + 1) * 2 ^ (64 - n % 64)) % 2 ^ 64 else 0) else 0 := by
  apply Nat.eq_of_testBit_eq
  intro j
  rw [limb_bit, Nat.testBit_div_two_pow]
  by_cases h4 : i + n / 64 < 4
  · rw [if_pos h4, Nat.testBit_or, Nat.testBit_div_two_pow, limb_bit]
    by_cases hj : j < 64
    · have e1 : decide (j < 64) = true := by simpa using hj
      rw [e1, Bool.true_and]
      by_cases h1 : j + n % 64 < 64
      · have e2 : decide (j + n % 64 < 64) = true := by simpa using h1
        have e3 : 64 * (i + n / 64) + (j + n % 64) = 64 * i + j + n := by omega
        rw [e2, e3, Bool.true_and]
        have e7 : (if i + n / 64 < 3 then (limb N (i + n / 64 + 1) * 2 ^ (64 - n % 64)) % 2 ^ 64 else 0).testBit j = false := by
          split
          · rw [Nat.testBit_mod_two_pow, Nat.mul_comm (limb N _), Nat.testBit_two_pow_mul]
            have : decide (j ≥ 64 - n % 64) = false := by simp; omega
            rw [this, Bool.false_and, Bool.and_false]
          · exact Nat.zero_testBit j
        rw [e7, Bool.or_false]
      · have e2 : decide (j + n % 64 < 64) = false := by simpa using h1
        rw [e2, Bool.false_and, Bool.false_or]
        by_cases h3 : i + n / 64 < 3
        · rw [if_pos h3, Nat.testBit_mod_two_pow, Nat.mul_comm (limb N _), Nat.testBit_two_pow_mul, limb_bit, e1]
          have e4 : decide (j ≥ 64 - n % 64) = true := by simp; omega
          have e5 : decide (j - (64 - n % 64) < 64) = true := by simp; omega
          have e6 : 64 * (i + n / 64 + 1) + (j - (64 - n % 64)) = 64 * i + j + n := by omega
          rw [e4, e5, e6]; simp
        · rw [if_neg h3, Nat.zero_testBit]
          exact bit_hi hN (by omega)
    · have e1 : decide (j < 64) = false := by simpa using hj
      have e2 : decide (j + n % 64 < 64) = false := by simp; omega
      rw [e1, e2, Bool.false_and, Bool.false_and, Bool.false_or]
      symm
      split
      · rw [Nat.testBit_mod_two_pow, e1, Bool.false_and]
      · exact Nat.zero_testBit j
  · rw [if_neg h4, Nat.zero_testBit, bit_hi hN (by omega), Bool.and_false]
def leN : List UInt8 → Nat
  | [] => 0
  | x :: l => x.toNat + 256 * leN l
theorem leN_lt : ∀ l : List UInt8, leN l < 2 ^ (8 * l.length)
  | [] => by decide
  | x :: l => by
    have h := leN_lt l
    have hx := x.toNat_lt
    rw [List.length_cons, Nat.mul_add, Nat.pow_add]
    unfold leN
    simp only [Nat.mul_one, Nat.reducePow] at *
    omega
theorem leN_snoc : ∀ (l : List UInt8) (x : UInt8), leN (l ++ [x]) = leN l + 2 ^ (8 * l.length) * x.toNat
  | [], x => by simp [leN]
  | y :: l, x => by
    rw [List.cons_append, leN, leN_snoc l x, leN, List.length_cons, Nat.mul_add 8, Nat.pow_add]
    simp only [Nat.mul_one, Nat.reducePow]
    rw [Nat.mul_add, Nat.add_assoc, Nat.mul_comm (2 ^ (8 * l.length)) 256, Nat.mul_assoc]
theorem add_bit (N x p : Nat) (h : N < 2 ^ p) : N + 2 ^ p * x = N ||| (2 ^ p * x) := by
  rw [Nat.add_comm, Nat.two_pow_add_eq_or_of_lt h x, Nat.or_comm]
theorem byte_limb (N x k j : Nat) (hN : N < 2 ^ (8 * k)) (hx : x < 256) : limb (N + 2 ^ (8 * k) * x) j =
    if j = k / 8 then limb N j ||| (x * 2 ^ (8 * (k % 8))) else limb N j := by
  rw [add_bit N x _ hN]
  apply Nat.eq_of_testBit_eq
  intro m
  have hx8 : x < 2 ^ 8 := hx
  by_cases hj : j = k / 8
  · rw [if_pos hj, limb_bit, Nat.testBit_or, Nat.testBit_two_pow_mul, Nat.testBit_or, limb_bit, Nat.mul_comm x, Nat.testBit_two_pow_mul]
    by_cases hm : m < 64
    · have e1 : decide (m < 64) = true := by simpa using hm
      rw [e1, Bool.true_and, Bool.true_and]
      congr 1
      have e2 : decide (64 * j + m ≥ 8 * k) = decide (m ≥ 8 * (k % 8)) := by rw [decide_eq_decide]; omega
      rw [e2]
      have e3 : 64 * j + m - 8 * k = m - 8 * (k % 8) := by omega
      rw [e3]
    · have e1 : decide (m < 64) = false := by simpa using hm
      rw [e1, Bool.false_and, Bool.false_and, Bool.false_or, bit_hi hx8 (by omega), Bool.and_false]
  · rw [if_neg hj, limb_bit, limb_bit, Nat.testBit_or, Nat.testBit_two_pow_mul]
    by_cases hm : m < 64
    · have : (decide (64 * j + m ≥ 8 * k) && x.testBit (64 * j + m - 8 * k)) = false := by
        by_cases h1 : 8 * k ≤ 64 * j + m
        · rw [bit_hi hx8 (by omega), Bool.and_false]
        · have : decide (64 * j + m ≥ 8 * k) = false := by simp; omega
          rw [this, Bool.false_and]
      rw [this, Bool.or_false]
    · have e1 : decide (m < 64) = false := by simpa using hm
      rw [e1, Bool.false_and, Bool.false_and]
def lenN (N : Nat) : Nat := if N = 0 then 0 else Nat.log2 N + 1
theorem lenN_of {N n : Nat} (h1 : 2 ^ n ≤ N) (h2 : N < 2 ^ (n + 1)) : lenN N = n + 1 := by
  have h0 : N ≠ 0 := by have := Nat.two_pow_pos n; omega
  unfold lenN
  rw [if_neg h0]
  have a := (Nat.le_log2 h0).2 h1
  have b := (Nat.log2_lt h0).2 h2
  omega
theorem lenN_pos {N : Nat} (h : N ≠ 0) : ∃ n, lenN N = n + 1 ∧ 2 ^ n ≤ N ∧ N < 2 ^ (n + 1) := by
  refine ⟨Nat.log2 N, by unfold lenN; rw [if_neg h], Nat.log2_self_le h, Nat.lt_log2_self⟩
theorem lenN_lt (N : Nat) : N < 2 ^ lenN N := by
  by_cases h : N = 0
  · subst h; exact Nat.two_pow_pos _
  · obtain ⟨n, h1, _, h3⟩ := lenN_pos h; rw [h1]; exact h3
theorem lenN_le {N p : Nat} (h : N < 2 ^ p) : lenN N ≤ p := by
  by_cases h0 : N = 0
  · subst h0; exact Nat.zero_le _
  · obtain ⟨n, h1, h2, _⟩ := lenN_pos h0
    have : 2 ^ n < 2 ^ p := Nat.lt_of_le_of_lt h2 h
    have := (Nat.pow_lt_pow_iff_right (by decide : 1 < 2)).1 this
    omega
theorem lenN_limb {N i : Nat} (hN : N < 2 ^ (64 * i + 64)) (hi : limb N i ≠ 0) : lenN N = 64 * i + lenN (limb N i) := by
  obtain ⟨n, h1, h2, h3⟩ := lenN_pos hi
  have hd : N / 2 ^ (64 * i) < 2 ^ 64 := by
    rw [Nat.div_lt_iff_lt_mul (Nat.two_pow_pos _), ← Nat.pow_add, Nat.add_comm]; exact hN
  have hl : limb N i = N / 2 ^ (64 * i) := Nat.mod_eq_of_lt hd
  rw [hl] at h1 h2 h3 ⊢
  rw [h1, ← Nat.add_assoc]
  refine lenN_of ?_ ?_
  · rw [Nat.add_comm, Nat.pow_add, ← Nat.le_div_iff_mul_le (Nat.two_pow_pos _)]; exact h2
  · rw [Nat.add_assoc, Nat.add_comm, Nat.pow_add, ← Nat.div_lt_iff_lt_mul (Nat.two_pow_pos _)]; exact h3
theorem lt_top {N i : Nat} (hN : N < 2 ^ 256) (hi : i < 4) (h : ∀ j, i < j → j < 4 → limb N j = 0) : N < 2 ^ (64 * i + 64) := by
  have h1 := by_words hN
  have a0 := limb_lt N 0; have a1 := limb_lt N 1; have a2 := limb_lt N 2; have a3 := limb_lt N 3
  have e3 : i < 3 → limb N 3 = 0 := fun h' => h 3 h' (by decide)
  have e2 : i < 2 → limb N 2 = 0 := fun h' => h 2 h' (by decide)
  have e1 : i < 1 → limb N 1 = 0 := fun h' => h 1 h' (by decide)
  rcases (show i = 0 ∨ i = 1 ∨ i = 2 ∨ i = 3 by omega) with rfl | rfl | rfl | rfl <;> simp only [Nat.reducePow, Nat.reduceMul, Nat.reduceAdd] at * <;> omega
theorem zero_top {N : Nat} (hN : N < 2 ^ 256) (h : ∀ j, j < 4 → limb N j = 0) : N = 0 := limb_ext hN (by decide) (fun i hi => by rw [h i hi, limb0])
theorem over_iff {N n : Nat} (hn : n < 256) : 256 < lenN N + n ↔ 2 ^ 256 ≤ N * 2 ^ n := by
  by_cases h0 : N = 0
  · subst h0
    have : lenN 0 = 0 := rfl
    rw [this, Nat.zero_mul]
    constructor
    · intro h; omega
    · intro h; have := Nat.two_pow_pos 256; omega
  · obtain ⟨k, h1, h2, h3⟩ := lenN_pos h0
    constructor
    · intro h
      have e : 2 ^ 256 ≤ 2 ^ (k + n) := Nat.pow_le_pow_right (by decide) (by omega)
      exact Nat.le_trans e (by rw [Nat.pow_add]; exact Nat.mul_le_mul_right _ h2)
    · intro h
      apply Nat.lt_of_not_le
      intro hle
      have e : N * 2 ^ n < 2 ^ (k + 1 + n) := by rw [Nat.pow_add]; exact Nat.mul_lt_mul_of_pos_right h3 (Nat.two_pow_pos _)
      have e2 : 2 ^ (k + 1 + n) ≤ 2 ^ 256 := Nat.pow_le_pow_right (by decide) (by omega)
      omega
def expT (b : UInt32) : Nat := if b.toNat / 16777216 < 3 then b.toNat % 8388608 / 2 ^ (8 * (3 - b.toNat / 16777216)) else b.toNat % 8388608 * 2 ^ (8 * (b.toNat / 16777216 - 3))
def expN (b : UInt32) : Nat × Int :=
  if b.toNat % 8388608 ≠ 0 ∧ b.toNat / 8388608 % 2 = 1 then (0, 7) else if 2 ^ 256 ≤ expT b ∨ expT b = 0 then (0, 7) else (expT b, 0)
theorem expN_lt (b : UInt32) : (expN b).1 < 2 ^ 256 := by
  unfold expN
  split
  · exact Nat.two_pow_pos _
  · split
    · exact Nat.two_pow_pos _
    · rename_i h; exact Nat.lt_of_not_le fun e => h (Or.inl e)
theorem expN_err (b : UInt32) : (expN b).2 = 0 ∨ (expN b).2 = 7 := by
  unfold expN
  split
  · exact Or.inr rfl
  · split
    · exact Or.inr rfl
    · exact Or.inl rfl
def meetN (h : Nat) (bits limit : UInt32) : Int :=
  if (expN bits).2 ≠ 0 then 7 else if (expN limit).2 ≠ 0 ∨ (expN limit).1 < (expN bits).1 then 7 else if (expN bits).1 < h then 6 else 0
def shrN (t : Nat) : UInt32 :=
  if t = 0 then 0 else
  let e := (lenN t + 7) / 8
  let m := (if e < 3 then t * 2 ^ (8 * (3 - e)) else t / 2 ^ (8 * (e - 3))) % 4294967296
  if m / 8388608 % 2 = 1 then UInt32.ofNat ((e + 1) * 16777216 ||| m / 256) else UInt32.ofNat (e * 16777216 ||| m)
def scaN (bits : UInt32) (num den : Nat) (limit : UInt32) : UInt32 :=
  if (expN bits).2 ≠ 0 ∨ num = 0 ∨ den = 0 then limit else if (expN limit).2 ≠ 0 then limit else
  let q := (expN bits).1 * num / den
  shrN (if 2 ^ 256 ≤ q ∨ q = 0 ∨ (expN limit).1 < q then (expN limit).1 else q)
theorem div_step {P den i : Nat} (hd : 0 < den) : P / 2 ^ (64 * i) / den = P / 2 ^ (64 * (i + 1)) / den * 2 ^ 64 + (P / 2 ^ (64 * (i + 1)) % den * 2 ^ 64 + limb P i) / den ∧
    P / 2 ^ (64 * i) % den = (P / 2 ^ (64 * (i + 1)) % den * 2 ^ 64 + limb P i) % den ∧ (P / 2 ^ (64 * (i + 1)) % den * 2 ^ 64 + limb P i) / den < 2 ^ 64 := by
  have e : P / 2 ^ (64 * i) = P / 2 ^ (64 * (i + 1)) * 2 ^ 64 + limb P i := by
    unfold limb
    have h : P / 2 ^ (64 * (i + 1)) = P / 2 ^ (64 * i) / 2 ^ 64 := by rw [Nat.div_div_eq_div_mul, ← Nat.pow_add]; congr 1
    rw [h]
    have := Nat.div_add_mod (P / 2 ^ (64 * i)) (2 ^ 64)
    omega
  generalize P / 2 ^ (64 * (i + 1)) = X at *
  rw [e]
  have hX : X * 2 ^ 64 + limb P i = (X % den * 2 ^ 64 + limb P i) + den * (X / den * 2 ^ 64) := by
    have := Nat.div_add_mod X den
    calc X * 2 ^ 64 + limb P i = (den * (X / den) + X % den) * 2 ^ 64 + limb P i := by rw [this]
      _ = _ := by rw [Nat.add_mul, Nat.mul_assoc]; omega
  refine ⟨?_, ?_, ?_⟩
  · rw [hX, Nat.add_mul_div_left _ _ hd, Nat.add_comm]
  · rw [hX, Nat.add_mul_mod_self_left]
  · rw [Nat.div_lt_iff_lt_mul hd]
    have h1 := Nat.mod_lt X hd
    have h2 := limb_lt P i
    calc X % den * 2 ^ 64 + limb P i < X % den * 2 ^ 64 + 2 ^ 64 := by omega
      _ = (X % den + 1) * 2 ^ 64 := by rw [Nat.add_mul, Nat.one_mul]
      _ ≤ den * 2 ^ 64 := Nat.mul_le_mul_right _ h1
      _ = 2 ^ 64 * den := Nat.mul_comm _ _
end Go.Proofs.YtmbbknjddebhoaaGreatDoor
/- u256: Cmp, Len. -/
set_option linter.unusedSimpArgs false
set_option linter.unusedVariables false
namespace Go.Proofs.YtmbbknjddebhoaaGreatDoor
open Go.RowKit
attribute [local go_sem ↓] Go.wp_at_zero Go.wp_at_succ
abbrev n64 (n : Nat) : Value:=.int .u64 (n : Int)
def uL (N : Nat) : List Value:=[n64 (limb N 0),n64 (limb N 1),n64 (limb N 2),n64 (limb N 3)]
abbrev uV (N : Nat) : Value:=.agg #[n64 (limb N 0),n64 (limb N 1),n64 (limb N 2),n64 (limb N 3)]
theorem uL_get (N k : Nat) (h : k < 4) : (uL N)[k]? = some (n64 (limb N k)):=by
 rcases (show k = 0 ∨ k = 1 ∨ k = 2 ∨ k = 3 by omega) with rfl | rfl | rfl | rfl <;> rfl
set_option maxRecDepth 100000 in
set_option maxHeartbeats 1000000 in
theorem cmp_any (N M : Nat) (w : World) (hN : N < 2 ^ 256) (hM : M < 2 ^ 256) :
  Calls Tryz.prog 38 #[uV N,uV M] w fun e w' => e = .returned (.int .i64 (cmpN N M))∧Keep w w':=by
 have HC : Hid (∀ c,cmpN N M = c → (N < M → c = -1)∧(M < N → c = 1)∧(N = M → c = 0)):=fun c e => by
  subst e;unfold cmpN
  refine ⟨fun h => if_pos h,fun h => ?_,fun h => ?_⟩
  ·rw [if_neg (by omega),if_pos h]
  ·rw [if_neg (by omega),if_neg (by omega)]
 replace HC:=Lib.hid (HC.out _ rfl)
 generalize cmpN N M = c at *
 have HN:=Lib.hid hN;have HM:=Lib.hid hM
 clear hN hM
 go_enter Tryz.func38,Tryz.ntmps38
 go_upto_region 1 with fail
 obtain ⟨w1,hw1⟩ : ∃ w1,w1 = (w.alloc (.cells #[n64 (limb N 0),n64 (limb N 1),n64 (limb N 2),n64 (limb N 3)] 62)).alloc (.cells #[n64 (limb M 0),n64 (limb M 1),n64 (limb M 2),n64 (limb M 3)] 62):=⟨_,rfl⟩
 have hc1 : ∀ k,k < 4 → w1.cell? ⟨w.heap.size,k,none⟩ = some (n64 (limb N k)):=fun k hk => by
  have h1 : Blk w1 w.heap.size 62 (uL N):=by rw [hw1];exact (Blk.new w 62 (uL N)).alloc _
  rw [h1.cell,uL_get N k hk]
 have hc2 : ∀ k,k < 4 → w1.cell? ⟨w.heap.size + 1,k,none⟩ = some (n64 (limb M k)):=fun k hk => by
  have h1 : Blk w1 (w.heap.size + 1) 62 (uL M):=by
   rw [hw1]
   have h2:=Blk.new (w.alloc (.cells #[n64 (limb N 0),n64 (limb N 1),n64 (limb N 2),n64 (limb N 3)] 62)) 62 (uL M)
   rw [World.size_alloc] at h2
   exact h2
  rw [h1.cell,uL_get M k hk]
 have HK1 : Hid (Keep w w1):=by rw [hw1];exact keep_trans (keep_new _ _) (keep_new _ _)
 rw [← hw1]
 have Hc1:=Lib.hid hc1;have Hc2:=Lib.hid hc2
 clear hw1 hc1 hc2
 go_wp2_with fail
 go_loopw [5] (fun i wr => ∃ k : Nat,k ≤ 4∧i = .int .i64 ((k : Int) - 1)∧Hid (∀ j,k ≤ j → j < 4 → limb N j = limb M j)∧Hid (Keep w1 wr)) (fun i _ => (intOf i + 1).toNat)
 case atStart => exact ⟨4,by omega,rfl,Lib.hid (fun j h1 h2 => by omega),Lib.hid (Below.refl _ _)⟩
 case round =>
  obtain ⟨k,hk,rfl,he,hkr⟩:=hrel
  cases k with
  | zero =>
    have h1:=HC.out.2.2 (limb_ext HN.out HM.out (fun i hi => he.out i (Nat.zero_le _) hi))
    subst h1
    clear HC
    go_wp2
    go_ret
    exact ⟨rfl,keep_trans HK1.out hkr.out⟩
  | succ k =>
    have hi : ((k + 1 : Nat) : Int) - 1 = (k : Int):=by omega
    rw [hi]
    have a0:=keep_cell hkr.out (Hc1.out k (by omega));have a1:=keep_cell hkr.out (Hc2.out k (by omega))
    have hl:=limb_lt N k;have hm:=limb_lt M k
    have hk4 : k < 4:=by omega
    have hx : Hid (limb N k < limb M k → N < M):=Lib.hid fun h => cmp_at HN.out HM.out hk4 (fun j h1 h2 => he.out j (by omega) h2) h
    have hy : Hid (limb M k < limb N k → M < N):=Lib.hid fun h => cmp_at HM.out HN.out hk4 (fun j h1 h2 => (he.out j (by omega) h2).symm) h
    have heq : Hid (limb N k = limb M k → ∀ j,k ≤ j → j < 4 → limb N j = limb M j):=Lib.hid fun h j h1 h2 => by
     by_cases e : j = k
     ·subst e;exact h
     ·exact he.out j (by omega) h2
    generalize limb N k = x at *
    generalize limb M k = y at *
    clear hi he
    have b0:=aft_cell a0;have b1:=aft_cell a1
    have hxi : (x : Int) < 18446744073709551616:=by omega
    have hyi : (y : Int) < 18446744073709551616:=by omega
    clear hl hm
    by_cases h1 : x < y
    ·have h2:=HC.out.1 (hx.out h1)
     subst h2
     have d1 : decide (x < y) = true:=decide_eq_true (by omega)
     clear HC hx hy heq h1 HN HM
     go_upto_region 4 with fail
     refine wp_region_aft (by kernel_rfl) (by kernel_rfl) wr (Below.refl _ _) ?_
     repeat (go_big_quiet_step (fail))
     refine wpQuiet_nil ?_
     rintro _ ⟨y',rfl⟩
     have j:=aft_keep wr y'
     generalize aft wr y' = wz at j ⊢
     clear b0 b1
     go_wp2
     go_ret
     exact ⟨rfl,keep_trans HK1.out (keep_trans hkr.out j)⟩
    ·have d1 : decide (x < y) = false:=decide_eq_false (by omega)
     go_upto_region 4 with fail
     refine wp_region_aft (by kernel_rfl) (by kernel_rfl) wr (Below.refl _ _) ?_
     repeat (go_big_quiet_step (fail))
     refine wpQuiet_nil ?_
     rintro _ ⟨y',rfl⟩
     have j:=aft_keep wr y'
     generalize aft wr y' = wz at j ⊢
     have c0:=aft_cell (keep_cell j a0);have c1:=aft_cell (keep_cell j a1)
     clear b0 b1
     by_cases h2 : y < x
     ·have h3:=HC.out.2.1 (hy.out h2)
      subst h3
      have d2 : decide (y < x) = true:=decide_eq_true (by omega)
      clear HC hx hy heq h1 h2
      go_upto_region 6 with fail
      refine wp_region_aft (by kernel_rfl) (by kernel_rfl) wz (Below.refl _ _) ?_
      repeat (go_big_quiet_step (fail))
      refine wpQuiet_nil ?_
      rintro _ ⟨y',rfl⟩
      have j2:=aft_keep wz y'
      generalize aft wz y' = wy at j2 ⊢
      clear c0 c1
      go_wp2
      go_ret
      exact ⟨rfl,keep_trans HK1.out (keep_trans hkr.out (keep_trans j j2))⟩
     ·have hxy : x = y:=by omega
      have He:=Lib.hid (heq.out hxy)
      have d2 : decide (y < x) = false:=decide_eq_false (by omega)
      clear hx hy heq h1 h2
      go_upto_region 6 with fail
      refine wp_region_aft (by kernel_rfl) (by kernel_rfl) wz (Below.refl _ _) ?_
      repeat (go_big_quiet_step (fail))
      refine wpQuiet_nil ?_
      rintro _ ⟨y',rfl⟩
      have j2:=aft_keep wz y'
      generalize aft wz y' = wy at j2 ⊢
      clear c0 c1
      go_wp2
      go_roundw
      case rel => exact ⟨k,by omega,by go_num,He,Lib.hid (keep_trans hkr.out (keep_trans j j2))⟩
      case measure => simp [intOf]
end Go.Proofs.YtmbbknjddebhoaaGreatDoor
/- Numbers as digits of two (plain). -/
set_option linter.unusedSimpArgs false
set_option linter.unusedVariables false
namespace Go.Proofs.YtmbbknjddebhoaaGreatDoor
def bitN (N i : Nat) : Nat:=N / 2 ^ i % 2
theorem bitN_lt (N i : Nat) : bitN N i < 2:=Nat.mod_lt _ (by decide)
def numT (f : Nat → Nat) : Nat → Nat
 | 0 => 0
 | n + 1 => numT f n + f n * 2 ^ n
theorem numT_congr {f g : Nat → Nat} : ∀ n,(∀ i,i < n → f i = g i) → numT f n = numT g n
 | 0,_ => rfl
 | n + 1,h => by rw [numT,numT,numT_congr n fun i hi => h i (by omega),h n (by omega)]
theorem mod_succ (N n : Nat) : N % 2 ^ (n + 1) = N % 2 ^ n + bitN N n * 2 ^ n:=by
 rw [Nat.mod_pow_succ,Nat.mul_comm];rfl
theorem numT_bit (N : Nat) : ∀ n,numT (bitN N) n = N % 2 ^ n
 | 0 => by rw [numT,Nat.pow_zero,Nat.mod_one]
 | n + 1 => by rw [numT,numT_bit N n,mod_succ]
theorem numT_lt {f : Nat → Nat} : ∀ n,(∀ i,i < n → f i < 2) → numT f n < 2 ^ n
 | 0,_ => by rw [numT];decide
 | n + 1,h => by
   have h1:=numT_lt n fun i hi => h i (by omega)
   have h2:=h n (by omega)
   rw [numT,Nat.pow_succ]
   have : f n * 2 ^ n ≤ 1 * 2 ^ n:=Nat.mul_le_mul_right _ (by omega)
   omega
theorem bit_testBit (N i : Nat) : bitN N i = (N.testBit i).toNat:=(Nat.toNat_testBit N i).symm
theorem limb_bitN (N i : Nat) : limb N (i / 64) / 2 ^ (i % 64) % 2 = bitN N i:=by
 have h:=limb_bit N (i / 64) (i % 64)
 rw [show 64 * (i / 64) + i % 64 = i by omega,show decide (i % 64 < 64) = true from decide_eq_true (Nat.mod_lt _ (by decide)),Bool.true_and] at h
 rw [bit_testBit,← h]
 exact (Nat.toNat_testBit _ _).symm
theorem bitN_of_lt {N i : Nat} (h : N < 2 ^ i) : bitN N i = 0:=by unfold bitN;rw [Nat.div_eq_of_lt h]
theorem add_step {f : Nat → Nat} {N M i c d c' : Nat} (h : numT f i + c * 2 ^ i = N % 2 ^ i + M % 2 ^ i) (hd : f i = d) (e : d + 2 * c' = bitN N i + bitN M i + c) : numT f (i + 1) + c' * 2 ^ (i + 1) = N % 2 ^ (i + 1) + M % 2 ^ (i + 1):=by
 rw [numT,mod_succ,mod_succ,hd,Nat.pow_succ]
 have e2 : (d + 2 * c') * 2 ^ i = (bitN N i + bitN M i + c) * 2 ^ i:=by rw [e]
 generalize 2 ^ i = P at *
 simp only [Nat.add_mul,← Nat.mul_assoc] at *
 have e3 : c' * P * 2 = 2 * c' * P:=by rw [Nat.mul_comm (c' * P) 2,Nat.mul_assoc 2 c' P]
 omega
theorem sub_step {f : Nat → Nat} {N M i c d c' : Nat} (h : numT f i + M % 2 ^ i = N % 2 ^ i + c * 2 ^ i) (hd : f i = d) (e : d + bitN M i + c = bitN N i + 2 * c') : numT f (i + 1) + M % 2 ^ (i + 1) = N % 2 ^ (i + 1) + c' * 2 ^ (i + 1):=by
 rw [numT,mod_succ,mod_succ,hd,Nat.pow_succ]
 have e2 : (d + bitN M i + c) * 2 ^ i = (bitN N i + 2 * c') * 2 ^ i:=by rw [e]
 generalize 2 ^ i = P at *
 simp only [Nat.add_mul,← Nat.mul_assoc] at *
 have e3 : c' * P * 2 = 2 * c' * P:=by rw [Nat.mul_comm (c' * P) 2,Nat.mul_assoc 2 c' P]
 omega
theorem div_bit (N i : Nat) : N / 2 ^ i = 2 * (N / 2 ^ (i + 1)) + bitN N i:=by
 unfold bitN
 rw [Nat.pow_succ,← Nat.div_div_eq_div_mul]
 omega
theorem cmp_bit {N M i : Nat} (h : N / 2 ^ (i + 1) = M / 2 ^ (i + 1)) (hl : bitN N i < bitN M i) : N < M:=by
 have h1:=div_bit N i;have h2:=div_bit M i
 rcases Nat.lt_or_ge N M with q | q
 ·exact q
 ·have:=Nat.div_le_div_right (c:=2 ^ i) q
  omega
theorem cmp_same {N M i : Nat} (h : N / 2 ^ (i + 1) = M / 2 ^ (i + 1)) (hl : bitN N i = bitN M i) : N / 2 ^ i = M / 2 ^ i:=by
 rw [div_bit N i,div_bit M i,h,hl]
theorem shl_bit {N k j : Nat} : bitN (N * 2 ^ k) j = if j < k then 0 else bitN N (j - k):=by
 rw [bit_testBit,bit_testBit,Nat.mul_comm,Nat.testBit_two_pow_mul]
 by_cases h : j < k
 ·rw [if_pos h,show decide (j ≥ k) = false from decide_eq_false (by omega)];rfl
 ·rw [if_neg h,show decide (j ≥ k) = true from decide_eq_true (by omega),Bool.true_and]
theorem shr_bit {N k j : Nat} : bitN (N / 2 ^ k) j = bitN N (j + k):=by
 rw [bit_testBit,bit_testBit,Nat.testBit_div_two_pow,Nat.add_comm]
theorem shl_lost {N k i : Nat} : decide (2 ^ 256 ≤ N % 2 ^ (i + 1) * 2 ^ k) = (decide (2 ^ 256 ≤ N % 2 ^ i * 2 ^ k) || (decide (256 ≤ i + k) && decide (bitN N i = 1))):=by
 have hb:=bitN_lt N i
 have hlt : N % 2 ^ i < 2 ^ i:=Nat.mod_lt _ (Nat.two_pow_pos i)
 rw [mod_succ,Nat.add_mul,Nat.mul_assoc,← Nat.pow_add]
 by_cases h1 : bitN N i = 1
 ·rw [h1,Nat.one_mul,decide_eq_true (p:=(1 : Nat) = 1) rfl,Bool.and_true]
  by_cases h2 : 256 ≤ i + k
  ·have : 2 ^ 256 ≤ 2 ^ (i + k):=Nat.pow_le_pow_right (by decide) h2
   rw [decide_eq_true h2,Bool.or_true]
   exact decide_eq_true (Nat.le_trans this (Nat.le_add_left _ _))
  ·have q1 : N % 2 ^ i * 2 ^ k + 2 ^ (i + k) < 2 ^ 256:=by
    have q2 : 2 ^ (i + k + 1) ≤ 2 ^ 256:=Nat.pow_le_pow_right (by decide) (by omega)
    have q3 : N % 2 ^ i * 2 ^ k < 2 ^ (i + k):=by rw [Nat.pow_add];exact Nat.mul_lt_mul_of_pos_right hlt (Nat.two_pow_pos k)
    rw [Nat.pow_succ] at q2
    omega
   rw [decide_eq_false h2,Bool.or_false,decide_eq_false (Nat.not_le.2 q1),decide_eq_false (Nat.not_le.2 (Nat.lt_of_le_of_lt (Nat.le_add_right _ _) q1))]
 ·have h0 : bitN N i = 0:=by omega
  rw [h0,Nat.zero_mul,Nat.add_zero,decide_eq_false (p:=(0 : Nat) = 1) (by decide),Bool.and_false,Bool.or_false]
theorem div_digit {N M i : Nat} (hM : 0 < M) : bitN (N / M) i = (if M ≤ 2 * (N / 2 ^ (i + 1) % M) + bitN N i then 1 else 0)∧N / 2 ^ i % M = (if M ≤ 2 * (N / 2 ^ (i + 1) % M) + bitN N i then 2 * (N / 2 ^ (i + 1) % M) + bitN N i - M else 2 * (N / 2 ^ (i + 1) % M) + bitN N i):=by
 have hb:=bitN_lt N i
 have e1 : N / M / 2 ^ i = N / 2 ^ i / M:=by rw [Nat.div_div_eq_div_mul,Nat.div_div_eq_div_mul,Nat.mul_comm]
 unfold bitN at e1 hb ⊢
 rw [e1]
 have e2:=div_bit N i
 unfold bitN at e2
 generalize N / 2 ^ i % 2 = b at *
 rw [e2]
 generalize N / 2 ^ (i + 1) = X at *
 have hX:=Nat.div_add_mod X M
 have hr:=Nat.mod_lt X hM
 generalize X % M = r at *
 generalize X / M = q at *
 subst hX
 have e3 : 2 * (M * q + r) + b = (2 * r + b) + M * (2 * q):=by rw [Nat.mul_add,Nat.mul_left_comm];omega
 have m1 : (2 * r + b + M * (2 * q)) % M = (2 * r + b) % M:=Nat.add_mul_mod_self_left ..
 rw [e3,Nat.add_mul_div_left _ _ hM,m1]
 by_cases h : M ≤ 2 * r + b
 ·obtain ⟨y,hy⟩ : ∃ y,2 * r + b = y + M * 1:=⟨2 * r + b - M,by omega⟩
  have hyM : y < M:=by omega
  have m2 : (y + M * 1) % M = y % M:=Nat.add_mul_mod_self_left ..
  rw [if_pos h,if_pos h,hy,Nat.add_mul_div_left _ _ hM,m2,Nat.div_eq_of_lt hyM,Nat.mod_eq_of_lt hyM]
  exact ⟨by omega,by omega⟩
 ·have h2 : 2 * r + b < M:=by omega
  rw [if_neg h,if_neg h,Nat.div_eq_of_lt h2,Nat.mod_eq_of_lt h2]
  exact ⟨by omega,by omega⟩
end Go.Proofs.YtmbbknjddebhoaaGreatDoor
/- Digits of two as a value. -/
set_option linter.unusedSimpArgs false
set_option linter.unusedVariables false
namespace Go.Proofs.YtmbbknjddebhoaaGreatDoor
open Go.RowKit
attribute [local go_sem ↓] Go.wp_at_zero Go.wp_at_succ
def dgl (f : Nat → Nat) : List Value:=(List.range 256).map fun i => .int .i64 ((f i : Nat) : Int)
theorem dgl_len (f : Nat → Nat) : (dgl f).length = 256:=by simp [dgl]
theorem dgl_get (f : Nat → Nat) {i : Nat} (h : i < 256) : (dgl f)[i]? = some (.int .i64 ((f i : Nat) : Int)):=by
 simp [dgl,List.getElem?_map,List.getElem?_range h]
theorem dgl_ext {f g : Nat → Nat} (h : ∀ i,i < 256 → f i = g i) : dgl f = dgl g:=by
 unfold dgl
 exact List.map_congr_left fun i hi => by rw [h i (List.mem_range.1 hi)]
theorem dgl_set (f : Nat → Nat) (i v : Nat) : (dgl f).set i (.int .i64 ((v : Nat) : Int)) = dgl fun j => if j = i then v else f j:=by
 apply List.ext_getElem?
 intro j
 rw [List.getElem?_set]
 by_cases hj : j < 256
 ·by_cases e : i = j
  ·subst e
   rw [if_pos rfl,dgl_len,if_pos hj,dgl_get _ hj,if_pos rfl]
  ·rw [if_neg e,dgl_get _ hj,dgl_get _ hj,if_neg (fun q => e q.symm)]
 ·rw [List.getElem?_eq_none (by rw [dgl_len];omega),List.getElem?_eq_none (by rw [dgl_len];omega)]
  by_cases e : i = j
  ·rw [if_pos e,dgl_len,if_neg (by omega)]
  ·rw [if_neg e]
theorem dgl_one (f : Nat → Nat) : ∀ v ∈ dgl f,v.oneCell' = true:=by
 intro v hv
 obtain ⟨i,-,rfl⟩:=List.mem_map.1 hv
 rfl
theorem dig_info : (Tryz.prog.info? 100).map (·.size) = some 256:=by kernel_rfl
structure DgA (f : Nat → Nat) (cs : Array Value) : Prop where
 l : cs.toList = dgl f
 z : cs.size = 256
 i : (Tryz.prog.info? 100).map (·.size) = some cs.size
 n : ¬ cs = #[]
 o : ∀ v ∈ cs.toList,v.oneCell' = true
theorem DgA.of (f : Nat → Nat) : DgA f (dgl f).toArray:=by
 have hz : (dgl f).toArray.size = 256:=by simpa using dgl_len f
 exact ⟨rfl,hz,by rw [hz];exact dig_info,fun e => by rw [e] at hz;simp at hz,by simpa using dgl_one f⟩
noncomputable def zdig : Array Value:=match (Tryz.prog.info? 100).bind (·.zero) with | some (.agg c) => c | _ => #[]
theorem zdig_zero (w : World) : (zeroValue 100).run Tryz.prog w = .ok (.agg zdig) w:=by kernel_rfl
theorem zdig_list : zdig.toList = dgl fun _ => 0:=by kernel_rfl
theorem zdig_letter : ∃ zs : Array Value,(∀ w,(zeroValue 100).run Tryz.prog w = .ok (.agg zs) w)∧DgA (fun _ => 0) zs :=
 ⟨zdig,zdig_zero,by
  have h:=DgA.of fun _ => 0
  rwa [← zdig_list,Array.toArray_toList] at h⟩
end Go.Proofs.YtmbbknjddebhoaaGreatDoor
/- A row of bytes that a call makes (the first part of Ka, for seats that have no florinref04). -/
set_option linter.unusedSimpArgs false
set_option linter.unusedVariables false
namespace Go.Proofs.YtmbbknjddebhoaaGreatDoor
open Go.RowKit
attribute [local go_sem ↓] Go.wp_at_zero Go.wp_at_succ
theorem byteTN : ElT Tryz.prog 58 5 (.int .u8 0) 1 1:=ElT.mk' Tryz.underlying58 (by kernel_rfl) rfl (by omega)
theorem one_bytesN (l : List UInt8) : ∀ u ∈ l.map u8v,u.oneCell' = true:=by
 intro u hu;obtain ⟨x,_,rfl⟩:=List.mem_map.1 hu;rfl
structure Bf (w0 w : World) (A : Option Addr) (c : Nat) (l : List UInt8) : Prop where
 o : w.ownsRow w0.heap.size 5 1 (.slice A l.length c) l.length (l.map u8v)
 k : Keep w0 w
theorem Bf.nil {w0 w : World} (k : Keep w0 w) : Bf w0 w none 0 []:=⟨World.ownsRow_nil _ _ _ _,k⟩
theorem Bf.lit {w0 w : World} (k : Keep w0 w) : Bf w0 (w.alloc (.cells #[] 5)) (some ⟨w.heap.size,0,none⟩) 0 []:=⟨own_base (own_zero w _ _) k.size,k.alloc k.size _⟩
theorem Bf.keep {w0 w w' : World} {A : Option Addr} {c : Nat} {l : List UInt8} (h : Bf w0 w A c l) (k : Keep w w') : Bf w0 w' A c l:=⟨own_keep h.o k,keep_trans h.k k⟩
theorem Bf.alloc {w0 w : World} {A : Option Addr} {c : Nat} {l : List UInt8} (h : Bf w0 w A c l) (o : Obj) : Bf w0 (w.alloc o) A c l:=h.keep (keep_new _ _)
theorem Bf.rd {w0 w : World} {A : Option Addr} {c : Nat} {l : List UInt8} (h : Bf w0 w A c l) : Rd w A (l.map u8v):=own_rd h.o
theorem Bf.up {w0 w1 w : World} {A : Option Addr} {c : Nat} {l : List UInt8} (h : Bf w1 w A c l) (k : Keep w0 w1) : Bf w0 w A c l:=⟨own_base h.o k.size,keep_trans k h.k⟩
theorem Bf.size {w0 w : World} {A : Option Addr} {c : Nat} {l : List UInt8} (h : Bf w0 w A c l) : w0.heap.size ≤ w.heap.size:=h.k.size
theorem Bf.cap {w0 w : World} {A : Option Addr} {c : Nat} {l : List UInt8} (h : Bf w0 w A c l) : l.length ≤ c∧c ≤ maxLen:=by
 obtain ⟨_,_,e,h1,h2,-⟩:=own_form h.o
 injection e with _ _ e
 subst e
 exact ⟨h1,h2⟩
def Bfd (w : World) (l : List UInt8) (e : Ending) (w' : World) : Prop:=∃ A c,e = .returned (.slice A l.length c)∧Bf w w' A c l
theorem wpList_bf {w0 w : World} {A : Option Addr} {c : Nat} {l : List UInt8} {ops : Array Oper} {rest : List Oper} {o : Oper} {a : Act} {Q : Exit → Act → World → Prop} (hgd : o.guard = none) (s x : Operand)
  (ho : o.op = .call { callee:=.builtin .append,args:=#[s,x],argTypes:=#[58,58] }) (h : Bf w0 w A c l) (hs : a.eval s = .slice A l.length c)
  (A1 : Option Addr) (m c1 : Nat) (y : List UInt8) (hx : a.eval x = .slice A1 m c1) (hl : y.length = m) (hr : Rd w A1 (y.map u8v)) (hn : l.length + m ≤ 1000000000)
  (H : ∀ z A' c' w',Hid (z = l ++ y) → Bf w0 w' A' c' z → w.grownBy w' (Value.slice A l.length c).ownBlock → wpList Tryz.prog ops Q rest (a.put o.dst (.slice A' z.length c')) w') : wpList Tryz.prog ops Q (o :: rest) a w :=
 wpList_app byteTN hgd s x ho w0.heap.size _ l.length _ hs h.o A1 m c1 (y.map u8v) hx (by rw [List.length_map,hl,Nat.mul_one]) hr (one_bytesN y) (by omega) (by unfold maxLen;omega) h.size fun v' w' h1 h2 h3 => by
  obtain ⟨A',c',rfl,hc,hm,hrd⟩:=own_form h1
  have e : l.length + m = (l ++ y).length:=by rw [List.length_append,hl]
  rw [e] at h1 ⊢
  exact H (l ++ y) A' c' w' (Lib.hid rfl) ⟨own_eq h1 rfl (by rw [List.map_append]),keep_grown h.k h.size h2 h.o⟩ h2
end Go.Proofs.YtmbbknjddebhoaaGreatDoor
