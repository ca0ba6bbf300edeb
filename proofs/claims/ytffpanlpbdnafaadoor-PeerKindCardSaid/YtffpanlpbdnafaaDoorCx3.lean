/- Texts merged by pack.py: Hsh, Vk, Vl, Vm, Vn, Vo, Vq. -/
import Derived.Test.YtffpanlpbdnafaaDoorCx2
import Derived.Deep.CutBlock
/- Rows of hashes. -/
set_option linter.unusedSimpArgs false
set_option linter.unusedVariables false
namespace Go.Proofs.YtffpanlpbdnafaaDoor
open Go.RowKit
attribute [local go_sem ↓] Go.wp_at_zero Go.wp_at_succ
set_option maxRecDepth 100000 in
theorem hashTb : ElT Tryd.prog 37 39 (Value.agg zhash) 32 32:=ElT.mk' Tryd.underlying37 (by kernel_rfl) zhash_size (by omega)
theorem list_build1h {P : Program} {t e : TypeId} {zc : Array Value} {size bytes : Nat} (T : ElT P t e (.agg zc) size bytes) {ops : Array Oper} {rest : List Oper} {a : Act} {w : World} {Q : Exit → Act → World → Prop} {x : Operand} {dst : Option Tmp} {ty' : TypeId} {pos : String} {af : Array Edge}
  (cs : Array Value) (hz : cs.size = size) (hsm : size ≤ 1000) (hx : a.eval x = .agg cs)
  (h : wpList P ops Q rest (a.put dst (.slice (some ⟨w.heap.size,0,none⟩) 1 1)) (w.alloc (.cells cs e))) : wpList P ops Q ({ dst:=dst,op:=.buildSlice t 1 #[(0,x)],type:=ty',pos:=pos,after:=af,guard:=none } :: rest) a w :=
 wpList_plain rfl fun _ hK => wp_build1b T x rfl cs hz hsm hx (hK _ _ h)
def hsL (l : List (List UInt8)) : List Value:=l.flatMap fun h => h.map u8v
theorem hsL_snoc (l : List (List UInt8)) (h : List UInt8) : hsL (l ++ [h]) = hsL l ++ h.map u8v:=by simp [hsL]
theorem hash_at {w : World} {B : Option Addr} {l : List (List UInt8)} (hr : Rd w B (hsL l)) (hk : ∀ h ∈ l,h.length = 32) {k : Nat} (h : k < l.length) :
  ∃ b off,B = some ⟨b,off,none⟩∧b < w.heap.size∧w.rangeAt b (off + k * 32) (l[k].map u8v):=by
 have hlen : ∀ a ∈ l,(a.map u8v).length = 32:=fun a ha => by rw [List.length_map];exact hk a ha
 unfold hsL at hr
 obtain ⟨b,off,rfl,hb,F⟩:=hr.at (k:=k * 32) (by rw [flatMap_len' _ 32 _ hlen];omega)
 refine ⟨b,off,rfl,hb,fun j v hv => ?_⟩
 have hj : j < 32:=by rw [← hlen l[k] (List.getElem_mem h)];exact (List.getElem?_eq_some_iff.1 hv).1
 have hg:=flatMap_get' (fun a : List UInt8 => a.map u8v) 32 l hlen k j h hj
 have hlt : k * 32 + j < (l.flatMap fun a => a.map u8v).length:=by rw [flatMap_len' _ 32 _ hlen];omega
 have hc:=F (k * 32 + j) hlt
 rw [Nat.add_assoc,hc,← hv,← hg,List.getElem?_eq_getElem hlt]
theorem list_bldg {P : Program} {w : World} {ops : Array Oper} {rest : List Oper} {a : Act} {Q : Exit → Act → World → Prop} {parts : Array (Nat × Operand)} {dst : Option Tmp} {t ty' : TypeId} {pos : String} {af : Array Edge} {gd : Option (Nat × Bool)}
  (ps : List (Nat × Value)) (cells : Array Value) (hx : (parts.toList.map fun p => (p.1,a.eval p.2)) = ps) (hb : P.built t ps = some cells)
  (hw : Region.wanted { dst:=dst,op:=.build t parts,type:=ty',pos:=pos,after:=af,guard:=gd } (yielded ops a.tmps) = true)
  (h : wpList P ops Q rest (a.put dst (.agg cells)) w) : wpList P ops Q ({ dst:=dst,op:=.build t parts,type:=ty',pos:=pos,after:=af,guard:=gd } :: rest) a w:=by
 unfold wpList
 rw [if_pos hw]
 left
 exact wp_build t parts rfl (by rw [show (parts.map fun (i,x) => (i,a.eval x)).toList = ps by rw [Array.toList_map];exact hx,hb];rfl) (by rw [show (parts.map fun (i,x) => (i,a.eval x)).toList = ps by rw [Array.toList_map];exact hx,hb];exact h)
end Go.Proofs.YtffpanlpbdnafaaDoor
/- Transactions in memory; tx.Sane. (printed by gen_vk.py) -/
set_option linter.unusedSimpArgs false
set_option linter.unusedVariables false
namespace Go.Proofs.YtffpanlpbdnafaaDoor
open Go.RowKit
attribute [local go_sem ↓] Go.wp_at_zero Go.wp_at_succ
structure InR where
 prev : List UInt8
 ix : UInt32
 A : Option Addr
 sc : List UInt8
 cap : Nat
 seq : UInt32
structure OutR where
 val : Nat
 A : Option Addr
 sc : List UInt8
 cap : Nat
structure TxR where
 ver : UInt32
 iA : Option Addr
 ins : List InR
 ic : Nat
 oA : Option Addr
 outs : List OutR
 oc : Nat
 lock : UInt32
def InR.cells (x : InR) : List Value:=x.prev.map u8v ++ [u32v x.ix,.slice x.A x.sc.length x.cap,u32v x.seq]
def OutR.cells (x : OutR) : List Value:=[u64v x.val,.slice x.A x.sc.length x.cap]
def TxR.cells (t : TxR) : List Value:=[u32v t.ver,.slice t.iA t.ins.length t.ic,.slice t.oA t.outs.length t.oc,u32v t.lock]
structure InR.at (x : InR) (w : World) : Prop where
 p : x.prev.length = 32
 c : x.sc.length ≤ x.cap∧x.cap ≤ maxLen
 r : Rd w x.A (x.sc.map u8v)
structure OutR.at (x : OutR) (w : World) : Prop where
 v : x.val < 2 ^ 64
 c : x.sc.length ≤ x.cap∧x.cap ≤ maxLen
 r : Rd w x.A (x.sc.map u8v)
structure TxR.at (t : TxR) (w : World) : Prop where
 i : Rd w t.iA (t.ins.flatMap InR.cells)
 o : Rd w t.oA (t.outs.flatMap OutR.cells)
 ic : t.ins.length ≤ t.ic∧t.ic ≤ maxLen
 oc : t.outs.length ≤ t.oc∧t.oc ≤ maxLen
 is : ∀ x ∈ t.ins,x.at w
 os : ∀ x ∈ t.outs,x.at w
theorem InR.at.keep {x : InR} {w w' : World} (h : x.at w) (k : Keep w w') : x.at w':=⟨h.p,h.c,h.r.keep k⟩
theorem OutR.at.keep {x : OutR} {w w' : World} (h : x.at w) (k : Keep w w') : x.at w':=⟨h.v,h.c,h.r.keep k⟩
theorem TxR.at.keep {t : TxR} {w w' : World} (h : t.at w) (k : Keep w w') : t.at w':=⟨h.i.keep k,h.o.keep k,h.ic,h.oc,fun x hx => (h.is x hx).keep k,fun x hx => (h.os x hx).keep k⟩
theorem InR.len {x : InR} (h : x.prev.length = 32) : x.cells.length = 35:=by simp [InR.cells,h]
theorem InR.one (x : InR) : ∀ u ∈ x.cells,u.oneCell' = true:=by
 intro u hu
 rcases List.mem_append.1 hu with hu | hu
 ·obtain ⟨y,_,rfl⟩:=List.mem_map.1 hu;rfl
 ·simp at hu;rcases hu with rfl | rfl | rfl <;> rfl
theorem in_info : (Tryd.prog.info? 127).map (·.size) = some 35:=by kernel_rfl
structure InA (x : InR) (cs : Array Value) : Prop where
 l : cs.toList = x.cells
 z : cs.size = 35
 i : (Tryd.prog.info? 127).map (·.size) = some cs.size
 n : ¬ cs = #[]
 o : ∀ v ∈ cs.toList,v.oneCell' = true
theorem InA.of {x : InR} (h : x.prev.length = 32) : InA x x.cells.toArray:=by
 have hz : x.cells.toArray.size = 35:=by simpa using InR.len h
 exact ⟨rfl,hz,by rw [hz];exact in_info,fun e => by rw [e] at hz;simp at hz,by simpa using x.one⟩
noncomputable def zin : Array Value:=match (Tryd.prog.info? 127).bind (·.zero) with | some (.agg c) => c | _ => #[]
theorem zin_size : zin.size = 35:=by kernel_rfl
theorem zin_zero (w : World) : (zeroValue 127).run Tryd.prog w = .ok (.agg zin) w:=by kernel_rfl
theorem zin_list : zin.toList = InR.cells ⟨z32,0,none,[],0,0⟩:=by kernel_rfl
theorem zin_letter : ∃ zs : Array Value,zs.size = 35∧(∀ w,(zeroValue 127).run Tryd.prog w = .ok (.agg zs) w)∧¬ zs = #[]∧InA ⟨z32,0,none,[],0,0⟩ zs :=
 ⟨zin,zin_size,zin_zero,(fun h => by have:=zin_size;rw [h] at this;cases this),by
  have h:=InA.of (x:=⟨z32,0,none,[],0,0⟩) rfl
  rwa [← zin_list,Array.toArray_toList] at h⟩
set_option maxRecDepth 100000 in
theorem inT : ElT Tryd.prog 45 127 (Value.agg zin) 35 72:=ElT.mk' Tryd.underlying45 (by kernel_rfl) zin_size (by omega)
theorem outT : ElT Tryd.prog 46 128 (.agg #[.int .u64 0,.slice none 0 0]) 2 32:=ElT.mk' Tryd.underlying46 (by kernel_rfl) rfl (by omega)
theorem in_at {w : World} {A : Option Addr} {l : List InR} (hr : Rd w A (l.flatMap InR.cells)) (hk : ∀ x ∈ l,x.prev.length = 32) {k : Nat} (h : k < l.length) :
  ∃ b off,A = some ⟨b,off,none⟩∧b < w.heap.size∧w.rangeAt b (off + k * 35) l[k].cells:=by
 have hlen : ∀ a ∈ l,a.cells.length = 35:=fun a ha => InR.len (hk a ha)
 obtain ⟨b,off,rfl,hb,F⟩:=hr.at (k:=k * 35) (by rw [flatMap_len' _ 35 _ hlen];omega)
 refine ⟨b,off,rfl,hb,fun j v hv => ?_⟩
 have hj : j < 35:=by rw [← hlen l[k] (List.getElem_mem h)];exact (List.getElem?_eq_some_iff.1 hv).1
 have hg:=flatMap_get' InR.cells 35 l hlen k j h hj
 have hlt : k * 35 + j < (l.flatMap InR.cells).length:=by rw [flatMap_len' _ 35 _ hlen];omega
 have hc:=F (k * 35 + j) hlt
 rw [Nat.add_assoc,hc,← hv,← hg,List.getElem?_eq_getElem hlt]
theorem out_at {w : World} {A : Option Addr} {l : List OutR} (hr : Rd w A (l.flatMap OutR.cells)) {k : Nat} (h : k < l.length) :
  ∃ b off,A = some ⟨b,off,none⟩∧b < w.heap.size∧w.cell? ⟨b,off + k * 2,none⟩ = some (u64v l[k].val)∧w.cell? ⟨b,off + k * 2 + 1,none⟩ = some (.slice l[k].A l[k].sc.length l[k].cap):=by
 obtain ⟨b,off,rfl,hb,F⟩:=hr.at (k:=k * 2) (by rw [flatMap_len _ 2 (fun _ => rfl)];omega)
 have G:=Rd.field (size:=2) (fun _ => rfl) F k
 exact ⟨b,off,rfl,hb,G 0 h (by omega),G 1 h (by omega)⟩
def saneT (t : TxR) : Bool:=decide (1 ≤ t.ins.length∧t.ins.length ≤ 1000∧t.outs.length ≤ 1000∧(∀ x ∈ t.ins,x.sc.length ≤ 10000)∧∀ x ∈ t.outs,x.sc.length ≤ 10000)
set_option maxRecDepth 100000 in
set_option maxHeartbeats 4000000 in
theorem tsane_any (t : TxR) (w : World) (h : t.at w) (hi : t.ins.length ≤ 1000000) (ho : t.outs.length ≤ 1000000) :
  Calls Tryd.prog 34 #[.agg #[u32v t.ver,.slice t.iA t.ins.length t.ic,.slice t.oA t.outs.length t.oc,u32v t.lock]] w fun e w' => e = .returned (.bool (saneT t))∧Keep w w':=by
 have HI : Hid (∀ k (h : k < t.ins.length),∃ (b off : Nat) (xs : Array Value) (x : InR),t.iA = some ⟨b,off,none⟩∧InA x xs∧x.prev.length = 32∧w.rangeAt b (off + k * 35) xs.toList∧x ∈ t.ins∧t.ins[k]? = some x):=Lib.hid fun k hk => by
  have hp:=(h.is _ (List.getElem_mem hk)).p
  obtain ⟨b,off,h1,-,h2⟩:=in_at h.i (fun x hx => (h.is x hx).p) hk
  have hA:=InA.of hp
  exact ⟨b,off,_,_,h1,hA,hp,by rw [hA.l];exact h2,List.getElem_mem hk,List.getElem?_eq_getElem hk⟩
 have HO : Hid (∀ k (h : k < t.outs.length),∃ (b off : Nat) (x : OutR),t.oA = some ⟨b,off,none⟩∧w.cell? ⟨b,off + k * 2,none⟩ = some (u64v x.val)∧w.cell? ⟨b,off + k * 2 + 1,none⟩ = some (.slice x.A x.sc.length x.cap)∧x ∈ t.outs∧t.outs[k]? = some x):=Lib.hid fun k hk => by
  obtain ⟨b,off,h1,-,h2,h3⟩:=out_at h.o hk
  exact ⟨b,off,_,h1,h2,h3,List.getElem_mem hk,List.getElem?_eq_getElem hk⟩
 obtain ⟨R,hR⟩ : ∃ R,saneT t = R:=⟨_,rfl⟩
 have HF : Hid (∀ (P : Prop),¬ P → (saneT t = true → P) → R = false):=Lib.hid fun P h1 h2 => by
  rw [← hR]
  cases h : saneT t with
  | false => rfl
  | true => exact absurd (h2 h) h1
 have HD : Hid (saneT t = true ↔ (1 ≤ t.ins.length∧t.ins.length ≤ 1000∧t.outs.length ≤ 1000∧(∀ x ∈ t.ins,x.sc.length ≤ 10000)∧∀ x ∈ t.outs,x.sc.length ≤ 10000)):=Lib.hid (by unfold saneT;rw [decide_eq_true_eq])
 have HRT : Hid (saneT t = true → R = true):=Lib.hid fun h => hR.symm.trans h
 rw [hR]
 obtain ⟨ver,iA,ins,ic,oA,outs,oc,lock⟩:=t
 simp only at *
 clear h hR
 obtain ⟨n,hn⟩ : ∃ n,ins.length = n:=⟨_,rfl⟩
 obtain ⟨m,hm⟩ : ∃ m,outs.length = m:=⟨_,rfl⟩
 rw [hn] at HI HD hi ⊢
 rw [hm] at HO HD ho ⊢
 have HNN:=Lib.hid hn;have HMM:=Lib.hid hm
 clear hn hm
 obtain ⟨zs,hz1,hz2,hz3,-⟩:=zin_letter
 have HK : Hid (Keep w w):=Lib.hid (Below.refl _ _)
 have bad : ∀ (P : Prop),¬ P → (saneT ⟨ver,iA,ins,ic,oA,outs,oc,lock⟩ = true → P) → R = false:=HF.out
 by_cases g1 : n < 1
 ·have hv:=bad (1 ≤ n) (by omega) fun q => (HD.out.1 q).1
  subst hv
  have d1 : (n : Int) < 1:=by omega
  clear HF HD HRT HI HO bad
  go_enter Tryd.func34,Tryd.ntmps34
  go_wp2
  exact bodyPost_ret (v:=.bool false) (by simp [results,Tryd.results34]) rfl ⟨rfl,(HK.out).alloc (Nat.le_refl _) _⟩
 have d1 : ¬ (n : Int) < 1:=by omega
 by_cases g2 : 1000 < n
 ·have hv:=bad (n ≤ 1000) (by omega) fun q => (HD.out.1 q).2.1
  subst hv
  have d2 : (1000 : Int) < n:=by omega
  clear HF HD HRT HI HO bad
  go_enter Tryd.func34,Tryd.ntmps34
  go_wp2
  exact bodyPost_ret (v:=.bool false) (by simp [results,Tryd.results34]) rfl ⟨rfl,(HK.out).alloc (Nat.le_refl _) _⟩
 have d2 : ¬ (1000 : Int) < n:=by omega
 by_cases g3 : 1000 < m
 ·have hv:=bad (m ≤ 1000) (by omega) fun q => (HD.out.1 q).2.2.1
  subst hv
  have d3 : (1000 : Int) < m:=by omega
  clear HF HD HRT HI HO bad
  go_enter Tryd.func34,Tryd.ntmps34
  go_wp2
  exact bodyPost_ret (v:=.bool false) (by simp [results,Tryd.results34]) rfl ⟨rfl,(HK.out).alloc (Nat.le_refl _) _⟩
 have d3 : ¬ (1000 : Int) < m:=by omega
 go_enter Tryd.func34,Tryd.ntmps34
 go_upto_region 1 with fail
 obtain ⟨w1,hw1⟩ : ∃ w1,w1 = w.alloc (.cells #[u32v ver,.slice iA n ic,.slice oA m oc,u32v lock] 48):=⟨_,rfl⟩
 have HT1 : Hid (Blk w1 w.heap.size 48 [u32v ver,.slice iA n ic,.slice oA m oc,u32v lock]):=by rw [hw1];exact Lib.hid (Blk.new w 48 [u32v ver,.slice iA n ic,.slice oA m oc,u32v lock])
 have HK1 : Hid (Keep w w1):=by rw [hw1];exact Lib.hid (keep_new _ _)
 rw [← hw1]
 clear hw1 HK
 generalize w.heap.size = gt at *
 have t1:=HT1.out.cell 1;have t2:=HT1.out.cell 2
 simp only [List.getElem?_cons_succ,List.getElem?_cons_zero] at t1 t2
 go_upto_region 4 with fail
 clear d1 d2 d3 t1 t2
 go_loopw [26] (fun x wr => ∃ k : Nat,k ≤ n∧x = .int .i64 k∧Hid (∀ y ∈ ins.take k,y.sc.length ≤ 10000)∧Hid (Keep w1 wr)) (fun x _ => n - (intOf x).toNat)
 case atStart => exact ⟨0,Nat.zero_le _,rfl,Lib.hid (by simp),Lib.hid (Below.refl _ _)⟩
 case round =>
  obtain ⟨k,hk,rfl,HS,HKr⟩:=hrel
  by_cases hlt : k < n
  ·obtain ⟨b,off,xs,x,rfl,hxs,hp,hrg,hmem,hget⟩:=HI.out k hlt
   have hxz:=hxs.z;have hxn:=hxs.n;have hxi:=hxs.i
   have RX : Hid (wr.rangeAt b (off + k * 35) xs.toList):=Lib.hid fun j v hv => keep_cell HKr.out (keep_cell HK1.out (hrg j v hv))
   have hst : (storeCells ⟨wr.heap.size,0,none⟩ xs.toList 0).run Tryd.prog (wr.alloc (.cells zs 127)) = .ok () (wr.alloc (.cells xs 127)):=run_storeCells_new (P:=Tryd.prog) wr 127 zs xs hxi (hz1.trans hxz.symm) (by have:=all_oneCell_toArray hxs.o;rwa [Array.toArray_toList] at this)
   have d4 : (k : Int) < n:=by omega
   have HXL:=Lib.hid (show xs.toList[33]? = some (.slice x.A x.sc.length x.cap) by rw [hxs.l];unfold InR.cells;rw [List.getElem?_append_right (by simp [hp])];simp [hp])
   have HME:=Lib.hid hmem;have HGE:=Lib.hid hget
   clear hxs hp hrg hmem hget HI
   go_upto_region 6 with ((with_reducible refine load_partg b (off + k * 35) xs (Eq.trans ?_ rfl) RX.out _ Tryd.underlying127 rfl hxi rfl ?_);rfl)
   obtain ⟨w2,hw2⟩ : ∃ w2,w2 = wr.alloc (.cells xs 127):=⟨_,rfl⟩
   have c33 : w2.cell? ⟨wr.heap.size,33,none⟩ = some (.slice x.A x.sc.length x.cap):=by rw [hw2];exact ((Blk.new wr 127 xs.toList).cell 33).trans HXL.out
   have HK2 : Hid (Keep w1 w2):=by rw [hw2];exact Lib.hid (keep_trans HKr.out (keep_new _ _))
   rw [← hw2]
   clear hw2 hst RX HKr HXL hxz hxn hxi
   generalize wr.heap.size = gb at *
   by_cases hs : 10000 < x.sc.length
   ·have hv:=bad (∀ y ∈ ins,y.sc.length ≤ 10000) (fun q => by have:=q x HME.out;omega) fun q => (HD.out.1 q).2.2.2.1
    subst hv
    have d5 : (10000 : Int) < x.sc.length:=by omega
    clear HF HD HRT HO bad
    go_wp2
    exact bodyPost_ret (v:=.bool false) (by simp [results,Tryd.results34]) rfl ⟨rfl,keep_trans HK1.out HK2.out⟩
   ·have d5 : ¬ (10000 : Int) < x.sc.length:=by omega
    have HS2 : Hid (∀ y ∈ ins.take (k + 1),y.sc.length ≤ 10000):=Lib.hid fun y hy => by
     rw [List.take_add_one,HGE.out] at hy
     rcases List.mem_append.1 hy with q | q
     ·exact HS.out y q
     ·simp at q;subst q;omega
    clear HS bad
    go_wp2
    go_roundw
    case rel => exact ⟨k + 1,by omega,by go_num,HS2,HK2⟩
    case measure => simp [intOf];omega
  ·obtain rfl : k = n:=by omega
   have d4 : ¬ (k : Int) < k:=by omega
   have HSA : Hid (∀ y ∈ ins,y.sc.length ≤ 10000):=Lib.hid (by have:=HS.out;rwa [List.take_of_length_le (by rw [HNN.out];omega)] at this)
   have t2:=(HT1.out.keep HKr.out).cell 2
   simp only [List.getElem?_cons_succ,List.getElem?_cons_zero] at t2
   have HKq:=Lib.hid (keep_trans HK1.out HKr.out)
   obtain ⟨wq,hwq⟩ : ∃ wq,wr = wq:=⟨_,rfl⟩
   rw [hwq] at HKq t2 ⊢
   clear hwq HKr HS HI HK1 HT1
   go_wp2_with fail
   clear d4 t2
   go_loopw [38] (fun x wr => ∃ j : Nat,j ≤ m∧x = .int .i64 j∧Hid (∀ y ∈ outs.take j,y.sc.length ≤ 10000)∧Hid (Keep w wr)) (fun x _ => m - (intOf x).toNat)
   case atStart => exact ⟨0,Nat.zero_le _,rfl,Lib.hid (by simp),HKq⟩
   case round =>
    obtain ⟨j,hj,rfl,HS,HKs⟩:=hrel
    by_cases hlt2 : j < m
    ·obtain ⟨b,off,x,rfl,c0,c1,hmem,hget⟩:=HO.out j hlt2
     have c0:=keep_cell HKs.out c0;have c1:=keep_cell HKs.out c1
     have d4 : (j : Int) < m:=by omega
     have HME:=Lib.hid hmem;have HGE:=Lib.hid hget
     clear hmem hget HO
     have HK2:=Lib.hid (keep_trans HKs.out (keep_new ‹World› (.cells #[u64v x.val,.slice x.A x.sc.length x.cap] 128)))
     by_cases hs : 10000 < x.sc.length
     ·have hv:=bad (∀ y ∈ outs,y.sc.length ≤ 10000) (fun q => by have:=q x HME.out;omega) fun q => (HD.out.1 q).2.2.2.2
      subst hv
      have d5 : (10000 : Int) < x.sc.length:=by omega
      clear HF HD HRT bad
      go_wp2
      exact bodyPost_ret (v:=.bool false) (by simp [results,Tryd.results34]) rfl ⟨rfl,HK2.out⟩
     ·have d5 : ¬ (10000 : Int) < x.sc.length:=by omega
      have HS2 : Hid (∀ y ∈ outs.take (j + 1),y.sc.length ≤ 10000):=Lib.hid fun y hy => by
       rw [List.take_add_one,HGE.out] at hy
       rcases List.mem_append.1 hy with q | q
       ·exact HS.out y q
       ·simp at q;subst q;omega
      clear HS bad
      go_wp2
      go_roundw
      case rel => exact ⟨j + 1,by omega,by go_num,HS2,HK2⟩
      case measure => simp [intOf];omega
    ·obtain rfl : j = m:=by omega
     have d4 : ¬ (j : Int) < j:=by omega
     have hv:=HRT.out (HD.out.2 ⟨by omega,by omega,by omega,HSA.out,by have:=HS.out;rwa [List.take_of_length_le (by rw [HMM.out];omega)] at this⟩)
     subst hv
     clear HF HD HRT bad HO
     go_wp2
     exact bodyPost_ret (v:=.bool true) (by simp [results,Tryd.results34]) rfl ⟨rfl,HKs.out⟩
end Go.Proofs.YtffpanlpbdnafaaDoor
/- tx.Put. (printed by gen_vl.py) -/
set_option linter.unusedSimpArgs false
set_option linter.unusedVariables false
namespace Go.Proofs.YtffpanlpbdnafaaDoor
open Go.RowKit
attribute [local go_sem ↓] Go.wp_at_zero Go.wp_at_succ
theorem run_store_new1 {P : Program} (w : World) (t : TypeId) (z v : Value) (hv : v.oneCell' = true) : (store ⟨w.heap.size,0,none⟩ v).run P (w.alloc (.cells #[z] t)) = .ok () (w.alloc (.cells #[v] t)):=by
 have hb : Blk (w.alloc (.cells #[z] t)) w.heap.size t [z]:=Blk.new w t [z]
 rw [run_store _ _ _ _ _ hv,hb.cell 0]
 simp [hb.frozen 0,World.setCell_alloc_new]
def scL (s : List UInt8) : List UInt8:=cptL s.length ++ s
def inL (x : InR) : List UInt8:=x.prev ++ (loN x.ix.toNat 4 ++ (scL x.sc ++ loN x.seq.toNat 4))
def outL (x : OutR) : List UInt8:=loN x.val 8 ++ scL x.sc
def txL (t : TxR) : List UInt8:=loN t.ver.toNat 4 ++ (cptL t.ins.length ++ (t.ins.flatMap inL ++ (cptL t.outs.length ++ (t.outs.flatMap outL ++ loN t.lock.toNat 4))))
theorem scL_len (s : List UInt8) : (scL s).length = sizN s.length + s.length:=by unfold scL;rw [List.length_append,cpt_len]
theorem fm_le {α : Type} (f : α → List UInt8) (m : Nat) : ∀ (l : List α),(∀ x ∈ l,(f x).length ≤ m) → (l.flatMap f).length ≤ l.length * m
 | [],_ => by simp
 | a :: l,h => by
   have h1:=h a List.mem_cons_self
   have h2:=fm_le f m l fun x hx => h x (List.mem_cons_of_mem _ hx)
   rw [List.flatMap_cons,List.length_append,List.length_cons,Nat.succ_mul];omega
theorem inL_le {x : InR} (hp : x.prev.length = 32) (hs : x.sc.length ≤ 10000) : (inL x).length ≤ 10100:=by
 have:=siz_le x.sc.length
 unfold inL;simp [scL_len,lo_len,hp];omega
theorem outL_le {x : OutR} (hs : x.sc.length ≤ 10000) : (outL x).length ≤ 10100:=by
 have:=siz_le x.sc.length
 unfold outL;simp [scL_len,lo_len];omega
theorem rd_lt {w : World} {A : Option Addr} {xs : List Value} (h : Rd w A xs) {b off : Nat} (e : A = some ⟨b,off,none⟩) (hx : xs ≠ []) : b < w.heap.size:=by
 rcases h with q | ⟨g,o,q,hc⟩
 ·exact absurd q hx
 ·rw [e] at q;cases q;exact cell_lt (hc 0 (List.length_pos_iff.2 hx))
structure Bst (B D : Nat) (w0 w : World) (v : Value) (l : List UInt8) : Prop where
 b : Blk w B 26 [v]
 o : w.ownsRow D 5 1 v l.length (l.map u8v)
 g : Gx B w0 (.slice none 0 0) w v
theorem Bst.kx {B D : Nat} {w0 w : World} {v : Value} {l : List UInt8} (h : Bst B D w0 w v l) : KeepX (fun k => k = B) w0 w :=
 ⟨h.g.k.1,h.g.k.2.1,h.g.k.2.2.1,h.g.k.2.2.2.1,fun k hk hn => h.g.k.2.2.2.2 k hk (by rintro (q | q);exact hn q;cases q)⟩
theorem Bst.size {B D : Nat} {w0 w : World} {v : Value} {l : List UInt8} (h : Bst B D w0 w v l) : w0.heap.size ≤ w.heap.size:=h.g.size
theorem Bst.cell {B D : Nat} {w0 w : World} {v : Value} {l : List UInt8} (h : Bst B D w0 w v l) {g o : Nat} {u : Value} (hc : w0.cell? ⟨g,o,none⟩ = some u) (hn : g ≠ B) : w.cell? ⟨g,o,none⟩ = some u:=by
 have hb:=h.kx.2.2.2.2 g (cell_lt hc) hn
 rw [← hc];unfold World.cell?;simp only [hb]
theorem Bst.keep {B D : Nat} {w0 w w' : World} {v : Value} {l : List UInt8} (h : Bst B D w0 w v l) (k : Keep w w') : Bst B D w0 w' v l:=⟨h.b.keep k,own_keep h.o k,h.g.keep k⟩
theorem Bst.of {B D : Nat} {w0 w w' : World} {v : Value} {l m : List UInt8} {n : Nat} {xs : List Value} (h : Bst B D w0 w v l) {e : Ending} (hx : Bxd B D v n xs w e w') (hn : n = (l ++ m).length) (he : xs = (l ++ m).map u8v) :
  e = .returned (.tuple #[])∧∃ v',Bst B D w0 w' v' (l ++ m)∧Gx B w v w' v':=by
 obtain ⟨h1,v',h2,h3,h4⟩:=hx
 exact ⟨h1,v',⟨h2,own_eq h3 hn he,h.g.trans h4⟩,h4⟩
theorem Bst.num {B D : Nat} {w0 w : World} {v : Value} {l : List UInt8} (h : Bst B D w0 w v l) (n m : Nat) (hBD : B < D) (hD : D ≤ w0.heap.size) (hl : l.length ≤ 1000000000) (hm : m ≤ 8) :
  Calls Tryd.prog 84 #[u64v n,iv m,.pointer (some ⟨B,0,none⟩)] w fun e w' => e = .returned (.tuple #[])∧∃ v',Bst B D w0 w' v' (l ++ loN n m)∧Gx B w v w' v' :=
 (tnum_any B D v _ _ n m w h.b h.o hBD (Nat.le_trans hD h.size) hl hm).mono fun e w' hx => h.of hx (by rw [List.length_append,lo_len]) (by rw [List.map_append])
theorem Bst.count {B D : Nat} {w0 w : World} {v : Value} {l : List UInt8} (h : Bst B D w0 w v l) (n : Nat) (hBD : B < D) (hD : D ≤ w0.heap.size) (hl : l.length ≤ 1000000000) (hn : n < 2 ^ 63) :
  Calls Tryd.prog 85 #[iv n,.pointer (some ⟨B,0,none⟩)] w fun e w' => e = .returned (.tuple #[])∧∃ v',Bst B D w0 w' v' (l ++ cptL n)∧Gx B w v w' v' :=
 (tcount_any B D v _ _ n w h.b h.o hBD (Nat.le_trans hD h.size) hl hn).mono fun e w' hx => h.of hx (by rw [List.length_append,cpt_len]) (by rw [List.map_append])
theorem Bst.script {B D F : Nat} {t : TypeId} {w0 w : World} {v : Value} {l : List UInt8} (h : Bst B D w0 w v l) (A : Option Addr) (s : List UInt8) (sc : Nat) (hF : Blk w0 F t [cntV B]) (hBD : B < D) (hFD : F < D) (hFB : F ≠ B) (hD : D ≤ w0.heap.size) (hl : l.length ≤ 1000000000) (hs : s.length ≤ 1000000)
  (hr : ∀ b off,A = some ⟨b,off,none⟩ → s ≠ [] → b < B) (hrd : Rd w0 A (s.map u8v)) :
  Calls Tryd.prog 86 #[.slice A s.length sc,.pointer (some ⟨F,0,none⟩),.pointer (some ⟨B,0,none⟩)] w fun e w' => e = .returned (.tuple #[])∧∃ v',Bst B D w0 w' v' (l ++ scL s)∧Gx B w v w' v':=by
 have hf : Blk w F t [cntV B]:=hF.kx h.kx hFB
 have hrx : RdX v.ownBlock w A (s.map u8v):=by
  rcases hrd with q | ⟨b,off,rfl,hc⟩
  ·exact .inl q
  ·by_cases hs0 : s = []
   ·exact .inl (by rw [hs0];rfl)
   have hb:=hr b off rfl hs0
   exact .inr ⟨b,off,rfl,fun e => by have:=(h.o.lt b e).1;omega,fun j hj => h.cell (hc j hj) (by omega)⟩
 exact (tscript_any B D F t v _ _ A s sc w h.b hf h.o hBD (Nat.le_trans hD h.size) hFB (fun e => by have:=(h.o.lt F e).1;omega) hl hs hrx (fun b off h1 h2 => by have:=hr b off h1 h2;omega)).mono fun e w' hx => h.of hx (by rw [List.length_append,scL_len];omega) (by rw [List.map_append (l₁:=l)];rfl)
set_option maxRecDepth 100000 in
set_option maxHeartbeats 8000000 in
theorem tput_any (t : TxR) (w : World) (h : t.at w) (hi : t.ins.length ≤ 1000000) (ho : t.outs.length ≤ 1000000) :
  Calls Tryd.prog 67 #[.agg #[u32v t.ver,.slice t.iA t.ins.length t.ic,.slice t.oA t.outs.length t.oc,u32v t.lock]] w fun e w' => ∃ v,e = .returned (.tuple #[v,iv (if saneT t = true then 0 else 3)])∧w'.ownsRow w.heap.size 5 1 v (if saneT t = true then txL t else []).length ((if saneT t = true then txL t else []).map u8v)∧Keep w w':=by
 have S1 : Hid (∀ y,Keep w y → Calls Tryd.prog 34 #[.agg #[u32v t.ver,.slice t.iA t.ins.length t.ic,.slice t.oA t.outs.length t.oc,u32v t.lock]] y fun e w' => e = .returned (.bool (saneT t))∧Keep y w'):=Lib.hid fun y hy => tsane_any t y (h.keep hy) hi ho
 have HSN : Hid (saneT t = true → t.ins.length ≤ 1000∧t.outs.length ≤ 1000∧(∀ x ∈ t.ins,x.sc.length ≤ 10000)∧∀ x ∈ t.outs,x.sc.length ≤ 10000):=Lib.hid fun q => by
  unfold saneT at q;rw [decide_eq_true_eq] at q;exact ⟨q.2.1,q.2.2.1,q.2.2.2.1,q.2.2.2.2⟩
 obtain ⟨R,hR⟩ : ∃ R,(if saneT t = true then txL t else []) = R:=⟨_,rfl⟩
 rw [hR]
 have HR:=Lib.hid hR
 have HP : Hid (∀ x ∈ t.ins,x.prev.length = 32):=Lib.hid fun x hx => (h.is x hx).p
 have HI : Hid (∀ k (h : k < t.ins.length),∃ (b off : Nat) (xs : Array Value) (x : InR),t.iA = some ⟨b,off,none⟩∧InA x xs∧x.at w∧w.rangeAt b (off + k * 35) xs.toList∧x ∈ t.ins∧t.ins.take (k + 1) = t.ins.take k ++ [x]):=Lib.hid fun k hk => by
  have hp:=(h.is _ (List.getElem_mem hk))
  obtain ⟨b,off,h1,-,h2⟩:=in_at h.i (fun x hx => (h.is x hx).p) hk
  have hA:=InA.of hp.p
  exact ⟨b,off,_,_,h1,hA,hp,by rw [hA.l];exact h2,List.getElem_mem hk,List.take_succ_eq_append_getElem hk⟩
 have HO : Hid (∀ k (h : k < t.outs.length),∃ (b off : Nat) (x : OutR),t.oA = some ⟨b,off,none⟩∧b < w.heap.size∧w.cell? ⟨b,off + k * 2,none⟩ = some (u64v x.val)∧w.cell? ⟨b,off + k * 2 + 1,none⟩ = some (.slice x.A x.sc.length x.cap)∧x.at w∧x ∈ t.outs∧t.outs.take (k + 1) = t.outs.take k ++ [x]):=Lib.hid fun k hk => by
  obtain ⟨b,off,h1,h0,h2,h3⟩:=out_at h.o hk
  exact ⟨b,off,_,h1,h0,h2,h3,h.os _ (List.getElem_mem hk),List.getElem_mem hk,List.take_succ_eq_append_getElem hk⟩
 clear h hR
 obtain ⟨S,hS⟩ : ∃ S,saneT t = S:=⟨_,rfl⟩
 rw [hS] at S1 HSN HR ⊢
 clear hS
 unfold txL at HR
 obtain ⟨ver,iA,ins,ic,oA,outs,oc,lock⟩:=t
 simp only at *
 obtain ⟨n,hn⟩ : ∃ n,ins.length = n:=⟨_,rfl⟩
 obtain ⟨m,hm⟩ : ∃ m,outs.length = m:=⟨_,rfl⟩
 rw [hn] at HI HR S1 HSN hi ⊢
 rw [hm] at HO HR S1 HSN ho ⊢
 have HNN:=Lib.hid hn;have HMM:=Lib.hid hm
 clear hn hm
 obtain ⟨zs,hz1,hz2,hz3,-⟩:=zin_letter
 go_enter Tryd.func67,Tryd.ntmps67
 go_upto_region 1 with fail
 obtain ⟨w1,hw1⟩ : ∃ w1,w1 = w.alloc (.cells #[u32v ver,.slice iA n ic,.slice oA m oc,u32v lock] 48):=⟨_,rfl⟩
 have HT1 : Hid (Blk w1 w.heap.size 48 [u32v ver,.slice iA n ic,.slice oA m oc,u32v lock]):=by rw [hw1];exact Lib.hid (Blk.new w 48 [u32v ver,.slice iA n ic,.slice oA m oc,u32v lock])
 have HK1 : Hid (Keep w w1):=by rw [hw1];exact Lib.hid (keep_new _ _)
 rw [← hw1]
 clear hw1
 obtain ⟨gt,hgt⟩ : ∃ g,w.heap.size = g:=⟨_,rfl⟩
 have HGT:=Lib.hid hgt
 rw [hgt] at HT1
 simp only [hgt]
 clear hgt
 have t0:=HT1.out.cell 0;have t1:=HT1.out.cell 1;have t2:=HT1.out.cell 2;have t3:=HT1.out.cell 3
 simp only [List.getElem?_cons_succ,List.getElem?_cons_zero] at t0 t1 t2 t3
 go_wp2_with fail
 refine (S1.out _ HK1.out).mono ?_
 clear S1
 rintro e w2 ⟨rfl,k2⟩
 have HT2:=Lib.hid (HT1.out.keep k2);have HK2:=Lib.hid (keep_trans HK1.out k2)
 clear k2 HT1 HK1 t0 t1 t2 t3
 cases S with
 | false =>
   have hv:=HR.out
   rw [if_neg (by simp)] at hv
   subst hv
   clear HR HI HO
   go_wp2
   exact bodyPost_ret (v:=.tuple #[.slice none 0 0,iv 3]) (by simp [results,Tryd.results67]) rfl ⟨_,by simp,World.ownsRow_nil _ _ _ _,HK2.out⟩
 | true =>
 have hv:=HR.out
 rw [if_pos rfl] at hv
 replace HR:=Lib.hid hv.symm
 clear hv
 obtain ⟨e1,e2,e3,e4⟩:=HSN.out rfl
 have E3:=Lib.hid e3;have E4:=Lib.hid e4
 clear e3 e4 HSN
 go_upto_region 4 with fail
 obtain ⟨w3,hw3⟩ : ∃ w3,w3 = w2.alloc (.cells #[.slice none 0 0] 26):=⟨_,rfl⟩
 have HB3 : Hid (Blk w3 w2.heap.size 26 [.slice none 0 0]):=by rw [hw3];exact Lib.hid (Blk.new w2 26 [.slice none 0 0])
 have HT3 : Hid (Blk w3 gt 48 [u32v ver,.slice iA n ic,.slice oA m oc,u32v lock]):=by rw [hw3];exact Lib.hid (HT2.out.alloc _)
 have HK3 : Hid (Keep w w3):=by rw [hw3];exact Lib.hid (keep_trans HK2.out (keep_new _ _))
 have hs3 : w2.heap.size < w3.heap.size:=by rw [hw3];simp
 have hltB:=HT2.out.lt
 rw [← hw3]
 clear hw3 HT2
 obtain ⟨B,hB⟩ : ∃ B,w2.heap.size = B:=⟨_,rfl⟩
 rw [hB] at HB3 hs3 hltB
 simp only [hB]
 have hwB : w.heap.size ≤ B:=by have:=HK2.out.size;omega
 clear hB HK2
 have hstF:=run_store_new1 (P:=Tryd.prog) w3 180 Value.nilFunc (cntV B) rfl
 unfold cntV at hstF
 go_upto_region 6 with fail
 obtain ⟨w4,hw4⟩ : ∃ w4,w4 = w3.alloc (.cells #[.func (.func 85) #[] #[.pointer (some ⟨B,0,none⟩)]] 180):=⟨_,rfl⟩
 have HF4 : Hid (Blk w4 w3.heap.size 180 [cntV B]):=by rw [hw4];exact Lib.hid (Blk.new w3 180 [cntV B])
 have HB4 : Hid (Blk w4 B 26 [.slice none 0 0]):=by rw [hw4];exact Lib.hid (HB3.out.alloc _)
 have HT4 : Hid (Blk w4 gt 48 [u32v ver,.slice iA n ic,.slice oA m oc,u32v lock]):=by rw [hw4];exact Lib.hid (HT3.out.alloc _)
 have HK4 : Hid (Keep w w4):=by rw [hw4];exact Lib.hid (keep_trans HK3.out (keep_new _ _))
 rw [← hw4]
 clear hw4 hstF HB3 HT3 HK3
 have hsF : w3.heap.size < w4.heap.size:=HF4.out.lt
 obtain ⟨F,hF⟩ : ∃ F,w3.heap.size = F:=⟨_,rfl⟩
 rw [hF] at HF4 hs3 hsF
 simp only [hF]
 clear hF
 have St0 : Hid (Bst B (F + 1) w4 w4 (.slice none 0 0) []):=Lib.hid ⟨HB4.out,World.ownsRow_nil _ _ _ _,Gx.refl _ _ _⟩
 clear HB4
 have hBD : B < F + 1:=by omega
 have hgB : gt ≠ B:=by omega
 have hFB : F ≠ B:=by omega
 have hwv : IntKind.u64.wrap (ver.toNat : Int) = ver.toNat:=by rw [IntKind.wrap_u64];have:=ver.toNat_lt;omega
 have hwl : IntKind.u64.wrap (lock.toNat : Int) = lock.toNat:=by rw [IntKind.wrap_u64];have:=lock.toNat_lt;omega
 have t0:=HT4.out.cell 0
 try simp only [List.getElem?_cons_succ,List.getElem?_cons_zero] at t0
 go_upto_region 8 with (go_at_call 84;refine (St0.out.num ver.toNat 4 hBD hsF (by simp) (by omega)).mono ?_;rintro e w5 ⟨rfl,v5,st5,-⟩)
 have St5:=Lib.hid st5
 have t1:=st5.cell (HT4.out.cell 1) hgB;have cf:=st5.cell (HF4.out.cell 0) hFB
 try simp only [List.getElem?_cons_succ,List.getElem?_cons_zero] at t1
 unfold cntV at cf
 try simp only [List.getElem?_cons_zero] at cf
 clear st5 St0 hwv t0
 have h13 : (([] : List UInt8) ++ loN ver.toNat 4).length ≤ 1000000000:=by simp [lo_len]
 go_upto_region 9 with (go_at_call 85;refine (St5.out.count n hBD hsF h13 (by omega)).mono ?_;rintro e w6 ⟨rfl,v6,st6,-⟩)
 obtain ⟨L1,hL1⟩ : ∃ l,([] : List UInt8) ++ loN ver.toNat 4 ++ cptL n = l:=⟨_,rfl⟩
 rw [hL1] at st6
 have hll1 : L1.length ≤ 13:=by rw [← hL1];have:=siz_le n;simp [lo_len,cpt_len];omega
 have HL1:=Lib.hid hL1
 have t1:=st6.cell (HT4.out.cell 1) hgB
 try simp only [List.getElem?_cons_succ,List.getElem?_cons_zero] at t1
 have St6 : Hid (Bst B (F + 1) w4 w6 v6 (L1 ++ (ins.take 0).flatMap inL)):=Lib.hid (by simpa using st6)
 have HLB : Hid (∀ k,((ins.take k).flatMap inL).length ≤ 10100000):=Lib.hid fun k => by
  have:=fm_le inL 10100 (ins.take k) fun x hx => inL_le (HP.out x (List.mem_of_mem_take hx)) (E3.out x (List.mem_of_mem_take hx))
  have h2 : (ins.take k).length ≤ 1000:=by rw [List.length_take,HNN.out];omega
  have h3 : (ins.take k).length * 10100 ≤ 1000 * 10100:=Nat.mul_le_mul_right _ h2
  omega
 clear hL1 st6 St5 h13 cf
 go_upto_region 10 with fail
 clear t1
 go_loopw [31] (fun x wr => ∃ (k : Nat) (v : Value),k ≤ n∧x = .int .i64 k∧Hid (Bst B (F + 1) w4 wr v (L1 ++ (ins.take k).flatMap inL))) (fun x _ => n - (intOf x).toNat)
 case atStart => exact ⟨0,v6,Nat.zero_le _,rfl,St6⟩
 case round =>
  obtain ⟨k,v,hk,rfl,St⟩:=hrel
  by_cases hlt : k < n
  ·obtain ⟨b,off,xs,x,rfl,hxs,hx,hrg,hmem,htk⟩:=HI.out k hlt
   have hxz:=hxs.z;have hxn:=hxs.n;have hxi:=hxs.i
   have HX:=Lib.hid hx;have HXS:=Lib.hid hxs;have HTK:=Lib.hid htk;have HME:=Lib.hid hmem
   have hbw : b < B:=by have:=cell_lt (hrg 0 (xs.toList[0]'(by rw [Array.length_toList,hxz];omega)) (List.getElem?_eq_getElem (by rw [Array.length_toList,hxz];omega)));omega
   have RX : Hid (wr.rangeAt b (off + k * 35) xs.toList):=Lib.hid fun j v hv => St.out.cell (keep_cell HK4.out (hrg j v hv)) (by omega)
   have hst : (storeCells ⟨wr.heap.size,0,none⟩ xs.toList 0).run Tryd.prog (wr.alloc (.cells zs 127)) = .ok () (wr.alloc (.cells xs 127)):=run_storeCells_new (P:=Tryd.prog) wr 127 zs xs hxi (hz1.trans hxz.symm) (by have:=all_oneCell_toArray hxs.o;rwa [Array.toArray_toList] at this)
   have d4 : (k : Int) < n:=by omega
   have hlk:=HLB.out k
   have HLK : Hid ((L1 ++ (ins.take k).flatMap inL).length ≤ 10100013):=Lib.hid (by rw [List.length_append];omega)
   clear hx hxs htk hmem hrg HI HO hlk HLB
   obtain ⟨L2,hL2⟩ : ∃ l,L1 ++ (ins.take k).flatMap inL = l:=⟨_,rfl⟩
   rw [hL2] at St HLK
   have HL2:=Lib.hid hL2
   clear hL2
   go_upto_region 12 with ((with_reducible refine load_partg b (off + k * 35) xs (Eq.trans ?_ rfl) RX.out _ Tryd.underlying127 rfl hxi rfl ?_);rfl)
   obtain ⟨w7,hw7⟩ : ∃ w7,w7 = wr.alloc (.cells xs 127):=⟨_,rfl⟩
   have HG7 : Hid (Blk w7 wr.heap.size 127 xs.toList):=by rw [hw7];exact Lib.hid (Blk.new wr 127 xs.toList)
   have St7 : Hid (Bst B (F + 1) w4 w7 v L2):=by rw [hw7];exact Lib.hid (St.out.keep (keep_new _ _))
   have hvg : v.ownBlock ≠ some wr.heap.size:=own_ne St.out.o (Nat.le_refl _)
   have hgB2 : wr.heap.size ≠ B:=by have:=St.out.size;omega
   rw [← hw7]
   clear hw7 hst RX St hxz hxn hxi
   generalize wr.heap.size = gi at *
   obtain ⟨Av,cv,rfl,-,-,-⟩:=own_form St7.out.o
   letI iM : G.Mk:=⟨(Value.slice Av L2.length cv).ownBlock⟩
   refine G.wp_region_tree (.take [0,1,2] (.force [3] .done)) [4] (by kernel_rfl) (by kernel_rfl) (fun w8 k8 => ?_)
   have St8:=Lib.hid (St7.out.keep k8);have HG8:=Lib.hid (HG7.out.keep k8)
   clear k8 St7 HG7
   have hneB : G.Mk.m ≠ some B:=fun q => by have:=(St8.out.o.lt B q).1;omega
   have b1:=G.aftG_cell (St8.out.b.cell 0) hneB
   have HRP : Hid (Rd w8 (some ⟨gi,0,none⟩) (x.prev.map u8v)):=Lib.hid (by
    have q:=HG8.out.rd.take 32
    rw [HXS.out.l] at q
    unfold InR.cells at q
    rwa [List.take_append_of_le_length (by simp [HX.out.p]),List.take_of_length_le (by simp [HX.out.p])] at q)
   refine G.mt_take w8 (G.Gr.refl _) ?_
   simp only [pick_cons,pick_nil,nth_zero,nth_succ]
   repeat (go_big_quiet_step (fail))
   refine wpQuiet_nil (G.mt_force ?_)
   clear b1 hneB
   simp only [pick_cons,pick_nil,nth_zero,nth_succ]
   refine G.fc_step rfl (fun K hK => ?_)
   refine wp_app byteT _ _ (by rfl) (F + 1) _ L2.length _ (by rfl) St8.out.o _ 32 32 (x.prev.map u8v) (by rfl) (by rw [List.length_map,HX.out.p]) HRP.out (one_bytes _) (by have:=HLK.out;omega) (by have:=HLK.out;unfold maxLen;omega) (by have:=St8.out.size;omega) ?_
   intro v' w10 own10 hg10 hat10
   refine hK _ _ hg10 ?_
   clear hK K HRP
   simp only [Act.put,Array.set!_eq_setIfInBounds,List.setIfInBounds_toArray,List.set_cons_succ,List.set_cons_zero]
   have HB10:=Lib.hid (St8.out.b.grown hg10 (fun q => by have:=(St8.out.o.lt B q).1;omega))
   have hgr : Gr w8 (.slice Av L2.length cv) w10 v':=⟨hg10,hat10.imp id fun e => ⟨_,e,Nat.le_refl _⟩⟩
   have Gx10:=Lib.hid (St8.out.g.trans (Gx.of_gr hgr))
   obtain ⟨hg1,hvg2⟩:=HG8.out.gr hgr hvg
   have HG10:=Lib.hid hg1;have HVG:=Lib.hid hvg2
   have Own10:=Lib.hid own10
   clear own10 hg10 hat10 St8 HG8 hgr hg1 hvg2 hvg
   refine G.fc_nil (G.mt_end ?_)
   clear iM
   have f1 : w10.frozen? ⟨B,0,none⟩ = false:=HB10.out.frozen 0
   have c1 : w10.cell? ⟨B,0,none⟩ = some (.slice Av L2.length cv):=HB10.out.cell 0
   obtain ⟨Aw,cw,rfl,-,-,-⟩:=own_form Own10.out
   go_upto_region 13 with fail
   clear f1 c1
   obtain ⟨w11,hw11⟩ : ∃ w11,w11 = w10.setCell ⟨B,0,none⟩ (.slice Aw (L2.length + 32) cw):=⟨_,rfl⟩
   have St11 : Hid (Bst B (F + 1) w4 w11 (.slice Aw (L2.length + 32) cw) (L2 ++ x.prev)):=by
    rw [hw11]
    exact Lib.hid ⟨HB10.out.set_ 0 _,own_eq (ownsRow_setCell_below Own10.out (a:=⟨B,0,none⟩) hBD _) (by rw [List.length_append,HX.out.p]) (by rw [List.map_append]),Gx10.out.set 0 _⟩
   have HG11 : Hid (Blk w11 gi 127 xs.toList):=by rw [hw11];exact Lib.hid (HG10.out.far hgB2 _)
   rw [← hw11]
   clear hw11 HB10 Own10 Gx10 HG10
   have X32 : Hid (xs.toList[32]? = some (u32v x.ix)∧xs.toList[33]? = some (.slice x.A x.sc.length x.cap)∧xs.toList[34]? = some (u32v x.seq)):=Lib.hid (by
    rw [HXS.out.l];unfold InR.cells
    have hp:=HX.out.p
    refine ⟨?_,?_,?_⟩ <;> (rw [List.getElem?_append_right (by simp [hp])];simp [hp]))
   have hwi : IntKind.u64.wrap (x.ix.toNat : Int) = x.ix.toNat:=by rw [IntKind.wrap_u64];have:=x.ix.toNat_lt;omega
   have hws : IntKind.u64.wrap (x.seq.toNat : Int) = x.seq.toNat:=by rw [IntKind.wrap_u64];have:=x.seq.toNat_lt;omega
   have g32:=(HG11.out.cell 32).trans X32.out.1
   go_upto_region 14 with (go_at_call 84;refine (St11.out.num x.ix.toNat 4 hBD hsF (by have:=HLK.out;rw [List.length_append,HX.out.p];omega) (by omega)).mono ?_;rintro e w12 ⟨rfl,v12,st12,gx12⟩)
   have St12:=Lib.hid st12
   obtain ⟨hg1,hvg2⟩:=HG11.out.gx gx12 hgB2 HVG.out
   have HG12:=Lib.hid hg1;have HVG12:=Lib.hid hvg2
   clear st12 gx12 hg1 hvg2 g32 hwi St11 HG11 HVG
   have g33:=(HG12.out.cell 33).trans X32.out.2.1
   go_upto_region 15 with (go_at_call 86;refine (St12.out.script x.A x.sc x.cap HF4.out hBD (Nat.lt_succ_self F) hFB hsF (by have:=HLK.out;rw [List.length_append,List.length_append,HX.out.p,lo_len];omega) (by have:=E3.out x HME.out;omega) (fun b off h1 h2 => by have:=rd_lt HX.out.r h1 (fun q => h2 (by simpa using q));omega) (HX.out.r.keep HK4.out)).mono ?_;rintro e w13 ⟨rfl,v13,st13,gx13⟩)
   have St13:=Lib.hid st13
   obtain ⟨hg1,hvg2⟩:=HG12.out.gx gx13 hgB2 HVG12.out
   have HG13:=Lib.hid hg1
   clear st13 gx13 hg1 hvg2 g33 St12 HG12 HVG12
   have g34:=(HG13.out.cell 34).trans X32.out.2.2
   go_upto_region 16 with (go_at_call 84;refine (St13.out.num x.seq.toNat 4 hBD hsF (by have:=HLK.out;have:=E3.out x HME.out;have:=siz_le x.sc.length;rw [List.length_append,List.length_append,List.length_append,HX.out.p,lo_len,scL_len];omega) (by omega)).mono ?_;rintro e w14 ⟨rfl,v14,st14,-⟩)
   have St14 : Hid (Bst B (F + 1) w4 w14 v14 (L1 ++ (ins.take (k + 1)).flatMap inL)):=Lib.hid (by
    have e : L1 ++ (ins.take (k + 1)).flatMap inL = L2 ++ x.prev ++ loN x.ix.toNat 4 ++ scL x.sc ++ loN x.seq.toNat 4:=by
     rw [HTK.out,List.flatMap_append,← List.append_assoc,HL2.out];simp [inL]
    rw [e];exact st14)
   clear st14 g34 St13 HG13 X32 hws
   go_wp2
   go_roundw
   case rel => exact ⟨k + 1,v14,by omega,by go_num,St14⟩
   case measure => simp [intOf];omega
  ·obtain rfl : k = n:=by omega
   have d4 : ¬ (k : Int) < k:=by omega
   have hlk:=HLB.out k
   have hLN : (L1 ++ (ins.take k).flatMap inL).length ≤ 10100013:=by rw [List.length_append];omega
   obtain ⟨L2,hL2⟩ : ∃ l,L1 ++ (ins.take k).flatMap inL = l:=⟨_,rfl⟩
   rw [hL2] at St hLN
   rw [List.take_of_length_le (by rw [HNN.out];omega)] at hL2
   have HL2:=Lib.hid hL2
   have HOB : Hid (∀ j,((outs.take j).flatMap outL).length ≤ 10100000):=Lib.hid fun j => by
    have:=fm_le outL 10100 (outs.take j) fun x hx => outL_le (E4.out x (List.mem_of_mem_take hx))
    have h2 : (outs.take j).length ≤ 1000:=by rw [List.length_take,HMM.out];omega
    have h3 : (outs.take j).length * 10100 ≤ 1000 * 10100:=Nat.mul_le_mul_right _ h2
    omega
   have t2:=St.out.cell (HT4.out.cell 2) hgB;have cf:=St.out.cell (HF4.out.cell 0) hFB
   try simp only [List.getElem?_cons_succ,List.getElem?_cons_zero] at t2
   unfold cntV at cf
   try simp only [List.getElem?_cons_zero] at cf
   clear hL2 hlk HLB HI HP
   go_upto_region 18 with (go_at_call 85;refine (St.out.count m hBD hsF (by omega) (by omega)).mono ?_;rintro e w15 ⟨rfl,v15,st15,-⟩)
   obtain ⟨L3,hL3⟩ : ∃ l,L2 ++ cptL m = l:=⟨_,rfl⟩
   rw [hL3] at st15
   have hll3 : L3.length ≤ 10100030:=by rw [← hL3];have:=siz_le m;rw [List.length_append,cpt_len];omega
   have HL3:=Lib.hid hL3
   have t2:=st15.cell (HT4.out.cell 2) hgB
   try simp only [List.getElem?_cons_succ,List.getElem?_cons_zero] at t2
   have St15 : Hid (Bst B (F + 1) w4 w15 v15 (L3 ++ (outs.take 0).flatMap outL)):=Lib.hid (by simpa using st15)
   clear hL3 st15 St cf d4 hLN
   go_upto_region 19 with fail
   clear t2
   go_loopw [62] (fun x wr => ∃ (j : Nat) (v : Value),j ≤ m∧x = .int .i64 j∧Hid (Bst B (F + 1) w4 wr v (L3 ++ (outs.take j).flatMap outL))) (fun x _ => m - (intOf x).toNat)
   case atStart => exact ⟨0,v15,Nat.zero_le _,rfl,St15⟩
   case round =>
    obtain ⟨j,v,hj,rfl,St⟩:=hrel
    by_cases hlt2 : j < m
    ·obtain ⟨b,off,x,rfl,hbw,c0,c1,hx,hmem,htk⟩:=HO.out j hlt2
     have HX:=Lib.hid hx;have HTK:=Lib.hid htk;have HME:=Lib.hid hmem
     have c0:=St.out.cell (keep_cell HK4.out c0) (by omega);have c1:=St.out.cell (keep_cell HK4.out c1) (by omega)
     have d4 : (j : Int) < m:=by omega
     have hlk:=HOB.out j
     have HLK : Hid ((L3 ++ (outs.take j).flatMap outL).length ≤ 20200030):=Lib.hid (by rw [List.length_append];omega)
     clear hx htk hmem HO hlk HOB
     obtain ⟨L4,hL4⟩ : ∃ l,L3 ++ (outs.take j).flatMap outL = l:=⟨_,rfl⟩
     rw [hL4] at St HLK
     have HL4:=Lib.hid hL4
     clear hL4
     go_upto_region 21 with fail
     obtain ⟨w7,hw7⟩ : ∃ w7,w7 = wr.alloc (.cells #[u64v x.val,.slice x.A x.sc.length x.cap] 128):=⟨_,rfl⟩
     have HG7 : Hid (Blk w7 wr.heap.size 128 [u64v x.val,.slice x.A x.sc.length x.cap]):=by rw [hw7];exact Lib.hid (Blk.new wr 128 [u64v x.val,.slice x.A x.sc.length x.cap])
     have St7 : Hid (Bst B (F + 1) w4 w7 v L4):=by rw [hw7];exact Lib.hid (St.out.keep (keep_new _ _))
     have hvg : v.ownBlock ≠ some wr.heap.size:=own_ne St.out.o (Nat.le_refl _)
     have hgB2 : wr.heap.size ≠ B:=by have:=St.out.size;omega
     rw [← hw7]
     clear hw7 St c0 c1
     generalize wr.heap.size = gi at *
     have g0:=HG7.out.cell 0
     try simp only [List.getElem?_cons_succ,List.getElem?_cons_zero] at g0
     go_upto_region 22 with (go_at_call 84;refine (St7.out.num x.val 8 hBD hsF (by have:=HLK.out;omega) (by omega)).mono ?_;rintro e w12 ⟨rfl,v12,st12,gx12⟩)
     have St12:=Lib.hid st12
     obtain ⟨hg1,hvg2⟩:=HG7.out.gx gx12 hgB2 hvg
     have g1:=hg1.cell 1
     try simp only [List.getElem?_cons_succ,List.getElem?_cons_zero] at g1
     clear st12 gx12 hg1 hvg2 g0 St7 HG7 hvg
     go_upto_region 23 with (go_at_call 86;refine (St12.out.script x.A x.sc x.cap HF4.out hBD (Nat.lt_succ_self F) hFB hsF (by have:=HLK.out;rw [List.length_append,lo_len];omega) (by have:=E4.out x HME.out;omega) (fun b off h1 h2 => by have:=rd_lt HX.out.r h1 (fun q => h2 (by simpa using q));omega) (HX.out.r.keep HK4.out)).mono ?_;rintro e w13 ⟨rfl,v13,st13,-⟩)
     have St14 : Hid (Bst B (F + 1) w4 w13 v13 (L3 ++ (outs.take (j + 1)).flatMap outL)):=Lib.hid (by
      have e : L3 ++ (outs.take (j + 1)).flatMap outL = L4 ++ loN x.val 8 ++ scL x.sc:=by
       rw [HTK.out,List.flatMap_append,← List.append_assoc,HL4.out];simp [outL]
      rw [e];exact st13)
     clear st13 g1 St12
     go_wp2
     go_roundw
     case rel => exact ⟨j + 1,v13,by omega,by go_num,St14⟩
     case measure => simp [intOf];omega
    ·obtain rfl : j = m:=by omega
     have d4 : ¬ (j : Int) < j:=by omega
     have hlk:=HOB.out j
     rw [List.take_of_length_le (by rw [HMM.out];omega)] at St hlk
     have hLN : (L3 ++ outs.flatMap outL).length ≤ 20200030:=by rw [List.length_append];omega
     obtain ⟨L5,hL5⟩ : ∃ l,L3 ++ outs.flatMap outL = l:=⟨_,rfl⟩
     rw [hL5] at St hLN
     have HL5:=Lib.hid hL5
     have t3:=St.out.cell (HT4.out.cell 3) hgB
     try simp only [List.getElem?_cons_succ,List.getElem?_cons_zero] at t3
     clear hL5 hlk HOB HO
     go_upto_region 25 with (go_at_call 84;refine (St.out.num lock.toNat 4 hBD hsF (by omega) (by omega)).mono ?_;rintro e w16 ⟨rfl,v16,st16,-⟩)
     have St16:=Lib.hid st16
     have b0:=st16.b.cell 0
     try simp only [List.getElem?_cons_zero] at b0
     clear st16 St t3
     have HV : Hid (R = L5 ++ loN lock.toNat 4):=Lib.hid (by rw [HR.out,← HL5.out,← HL3.out,← HL2.out,← HL1.out];simp)
     have hv:=HV.out
     subst hv
     obtain ⟨Az,cz,hvz,-,-,-⟩:=own_form St16.out.o
     have HVZ:=Lib.hid hvz
     clear hvz
     go_wp2
     exact bodyPost_ret (v:=.tuple #[v16,iv 0]) (by simp [results,Tryd.results67]) rfl ⟨_,by simp,own_base (own_eq St16.out.o (by first | rfl | simp) (by first | rfl | simp)) (by omega),St16.out.kx.keep HK4.out (fun j q => by omega)⟩
end Go.Proofs.YtffpanlpbdnafaaDoor
/- Bytes that are read: tx.source. (printed by gen_vm.py) -/
set_option linter.unusedSimpArgs false
set_option linter.unusedVariables false
namespace Go.Proofs.YtffpanlpbdnafaaDoor
open Go.RowKit
attribute [local go_sem ↓] Go.wp_at_zero Go.wp_at_succ
abbrev SP:=Nat × Int
def tkP (b : List UInt8) (m : Nat) (p : SP) : SP:=if p.2 = 0 then if p.1 + m ≤ b.length then (p.1 + m,0) else (p.1,1) else p
def tkB (b : List UInt8) (m : Nat) (p : SP) : List UInt8:=if p.2 = 0∧p.1 + m ≤ b.length then (b.drop p.1).take m else []
def nmV (b : List UInt8) (m : Nat) (p : SP) : Nat:=numN (tkB b m p) (tkB b m p).length
def ctP (b : List UInt8) (most : Nat) (p : SP) : SP:=if p.2 = 0 then (p.1 + (bndN (b.drop p.1) most).2.1,(bndN (b.drop p.1) most).2.2) else p
def ctV (b : List UInt8) (most : Nat) (p : SP) : Nat:=if p.2 = 0 then (bndN (b.drop p.1) most).1 else 0
def scP (b : List UInt8) (p : SP) : SP:=if p.2 = 0 then (p.1 + (bytN (b.drop p.1) 10000).2.1,(bytN (b.drop p.1) 10000).2.2) else p
def scV (b : List UInt8) (p : SP) : List UInt8:=if p.2 = 0 then (bytN (b.drop p.1) 10000).1 else []
theorem tkP_le {b : List UInt8} {m : Nat} {p : SP} (h : p.1 ≤ b.length) : (tkP b m p).1 ≤ b.length:=by
 unfold tkP;split
 ·split
  ·assumption
  ·exact h
 ·exact h
theorem bnd_le (b : List UInt8) (most : Nat) : (bndN b most).2.1 ≤ b.length∧(bndN b most).1 ≤ most:=by
 by_cases h : (bndN b most).2.2 = 0
 ·obtain ⟨h1,-,h2,-⟩:=bnd_rng b most h
  exact ⟨h2,h1⟩
 ·unfold bndN at h ⊢
  split
  ·rename_i h0
   rw [if_pos h0] at h
   split
   ·simp
   ·rename_i h1;rw [if_neg h1] at h;exact absurd h0 h
  ·simp
theorem ctP_le {b : List UInt8} {m : Nat} {p : SP} (h : p.1 ≤ b.length) : (ctP b m p).1 ≤ b.length:=by
 unfold ctP;split
 ·have:=(bnd_le (b.drop p.1) m).1
  rw [List.length_drop] at this
  show p.1 + _ ≤ _
  omega
 ·exact h
theorem byt_le (b : List UInt8) (most : Nat) : (bytN b most).2.1 ≤ b.length∧(bytN b most).1.length ≤ most:=by
 unfold bytN
 split
 ·rename_i h
  obtain ⟨h1,-,h2,-⟩:=bnd_rng b most h
  split
  ·simp
  ·rename_i h3
   refine ⟨?_,?_⟩
   ·show _ + _ ≤ _;omega
   ·show (List.take _ _).length ≤ _;rw [List.length_take];omega
 ·simp
theorem scP_le {b : List UInt8} {p : SP} (h : p.1 ≤ b.length) : (scP b p).1 ≤ b.length:=by
 unfold scP;split
 ·have:=(byt_le (b.drop p.1) 10000).1
  rw [List.length_drop] at this
  show p.1 + _ ≤ _
  omega
 ·exact h
theorem scV_le (b : List UInt8) (p : SP) : (scV b p).length ≤ 10000:=by
 unfold scV;split
 ·exact (byt_le _ _).2
 ·simp
theorem tkB_len (b : List UInt8) (m : Nat) (p : SP) : (tkB b m p).length = m ∨ tkB b m p = []:=by
 unfold tkB;split
 ·left;rename_i h;rw [List.length_take,List.length_drop];omega
 ·exact .inr rfl
theorem ctV_le (b : List UInt8) (m : Nat) (p : SP) : ctV b m p ≤ m:=by
 unfold ctV;split
 ·exact (bnd_le _ _).2
 ·omega
abbrev KeepB (S : Nat) (w w' : World) : Prop:=KeepX (fun k => k = S) w w'
theorem KeepB.set {S : Nat} {w w' : World} (h : KeepB S w w') (o : Nat) (x : Value) : KeepB S w (w'.setCell ⟨S,o,none⟩ x) :=
 h.grown (row:=some S) ⟨rfl,rfl,rfl,by simp,fun k hk hne => Below.heap_setCell w' ⟨S,o,none⟩ x k (fun e => hne (by rw [e]))⟩ fun j hj q => (Option.some.inj q).symm
abbrev srcL (A : Option Addr) (L c : Nat) (p : SP) : List Value:=[.slice A L c,iv p.1,iv p.2]
def Tkd (S : Nat) (t : TypeId) (src : List Value) (T : List UInt8) (w : World) (e : Ending) (w' : World) : Prop:=∃ A' c',e = .returned (.slice A' T.length c')∧RdX (some S) w' A' (T.map u8v)∧Blk w' S t src∧KeepB S w w'
theorem RdX.kb {S : Nat} {w w' : World} {A : Option Addr} {xs : List Value} (h : RdX (some S) w A xs) (k : KeepB S w w') : RdX (some S) w' A xs :=
 h.imp id fun ⟨g,off,h1,h2,h3⟩ => ⟨g,off,h1,h2,fun j hj => by
  have hb:=k.2.2.2.2 g (cell_lt (h3 j hj)) (fun e => h2 (by rw [e]))
  rw [← h3 j hj];unfold World.cell?;simp only [hb]⟩
theorem RdX.cut {S : Nat} {w : World} {g off : Nat} {b : List UInt8} (h : RdX (some S) w (some ⟨g,off,none⟩) (b.map u8v)) (a m : Nat) (ha : a ≤ b.length) : RdX (some S) w (some ⟨g,off + a,none⟩) (((b.drop a).take m).map u8v):=by
 rcases h with h | ⟨g',off',h1,h2,h3⟩
 ·have : b = []:=by simpa using h
  exact .inl (by rw [this];simp)
 ·cases h1
  have q:=((show Rd w (some ⟨g,off,none⟩) (b.map u8v) from .inr ⟨g,off,rfl,h3⟩).dropN (k:=a) (by rw [List.length_map];exact ha)).take m
  rw [Option.map_some,add_lit0,← List.map_drop,← List.map_take] at q
  rcases q with q | ⟨g2,o2,q1,q2⟩
  ·exact .inl q
  ·cases q1;exact .inr ⟨g,off + a,rfl,h2,q2⟩
set_option maxRecDepth 100000 in
set_option maxHeartbeats 4000000 in
theorem stake_any (S : Nat) (t : TypeId) (A : Option Addr) (b : List UInt8) (c m : Nat) (p : SP) (w : World) (hb : Blk w S t (srcL A b.length c p)) (hp : p.1 ≤ b.length) (hc : b.length ≤ c) (hl : b.length ≤ 1000000000) (hcm : c ≤ maxLen) (hm : m ≤ 1000) (hm0 : 0 < m) (hr : RdX (some S) w A (b.map u8v)) :
  Calls Tryd.prog 90 #[.pointer (some ⟨S,0,none⟩),iv m] w (Tkd S t (srcL A b.length c (tkP b m p)) (tkB b m p) w):=by
 obtain ⟨a,e0⟩:=p
 have HB:=Lib.hid hb;have HR:=Lib.hid hr
 obtain ⟨L,hL⟩ : ∃ L,b.length = L:=⟨_,rfl⟩
 have HT : Hid (tkP b m (a,e0) = if e0 = 0 then if a + m ≤ L then (a + m,0) else (a,1) else (a,e0)):=Lib.hid (by rw [← hL];rfl)
 have HTB : Hid (tkB b m (a,e0) = if e0 = 0∧a + m ≤ L then (b.drop a).take m else []):=Lib.hid (by rw [← hL];rfl)
 have HLL:=Lib.hid hL
 unfold srcL at *
 rw [hL] at HB hc hl hp ⊢
 simp only at HB hp
 generalize tkP b m (a,e0) = P at *
 generalize tkB b m (a,e0) = T at *
 clear hb hr hL
 unfold maxLen at hcm
 have hw1 : IntKind.i64.wrap ((L : Int) - a) = (L : Int) - a:=IntWalk.i64_in _ (by omega)
 have KB : Hid (KeepB S w w):=Lib.hid (KeepX.of (Below.refl _ _))
 go_enter Tryd.func90,Tryd.ntmps90
 by_cases h0 : e0 = 0
 case neg =>
  have d1 : (e0 == 0) = false:=by rw [beq_eq_false_iff_ne];exact h0
  have d2 : (e0 != 0) = true:=by rw [bne_iff_ne];exact h0
  have hv:=HT.out;have hv2:=HTB.out
  rw [if_neg h0] at hv
  rw [if_neg (fun q => h0 q.1)] at hv2
  subst hv;subst hv2
  clear HT HTB
  go_upto_region 1 with fail
  refine wp_region_tree (.take [0,1,2,3,4,5,6,7,8,9,10,11,12,13,14,15,16,17,18] .done) [] (by kernel_rfl) (by kernel_rfl) (fun w3 k3 => ?_)
  have HB3:=Lib.hid (HB.out.keep k3);have KB3 : Hid (KeepB S w w3):=Lib.hid (KB.out.trans (KeepX.of k3) (fun _ _ q => q))
  clear k3 HB KB
  have a0:=aft_cell (HB3.out.cell 0);have a1:=aft_cell (HB3.out.cell 1);have a2:=aft_cell (HB3.out.cell 2)
  try simp only [List.getElem?_cons_succ,List.getElem?_cons_zero] at  a0 a1 a2
  refine mt_take w3 (Below.refl _ _) ?_
  simp only [pick_cons,pick_nil,nth_zero,nth_succ]
  repeat (go_big_quiet_step (fail))
  refine wpQuiet_nil (mt_end ?_)
  clear a0 a1 a2
  have c0:=HB3.out.cell 0;have c1:=HB3.out.cell 1;have c2:=HB3.out.cell 2
  have f1:=HB3.out.frozen 1;have f2:=HB3.out.frozen 2
  try simp only [List.getElem?_cons_succ,List.getElem?_cons_zero] at  c0 c1 c2
  go_wp2
  exact bodyPost_ret (v:=.slice none 0 0) (by simp [results,Tryd.results90]) rfl ⟨none,0,rfl,.inl rfl,HB3.out,KB3.out⟩
 subst h0
 by_cases hlt : a + m ≤ L
 case neg =>
  have d3 : (L : Int) - a < m:=by omega
  have hv:=HT.out;have hv2:=HTB.out
  rw [if_pos rfl,if_neg hlt] at hv
  rw [if_neg (fun q => hlt q.2)] at hv2
  subst hv;subst hv2
  clear HT HTB
  go_upto_region 1 with fail
  refine wp_region_tree (.take [0,1,2,3,4,5,6,7,8,9,10,11,12,13,14,15,16,17,18] .done) [] (by kernel_rfl) (by kernel_rfl) (fun w3 k3 => ?_)
  have HB3:=Lib.hid (HB.out.keep k3);have KB3 : Hid (KeepB S w w3):=Lib.hid (KB.out.trans (KeepX.of k3) (fun _ _ q => q))
  clear k3 HB KB
  have a0:=aft_cell (HB3.out.cell 0);have a1:=aft_cell (HB3.out.cell 1);have a2:=aft_cell (HB3.out.cell 2)
  try simp only [List.getElem?_cons_succ,List.getElem?_cons_zero] at  a0 a1 a2
  refine mt_take w3 (Below.refl _ _) ?_
  simp only [pick_cons,pick_nil,nth_zero,nth_succ]
  repeat (go_big_quiet_step (fail))
  refine wpQuiet_nil (mt_end ?_)
  clear a0 a1 a2
  have c0:=HB3.out.cell 0;have c1:=HB3.out.cell 1;have c2:=HB3.out.cell 2
  have f1:=HB3.out.frozen 1;have f2:=HB3.out.frozen 2
  try simp only [List.getElem?_cons_succ,List.getElem?_cons_zero] at  c0 c1 c2
  go_wp2
  exact bodyPost_ret (v:=.slice none 0 0) (by simp [results,Tryd.results90]) rfl ⟨none,0,rfl,.inl rfl,HB3.out.set_ 2 (iv 1),KB3.out.set 2 _⟩
 have d3 : ¬ (L : Int) - a < m:=by omega
 have hw2 : IntKind.i64.wrap ((a : Int) + m) = (a : Int) + m:=IntWalk.i64_in _ (by omega)
 have hw3 : IntKind.i64.wrap ((a : Int) + m - m) = (a : Int):=by rw [show (a : Int) + m - m = a by omega];exact IntWalk.i64_in _ (by omega)
 have hv:=HT.out;have hv2:=HTB.out
 rw [if_pos rfl,if_pos hlt] at hv
 rw [if_pos ⟨rfl,hlt⟩] at hv2
 subst hv;subst hv2
 clear HT HTB
 obtain ⟨g,off,rfl,-,-⟩:=HR.out.rd.at (k:=a) (by rw [List.length_map,HLL.out];omega)
 go_upto_region 1 with fail
 refine wp_region_tree (.take [0,1,2,3,4,5,6,7,8,9,10,11,12,13,14,15,16,17,18] .done) [] (by kernel_rfl) (by kernel_rfl) (fun w3 k3 => ?_)
 have HB3:=Lib.hid (HB.out.keep k3);have KB3 : Hid (KeepB S w w3):=Lib.hid (KB.out.trans (KeepX.of k3) (fun _ _ q => q))
 clear k3 HB KB
 have a0:=aft_cell (HB3.out.cell 0);have a1:=aft_cell (HB3.out.cell 1);have a2:=aft_cell (HB3.out.cell 2)
 try simp only [List.getElem?_cons_succ,List.getElem?_cons_zero] at  a0 a1 a2
 refine mt_take w3 (Below.refl _ _) ?_
 simp only [pick_cons,pick_nil,nth_zero,nth_succ]
 repeat (go_big_quiet_step (fail))
 refine wpQuiet_nil (mt_end ?_)
 clear a0 a1 a2
 have c0:=HB3.out.cell 0;have c1:=HB3.out.cell 1;have c2:=HB3.out.cell 2
 have f1:=HB3.out.frozen 1;have f2:=HB3.out.frozen 2
 try simp only [List.getElem?_cons_succ,List.getElem?_cons_zero] at  c0 c1 c2
 go_upto_region 6 with fail
 clear c0 c1 c2 f1 f2
 obtain ⟨w4,hw4⟩ : ∃ w4,w4 = w3.setCell ⟨S,1,none⟩ (iv ((a : Int) + m)):=⟨_,rfl⟩
 have HB4 : Hid (Blk w4 S t [.slice (some ⟨g,off,none⟩) L c,iv ((a : Int) + m),iv 0]):=by rw [hw4];exact Lib.hid (HB3.out.set_ 1 _)
 have KB4 : Hid (KeepB S w w4):=by rw [hw4];exact Lib.hid (KB3.out.set 1 _)
 rw [← hw4]
 clear hw4 HB3 KB3
 go_upto_region 6 with fail
 refine wp_region_tree (.take [0,1,2,3,4,5,6,7,8,9,10,11,12,13,14,15] .done) [] (by kernel_rfl) (by kernel_rfl) (fun w5 k3 => ?_)
 have HB5:=Lib.hid (HB4.out.keep k3);have KB5 : Hid (KeepB S w w5):=Lib.hid (KB4.out.trans (KeepX.of k3) (fun _ _ q => q))
 clear k3 HB4 KB4
 have a0:=aft_cell (HB5.out.cell 0);have a1:=aft_cell (HB5.out.cell 1);have a2:=aft_cell (HB5.out.cell 2)
 try simp only [List.getElem?_cons_succ,List.getElem?_cons_zero] at  a0 a1 a2
 refine mt_take w5 (Below.refl _ _) ?_
 simp only [pick_cons,pick_nil,nth_zero,nth_succ]
 repeat (go_big_quiet_step (fail))
 refine wpQuiet_nil (mt_end ?_)
 clear a0 a1 a2
 have c0:=HB5.out.cell 0;have c1:=HB5.out.cell 1;have c2:=HB5.out.cell 2
 have f1:=HB5.out.frozen 1;have f2:=HB5.out.frozen 2
 try simp only [List.getElem?_cons_succ,List.getElem?_cons_zero] at  c0 c1 c2
 have HRX : Hid (RdX (some S) w5 (some ⟨g,off + a,none⟩) (((b.drop a).take m).map u8v)):=Lib.hid ((HR.out.cut a m (by rw [HLL.out];omega)).kb KB5.out)
 have HLT : Hid (((b.drop a).take m).length = m):=Lib.hid (by rw [List.length_take,List.length_drop,HLL.out];omega)
 generalize (b.drop a).take m = T at *
 clear c0 c1 c2 f1 f2
 go_wp2
 exact bodyPost_ret (v:=.slice (some ⟨g,off + a,none⟩) m (c - a)) (by simp [results,Tryd.results90]) rfl ⟨some ⟨g,off + a,none⟩,c - a,by rw [HLT.out],HRX.out,HB5.out,KB5.out⟩
def Red (S : Nat) (t : TypeId) (src : List Value) (v : Value) (w : World) (e : Ending) (w' : World) : Prop:=e = .returned v∧Blk w' S t src∧KeepB S w w'
set_option maxRecDepth 100000 in
set_option maxHeartbeats 4000000 in
theorem snum_any (PB S : Nat) (t : TypeId) (A : Option Addr) (b : List UInt8) (c m : Nat) (p : SP) (w : World) (hpb : w.cell? ⟨PB,0,none⟩ = some (.pointer (some ⟨S,0,none⟩))) (hb : Blk w S t (srcL A b.length c p)) (hp : p.1 ≤ b.length) (hc : b.length ≤ c) (hl : b.length ≤ 1000000000) (hcm : c ≤ maxLen) (hm : m ≤ 8) (hm0 : 0 < m) (hr : RdX (some S) w A (b.map u8v)) :
  Calls Tryd.prog 89 #[iv m,.pointer (some ⟨PB,0,none⟩)] w (Red S t (srcL A b.length c (tkP b m p)) (u64v (nmV b m p)) w):=by
 have T1 : Hid (Calls Tryd.prog 90 #[.pointer (some ⟨S,0,none⟩),iv m] w (Tkd S t (srcL A b.length c (tkP b m p)) (tkB b m p) w)):=Lib.hid (stake_any S t A b c m p w hb hp hc hl hcm (by omega) hm0 hr)
 have hTL : (tkB b m p).length ≤ 8:=by rcases tkB_len b m p with q | q <;> rw [q] <;> first | exact hm | simp
 have HN : Hid (nmV b m p = numN (tkB b m p) (tkB b m p).length):=Lib.hid rfl
 generalize srcL A b.length c (tkP b m p) = src at *
 generalize tkB b m p = T at *
 generalize nmV b m p = V at *
 clear hb hr hp hc hl hcm
 go_enter Tryd.func89,Tryd.ntmps89
 go_wp2_with (go_at_call 90;refine T1.out.mono ?_;rintro e w2 ⟨A2,c2,rfl,hr2,hb2,hk2⟩)
 have HR2:=Lib.hid hr2;have HB2:=Lib.hid hb2;have HK2:=Lib.hid hk2
 clear hr2 hb2 hk2 T1 hpb
 obtain ⟨L,hL⟩ : ∃ L,T.length = L:=⟨_,rfl⟩
 have HC : Hid (∀ k,k < L → ∃ g off,A2 = some ⟨g,off,none⟩∧w2.cell? ⟨g,off + k,none⟩ = some (u8v (T.getD k 0))):=Lib.hid fun k hk => by
  obtain ⟨g,off,h1,h2,h3⟩:=HR2.out.rd.at (k:=k) (by simp;omega)
  refine ⟨g,off,h1,?_⟩
  rw [h3 k (by simp;omega)]
  simp [List.getD_eq_getElem?_getD,List.getElem?_eq_getElem (show k < T.length by omega)]
 have HNN : Hid (∀ k,numN T k < 2 ^ (8 * k)∧numN T (k + 1) = numN T k + (T.getD k 0).toNat * 2 ^ (8 * k)):=Lib.hid fun k => ⟨numN_lt T k,rfl⟩
 have HN0 : Hid (numN T 0 = 0):=Lib.hid rfl
 rw [hL] at HN hTL ⊢
 clear hL HR2
 obtain ⟨nt,hnt⟩ : ∃ f,numN T = f:=⟨_,rfl⟩
 obtain ⟨tt,htt⟩ : ∃ f : Nat → UInt8,(fun k => T.getD k 0) = f:=⟨_,rfl⟩
 have htt' : ∀ k,T.getD k 0 = tt k:=fun k => by rw [← htt]
 rw [hnt] at HN HNN HN0
 simp only [htt'] at HC HNN
 clear hnt htt htt'
 go_loopw [4,11] (fun v x wr => ∃ k : Nat,k ≤ L∧x = .int .i64 k∧v = .int .u64 (nt k : Nat)∧w2 = wr) (fun _ x _ => L - (intOf x).toNat)
 case atStart => exact ⟨0,Nat.zero_le _,rfl,by rw [HN0.out];rfl,rfl⟩
 case round =>
  obtain ⟨k,hk,rfl,rfl,rfl⟩:=hrel
  by_cases hlt : k < L
  ·obtain ⟨g,off,rfl,c0⟩:=HC.out k hlt
   obtain ⟨h1,h2⟩:=HNN.out k
   have hy:=(tt k).toNat_lt
   have hor:=u64_or (nt k) (tt k).toNat k (by omega) h1 (by omega)
   rw [← h2] at hor
   have d1 : (k : Int) < L:=by omega
   clear h1 h2
   obtain ⟨n1,hn1⟩ : ∃ n1,nt (k + 1) = n1:=⟨_,rfl⟩
   rw [hn1] at hor
   have HNX : Hid (n1 = nt (k + 1)):=Lib.hid hn1.symm
   clear hn1
   generalize nt k = n0 at *
   generalize tt k = y at *
   go_wp2
   go_roundw
   case rel => exact ⟨k + 1,by omega,by go_num,by rw [← HNX.out],by first | rfl | trivial⟩
   case measure => simp [intOf];omega
  ·obtain rfl : k = L:=by omega
   have d2 : ¬ (k : Int) < k:=by omega
   obtain ⟨n,hn⟩ : ∃ n,nt k = n:=⟨_,rfl⟩
   rw [hn]
   have HVV : Hid (V = n):=Lib.hid (by rw [HN.out,hn])
   clear HC HN HN0 HNN hn
   go_wp2
   exact bodyPost_ret (v:=u64v n) (by simp [results,Tryd.results89]) rfl ⟨by rw [HVV.out],HB2.out,HK2.out⟩
end Go.Proofs.YtffpanlpbdnafaaDoor
/- tx.source: count, script. (printed by gen_vn.py) -/
set_option linter.unusedSimpArgs false
set_option linter.unusedVariables false
namespace Go.Proofs.YtffpanlpbdnafaaDoor
open Go.RowKit
attribute [local go_sem ↓] Go.wp_at_zero Go.wp_at_succ
def Scd (S : Nat) (t : TypeId) (src : List Value) (T : List UInt8) (w : World) (e : Ending) (w' : World) : Prop:=∃ v,e = .returned v∧w'.ownsRow w.heap.size 5 1 v T.length (T.map u8v)∧Blk w' S t src∧KeepB S w w'
set_option maxRecDepth 100000 in
set_option maxHeartbeats 4000000 in
theorem scount_any (S : Nat) (t : TypeId) (A : Option Addr) (b : List UInt8) (c : Nat) (most : Nat) (hmost : most ≤ 1000000000) (p : SP) (w : World) (hb : Blk w S t (srcL A b.length c p)) (hp : p.1 ≤ b.length) (hc : b.length ≤ c) (hl : b.length ≤ 1000000000) (hcm : c ≤ maxLen) (hr : RdX (some S) w A (b.map u8v)) :
  Calls Tryd.prog 91 #[.pointer (some ⟨S,0,none⟩),u64v most] w (Red S t (srcL A b.length c (ctP b most p)) (iv (ctV b most p)) w):=by
 obtain ⟨a,e0⟩:=p
 have HB:=Lib.hid hb;have HR:=Lib.hid hr
 simp only at hp
 have BN : Hid (∀ y A' n' c',Keep w y → n' = b.length - a → n' ≤ c' → c' ≤ maxLen → Rd y A' ((b.drop a).map u8v) → Calls Tryd.prog 87 #[.slice A' n' c',u64v most] y fun e w' => e = .returned (.tuple #[iv (bndN (b.drop a) most).1,iv (bndN (b.drop a) most).2.1,iv (bndN (b.drop a) most).2.2])∧Keep y w'):=Lib.hid fun y A' n' c' hy h1 h2 h3 h4 => by
  have hln : (b.drop a).length = n':=by rw [List.length_drop,h1]
  subst hln
  exact bnd_any A' (b.drop a) c' most y (by omega) h4
 have HT : Hid (ctP b most (a,e0) = if e0 = 0 then (a + (bndN (b.drop a) most).2.1,(bndN (b.drop a) most).2.2) else (a,e0)):=Lib.hid rfl
 have HV : Hid (ctV b most (a,e0) = if e0 = 0 then (bndN (b.drop a) most).1 else 0):=Lib.hid rfl
 have hk9:=(bnd_le (b.drop a) most).1
 have hn9:=(bnd_le (b.drop a) most).2
 rw [List.length_drop] at hk9
 generalize ctP b most (a,e0) = P at *
 generalize ctV b most (a,e0) = V at *
 generalize bndN (b.drop a) most = G at *
 obtain ⟨n,k,e1⟩:=G
 simp only at BN HT HV hk9 hn9
 have hwk : IntKind.i64.wrap ((a : Int) + k) = (a : Int) + k:=IntWalk.i64_in _ (by omega)
 have hwk0 : IntKind.i64.wrap (k : Int) = k:=IntWalk.i64_in _ (by omega)
 have hwk1 : wrap64 (k : Int) = k:=IntWalk.wrap64_in _ (by omega)
 obtain ⟨L,hL⟩ : ∃ L,b.length = L:=⟨_,rfl⟩
 have HLL:=Lib.hid hL
 unfold srcL at *
 rw [hL] at HB BN hc hl hp ⊢
 simp only at HB
 clear hb hr hL
 unfold maxLen at hcm BN
 have KB : Hid (KeepB S w w):=Lib.hid (KeepX.of (Below.refl _ _))
 have c0:=HB.out.cell 0;have c1:=HB.out.cell 1;have c2:=HB.out.cell 2
 try simp only [List.getElem?_cons_succ,List.getElem?_cons_zero] at  c0 c1 c2
 by_cases h0 : e0 = 0
 case neg =>
  have d2 : (e0 != 0) = true:=by rw [bne_iff_ne];exact h0
  have hv:=HT.out;have hv2:=HV.out
  rw [if_neg h0] at hv;rw [if_neg h0] at hv2
  subst hv;subst hv2
  clear HT HV BN
  go_enter Tryd.func91,Tryd.ntmps91
  go_wp2
  exact bodyPost_ret (v:=iv 0) (by simp [results,Tryd.results91]) rfl ⟨rfl,HB.out,KB.out⟩
 subst h0
 have hv:=HT.out;have hv2:=HV.out
 rw [if_pos rfl] at hv;rw [if_pos rfl] at hv2
 subst hv
 have HV2:=Lib.hid hv2
 clear HT HV hv2
 go_enter Tryd.func91,Tryd.ntmps91
 go_upto_region 3 with fail
 clear c0 c1 c2
 cases A with
 | none =>
   have hL0 : L = 0:=by
    rw [← HLL.out]
    rcases HR.out with q | ⟨_,_,q,_⟩
    ·simpa using q
    ·cases q
   subst hL0
   obtain rfl : a = 0:=by omega
   have hb0 : b = []:=List.eq_nil_of_length_eq_zero HLL.out
   have HB0:=Lib.hid hb0
   clear hb0
   refine wp_region_tree (.take [0,1,2,3,4,5,6,7,8,9] (.force [10] (.take [11,12,13,14,15,16,17] .done))) [] (by kernel_rfl) (by kernel_rfl) (fun w3 k3 => ?_)
   have HB3:=Lib.hid (HB.out.keep k3);have HK3 : Hid (Keep w w3):=Lib.hid k3
   clear k3
   have a0:=aft_cell (HB3.out.cell 0);have a1:=aft_cell (HB3.out.cell 1);have a2:=aft_cell (HB3.out.cell 2)
   try simp only [List.getElem?_cons_succ,List.getElem?_cons_zero] at  a0 a1 a2
   refine mt_take w3 (Below.refl _ _) ?_
   simp only [pick_cons,pick_nil,nth_zero,nth_succ]
   repeat (go_big_quiet_step (fail))
   refine wpQuiet_nil (mt_force ?_)
   clear a0 a1 a2
   simp only [pick_cons,pick_nil,nth_zero,nth_succ]
   refine fc_step rfl (fun K hK => ?_)
   go_simp
   (with_reducible refine (BN.out _ _ _ _ HK3.out (by omega) (by omega) (by omega) ?_).mono ?_)
   ·rw [HB0.out];exact Rd.nil _ _
   rintro e w4 ⟨rfl,k4⟩
   refine hK _ _ k4 ?_
   clear hK K BN
   have HB4:=Lib.hid (HB3.out.keep k4);have HK4:=Lib.hid (keep_trans HK3.out k4)
   clear k4 HB3 HK3
   refine fc_nil (mt_take w4 (Below.refl _ _) ?_)
   simp only [pick_cons,pick_nil,nth_zero,nth_succ]
   repeat (go_big_quiet_step (fail))
   refine wpQuiet_nil (mt_end ?_)
   have c0:=HB4.out.cell 0;have c1:=HB4.out.cell 1;have c2:=HB4.out.cell 2
   have f1:=HB4.out.frozen 1;have f2:=HB4.out.frozen 2
   try simp only [List.getElem?_cons_succ,List.getElem?_cons_zero] at  c0 c1 c2
   go_wp2
   have hv2:=HV2.out
   subst hv2
   exact bodyPost_ret (v:=iv V) (by simp [results,Tryd.results91]) rfl ⟨rfl,(by first | exact (HB4.out.set_ 1 _).set_ 2 _ | simpa using (HB4.out.set_ 1 (iv (k : Int))).set_ 2 (iv e1)),KeepB.set (KeepB.set (KeepX.of HK4.out) 1 _) 2 _⟩
 | some ad =>
 obtain ⟨g,off,hgo⟩ : ∃ g off,ad = ⟨g,off,none⟩ ∨ b = []:=by
  rcases HR.out with q | ⟨g,off,q,_⟩
  ·exact ⟨0,0,.inr (by simpa using q)⟩
  ·exact ⟨g,off,.inl (Option.some.inj q)⟩
 by_cases hca : a = c
 ·subst hca
  obtain rfl : a = L:=by omega
  refine wp_region_tree (.take [0,1,2,3,4,5,6,7,8,9] (.force [10] (.take [11,12,13,14,15,16,17] .done))) [] (by kernel_rfl) (by kernel_rfl) (fun w3 k3 => ?_)
  have HB3:=Lib.hid (HB.out.keep k3);have HK3 : Hid (Keep w w3):=Lib.hid k3
  clear k3
  have a0:=aft_cell (HB3.out.cell 0);have a1:=aft_cell (HB3.out.cell 1);have a2:=aft_cell (HB3.out.cell 2)
  try simp only [List.getElem?_cons_succ,List.getElem?_cons_zero] at  a0 a1 a2
  refine mt_take w3 (Below.refl _ _) ?_
  simp only [pick_cons,pick_nil,nth_zero,nth_succ]
  repeat (go_big_quiet_step (fail))
  refine wpQuiet_nil (mt_force ?_)
  clear a0 a1 a2
  simp only [pick_cons,pick_nil,nth_zero,nth_succ]
  refine fc_step rfl (fun K hK => ?_)
  go_simp
  (with_reducible refine (BN.out _ _ _ _ HK3.out (by omega) (by omega) (by omega) ?_).mono ?_)
  ·have e9 : b.drop a = []:=List.drop_eq_nil_of_le (by rw [HLL.out];omega)
   rw [e9];exact Rd.nil _ _
  rintro e w4 ⟨rfl,k4⟩
  refine hK _ _ k4 ?_
  clear hK K BN
  have HB4:=Lib.hid (HB3.out.keep k4);have HK4:=Lib.hid (keep_trans HK3.out k4)
  clear k4 HB3 HK3
  refine fc_nil (mt_take w4 (Below.refl _ _) ?_)
  simp only [pick_cons,pick_nil,nth_zero,nth_succ]
  repeat (go_big_quiet_step (fail))
  refine wpQuiet_nil (mt_end ?_)
  have c0:=HB4.out.cell 0;have c1:=HB4.out.cell 1;have c2:=HB4.out.cell 2
  have f1:=HB4.out.frozen 1;have f2:=HB4.out.frozen 2
  try simp only [List.getElem?_cons_succ,List.getElem?_cons_zero] at  c0 c1 c2
  go_wp2
  have hv2:=HV2.out
  subst hv2
  exact bodyPost_ret (v:=iv V) (by simp [results,Tryd.results91]) rfl ⟨rfl,(by first | exact (HB4.out.set_ 1 _).set_ 2 _ | simpa using (HB4.out.set_ 1 (iv (k : Int))).set_ 2 (iv e1)),KeepB.set (KeepB.set (KeepX.of HK4.out) 1 _) 2 _⟩
 ·have hca2 : ¬ c - a = 0:=by omega
  have HGO:=Lib.hid hgo
  clear hgo
  refine wp_region_tree (.take [0,1,2,3,4,5,6,7,8,9] (.force [10] (.take [11,12,13,14,15,16,17] .done))) [] (by kernel_rfl) (by kernel_rfl) (fun w3 k3 => ?_)
  have HB3:=Lib.hid (HB.out.keep k3);have HK3 : Hid (Keep w w3):=Lib.hid k3
  clear k3
  have a0:=aft_cell (HB3.out.cell 0);have a1:=aft_cell (HB3.out.cell 1);have a2:=aft_cell (HB3.out.cell 2)
  try simp only [List.getElem?_cons_succ,List.getElem?_cons_zero] at  a0 a1 a2
  refine mt_take w3 (Below.refl _ _) ?_
  simp only [pick_cons,pick_nil,nth_zero,nth_succ]
  repeat (go_big_quiet_step (fail))
  refine wpQuiet_nil (mt_force ?_)
  clear a0 a1 a2
  simp only [pick_cons,pick_nil,nth_zero,nth_succ]
  refine fc_step rfl (fun K hK => ?_)
  go_simp
  (with_reducible refine (BN.out _ _ _ _ HK3.out (by omega) (by omega) (by omega) ?_).mono ?_)
  ·rcases HGO.out with q | q
   ·subst q
    have q2:=(HR.out.cut a (b.length - a) (by rw [HLL.out];omega)).rd.keep HK3.out
    rw [List.take_of_length_le (by rw [List.length_drop];omega)] at q2
    first | exact q2 | (rw [add_lit0];exact q2)
   ·rw [q];simp;exact Rd.nil _ _
  rintro e w4 ⟨rfl,k4⟩
  refine hK _ _ k4 ?_
  clear hK K BN
  have HB4:=Lib.hid (HB3.out.keep k4);have HK4:=Lib.hid (keep_trans HK3.out k4)
  clear k4 HB3 HK3
  refine fc_nil (mt_take w4 (Below.refl _ _) ?_)
  simp only [pick_cons,pick_nil,nth_zero,nth_succ]
  repeat (go_big_quiet_step (fail))
  refine wpQuiet_nil (mt_end ?_)
  have c0:=HB4.out.cell 0;have c1:=HB4.out.cell 1;have c2:=HB4.out.cell 2
  have f1:=HB4.out.frozen 1;have f2:=HB4.out.frozen 2
  try simp only [List.getElem?_cons_succ,List.getElem?_cons_zero] at  c0 c1 c2
  go_wp2
  have hv2:=HV2.out
  subst hv2
  exact bodyPost_ret (v:=iv V) (by simp [results,Tryd.results91]) rfl ⟨rfl,(by first | exact (HB4.out.set_ 1 _).set_ 2 _ | simpa using (HB4.out.set_ 1 (iv (k : Int))).set_ 2 (iv e1)),KeepB.set (KeepB.set (KeepX.of HK4.out) 1 _) 2 _⟩
set_option maxRecDepth 100000 in
set_option maxHeartbeats 4000000 in
theorem sscript_any (S : Nat) (t : TypeId) (A : Option Addr) (b : List UInt8) (c : Nat) (p : SP) (w : World) (hb : Blk w S t (srcL A b.length c p)) (hp : p.1 ≤ b.length) (hc : b.length ≤ c) (hl : b.length ≤ 1000000000) (hcm : c ≤ maxLen) (hr : RdX (some S) w A (b.map u8v)) :
  Calls Tryd.prog 92 #[.pointer (some ⟨S,0,none⟩)] w (Scd S t (srcL A b.length c (scP b p)) (scV b p) w):=by
 obtain ⟨a,e0⟩:=p
 have HB:=Lib.hid hb;have HR:=Lib.hid hr
 simp only at hp
 have BN : Hid (∀ y A' n' c',Keep w y → n' = b.length - a → n' ≤ c' → c' ≤ maxLen → Rd y A' ((b.drop a).map u8v) → Calls Tryd.prog 72 #[.slice A' n' c',iv 10000] y fun e w' => ∃ v,e = .returned (.tuple #[v,iv (bytN (b.drop a) 10000).2.1,iv (bytN (b.drop a) 10000).2.2])∧w'.ownsRow y.heap.size 5 1 v (bytN (b.drop a) 10000).1.length ((bytN (b.drop a) 10000).1.map u8v)∧Keep y w'):=Lib.hid fun y A' n' c' hy h1 h2 h3 h4 => by
  have hln : (b.drop a).length = n':=by rw [List.length_drop,h1]
  subst hln
  exact cbytes_any A' (b.drop a) c' 10000 y (by omega) h2 (by omega) h4
 have HT : Hid (scP b (a,e0) = if e0 = 0 then (a + (bytN (b.drop a) 10000).2.1,(bytN (b.drop a) 10000).2.2) else (a,e0)):=Lib.hid rfl
 have HV : Hid (scV b (a,e0) = if e0 = 0 then (bytN (b.drop a) 10000).1 else []):=Lib.hid rfl
 have hk9:=(byt_le (b.drop a) 10000).1
 rw [List.length_drop] at hk9
 generalize scP b (a,e0) = P at *
 generalize scV b (a,e0) = V at *
 generalize bytN (b.drop a) 10000 = G at *
 obtain ⟨n,k,e1⟩:=G
 simp only at BN HT HV hk9
 have hwk : IntKind.i64.wrap ((a : Int) + k) = (a : Int) + k:=IntWalk.i64_in _ (by omega)
 have hwk0 : IntKind.i64.wrap (k : Int) = k:=IntWalk.i64_in _ (by omega)
 have hwk1 : wrap64 (k : Int) = k:=IntWalk.wrap64_in _ (by omega)
 obtain ⟨L,hL⟩ : ∃ L,b.length = L:=⟨_,rfl⟩
 have HLL:=Lib.hid hL
 unfold srcL at *
 rw [hL] at HB BN hc hl hp ⊢
 simp only at HB
 clear hb hr hL
 unfold maxLen at hcm BN
 have KB : Hid (KeepB S w w):=Lib.hid (KeepX.of (Below.refl _ _))
 have c0:=HB.out.cell 0;have c1:=HB.out.cell 1;have c2:=HB.out.cell 2
 try simp only [List.getElem?_cons_succ,List.getElem?_cons_zero] at  c0 c1 c2
 by_cases h0 : e0 = 0
 case neg =>
  have d2 : (e0 != 0) = true:=by rw [bne_iff_ne];exact h0
  have hv:=HT.out;have hv2:=HV.out
  rw [if_neg h0] at hv;rw [if_neg h0] at hv2
  subst hv;subst hv2
  clear HT HV BN
  go_enter Tryd.func92,Tryd.ntmps92
  go_wp2
  exact bodyPost_ret (v:=.slice none 0 0) (by simp [results,Tryd.results92]) rfl ⟨_,rfl,World.ownsRow_nil _ _ _ _,HB.out,KB.out⟩
 subst h0
 have hv:=HT.out;have hv2:=HV.out
 rw [if_pos rfl] at hv;rw [if_pos rfl] at hv2
 subst hv
 have HV2:=Lib.hid hv2
 clear HT HV hv2
 go_enter Tryd.func92,Tryd.ntmps92
 go_upto_region 3 with fail
 clear c0 c1 c2
 cases A with
 | none =>
   have hL0 : L = 0:=by
    rw [← HLL.out]
    rcases HR.out with q | ⟨_,_,q,_⟩
    ·simpa using q
    ·cases q
   subst hL0
   obtain rfl : a = 0:=by omega
   have hb0 : b = []:=List.eq_nil_of_length_eq_zero HLL.out
   have HB0:=Lib.hid hb0
   clear hb0
   refine wp_region_tree (.take [0,1,2,3,4,5,6,7,8] (.force [9] (.take [10,11,12,13,14,15,16] .done))) [] (by kernel_rfl) (by kernel_rfl) (fun w3 k3 => ?_)
   have HB3:=Lib.hid (HB.out.keep k3);have HK3 : Hid (Keep w w3):=Lib.hid k3
   clear k3
   have a0:=aft_cell (HB3.out.cell 0);have a1:=aft_cell (HB3.out.cell 1);have a2:=aft_cell (HB3.out.cell 2)
   try simp only [List.getElem?_cons_succ,List.getElem?_cons_zero] at  a0 a1 a2
   refine mt_take w3 (Below.refl _ _) ?_
   simp only [pick_cons,pick_nil,nth_zero,nth_succ]
   repeat (go_big_quiet_step (fail))
   refine wpQuiet_nil (mt_force ?_)
   clear a0 a1 a2
   simp only [pick_cons,pick_nil,nth_zero,nth_succ]
   refine fc_step rfl (fun K hK => ?_)
   go_simp
   (with_reducible refine (BN.out _ _ _ _ HK3.out (by omega) (by omega) (by omega) ?_).mono ?_)
   ·rw [HB0.out];exact Rd.nil _ _
   rintro e w4 ⟨v,rfl,hown,k4⟩
   have HOW:=Lib.hid (own_base hown HK3.out.size)
   clear hown
   refine hK _ _ k4 ?_
   clear hK K BN
   have HB4:=Lib.hid (HB3.out.keep k4);have HK4:=Lib.hid (keep_trans HK3.out k4)
   clear k4 HB3 HK3
   refine fc_nil (mt_take w4 (Below.refl _ _) ?_)
   simp only [pick_cons,pick_nil,nth_zero,nth_succ]
   repeat (go_big_quiet_step (fail))
   refine wpQuiet_nil (mt_end ?_)
   have c0:=HB4.out.cell 0;have c1:=HB4.out.cell 1;have c2:=HB4.out.cell 2
   have f1:=HB4.out.frozen 1;have f2:=HB4.out.frozen 2
   try simp only [List.getElem?_cons_succ,List.getElem?_cons_zero] at  c0 c1 c2
   have hSw : S < w.heap.size:=HB.out.lt
   obtain ⟨Av,cv,rfl,-,-,-⟩:=own_form HOW.out
   go_wp2
   have hv2:=HV2.out
   subst hv2
   exact bodyPost_ret (v:=.slice Av V.length cv) (by simp [results,Tryd.results92]) rfl ⟨_,rfl,ownsRow_setCell_below (ownsRow_setCell_below HOW.out (a:=⟨S,1,none⟩) hSw _) (a:=⟨S,2,none⟩) hSw _,(by first | exact (HB4.out.set_ 1 _).set_ 2 _ | simpa using (HB4.out.set_ 1 (iv (k : Int))).set_ 2 (iv e1)),KeepB.set (KeepB.set (KeepX.of HK4.out) 1 _) 2 _⟩
 | some ad =>
 obtain ⟨g,off,hgo⟩ : ∃ g off,ad = ⟨g,off,none⟩ ∨ b = []:=by
  rcases HR.out with q | ⟨g,off,q,_⟩
  ·exact ⟨0,0,.inr (by simpa using q)⟩
  ·exact ⟨g,off,.inl (Option.some.inj q)⟩
 by_cases hca : a = c
 ·subst hca
  obtain rfl : a = L:=by omega
  refine wp_region_tree (.take [0,1,2,3,4,5,6,7,8] (.force [9] (.take [10,11,12,13,14,15,16] .done))) [] (by kernel_rfl) (by kernel_rfl) (fun w3 k3 => ?_)
  have HB3:=Lib.hid (HB.out.keep k3);have HK3 : Hid (Keep w w3):=Lib.hid k3
  clear k3
  have a0:=aft_cell (HB3.out.cell 0);have a1:=aft_cell (HB3.out.cell 1);have a2:=aft_cell (HB3.out.cell 2)
  try simp only [List.getElem?_cons_succ,List.getElem?_cons_zero] at  a0 a1 a2
  refine mt_take w3 (Below.refl _ _) ?_
  simp only [pick_cons,pick_nil,nth_zero,nth_succ]
  repeat (go_big_quiet_step (fail))
  refine wpQuiet_nil (mt_force ?_)
  clear a0 a1 a2
  simp only [pick_cons,pick_nil,nth_zero,nth_succ]
  refine fc_step rfl (fun K hK => ?_)
  go_simp
  (with_reducible refine (BN.out _ _ _ _ HK3.out (by omega) (by omega) (by omega) ?_).mono ?_)
  ·have e9 : b.drop a = []:=List.drop_eq_nil_of_le (by rw [HLL.out];omega)
   rw [e9];exact Rd.nil _ _
  rintro e w4 ⟨v,rfl,hown,k4⟩
  have HOW:=Lib.hid (own_base hown HK3.out.size)
  clear hown
  refine hK _ _ k4 ?_
  clear hK K BN
  have HB4:=Lib.hid (HB3.out.keep k4);have HK4:=Lib.hid (keep_trans HK3.out k4)
  clear k4 HB3 HK3
  refine fc_nil (mt_take w4 (Below.refl _ _) ?_)
  simp only [pick_cons,pick_nil,nth_zero,nth_succ]
  repeat (go_big_quiet_step (fail))
  refine wpQuiet_nil (mt_end ?_)
  have c0:=HB4.out.cell 0;have c1:=HB4.out.cell 1;have c2:=HB4.out.cell 2
  have f1:=HB4.out.frozen 1;have f2:=HB4.out.frozen 2
  try simp only [List.getElem?_cons_succ,List.getElem?_cons_zero] at  c0 c1 c2
  have hSw : S < w.heap.size:=HB.out.lt
  obtain ⟨Av,cv,rfl,-,-,-⟩:=own_form HOW.out
  go_wp2
  have hv2:=HV2.out
  subst hv2
  exact bodyPost_ret (v:=.slice Av V.length cv) (by simp [results,Tryd.results92]) rfl ⟨_,rfl,ownsRow_setCell_below (ownsRow_setCell_below HOW.out (a:=⟨S,1,none⟩) hSw _) (a:=⟨S,2,none⟩) hSw _,(by first | exact (HB4.out.set_ 1 _).set_ 2 _ | simpa using (HB4.out.set_ 1 (iv (k : Int))).set_ 2 (iv e1)),KeepB.set (KeepB.set (KeepX.of HK4.out) 1 _) 2 _⟩
 ·have hca2 : ¬ c - a = 0:=by omega
  have HGO:=Lib.hid hgo
  clear hgo
  refine wp_region_tree (.take [0,1,2,3,4,5,6,7,8] (.force [9] (.take [10,11,12,13,14,15,16] .done))) [] (by kernel_rfl) (by kernel_rfl) (fun w3 k3 => ?_)
  have HB3:=Lib.hid (HB.out.keep k3);have HK3 : Hid (Keep w w3):=Lib.hid k3
  clear k3
  have a0:=aft_cell (HB3.out.cell 0);have a1:=aft_cell (HB3.out.cell 1);have a2:=aft_cell (HB3.out.cell 2)
  try simp only [List.getElem?_cons_succ,List.getElem?_cons_zero] at  a0 a1 a2
  refine mt_take w3 (Below.refl _ _) ?_
  simp only [pick_cons,pick_nil,nth_zero,nth_succ]
  repeat (go_big_quiet_step (fail))
  refine wpQuiet_nil (mt_force ?_)
  clear a0 a1 a2
  simp only [pick_cons,pick_nil,nth_zero,nth_succ]
  refine fc_step rfl (fun K hK => ?_)
  go_simp
  (with_reducible refine (BN.out _ _ _ _ HK3.out (by omega) (by omega) (by omega) ?_).mono ?_)
  ·rcases HGO.out with q | q
   ·subst q
    have q2:=(HR.out.cut a (b.length - a) (by rw [HLL.out];omega)).rd.keep HK3.out
    rw [List.take_of_length_le (by rw [List.length_drop];omega)] at q2
    first | exact q2 | (rw [add_lit0];exact q2)
   ·rw [q];simp;exact Rd.nil _ _
  rintro e w4 ⟨v,rfl,hown,k4⟩
  have HOW:=Lib.hid (own_base hown HK3.out.size)
  clear hown
  refine hK _ _ k4 ?_
  clear hK K BN
  have HB4:=Lib.hid (HB3.out.keep k4);have HK4:=Lib.hid (keep_trans HK3.out k4)
  clear k4 HB3 HK3
  refine fc_nil (mt_take w4 (Below.refl _ _) ?_)
  simp only [pick_cons,pick_nil,nth_zero,nth_succ]
  repeat (go_big_quiet_step (fail))
  refine wpQuiet_nil (mt_end ?_)
  have c0:=HB4.out.cell 0;have c1:=HB4.out.cell 1;have c2:=HB4.out.cell 2
  have f1:=HB4.out.frozen 1;have f2:=HB4.out.frozen 2
  try simp only [List.getElem?_cons_succ,List.getElem?_cons_zero] at  c0 c1 c2
  have hSw : S < w.heap.size:=HB.out.lt
  obtain ⟨Av,cv,rfl,-,-,-⟩:=own_form HOW.out
  go_wp2
  have hv2:=HV2.out
  subst hv2
  exact bodyPost_ret (v:=.slice Av V.length cv) (by simp [results,Tryd.results92]) rfl ⟨_,rfl,ownsRow_setCell_below (ownsRow_setCell_below HOW.out (a:=⟨S,1,none⟩) hSw _) (a:=⟨S,2,none⟩) hSw _,(by first | exact (HB4.out.set_ 1 _).set_ 2 _ | simpa using (HB4.out.set_ 1 (iv (k : Int))).set_ 2 (iv e1)),KeepB.set (KeepB.set (KeepX.of HK4.out) 1 _) 2 _⟩
end Go.Proofs.YtffpanlpbdnafaaDoor
/- What tx.Get answers; and what it has in memory while it reads. -/
set_option linter.unusedSimpArgs false
set_option linter.unusedVariables false
namespace Go.Proofs.YtffpanlpbdnafaaDoor
open Go.RowKit
def padH (l : List UInt8) : List UInt8:=l ++ z32.drop l.length
theorem padH_len {b : List UInt8} {p : SP} : (padH (tkB b 32 p)).length = 32:=by
 unfold padH
 rcases tkB_len b 32 p with q | q
 ·rw [List.length_append,List.length_drop,q];rfl
 ·rw [q];rfl
def inS (b : List UInt8) (p : SP) : InR × SP :=
 (⟨padH (tkB b 32 p),UInt32.ofNat (nmV b 4 (tkP b 32 p)),none,scV b (tkP b 4 (tkP b 32 p)),0,UInt32.ofNat (nmV b 4 (scP b (tkP b 4 (tkP b 32 p))))⟩,tkP b 4 (scP b (tkP b 4 (tkP b 32 p))))
def outS (b : List UInt8) (p : SP) : OutR × SP:=(⟨nmV b 8 p,none,scV b (tkP b 8 p),0⟩,scP b (tkP b 8 p))
def insS (b : List UInt8) : Nat → SP → List InR × SP
 | 0,p => ([],p)
 | n + 1,p => if p.2 = 0 then ((inS b p).1 :: (insS b n (inS b p).2).1,(insS b n (inS b p).2).2) else ([],p)
def outsS (b : List UInt8) : Nat → SP → List OutR × SP
 | 0,p => ([],p)
 | n + 1,p => if p.2 = 0 then ((outS b p).1 :: (outsS b n (outS b p).2).1,(outsS b n (outS b p).2).2) else ([],p)
theorem insS_err (b : List UInt8) (n : Nat) {p : SP} (h : p.2 ≠ 0) : insS b n p = ([],p):=by
 cases n with
 | zero => rfl
 | succ n => unfold insS;rw [if_neg h]
theorem outsS_err (b : List UInt8) (n : Nat) {p : SP} (h : p.2 ≠ 0) : outsS b n p = ([],p):=by
 cases n with
 | zero => rfl
 | succ n => unfold outsS;rw [if_neg h]
def cntE (n : Nat) (p : SP) : SP:=if p.2 = 0∧n = 0 then (p.1,2) else p
def tgetS (b : List UInt8) : TxR × SP :=
 let p1:=tkP b 4 (0,0)
 let p3:=cntE (ctV b 1000 p1) (ctP b 1000 p1)
 let r:=insS b (ctV b 1000 p1) p3
 let q:=outsS b (ctV b 1000 r.2) (ctP b 1000 r.2)
 (⟨UInt32.ofNat (nmV b 4 (0,0)),none,r.1,0,none,q.1,0,UInt32.ofNat (nmV b 4 q.2)⟩,tkP b 4 q.2)
def txZ : TxR:=⟨0,none,[],0,none,[],0,0⟩
def tgetN (b : List UInt8) : TxR × Nat × Int:=if (tgetS b).2.2 = 0 then ((tgetS b).1,(tgetS b).2.1,0) else (txZ,0,(tgetS b).2.2)
def InR.pl (x : InR) : InR:={ x with A:=none,cap:=0 }
def OutR.pl (x : OutR) : OutR:={ x with A:=none,cap:=0 }
def TxR.pl (t : TxR) : TxR:=⟨t.ver,none,t.ins.map InR.pl,0,none,t.outs.map OutR.pl,0,t.lock⟩
theorem inS_le {b : List UInt8} {p : SP} (h : p.1 ≤ b.length) : (inS b p).2.1 ≤ b.length:=tkP_le (scP_le (tkP_le (tkP_le h)))
theorem outS_le {b : List UInt8} {p : SP} (h : p.1 ≤ b.length) : (outS b p).2.1 ≤ b.length:=scP_le (tkP_le h)
theorem insS_le {b : List UInt8} : ∀ (n : Nat) {p : SP},p.1 ≤ b.length → (insS b n p).2.1 ≤ b.length
 | 0,p,h => h
 | n + 1,p,h => by
   unfold insS;split
   ·exact insS_le n (inS_le h)
   ·exact h
theorem outsS_le {b : List UInt8} : ∀ (n : Nat) {p : SP},p.1 ≤ b.length → (outsS b n p).2.1 ≤ b.length
 | 0,p,h => h
 | n + 1,p,h => by
   unfold outsS;split
   ·exact outsS_le n (outS_le h)
   ·exact h
theorem numN_lt8 (b : List UInt8) (p : SP) : nmV b 8 p < 2 ^ 64:=by
 unfold nmV
 have h:=numN_lt (tkB b 8 p) (tkB b 8 p).length
 refine Nat.lt_of_lt_of_le h (Nat.pow_le_pow_right (by omega) ?_)
 rcases tkB_len b 8 p with q | q <;> rw [q] <;> simp
def RdN (X : Nat → Prop) (w : World) (A : Option Addr) (xs : List Value) : Prop:=xs = [] ∨ ∃ b off,A = some ⟨b,off,none⟩∧¬ X b∧∀ j (h : j < xs.length),w.cell? ⟨b,off + j,none⟩ = some xs[j]
theorem RdN.rd {X : Nat → Prop} {w : World} {A : Option Addr} {xs : List Value} (h : RdN X w A xs) : Rd w A xs:=h.imp id fun ⟨b,off,h1,_,h3⟩ => ⟨b,off,h1,h3⟩
theorem KeepX.cell {X : Nat → Prop} {w w' : World} (k : KeepX X w w') {g o : Nat} {v : Value} (h : w.cell? ⟨g,o,none⟩ = some v) (hn : ¬ X g) : w'.cell? ⟨g,o,none⟩ = some v:=by
 have hb:=k.2.2.2.2 g (cell_lt h) hn
 rw [← h];unfold World.cell?;simp only [hb]
theorem RdN.kx {X X' Y : Nat → Prop} {w w' : World} {A : Option Addr} {xs : List Value} (h : RdN X w A xs) (k : KeepX Y w w') (hY : ∀ g,g < w.heap.size → Y g → X g) (hX : ∀ g,g < w.heap.size → X' g → X g) : RdN X' w' A xs:=by
 rcases h with h | ⟨g,off,h1,h2,h3⟩
 ·exact .inl h
 ·by_cases hx : xs = []
  ·exact .inl hx
  have hlt:=cell_lt (h3 0 (List.length_pos_iff.2 hx))
  exact .inr ⟨g,off,h1,fun q => h2 (hX g hlt q),fun j hj => k.cell (h3 j hj) fun q => h2 (hY g hlt q)⟩
theorem RdN.of_own {X : Nat → Prop} {w : World} {base : Nat} {e : TypeId} {n c : Nat} {A : Option Addr} {xs : List Value} (h : w.ownsRow base e 1 (.slice A n c) n xs) (hX : ∀ g,base ≤ g → ¬ X g) : RdN X w A xs:=by
 rcases own_rd h with q | ⟨b,off,rfl,hc⟩
 ·exact .inl q
 ·exact .inr ⟨b,off,rfl,hX b (h.lt b rfl).1,hc⟩
theorem own_kx {X : Nat → Prop} {w w' : World} {base : Nat} {e : TypeId} {size : Nat} {v : Value} {n : Nat} {xs : List Value} (h : w.ownsRow base e size v n xs) (k : KeepX X w w') (hX : ∀ g,v.ownBlock = some g → ¬ X g) : w'.ownsRow base e size v n xs:=by
 refine ⟨h.1,h.2.imp id fun ⟨g,cap,cur,h1,h2,h3,rest⟩ => ⟨g,cap,cur,h1,h2,?_,rest⟩⟩
 rw [k.2.2.2.2 g (Array.getElem?_eq_some_iff.1 h3).1 (hX g (by rw [h1];rfl))];exact h3
def GX (S T D : Nat) (vi vo : Value) (k : Nat) : Prop:=k = S ∨ k = T ∨ vi.ownBlock = some k ∨ vo.ownBlock = some k ∨ k < D
theorem RdN.mid {w0 w W : World} {A : Option Addr} {xs : List Value} (h : RdN (fun k => k < w0.heap.size) w A xs) (hm : MidF (fun _ => True) w0 w W) : Rd W A xs:=by
 rcases h with h | ⟨b,off,rfl,hb,hc⟩
 ·exact .inl h
 ·exact Rd.mid (.inr ⟨b,off,rfl,hc⟩) (by omega) hm
structure GSt (S T D : Nat) (w0 w : World) (src : List Value) (ver : UInt32) (vi : Value) (ds : List InR) (vo : Value) (es : List OutR) : Prop where
 hs : Blk w S 187 src
 ht : Blk w T 48 [u32v ver,vi,vo,.int .u32 0]
 oi : w.ownsRow D 127 35 vi ds.length (ds.flatMap InR.cells)
 oo : w.ownsRow D 128 2 vo es.length (es.flatMap OutR.cells)
 ne : ∀ g,vi.ownBlock = some g → vo.ownBlock ≠ some g
 is : ∀ x ∈ ds,x.prev.length = 32∧(x.sc.length ≤ x.cap∧x.cap ≤ maxLen)∧RdN (GX S T D vi vo) w x.A (x.sc.map u8v)
 os : ∀ x ∈ es,x.val < 2 ^ 64∧(x.sc.length ≤ x.cap∧x.cap ≤ maxLen)∧RdN (GX S T D vi vo) w x.A (x.sc.map u8v)
 kx : KeepX (fun k => k = S ∨ k = T) w0 w
 st : S ≠ T∧S < D∧T < D∧D = w0.heap.size
section
variable {S T D : Nat} {w0 w w' : World} {src src' : List Value} {ver : UInt32} {vi vo : Value} {ds : List InR} {es : List OutR}
theorem GSt.size (h : GSt S T D w0 w src ver vi ds vo es) : w0.heap.size ≤ w.heap.size:=h.kx.2.2.2.1
theorem GSt.iS (h : GSt S T D w0 w src ver vi ds vo es) : ∀ g,vi.ownBlock = some g → D ≤ g∧g < w.heap.size:=fun g q => h.oi.lt g q
theorem GSt.oS (h : GSt S T D w0 w src ver vi ds vo es) : ∀ g,vo.ownBlock = some g → D ≤ g∧g < w.heap.size:=fun g q => h.oo.lt g q
theorem GSt.read (h : GSt S T D w0 w src ver vi ds vo es) (hb : Blk w' S 187 src') (k : KeepB S w w') : GSt S T D w0 w' src' ver vi ds vo es :=
 ⟨hb,h.ht.kx k (fun e => h.st.1 e.symm),own_kx h.oi k (fun g q e => by have:=(h.iS g q).1;have:=h.st.2.1;omega),own_kx h.oo k (fun g q e => by have:=(h.oS g q).1;have:=h.st.2.1;omega),h.ne,
  fun x hx => ⟨(h.is x hx).1,(h.is x hx).2.1,(h.is x hx).2.2.kx k (fun g _ q => .inl q) fun g _ q => q⟩,fun x hx => ⟨(h.os x hx).1,(h.os x hx).2.1,(h.os x hx).2.2.kx k (fun g _ q => .inl q) fun g _ q => q⟩,
  h.kx.trans k (fun _ _ q => .inl q),h.st⟩
theorem GSt.keep (h : GSt S T D w0 w src ver vi ds vo es) (k : Keep w w') : GSt S T D w0 w' src ver vi ds vo es:=h.read (h.hs.keep k) (KeepX.of k)
theorem GSt.far (h : GSt S T D w0 w src ver vi ds vo es) {g o : Nat} {v : Value} (hc : w0.cell? ⟨g,o,none⟩ = some v) (h1 : g ≠ S) (h2 : g ≠ T) : w.cell? ⟨g,o,none⟩ = some v :=
 h.kx.cell hc (by rintro (q | q);exact h1 q;exact h2 q)
theorem GSt.vers (h : GSt S T D w0 w src ver vi ds vo es) (ver' : UInt32) : GSt S T D w0 (w.setCell ⟨T,0,none⟩ (u32v ver')) src ver' vi ds vo es:=by
 have k2 : KeepX (fun k => k = T) w (w.setCell ⟨T,0,none⟩ (u32v ver')):=KeepB.set (KeepX.of (Below.refl _ _)) 0 _
 have hY : ∀ g,g < w.heap.size → g = T → GX S T D vi vo g:=fun g _ q => .inr (.inl q)
 exact ⟨h.hs.kx k2 h.st.1,h.ht.set_ 0 _,own_kx h.oi k2 (fun g q e => by have:=(h.iS g q).1;have:=h.st.2.2.1;omega),own_kx h.oo k2 (fun g q e => by have:=(h.oS g q).1;have:=h.st.2.2.1;omega),h.ne,
  fun x hx => ⟨(h.is x hx).1,(h.is x hx).2.1,(h.is x hx).2.2.kx k2 hY fun g _ q => q⟩,fun x hx => ⟨(h.os x hx).1,(h.os x hx).2.1,(h.os x hx).2.2.kx k2 hY fun g _ q => q⟩,
  h.kx.trans k2 (fun _ _ q => .inr q),h.st⟩
theorem GSt.inp (h : GSt S T D w0 w src ver vi ds vo es) {x : InR} {vi' : Value} (o' : w'.ownsRow D 127 35 vi' (ds.length + 1) (ds.flatMap InR.cells ++ x.cells)) (hg : w.grownBy w' vi.ownBlock) (hat : vi'.ownBlock = vi.ownBlock ∨ ∃ k,vi'.ownBlock = some k∧w.heap.size ≤ k)
  (hx : x.prev.length = 32∧(x.sc.length ≤ x.cap∧x.cap ≤ maxLen)∧RdN (GX S T D vi vo) w x.A (x.sc.map u8v)) : GSt S T D w0 (w'.setCell ⟨T,1,none⟩ vi') src ver vi' (ds ++ [x]) vo es:=by
 have hvT : vi.ownBlock ≠ some T:=fun q => by have:=(h.iS T q).1;have:=h.st.2.2.1;omega
 have hvS : vi.ownBlock ≠ some S:=fun q => by have:=(h.iS S q).1;have:=h.st.2.1;omega
 have k1 : KeepX (fun k => vi.ownBlock = some k) w w':=(KeepX.of (Below.refl _ _)).grown hg fun j _ q => q
 have k2 : KeepX (fun k => k = T ∨ vi.ownBlock = some k) w (w'.setCell ⟨T,1,none⟩ vi') :=
  ⟨k1.1,k1.2.1,k1.2.2.1,by simpa using k1.2.2.2.1,fun k hk hn => (Below.heap_setCell w' ⟨T,1,none⟩ vi' k (fun e => hn (.inl e))).trans (k1.2.2.2.2 k hk fun q => hn (.inr q))⟩
 have hXi : ∀ g,g < w.heap.size → GX S T D vi' vo g → GX S T D vi vo g:=fun g hlt q => by
  rcases q with q | q | q | q | q
  ·exact .inl q
  ·exact .inr (.inl q)
  ·rcases hat with e | ⟨m,e,hm⟩
   ·exact .inr (.inr (.inl (e ▸ q)))
   ·rw [e] at q;cases q;omega
  ·exact .inr (.inr (.inr (.inl q)))
  ·exact .inr (.inr (.inr (.inr q)))
 have hYi : ∀ g,g < w.heap.size → (g = T ∨ vi.ownBlock = some g) → GX S T D vi vo g:=fun g _ q => q.elim (fun q => .inr (.inl q)) fun q => .inr (.inr (.inl q))
 refine ⟨h.hs.kx k2 (by rintro (q | q);exact h.st.1 q;exact hvS q),?_,?_,own_kx h.oo k2 (fun g q e => ?_),fun g q e => ?_,fun y hy => ?_,fun y hy => ?_,?_,h.st⟩
 ·have:=(h.ht.kx k1 hvT).set_ 1 vi'
  exact this
 ·exact own_eq (ownsRow_setCell_below o' (a:=⟨T,1,none⟩) h.st.2.2.1 _) (by rw [List.length_append];rfl) (by rw [List.flatMap_append];simp)
 ·rcases e with e | e
  ·have:=(h.oS g q).1;have:=h.st.2.2.1;omega
  ·exact h.ne g e q
 ·rcases hat with e' | ⟨m,e',hm⟩
  ·exact h.ne g (e' ▸ q) e
  ·rw [e'] at q;cases q
   have:=(h.oS _ e).2;omega
 ·rcases List.mem_append.1 hy with q | q
  ·obtain ⟨a,b,c⟩:=h.is y q
   exact ⟨a,b,c.kx k2 hYi hXi⟩
  ·obtain rfl : y = x:=by simpa using q
   exact ⟨hx.1,hx.2.1,hx.2.2.kx k2 hYi hXi⟩
 ·obtain ⟨a,b,c⟩:=h.os y hy
  exact ⟨a,b,c.kx k2 hYi hXi⟩
 ·exact h.kx.trans k2 fun j hj q => by
   rcases q with q | q
   ·exact .inr q
   ·have:=(h.iS j q).1;have:=h.st.2.2.2;omega
theorem GSt.outp (h : GSt S T D w0 w src ver vi ds vo es) {x : OutR} {vo' : Value} (o' : w'.ownsRow D 128 2 vo' (es.length + 1) (es.flatMap OutR.cells ++ x.cells)) (hg : w.grownBy w' vo.ownBlock) (hat : vo'.ownBlock = vo.ownBlock ∨ ∃ k,vo'.ownBlock = some k∧w.heap.size ≤ k)
  (hx : x.val < 2 ^ 64∧(x.sc.length ≤ x.cap∧x.cap ≤ maxLen)∧RdN (GX S T D vi vo) w x.A (x.sc.map u8v)) : GSt S T D w0 (w'.setCell ⟨T,2,none⟩ vo') src ver vi ds vo' (es ++ [x]):=by
 have hvT : vo.ownBlock ≠ some T:=fun q => by have:=(h.oS T q).1;have:=h.st.2.2.1;omega
 have hvS : vo.ownBlock ≠ some S:=fun q => by have:=(h.oS S q).1;have:=h.st.2.1;omega
 have k1 : KeepX (fun k => vo.ownBlock = some k) w w':=(KeepX.of (Below.refl _ _)).grown hg fun j _ q => q
 have k2 : KeepX (fun k => k = T ∨ vo.ownBlock = some k) w (w'.setCell ⟨T,2,none⟩ vo') :=
  ⟨k1.1,k1.2.1,k1.2.2.1,by simpa using k1.2.2.2.1,fun k hk hn => (Below.heap_setCell w' ⟨T,2,none⟩ vo' k (fun e => hn (.inl e))).trans (k1.2.2.2.2 k hk fun q => hn (.inr q))⟩
 have hXi : ∀ g,g < w.heap.size → GX S T D vi vo' g → GX S T D vi vo g:=fun g hlt q => by
  rcases q with q | q | q | q | q
  ·exact .inl q
  ·exact .inr (.inl q)
  ·exact .inr (.inr (.inl q))
  ·rcases hat with e | ⟨m,e,hm⟩
   ·exact .inr (.inr (.inr (.inl (e ▸ q))))
   ·rw [e] at q;cases q;omega
  ·exact .inr (.inr (.inr (.inr q)))
 have hYi : ∀ g,g < w.heap.size → (g = T ∨ vo.ownBlock = some g) → GX S T D vi vo g:=fun g _ q => q.elim (fun q => .inr (.inl q)) fun q => .inr (.inr (.inr (.inl q)))
 refine ⟨h.hs.kx k2 (by rintro (q | q);exact h.st.1 q;exact hvS q),?_,own_kx h.oi k2 (fun g q e => ?_),?_,fun g q e => ?_,fun y hy => ?_,fun y hy => ?_,?_,h.st⟩
 ·have:=(h.ht.kx k1 hvT).set_ 2 vo'
  exact this
 ·rcases e with e | e
  ·have:=(h.iS g q).1;have:=h.st.2.2.1;omega
  ·exact h.ne g q e
 ·exact own_eq (ownsRow_setCell_below o' (a:=⟨T,2,none⟩) h.st.2.2.1 _) (by rw [List.length_append];rfl) (by rw [List.flatMap_append];simp)
 ·rcases hat with e' | ⟨m,e',hm⟩
  ·exact h.ne g q (e' ▸ e)
  ·rw [e'] at e;cases e
   have:=(h.iS _ q).2;omega
 ·obtain ⟨a,b,c⟩:=h.is y hy
  exact ⟨a,b,c.kx k2 hYi hXi⟩
 ·rcases List.mem_append.1 hy with q | q
  ·obtain ⟨a,b,c⟩:=h.os y q
   exact ⟨a,b,c.kx k2 hYi hXi⟩
  ·obtain rfl : y = x:=by simpa using q
   exact ⟨hx.1,hx.2.1,hx.2.2.kx k2 hYi hXi⟩
 ·exact h.kx.trans k2 fun j hj q => by
   rcases q with q | q
   ·exact .inr q
   ·have:=(h.oS j q).1;have:=h.st.2.2.2;omega
end
end Go.Proofs.YtffpanlpbdnafaaDoor
/- tx.Get. (printed by gen_vq.py) -/
set_option linter.unusedSimpArgs false
set_option linter.unusedVariables false
namespace Go.Proofs.YtffpanlpbdnafaaDoor
open Go.RowKit
attribute [local go_sem ↓] Go.wp_at_zero Go.wp_at_succ
def Tgd (R : TxR × Nat × Int) (w : World) (e : Ending) (w' : World) : Prop:=∃ t : TxR,e = .returned (.tuple #[.agg t.cells.toArray,iv R.2.1,iv R.2.2])∧t.pl = R.1∧(t.at w'∧∀ W,MidF (fun _ => True) w w' W → t.at W)∧t.ins.length ≤ 1000∧t.outs.length ≤ 1000∧Keep w w'
theorem InR.set32 (x : InR) (h : x.prev.length = 32) (v : UInt32) : x.cells.set 32 (u32v v) = InR.cells { x with ix:=v }:=by
 unfold InR.cells;rw [List.set_append_right _ _ (by simp [h])];simp [h]
theorem InR.set33 (x : InR) (h : x.prev.length = 32) (A : Option Addr) (s : List UInt8) (c : Nat) : x.cells.set 33 (.slice A s.length c) = InR.cells { x with A:=A,sc:=s,cap:=c }:=by
 unfold InR.cells;rw [List.set_append_right _ _ (by simp [h])];simp [h]
theorem InR.set34 (x : InR) (h : x.prev.length = 32) (v : UInt32) : x.cells.set 34 (u32v v) = InR.cells { x with seq:=v }:=by
 unfold InR.cells;rw [List.set_append_right _ _ (by simp [h])];simp [h]
theorem InR.cell32 (x : InR) (h : x.prev.length = 32) : x.cells[32]? = some (u32v x.ix)∧x.cells[33]? = some (.slice x.A x.sc.length x.cap)∧x.cells[34]? = some (u32v x.seq):=by
 unfold InR.cells
 refine ⟨?_,?_,?_⟩ <;> (rw [List.getElem?_append_right (by simp [h])];simp [h])
theorem pad_splice {b : List UInt8} {p : SP} : splice (InR.cells ⟨z32,0,none,[],0,0⟩) 0 (((tkB b 32 p).map u8v).take 32) = InR.cells ⟨padH (tkB b 32 p),0,none,[],0,0⟩:=by
 rcases tkB_len b 32 p with q | q
 ·have h2 : ((tkB b 32 p).map u8v).length = 32:=by rw [List.length_map,q]
  rw [List.take_of_length_le (by omega)]
  unfold splice InR.cells padH
  rw [List.take_zero,List.nil_append,h2,Nat.zero_add,q]
  rw [show z32.drop 32 = [] from rfl,List.append_nil,List.drop_append_of_le_length (by decide),show (z32.map u8v).drop 32 = [] from rfl,List.nil_append]
 ·rw [q];rfl
theorem KeepB.gr {S : Nat} {w w' : World} (k : KeepB S w w') : w.grownBy w' (some S):=⟨k.1,k.2.1,k.2.2.1,k.2.2.2.1,fun j hj hn => k.2.2.2.2 j hj fun e => hn (by rw [e])⟩
theorem KeepB.new {S g : Nat} {w w1 w2 : World} (h : KeepB S w w1) (hg : w1.grownBy w2 (some g)) (hn : w.heap.size ≤ g) : KeepB S w w2 :=
 KeepX.grown h hg fun j hj q => by cases q;omega
theorem KeepB.blk {S g : Nat} {w w' : World} {t : TypeId} {cs : List Value} (k : KeepB S w w') (h : Blk w g t cs) (hn : g ≠ S) : Blk w' g t cs:=h.kx k hn
theorem tgetS_eq (b : List UInt8) : tgetS b = (⟨UInt32.ofNat (nmV b 4 (0,0)),none,(insS b (ctV b 1000 (tkP b 4 (0,0))) (cntE (ctV b 1000 (tkP b 4 (0,0))) (ctP b 1000 (tkP b 4 (0,0))))).1,0,none,
  (outsS b (ctV b 1000 (insS b (ctV b 1000 (tkP b 4 (0,0))) (cntE (ctV b 1000 (tkP b 4 (0,0))) (ctP b 1000 (tkP b 4 (0,0))))).2) (ctP b 1000 (insS b (ctV b 1000 (tkP b 4 (0,0))) (cntE (ctV b 1000 (tkP b 4 (0,0))) (ctP b 1000 (tkP b 4 (0,0))))).2)).1,0,
  UInt32.ofNat (nmV b 4 (outsS b (ctV b 1000 (insS b (ctV b 1000 (tkP b 4 (0,0))) (cntE (ctV b 1000 (tkP b 4 (0,0))) (ctP b 1000 (tkP b 4 (0,0))))).2) (ctP b 1000 (insS b (ctV b 1000 (tkP b 4 (0,0))) (cntE (ctV b 1000 (tkP b 4 (0,0))) (ctP b 1000 (tkP b 4 (0,0))))).2)).2)⟩,
  tkP b 4 (outsS b (ctV b 1000 (insS b (ctV b 1000 (tkP b 4 (0,0))) (cntE (ctV b 1000 (tkP b 4 (0,0))) (ctP b 1000 (tkP b 4 (0,0))))).2) (ctP b 1000 (insS b (ctV b 1000 (tkP b 4 (0,0))) (cntE (ctV b 1000 (tkP b 4 (0,0))) (ctP b 1000 (tkP b 4 (0,0))))).2)).2):=rfl
theorem GSt.tx {S T D r : Nat} {w0 w w' : World} {src : List Value} {ver lock : UInt32} {iA oA : Option Addr} {ic oc : Nat} {ds : List InR} {es : List OutR} (h : GSt S T D w0 w src ver (.slice iA ds.length ic) ds (.slice oA es.length oc) es)
  (hz : Blk w r 48 [.int .u32 0,.slice none 0 0,.slice none 0 0,.int .u32 0]) (hr : r < D) (k : KeepX (fun k => k = T ∨ k = r) w w') (hi : ds.length ≤ ic∧ic ≤ maxLen) (ho : es.length ≤ oc∧oc ≤ maxLen) :
  TxR.at ⟨ver,iA,ds,ic,oA,es,oc,lock⟩ w'∧∀ W,MidF (fun _ => True) w0 w' W → TxR.at ⟨ver,iA,ds,ic,oA,es,oc,lock⟩ W:=by
 have o1:=own_kx h.oi k (fun g q e => by have:=(h.iS g q).1;have:=h.st.2.2.1;omega)
 have o2:=own_kx h.oo k (fun g q e => by have:=(h.oS g q).1;have:=h.st.2.2.1;omega)
 have hY : ∀ g,g < w.heap.size → (g = T ∨ g = r) → GX S T D (.slice iA ds.length ic) (.slice oA es.length oc) g:=fun g _ q => q.elim (fun q => .inr (.inl q)) (fun q => .inr (.inr (.inr (.inr (by omega)))))
 have hX : ∀ g,g < w.heap.size → g < w0.heap.size → GX S T D (.slice iA ds.length ic) (.slice oA es.length oc) g:=fun g _ q => .inr (.inr (.inr (.inr (by have:=h.st.2.2.2;omega))))
 have hM : ∀ W,MidF (fun _ => True) w0 w' W → TxR.at ⟨ver,iA,ds,ic,oA,es,oc,lock⟩ W:=fun W hm =>
  ⟨own_mid o1 (by have:=h.st.2.2.2;omega) hm,own_mid o2 (by have:=h.st.2.2.2;omega) hm,hi,ho,fun x hx => ⟨(h.is x hx).1,(h.is x hx).2.1,((h.is x hx).2.2.kx k hY hX).mid hm⟩,fun x hx => ⟨(h.os x hx).1,(h.os x hx).2.1,((h.os x hx).2.2.kx k hY hX).mid hm⟩⟩
 exact ⟨hM w' ⟨trivial,fun _ _ _ => rfl⟩,hM⟩
theorem results_cell_tmp_tmp {P : Program} {fn : Func} {p u v : Tmp} {ty : TypeId} (h : fn.results = #[.cell p ty,.tmp u,.tmp v]) (tmps : Array Value) (w : World) (g : Nat) (t : TypeId) (cs : Array Value) (fr : Nat × Nat) (d : TypeDesc)
  (hp : tmps.getD p undef = .pointer (some ⟨g,0,none⟩)) (hg : w.heap[g]? = some (.cells cs t fr)) (hu : P.underlying ty = some d) (hd : (match d with | .struct _ | .array _ _ => true | _ => false) = true) (hi : (P.info? ty).map (·.size) = some cs.size) :
  (results fn tmps).run P w = .ok (.tuple #[.agg cs,tmps.getD u undef,tmps.getD v undef]) w:=by
 have hp' : tmps[p]?.getD undef = .pointer (some ⟨g,0,none⟩):=by simpa using hp
 simp [results,h,hp',asAddr,run_loadVar_row w g t ty cs fr d hg hu hd hi]
theorem txZ_at (w : World) : txZ.at w:=⟨Rd.nil _ _,Rd.nil _ _,⟨Nat.le_refl _,Nat.zero_le _⟩,⟨Nat.le_refl _,Nat.zero_le _⟩,(fun x q => by cases q),fun x q => by cases q⟩
theorem tx_info : (Tryd.prog.info? 48).map (·.size) = some 4:=by kernel_rfl
theorem KeepX.wide {X Y : Nat → Prop} {a b : World} (h : KeepX X a b) (hY : ∀ k,X k → Y k) : KeepX Y a b:=⟨h.1,h.2.1,h.2.2.1,h.2.2.2.1,fun k hk hn => h.2.2.2.2 k hk fun q => hn (hY k q)⟩
set_option maxRecDepth 100000 in
set_option maxHeartbeats 8000000 in
theorem tget_any (A : Option Addr) (b : List UInt8) (c : Nat) (w : World) (hl : b.length ≤ 1000000000) (hc : b.length ≤ c) (hcm : c ≤ maxLen) (hr : Rd w A (b.map u8v)) :
  Calls Tryd.prog 75 #[.slice A b.length c] w (Tgd (tgetN b) w):=by
 obtain ⟨ver,hver⟩ : ∃ v : UInt32,v = UInt32.ofNat (nmV b 4 (0,0)):=⟨_,rfl⟩
 have HRB:=Lib.hid hr
 have hl0 : (tkP b 4 (0,0)).1 ≤ b.length:=tkP_le (Nat.zero_le _)
 obtain ⟨L,hL⟩ : ∃ L,b.length = L:=⟨_,rfl⟩
 have HLL:=Lib.hid hL
 -- the reader's functions,at a world in which the reader lies at S
 have NUM : Hid (∀ (PB S m : Nat) (p : SP) (y : World),Keep w y → w.heap.size ≤ S → y.cell? ⟨PB,0,none⟩ = some (.pointer (some ⟨S,0,none⟩)) → Blk y S 187 (srcL A L c p) → p.1 ≤ L → m ≤ 8 → 0 < m →
   Calls Tryd.prog 89 #[iv m,.pointer (some ⟨PB,0,none⟩)] y (Red S 187 (srcL A L c (tkP b m p)) (u64v (nmV b m p)) y)):=Lib.hid fun PB S m p y hy hS h1 h2 h3 h4 h5 => by
  rw [← hL] at h2 h3 ⊢
  exact snum_any PB S _ A b c m p y h1 h2 h3 hc hl hcm h4 h5 (RdX.of_old (hr) (fun k q => by cases q;exact hS) |>.keep hy)
 have CNT : Hid (∀ (S : Nat) (p : SP) (y : World),Keep w y → w.heap.size ≤ S → Blk y S 187 (srcL A L c p) → p.1 ≤ L →
   Calls Tryd.prog 91 #[.pointer (some ⟨S,0,none⟩),u64v 1000] y (Red S 187 (srcL A L c (ctP b 1000 p)) (iv (ctV b 1000 p)) y)):=Lib.hid fun S p y hy hS h2 h3 => by
  rw [← hL] at h2 h3 ⊢
  exact scount_any S _ A b c 1000 (by omega) p y h2 h3 hc hl hcm (RdX.of_old (hr) (fun k q => by cases q;exact hS) |>.keep hy)
 have SCR : Hid (∀ (S : Nat) (p : SP) (y : World),Keep w y → w.heap.size ≤ S → Blk y S 187 (srcL A L c p) → p.1 ≤ L →
   Calls Tryd.prog 92 #[.pointer (some ⟨S,0,none⟩)] y (Scd S 187 (srcL A L c (scP b p)) (scV b p) y)):=Lib.hid fun S p y hy hS h2 h3 => by
  rw [← hL] at h2 h3 ⊢
  exact sscript_any S _ A b c p y h2 h3 hc hl hcm (RdX.of_old (hr) (fun k q => by cases q;exact hS) |>.keep hy)
 have TAK : Hid (∀ (S : Nat) (p : SP) (y : World),Keep w y → w.heap.size ≤ S → Blk y S 187 (srcL A L c p) → p.1 ≤ L →
   Calls Tryd.prog 90 #[.pointer (some ⟨S,0,none⟩),iv 32] y (Tkd S 187 (srcL A L c (tkP b 32 p)) (tkB b 32 p) y)):=Lib.hid fun S p y hy hS h2 h3 => by
  rw [← hL] at h2 h3 ⊢
  exact stake_any S _ A b c 32 p y h2 h3 hc hl hcm (by omega) (by omega) (RdX.of_old (hr) (fun k q => by cases q;exact hS) |>.keep hy)
 have HRR : Hid (tgetN b = if (tgetS b).2.2 = 0 then ((tgetS b).1,(tgetS b).2.1,0) else (txZ,0,(tgetS b).2.2)):=Lib.hid rfl
 rw [tgetS_eq,← hver] at HRR
 generalize tgetN b = R at *
 have HVER:=Lib.hid hver
 rw [hL] at hl0 hl hc ⊢
 clear hr hver hL
 go_enter Tryd.func75,Tryd.ntmps75
 go_upto_region 4 with fail
 obtain ⟨w0,hw0⟩ : ∃ w0,w0 = (((w.alloc (.cells #[.int .u32 0,.slice none 0 0,.slice none 0 0,.int .u32 0] 48)).alloc (.cells #[.slice A L c,.int .i64 0,.int .i64 0] 187)).alloc (.cells #[.pointer (some ⟨w.heap.size + 1,0,none⟩)] 185)).alloc (.cells #[.int .u32 0,.slice none 0 0,.slice none 0 0,.int .u32 0] 48):=⟨_,rfl⟩
 have HZ0 : Hid (Blk w0 w.heap.size 48 [.int .u32 0,.slice none 0 0,.slice none 0 0,.int .u32 0]):=by rw [hw0];exact Lib.hid ((((Blk.new w 48 [.int .u32 0,.slice none 0 0,.slice none 0 0,.int .u32 0]).alloc _).alloc _).alloc _)
 have HS0 : Hid (Blk w0 (w.heap.size + 1) 187 [.slice A L c,.int .i64 0,.int .i64 0]):=by
  rw [hw0]
  have q:=Blk.new (w.alloc (.cells #[.int .u32 0,.slice none 0 0,.slice none 0 0,.int .u32 0] 48)) 187 [.slice A L c,.int .i64 0,.int .i64 0]
  rw [World.size_alloc] at q
  exact Lib.hid ((q.alloc _).alloc _)
 have HP0 : Hid (Blk w0 (w.heap.size + 1 + 1) 185 [.pointer (some ⟨w.heap.size + 1,0,none⟩)]):=by
  rw [hw0]
  have q:=Blk.new ((w.alloc (.cells #[.int .u32 0,.slice none 0 0,.slice none 0 0,.int .u32 0] 48)).alloc (.cells #[.slice A L c,.int .i64 0,.int .i64 0] 187)) 185 [.pointer (some ⟨w.heap.size + 1,0,none⟩)]
  rw [World.size_alloc,World.size_alloc] at q
  exact Lib.hid (q.alloc _)
 have HT0 : Hid (Blk w0 (w.heap.size + 1 + 1 + 1) 48 [.int .u32 0,.slice none 0 0,.slice none 0 0,.int .u32 0]):=by
  rw [hw0]
  have q:=Blk.new (((w.alloc (.cells #[.int .u32 0,.slice none 0 0,.slice none 0 0,.int .u32 0] 48)).alloc (.cells #[.slice A L c,.int .i64 0,.int .i64 0] 187)).alloc (.cells #[.pointer (some ⟨w.heap.size + 1,0,none⟩)] 185)) 48 [.int .u32 0,.slice none 0 0,.slice none 0 0,.int .u32 0]
  rw [World.size_alloc,World.size_alloc,World.size_alloc] at q
  exact Lib.hid q
 have HK0 : Hid (Keep w w0):=by rw [hw0];exact Lib.hid (keep_trans (keep_trans (keep_trans (keep_new _ _) (keep_new _ _)) (keep_new _ _)) (keep_new _ _))
 have hsz0 : w.heap.size + 1 + 1 + 1 < w0.heap.size:=HT0.out.lt
 rw [← hw0]
 clear hw0
 obtain ⟨r,hr⟩ : ∃ r,w.heap.size = r:=⟨_,rfl⟩
 obtain ⟨S,hS⟩ : ∃ S,r + 1 = S:=⟨_,rfl⟩
 obtain ⟨PB,hPB⟩ : ∃ PB,S + 1 = PB:=⟨_,rfl⟩
 obtain ⟨T,hT⟩ : ∃ T,PB + 1 = T:=⟨_,rfl⟩
 have HRW : Hid (w.heap.size = r):=Lib.hid hr
 rw [hr,hS] at HS0;rw [hr,hS,hPB] at HP0;rw [hr,hS,hPB,hT] at HT0 hsz0;rw [hr] at HZ0
 simp only [hr,hS,hPB,hT]
 have l1 : r < S:=by omega
 have l2 : S < PB:=by omega
 have l3 : PB < T:=by omega
 have HWS : Hid (w.heap.size ≤ S):=Lib.hid (by omega)
 clear hr hS hPB hT
 have G0 : Hid (GSt S T w0.heap.size w0 w0 (srcL A L c (0,0)) 0 (.slice none 0 0) [] (.slice none 0 0) []):=Lib.hid ⟨HS0.out,HT0.out,World.ownsRow_nil _ _ _ _,World.ownsRow_nil _ _ _ _,(fun g q => by cases q),(fun x hx => by cases hx),(fun x hx => by cases hx),KeepX.of (Below.refl _ _),by omega,by omega,by omega,rfl⟩
 clear HS0 HT0
 obtain ⟨V0,hV0⟩ : ∃ V,nmV b 4 (0,0) = V:=⟨_,rfl⟩
 have hvv : (V0 : Int) % 4294967296 = (ver.toNat : Int):=by rw [HVER.out,hV0,UInt32.toNat_ofNat'];omega
 have hvw : IntKind.u32.wrap (V0 : Int) = (ver.toNat : Int):=by rw [IntKind.wrap_u32];exact hvv
 have N0:=NUM.out PB S 4 (0,0) w0 HK0.out HWS.out (HP0.out.cell 0) G0.out.hs (Nat.zero_le _) (by omega) (by omega)
 rw [hV0] at N0
 have N0:=Lib.hid N0
 clear hV0 HVER
 obtain ⟨p1,hp1⟩ : ∃ p,tkP b 4 (0,0) = p:=⟨_,rfl⟩
 rw [hp1] at hl0 HRR N0
 clear hp1
 have KW : Hid (∀ y src ver vi ds vo es,GSt S T w0.heap.size w0 y src ver vi ds vo es → Keep w y):=Lib.hid fun y src ver vi ds vo es h => h.kx.keep HK0.out (fun j q => by have:=HWS.out;rcases q with q | q <;> omega)
 have PBC : Hid (∀ y src ver vi ds vo es,GSt S T w0.heap.size w0 y src ver vi ds vo es → y.cell? ⟨PB,0,none⟩ = some (.pointer (some ⟨S,0,none⟩))):=Lib.hid fun y src ver vi ds vo es h => h.far (HP0.out.cell 0) (by omega) (by omega)
 go_upto_region 5 with (go_at_call 89;refine N0.out.mono ?_;rintro e w1 ⟨rfl,hb1,hk1⟩;have G1:=Lib.hid (G0.out.read hb1 hk1);have t0:=G1.out.ht.cell 0;have f0:=G1.out.ht.frozen 0;try simp only [List.getElem?_cons_zero] at t0;clear hb1 hk1)
 obtain ⟨w2,hw2⟩ : ∃ w2,w2 = w1.setCell ⟨T,0,none⟩ (.int .u32 ver.toNat):=⟨_,rfl⟩
 have G2 : Hid (GSt S T w0.heap.size w0 w2 (srcL A L c p1) ver (.slice none 0 0) [] (.slice none 0 0) []):=by rw [hw2];exact Lib.hid (G1.out.vers ver)
 rw [← hw2]
 clear hw2 G0 G1 t0 f0 N0 hvv hvw
 have pb:=PBC.out _ _ _ _ _ _ _ G2.out
 have C2:=Lib.hid (CNT.out S p1 w2 (KW.out _ _ _ _ _ _ _ G2.out) HWS.out G2.out.hs hl0)
 obtain ⟨n,hn⟩ : ∃ n,ctV b 1000 p1 = n:=⟨_,rfl⟩
 obtain ⟨p2,hp2⟩ : ∃ p,ctP b 1000 p1 = p:=⟨_,rfl⟩
 have hn1000 : n ≤ 1000:=by rw [← hn];exact ctV_le _ _ _
 have hl2 : p2.1 ≤ L:=by rw [← hp2,← HLL.out];exact ctP_le (by rw [HLL.out];exact hl0)
 rw [hn,hp2] at C2 HRR
 clear hn hp2
 go_upto_region 6 with (go_at_call 91;refine C2.out.mono ?_;rintro e w3 ⟨rfl,hb3,hk3⟩;have G3:=Lib.hid (G2.out.read hb3 hk3);clear hb3 hk3)
 clear pb C2 G2
 obtain ⟨a2,e2⟩:=p2
 obtain ⟨p3,hp3⟩ : ∃ p,cntE n (a2,e2) = p:=⟨_,rfl⟩
 have hl3 : p3.1 ≤ L:=by rw [← hp3];unfold cntE;split <;> exact hl2
 rw [hp3] at HRR
 have HP3:=Lib.hid hp3
 clear hp3 hl0 hl2
 obtain ⟨Q,hQ⟩ : ∃ Q,decide (e2 = 0∧n = 0) = Q:=⟨_,rfl⟩
 have HQ:=Lib.hid hQ
 clear hQ
 go_cut [8,32] (fun v q wx => v = .int .i64 n∧q = .bool Q∧wx = w3)
 case first =>
  have pb:=PBC.out _ _ _ _ _ _ _ G3.out
  have s2:=G3.out.hs.cell 2
  try simp only [List.getElem?_cons_succ,List.getElem?_cons_zero] at s2
  have hq:=HQ.out
  by_cases q0 : e2 = 0
  ·have d1 : (e2 == 0) = true:=by rw [q0];rfl
   by_cases qn : n = 0
   ·have d2 : ((n : Int) == 0) = true:=by rw [qn];rfl
    rw [decide_eq_true (show e2 = 0∧n = 0 from ⟨q0,qn⟩)] at hq
    subst hq
    clear q0 qn HQ HP3
    go_wp2_with fail
    go_meet
    exact ⟨rfl,rfl,rfl⟩
   ·have d2 : ((n : Int) == 0) = false:=by rw [beq_eq_false_iff_ne];omega
    rw [decide_eq_false (show ¬ (e2 = 0∧n = 0) from fun q => qn q.2)] at hq
    subst hq
    clear q0 qn HQ HP3
    go_wp2_with fail
    go_meet
    exact ⟨rfl,rfl,rfl⟩
  ·have d1 : (e2 == 0) = false:=by rw [beq_eq_false_iff_ne];exact q0
   rw [decide_eq_false (show ¬ (e2 = 0∧n = 0) from fun q => q0 q.1)] at hq
   subst hq
   clear q0 HQ HP3
   go_wp2_with fail
   go_meet
   exact ⟨rfl,rfl,rfl⟩
 case rest =>
 obtain ⟨rfl,rfl,rfl⟩:=hcut
 go_upto_if 32 with fail
 go_cut [8] (fun v wx => v = .int .i64 n∧Hid (GSt S T w0.heap.size w0 wx (srcL A L c p3) ver (.slice none 0 0) [] (.slice none 0 0) []))
 case first =>
  have pb:=PBC.out _ _ _ _ _ _ _ G3.out
  have f2:=G3.out.hs.frozen 2;have s2:=G3.out.hs.cell 2
  try simp only [List.getElem?_cons_succ,List.getElem?_cons_zero] at s2
  have hp3:=HP3.out
  unfold cntE at hp3
  simp only at hp3
  cases Q with
  | true =>
    rw [if_pos (of_decide_eq_true HQ.out)] at hp3
    subst hp3
    have HZ : Hid (GSt S T w0.heap.size w0 (wc.setCell ⟨S,2,none⟩ (.int .i64 2)) (srcL A L c (a2,2)) ver (.slice none 0 0) [] (.slice none 0 0) []):=Lib.hid (G3.out.read (G3.out.hs.set_ 2 _) (KeepB.set (KeepX.of (Below.refl _ _)) 2 _))
    clear HP3 HQ
    go_wp2_with fail
    go_meet
    exact ⟨rfl,HZ⟩
  | false =>
    rw [if_neg (of_decide_eq_false HQ.out)] at hp3
    subst hp3
    clear HP3 HQ
    go_wp2_with fail
    go_meet
    exact ⟨rfl,G3⟩
 case rest =>
  obtain ⟨rfl,G4⟩:=hcut
  clear HP3 G3
  have HI0 : Hid (insS b n p3 = (([] : List InR).map InR.pl ++ (insS b (n - 0) p3).1,(insS b (n - 0) p3).2)):=Lib.hid (by simp)
  obtain ⟨zs,hz1,hz2,hz3,hzA⟩:=zin_letter
  have HZA:=Lib.hid hzA
  clear hzA
  go_upto_block 0 with fail
  go_cut [8] (fun v wx => v = .int .i64 n∧∃ (vi : Value) (ds : List InR),Hid (GSt S T w0.heap.size w0 wx (srcL A L c (insS b n p3).2) ver vi ds (.slice none 0 0) [])∧Hid (ds.map InR.pl = (insS b n p3).1)∧ds.length ≤ 1000)
  case first =>
   go_wp2_with fail
   go_loopw [9] (fun x wr => ∃ (i : Nat) (p : SP) (vi : Value) (ds : List InR),i ≤ n∧x = .int .i64 i∧ds.length = i∧p.1 ≤ L∧Hid (GSt S T w0.heap.size w0 wr (srcL A L c p) ver vi ds (.slice none 0 0) [])∧Hid (insS b n p3 = (ds.map InR.pl ++ (insS b (n - i) p).1,(insS b (n - i) p).2))) (fun x _ => n - (intOf x).toNat)
   case atStart => exact ⟨0,p3,.slice none 0 0,[],Nat.zero_le _,rfl,rfl,hl3,G4,HI0⟩
   case round =>
    obtain ⟨i,p,vi,ds,hi,rfl,hdl,hpl,Gr,HIr⟩:=hrel
    obtain ⟨a,e0⟩:=p
    have HDL:=Lib.hid hdl
    have pb:=PBC.out _ _ _ _ _ _ _ Gr.out
    have s2:=Gr.out.hs.cell 2
    try simp only [List.getElem?_cons_succ,List.getElem?_cons_zero] at s2
    clear hdl
    by_cases hlt : i < n
    case neg =>
     obtain rfl : i = n:=by omega
     have d1 : ¬ (i : Int) < i:=by omega
     have hE:=HIr.out
     rw [Nat.sub_self] at hE
     have HE : Hid (insS b i p3 = (ds.map InR.pl,(a,e0))):=Lib.hid (by rw [hE];simp [insS])
     clear hE HIr
     go_wp2_with fail
     go_meet
     exact ⟨rfl,vi,ds,by rw [HE.out];exact Gr,Lib.hid (by rw [HE.out]),by rw [HDL.out];omega⟩
    by_cases h0 : e0 = 0
    case neg =>
     have d1 : (i : Int) < n:=by omega
     have d2 : (e0 == 0) = false:=by rw [beq_eq_false_iff_ne];exact h0
     have HE : Hid (insS b n p3 = (ds.map InR.pl,(a,e0))):=Lib.hid (by rw [HIr.out,insS_err b _ h0];simp)
     clear HIr h0
     go_wp2_with fail
     go_meet
     exact ⟨rfl,vi,ds,by rw [HE.out];exact Gr,Lib.hid (by rw [HE.out]),by rw [HDL.out];omega⟩
    subst h0
    have d1 : (i : Int) < n:=by omega
    have HIn : Hid (insS b n p3 = ((ds ++ [(inS b (a,0)).1]).map InR.pl ++ (insS b (n - (i + 1)) (inS b (a,0)).2).1,(insS b (n - (i + 1)) (inS b (a,0)).2).2)):=Lib.hid (by
     rw [HIr.out,show n - i = (n - (i + 1)) + 1 by omega]
     show _ = _
     rw [insS,if_pos rfl]
     simp [InR.pl,inS])
    have KR:=Lib.hid (KW.out _ _ _ _ _ _ _ Gr.out)
    have PBR:=Lib.hid pb
    have KRB : Hid (∀ y,KeepB S wr y → Keep w y):=Lib.hid fun y k => k.keep KR.out fun j q => by have:=HWS.out;omega
    have PRB : Hid (∀ y,KeepB S wr y → y.cell? ⟨PB,0,none⟩ = some (.pointer (some ⟨S,0,none⟩))):=Lib.hid fun y k => k.cell PBR.out (by omega)
    clear HIr PBR
    go_upto_region 12 with fail
    obtain ⟨w5,hw5⟩ : ∃ w5,w5 = wr.alloc (.cells zs 127):=⟨_,rfl⟩
    have HX5 : Hid (Blk w5 wr.heap.size 127 (InR.cells ⟨z32,0,none,[],0,0⟩)):=by rw [hw5,← HZA.out.l];exact Lib.hid (Blk.new wr 127 zs.toList)
    have HK5 : Hid (KeepB S wr w5):=by rw [hw5];exact Lib.hid (KeepX.of (keep_new _ _))
    have HS5 : Hid (Blk w5 S 187 (srcL A L c (a,0))):=by rw [hw5];exact Lib.hid (Gr.out.hs.alloc _)
    have KR5 : Hid (Keep w w5):=by rw [hw5];exact Lib.hid (keep_trans KR.out (keep_new _ _))
    have pb5 : w5.cell? ⟨PB,0,none⟩ = some (.pointer (some ⟨S,0,none⟩)):=by rw [hw5];exact keep_cell (keep_new _ _) pb
    have HPB5:=Lib.hid pb5
    have hgS : wr.heap.size ≠ S:=by have:=Gr.out.hs.lt;omega
    have hszw : w.heap.size ≤ wr.heap.size:=KR.out.size
    rw [← hw5]
    clear hw5 pb pb5 s2 KR
    obtain ⟨gi,hgi⟩ : ∃ g,wr.heap.size = g:=⟨_,rfl⟩
    have HGI:=Lib.hid hgi
    rw [hgi] at HX5 hgS hszw
    simp only [hgi]
    clear hgi
    letI iM : G.Mk:=⟨some S⟩
    refine G.wp_region_tree (.take [0,1,2] (.force [3] .done)) [4] (by kernel_rfl) (by kernel_rfl) (fun w6 k6 => ?_)
    have HX6:=Lib.hid (HX5.out.keep k6);have HK6 : Hid (KeepB S wr w6):=Lib.hid (HK5.out.trans (KeepX.of k6) fun _ _ q => q);have HS6:=Lib.hid (HS5.out.keep k6);have KR6:=Lib.hid (keep_trans KR5.out k6)
    have hneP : G.Mk.m ≠ some PB:=fun q => by have e : S = PB:=Option.some.inj q;omega
    have b1:=G.aftG_cell (keep_cell k6 HPB5.out) hneP
    clear k6 HX5 HK5 HS5 KR5 HPB5
    refine G.mt_take w6 (G.Gr.refl _) ?_
    simp only [pick_cons,pick_nil,nth_zero,nth_succ]
    repeat (go_big_quiet_step (fail))
    refine wpQuiet_nil (G.mt_force ?_)
    clear b1 hneP
    simp only [pick_cons,pick_nil,nth_zero,nth_succ]
    refine G.fc_step rfl (fun K hK => ?_)
    go_simp
    (with_reducible refine (TAK.out S (a,0) w6 KR6.out HWS.out HS6.out hpl).mono ?_)
    rintro e w7 ⟨A7,c7,rfl,hr7,hb7,hk7⟩
    refine hK _ _ hk7.gr ?_
    clear hK K
    have HX7:=Lib.hid (hk7.blk HX6.out hgS);have HK7 : Hid (KeepB S wr w7):=Lib.hid (HK6.out.trans hk7 fun _ _ q => q);have HS7:=Lib.hid hb7;have HR7:=Lib.hid hr7
    clear hr7 hb7 hk7 HX6 HK6 HS6
    refine G.fc_nil (G.mt_end ?_)
    clear iM
    refine wpList_cpy byteT (by rfl) _ _ (by rfl) gi 0 32 32 (by rfl) A7 (tkB b 32 (a,0)).length c7 ((tkB b 32 (a,0)).map u8v) (by rfl) (by rw [List.length_map]) HR7.out.rd (one_bytes _) (InR.cells ⟨z32,0,none,[],0,0⟩) _ HX7.out (by rw [InR.len rfl];rcases tkB_len b 32 (a,0) with q | q <;> rw [q] <;> simp) ?_
    intro w8 hw8 hg8
    simp only [Act.put,Array.set!_eq_setIfInBounds,List.setIfInBounds_toArray,List.set_cons_succ,List.set_cons_zero]
    have HX8 : Hid (Blk w8 gi 127 (InR.cells ⟨padH (tkB b 32 (a,0)),0,none,[],0,0⟩)):=Lib.hid (by have q:=hw8.out;rw [pad_splice] at q;exact q)
    have HS8:=Lib.hid (HS7.out.grown hg8 (fun q => hgS (Option.some.inj q)))
    have hgr : wr.heap.size ≤ gi:=Nat.le_of_eq HGI.out
    have HK8:=Lib.hid (HK7.out.new hg8 hgr)
    have hpd : (padH (tkB b 32 (a,0))).length = 32:=padH_len
    clear hw8 hg8 HX7 HS7 HK7 HR7 KR6
    obtain ⟨PV,hPV⟩ : ∃ l,padH (tkB b 32 (a,0)) = l:=⟨_,rfl⟩
    obtain ⟨q1,hq1⟩ : ∃ p,tkP b 32 (a,0) = p:=⟨_,rfl⟩
    have hq1l : q1.1 ≤ L:=by rw [← hq1,← HLL.out];exact tkP_le (by rw [HLL.out];exact hpl)
    rw [hPV] at HX8 hpd
    rw [hq1] at HS8
    have HPV:=Lib.hid hPV;have HQ1:=Lib.hid hq1
    clear hPV hq1
    -- the index
    obtain ⟨ix,hix⟩ : ∃ v : UInt32,v = UInt32.ofNat (nmV b 4 q1):=⟨_,rfl⟩
    obtain ⟨V1,hV1⟩ : ∃ V,nmV b 4 q1 = V:=⟨_,rfl⟩
    have hvv : (V1 : Int) % 4294967296 = (ix.toNat : Int):=by rw [hix,hV1,UInt32.toNat_ofNat'];omega
    have hvw : IntKind.u32.wrap (V1 : Int) = (ix.toNat : Int):=by rw [IntKind.wrap_u32];exact hvv
    have N1:=NUM.out PB S 4 q1 w8 (KRB.out _ HK8.out) HWS.out (PRB.out _ HK8.out) HS8.out hq1l (by omega) (by omega)
    obtain ⟨q2,hq2⟩ : ∃ p,tkP b 4 q1 = p:=⟨_,rfl⟩
    have hq2l : q2.1 ≤ L:=by rw [← hq2,← HLL.out];exact tkP_le (by rw [HLL.out];exact hq1l)
    rw [hV1,hq2] at N1
    have N1:=Lib.hid N1
    have HIX:=Lib.hid hix;have HQ2:=Lib.hid hq2
    clear hix hV1 hq2
    go_upto_region 14 with (go_at_call 89;refine N1.out.mono ?_;rintro e w9 ⟨rfl,hb9,hk9⟩;have HX9:=Lib.hid (hk9.blk HX8.out hgS);have HK9 : Hid (KeepB S wr w9):=Lib.hid (HK8.out.trans hk9 fun _ _ q => q);have HS9:=Lib.hid hb9;have x32:=HX9.out.cell 32;have f32:=HX9.out.frozen 32;rw [(InR.cell32 _ hpd).1] at x32;clear hb9 hk9)
    obtain ⟨w10,hw10⟩ : ∃ w10,w10 = w9.setCell ⟨gi,32,none⟩ (.int .u32 ix.toNat):=⟨_,rfl⟩
    have HX10 : Hid (Blk w10 gi 127 (InR.cells ⟨PV,ix,none,[],0,0⟩)):=by rw [hw10];exact Lib.hid (by have q:=HX9.out.set_ 32 (u32v ix);rw [InR.set32 _ hpd] at q;exact q)
    have HS10 : Hid (Blk w10 S 187 (srcL A L c q2)):=by rw [hw10];exact Lib.hid (HS9.out.far (fun q => hgS q.symm) _)
    have HK10 : Hid (KeepB S wr w10):=by rw [hw10];exact Lib.hid (HK9.out.new (grown_set (grown_refl w9 _)) hgr)
    rw [← hw10]
    clear hw10 x32 f32 HX8 HS8 HK8 HX9 HS9 HK9 N1 hvv hvw
    -- the script
    have S1:=SCR.out S q2 w10 (KRB.out _ HK10.out) HWS.out HS10.out hq2l
    have hsl:=scV_le b q2
    obtain ⟨sc,hsc⟩ : ∃ s,scV b q2 = s:=⟨_,rfl⟩
    obtain ⟨q3,hq3⟩ : ∃ p,scP b q2 = p:=⟨_,rfl⟩
    have hq3l : q3.1 ≤ L:=by rw [← hq3,← HLL.out];exact scP_le (by rw [HLL.out];exact hq2l)
    rw [hsc] at S1 hsl
    rw [hq3] at S1
    have S1:=Lib.hid S1
    have HSC:=Lib.hid hsc;have HQ3:=Lib.hid hq3
    have pb:=PRB.out _ HK10.out
    have hg10:=HX10.out.lt
    clear hsc hq3
    go_upto_region 15 with (go_at_call 92;refine S1.out.mono ?_;rintro e w11 ⟨v11,rfl,hown11,hb11,hk11⟩;obtain ⟨Av,cv,rfl,hcv1,hcv2,-⟩:=own_form hown11;have HX11:=Lib.hid (hk11.blk HX10.out hgS);have HK11 : Hid (KeepB S wr w11):=Lib.hid (HK10.out.trans hk11 fun _ _ q => q);have HS11:=Lib.hid hb11;have OW11:=Lib.hid hown11;have x33:=HX11.out.cell 33;have f33:=HX11.out.frozen 33;rw [(InR.cell32 _ hpd).2.1] at x33;clear hb11 hk11 hown11)
    obtain ⟨w12,hw12⟩ : ∃ w12,w12 = w11.setCell ⟨gi,33,none⟩ (.slice Av sc.length cv):=⟨_,rfl⟩
    have HX12 : Hid (Blk w12 gi 127 (InR.cells ⟨PV,ix,Av,sc,cv,0⟩)):=by rw [hw12];exact Lib.hid (by have q:=HX11.out.set_ 33 (.slice Av sc.length cv);rw [InR.set33 _ hpd] at q;exact q)
    have HS12 : Hid (Blk w12 S 187 (srcL A L c q3)):=by rw [hw12];exact Lib.hid (HS11.out.far (fun q => hgS q.symm) _)
    have HK12 : Hid (KeepB S wr w12):=by rw [hw12];exact Lib.hid (HK11.out.new (grown_set (grown_refl w11 _)) hgr)
    have OW12 : Hid (w12.ownsRow w10.heap.size 5 1 (.slice Av sc.length cv) sc.length (sc.map u8v)):=by rw [hw12];exact Lib.hid (ownsRow_setCell_below OW11.out (a:=⟨gi,33,none⟩) hg10 _)
    rw [← hw12]
    clear hw12 x33 f33 HX10 HS10 HK10 HX11 HS11 HK11 OW11 S1 pb
    obtain ⟨B10,hB10⟩ : ∃ k,w10.heap.size = k:=⟨_,rfl⟩
    rw [hB10] at OW12 hg10
    clear hB10
    -- the sequence
    obtain ⟨sq,hsq⟩ : ∃ v : UInt32,v = UInt32.ofNat (nmV b 4 q3):=⟨_,rfl⟩
    obtain ⟨V1,hV1⟩ : ∃ V,nmV b 4 q3 = V:=⟨_,rfl⟩
    have hvv : (V1 : Int) % 4294967296 = (sq.toNat : Int):=by rw [hsq,hV1,UInt32.toNat_ofNat'];omega
    have hvw : IntKind.u32.wrap (V1 : Int) = (sq.toNat : Int):=by rw [IntKind.wrap_u32];exact hvv
    have N1:=NUM.out PB S 4 q3 w12 (KRB.out _ HK12.out) HWS.out (PRB.out _ HK12.out) HS12.out hq3l (by omega) (by omega)
    obtain ⟨q4,hq4⟩ : ∃ p,tkP b 4 q3 = p:=⟨_,rfl⟩
    have hq4l : q4.1 ≤ L:=by rw [← hq4,← HLL.out];exact tkP_le (by rw [HLL.out];exact hq3l)
    rw [hV1,hq4] at N1
    have N1:=Lib.hid N1
    have HSQ:=Lib.hid hsq;have HQ4:=Lib.hid hq4
    clear hsq hV1 hq4
    go_upto_region 16 with (go_at_call 89;refine N1.out.mono ?_;rintro e w13 ⟨rfl,hb13,hk13⟩;have HX13:=Lib.hid (hk13.blk HX12.out hgS);have HK13 : Hid (KeepB S wr w13):=Lib.hid (HK12.out.trans hk13 fun _ _ q => q);have HS13:=Lib.hid hb13;have OW13:=Lib.hid (own_kx OW12.out hk13 (fun g q e => by have:=(OW12.out.lt g q).1;have:=Gr.out.hs.lt;omega));have x34:=HX13.out.cell 34;have f34:=HX13.out.frozen 34;rw [(InR.cell32 _ hpd).2.2] at x34;clear hb13 hk13)
    obtain ⟨w14,hw14⟩ : ∃ w14,w14 = w13.setCell ⟨gi,34,none⟩ (.int .u32 sq.toNat):=⟨_,rfl⟩
    have HX14 : Hid (Blk w14 gi 127 (InR.cells ⟨PV,ix,Av,sc,cv,sq⟩)):=by rw [hw14];exact Lib.hid (by have q:=HX13.out.set_ 34 (u32v sq);rw [InR.set34 _ hpd] at q;exact q)
    have HS14 : Hid (Blk w14 S 187 (srcL A L c q4)):=by rw [hw14];exact Lib.hid (HS13.out.far (fun q => hgS q.symm) _)
    have HK14 : Hid (KeepB S wr w14):=by rw [hw14];exact Lib.hid (HK13.out.new (grown_set (grown_refl w13 _)) hgr)
    have OW14 : Hid (w14.ownsRow B10 5 1 (.slice Av sc.length cv) sc.length (sc.map u8v)):=by rw [hw14];exact Lib.hid (ownsRow_setCell_below OW13.out (a:=⟨gi,34,none⟩) hg10 _)
    rw [← hw14]
    clear hw14 x34 f34 HX12 HS12 HK12 HX13 HS13 HK13 OW12 OW13 N1 hvv hvw
    have G14:=Lib.hid (Gr.out.read HS14.out HK14.out)
    obtain ⟨x4,hx4⟩ : ∃ x : InR,(⟨PV,ix,Av,sc,cv,sq⟩ : InR) = x:=⟨_,rfl⟩
    have HX4 : Hid (x4.pl = (inS b (a,0)).1∧(inS b (a,0)).2 = q4):=Lib.hid (by
     rw [← hx4]
     unfold inS InR.pl
     simp only [HQ1.out,HQ2.out,HQ3.out,HQ4.out,HPV.out,HIX.out,HSC.out,HSQ.out,and_self])
    obtain ⟨xs,hxs⟩ : ∃ xs,InA x4 xs:=⟨_,InA.of (by rw [← hx4];exact hpd)⟩
    rw [hx4,← hxs.l] at HX14
    have hxz:=hxs.z;have hxn:=hxs.n;have hxi:=hxs.i
    have HXO:=Lib.hid hxs.o
    have HXC : Hid (x4.prev.length = 32∧(x4.sc.length ≤ x4.cap∧x4.cap ≤ maxLen)∧RdN (GX S T w0.heap.size vi (.slice none 0 0)) w14 x4.A (x4.sc.map u8v)):=Lib.hid (by
     rw [← hx4]
     refine ⟨hpd,⟨hcv1,hcv2⟩,RdN.of_own OW14.out fun g hg q => ?_⟩
     have hz1:=Gr.out.hs.lt;have hz2:=Gr.out.ht.lt;have hz3:=HGI.out
     have hz4:=Gr.out.size
     rcases q with q | q | q | q | q
     ·omega
     ·omega
     ·have:=(Gr.out.iS g q).2;omega
     ·cases q
     ·omega)
    have HXL:=Lib.hid hxs.l
    clear hx4 hxs HPV HQ1 HQ2 HQ3 HQ4 HIX HSC HSQ OW14 HS14 hcv1 hcv2 hsl
    have RX : Hid (w14.rangeAt gi 0 xs.toList):=Lib.hid (range_of HX14.out 0 xs.toList (by simp [List.take_of_length_le]))
    have t1:=G14.out.ht.cell 1
    try simp only [List.getElem?_cons_succ,List.getElem?_cons_zero] at t1
    have hsz14:=G14.out.size
    obtain ⟨Avi,cvi,rfl,-,-,-⟩:=own_form G14.out.oi
    have hdl1 : ds.length ≤ 1000:=by have:=HDL.out;omega
    go_wp2_with (first
     | ((with_reducible refine load_partg gi 0 xs (Eq.trans ?_ rfl) RX.out _ Tryd.underlying127 rfl hxi rfl ?_);rfl)
     | ((with_reducible refine list_build1h inT xs hxz (by omega) (Eq.trans ?_ rfl) ?_);rfl)
     | (at_builtin;refine wpList_app inT (by rfl) _ _ (by rfl) w0.heap.size _ ds.length _ (by rfl) (G14.out.oi.alloc _) _ 1 1 xs.toList (by rfl) (by rw [Array.length_toList,hxz]) (by simpa using Rd.new w14 xs.toList 127) HXO.out (by omega) (by unfold maxLen;omega) (by simp;omega) ?_;intro v15 w15 own15 hg15 hat15;obtain ⟨Aw,cw,rfl,-,-,-⟩:=own_form own15;have HT15:=(G14.out.ht.alloc (.cells xs 127)).grown hg15 (fun q => absurd (G14.out.iS T q).1 (by have:=G14.out.st.2.2.1;omega));have t15:=HT15.cell 1;have f15:=HT15.frozen 1;simp only [List.getElem?_cons_succ,List.getElem?_cons_zero] at t15;have Own15:=Lib.hid own15;have Gg15:=Lib.hid hg15;have At15:=Lib.hid hat15;clear own15 hg15 hat15 HT15))
    have GN : Hid (GSt S T w0.heap.size w0 (w15.setCell ⟨T,1,none⟩ (.slice Aw (ds.length + 1) cw)) (srcL A L c q4) ver (.slice Aw (ds.length + 1) cw) (ds ++ [x4]) (.slice none 0 0) []):=Lib.hid (by
     have o2:=Own15.out
     rw [HXL.out] at o2
     exact (G14.out.keep (keep_new _ _)).inp o2 Gg15.out (At15.out.imp id fun e => ⟨_,e,Nat.le_refl _⟩) ⟨HXC.out.1,HXC.out.2.1,HXC.out.2.2.kx (Y:=fun _ => False) (KeepX.of (keep_new _ _)) (fun _ _ q => q.elim) (fun _ _ q => q)⟩)
    have HIe : Hid (insS b n p3 = ((ds ++ [x4]).map InR.pl ++ (insS b (n - (i + 1)) q4).1,(insS b (n - (i + 1)) q4).2)):=Lib.hid (by
     rw [HIn.out,HX4.out.2]
     have e : InR.pl (inS b (a,0)).1 = x4.pl:=by rw [HX4.out.1];rfl
     simp [e])
    clear Own15 Gg15 At15 HXC HXL HXO t15 f15 t1 RX HIn HX4
    go_roundw
    case rel => exact ⟨i + 1,q4,_,ds ++ [x4],by omega,by go_num,by rw [List.length_append,HDL.out];rfl,hq4l,GN,HIe⟩
    case measure => simp [intOf];omega
  case rest =>
   obtain ⟨rfl,vi,ds,G5,HDS,hdl⟩:=hcut
   have hI5 : (insS b n p3).2.1 ≤ L:=by rw [← HLL.out];exact insS_le n (by rw [HLL.out];exact hl3)
   clear G4 HI0
   generalize insS b n p3 = IR at *
   obtain ⟨is,p5⟩:=IR
   simp only at G5 HDS hI5 HRR
   have pb:=PBC.out _ _ _ _ _ _ _ G5.out
   have C2:=Lib.hid (CNT.out S p5 wc (KW.out _ _ _ _ _ _ _ G5.out) HWS.out G5.out.hs hI5)
   obtain ⟨m,hm⟩ : ∃ m,ctV b 1000 p5 = m:=⟨_,rfl⟩
   obtain ⟨p6,hp6⟩ : ∃ p,ctP b 1000 p5 = p:=⟨_,rfl⟩
   have hm1000 : m ≤ 1000:=by rw [← hm];exact ctV_le _ _ _
   have hl6 : p6.1 ≤ L:=by rw [← hp6,← HLL.out];exact ctP_le (by rw [HLL.out];exact hI5)
   rw [hm,hp6] at C2 HRR
   clear hm hp6
   go_upto_region 18 with (go_at_call 91;refine C2.out.mono ?_;rintro e w3 ⟨rfl,hb3,hk3⟩;have G6:=Lib.hid (G5.out.read hb3 hk3);clear hb3 hk3)
   clear pb C2 G5
   have HO0 : Hid (outsS b m p6 = (([] : List OutR).map OutR.pl ++ (outsS b (m - 0) p6).1,(outsS b (m - 0) p6).2)):=Lib.hid (by simp)
   have HDLI:=Lib.hid hdl
   go_upto_block 2 with fail
   go_cut [11] (fun v wx => v = .int .i64 m∧∃ (vo : Value) (es : List OutR),Hid (GSt S T w0.heap.size w0 wx (srcL A L c (outsS b m p6).2) ver vi ds vo es)∧Hid (es.map OutR.pl = (outsS b m p6).1)∧es.length ≤ 1000)
   case first =>
    go_wp2_with fail
    go_loopw [12] (fun x wr => ∃ (i : Nat) (p : SP) (vo : Value) (es : List OutR),i ≤ m∧x = .int .i64 i∧es.length = i∧p.1 ≤ L∧Hid (GSt S T w0.heap.size w0 wr (srcL A L c p) ver vi ds vo es)∧Hid (outsS b m p6 = (es.map OutR.pl ++ (outsS b (m - i) p).1,(outsS b (m - i) p).2))) (fun x _ => m - (intOf x).toNat)
    case atStart => exact ⟨0,p6,.slice none 0 0,[],Nat.zero_le _,rfl,rfl,hl6,G6,HO0⟩
    case round =>
     obtain ⟨i,p,vo,es,hi,rfl,hdl2,hpl,Gr,HIr⟩:=hrel
     obtain ⟨a,e0⟩:=p
     have HDL:=Lib.hid hdl2
     have pb:=PBC.out _ _ _ _ _ _ _ Gr.out
     have s2:=Gr.out.hs.cell 2
     try simp only [List.getElem?_cons_succ,List.getElem?_cons_zero] at s2
     clear hdl2
     by_cases hlt : i < m
     case neg =>
      obtain rfl : i = m:=by omega
      have d1 : ¬ (i : Int) < i:=by omega
      have hE:=HIr.out
      rw [Nat.sub_self] at hE
      have HE : Hid (outsS b i p6 = (es.map OutR.pl,(a,e0))):=Lib.hid (by rw [hE];simp [outsS])
      clear hE HIr
      go_wp2_with fail
      go_meet
      exact ⟨rfl,vo,es,by rw [HE.out];exact Gr,Lib.hid (by rw [HE.out]),by rw [HDL.out];omega⟩
     by_cases h0 : e0 = 0
     case neg =>
      have d1 : (i : Int) < m:=by omega
      have d2 : (e0 == 0) = false:=by rw [beq_eq_false_iff_ne];exact h0
      have HE : Hid (outsS b m p6 = (es.map OutR.pl,(a,e0))):=Lib.hid (by rw [HIr.out,outsS_err b _ h0];simp)
      clear HIr h0
      go_wp2_with fail
      go_meet
      exact ⟨rfl,vo,es,by rw [HE.out];exact Gr,Lib.hid (by rw [HE.out]),by rw [HDL.out];omega⟩
     subst h0
     have d1 : (i : Int) < m:=by omega
     have HIn : Hid (outsS b m p6 = ((es ++ [(outS b (a,0)).1]).map OutR.pl ++ (outsS b (m - (i + 1)) (outS b (a,0)).2).1,(outsS b (m - (i + 1)) (outS b (a,0)).2).2)):=Lib.hid (by
      rw [HIr.out,show m - i = (m - (i + 1)) + 1 by omega]
      show _ = _
      rw [outsS,if_pos rfl]
      simp [OutR.pl,outS])
     have KR:=Lib.hid (KW.out _ _ _ _ _ _ _ Gr.out)
     have PBR:=Lib.hid pb
     have KRB : Hid (∀ y,KeepB S wr y → Keep w y):=Lib.hid fun y k => k.keep KR.out fun j q => by have:=HWS.out;omega
     have PRB : Hid (∀ y,KeepB S wr y → y.cell? ⟨PB,0,none⟩ = some (.pointer (some ⟨S,0,none⟩))):=Lib.hid fun y k => k.cell PBR.out (by omega)
     clear HIr PBR
     go_upto_region 22 with fail
     obtain ⟨w5,hw5⟩ : ∃ w5,w5 = wr.alloc (.cells #[.int .u64 0,.slice none 0 0] 128):=⟨_,rfl⟩
     have HX5 : Hid (Blk w5 wr.heap.size 128 [.int .u64 0,.slice none 0 0]):=by rw [hw5];exact Lib.hid (Blk.new wr 128 [.int .u64 0,.slice none 0 0])
     have HK5 : Hid (KeepB S wr w5):=by rw [hw5];exact Lib.hid (KeepX.of (keep_new _ _))
     have HS5 : Hid (Blk w5 S 187 (srcL A L c (a,0))):=by rw [hw5];exact Lib.hid (Gr.out.hs.alloc _)
     have hgS : wr.heap.size ≠ S:=by have:=Gr.out.hs.lt;omega
     rw [← hw5]
     clear hw5 pb s2 KR
     obtain ⟨gi,hgi⟩ : ∃ g,wr.heap.size = g:=⟨_,rfl⟩
     have HGI:=Lib.hid hgi
     have hgr : wr.heap.size ≤ gi:=Nat.le_of_eq hgi
     rw [hgi] at HX5 hgS
     simp only [hgi]
     clear hgi
     -- the value
     obtain ⟨V1,hV1⟩ : ∃ V,nmV b 8 (a,0) = V:=⟨_,rfl⟩
     have hV64 : V1 < 2 ^ 64:=by rw [← hV1];exact numN_lt8 _ _
     have N1:=NUM.out PB S 8 (a,0) w5 (KRB.out _ HK5.out) HWS.out (PRB.out _ HK5.out) HS5.out hpl (by omega) (by omega)
     obtain ⟨q2,hq2⟩ : ∃ p,tkP b 8 (a,0) = p:=⟨_,rfl⟩
     have hq2l : q2.1 ≤ L:=by rw [← hq2,← HLL.out];exact tkP_le (by rw [HLL.out];exact hpl)
     rw [hV1,hq2] at N1
     have N1:=Lib.hid N1
     have HV1:=Lib.hid hV1;have HQ2:=Lib.hid hq2
     clear hV1 hq2
     go_upto_region 23 with (go_at_call 89;refine N1.out.mono ?_;rintro e w9 ⟨rfl,hb9,hk9⟩;have HX9:=Lib.hid (hk9.blk HX5.out hgS);have HK9 : Hid (KeepB S wr w9):=Lib.hid (HK5.out.trans hk9 fun _ _ q => q);have HS9:=Lib.hid hb9;have x32:=HX9.out.cell 0;have f32:=HX9.out.frozen 0;try simp only [List.getElem?_cons_zero] at x32;clear hb9 hk9)
     obtain ⟨w10,hw10⟩ : ∃ w10,w10 = w9.setCell ⟨gi,0,none⟩ (.int .u64 V1):=⟨_,rfl⟩
     have HX10 : Hid (Blk w10 gi 128 [.int .u64 V1,.slice none 0 0]):=by rw [hw10];exact Lib.hid (HX9.out.set_ 0 _)
     have HS10 : Hid (Blk w10 S 187 (srcL A L c q2)):=by rw [hw10];exact Lib.hid (HS9.out.far (fun q => hgS q.symm) _)
     have HK10 : Hid (KeepB S wr w10):=by rw [hw10];exact Lib.hid (HK9.out.new (grown_set (grown_refl w9 _)) hgr)
     rw [← hw10]
     clear hw10 x32 f32 HX5 HS5 HK5 HX9 HS9 HK9 N1
     -- the script
     have S1:=SCR.out S q2 w10 (KRB.out _ HK10.out) HWS.out HS10.out hq2l
     obtain ⟨sc,hsc⟩ : ∃ s,scV b q2 = s:=⟨_,rfl⟩
     obtain ⟨q3,hq3⟩ : ∃ p,scP b q2 = p:=⟨_,rfl⟩
     have hq3l : q3.1 ≤ L:=by rw [← hq3,← HLL.out];exact scP_le (by rw [HLL.out];exact hq2l)
     rw [hsc,hq3] at S1
     have S1:=Lib.hid S1
     have HSC:=Lib.hid hsc;have HQ3:=Lib.hid hq3
     have pb:=PRB.out _ HK10.out
     have hg10:=HX10.out.lt
     clear hsc hq3
     go_upto_region 24 with (go_at_call 92;refine S1.out.mono ?_;rintro e w11 ⟨v11,rfl,hown11,hb11,hk11⟩;obtain ⟨Av,cv,rfl,hcv1,hcv2,-⟩:=own_form hown11;have HX11:=Lib.hid (hk11.blk HX10.out hgS);have HK11 : Hid (KeepB S wr w11):=Lib.hid (HK10.out.trans hk11 fun _ _ q => q);have HS11:=Lib.hid hb11;have OW11:=Lib.hid hown11;have x33:=HX11.out.cell 1;have f33:=HX11.out.frozen 1;try simp only [List.getElem?_cons_succ,List.getElem?_cons_zero] at x33;clear hb11 hk11 hown11)
     obtain ⟨w14,hw14⟩ : ∃ w14,w14 = w11.setCell ⟨gi,1,none⟩ (.slice Av sc.length cv):=⟨_,rfl⟩
     have HX14 : Hid (Blk w14 gi 128 [.int .u64 V1,.slice Av sc.length cv]):=by rw [hw14];exact Lib.hid (HX11.out.set_ 1 _)
     have HS14 : Hid (Blk w14 S 187 (srcL A L c q3)):=by rw [hw14];exact Lib.hid (HS11.out.far (fun q => hgS q.symm) _)
     have HK14 : Hid (KeepB S wr w14):=by rw [hw14];exact Lib.hid (HK11.out.new (grown_set (grown_refl w11 _)) hgr)
     have OW14 : Hid (w14.ownsRow w10.heap.size 5 1 (.slice Av sc.length cv) sc.length (sc.map u8v)):=by rw [hw14];exact Lib.hid (ownsRow_setCell_below OW11.out (a:=⟨gi,1,none⟩) hg10 _)
     rw [← hw14]
     clear hw14 x33 f33 HX10 HS10 HK10 HX11 HS11 HK11 OW11 S1 pb
     obtain ⟨B10,hB10⟩ : ∃ k,w10.heap.size = k:=⟨_,rfl⟩
     rw [hB10] at OW14 hg10
     clear hB10
     have G14:=Lib.hid (Gr.out.read HS14.out HK14.out)
     obtain ⟨x4,hx4⟩ : ∃ x : OutR,(⟨V1,Av,sc,cv⟩ : OutR) = x:=⟨_,rfl⟩
     have HX4 : Hid (x4.pl = (outS b (a,0)).1∧(outS b (a,0)).2 = q3):=Lib.hid (by
      rw [← hx4]
      unfold outS OutR.pl
      simp only [HQ2.out,HQ3.out,HV1.out,HSC.out,and_self])
     have HXC : Hid (x4.val < 2 ^ 64∧(x4.sc.length ≤ x4.cap∧x4.cap ≤ maxLen)∧RdN (GX S T w0.heap.size vi vo) w14 x4.A (x4.sc.map u8v)):=Lib.hid (by
      rw [← hx4]
      refine ⟨hV64,⟨hcv1,hcv2⟩,RdN.of_own OW14.out fun g hg q => ?_⟩
      have hz1:=Gr.out.hs.lt;have hz2:=Gr.out.ht.lt;have hz3:=HGI.out
      have hz4:=Gr.out.size
      rcases q with q | q | q | q | q
      ·omega
      ·omega
      ·have:=(Gr.out.iS g q).2;omega
      ·have:=(Gr.out.oS g q).2;omega
      ·omega)
     have HXL : Hid ([.int .u64 V1,.slice Av sc.length cv] = x4.cells):=Lib.hid (by rw [← hx4];rfl)
     clear hx4 HQ2 HQ3 HV1 HSC OW14 HS14 hcv1 hcv2
     have x0:=HX14.out.cell 0;have x1:=HX14.out.cell 1
     have t1:=G14.out.ht.cell 2
     try simp only [List.getElem?_cons_succ,List.getElem?_cons_zero] at t1 x0 x1
     have hsz14:=G14.out.size
     obtain ⟨Avi,cvi,rfl,-,-,-⟩:=own_form G14.out.oo
     have hdl1 : es.length ≤ 1000:=by have:=HDL.out;omega
     go_wp2_with (at_builtin;refine wpList_app outT (by rfl) _ _ (by rfl) w0.heap.size _ es.length _ (by rfl) (G14.out.oo.alloc _) _ 1 1 [.int .u64 V1,.slice Av sc.length cv] (by rfl) (by rfl) (Rd.new _ _ _) (by simp [Value.oneCell']) (by omega) (by unfold maxLen;omega) (by simp;omega) ?_;intro v15 w15 own15 hg15 hat15;obtain ⟨Aw,cw,rfl,-,-,-⟩:=own_form own15;have HT15:=(G14.out.ht.alloc (.cells #[.int .u64 V1,.slice Av sc.length cv] 128)).grown hg15 (fun q => absurd (G14.out.oS T q).1 (by have:=G14.out.st.2.2.1;omega));have t15:=HT15.cell 2;have f15:=HT15.frozen 2;simp only [List.getElem?_cons_succ,List.getElem?_cons_zero] at t15;have Own15:=Lib.hid own15;have Gg15:=Lib.hid hg15;have At15:=Lib.hid hat15;clear own15 hg15 hat15 HT15)
     have GN : Hid (GSt S T w0.heap.size w0 (w15.setCell ⟨T,2,none⟩ (.slice Aw (es.length + 1) cw)) (srcL A L c q3) ver vi ds (.slice Aw (es.length + 1) cw) (es ++ [x4])):=Lib.hid (by
      have o2:=Own15.out
      rw [HXL.out] at o2
      exact (G14.out.keep (keep_new _ _)).outp o2 Gg15.out (At15.out.imp id fun e => ⟨_,e,Nat.le_refl _⟩) ⟨HXC.out.1,HXC.out.2.1,HXC.out.2.2.kx (Y:=fun _ => False) (KeepX.of (keep_new _ _)) (fun _ _ q => q.elim) (fun _ _ q => q)⟩)
     have HIe : Hid (outsS b m p6 = ((es ++ [x4]).map OutR.pl ++ (outsS b (m - (i + 1)) q3).1,(outsS b (m - (i + 1)) q3).2)):=Lib.hid (by
      rw [HIn.out,HX4.out.2]
      have e : OutR.pl (outS b (a,0)).1 = x4.pl:=by rw [HX4.out.1];rfl
      simp [e])
     clear Own15 Gg15 At15 HXC HXL t15 f15 t1 x0 x1 HIn HX4
     go_roundw
     case rel => exact ⟨i + 1,q3,_,es ++ [x4],by omega,by go_num,by rw [List.length_append,HDL.out];rfl,hq3l,GN,HIe⟩
     case measure => simp [intOf];omega
   case rest =>
    obtain ⟨rfl,vo,es,G7,HES,hel⟩:=hcut
    clear HO0 G6
    have hO7 : (outsS b m p6).2.1 ≤ L:=by rw [← HLL.out];exact outsS_le m (by rw [HLL.out];exact hl6)
    generalize outsS b m p6 = OR at *
    obtain ⟨os,p7⟩:=OR
    simp only at G7 HES hO7 HRR
    obtain ⟨V7,hV7⟩ : ∃ V,nmV b 4 p7 = V:=⟨_,rfl⟩
    obtain ⟨lock,hlk⟩ : ∃ v : UInt32,v = UInt32.ofNat V7:=⟨_,rfl⟩
    have hvv : (V7 : Int) % 4294967296 = (lock.toNat : Int):=by rw [hlk,UInt32.toNat_ofNat'];omega
    have hvw : IntKind.u32.wrap (V7 : Int) = (lock.toNat : Int):=by rw [IntKind.wrap_u32];exact hvv
    have N7:=NUM.out PB S 4 p7 _ (KW.out _ _ _ _ _ _ _ G7.out) HWS.out (PBC.out _ _ _ _ _ _ _ G7.out) G7.out.hs hO7 (by omega) (by omega)
    obtain ⟨p8,hp8⟩ : ∃ p,tkP b 4 p7 = p:=⟨_,rfl⟩
    rw [hV7,hp8] at N7 HRR
    rw [← hlk] at HRR
    have N7:=Lib.hid N7
    have pb:=PBC.out _ _ _ _ _ _ _ G7.out
    clear hp8 hlk hV7
    go_upto_region 26 with (go_at_call 89;refine N7.out.mono ?_;rintro e w1 ⟨rfl,hb1,hk1⟩;have G8:=Lib.hid (G7.out.read hb1 hk1);have t3:=G8.out.ht.cell 3;have f3:=G8.out.ht.frozen 3;try simp only [List.getElem?_cons_succ,List.getElem?_cons_zero] at t3;clear hb1 hk1)
    obtain ⟨iA,ic,rfl,hic1,hic2,-⟩:=own_form G8.out.oi
    obtain ⟨oA,oc,rfl,hoc1,hoc2,-⟩:=own_form G8.out.oo
    obtain ⟨w9,hw9⟩ : ∃ w9,w9 = w1.setCell ⟨T,3,none⟩ (.int .u32 lock.toNat):=⟨_,rfl⟩
    have HT9 : Hid (Blk w9 T 48 [u32v ver,.slice iA ds.length ic,.slice oA es.length oc,u32v lock]):=by rw [hw9];exact Lib.hid (G8.out.ht.set_ 3 _)
    have HS9 : Hid (Blk w9 S 187 (srcL A L c p8)):=by rw [hw9];exact Lib.hid (G8.out.hs.far (by simp <;> omega) _)
    have HZ8 : Hid (Blk w1 r 48 [.int .u32 0,.slice none 0 0,.slice none 0 0,.int .u32 0]):=Lib.hid (HZ0.out.kx G8.out.kx (by rintro (q | q) <;> omega))
    have HZ9 : Hid (Blk w9 r 48 [.int .u32 0,.slice none 0 0,.slice none 0 0,.int .u32 0]):=by rw [hw9];exact Lib.hid (HZ8.out.far (by simp <;> omega) _)
    have HK9 : Hid (KeepX (fun k => k = T ∨ k = r) w1 w9):=by rw [hw9];exact Lib.hid ((KeepB.set (KeepX.of (Below.refl _ _)) 3 _ : KeepX (fun k => k = T) _ _).wide fun _ q => .inl q)
    have HPB : Hid (w9.cell? ⟨PB,0,none⟩ = some (.pointer (some ⟨S,0,none⟩))):=Lib.hid (HK9.out.cell (PBC.out _ _ _ _ _ _ _ G8.out) (by rintro (q | q) <;> omega))
    have HK1 : Hid (Keep w w1):=Lib.hid (KW.out _ _ _ _ _ _ _ G8.out)
    rw [← hw9]
    clear hw9 t3 f3 pb N7 NUM CNT SCR TAK KW PBC HZ0 hvv hvw
    obtain ⟨a8,e8⟩:=p8
    have pb:=HPB.out
    have s1:=HS9.out.cell 1;have s2:=HS9.out.cell 2
    try simp only [List.getElem?_cons_succ,List.getElem?_cons_zero] at s1 s2
    have hrT : r ≠ T:=by omega
    have hrS : r ≠ S:=by omega
    have hrP : r ≠ PB:=by omega
    by_cases h8 : e8 = 0
    ·subst h8
     have d1 : ((0 : Int) != 0) = false:=rfl
     have hR:=HRR.out
     rw [if_pos rfl] at hR
     simp only at hR
     obtain ⟨R1,R2,R3⟩:=R
     obtain ⟨hR1,hR2,hR3⟩ : R1 = ⟨ver,none,is,0,none,os,0,lock⟩∧R2 = a8∧R3 = 0:=by cases hR;exact ⟨rfl,rfl,rfl⟩
     subst hR2 hR3
     have HR1:=Lib.hid hR1
     clear hR hR1 HRR
     go_upto_region 28 with fail
     letI iM : G.Mk:=⟨some r⟩
     refine G.wp_region_tree (.take [0,1,2,3,4] (.force [5] (.take [6,7] .done))) [] (by kernel_rfl) (by kernel_rfl) (fun wa ka => ?_)
     have hneT : G.Mk.m ≠ some T:=fun q => hrT (Option.some.inj q)
     have hneS : G.Mk.m ≠ some S:=fun q => hrS (Option.some.inj q)
     have hneP : G.Mk.m ≠ some PB:=fun q => hrP (Option.some.inj q)
     have HTa:=Lib.hid (HT9.out.keep ka);have HSa:=Lib.hid (HS9.out.keep ka);have HZa:=Lib.hid (HZ9.out.keep ka)
     have HKa : Hid (KeepX (fun k => k = T ∨ k = r) w1 wa):=Lib.hid (HK9.out.trans (KeepX.of ka) fun _ _ q => q)
     have b0:=G.aftG_cell (keep_cell ka HPB.out) hneP
     have b1:=G.aftG_cell (HSa.out.cell 1) hneS
     have b2:=G.aftG_cell (HTa.out.cell 0) hneT;have b3:=G.aftG_cell (HTa.out.cell 1) hneT;have b4:=G.aftG_cell (HTa.out.cell 2) hneT;have b5:=G.aftG_cell (HTa.out.cell 3) hneT
     clear ka HT9 HS9 HZ9 HK9 HPB pb s1 s2
     refine G.mt_take wa (G.Gr.refl _) ?_
     simp only [pick_cons,pick_nil,nth_zero,nth_succ]
     repeat (go_big_quiet_step (fail))
     refine wpQuiet_nil (G.mt_force ?_)
     clear b0 b1 b2 b3 b4 b5 hneT hneS hneP
     simp only [pick_cons,pick_nil,nth_zero,nth_succ]
     refine G.fc_step rfl (fun K hK => ?_)
     have z0:=HZa.out.cell 0;have z1:=HZa.out.cell 1;have z2:=HZa.out.cell 2;have z3:=HZa.out.cell 3
     have y0:=HZa.out.frozen 0;have y1:=HZa.out.frozen 1;have y2:=HZa.out.frozen 2;have y3:=HZa.out.frozen 3
     simp only [List.getElem?_cons_succ,List.getElem?_cons_zero] at z0 z1 z2 z3
     go_simp
     refine hK _ _ (show G.Gr wa _ from grown_set (grown_set (grown_set (grown_set (grown_refl wa _))))) ?_
     clear hK K z0 z1 z2 z3 y0 y1 y2 y3
     obtain ⟨wb,hwb⟩ : ∃ wb,wb = (((wa.setCell ⟨r,0,none⟩ (u32v ver)).setCell ⟨r,1,none⟩ (.slice iA ds.length ic)).setCell ⟨r,2,none⟩ (.slice oA es.length oc)).setCell ⟨r,3,none⟩ (u32v lock):=⟨_,rfl⟩
     have HBB : Hid (Blk wb r 48 [u32v ver,.slice iA ds.length ic,.slice oA es.length oc,u32v lock]):=by rw [hwb];exact Lib.hid ((((HZa.out.set_ 0 _).set_ 1 _).set_ 2 _).set_ 3 _)
     have HGB : Hid (wa.grownBy wb (some r)):=by rw [hwb];exact Lib.hid (grown_set (grown_set (grown_set (grown_set (grown_refl wa _)))))
     rw [← hwb]
     clear hwb
     refine G.fc_nil (G.mt_take _ (G.Gr.refl _) ?_)
     simp only [pick_cons,pick_nil,nth_zero,nth_succ]
     repeat (go_big_quiet_step (fail))
     refine wpQuiet_nil (G.mt_end ?_)
     clear iM
     go_wp2_with fail
     have HKb : Hid (KeepX (fun k => k = T ∨ k = r) w1 wb):=Lib.hid (HKa.out.grown HGB.out fun j _ q => by cases q;exact .inr rfl)
     exact bodyPost_ret (v:=.tuple #[.agg #[u32v ver,.slice iA ds.length ic,.slice oA es.length oc,u32v lock],iv R2,iv 0]) (results_cell_tmp_tmp Tryd.results75 _ _ r _ _ _ _ rfl HBB.out Tryd.underlying48 rfl tx_info) rfl
      ⟨⟨ver,iA,ds,ic,oA,es,oc,lock⟩,rfl,by rw [HR1.out];unfold TxR.pl;simp only [HES.out,HDS.out],⟨(G8.out.tx HZ8.out (by omega) HKb.out ⟨hic1,hic2⟩ ⟨hoc1,hoc2⟩).1,fun W hm => (G8.out.tx HZ8.out (by omega) HKb.out ⟨hic1,hic2⟩ ⟨hoc1,hoc2⟩).2 W ⟨trivial,fun k h1 h2 => hm.2 k (by have:=HWS.out;have:=HRW.out;have:=G8.out.st;omega) h2⟩⟩,HDLI.out,hel,HKb.out.keep HK1.out (fun j q => by have:=HWS.out;have:=HRW.out;rcases q with q | q <;> omega)⟩
    ·have d1 : (e8 != 0) = true:=by rw [bne_iff_ne];exact h8
     have hR:=HRR.out
     rw [if_neg h8] at hR
     subst hR
     clear HRR h8
     go_upto_region 27 with fail
     letI iM : G.Mk:=⟨some r⟩
     refine G.wp_region_tree (.take [0,1,2,3,4] (.force [5] (.take [6,7] .done))) [] (by kernel_rfl) (by kernel_rfl) (fun wa ka => ?_)
     have hneS : G.Mk.m ≠ some S:=fun q => hrS (Option.some.inj q)
     have hneP : G.Mk.m ≠ some PB:=fun q => hrP (Option.some.inj q)
     have HSa:=Lib.hid (HS9.out.keep ka);have HZa:=Lib.hid (HZ9.out.keep ka)
     have HKa : Hid (KeepX (fun k => k = T ∨ k = r) w1 wa):=Lib.hid (HK9.out.trans (KeepX.of ka) fun _ _ q => q)
     have b0:=G.aftG_cell (keep_cell ka HPB.out) hneP
     have b1:=G.aftG_cell (HSa.out.cell 2) hneS
     clear ka HT9 HS9 HZ9 HK9 HPB pb s1 s2
     refine G.mt_take wa (G.Gr.refl _) ?_
     simp only [pick_cons,pick_nil,nth_zero,nth_succ]
     repeat (go_big_quiet_step (fail))
     refine wpQuiet_nil (G.mt_force ?_)
     clear b0 b1 hneS hneP
     simp only [pick_cons,pick_nil,nth_zero,nth_succ]
     refine G.fc_step rfl (fun K hK => ?_)
     have z0:=HZa.out.cell 0;have z1:=HZa.out.cell 1;have z2:=HZa.out.cell 2;have z3:=HZa.out.cell 3
     have y0:=HZa.out.frozen 0;have y1:=HZa.out.frozen 1;have y2:=HZa.out.frozen 2;have y3:=HZa.out.frozen 3
     simp only [List.getElem?_cons_succ,List.getElem?_cons_zero] at z0 z1 z2 z3
     go_simp
     refine hK _ _ (show G.Gr wa _ from grown_set (grown_set (grown_set (grown_set (grown_refl wa _))))) ?_
     clear hK K z0 z1 z2 z3 y0 y1 y2 y3
     obtain ⟨wb,hwb⟩ : ∃ wb,wb = (((wa.setCell ⟨r,0,none⟩ (.int .u32 0)).setCell ⟨r,1,none⟩ (.slice none 0 0)).setCell ⟨r,2,none⟩ (.slice none 0 0)).setCell ⟨r,3,none⟩ (.int .u32 0):=⟨_,rfl⟩
     have HBB : Hid (Blk wb r 48 [.int .u32 0,.slice none 0 0,.slice none 0 0,.int .u32 0]):=by rw [hwb];exact Lib.hid ((((HZa.out.set_ 0 _).set_ 1 _).set_ 2 _).set_ 3 _)
     have HGB : Hid (wa.grownBy wb (some r)):=by rw [hwb];exact Lib.hid (grown_set (grown_set (grown_set (grown_set (grown_refl wa _)))))
     rw [← hwb]
     clear hwb
     refine G.fc_nil (G.mt_take _ (G.Gr.refl _) ?_)
     simp only [pick_cons,pick_nil,nth_zero,nth_succ]
     repeat (go_big_quiet_step (fail))
     refine wpQuiet_nil (G.mt_end ?_)
     clear iM
     go_wp2_with fail
     have HKb : Hid (KeepX (fun k => k = T ∨ k = r) w1 wb):=Lib.hid (HKa.out.grown HGB.out fun j _ q => by cases q;exact .inr rfl)
     exact bodyPost_ret (v:=.tuple #[.agg #[.int .u32 0,.slice none 0 0,.slice none 0 0,.int .u32 0],iv 0,iv e8]) (results_cell_tmp_tmp Tryd.results75 _ _ r _ _ _ _ rfl HBB.out Tryd.underlying48 rfl tx_info) rfl
      ⟨txZ,rfl,rfl,⟨txZ_at _,fun W _ => txZ_at W⟩,Nat.zero_le _,Nat.zero_le _,HKb.out.keep HK1.out (fun j q => by have:=HWS.out;have:=HRW.out;rcases q with q | q <;> omega)⟩
end Go.Proofs.YtffpanlpbdnafaaDoor
