/- Texts merged by pack.py: Vs, Vt, Vu, Vv, Vw, Vx, Vy, Vz, Ia. -/
import Derived.Test.YtbgpgdhndanigaaCx5
import Derived.Test.YtbgpgdhndanigaaCx2
import Derived.Test.YtbgpgdhndanigaaCx3
/- Messages in memory. -/
set_option linter.unusedSimpArgs false
set_option linter.unusedVariables false
namespace Go.Proofs.Ytbgpgdhndanigaa
open Go.RowKit
attribute [local go_sem ↓] Go.wp_at_zero Go.wp_at_succ
theorem run_store_prt {P : Program} {w : World} {g : Nat} {t : TypeId} {all : List Value} (off : Nat) (cs : List Value) (hb : Blk w g t all) (hl : off + cs.length ≤ all.length) (h1 : ∀ v ∈ cs,v.oneCell' = true) :
  ∃ w',(storeCells ⟨g,off,none⟩ cs 0).run P w = .ok () w'∧Blk w' g t (splice all off cs)∧w.grownBy w' (some g):=by
 have hrun:=run_storeCells_at P g off t cs 0 all.toArray w hb (by simpa using hl) h1
 simp only [Nat.add_zero,List.toList_toArray] at hrun
 refine ⟨_,hrun,?_,rfl,rfl,rfl,by simp [World.setRow],fun k _ hne => setRow_other w g k _ (fun e => hne (by rw [e]))⟩
 have h:=setRow_heap w g all.toArray (all.take off ++ cs ++ all.drop (off + cs.length)).toArray t (0,0) hb
 unfold Blk splice
 rw [← List.append_assoc]
 exact h
structure MsgR where
 kind : Int
 proto : UInt32
 nonce : Nat
 height : UInt32
 hA : Option Addr
 hs : List Hd
 hc : Nat
 lA : Option Addr
 ls : List (List UInt8)
 lc : Nat
 stop : List UInt8
 iA : Option Addr
 is : List Itm
 ic : Nat
 bh : Hd
 total : UInt32
 sA : Option Addr
 shs : List (List UInt8)
 sc : Nat
 fA : Option Addr
 fs : List UInt8
 fc : Nat
 t : TxR
def zHdr : Hd:=⟨0,z32,z32,0,0,0⟩
def msgZ (k : Int) : MsgR:=⟨k,0,0,0,none,[],0,none,[],0,z32,none,[],0,zHdr,0,none,[],0,none,[],0,txZ⟩
namespace MsgR
def blk (m : MsgR) : List Value:=m.bh.cells ++ [u32v m.total,.slice m.sA m.shs.length m.sc,.slice m.fA m.fs.length m.fc]
def cells (m : MsgR) : List Value :=
 [.int .i64 m.kind,u32v m.proto,u64v m.nonce,u32v m.height,.slice m.hA m.hs.length m.hc,.slice m.lA m.ls.length m.lc] ++ (m.stop.map u8v ++ (.slice m.iA m.is.length m.ic :: (m.blk ++ m.t.cells)))
structure ok (m : MsgR) : Prop where
 k : -9223372036854775808 ≤ m.kind∧m.kind ≤ 9223372036854775807
 n : m.nonce < 2 ^ 64
 s : m.stop.length = 32
 b : m.bh.ok
 h : ∀ x ∈ m.hs,x.ok
 l : ∀ x ∈ m.ls,x.length = 32
 i : ∀ x ∈ m.is,x.ok
 z : ∀ x ∈ m.shs,x.length = 32
structure at_ (m : MsgR) (w : World) : Prop where
 o : m.ok
 h : Rd w m.hA (m.hs.flatMap Hd.cells)
 hc : m.hs.length ≤ m.hc∧m.hc ≤ maxLen
 l : Rd w m.lA (hsL m.ls)
 lc : m.ls.length ≤ m.lc∧m.lc ≤ maxLen
 i : Rd w m.iA (m.is.flatMap Itm.cells)
 ic : m.is.length ≤ m.ic∧m.ic ≤ maxLen
 s : Rd w m.sA (hsL m.shs)
 sc : m.shs.length ≤ m.sc∧m.sc ≤ maxLen
 f : Rd w m.fA (m.fs.map u8v)
 fc : m.fs.length ≤ m.fc∧m.fc ≤ maxLen
 t : m.t.at w
theorem at_.keep {m : MsgR} {w w' : World} (h : m.at_ w) (k : Keep w w') : m.at_ w':=⟨h.o,h.h.keep k,h.hc,h.l.keep k,h.lc,h.i.keep k,h.ic,h.s.keep k,h.sc,h.f.keep k,h.fc,h.t.keep k⟩
theorem blk_len {m : MsgR} (h : m.bh.ok) : m.blk.length = 71:=by
 unfold blk;rw [List.length_append,Hd.len h];rfl
theorem len {m : MsgR} (h : m.ok) : m.cells.length = 114:=by
 unfold cells;simp [h.s,blk_len h.b,TxR.cells]
theorem one (m : MsgR) : ∀ u ∈ m.cells,u.oneCell' = true:=by
 intro u hu
 unfold cells blk TxR.cells at hu
 simp only [List.mem_append,List.mem_cons,List.not_mem_nil,or_false,List.mem_map] at hu
 rcases hu with (rfl | rfl | rfl | rfl | rfl | rfl) | ⟨y,_,rfl⟩ | rfl | (hu | rfl | rfl | rfl) | rfl | rfl | rfl | rfl
 all_goals first | rfl | exact Hd.one _ _ hu
end MsgR
theorem msg_info : (Try.prog.info? 49).map (·.size) = some 114:=by kernel_rfl
structure MsA (m : MsgR) (cs : Array Value) : Prop where
 l : cs.toList = m.cells
 z : cs.size = 114
 i : (Try.prog.info? 49).map (·.size) = some cs.size
 n : ¬ cs = #[]
 o : ∀ v ∈ cs.toList,v.oneCell' = true
theorem MsA.of {m : MsgR} (h : m.ok) : MsA m m.cells.toArray:=by
 have hz : m.cells.toArray.size = 114:=by simpa using MsgR.len h
 exact ⟨rfl,hz,by rw [hz];exact msg_info,fun e => by rw [e] at hz;simp at hz,by simpa using m.one⟩
noncomputable def zmsg : Array Value:=match (Try.prog.info? 49).bind (·.zero) with | some (.agg c) => c | _ => #[]
theorem zmsg_zero (w : World) : (zeroValue 49).run Try.prog w = .ok (.agg zmsg) w:=by kernel_rfl
theorem zmsg_list : zmsg.toList = (msgZ 0).cells:=by kernel_rfl
theorem msgZ_ok (k : Int) (h : -9223372036854775808 ≤ k∧k ≤ 9223372036854775807) : (msgZ k).ok :=
 ⟨h,(by show 0 < 2 ^ 64;omega),rfl,⟨rfl,rfl⟩,(fun x q => by cases q),(fun x q => by cases q),(fun x q => by cases q),(fun x q => by cases q)⟩
theorem zmsg_letter : ∃ zs : Array Value,(∀ w,(zeroValue 49).run Try.prog w = .ok (.agg zs) w)∧MsA (msgZ 0) zs :=
 ⟨zmsg,zmsg_zero,by
  have h:=MsA.of (msgZ_ok 0 (by omega))
  rwa [← zmsg_list,Array.toArray_toList] at h⟩
noncomputable def zblk : Array Value:=match (Try.prog.info? 43).bind (·.zero) with | some (.agg c) => c | _ => #[]
theorem zblk_size : zblk.size = 71:=by kernel_rfl
theorem zblk_zero (w : World) : (zeroValue 43).run Try.prog w = .ok (.agg zblk) w:=by kernel_rfl
theorem zblk_list : zblk.toList = (msgZ 0).blk:=by kernel_rfl
theorem zblk_letter : ∃ zs : Array Value,zs.size = 71∧(∀ w,(zeroValue 43).run Try.prog w = .ok (.agg zs) w)∧¬ zs = #[]∧zs.toList = (msgZ 0).blk∧(Try.prog.info? 43).map (·.size) = some zs.size :=
 ⟨zblk,zblk_size,zblk_zero,(fun h => by have:=zblk_size;rw [h] at this;cases this),zblk_list,by rw [zblk_size];kernel_rfl⟩
def othersM (m : MsgR) : MsgR :=
 if m.kind = 0 then { m with proto:=0,nonce:=0,height:=0 }
 else if m.kind = 2 ∨ m.kind = 3 then { m with nonce:=0 }
 else if m.kind = 4 then { m with proto:=0,lA:=none,ls:=[],lc:=0,stop:=z32 }
 else if m.kind = 5 then { m with hA:=none,hs:=[],hc:=0 }
 else if m.kind = 6 ∨ m.kind = 7 ∨ m.kind = 8 then { m with iA:=none,is:=[],ic:=0 }
 else if m.kind = 9 then { m with bh:=zHdr,total:=0,sA:=none,shs:=[],sc:=0,fA:=none,fs:=[],fc:=0 }
 else if m.kind = 10 then { m with t:=txZ }
 else m
theorem othersM_ok {m : MsgR} (h : m.ok) : (othersM m).ok:=by
 obtain ⟨k,n,s,b,hh,l,i,z⟩:=h
 have n0 : 0 < 2 ^ 64:=by omega
 unfold othersM
 repeat' split
 all_goals constructor <;> first | assumption | exact n0 | rfl | exact ⟨rfl,rfl⟩ | (intro x q;cases q)
namespace MsgR
theorem tail_get {m : MsgR} (h : m.ok) (k : Nat) : m.cells[k + 38]? = (.slice m.iA m.is.length m.ic :: (m.blk ++ m.t.cells))[k]?:=by
 unfold cells
 rw [List.getElem?_append_right (by simp),List.getElem?_append_right (by simp [h.s] <;> omega)]
 simp [h.s]
theorem tx_get {m : MsgR} (h : m.ok) (k : Nat) : m.cells[k + 110]? = m.t.cells[k]?:=by
 rw [show k + 110 = (k + 72) + 38 by omega,tail_get h,List.getElem?_cons_succ,List.getElem?_append_right (by rw [blk_len h.b];omega),blk_len h.b,show k + 71 - 71 = k by omega]
theorem blk_get {m : MsgR} (h : m.ok) (k : Nat) (hk : k < 71) : m.cells[k + 39]? = m.blk[k]?:=by
 rw [show k + 39 = (k + 1) + 38 by omega,tail_get h,List.getElem?_cons_succ,List.getElem?_append_left (by rw [blk_len h.b];omega)]
theorem set38 {m : MsgR} (h : m.ok) : m.cells.set 38 (.slice none 0 0) = cells { m with iA:=none,is:=[],ic:=0 }:=by
 unfold cells
 rw [List.set_append_right _ _ (by simp),List.set_append_right _ _ (by simp [h.s])]
 simp [h.s,blk]
end MsgR
theorem splice3 {a b c b' : List Value} {n : Nat} (ha : a.length = n) (hb : b'.length = b.length) : splice (a ++ (b ++ c)) n b' = a ++ (b' ++ c):=by
 subst ha
 unfold splice
 rw [List.take_left' rfl,← List.append_assoc a b c,List.drop_left' (by rw [List.length_append,hb])]
namespace MsgR
def hd6 (m : MsgR) : List Value:=[.int .i64 m.kind,u32v m.proto,u64v m.nonce,u32v m.height,.slice m.hA m.hs.length m.hc,.slice m.lA m.ls.length m.lc]
def hd39 (m : MsgR) : List Value:=m.hd6 ++ (m.stop.map u8v ++ [.slice m.iA m.is.length m.ic])
theorem hd39_len {m : MsgR} (h : m.stop.length = 32) : m.hd39.length = 39:=by unfold hd39 hd6;simp [h]
theorem cells6 (m : MsgR) : m.cells = m.hd6 ++ (m.stop.map u8v ++ (.slice m.iA m.is.length m.ic :: (m.blk ++ m.t.cells))):=rfl
theorem cells39 (m : MsgR) : m.cells = m.hd39 ++ (m.blk ++ m.t.cells):=by unfold cells hd39 hd6;simp
theorem cells110 (m : MsgR) : m.cells = (m.hd39 ++ m.blk) ++ m.t.cells:=by rw [cells39,List.append_assoc]
theorem splice_stop {m : MsgR} (h : m.ok) {l : List UInt8} (hl : l.length = 32) : splice m.cells 6 (l.map u8v) = cells { m with stop:=l }:=by
 rw [cells6,splice3 (show m.hd6.length = 6 from rfl) (by rw [List.length_map,List.length_map,h.s,hl])];rfl
theorem splice_blk {m m' : MsgR} (h : m.ok) (h' : m'.bh.ok) : splice m.cells 39 m'.blk = cells { m with bh:=m'.bh,total:=m'.total,sA:=m'.sA,shs:=m'.shs,sc:=m'.sc,fA:=m'.fA,fs:=m'.fs,fc:=m'.fc }:=by
 rw [cells39,splice3 (hd39_len h.s) (by rw [blk_len h.b,blk_len h'])]
 rw [cells39];rfl
theorem splice_tx {m : MsgR} (h : m.ok) (t : TxR) : splice m.cells 110 t.cells = cells { m with t:=t }:=by
 have e : m.cells = (m.hd39 ++ m.blk) ++ (m.t.cells ++ []):=by rw [List.append_nil,cells110]
 rw [e,splice3 (by rw [List.length_append,hd39_len h.s,blk_len h.b]) (show t.cells.length = m.t.cells.length from rfl),List.append_nil,cells110];rfl
theorem setp (m : MsgR) (h : m.ok) (t : List Value) (k : Nat) (v : Value) : ((m.hd39 ++ m.blk) ++ t).set (k + 110) v = (m.hd39 ++ m.blk) ++ t.set k v:=by
 have q : (m.hd39 ++ m.blk).length = 110:=by rw [List.length_append,hd39_len h.s,blk_len h.b]
 rw [List.set_append_right _ _ (by omega),q,show k + 110 - 110 = k by omega]
theorem set_tx {m : MsgR} (h : m.ok) : (((m.cells.set 110 (.int .u32 0)).set 111 (.slice none 0 0)).set 112 (.slice none 0 0)).set 113 (.int .u32 0) = cells { m with t:=txZ }:=by
 rw [cells110,setp m h _ 0,setp m h _ 1,setp m h _ 2,setp m h _ 3,cells110];rfl
end MsgR
end Go.Proofs.Ytbgpgdhndanigaa
/- wire.others. (printed by gen_vt.py) -/
set_option linter.unusedSimpArgs false
set_option linter.unusedVariables false
namespace Go.Proofs.Ytbgpgdhndanigaa
open Go.RowKit
attribute [local go_sem ↓] Go.wp_at_zero Go.wp_at_succ
theorem zhash_letter32 : ∃ zs : Array Value,HashA z32 zs∧(∀ w,(zeroValue 27).run Try.prog w = .ok (.agg zs) w) :=
 ⟨zhash,⟨zhash_list,zhash_size,by rw [zhash_size];kernel_rfl,(fun h => by have:=zhash_size;rw [h] at this;cases this),by rw [zhash_list];exact one_w8 _,by rw [show z32.map u8v = zhash.toList from zhash_list.symm,Array.toArray_toList]⟩,zhash_zero⟩
set_option maxRecDepth 100000 in
set_option maxHeartbeats 8000000 in
theorem others_any (m : MsgR) (cs : Array Value) (hA : MsA m cs) (hk : m.ok) (w : World) :
  Calls Try.prog 35 #[.agg cs] w fun e w' => ∃ ds,e = .returned (.agg ds)∧MsA (othersM m) ds∧Keep w w':=by
 obtain ⟨ys,hyz,hyA⟩:=zmsg_letter
 obtain ⟨zb,hbz,hb0,hbn,hbl,hbi⟩:=zblk_letter
 obtain ⟨zh,hzA,hz0⟩:=zhash_letter32
 have hzn:=hzA.n;have hzz:=hzA.z
 have hyn:=hyA.n
 have hcn:=hA.n;have hcz:=hA.z;have hci:=hA.i
 have HA:=Lib.hid hA;have HK:=Lib.hid hk;have HY:=Lib.hid hyA;have HZ:=Lib.hid hzA;have HBL:=Lib.hid hbl
 have HOK:=Lib.hid (othersM_ok hk)
 have HOM : Hid (∀ X,othersM m = X → X.ok → ∃ ds,MsA X ds∧X.ok):=Lib.hid fun X h1 h2 => ⟨_,MsA.of h2,h2⟩
 have HSC : Hid (∀ X,othersM m = X → othersM m = X):=Lib.hid fun X h => h
 clear hA hk hyA hzA hbl
 have e0 : othersM m = othersM m:=rfl
 have HD : Hid (othersM m = if m.kind = 0 then { m with proto:=0,nonce:=0,height:=0 }
  else if m.kind = 2 ∨ m.kind = 3 then { m with nonce:=0 }
  else if m.kind = 4 then { m with proto:=0,lA:=none,ls:=[],lc:=0,stop:=z32 }
  else if m.kind = 5 then { m with hA:=none,hs:=[],hc:=0 }
  else if m.kind = 6 ∨ m.kind = 7 ∨ m.kind = 8 then { m with iA:=none,is:=[],ic:=0 }
  else if m.kind = 9 then { m with bh:=zHdr,total:=0,sA:=none,shs:=[],sc:=0,fA:=none,fs:=[],fc:=0 }
  else if m.kind = 10 then { m with t:=txZ }
  else m):=Lib.hid rfl
 clear e0 HOM HSC
 generalize othersM m = M at *
 go_enter Try.func35,Try.ntmps35
 go_upto_region 1 with fail
 obtain ⟨w1,hw1⟩ : ∃ w1,w1 = (w.alloc (.cells cs 49)).alloc (.cells ys 49):=⟨_,rfl⟩
 have HB1 : Hid (Blk w1 w.heap.size 49 m.cells):=by rw [hw1,← HA.out.l];exact (Blk.new w _ cs.toList).alloc _
 have HR1 : Hid (Blk w1 (w.heap.size + 1) 49 ys.toList):=by
  rw [hw1]
  have h2:=Blk.new (w.alloc (.cells cs 49)) 49 ys.toList
  rw [World.size_alloc] at h2
  exact h2
 have HK1 : Hid (Keep w w1):=by rw [hw1];exact keep_trans (keep_new _ _) (keep_new _ _)
 rw [← hw1]
 clear hw1
 have r0 : w1.cell? ⟨w.heap.size,0,none⟩ = some (.int .i64 m.kind):=(HB1.out.cell 0).trans rfl
 by_cases h0 : m.kind = 0
 ·have HM : Hid (M = { m with proto:=0,nonce:=0,height:=0 }):=Lib.hid (HD.out.trans (by repeat (first | rw [if_pos (by omega)] | rw [if_neg (by omega)])))
  have d0 : (m.kind == 0) = true:=by rw [beq_iff_eq];omega
  clear HD h0
  have r1 : w1.cell? ⟨w.heap.size,1,none⟩ = some (u32v m.proto):=(HB1.out.cell 1).trans rfl
  have f1:=HB1.out.frozen 1
  have r2 : w1.cell? ⟨w.heap.size,2,none⟩ = some (u64v m.nonce):=(HB1.out.cell 2).trans rfl
  have f2:=HB1.out.frozen 2
  have r3 : w1.cell? ⟨w.heap.size,3,none⟩ = some (u32v m.height):=(HB1.out.cell 3).trans rfl
  have f3:=HB1.out.frozen 3
  go_upto_region 19 with fail
  obtain ⟨wx,hwx⟩ : ∃ wx,wx = (((w1.setCell ⟨w.heap.size,1,none⟩ (.int .u32 0)).setCell ⟨w.heap.size,2,none⟩ (.int .u64 0)).setCell ⟨w.heap.size,3,none⟩ (.int .u32 0)):=⟨_,rfl⟩
  have HX : Blk wx w.heap.size 49 M.cells:=by
   rw [hwx,HM.out]
   have q:=(((HB1.out.set_ 1 (.int .u32 0)).set_ 2 (.int .u64 0)).set_ 3 (.int .u32 0))
   exact q
  have HRX : Hid (Blk wx (w.heap.size + 1) 49 ys.toList):=by rw [hwx];exact Lib.hid (((HR1.out.far (by simp <;> omega) _).far (by simp <;> omega) _).far (by simp <;> omega) _)
  have HKX : Hid (Keep w wx):=by rw [hwx];exact Lib.hid (Below.setCell (Below.setCell (Below.setCell HK1.out (by simp <;> omega) _) (by simp <;> omega) _) (by simp <;> omega) _)
  rw [← hwx]
  clear hwx r1 f1 r2 f2 r3 f3 r0
  obtain ⟨ds,hds⟩ : ∃ ds,MsA M ds:=⟨_,MsA.of HOK.out⟩
  have hdz:=hds.z;have hdn:=hds.n;have hdi:=hds.i
  have HDS:=Lib.hid hds
  have HBx : Hid (Blk wx w.heap.size 49 ds.toList):=by rw [HDS.out.l];exact HX
  obtain ⟨w8,hst8,hb8,hg8⟩:=run_store_blk (P:=Try.prog) ds.toList HRX.out (by rw [Array.length_toList,Array.length_toList,hdz,HY.out.z]) HDS.out.o
  have Hb8:=Lib.hid hb8;have Hg8:=Lib.hid hg8
  clear hds hb8 hg8 HX HRX HB1 HR1
  go_wp2_with ((with_reducible refine load_arr w.heap.size ds (Eq.trans ?_ rfl) HBx.out _ Try.underlying49 rfl hdi ?_);rfl)
  have hb8:=Hb8.out
  exact bodyPost_ret (v:=.agg ds) (results_cell_row Try.results35 _ _ (w.heap.size + 1) _ _ _ _ rfl hb8 Try.underlying49 rfl (by rw [List.size_toArray,Array.length_toList];exact hdi)) rfl ⟨ds,rfl,HDS.out,HKX.out.grown Hg8.out HKX.out.size (fun q hq => by injection hq with hq;omega)⟩
 by_cases h2 : m.kind = 2
 ·have HM : Hid (M = { m with nonce:=0 }):=Lib.hid (HD.out.trans (by repeat (first | rw [if_pos (by omega)] | rw [if_neg (by omega)])))
  have d0 : (m.kind == 0) = false:=by rw [beq_eq_false_iff_ne];omega
  have d2 : (m.kind == 2) = true:=by rw [beq_iff_eq];omega
  clear HD h2 h0
  have r2 : w1.cell? ⟨w.heap.size,2,none⟩ = some (u64v m.nonce):=(HB1.out.cell 2).trans rfl
  have f2:=HB1.out.frozen 2
  go_upto_region 19 with fail
  obtain ⟨wx,hwx⟩ : ∃ wx,wx = (w1.setCell ⟨w.heap.size,2,none⟩ (.int .u64 0)):=⟨_,rfl⟩
  have HX : Blk wx w.heap.size 49 M.cells:=by
   rw [hwx,HM.out]
   have q:=(HB1.out.set_ 2 (.int .u64 0))
   exact q
  have HRX : Hid (Blk wx (w.heap.size + 1) 49 ys.toList):=by rw [hwx];exact Lib.hid (HR1.out.far (by simp <;> omega) _)
  have HKX : Hid (Keep w wx):=by rw [hwx];exact Lib.hid (Below.setCell HK1.out (by simp <;> omega) _)
  rw [← hwx]
  clear hwx r2 f2 r0
  obtain ⟨ds,hds⟩ : ∃ ds,MsA M ds:=⟨_,MsA.of HOK.out⟩
  have hdz:=hds.z;have hdn:=hds.n;have hdi:=hds.i
  have HDS:=Lib.hid hds
  have HBx : Hid (Blk wx w.heap.size 49 ds.toList):=by rw [HDS.out.l];exact HX
  obtain ⟨w8,hst8,hb8,hg8⟩:=run_store_blk (P:=Try.prog) ds.toList HRX.out (by rw [Array.length_toList,Array.length_toList,hdz,HY.out.z]) HDS.out.o
  have Hb8:=Lib.hid hb8;have Hg8:=Lib.hid hg8
  clear hds hb8 hg8 HX HRX HB1 HR1
  go_wp2_with ((with_reducible refine load_arr w.heap.size ds (Eq.trans ?_ rfl) HBx.out _ Try.underlying49 rfl hdi ?_);rfl)
  have hb8:=Hb8.out
  exact bodyPost_ret (v:=.agg ds) (results_cell_row Try.results35 _ _ (w.heap.size + 1) _ _ _ _ rfl hb8 Try.underlying49 rfl (by rw [List.size_toArray,Array.length_toList];exact hdi)) rfl ⟨ds,rfl,HDS.out,HKX.out.grown Hg8.out HKX.out.size (fun q hq => by injection hq with hq;omega)⟩
 by_cases h3 : m.kind = 3
 ·have HM : Hid (M = { m with nonce:=0 }):=Lib.hid (HD.out.trans (by repeat (first | rw [if_pos (by omega)] | rw [if_neg (by omega)])))
  have d0 : (m.kind == 0) = false:=by rw [beq_eq_false_iff_ne];omega
  have d2 : (m.kind == 2) = false:=by rw [beq_eq_false_iff_ne];omega
  have d3 : (m.kind == 3) = true:=by rw [beq_iff_eq];omega
  clear HD h3 h0 h2
  have r2 : w1.cell? ⟨w.heap.size,2,none⟩ = some (u64v m.nonce):=(HB1.out.cell 2).trans rfl
  have f2:=HB1.out.frozen 2
  go_upto_region 19 with fail
  obtain ⟨wx,hwx⟩ : ∃ wx,wx = (w1.setCell ⟨w.heap.size,2,none⟩ (.int .u64 0)):=⟨_,rfl⟩
  have HX : Blk wx w.heap.size 49 M.cells:=by
   rw [hwx,HM.out]
   have q:=(HB1.out.set_ 2 (.int .u64 0))
   exact q
  have HRX : Hid (Blk wx (w.heap.size + 1) 49 ys.toList):=by rw [hwx];exact Lib.hid (HR1.out.far (by simp <;> omega) _)
  have HKX : Hid (Keep w wx):=by rw [hwx];exact Lib.hid (Below.setCell HK1.out (by simp <;> omega) _)
  rw [← hwx]
  clear hwx r2 f2 r0
  obtain ⟨ds,hds⟩ : ∃ ds,MsA M ds:=⟨_,MsA.of HOK.out⟩
  have hdz:=hds.z;have hdn:=hds.n;have hdi:=hds.i
  have HDS:=Lib.hid hds
  have HBx : Hid (Blk wx w.heap.size 49 ds.toList):=by rw [HDS.out.l];exact HX
  obtain ⟨w8,hst8,hb8,hg8⟩:=run_store_blk (P:=Try.prog) ds.toList HRX.out (by rw [Array.length_toList,Array.length_toList,hdz,HY.out.z]) HDS.out.o
  have Hb8:=Lib.hid hb8;have Hg8:=Lib.hid hg8
  clear hds hb8 hg8 HX HRX HB1 HR1
  go_wp2_with ((with_reducible refine load_arr w.heap.size ds (Eq.trans ?_ rfl) HBx.out _ Try.underlying49 rfl hdi ?_);rfl)
  have hb8:=Hb8.out
  exact bodyPost_ret (v:=.agg ds) (results_cell_row Try.results35 _ _ (w.heap.size + 1) _ _ _ _ rfl hb8 Try.underlying49 rfl (by rw [List.size_toArray,Array.length_toList];exact hdi)) rfl ⟨ds,rfl,HDS.out,HKX.out.grown Hg8.out HKX.out.size (fun q hq => by injection hq with hq;omega)⟩
 by_cases h4 : m.kind = 4
 ·have HM : Hid (M = { m with proto:=0,lA:=none,ls:=[],lc:=0,stop:=z32 }):=Lib.hid (HD.out.trans (by repeat (first | rw [if_pos (by omega)] | rw [if_neg (by omega)])))
  have d0 : (m.kind == 0) = false:=by rw [beq_eq_false_iff_ne];omega
  have d2 : (m.kind == 2) = false:=by rw [beq_eq_false_iff_ne];omega
  have d3 : (m.kind == 3) = false:=by rw [beq_eq_false_iff_ne];omega
  have d4 : (m.kind == 4) = true:=by rw [beq_iff_eq];omega
  clear HD h4 h0 h2 h3
  have r1 : w1.cell? ⟨w.heap.size,1,none⟩ = some (u32v m.proto):=(HB1.out.cell 1).trans rfl
  have f1:=HB1.out.frozen 1
  have r5 : w1.cell? ⟨w.heap.size,5,none⟩ = some (.slice m.lA m.ls.length m.lc):=(HB1.out.cell 5).trans rfl
  have f5:=HB1.out.frozen 5
  obtain ⟨wy,hwy⟩ : ∃ wy,wy = ((w1.setCell ⟨w.heap.size,1,none⟩ (.int .u32 0)).setCell ⟨w.heap.size,5,none⟩ (.slice none 0 0)):=⟨_,rfl⟩
  have HBy : Hid (Blk wy w.heap.size 49 (MsgR.cells { m with proto:=0,lA:=none,ls:=[],lc:=0 })):=by
   rw [hwy];exact Lib.hid ((HB1.out.set_ 1 (.int .u32 0)).set_ 5 (.slice none 0 0))
  have HRy : Hid (Blk wy (w.heap.size + 1) 49 ys.toList):=by rw [hwy];exact Lib.hid ((HR1.out.far (by simp <;> omega) _).far (by simp <;> omega) _)
  have HKy : Hid (Keep w wy):=by rw [hwy];exact Lib.hid (Below.setCell (Below.setCell HK1.out (by simp <;> omega) _) (by simp <;> omega) _)
  have HKo : Hid (MsgR.ok { m with proto:=0,lA:=none,ls:=[],lc:=0 }):=Lib.hid ⟨HK.out.k,HK.out.n,HK.out.s,HK.out.b,HK.out.h,(fun x q => by cases q),HK.out.i,HK.out.z⟩
  obtain ⟨wx,hst,hbx,hgx⟩:=run_store_prt (P:=Try.prog) 6 zh.toList HBy.out (by rw [MsgR.len HKo.out,Array.length_toList,HZ.out.z];omega) HZ.out.o
  have HBX:=Lib.hid hbx;have HGX:=Lib.hid hgx
  rw [hwy] at hst
  clear hbx hgx
  go_upto_region 19 with fail
  have HX : Blk wx w.heap.size 49 M.cells:=by
   rw [HM.out]
   have q:=HBX.out
   rw [HZ.out.l,MsgR.splice_stop HKo.out rfl] at q
   exact q
  have HRX : Hid (Blk wx (w.heap.size + 1) 49 ys.toList):=Lib.hid (HRy.out.grown HGX.out (fun q => by injection q with q;omega))
  have HKX : Hid (Keep w wx):=Lib.hid (HKy.out.grown HGX.out HKy.out.size (fun q hq => by injection hq with hq;omega))
  clear hst hwy HBX r1 r5 f1 f5 r0
  obtain ⟨ds,hds⟩ : ∃ ds,MsA M ds:=⟨_,MsA.of HOK.out⟩
  have hdz:=hds.z;have hdn:=hds.n;have hdi:=hds.i
  have HDS:=Lib.hid hds
  have HBx : Hid (Blk wx w.heap.size 49 ds.toList):=by rw [HDS.out.l];exact HX
  obtain ⟨w8,hst8,hb8,hg8⟩:=run_store_blk (P:=Try.prog) ds.toList HRX.out (by rw [Array.length_toList,Array.length_toList,hdz,HY.out.z]) HDS.out.o
  have Hb8:=Lib.hid hb8;have Hg8:=Lib.hid hg8
  clear hds hb8 hg8 HX HRX HB1 HR1
  go_wp2_with ((with_reducible refine load_arr w.heap.size ds (Eq.trans ?_ rfl) HBx.out _ Try.underlying49 rfl hdi ?_);rfl)
  have hb8:=Hb8.out
  exact bodyPost_ret (v:=.agg ds) (results_cell_row Try.results35 _ _ (w.heap.size + 1) _ _ _ _ rfl hb8 Try.underlying49 rfl (by rw [List.size_toArray,Array.length_toList];exact hdi)) rfl ⟨ds,rfl,HDS.out,HKX.out.grown Hg8.out HKX.out.size (fun q hq => by injection hq with hq;omega)⟩
 by_cases h5 : m.kind = 5
 ·have HM : Hid (M = { m with hA:=none,hs:=[],hc:=0 }):=Lib.hid (HD.out.trans (by repeat (first | rw [if_pos (by omega)] | rw [if_neg (by omega)])))
  have d0 : (m.kind == 0) = false:=by rw [beq_eq_false_iff_ne];omega
  have d2 : (m.kind == 2) = false:=by rw [beq_eq_false_iff_ne];omega
  have d3 : (m.kind == 3) = false:=by rw [beq_eq_false_iff_ne];omega
  have d4 : (m.kind == 4) = false:=by rw [beq_eq_false_iff_ne];omega
  have d5 : (m.kind == 5) = true:=by rw [beq_iff_eq];omega
  clear HD h5 h0 h2 h3 h4
  have r4 : w1.cell? ⟨w.heap.size,4,none⟩ = some (.slice m.hA m.hs.length m.hc):=(HB1.out.cell 4).trans rfl
  have f4:=HB1.out.frozen 4
  go_upto_region 19 with fail
  obtain ⟨wx,hwx⟩ : ∃ wx,wx = (w1.setCell ⟨w.heap.size,4,none⟩ (.slice none 0 0)):=⟨_,rfl⟩
  have HX : Blk wx w.heap.size 49 M.cells:=by
   rw [hwx,HM.out]
   have q:=(HB1.out.set_ 4 (.slice none 0 0))
   exact q
  have HRX : Hid (Blk wx (w.heap.size + 1) 49 ys.toList):=by rw [hwx];exact Lib.hid (HR1.out.far (by simp <;> omega) _)
  have HKX : Hid (Keep w wx):=by rw [hwx];exact Lib.hid (Below.setCell HK1.out (by simp <;> omega) _)
  rw [← hwx]
  clear hwx r4 f4 r0
  obtain ⟨ds,hds⟩ : ∃ ds,MsA M ds:=⟨_,MsA.of HOK.out⟩
  have hdz:=hds.z;have hdn:=hds.n;have hdi:=hds.i
  have HDS:=Lib.hid hds
  have HBx : Hid (Blk wx w.heap.size 49 ds.toList):=by rw [HDS.out.l];exact HX
  obtain ⟨w8,hst8,hb8,hg8⟩:=run_store_blk (P:=Try.prog) ds.toList HRX.out (by rw [Array.length_toList,Array.length_toList,hdz,HY.out.z]) HDS.out.o
  have Hb8:=Lib.hid hb8;have Hg8:=Lib.hid hg8
  clear hds hb8 hg8 HX HRX HB1 HR1
  go_wp2_with ((with_reducible refine load_arr w.heap.size ds (Eq.trans ?_ rfl) HBx.out _ Try.underlying49 rfl hdi ?_);rfl)
  have hb8:=Hb8.out
  exact bodyPost_ret (v:=.agg ds) (results_cell_row Try.results35 _ _ (w.heap.size + 1) _ _ _ _ rfl hb8 Try.underlying49 rfl (by rw [List.size_toArray,Array.length_toList];exact hdi)) rfl ⟨ds,rfl,HDS.out,HKX.out.grown Hg8.out HKX.out.size (fun q hq => by injection hq with hq;omega)⟩
 by_cases h6 : m.kind = 6
 ·have HM : Hid (M = { m with iA:=none,is:=[],ic:=0 }):=Lib.hid (HD.out.trans (by repeat (first | rw [if_pos (by omega)] | rw [if_neg (by omega)])))
  have d0 : (m.kind == 0) = false:=by rw [beq_eq_false_iff_ne];omega
  have d2 : (m.kind == 2) = false:=by rw [beq_eq_false_iff_ne];omega
  have d3 : (m.kind == 3) = false:=by rw [beq_eq_false_iff_ne];omega
  have d4 : (m.kind == 4) = false:=by rw [beq_eq_false_iff_ne];omega
  have d5 : (m.kind == 5) = false:=by rw [beq_eq_false_iff_ne];omega
  have d6 : (m.kind == 6) = true:=by rw [beq_iff_eq];omega
  clear HD h6 h0 h2 h3 h4 h5
  have r38 : w1.cell? ⟨w.heap.size,38,none⟩ = some (.slice m.iA m.is.length m.ic):=(HB1.out.cell 38).trans ((MsgR.tail_get HK.out 0).trans rfl)
  have f38:=HB1.out.frozen 38
  go_upto_region 19 with fail
  obtain ⟨wx,hwx⟩ : ∃ wx,wx = (w1.setCell ⟨w.heap.size,38,none⟩ (.slice none 0 0)):=⟨_,rfl⟩
  have HX : Blk wx w.heap.size 49 M.cells:=by
   rw [hwx,HM.out]
   have q:=(HB1.out.set_ 38 (.slice none 0 0))
   rw [MsgR.set38 HK.out] at q;exact q
  have HRX : Hid (Blk wx (w.heap.size + 1) 49 ys.toList):=by rw [hwx];exact Lib.hid (HR1.out.far (by simp <;> omega) _)
  have HKX : Hid (Keep w wx):=by rw [hwx];exact Lib.hid (Below.setCell HK1.out (by simp <;> omega) _)
  rw [← hwx]
  clear hwx r38 f38 r0
  obtain ⟨ds,hds⟩ : ∃ ds,MsA M ds:=⟨_,MsA.of HOK.out⟩
  have hdz:=hds.z;have hdn:=hds.n;have hdi:=hds.i
  have HDS:=Lib.hid hds
  have HBx : Hid (Blk wx w.heap.size 49 ds.toList):=by rw [HDS.out.l];exact HX
  obtain ⟨w8,hst8,hb8,hg8⟩:=run_store_blk (P:=Try.prog) ds.toList HRX.out (by rw [Array.length_toList,Array.length_toList,hdz,HY.out.z]) HDS.out.o
  have Hb8:=Lib.hid hb8;have Hg8:=Lib.hid hg8
  clear hds hb8 hg8 HX HRX HB1 HR1
  go_wp2_with ((with_reducible refine load_arr w.heap.size ds (Eq.trans ?_ rfl) HBx.out _ Try.underlying49 rfl hdi ?_);rfl)
  have hb8:=Hb8.out
  exact bodyPost_ret (v:=.agg ds) (results_cell_row Try.results35 _ _ (w.heap.size + 1) _ _ _ _ rfl hb8 Try.underlying49 rfl (by rw [List.size_toArray,Array.length_toList];exact hdi)) rfl ⟨ds,rfl,HDS.out,HKX.out.grown Hg8.out HKX.out.size (fun q hq => by injection hq with hq;omega)⟩
 by_cases h7 : m.kind = 7
 ·have HM : Hid (M = { m with iA:=none,is:=[],ic:=0 }):=Lib.hid (HD.out.trans (by repeat (first | rw [if_pos (by omega)] | rw [if_neg (by omega)])))
  have d0 : (m.kind == 0) = false:=by rw [beq_eq_false_iff_ne];omega
  have d2 : (m.kind == 2) = false:=by rw [beq_eq_false_iff_ne];omega
  have d3 : (m.kind == 3) = false:=by rw [beq_eq_false_iff_ne];omega
  have d4 : (m.kind == 4) = false:=by rw [beq_eq_false_iff_ne];omega
  have d5 : (m.kind == 5) = false:=by rw [beq_eq_false_iff_ne];omega
  have d6 : (m.kind == 6) = false:=by rw [beq_eq_false_iff_ne];omega
  have d7 : (m.kind == 7) = true:=by rw [beq_iff_eq];omega
  clear HD h7 h0 h2 h3 h4 h5 h6
  have r38 : w1.cell? ⟨w.heap.size,38,none⟩ = some (.slice m.iA m.is.length m.ic):=(HB1.out.cell 38).trans ((MsgR.tail_get HK.out 0).trans rfl)
  have f38:=HB1.out.frozen 38
  go_upto_region 19 with fail
  obtain ⟨wx,hwx⟩ : ∃ wx,wx = (w1.setCell ⟨w.heap.size,38,none⟩ (.slice none 0 0)):=⟨_,rfl⟩
  have HX : Blk wx w.heap.size 49 M.cells:=by
   rw [hwx,HM.out]
   have q:=(HB1.out.set_ 38 (.slice none 0 0))
   rw [MsgR.set38 HK.out] at q;exact q
  have HRX : Hid (Blk wx (w.heap.size + 1) 49 ys.toList):=by rw [hwx];exact Lib.hid (HR1.out.far (by simp <;> omega) _)
  have HKX : Hid (Keep w wx):=by rw [hwx];exact Lib.hid (Below.setCell HK1.out (by simp <;> omega) _)
  rw [← hwx]
  clear hwx r38 f38 r0
  obtain ⟨ds,hds⟩ : ∃ ds,MsA M ds:=⟨_,MsA.of HOK.out⟩
  have hdz:=hds.z;have hdn:=hds.n;have hdi:=hds.i
  have HDS:=Lib.hid hds
  have HBx : Hid (Blk wx w.heap.size 49 ds.toList):=by rw [HDS.out.l];exact HX
  obtain ⟨w8,hst8,hb8,hg8⟩:=run_store_blk (P:=Try.prog) ds.toList HRX.out (by rw [Array.length_toList,Array.length_toList,hdz,HY.out.z]) HDS.out.o
  have Hb8:=Lib.hid hb8;have Hg8:=Lib.hid hg8
  clear hds hb8 hg8 HX HRX HB1 HR1
  go_wp2_with ((with_reducible refine load_arr w.heap.size ds (Eq.trans ?_ rfl) HBx.out _ Try.underlying49 rfl hdi ?_);rfl)
  have hb8:=Hb8.out
  exact bodyPost_ret (v:=.agg ds) (results_cell_row Try.results35 _ _ (w.heap.size + 1) _ _ _ _ rfl hb8 Try.underlying49 rfl (by rw [List.size_toArray,Array.length_toList];exact hdi)) rfl ⟨ds,rfl,HDS.out,HKX.out.grown Hg8.out HKX.out.size (fun q hq => by injection hq with hq;omega)⟩
 by_cases h8 : m.kind = 8
 ·have HM : Hid (M = { m with iA:=none,is:=[],ic:=0 }):=Lib.hid (HD.out.trans (by repeat (first | rw [if_pos (by omega)] | rw [if_neg (by omega)])))
  have d0 : (m.kind == 0) = false:=by rw [beq_eq_false_iff_ne];omega
  have d2 : (m.kind == 2) = false:=by rw [beq_eq_false_iff_ne];omega
  have d3 : (m.kind == 3) = false:=by rw [beq_eq_false_iff_ne];omega
  have d4 : (m.kind == 4) = false:=by rw [beq_eq_false_iff_ne];omega
  have d5 : (m.kind == 5) = false:=by rw [beq_eq_false_iff_ne];omega
  have d6 : (m.kind == 6) = false:=by rw [beq_eq_false_iff_ne];omega
  have d7 : (m.kind == 7) = false:=by rw [beq_eq_false_iff_ne];omega
  have d8 : (m.kind == 8) = true:=by rw [beq_iff_eq];omega
  clear HD h8 h0 h2 h3 h4 h5 h6 h7
  have r38 : w1.cell? ⟨w.heap.size,38,none⟩ = some (.slice m.iA m.is.length m.ic):=(HB1.out.cell 38).trans ((MsgR.tail_get HK.out 0).trans rfl)
  have f38:=HB1.out.frozen 38
  go_upto_region 19 with fail
  obtain ⟨wx,hwx⟩ : ∃ wx,wx = (w1.setCell ⟨w.heap.size,38,none⟩ (.slice none 0 0)):=⟨_,rfl⟩
  have HX : Blk wx w.heap.size 49 M.cells:=by
   rw [hwx,HM.out]
   have q:=(HB1.out.set_ 38 (.slice none 0 0))
   rw [MsgR.set38 HK.out] at q;exact q
  have HRX : Hid (Blk wx (w.heap.size + 1) 49 ys.toList):=by rw [hwx];exact Lib.hid (HR1.out.far (by simp <;> omega) _)
  have HKX : Hid (Keep w wx):=by rw [hwx];exact Lib.hid (Below.setCell HK1.out (by simp <;> omega) _)
  rw [← hwx]
  clear hwx r38 f38 r0
  obtain ⟨ds,hds⟩ : ∃ ds,MsA M ds:=⟨_,MsA.of HOK.out⟩
  have hdz:=hds.z;have hdn:=hds.n;have hdi:=hds.i
  have HDS:=Lib.hid hds
  have HBx : Hid (Blk wx w.heap.size 49 ds.toList):=by rw [HDS.out.l];exact HX
  obtain ⟨w8,hst8,hb8,hg8⟩:=run_store_blk (P:=Try.prog) ds.toList HRX.out (by rw [Array.length_toList,Array.length_toList,hdz,HY.out.z]) HDS.out.o
  have Hb8:=Lib.hid hb8;have Hg8:=Lib.hid hg8
  clear hds hb8 hg8 HX HRX HB1 HR1
  go_wp2_with ((with_reducible refine load_arr w.heap.size ds (Eq.trans ?_ rfl) HBx.out _ Try.underlying49 rfl hdi ?_);rfl)
  have hb8:=Hb8.out
  exact bodyPost_ret (v:=.agg ds) (results_cell_row Try.results35 _ _ (w.heap.size + 1) _ _ _ _ rfl hb8 Try.underlying49 rfl (by rw [List.size_toArray,Array.length_toList];exact hdi)) rfl ⟨ds,rfl,HDS.out,HKX.out.grown Hg8.out HKX.out.size (fun q hq => by injection hq with hq;omega)⟩
 by_cases h9 : m.kind = 9
 ·have HM : Hid (M = { m with bh:=zHdr,total:=0,sA:=none,shs:=[],sc:=0,fA:=none,fs:=[],fc:=0 }):=Lib.hid (HD.out.trans (by repeat (first | rw [if_pos (by omega)] | rw [if_neg (by omega)])))
  have d0 : (m.kind == 0) = false:=by rw [beq_eq_false_iff_ne];omega
  have d2 : (m.kind == 2) = false:=by rw [beq_eq_false_iff_ne];omega
  have d3 : (m.kind == 3) = false:=by rw [beq_eq_false_iff_ne];omega
  have d4 : (m.kind == 4) = false:=by rw [beq_eq_false_iff_ne];omega
  have d5 : (m.kind == 5) = false:=by rw [beq_eq_false_iff_ne];omega
  have d6 : (m.kind == 6) = false:=by rw [beq_eq_false_iff_ne];omega
  have d7 : (m.kind == 7) = false:=by rw [beq_eq_false_iff_ne];omega
  have d8 : (m.kind == 8) = false:=by rw [beq_eq_false_iff_ne];omega
  have d9 : (m.kind == 9) = true:=by rw [beq_iff_eq];omega
  clear HD h9 h0 h2 h3 h4 h5 h6 h7 h8
  obtain ⟨wx,hst,hbx,hgx⟩:=run_store_prt (P:=Try.prog) 39 zb.toList HB1.out (by rw [MsgR.len HK.out,Array.length_toList,hbz];omega) (by rw [HBL.out];intro u hu;exact MsgR.one (msgZ 0) u (by rw [MsgR.cells39];simp [hu]))
  have HBX:=Lib.hid hbx;have HGX:=Lib.hid hgx
  clear hbx hgx
  go_upto_region 19 with fail
  have HX : Blk wx w.heap.size 49 M.cells:=by
   rw [HM.out]
   have q:=HBX.out
   rw [HBL.out,MsgR.splice_blk HK.out (show (msgZ 0).bh.ok from ⟨rfl,rfl⟩)] at q
   exact q
  have HRX : Hid (Blk wx (w.heap.size + 1) 49 ys.toList):=Lib.hid (HR1.out.grown HGX.out (fun q => by injection q with q;omega))
  have HKX : Hid (Keep w wx):=Lib.hid (HK1.out.grown HGX.out HK1.out.size (fun q hq => by injection hq with hq;omega))
  clear hst HBX r0
  obtain ⟨ds,hds⟩ : ∃ ds,MsA M ds:=⟨_,MsA.of HOK.out⟩
  have hdz:=hds.z;have hdn:=hds.n;have hdi:=hds.i
  have HDS:=Lib.hid hds
  have HBx : Hid (Blk wx w.heap.size 49 ds.toList):=by rw [HDS.out.l];exact HX
  obtain ⟨w8,hst8,hb8,hg8⟩:=run_store_blk (P:=Try.prog) ds.toList HRX.out (by rw [Array.length_toList,Array.length_toList,hdz,HY.out.z]) HDS.out.o
  have Hb8:=Lib.hid hb8;have Hg8:=Lib.hid hg8
  clear hds hb8 hg8 HX HRX HB1 HR1
  go_wp2_with ((with_reducible refine load_arr w.heap.size ds (Eq.trans ?_ rfl) HBx.out _ Try.underlying49 rfl hdi ?_);rfl)
  have hb8:=Hb8.out
  exact bodyPost_ret (v:=.agg ds) (results_cell_row Try.results35 _ _ (w.heap.size + 1) _ _ _ _ rfl hb8 Try.underlying49 rfl (by rw [List.size_toArray,Array.length_toList];exact hdi)) rfl ⟨ds,rfl,HDS.out,HKX.out.grown Hg8.out HKX.out.size (fun q hq => by injection hq with hq;omega)⟩
 by_cases h10 : m.kind = 10
 ·have HM : Hid (M = { m with t:=txZ }):=Lib.hid (HD.out.trans (by repeat (first | rw [if_pos (by omega)] | rw [if_neg (by omega)])))
  have d0 : (m.kind == 0) = false:=by rw [beq_eq_false_iff_ne];omega
  have d2 : (m.kind == 2) = false:=by rw [beq_eq_false_iff_ne];omega
  have d3 : (m.kind == 3) = false:=by rw [beq_eq_false_iff_ne];omega
  have d4 : (m.kind == 4) = false:=by rw [beq_eq_false_iff_ne];omega
  have d5 : (m.kind == 5) = false:=by rw [beq_eq_false_iff_ne];omega
  have d6 : (m.kind == 6) = false:=by rw [beq_eq_false_iff_ne];omega
  have d7 : (m.kind == 7) = false:=by rw [beq_eq_false_iff_ne];omega
  have d8 : (m.kind == 8) = false:=by rw [beq_eq_false_iff_ne];omega
  have d9 : (m.kind == 9) = false:=by rw [beq_eq_false_iff_ne];omega
  have d10 : (m.kind == 10) = true:=by rw [beq_iff_eq];omega
  clear HD h10 h0 h2 h3 h4 h5 h6 h7 h8 h9
  have r110 : w1.cell? ⟨w.heap.size,110,none⟩ = some (u32v m.t.ver):=(HB1.out.cell 110).trans ((MsgR.tx_get HK.out 0).trans rfl)
  have f110:=HB1.out.frozen 110
  have r111 : w1.cell? ⟨w.heap.size,111,none⟩ = some (.slice m.t.iA m.t.ins.length m.t.ic):=(HB1.out.cell 111).trans ((MsgR.tx_get HK.out 1).trans rfl)
  have f111:=HB1.out.frozen 111
  have r112 : w1.cell? ⟨w.heap.size,112,none⟩ = some (.slice m.t.oA m.t.outs.length m.t.oc):=(HB1.out.cell 112).trans ((MsgR.tx_get HK.out 2).trans rfl)
  have f112:=HB1.out.frozen 112
  have r113 : w1.cell? ⟨w.heap.size,113,none⟩ = some (u32v m.t.lock):=(HB1.out.cell 113).trans ((MsgR.tx_get HK.out 3).trans rfl)
  have f113:=HB1.out.frozen 113
  go_upto_region 19 with fail
  obtain ⟨wx,hwx⟩ : ∃ wx,wx = ((((w1.setCell ⟨w.heap.size,110,none⟩ (.int .u32 0)).setCell ⟨w.heap.size,111,none⟩ (.slice none 0 0)).setCell ⟨w.heap.size,112,none⟩ (.slice none 0 0)).setCell ⟨w.heap.size,113,none⟩ (.int .u32 0)):=⟨_,rfl⟩
  have HX : Blk wx w.heap.size 49 M.cells:=by
   rw [hwx,HM.out]
   have q:=((((HB1.out.set_ 110 (.int .u32 0)).set_ 111 (.slice none 0 0)).set_ 112 (.slice none 0 0)).set_ 113 (.int .u32 0))
   rw [MsgR.set_tx HK.out] at q;exact q
  have HRX : Hid (Blk wx (w.heap.size + 1) 49 ys.toList):=by rw [hwx];exact Lib.hid ((((HR1.out.far (by simp <;> omega) _).far (by simp <;> omega) _).far (by simp <;> omega) _).far (by simp <;> omega) _)
  have HKX : Hid (Keep w wx):=by rw [hwx];exact Lib.hid (Below.setCell (Below.setCell (Below.setCell (Below.setCell HK1.out (by simp <;> omega) _) (by simp <;> omega) _) (by simp <;> omega) _) (by simp <;> omega) _)
  rw [← hwx]
  clear hwx r110 f110 r111 f111 r112 f112 r113 f113 r0
  obtain ⟨ds,hds⟩ : ∃ ds,MsA M ds:=⟨_,MsA.of HOK.out⟩
  have hdz:=hds.z;have hdn:=hds.n;have hdi:=hds.i
  have HDS:=Lib.hid hds
  have HBx : Hid (Blk wx w.heap.size 49 ds.toList):=by rw [HDS.out.l];exact HX
  obtain ⟨w8,hst8,hb8,hg8⟩:=run_store_blk (P:=Try.prog) ds.toList HRX.out (by rw [Array.length_toList,Array.length_toList,hdz,HY.out.z]) HDS.out.o
  have Hb8:=Lib.hid hb8;have Hg8:=Lib.hid hg8
  clear hds hb8 hg8 HX HRX HB1 HR1
  go_wp2_with ((with_reducible refine load_arr w.heap.size ds (Eq.trans ?_ rfl) HBx.out _ Try.underlying49 rfl hdi ?_);rfl)
  have hb8:=Hb8.out
  exact bodyPost_ret (v:=.agg ds) (results_cell_row Try.results35 _ _ (w.heap.size + 1) _ _ _ _ rfl hb8 Try.underlying49 rfl (by rw [List.size_toArray,Array.length_toList];exact hdi)) rfl ⟨ds,rfl,HDS.out,HKX.out.grown Hg8.out HKX.out.size (fun q hq => by injection hq with hq;omega)⟩
 have HM : Hid (M = m):=Lib.hid (HD.out.trans (by repeat (first | rw [if_pos (by omega)] | rw [if_neg (by omega)])))
 have d0 : (m.kind == 0) = false:=by rw [beq_eq_false_iff_ne];omega
 have d2 : (m.kind == 2) = false:=by rw [beq_eq_false_iff_ne];omega
 have d3 : (m.kind == 3) = false:=by rw [beq_eq_false_iff_ne];omega
 have d4 : (m.kind == 4) = false:=by rw [beq_eq_false_iff_ne];omega
 have d5 : (m.kind == 5) = false:=by rw [beq_eq_false_iff_ne];omega
 have d6 : (m.kind == 6) = false:=by rw [beq_eq_false_iff_ne];omega
 have d7 : (m.kind == 7) = false:=by rw [beq_eq_false_iff_ne];omega
 have d8 : (m.kind == 8) = false:=by rw [beq_eq_false_iff_ne];omega
 have d9 : (m.kind == 9) = false:=by rw [beq_eq_false_iff_ne];omega
 have d10 : (m.kind == 10) = false:=by rw [beq_eq_false_iff_ne];omega
 clear HD h0 h2 h3 h4 h5 h6 h7 h8 h9 h10
 go_upto_region 19 with fail
 obtain ⟨wx,hwx⟩ : ∃ wx,wx = w1:=⟨_,rfl⟩
 have HX : Blk wx w.heap.size 49 M.cells:=by rw [hwx,HM.out];exact HB1.out
 have HRX : Hid (Blk wx (w.heap.size + 1) 49 ys.toList):=by rw [hwx];exact HR1
 have HKX : Hid (Keep w wx):=by rw [hwx];exact HK1
 rw [← hwx]
 clear hwx r0
 obtain ⟨ds,hds⟩ : ∃ ds,MsA M ds:=⟨_,MsA.of HOK.out⟩
 have hdz:=hds.z;have hdn:=hds.n;have hdi:=hds.i
 have HDS:=Lib.hid hds
 have HBx : Hid (Blk wx w.heap.size 49 ds.toList):=by rw [HDS.out.l];exact HX
 obtain ⟨w8,hst8,hb8,hg8⟩:=run_store_blk (P:=Try.prog) ds.toList HRX.out (by rw [Array.length_toList,Array.length_toList,hdz,HY.out.z]) HDS.out.o
 have Hb8:=Lib.hid hb8;have Hg8:=Lib.hid hg8
 clear hds hb8 hg8 HX HRX HB1 HR1
 go_wp2_with ((with_reducible refine load_arr w.heap.size ds (Eq.trans ?_ rfl) HBx.out _ Try.underlying49 rfl hdi ?_);rfl)
 have hb8:=Hb8.out
 exact bodyPost_ret (v:=.agg ds) (results_cell_row Try.results35 _ _ (w.heap.size + 1) _ _ _ _ rfl hb8 Try.underlying49 rfl (by rw [List.size_toArray,Array.length_toList];exact hdi)) rfl ⟨ds,rfl,HDS.out,HKX.out.grown Hg8.out HKX.out.size (fun q hq => by injection hq with hq;omega)⟩
end Go.Proofs.Ytbgpgdhndanigaa
/- wire.nothing. (printed by gen_vu.py) -/
set_option linter.unusedSimpArgs false
set_option linter.unusedVariables false
namespace Go.Proofs.Ytbgpgdhndanigaa
open Go.RowKit
attribute [local go_sem ↓] Go.wp_at_zero Go.wp_at_succ
theorem zhead_letterA : ∃ zs : Array Value,HdA zHdr zs∧(∀ w,(zeroValue 30).run Try.prog w = .ok (.agg zs) w) :=
 ⟨zhead,by
  have h:=HdA.of (h:=zHdr) ⟨rfl,rfl⟩
  rwa [show zHdr.cells = zhead.toList from zhead_list.symm,Array.toArray_toList] at h,zhead_zero⟩
theorem MsgR.blk_tail {m : MsgR} (h : m.ok) (k : Nat) (hk : k < 3) : m.cells[k + 107]? = [u32v m.total,Value.slice m.sA m.shs.length m.sc,.slice m.fA m.fs.length m.fc][k]?:=by
 rw [show k + 107 = (k + 68) + 39 by omega,MsgR.blk_get h _ (by omega)]
 unfold MsgR.blk
 rw [List.getElem?_append_right (by rw [Hd.len h.b];omega),Hd.len h.b,show k + 68 - 68 = k by omega]
def nothingB (m : MsgR) : Bool:=(((m.proto.toNat : Int) == 0) && ((m.nonce : Int) == 0) && ((m.height.toNat : Int) == 0) && (m.stop == z32)) && (((m.hs.length : Int) == 0) && ((m.ls.length : Int) == 0) && ((m.is.length : Int) == 0)) && (((hdEq m.bh zHdr) && ((m.total.toNat : Int) == 0)) && ((m.shs.length : Int) == 0) && ((m.fs.length : Int) == 0)) && (((m.t.ver.toNat : Int) == 0) && ((m.t.ins.length : Int) == 0) && ((m.t.outs.length : Int) == 0) && ((m.t.lock.toNat : Int) == 0))
set_option maxRecDepth 100000 in
set_option maxHeartbeats 8000000 in
theorem nothing_any (m : MsgR) (cs : Array Value) (hA : MsA m cs) (hk : m.ok) (w : World) :
  Calls Try.prog 34 #[.agg cs] w fun e w' => e = .returned (.bool (nothingB m))∧Keep w w':=by
 obtain ⟨zh,hzA,hz0⟩:=zhash_letter32
 obtain ⟨zd,hzD,hd0⟩:=zhead_letterA
 obtain ⟨ss,hss⟩ : ∃ ss,HashA m.stop ss:=⟨_,HashA.of hk.s⟩
 obtain ⟨hv,hhv⟩ : ∃ hv,HdA m.bh hv:=⟨_,HdA.of hk.b⟩
 have hgd1:=hash_guard;have hgd2:=hd_guard
 have hzn:=hzA.n;have hzz:=hzA.z;have hdn:=hzD.n;have hdz:=hzD.z
 have hsn:=hss.n;have hsz:=hss.z;have hsi:=hss.i
 have hvn:=hhv.n;have hvz:=hhv.z;have hvi:=hhv.i
 have HE4 : Hid (∀ w,(Go.binOp .eql 27 (.agg ss) (.agg zh)).run Try.prog w = .ok (.bool (m.stop == z32)) w):=Lib.hid fun w => hash_eql hss hzA hk.s rfl w
 have HE8 : Hid (∀ w,(Go.binOp .eql 30 (.agg hv) (.agg zd)).run Try.prog w = .ok (.bool (hdEq m.bh zHdr)) w):=Lib.hid fun w => hd_eql hhv hzD hk.b ⟨rfl,rfl⟩ w
 have HS:=Lib.hid hss;have HH:=Lib.hid hhv
 have hcn:=hA.n;have hcz:=hA.z;have hci:=hA.i
 have HA:=Lib.hid hA;have HK:=Lib.hid hk
 clear hA hk hzA hzD hss hhv
 generalize hNB : nothingB m = NB
 have HNB:=Lib.hid hNB.symm
 clear hNB
 unfold nothingB at HNB
 go_enter Try.func34,Try.ntmps34
 go_upto_region 1 with fail
 obtain ⟨w1,hw1⟩ : ∃ w1,w1 = w.alloc (.cells cs 49):=⟨_,rfl⟩
 have HB1 : Hid (Blk w1 w.heap.size 49 m.cells):=by rw [hw1,← HA.out.l];exact Blk.new w _ cs.toList
 have HK1 : Hid (Keep w w1):=by rw [hw1];exact keep_new _ _
 rw [← hw1]
 clear hw1
 have RS : Hid (w1.rangeAt w.heap.size 6 ss.toList):=Lib.hid (range_of HB1.out 6 ss.toList (by
  rw [HS.out.l,MsgR.cells6,List.drop_left' (show m.hd6.length = 6 from rfl),List.take_left' rfl]))
 have RH : Hid (w1.rangeAt w.heap.size 39 hv.toList):=Lib.hid (range_of HB1.out 39 hv.toList (by
  rw [HH.out.l,MsgR.cells39,List.drop_left' (MsgR.hd39_len HK.out.s)]
  unfold MsgR.blk
  rw [List.append_assoc,List.take_left' rfl]))
 obtain ⟨p1,e1⟩ : ∃ p,((m.proto.toNat : Int) == 0) = p:=⟨_,rfl⟩
 obtain ⟨p2,e2⟩ : ∃ p,((m.nonce : Int) == 0) = p:=⟨_,rfl⟩
 obtain ⟨p3,e3⟩ : ∃ p,((m.height.toNat : Int) == 0) = p:=⟨_,rfl⟩
 obtain ⟨p4,e4⟩ : ∃ p,(m.stop == z32) = p:=⟨_,rfl⟩
 obtain ⟨p5,e5⟩ : ∃ p,((m.hs.length : Int) == 0) = p:=⟨_,rfl⟩
 obtain ⟨p6,e6⟩ : ∃ p,((m.ls.length : Int) == 0) = p:=⟨_,rfl⟩
 obtain ⟨p7,e7⟩ : ∃ p,((m.is.length : Int) == 0) = p:=⟨_,rfl⟩
 obtain ⟨p8,e8⟩ : ∃ p,(hdEq m.bh zHdr) = p:=⟨_,rfl⟩
 obtain ⟨p9,e9⟩ : ∃ p,((m.total.toNat : Int) == 0) = p:=⟨_,rfl⟩
 obtain ⟨p10,e10⟩ : ∃ p,((m.shs.length : Int) == 0) = p:=⟨_,rfl⟩
 obtain ⟨p11,e11⟩ : ∃ p,((m.fs.length : Int) == 0) = p:=⟨_,rfl⟩
 obtain ⟨p12,e12⟩ : ∃ p,((m.t.ver.toNat : Int) == 0) = p:=⟨_,rfl⟩
 obtain ⟨p13,e13⟩ : ∃ p,((m.t.ins.length : Int) == 0) = p:=⟨_,rfl⟩
 obtain ⟨p14,e14⟩ : ∃ p,((m.t.outs.length : Int) == 0) = p:=⟨_,rfl⟩
 obtain ⟨p15,e15⟩ : ∃ p,((m.t.lock.toNat : Int) == 0) = p:=⟨_,rfl⟩
 rw [e1,e2,e3,e4,e5,e6,e7,e8,e9,e10,e11,e12,e13,e14,e15] at HNB
 rw [e4] at HE4
 rw [e8] at HE8
 have EE:=Lib.hid (And.intro e1 (And.intro e2 (And.intro e3 (And.intro e5 (And.intro e6 (And.intro e7 (And.intro e9 (And.intro e10 (And.intro e11 (And.intro e12 (And.intro e13 (And.intro e14 e15))))))))))))
 clear e1 e2 e3 e4 e5 e6 e7 e8 e9 e10 e11 e12 e13 e14 e15
 have r1 : w1.cell? ⟨w.heap.size,1,none⟩ = some (u32v m.proto):=(HB1.out.cell 1).trans rfl
 have g1:=EE.out.1
 have r2 : w1.cell? ⟨w.heap.size,2,none⟩ = some (u64v m.nonce):=(HB1.out.cell 2).trans rfl
 have g2:=EE.out.2.1
 have r3 : w1.cell? ⟨w.heap.size,3,none⟩ = some (u32v m.height):=(HB1.out.cell 3).trans rfl
 have g3:=EE.out.2.2.1
 have g4:=HE4.out
 obtain ⟨q3,hq3⟩ : ∃ q : Bool,q = (p1 && p2 && p3 && p4):=⟨_,rfl⟩
 have Hq3:=Lib.hid hq3
 clear hq3
 go_cut [3] (fun v wx => v = .bool q3∧wx = w1)
 case first =>
  cases p1 with
  | false =>
    have hq:=Hq3.out
    simp only [Bool.false_and,Bool.true_and,Bool.and_false,Bool.and_true] at hq
    subst hq
    clear HNB
    go_wp2_with (first | ((with_reducible refine load_partg w.heap.size 6 ss (Eq.trans ?_ rfl) RS.out _ hash_under rfl hsi (Eq.trans ?_ rfl) ?_);rfl;rfl) | ((with_reducible refine load_partg w.heap.size 6 ss (Eq.trans ?_ rfl) RS.out _ hash_under rfl hsi rfl ?_);rfl))
    go_meet
    exact ⟨rfl,rfl⟩
  | true =>
    cases p2 with
    | false =>
      have hq:=Hq3.out
      simp only [Bool.false_and,Bool.true_and,Bool.and_false,Bool.and_true] at hq
      subst hq
      clear HNB
      go_wp2_with (first | ((with_reducible refine load_partg w.heap.size 6 ss (Eq.trans ?_ rfl) RS.out _ hash_under rfl hsi (Eq.trans ?_ rfl) ?_);rfl;rfl) | ((with_reducible refine load_partg w.heap.size 6 ss (Eq.trans ?_ rfl) RS.out _ hash_under rfl hsi rfl ?_);rfl))
      go_meet
      exact ⟨rfl,rfl⟩
    | true =>
      cases p3 with
      | false =>
        have hq:=Hq3.out
        simp only [Bool.false_and,Bool.true_and,Bool.and_false,Bool.and_true] at hq
        subst hq
        clear HNB
        go_wp2_with (first | ((with_reducible refine load_partg w.heap.size 6 ss (Eq.trans ?_ rfl) RS.out _ hash_under rfl hsi (Eq.trans ?_ rfl) ?_);rfl;rfl) | ((with_reducible refine load_partg w.heap.size 6 ss (Eq.trans ?_ rfl) RS.out _ hash_under rfl hsi rfl ?_);rfl))
        go_meet
        exact ⟨rfl,rfl⟩
      | true =>
        cases p4 with
        | false =>
          have hq:=Hq3.out
          simp only [Bool.false_and,Bool.true_and,Bool.and_false,Bool.and_true] at hq
          subst hq
          clear HNB
          go_wp2_with (first | ((with_reducible refine load_partg w.heap.size 6 ss (Eq.trans ?_ rfl) RS.out _ hash_under rfl hsi (Eq.trans ?_ rfl) ?_);rfl;rfl) | ((with_reducible refine load_partg w.heap.size 6 ss (Eq.trans ?_ rfl) RS.out _ hash_under rfl hsi rfl ?_);rfl))
          go_meet
          exact ⟨rfl,rfl⟩
        | true =>
          have hq:=Hq3.out
          simp only [Bool.false_and,Bool.true_and,Bool.and_false,Bool.and_true] at hq
          subst hq
          clear HNB
          go_wp2_with (first | ((with_reducible refine load_partg w.heap.size 6 ss (Eq.trans ?_ rfl) RS.out _ hash_under rfl hsi (Eq.trans ?_ rfl) ?_);rfl;rfl) | ((with_reducible refine load_partg w.heap.size 6 ss (Eq.trans ?_ rfl) RS.out _ hash_under rfl hsi rfl ?_);rfl))
          go_meet
          exact ⟨rfl,rfl⟩
 obtain ⟨rfl,hwc⟩:=hcut
 obtain rfl:=hwc.symm
 clear r1 g1 r2 g2 r3 g3 g4
 go_upto_region 2 with fail
 have r5 : w1.cell? ⟨w.heap.size,4,none⟩ = some (.slice m.hA m.hs.length m.hc):=(HB1.out.cell 4).trans rfl
 have g5:=EE.out.2.2.2.1
 have r6 : w1.cell? ⟨w.heap.size,5,none⟩ = some (.slice m.lA m.ls.length m.lc):=(HB1.out.cell 5).trans rfl
 have g6:=EE.out.2.2.2.2.1
 have r7 : w1.cell? ⟨w.heap.size,38,none⟩ = some (.slice m.iA m.is.length m.ic):=(HB1.out.cell 38).trans ((MsgR.tail_get HK.out 0).trans rfl)
 have g7:=EE.out.2.2.2.2.2.1
 obtain ⟨q4,hq4⟩ : ∃ q : Bool,q = (p5 && p6 && p7):=⟨_,rfl⟩
 have Hq4:=Lib.hid hq4
 clear hq4
 go_cut [4] (fun v wx => v = .bool q4∧wx = w1)
 case first =>
  cases p5 with
  | false =>
    have hq:=Hq4.out
    simp only [Bool.false_and,Bool.true_and,Bool.and_false,Bool.and_true] at hq
    subst hq
    clear HNB
    go_wp2_with (fail)
    go_meet
    exact ⟨rfl,rfl⟩
  | true =>
    cases p6 with
    | false =>
      have hq:=Hq4.out
      simp only [Bool.false_and,Bool.true_and,Bool.and_false,Bool.and_true] at hq
      subst hq
      clear HNB
      go_wp2_with (fail)
      go_meet
      exact ⟨rfl,rfl⟩
    | true =>
      cases p7 with
      | false =>
        have hq:=Hq4.out
        simp only [Bool.false_and,Bool.true_and,Bool.and_false,Bool.and_true] at hq
        subst hq
        clear HNB
        go_wp2_with (fail)
        go_meet
        exact ⟨rfl,rfl⟩
      | true =>
        have hq:=Hq4.out
        simp only [Bool.false_and,Bool.true_and,Bool.and_false,Bool.and_true] at hq
        subst hq
        clear HNB
        go_wp2_with (fail)
        go_meet
        exact ⟨rfl,rfl⟩
 obtain ⟨rfl,hwc⟩:=hcut
 obtain rfl:=hwc.symm
 clear r5 g5 r6 g6 r7 g7
 go_upto_region 3 with fail
 have g8:=HE8.out
 have r9 : w1.cell? ⟨w.heap.size,107,none⟩ = some (u32v m.total):=(HB1.out.cell 107).trans ((MsgR.blk_tail HK.out 0 (by omega)).trans rfl)
 have g9:=EE.out.2.2.2.2.2.2.1
 obtain ⟨q5,hq5⟩ : ∃ q : Bool,q = (p8 && p9):=⟨_,rfl⟩
 have Hq5:=Lib.hid hq5
 clear hq5
 go_cut [5] (fun v wx => v = .bool q5∧wx = w1)
 case first =>
  cases p8 with
  | false =>
    have hq:=Hq5.out
    simp only [Bool.false_and,Bool.true_and,Bool.and_false,Bool.and_true] at hq
    subst hq
    clear HNB
    go_wp2_with (first | ((with_reducible refine load_partg w.heap.size 39 hv (Eq.trans ?_ rfl) RH.out _ Try.underlying30 rfl hvi (Eq.trans ?_ rfl) ?_);rfl;rfl) | ((with_reducible refine load_partg w.heap.size 39 hv (Eq.trans ?_ rfl) RH.out _ Try.underlying30 rfl hvi rfl ?_);rfl))
    go_meet
    exact ⟨rfl,rfl⟩
  | true =>
    cases p9 with
    | false =>
      have hq:=Hq5.out
      simp only [Bool.false_and,Bool.true_and,Bool.and_false,Bool.and_true] at hq
      subst hq
      clear HNB
      go_wp2_with (first | ((with_reducible refine load_partg w.heap.size 39 hv (Eq.trans ?_ rfl) RH.out _ Try.underlying30 rfl hvi (Eq.trans ?_ rfl) ?_);rfl;rfl) | ((with_reducible refine load_partg w.heap.size 39 hv (Eq.trans ?_ rfl) RH.out _ Try.underlying30 rfl hvi rfl ?_);rfl))
      go_meet
      exact ⟨rfl,rfl⟩
    | true =>
      have hq:=Hq5.out
      simp only [Bool.false_and,Bool.true_and,Bool.and_false,Bool.and_true] at hq
      subst hq
      clear HNB
      go_wp2_with (first | ((with_reducible refine load_partg w.heap.size 39 hv (Eq.trans ?_ rfl) RH.out _ Try.underlying30 rfl hvi (Eq.trans ?_ rfl) ?_);rfl;rfl) | ((with_reducible refine load_partg w.heap.size 39 hv (Eq.trans ?_ rfl) RH.out _ Try.underlying30 rfl hvi rfl ?_);rfl))
      go_meet
      exact ⟨rfl,rfl⟩
 obtain ⟨rfl,hwc⟩:=hcut
 obtain rfl:=hwc.symm
 clear g8 r9 g9
 go_upto_region 4 with fail
 have r10 : w1.cell? ⟨w.heap.size,108,none⟩ = some (.slice m.sA m.shs.length m.sc):=(HB1.out.cell 108).trans ((MsgR.blk_tail HK.out 1 (by omega)).trans rfl)
 have g10:=EE.out.2.2.2.2.2.2.2.1
 have r11 : w1.cell? ⟨w.heap.size,109,none⟩ = some (.slice m.fA m.fs.length m.fc):=(HB1.out.cell 109).trans ((MsgR.blk_tail HK.out 2 (by omega)).trans rfl)
 have g11:=EE.out.2.2.2.2.2.2.2.2.1
 obtain ⟨q6,hq6⟩ : ∃ q : Bool,q = (q5 && p10 && p11):=⟨_,rfl⟩
 have Hq6:=Lib.hid hq6
 clear hq6
 go_cut [6] (fun v wx => v = .bool q6∧wx = w1)
 case first =>
  cases q5 with
  | false =>
    have hq:=Hq6.out
    simp only [Bool.false_and,Bool.true_and,Bool.and_false,Bool.and_true] at hq
    subst hq
    clear HNB
    go_wp2_with (fail)
    go_meet
    exact ⟨rfl,rfl⟩
  | true =>
    cases p10 with
    | false =>
      have hq:=Hq6.out
      simp only [Bool.false_and,Bool.true_and,Bool.and_false,Bool.and_true] at hq
      subst hq
      clear HNB
      go_wp2_with (fail)
      go_meet
      exact ⟨rfl,rfl⟩
    | true =>
      cases p11 with
      | false =>
        have hq:=Hq6.out
        simp only [Bool.false_and,Bool.true_and,Bool.and_false,Bool.and_true] at hq
        subst hq
        clear HNB
        go_wp2_with (fail)
        go_meet
        exact ⟨rfl,rfl⟩
      | true =>
        have hq:=Hq6.out
        simp only [Bool.false_and,Bool.true_and,Bool.and_false,Bool.and_true] at hq
        subst hq
        clear HNB
        go_wp2_with (fail)
        go_meet
        exact ⟨rfl,rfl⟩
 obtain ⟨rfl,hwc⟩:=hcut
 obtain rfl:=hwc.symm
 clear r10 g10 r11 g11
 go_upto_region 5 with fail
 have r12 : w1.cell? ⟨w.heap.size,110,none⟩ = some (u32v m.t.ver):=(HB1.out.cell 110).trans ((MsgR.tx_get HK.out 0).trans rfl)
 have g12:=EE.out.2.2.2.2.2.2.2.2.2.1
 have r13 : w1.cell? ⟨w.heap.size,111,none⟩ = some (.slice m.t.iA m.t.ins.length m.t.ic):=(HB1.out.cell 111).trans ((MsgR.tx_get HK.out 1).trans rfl)
 have g13:=EE.out.2.2.2.2.2.2.2.2.2.2.1
 have r14 : w1.cell? ⟨w.heap.size,112,none⟩ = some (.slice m.t.oA m.t.outs.length m.t.oc):=(HB1.out.cell 112).trans ((MsgR.tx_get HK.out 2).trans rfl)
 have g14:=EE.out.2.2.2.2.2.2.2.2.2.2.2.1
 have r15 : w1.cell? ⟨w.heap.size,113,none⟩ = some (u32v m.t.lock):=(HB1.out.cell 113).trans ((MsgR.tx_get HK.out 3).trans rfl)
 have g15:=EE.out.2.2.2.2.2.2.2.2.2.2.2.2
 obtain ⟨q7,hq7⟩ : ∃ q : Bool,q = (p12 && p13 && p14 && p15):=⟨_,rfl⟩
 have Hq7:=Lib.hid hq7
 clear hq7
 go_cut [7] (fun v wx => v = .bool q7∧wx = w1)
 case first =>
  cases p12 with
  | false =>
    have hq:=Hq7.out
    simp only [Bool.false_and,Bool.true_and,Bool.and_false,Bool.and_true] at hq
    subst hq
    clear HNB
    go_wp2_with (fail)
    go_meet
    exact ⟨rfl,rfl⟩
  | true =>
    cases p13 with
    | false =>
      have hq:=Hq7.out
      simp only [Bool.false_and,Bool.true_and,Bool.and_false,Bool.and_true] at hq
      subst hq
      clear HNB
      go_wp2_with (fail)
      go_meet
      exact ⟨rfl,rfl⟩
    | true =>
      cases p14 with
      | false =>
        have hq:=Hq7.out
        simp only [Bool.false_and,Bool.true_and,Bool.and_false,Bool.and_true] at hq
        subst hq
        clear HNB
        go_wp2_with (fail)
        go_meet
        exact ⟨rfl,rfl⟩
      | true =>
        cases p15 with
        | false =>
          have hq:=Hq7.out
          simp only [Bool.false_and,Bool.true_and,Bool.and_false,Bool.and_true] at hq
          subst hq
          clear HNB
          go_wp2_with (fail)
          go_meet
          exact ⟨rfl,rfl⟩
        | true =>
          have hq:=Hq7.out
          simp only [Bool.false_and,Bool.true_and,Bool.and_false,Bool.and_true] at hq
          subst hq
          clear HNB
          go_wp2_with (fail)
          go_meet
          exact ⟨rfl,rfl⟩
 obtain ⟨rfl,hwc⟩:=hcut
 obtain rfl:=hwc.symm
 clear r12 g12 r13 g13 r14 g14 r15 g15
 go_upto_region 6 with fail
 have hf : NB = (q3 && q4 && q6 && q7):=by rw [HNB.out,Hq3.out,Hq4.out,Hq6.out,Hq5.out,Hq7.out]
 subst hf
 clear HNB Hq3 Hq4 Hq5 Hq6 Hq7 EE HE4 HE8 RS RH
 cases q3 with
 | false =>
   go_wp2
   exact bodyPost_ret (v:=.bool _) (by simp [results,Try.results34]) rfl ⟨rfl,HK1.out⟩
 | true =>
   cases q4 with
   | false =>
     go_wp2
     exact bodyPost_ret (v:=.bool _) (by simp [results,Try.results34]) rfl ⟨rfl,HK1.out⟩
   | true =>
     cases q6 with
     | false =>
       go_wp2
       exact bodyPost_ret (v:=.bool _) (by simp [results,Try.results34]) rfl ⟨rfl,HK1.out⟩
     | true =>
       cases q7 with
       | false =>
         go_wp2
         exact bodyPost_ret (v:=.bool _) (by simp [results,Try.results34]) rfl ⟨rfl,HK1.out⟩
       | true =>
         go_wp2
         exact bodyPost_ret (v:=.bool _) (by simp [results,Try.results34]) rfl ⟨rfl,HK1.out⟩
end Go.Proofs.Ytbgpgdhndanigaa
/- wire.Fits. (printed by gen_vv.py) -/
set_option linter.unusedSimpArgs false
set_option linter.unusedVariables false
namespace Go.Proofs.Ytbgpgdhndanigaa
open Go.RowKit
attribute [local go_sem ↓] Go.wp_at_zero Go.wp_at_succ
set_option maxRecDepth 100000 in
set_option maxHeartbeats 4000000 in
theorem tsane_all (t : TxR) (w : World) (h : t.at w) :
  Calls Try.prog 33 #[.agg #[u32v t.ver,.slice t.iA t.ins.length t.ic,.slice t.oA t.outs.length t.oc,u32v t.lock]] w fun e w' => e = .returned (.bool (saneT t))∧Keep w w':=by
 by_cases hn : t.ins.length ≤ 1000000
 ·by_cases hm : t.outs.length ≤ 1000000
  ·exact tsane_any t w h hn hm
  ·by_cases g0 : t.ins.length < 1 ∨ 1000 < t.ins.length
   ·have hv : saneT t = false:=by unfold saneT;rw [decide_eq_false_iff_not];omega
    rw [hv]
    have HK : Hid (Keep w w):=Lib.hid (Below.refl _ _)
    by_cases g1 : t.ins.length < 1
    ·have d1 : (t.ins.length : Int) < 1:=by omega
     clear h hn hm g0 g1 hv
     go_enter Try.func33,Try.ntmps33
     go_wp2
     exact bodyPost_ret (v:=.bool false) (by simp [results,Try.results33]) rfl ⟨rfl,(HK.out).alloc (Nat.le_refl _) _⟩
    ·have d1 : ¬ (t.ins.length : Int) < 1:=by omega
     have d2 : (1000 : Int) < t.ins.length:=by omega
     clear h hn hm g0 g1 hv
     go_enter Try.func33,Try.ntmps33
     go_wp2
     exact bodyPost_ret (v:=.bool false) (by simp [results,Try.results33]) rfl ⟨rfl,(HK.out).alloc (Nat.le_refl _) _⟩
   ·have hv : saneT t = false:=by unfold saneT;rw [decide_eq_false_iff_not];omega
    rw [hv]
    have HK : Hid (Keep w w):=Lib.hid (Below.refl _ _)
    have d1 : ¬ (t.ins.length : Int) < 1:=by omega
    have d2 : ¬ (1000 : Int) < t.ins.length:=by omega
    have d3 : (1000 : Int) < t.outs.length:=by omega
    clear h hn hm g0 hv
    go_enter Try.func33,Try.ntmps33
    go_wp2
    exact bodyPost_ret (v:=.bool false) (by simp [results,Try.results33]) rfl ⟨rfl,(HK.out).alloc (Nat.le_refl _) _⟩
 ·have hv : saneT t = false:=by unfold saneT;rw [decide_eq_false_iff_not];omega
  rw [hv]
  have HK : Hid (Keep w w):=Lib.hid (Below.refl _ _)
  have d1 : ¬ (t.ins.length : Int) < 1:=by omega
  have d2 : (1000 : Int) < t.ins.length:=by omega
  clear h hn hv
  go_enter Try.func33,Try.ntmps33
  go_wp2
  exact bodyPost_ret (v:=.bool false) (by simp [results,Try.results33]) rfl ⟨rfl,(HK.out).alloc (Nat.le_refl _) _⟩
def fitsB (m : MsgR) : Bool:=decide (0 ≤ m.kind∧m.kind < 11∧m.ls.length ≤ 101∧m.hs.length ≤ 2000∧m.is.length ≤ 50000∧m.shs.length ≤ 4096∧m.fs.length ≤ 1024∧(m.kind = 10 → saneT m.t = true)∧nothingB (othersM m) = true)
set_option maxRecDepth 100000 in
set_option maxHeartbeats 8000000 in
theorem fits_any (m : MsgR) (cs : Array Value) (hA : MsA m cs) (hk : m.ok) (w : World) (ht : m.t.at w) :
  Calls Try.prog 13 #[.agg cs] w fun e w' => e = .returned (.bool (fitsB m))∧Keep w w':=by
 have hcn:=hA.n;have hcz:=hA.z;have hci:=hA.i
 have OT : Hid (∀ y,Calls Try.prog 35 #[.agg cs] y fun e w' => ∃ ds,e = .returned (.agg ds)∧MsA (othersM m) ds∧Keep y w'):=Lib.hid fun y => others_any m cs hA hk y
 have NO : Hid (∀ ds y,MsA (othersM m) ds → Calls Try.prog 34 #[.agg ds] y fun e w' => e = .returned (.bool (nothingB (othersM m)))∧Keep y w'):=Lib.hid fun ds y h => nothing_any _ ds h (othersM_ok hk) y
 have TS : Hid (∀ y,Keep w y → Calls Try.prog 33 #[.agg #[u32v m.t.ver,.slice m.t.iA m.t.ins.length m.t.ic,.slice m.t.oA m.t.outs.length m.t.oc,u32v m.t.lock]] y fun e w' => e = .returned (.bool (saneT m.t))∧Keep y w'):=Lib.hid fun y h => tsane_all _ y (ht.keep h)
 have HF : Hid (fitsB m = decide (0 ≤ m.kind∧m.kind < 11∧m.ls.length ≤ 101∧m.hs.length ≤ 2000∧m.is.length ≤ 50000∧m.shs.length ≤ 4096∧m.fs.length ≤ 1024∧(m.kind = 10 → saneT m.t = true)∧nothingB (othersM m) = true)):=Lib.hid rfl
 generalize fitsB m = R at *
 generalize saneT m.t = ST at *
 generalize nothingB (othersM m) = NT at *
 have HA:=Lib.hid hA;have HK:=Lib.hid hk
 clear hA hk ht
 go_enter Try.func13,Try.ntmps13
 go_upto_region 1 with fail
 obtain ⟨w1,hw1⟩ : ∃ w1,w1 = w.alloc (.cells cs 49):=⟨_,rfl⟩
 have HB1 : Hid (Blk w1 w.heap.size 49 m.cells):=by rw [hw1,← HA.out.l];exact Blk.new w _ cs.toList
 have HBc : Hid (Blk w1 w.heap.size 49 cs.toList):=by rw [hw1];exact Blk.new w _ cs.toList
 have HK1 : Hid (Keep w w1):=by rw [hw1];exact keep_new _ _
 rw [← hw1]
 clear hw1
 have rk : w1.cell? ⟨w.heap.size,0,none⟩ = some (.int .i64 m.kind):=(HB1.out.cell 0).trans rfl
 have rh : w1.cell? ⟨w.heap.size,4,none⟩ = some (.slice m.hA m.hs.length m.hc):=(HB1.out.cell 4).trans rfl
 have rl : w1.cell? ⟨w.heap.size,5,none⟩ = some (.slice m.lA m.ls.length m.lc):=(HB1.out.cell 5).trans rfl
 have ri : w1.cell? ⟨w.heap.size,38,none⟩ = some (.slice m.iA m.is.length m.ic):=(HB1.out.cell 38).trans ((MsgR.tail_get HK.out 0).trans rfl)
 have rs : w1.cell? ⟨w.heap.size,108,none⟩ = some (.slice m.sA m.shs.length m.sc):=(HB1.out.cell 108).trans ((MsgR.blk_tail HK.out 1 (by omega)).trans rfl)
 have rf : w1.cell? ⟨w.heap.size,109,none⟩ = some (.slice m.fA m.fs.length m.fc):=(HB1.out.cell 109).trans ((MsgR.blk_tail HK.out 2 (by omega)).trans rfl)
 have rt0 : w1.cell? ⟨w.heap.size,110,none⟩ = some (u32v m.t.ver):=(HB1.out.cell 110).trans ((MsgR.tx_get HK.out 0).trans rfl)
 have rt1 : w1.cell? ⟨w.heap.size,111,none⟩ = some (.slice m.t.iA m.t.ins.length m.t.ic):=(HB1.out.cell 111).trans ((MsgR.tx_get HK.out 1).trans rfl)
 have rt2 : w1.cell? ⟨w.heap.size,112,none⟩ = some (.slice m.t.oA m.t.outs.length m.t.oc):=(HB1.out.cell 112).trans ((MsgR.tx_get HK.out 2).trans rfl)
 have rt3 : w1.cell? ⟨w.heap.size,113,none⟩ = some (u32v m.t.lock):=(HB1.out.cell 113).trans ((MsgR.tx_get HK.out 3).trans rfl)
 by_cases c0 : m.kind < 0
 ·have hv : R = false:=by rw [HF.out,decide_eq_false_iff_not];omega
  subst hv
  have d0 : m.kind < 0:=by omega
  clear HF OT NO TS c0
  go_wp2
  exact bodyPost_ret (v:=.bool false) (by simp [results,Try.results13]) rfl ⟨rfl,HK1.out⟩
 have d0 : ¬ m.kind < 0:=by omega
 by_cases c1 : 11 ≤ m.kind
 ·have hv : R = false:=by rw [HF.out,decide_eq_false_iff_not];omega
  subst hv
  have d1 : (11 : Int) ≤ m.kind:=by omega
  clear HF OT NO TS c0 c1
  go_wp2
  exact bodyPost_ret (v:=.bool false) (by simp [results,Try.results13]) rfl ⟨rfl,HK1.out⟩
 have d1 : ¬ (11 : Int) ≤ m.kind:=by omega
 by_cases c2 : 101 < m.ls.length
 ·have hv : R = false:=by rw [HF.out,decide_eq_false_iff_not];omega
  subst hv
  have d2 : (101 : Int) < m.ls.length:=by omega
  clear HF OT NO TS c0 c1 c2
  go_wp2
  exact bodyPost_ret (v:=.bool false) (by simp [results,Try.results13]) rfl ⟨rfl,HK1.out⟩
 have d2 : ¬ (101 : Int) < m.ls.length:=by omega
 by_cases c3 : 2000 < m.hs.length
 ·have hv : R = false:=by rw [HF.out,decide_eq_false_iff_not];omega
  subst hv
  have d3 : (2000 : Int) < m.hs.length:=by omega
  clear HF OT NO TS c0 c1 c2 c3
  go_wp2
  exact bodyPost_ret (v:=.bool false) (by simp [results,Try.results13]) rfl ⟨rfl,HK1.out⟩
 have d3 : ¬ (2000 : Int) < m.hs.length:=by omega
 by_cases c4 : 50000 < m.is.length
 ·have hv : R = false:=by rw [HF.out,decide_eq_false_iff_not];omega
  subst hv
  have d4 : (50000 : Int) < m.is.length:=by omega
  clear HF OT NO TS c0 c1 c2 c3 c4
  go_wp2
  exact bodyPost_ret (v:=.bool false) (by simp [results,Try.results13]) rfl ⟨rfl,HK1.out⟩
 have d4 : ¬ (50000 : Int) < m.is.length:=by omega
 by_cases c5 : 4096 < m.shs.length
 ·have hv : R = false:=by rw [HF.out,decide_eq_false_iff_not];omega
  subst hv
  have d5 : (4096 : Int) < m.shs.length:=by omega
  clear HF OT NO TS c0 c1 c2 c3 c4 c5
  go_wp2
  exact bodyPost_ret (v:=.bool false) (by simp [results,Try.results13]) rfl ⟨rfl,HK1.out⟩
 have d5 : ¬ (4096 : Int) < m.shs.length:=by omega
 by_cases c6 : 1024 < m.fs.length
 ·have hv : R = false:=by rw [HF.out,decide_eq_false_iff_not];omega
  subst hv
  have d6 : (1024 : Int) < m.fs.length:=by omega
  clear HF OT NO TS c0 c1 c2 c3 c4 c5 c6
  go_wp2
  exact bodyPost_ret (v:=.bool false) (by simp [results,Try.results13]) rfl ⟨rfl,HK1.out⟩
 have d6 : ¬ (1024 : Int) < m.fs.length:=by omega
 by_cases hk10 : m.kind = 10
 ·have d8 : (m.kind == 10) = true:=by rw [beq_iff_eq];exact hk10
  cases ST with
  | false =>
    have hv : R = false:=by rw [HF.out,decide_eq_false_iff_not];intro q;exact absurd (q.2.2.2.2.2.2.2.1 hk10) (by decide)
    subst hv
    clear HF OT NO hk10 c0 c1 c2 c3 c4 c5 c6
    go_wp2_with (go_at_call 33;refine (TS.out _ HK1.out).mono ?_;rintro e w2 ⟨rfl,k2⟩;have HK2:=Lib.hid (keep_trans HK1.out k2);clear k2)
    exact bodyPost_ret (v:=.bool false) (by simp [results,Try.results13]) rfl ⟨rfl,HK2.out⟩
  | true =>
    have hv : R = NT:=by
     rw [HF.out]
     cases NT with
     | false => rw [decide_eq_false_iff_not];intro q;exact absurd q.2.2.2.2.2.2.2.2 (by decide)
     | true => rw [decide_eq_true_eq];exact ⟨by omega,by omega,by omega,by omega,by omega,by omega,by omega,fun _ => rfl,rfl⟩
    subst hv
    clear HF hk10 c0 c1 c2 c3 c4 c5 c6
    go_upto_region 9 with (go_at_call 33;refine (TS.out _ HK1.out).mono ?_;rintro e w2 ⟨rfl,k2⟩;have HK2:=Lib.hid (keep_trans HK1.out k2);have HB2:=Lib.hid (HBc.out.keep k2);clear k2)
    go_wp2_with (first | ((with_reducible refine load_arr w.heap.size cs (Eq.trans ?_ rfl) HB2.out _ Try.underlying49 rfl hci ?_);rfl) | (go_at_call 35;refine (OT.out _).mono ?_;rintro e w3 ⟨ds,rfl,hds,k3⟩;have hdn:=hds.n;have hdz:=hds.z;have HDS:=Lib.hid hds;have HK3:=Lib.hid (keep_trans HK2.out k3);clear hds k3) | (go_at_call 34;refine (NO.out _ _ HDS.out).mono ?_;rintro e w4 ⟨rfl,k4⟩;have HK4:=Lib.hid (keep_trans HK3.out k4);clear k4))
    exact bodyPost_ret (v:=.bool _) (by simp [results,Try.results13]) rfl ⟨rfl,HK4.out⟩
 ·have d8 : (m.kind == 10) = false:=by rw [beq_eq_false_iff_ne];exact hk10
  have hv : R = NT:=by
   rw [HF.out]
   cases NT with
   | false => rw [decide_eq_false_iff_not];intro q;exact absurd q.2.2.2.2.2.2.2.2 (by decide)
   | true => rw [decide_eq_true_eq];exact ⟨by omega,by omega,by omega,by omega,by omega,by omega,by omega,fun q => absurd q hk10,rfl⟩
  subst hv
  clear HF hk10 c0 c1 c2 c3 c4 c5 c6
  go_upto_region 9 with fail
  go_wp2_with (first | ((with_reducible refine load_arr w.heap.size cs (Eq.trans ?_ rfl) HBc.out _ Try.underlying49 rfl hci ?_);rfl) | (go_at_call 35;refine (OT.out _).mono ?_;rintro e w3 ⟨ds,rfl,hds,k3⟩;have hdn:=hds.n;have hdz:=hds.z;have HDS:=Lib.hid hds;have HK3:=Lib.hid (keep_trans HK1.out k3);clear hds k3) | (go_at_call 34;refine (NO.out _ _ HDS.out).mono ?_;rintro e w4 ⟨rfl,k4⟩;have HK4:=Lib.hid (keep_trans HK3.out k4);clear k4))
  exact bodyPost_ret (v:=.bool _) (by simp [results,Try.results13]) rfl ⟨rfl,HK4.out⟩
end Go.Proofs.Ytbgpgdhndanigaa
/- wire.parts. (printed by gen_vw.py) -/
set_option linter.unusedSimpArgs false
set_option linter.unusedVariables false
namespace Go.Proofs.Ytbgpgdhndanigaa
open Go.RowKit
attribute [local go_sem ↓] Go.wp_at_zero Go.wp_at_succ
inductive PV where
 | u32 (x : UInt32)
 | u64 (n : Nat)
 | hsh (A : Option Addr) (l : List (List UInt8)) (c most : Nat)
 | h32 (s : List UInt8)
 | heads (A : Option Addr) (l : List Hd) (c : Nat)
 | items (A : Option Addr) (l : List Itm) (c : Nat)
 | head (h : Hd)
 | bytes (A : Option Addr) (l : List UInt8) (c : Nat)
 | tx (t : TxR)
def PV.val : PV → Value
 | .u32 x => .iface 22 (u32v x)
 | .u64 n => .iface 23 (u64v n)
 | .hsh A l c most => .iface 103 (.agg #[.slice A l.length c,u64v most])
 | .h32 s => .iface 27 (.agg (s.map u8v).toArray)
 | .heads A l c => .iface 24 (.slice A l.length c)
 | .items A l c => .iface 42 (.slice A l.length c)
 | .head h => .iface 30 (.agg h.cells.toArray)
 | .bytes A l c => .iface 31 (.slice A l.length c)
 | .tx t => .iface 47 (.agg t.cells.toArray)
def partsM (m : MsgR) : List PV :=
 if m.kind = 0 then [.u32 m.proto,.u64 m.nonce,.u32 m.height]
 else if m.kind = 2 ∨ m.kind = 3 then [.u64 m.nonce]
 else if m.kind = 4 then [.u32 m.proto,.hsh m.lA m.ls m.lc 101,.h32 m.stop]
 else if m.kind = 5 then [.heads m.hA m.hs m.hc]
 else if m.kind = 6 ∨ m.kind = 7 ∨ m.kind = 8 then [.items m.iA m.is m.ic]
 else if m.kind = 9 then [.head m.bh,.u32 m.total,.hsh m.sA m.shs m.sc 4096,.bytes m.fA m.fs m.fc]
 else if m.kind = 10 then [.tx m.t]
 else []
set_option maxRecDepth 100000 in
set_option maxHeartbeats 8000000 in
theorem parts_any (m : MsgR) (cs : Array Value) (hA : MsA m cs) (hk : m.ok) (w : World) :
  Calls Try.prog 21 #[.agg cs] w fun e w' => ∃ A,e = .returned (.slice A (partsM m).length (partsM m).length)∧Rd w' A ((partsM m).map PV.val)∧Keep w w':=by
 obtain ⟨ss,hss⟩ : ∃ ss,HashA m.stop ss:=⟨_,HashA.of hk.s⟩
 obtain ⟨hv,hhv⟩ : ∃ hv,HdA m.bh hv:=⟨_,HdA.of hk.b⟩
 have hsn:=hss.n;have hsz:=hss.z;have hsi:=hss.i
 have hvn:=hhv.n;have hvz:=hhv.z;have hvi:=hhv.i
 have HS:=Lib.hid hss;have HH:=Lib.hid hhv
 have hHV : hv = m.bh.cells.toArray:=by have q:=hhv.l;rw [← q,Array.toArray_toList]
 have HHV:=Lib.hid hHV
 have hcn:=hA.n;have hcz:=hA.z;have hci:=hA.i
 have HA:=Lib.hid hA;have HK:=Lib.hid hk
 clear hA hk hss hhv hHV
 have HD : Hid (partsM m = if m.kind = 0 then [.u32 m.proto,.u64 m.nonce,.u32 m.height]
  else if m.kind = 2 ∨ m.kind = 3 then [.u64 m.nonce]
  else if m.kind = 4 then [.u32 m.proto,.hsh m.lA m.ls m.lc 101,.h32 m.stop]
  else if m.kind = 5 then [.heads m.hA m.hs m.hc]
  else if m.kind = 6 ∨ m.kind = 7 ∨ m.kind = 8 then [.items m.iA m.is m.ic]
  else if m.kind = 9 then [.head m.bh,.u32 m.total,.hsh m.sA m.shs m.sc 4096,.bytes m.fA m.fs m.fc]
  else if m.kind = 10 then [.tx m.t]
  else []):=Lib.hid rfl
 generalize partsM m = M at *
 go_enter Try.func21,Try.ntmps21
 go_upto_region 1 with fail
 obtain ⟨w1,hw1⟩ : ∃ w1,w1 = w.alloc (.cells cs 49):=⟨_,rfl⟩
 have HB1 : Hid (Blk w1 w.heap.size 49 m.cells):=by rw [hw1,← HA.out.l];exact Blk.new w _ cs.toList
 have HK1 : Hid (Keep w w1):=by rw [hw1];exact keep_new _ _
 rw [← hw1]
 clear hw1
 have RS : Hid (w1.rangeAt w.heap.size 6 ss.toList):=Lib.hid (range_of HB1.out 6 ss.toList (by
  rw [HS.out.l,MsgR.cells6,List.drop_left' (show m.hd6.length = 6 from rfl),List.take_left' rfl]))
 have RH : Hid (w1.rangeAt w.heap.size 39 hv.toList):=Lib.hid (range_of HB1.out 39 hv.toList (by
  rw [HH.out.l,MsgR.cells39,List.drop_left' (MsgR.hd39_len HK.out.s)]
  unfold MsgR.blk
  rw [List.append_assoc,List.take_left' rfl]))
 have r0 : w1.cell? ⟨w.heap.size,0,none⟩ = some (.int .i64 m.kind):=(HB1.out.cell 0).trans rfl
 by_cases h0 : m.kind = 0
 ·have HM : Hid (M = [.u32 m.proto,.u64 m.nonce,.u32 m.height]):=Lib.hid (HD.out.trans (by repeat (first | rw [if_pos (by omega)] | rw [if_neg (by omega)])))
  have d0 : (m.kind == 0) = true:=by rw [beq_iff_eq];exact h0
  have r1 : w1.cell? ⟨w.heap.size,1,none⟩ = some (u32v m.proto):=(HB1.out.cell 1).trans rfl
  have r2 : w1.cell? ⟨w.heap.size,2,none⟩ = some (u64v m.nonce):=(HB1.out.cell 2).trans rfl
  have r3 : w1.cell? ⟨w.heap.size,3,none⟩ = some (u32v m.height):=(HB1.out.cell 3).trans rfl
  have hml : M.length = 3:=by rw [HM.out];rfl
  have HML:=Lib.hid hml
  clear hml HD h0
  go_wp2_with (fail)
  refine bodyPost_ret (v:=.slice (some ⟨w1.heap.size,0,none⟩) 3 3) (by simp [results,Try.results21]) rfl ⟨some ⟨w1.heap.size,0,none⟩,by rw [HML.out],?_,keep_trans HK1.out (keep_new _ _)⟩
  rw [HM.out]
  simp only [List.map_cons,List.map_nil,PV.val]
  exact Rd.new w1 _ _
 by_cases h2 : m.kind = 2
 ·have HM : Hid (M = [.u64 m.nonce]):=Lib.hid (HD.out.trans (by repeat (first | rw [if_pos (by omega)] | rw [if_neg (by omega)])))
  have d0 : (m.kind == 0) = false:=by rw [beq_eq_false_iff_ne];exact h0
  have d2 : (m.kind == 2) = true:=by rw [beq_iff_eq];exact h2
  have r2 : w1.cell? ⟨w.heap.size,2,none⟩ = some (u64v m.nonce):=(HB1.out.cell 2).trans rfl
  have hml : M.length = 1:=by rw [HM.out];rfl
  have HML:=Lib.hid hml
  clear hml HD h0 h2
  go_wp2_with (fail)
  refine bodyPost_ret (v:=.slice (some ⟨w1.heap.size,0,none⟩) 1 1) (by simp [results,Try.results21]) rfl ⟨some ⟨w1.heap.size,0,none⟩,by rw [HML.out],?_,keep_trans HK1.out (keep_new _ _)⟩
  rw [HM.out]
  simp only [List.map_cons,List.map_nil,PV.val]
  exact Rd.new w1 _ _
 by_cases h3 : m.kind = 3
 ·have HM : Hid (M = [.u64 m.nonce]):=Lib.hid (HD.out.trans (by repeat (first | rw [if_pos (by omega)] | rw [if_neg (by omega)])))
  have d0 : (m.kind == 0) = false:=by rw [beq_eq_false_iff_ne];exact h0
  have d2 : (m.kind == 2) = false:=by rw [beq_eq_false_iff_ne];exact h2
  have d3 : (m.kind == 3) = true:=by rw [beq_iff_eq];exact h3
  have r2 : w1.cell? ⟨w.heap.size,2,none⟩ = some (u64v m.nonce):=(HB1.out.cell 2).trans rfl
  have hml : M.length = 1:=by rw [HM.out];rfl
  have HML:=Lib.hid hml
  clear hml HD h0 h2 h3
  go_wp2_with (fail)
  refine bodyPost_ret (v:=.slice (some ⟨w1.heap.size,0,none⟩) 1 1) (by simp [results,Try.results21]) rfl ⟨some ⟨w1.heap.size,0,none⟩,by rw [HML.out],?_,keep_trans HK1.out (keep_new _ _)⟩
  rw [HM.out]
  simp only [List.map_cons,List.map_nil,PV.val]
  exact Rd.new w1 _ _
 by_cases h4 : m.kind = 4
 ·have HM : Hid (M = [.u32 m.proto,.hsh m.lA m.ls m.lc 101,.h32 m.stop]):=Lib.hid (HD.out.trans (by repeat (first | rw [if_pos (by omega)] | rw [if_neg (by omega)])))
  have d0 : (m.kind == 0) = false:=by rw [beq_eq_false_iff_ne];exact h0
  have d2 : (m.kind == 2) = false:=by rw [beq_eq_false_iff_ne];exact h2
  have d3 : (m.kind == 3) = false:=by rw [beq_eq_false_iff_ne];exact h3
  have d4 : (m.kind == 4) = true:=by rw [beq_iff_eq];exact h4
  have r1 : w1.cell? ⟨w.heap.size,1,none⟩ = some (u32v m.proto):=(HB1.out.cell 1).trans rfl
  have r5 : w1.cell? ⟨w.heap.size,5,none⟩ = some (.slice m.lA m.ls.length m.lc):=(HB1.out.cell 5).trans rfl
  have hml : M.length = 3:=by rw [HM.out];rfl
  have HML:=Lib.hid hml
  clear hml HD h0 h2 h3 h4
  go_wp2_with (((with_reducible refine load_partg w.heap.size 6 ss (Eq.trans ?_ rfl) RS.out _ hash_under rfl hsi rfl ?_);rfl))
  refine bodyPost_ret (v:=.slice (some ⟨w1.heap.size,0,none⟩) 3 3) (by simp [results,Try.results21]) rfl ⟨some ⟨w1.heap.size,0,none⟩,by rw [HML.out],?_,keep_trans HK1.out (keep_new _ _)⟩
  rw [HM.out]
  simp only [List.map_cons,List.map_nil,PV.val];rw [HS.out.e]
  exact Rd.new w1 _ _
 by_cases h5 : m.kind = 5
 ·have HM : Hid (M = [.heads m.hA m.hs m.hc]):=Lib.hid (HD.out.trans (by repeat (first | rw [if_pos (by omega)] | rw [if_neg (by omega)])))
  have d0 : (m.kind == 0) = false:=by rw [beq_eq_false_iff_ne];exact h0
  have d2 : (m.kind == 2) = false:=by rw [beq_eq_false_iff_ne];exact h2
  have d3 : (m.kind == 3) = false:=by rw [beq_eq_false_iff_ne];exact h3
  have d4 : (m.kind == 4) = false:=by rw [beq_eq_false_iff_ne];exact h4
  have d5 : (m.kind == 5) = true:=by rw [beq_iff_eq];exact h5
  have r4 : w1.cell? ⟨w.heap.size,4,none⟩ = some (.slice m.hA m.hs.length m.hc):=(HB1.out.cell 4).trans rfl
  have hml : M.length = 1:=by rw [HM.out];rfl
  have HML:=Lib.hid hml
  clear hml HD h0 h2 h3 h4 h5
  go_wp2_with (fail)
  refine bodyPost_ret (v:=.slice (some ⟨w1.heap.size,0,none⟩) 1 1) (by simp [results,Try.results21]) rfl ⟨some ⟨w1.heap.size,0,none⟩,by rw [HML.out],?_,keep_trans HK1.out (keep_new _ _)⟩
  rw [HM.out]
  simp only [List.map_cons,List.map_nil,PV.val]
  exact Rd.new w1 _ _
 by_cases h6 : m.kind = 6
 ·have HM : Hid (M = [.items m.iA m.is m.ic]):=Lib.hid (HD.out.trans (by repeat (first | rw [if_pos (by omega)] | rw [if_neg (by omega)])))
  have d0 : (m.kind == 0) = false:=by rw [beq_eq_false_iff_ne];exact h0
  have d2 : (m.kind == 2) = false:=by rw [beq_eq_false_iff_ne];exact h2
  have d3 : (m.kind == 3) = false:=by rw [beq_eq_false_iff_ne];exact h3
  have d4 : (m.kind == 4) = false:=by rw [beq_eq_false_iff_ne];exact h4
  have d5 : (m.kind == 5) = false:=by rw [beq_eq_false_iff_ne];exact h5
  have d6 : (m.kind == 6) = true:=by rw [beq_iff_eq];exact h6
  have r38 : w1.cell? ⟨w.heap.size,38,none⟩ = some (.slice m.iA m.is.length m.ic):=(HB1.out.cell 38).trans ((MsgR.tail_get HK.out 0).trans rfl)
  have hml : M.length = 1:=by rw [HM.out];rfl
  have HML:=Lib.hid hml
  clear hml HD h0 h2 h3 h4 h5 h6
  go_wp2_with (fail)
  refine bodyPost_ret (v:=.slice (some ⟨w1.heap.size,0,none⟩) 1 1) (by simp [results,Try.results21]) rfl ⟨some ⟨w1.heap.size,0,none⟩,by rw [HML.out],?_,keep_trans HK1.out (keep_new _ _)⟩
  rw [HM.out]
  simp only [List.map_cons,List.map_nil,PV.val]
  exact Rd.new w1 _ _
 by_cases h7 : m.kind = 7
 ·have HM : Hid (M = [.items m.iA m.is m.ic]):=Lib.hid (HD.out.trans (by repeat (first | rw [if_pos (by omega)] | rw [if_neg (by omega)])))
  have d0 : (m.kind == 0) = false:=by rw [beq_eq_false_iff_ne];exact h0
  have d2 : (m.kind == 2) = false:=by rw [beq_eq_false_iff_ne];exact h2
  have d3 : (m.kind == 3) = false:=by rw [beq_eq_false_iff_ne];exact h3
  have d4 : (m.kind == 4) = false:=by rw [beq_eq_false_iff_ne];exact h4
  have d5 : (m.kind == 5) = false:=by rw [beq_eq_false_iff_ne];exact h5
  have d6 : (m.kind == 6) = false:=by rw [beq_eq_false_iff_ne];exact h6
  have d7 : (m.kind == 7) = true:=by rw [beq_iff_eq];exact h7
  have r38 : w1.cell? ⟨w.heap.size,38,none⟩ = some (.slice m.iA m.is.length m.ic):=(HB1.out.cell 38).trans ((MsgR.tail_get HK.out 0).trans rfl)
  have hml : M.length = 1:=by rw [HM.out];rfl
  have HML:=Lib.hid hml
  clear hml HD h0 h2 h3 h4 h5 h6 h7
  go_wp2_with (fail)
  refine bodyPost_ret (v:=.slice (some ⟨w1.heap.size,0,none⟩) 1 1) (by simp [results,Try.results21]) rfl ⟨some ⟨w1.heap.size,0,none⟩,by rw [HML.out],?_,keep_trans HK1.out (keep_new _ _)⟩
  rw [HM.out]
  simp only [List.map_cons,List.map_nil,PV.val]
  exact Rd.new w1 _ _
 by_cases h8 : m.kind = 8
 ·have HM : Hid (M = [.items m.iA m.is m.ic]):=Lib.hid (HD.out.trans (by repeat (first | rw [if_pos (by omega)] | rw [if_neg (by omega)])))
  have d0 : (m.kind == 0) = false:=by rw [beq_eq_false_iff_ne];exact h0
  have d2 : (m.kind == 2) = false:=by rw [beq_eq_false_iff_ne];exact h2
  have d3 : (m.kind == 3) = false:=by rw [beq_eq_false_iff_ne];exact h3
  have d4 : (m.kind == 4) = false:=by rw [beq_eq_false_iff_ne];exact h4
  have d5 : (m.kind == 5) = false:=by rw [beq_eq_false_iff_ne];exact h5
  have d6 : (m.kind == 6) = false:=by rw [beq_eq_false_iff_ne];exact h6
  have d7 : (m.kind == 7) = false:=by rw [beq_eq_false_iff_ne];exact h7
  have d8 : (m.kind == 8) = true:=by rw [beq_iff_eq];exact h8
  have r38 : w1.cell? ⟨w.heap.size,38,none⟩ = some (.slice m.iA m.is.length m.ic):=(HB1.out.cell 38).trans ((MsgR.tail_get HK.out 0).trans rfl)
  have hml : M.length = 1:=by rw [HM.out];rfl
  have HML:=Lib.hid hml
  clear hml HD h0 h2 h3 h4 h5 h6 h7 h8
  go_wp2_with (fail)
  refine bodyPost_ret (v:=.slice (some ⟨w1.heap.size,0,none⟩) 1 1) (by simp [results,Try.results21]) rfl ⟨some ⟨w1.heap.size,0,none⟩,by rw [HML.out],?_,keep_trans HK1.out (keep_new _ _)⟩
  rw [HM.out]
  simp only [List.map_cons,List.map_nil,PV.val]
  exact Rd.new w1 _ _
 by_cases h9 : m.kind = 9
 ·have HM : Hid (M = [.head m.bh,.u32 m.total,.hsh m.sA m.shs m.sc 4096,.bytes m.fA m.fs m.fc]):=Lib.hid (HD.out.trans (by repeat (first | rw [if_pos (by omega)] | rw [if_neg (by omega)])))
  have d0 : (m.kind == 0) = false:=by rw [beq_eq_false_iff_ne];exact h0
  have d2 : (m.kind == 2) = false:=by rw [beq_eq_false_iff_ne];exact h2
  have d3 : (m.kind == 3) = false:=by rw [beq_eq_false_iff_ne];exact h3
  have d4 : (m.kind == 4) = false:=by rw [beq_eq_false_iff_ne];exact h4
  have d5 : (m.kind == 5) = false:=by rw [beq_eq_false_iff_ne];exact h5
  have d6 : (m.kind == 6) = false:=by rw [beq_eq_false_iff_ne];exact h6
  have d7 : (m.kind == 7) = false:=by rw [beq_eq_false_iff_ne];exact h7
  have d8 : (m.kind == 8) = false:=by rw [beq_eq_false_iff_ne];exact h8
  have d9 : (m.kind == 9) = true:=by rw [beq_iff_eq];exact h9
  have r107 : w1.cell? ⟨w.heap.size,107,none⟩ = some (u32v m.total):=(HB1.out.cell 107).trans ((MsgR.blk_tail HK.out 0 (by omega)).trans rfl)
  have r108 : w1.cell? ⟨w.heap.size,108,none⟩ = some (.slice m.sA m.shs.length m.sc):=(HB1.out.cell 108).trans ((MsgR.blk_tail HK.out 1 (by omega)).trans rfl)
  have r109 : w1.cell? ⟨w.heap.size,109,none⟩ = some (.slice m.fA m.fs.length m.fc):=(HB1.out.cell 109).trans ((MsgR.blk_tail HK.out 2 (by omega)).trans rfl)
  have hml : M.length = 4:=by rw [HM.out];rfl
  have HML:=Lib.hid hml
  clear hml HD h0 h2 h3 h4 h5 h6 h7 h8 h9
  go_wp2_with (((with_reducible refine load_partg w.heap.size 39 hv (Eq.trans ?_ rfl) RH.out _ Try.underlying30 rfl hvi rfl ?_);rfl))
  refine bodyPost_ret (v:=.slice (some ⟨w1.heap.size,0,none⟩) 4 4) (by simp [results,Try.results21]) rfl ⟨some ⟨w1.heap.size,0,none⟩,by rw [HML.out],?_,keep_trans HK1.out (keep_new _ _)⟩
  rw [HM.out]
  simp only [List.map_cons,List.map_nil,PV.val];rw [← HHV.out]
  exact Rd.new w1 _ _
 by_cases h10 : m.kind = 10
 ·have HM : Hid (M = [.tx m.t]):=Lib.hid (HD.out.trans (by repeat (first | rw [if_pos (by omega)] | rw [if_neg (by omega)])))
  have d0 : (m.kind == 0) = false:=by rw [beq_eq_false_iff_ne];exact h0
  have d2 : (m.kind == 2) = false:=by rw [beq_eq_false_iff_ne];exact h2
  have d3 : (m.kind == 3) = false:=by rw [beq_eq_false_iff_ne];exact h3
  have d4 : (m.kind == 4) = false:=by rw [beq_eq_false_iff_ne];exact h4
  have d5 : (m.kind == 5) = false:=by rw [beq_eq_false_iff_ne];exact h5
  have d6 : (m.kind == 6) = false:=by rw [beq_eq_false_iff_ne];exact h6
  have d7 : (m.kind == 7) = false:=by rw [beq_eq_false_iff_ne];exact h7
  have d8 : (m.kind == 8) = false:=by rw [beq_eq_false_iff_ne];exact h8
  have d9 : (m.kind == 9) = false:=by rw [beq_eq_false_iff_ne];exact h9
  have d10 : (m.kind == 10) = true:=by rw [beq_iff_eq];exact h10
  have r110 : w1.cell? ⟨w.heap.size,110,none⟩ = some (u32v m.t.ver):=(HB1.out.cell 110).trans ((MsgR.tx_get HK.out 0).trans rfl)
  have r111 : w1.cell? ⟨w.heap.size,111,none⟩ = some (.slice m.t.iA m.t.ins.length m.t.ic):=(HB1.out.cell 111).trans ((MsgR.tx_get HK.out 1).trans rfl)
  have r112 : w1.cell? ⟨w.heap.size,112,none⟩ = some (.slice m.t.oA m.t.outs.length m.t.oc):=(HB1.out.cell 112).trans ((MsgR.tx_get HK.out 2).trans rfl)
  have r113 : w1.cell? ⟨w.heap.size,113,none⟩ = some (u32v m.t.lock):=(HB1.out.cell 113).trans ((MsgR.tx_get HK.out 3).trans rfl)
  have hml : M.length = 1:=by rw [HM.out];rfl
  have HML:=Lib.hid hml
  clear hml HD h0 h2 h3 h4 h5 h6 h7 h8 h9 h10
  go_wp2_with (fail)
  refine bodyPost_ret (v:=.slice (some ⟨w1.heap.size,0,none⟩) 1 1) (by simp [results,Try.results21]) rfl ⟨some ⟨w1.heap.size,0,none⟩,by rw [HML.out],?_,keep_trans HK1.out (keep_new _ _)⟩
  rw [HM.out]
  simp only [List.map_cons,List.map_nil,PV.val]
  exact Rd.new w1 _ _
 have HM : Hid (M = []):=Lib.hid (HD.out.trans (by repeat (first | rw [if_pos (by omega)] | rw [if_neg (by omega)])))
 have d0 : (m.kind == 0) = false:=by rw [beq_eq_false_iff_ne];exact h0
 have d2 : (m.kind == 2) = false:=by rw [beq_eq_false_iff_ne];exact h2
 have d3 : (m.kind == 3) = false:=by rw [beq_eq_false_iff_ne];exact h3
 have d4 : (m.kind == 4) = false:=by rw [beq_eq_false_iff_ne];exact h4
 have d5 : (m.kind == 5) = false:=by rw [beq_eq_false_iff_ne];exact h5
 have d6 : (m.kind == 6) = false:=by rw [beq_eq_false_iff_ne];exact h6
 have d7 : (m.kind == 7) = false:=by rw [beq_eq_false_iff_ne];exact h7
 have d8 : (m.kind == 8) = false:=by rw [beq_eq_false_iff_ne];exact h8
 have d9 : (m.kind == 9) = false:=by rw [beq_eq_false_iff_ne];exact h9
 have d10 : (m.kind == 10) = false:=by rw [beq_eq_false_iff_ne];exact h10
 clear HD h0 h2 h3 h4 h5 h6 h7 h8 h9 h10
 go_wp2
 exact bodyPost_ret (v:=.slice none 0 0) (by simp [results,Try.results21]) rfl ⟨none,by rw [HM.out];rfl,by rw [HM.out];exact Rd.nil _ _,HK1.out⟩
end Go.Proofs.Ytbgpgdhndanigaa
/- wire.lay: numbers. (printed by gen_vx.py) -/
set_option linter.unusedSimpArgs false
set_option linter.unusedVariables false
namespace Go.Proofs.Ytbgpgdhndanigaa
open Go.RowKit
attribute [local go_sem ↓] Go.wp_at_zero Go.wp_at_succ
theorem run_assert_no {P : Program} {t a : TypeId} {d : TypeDesc} {z : Value} (hu : P.underlying a = some d) (hd : (match d with | .interface _ => true | _ => false) = false) (hne : t ≠ a) (hz : ∀ w,(zeroValue a).run P w = .ok z w) (v : Value) (xT : TypeId) (w : World) :
  (Instr.typeAssert (.iface t v) xT a true).run P w = .ok (.tuple #[z,.bool false]) w:=by
 unfold Instr.typeAssert
 cases d <;> first | (simp at hd;done) | simp [run_underlying hu,hne,hz,Sem.run_bind,Result.andThen]
theorem run_assert_yes {P : Program} {a : TypeId} {d : TypeDesc} (hu : P.underlying a = some d) (hd : (match d with | .interface _ => true | _ => false) = false) (v : Value) (xT : TypeId) (w : World) :
  (Instr.typeAssert (.iface a v) xT a true).run P w = .ok (.tuple #[v,.bool true]) w:=by
 unfold Instr.typeAssert
 cases d <;> first | (simp at hd;done) | simp [run_underlying hu,Sem.run_bind,Result.andThen]
theorem run_assert_must {P : Program} {a : TypeId} {d : TypeDesc} (hu : P.underlying a = some d) (hd : (match d with | .interface _ => true | _ => false) = false) (v : Value) (xT : TypeId) (w : World) :
  (Instr.typeAssert (.iface a v) xT a false).run P w = .ok v w:=by
 unfold Instr.typeAssert
 cases d <;> first | (simp at hd;done) | simp [run_underlying hu,Sem.run_bind,Result.andThen]
theorem zu32 (w : World) : (zeroValue 22).run Try.prog w = .ok (.int .u32 0) w:=by kernel_rfl
def layL : PV → List UInt8
 | .u32 x => loN x.toNat 4
 | .u64 n => loN n 8
 | .hsh _ l _ _ => cptL l.length ++ l.flatten
 | .h32 s => s
 | .heads _ l _ => hpall l
 | .items _ l _ => cptL l.length ++ l.flatMap fun x => loN x.ty.toNat 4 ++ x.h
 | .head h => hputL h
 | .bytes _ l _ => cptL l.length ++ l
 | .tx t => if saneT t = true then txL t else []
set_option maxRecDepth 100000 in
set_option maxHeartbeats 4000000 in
theorem lay_u32 (B : Nat) (v : Value) (N : Nat) (xs : List Value) (w : World) (own : w.ownsRow B 5 1 v N xs) (hB : B ≤ w.heap.size) (hN : N ≤ 900000000) (x : UInt32) :
  Calls Try.prog 22 #[v,.iface 22 (u32v x)] w (Apd B v (N + 4) (xs ++ (loN x.toNat 4).map u8v) w):=by
 obtain ⟨zh,hzA,hz0⟩:=zhash_letter32
 have hzn:=hzA.n;have hzz:=hzA.z
 have HZ:=Lib.hid hzA
 have HO:=Lib.hid own;have HB:=Lib.hid hB
 clear own hzA
 have hx32:=x.toNat_lt
 have WN : Hid (∀ y,w.heap.size ≤ y.heap.size → y.ownsRow B 5 1 v N xs → Calls Try.prog 42 #[v,u64v x.toNat,iv 4] y (Apd B v (N + 4) (xs ++ (loN x.toNat 4).map u8v) y)):=Lib.hid fun y h1 h2 => wnum_any B v N xs x.toNat 4 y h2 (by have:=HB.out;omega) (by omega) (by omega)
 generalize loN x.toNat 4 = T at *
 unfold Apd
 go_enter Try.func22,Try.ntmps22
 have NH : ∀ y,(Instr.typeAssert (.iface 22 (u32v x)) 20 27 true).run Try.prog y = .ok (.tuple #[.agg zh,.bool false]) y:=run_assert_no hash_under rfl (by decide) hz0 _ _
 have Y1 : ∀ y,(Instr.typeAssert (.iface 22 (u32v x)) 20 22 true).run Try.prog y = .ok (.tuple #[u32v x,.bool true]) y:=run_assert_yes Try.underlying22 rfl _ _
 have hst : ∀ y : World,(storeCells ⟨y.heap.size,0,none⟩ zh.toList 0).run Try.prog (y.alloc (.cells zh 27)) = .ok () (y.alloc (.cells zh 27)):=fun y => run_storeCells_new (P:=Try.prog) y 27 zh zh HZ.out.i rfl (by have:=all_oneCell_toArray HZ.out.o;simpa using this)
 go_upto_region 4 with fail
 go_wp2_with (go_at_call 42;refine (WN.out _ (by simp) (HO.out.alloc _)).mono ?_;rintro e w2 ⟨v2,rfl,own2,gr2⟩)
 exact bodyPost_ret (v:=v2) (by simp [results,Try.results22]) rfl ⟨_,rfl,own2,Gr.trans (Gr.of_keep (keep_new _ _) _) gr2⟩
set_option maxRecDepth 100000 in
set_option maxHeartbeats 4000000 in
theorem lay_u64 (B : Nat) (v : Value) (N : Nat) (xs : List Value) (w : World) (own : w.ownsRow B 5 1 v N xs) (hB : B ≤ w.heap.size) (hN : N ≤ 900000000) (n : Nat) (hn : n < 2 ^ 64) :
  Calls Try.prog 22 #[v,.iface 23 (u64v n)] w (Apd B v (N + 8) (xs ++ (loN n 8).map u8v) w):=by
 obtain ⟨zh,hzA,hz0⟩:=zhash_letter32
 have hzn:=hzA.n;have hzz:=hzA.z
 have HZ:=Lib.hid hzA
 have HO:=Lib.hid own;have HB:=Lib.hid hB
 clear own hzA
 have WN : Hid (∀ y,w.heap.size ≤ y.heap.size → y.ownsRow B 5 1 v N xs → Calls Try.prog 42 #[v,u64v n,iv 8] y (Apd B v (N + 8) (xs ++ (loN n 8).map u8v) y)):=Lib.hid fun y h1 h2 => wnum_any B v N xs n 8 y h2 (by have:=HB.out;omega) (by omega) (by omega)
 generalize loN n 8 = T at *
 unfold Apd
 go_enter Try.func22,Try.ntmps22
 have NH : ∀ y,(Instr.typeAssert (.iface 23 (u64v n)) 20 27 true).run Try.prog y = .ok (.tuple #[.agg zh,.bool false]) y:=run_assert_no hash_under rfl (by decide) hz0 _ _
 have N1 : ∀ y,(Instr.typeAssert (.iface 23 (u64v n)) 20 22 true).run Try.prog y = .ok (.tuple #[.int .u32 0,.bool false]) y:=run_assert_no Try.underlying22 rfl (by decide) zu32 _ _
 have Y1 : ∀ y,(Instr.typeAssert (.iface 23 (u64v n)) 20 23 true).run Try.prog y = .ok (.tuple #[u64v n,.bool true]) y:=run_assert_yes Try.underlying23 rfl _ _
 have hst : ∀ y : World,(storeCells ⟨y.heap.size,0,none⟩ zh.toList 0).run Try.prog (y.alloc (.cells zh 27)) = .ok () (y.alloc (.cells zh 27)):=fun y => run_storeCells_new (P:=Try.prog) y 27 zh zh HZ.out.i rfl (by have:=all_oneCell_toArray HZ.out.o;simpa using this)
 go_upto_region 4 with fail
 go_wp2_with (go_at_call 42;refine (WN.out _ (by simp) (HO.out.alloc _)).mono ?_;rintro e w2 ⟨v2,rfl,own2,gr2⟩)
 exact bodyPost_ret (v:=v2) (by simp [results,Try.results22]) rfl ⟨_,rfl,own2,Gr.trans (Gr.of_keep (keep_new _ _) _) gr2⟩
end Go.Proofs.Ytbgpgdhndanigaa
/- wire.lay: bytes, a hash, a header, headers, a transaction. (printed by gen_vy.py) -/
set_option linter.unusedSimpArgs false
set_option linter.unusedVariables false
namespace Go.Proofs.Ytbgpgdhndanigaa
open Go.RowKit
attribute [local go_sem ↓] Go.wp_at_zero Go.wp_at_succ
theorem zu64 (w : World) : (zeroValue 23).run Try.prog w = .ok (.int .u64 0) w:=by kernel_rfl
theorem zhashes (w : World) : (zeroValue 103).run Try.prog w = .ok (.agg #[.slice none 0 0,.int .u64 0]) w:=by kernel_rfl
theorem zitems (w : World) : (zeroValue 42).run Try.prog w = .ok (.slice none 0 0) w:=by kernel_rfl
theorem zbytes (w : World) : (zeroValue 31).run Try.prog w = .ok (.slice none 0 0) w:=by kernel_rfl
theorem zheads (w : World) : (zeroValue 24).run Try.prog w = .ok (.slice none 0 0) w:=by kernel_rfl
theorem Gr.old {w0 a b : World} {u v : Value} {e : TypeId} {size n : Nat} {xs : List Value} (h : Gr a u b v) (ho : a.ownsRow w0.heap.size e size u n xs) (k : Keep w0 a) : Keep w0 b :=
 Below.trans k (h.below ho k.size)
set_option maxRecDepth 100000 in
set_option maxHeartbeats 4000000 in
theorem lay_bytes (w0 : World) (v : Value) (N : Nat) (xs : List Value) (A : Option Addr) (l : List UInt8) (c : Nat) (w : World) (hk0 : Keep w0 w) (own : w.ownsRow w0.heap.size 5 1 v N xs) (hN : N ≤ 900000000) (hl : l.length ≤ 50000) (hr : Rd w0 A (l.map u8v)) :
  Calls Try.prog 22 #[v,.iface 31 (.slice A l.length c)] w (Apd w0.heap.size v (N + sizN l.length + l.length) (xs ++ (cptL l.length).map u8v ++ l.map u8v) w):=by
 obtain ⟨zh,hzA,hz0⟩:=zhash_letter32
 have hzn:=hzA.n;have hzz:=hzA.z
 have HZ:=Lib.hid hzA
 have HO:=Lib.hid own;have HK:=Lib.hid hk0;have HR:=Lib.hid hr
 have hs:=siz_le l.length
 have WC : Hid (∀ y,w.heap.size ≤ y.heap.size → y.ownsRow w0.heap.size 5 1 v N xs → Calls Try.prog 43 #[v,iv l.length] y (Apd w0.heap.size v (N + sizN l.length) (xs ++ (cptL l.length).map u8v) y)):=Lib.hid fun y h1 h2 => wcount_any w0.heap.size v N xs l.length y h2 (by have:=HK.out.size;omega) (by omega) (by omega)
 clear own hzA hk0 hr
 obtain ⟨CL,hCL⟩ : ∃ CL,cptL l.length = CL:=⟨_,rfl⟩
 obtain ⟨SN,hSN⟩ : ∃ SN,sizN l.length = SN:=⟨_,rfl⟩
 rw [hCL,hSN] at WC
 rw [hSN] at hs
 rw [hCL,hSN]
 clear hCL hSN
 unfold Apd
 go_enter Try.func22,Try.ntmps22
 have NH : ∀ y,(Instr.typeAssert (.iface 31 (.slice A l.length c)) 20 27 true).run Try.prog y = .ok (.tuple #[.agg zh,.bool false]) y:=run_assert_no hash_under rfl (by decide) hz0 _ _
 have N0 : ∀ y,(Instr.typeAssert (.iface 31 (.slice A l.length c)) 20 22 true).run Try.prog y = .ok (.tuple #[.int .u32 0,.bool false]) y:=run_assert_no Try.underlying22 rfl (by decide) zu32 _ _
 have N1 : ∀ y,(Instr.typeAssert (.iface 31 (.slice A l.length c)) 20 23 true).run Try.prog y = .ok (.tuple #[.int .u64 0,.bool false]) y:=run_assert_no Try.underlying23 rfl (by decide) zu64 _ _
 have N2 : ∀ y,(Instr.typeAssert (.iface 31 (.slice A l.length c)) 20 103 true).run Try.prog y = .ok (.tuple #[.agg #[.slice none 0 0,.int .u64 0],.bool false]) y:=run_assert_no Try.underlying103 rfl (by decide) zhashes _ _
 have N3 : ∀ y,(Instr.typeAssert (.iface 31 (.slice A l.length c)) 20 42 true).run Try.prog y = .ok (.tuple #[.slice none 0 0,.bool false]) y:=run_assert_no Try.underlying42 rfl (by decide) zitems _ _
 have Y1 : ∀ y,(Instr.typeAssert (.iface 31 (.slice A l.length c)) 20 31 true).run Try.prog y = .ok (.tuple #[.slice A l.length c,.bool true]) y:=run_assert_yes Try.underlying31 rfl _ _
 have hst : ∀ y : World,(storeCells ⟨y.heap.size,0,none⟩ zh.toList 0).run Try.prog (y.alloc (.cells zh 27)) = .ok () (y.alloc (.cells zh 27)):=fun y => run_storeCells_new (P:=Try.prog) y 27 zh zh HZ.out.i rfl (by have:=all_oneCell_toArray HZ.out.o;simpa using this)
 go_upto_region 4 with fail
 go_upto_region 31 with (go_at_call 43;refine (WC.out _ (by simp) (HO.out.alloc _)).mono ?_;rintro e w2 ⟨v2,rfl,own2,gr2⟩;obtain ⟨A2,c2,rfl,-,-,-⟩:=own_form own2;have Own2:=Lib.hid own2;have Gr2:=Lib.hid (Gr.trans (Gr.of_keep (keep_new _ _) _) gr2);have HK2:=Lib.hid (gr2.old (HO.out.alloc _) (keep_trans HK.out (keep_new _ _)));clear own2 gr2)
 have hsz2:=HK2.out.size
 go_wp2_with (at_builtin;refine wpList_app byteT (by rfl) _ _ (by rfl) w0.heap.size _ _ _ (by rfl) Own2.out _ l.length c (l.map u8v) (by rfl) (by simp) (HR.out.keep HK2.out) (one_bytes l) (by omega) (by unfold maxLen;omega) (by omega) ?_;intro v3 w3 own3 hg3 hat3;have Own3:=Lib.hid own3;have Gr3:=Lib.hid (Gr2.out.app hg3 hat3);clear own3 hg3 hat3)
 exact bodyPost_ret (v:=v3) (by simp [results,Try.results22]) rfl ⟨_,rfl,Own3.out,Gr3.out⟩
set_option maxRecDepth 100000 in
set_option maxHeartbeats 4000000 in
theorem lay_h32 (w0 : World) (v : Value) (N : Nat) (xs : List Value) (s : List UInt8) (ss : Array Value) (w : World) (hk0 : Keep w0 w) (own : w.ownsRow w0.heap.size 5 1 v N xs) (hN : N ≤ 900000000) (hs : HashA s ss) (hl : s.length = 32) :
  Calls Try.prog 22 #[v,.iface 27 (.agg ss)] w (Apd w0.heap.size v (N + 32) (xs ++ (s).map u8v) w):=by
 obtain ⟨zh,hzA,hz0⟩:=zhash_letter32
 obtain ⟨zd,hzD,hd0⟩:=zhead_letterA
 have hzn:=hzA.n;have hzz:=hzA.z
 have hdn:=hzD.n;have hdz:=hzD.z
 have HZ:=Lib.hid hzA;have HZD:=Lib.hid hzD
 have HO:=Lib.hid own;have HK:=Lib.hid hk0
 have hs0:=hk0.size
 clear own hzA hzD hk0
 have hsn:=hs.n;have hsz:=hs.z;have hsi:=hs.i
 have HS:=Lib.hid hs
 clear hs
 unfold Apd
 go_enter Try.func22,Try.ntmps22
 have YH : ∀ y,(Instr.typeAssert (.iface 27 (.agg ss)) 20 27 true).run Try.prog y = .ok (.tuple #[.agg ss,.bool true]) y:=run_assert_yes hash_under rfl _ _
 have hst : ∀ y : World,(storeCells ⟨y.heap.size,0,none⟩ ss.toList 0).run Try.prog (y.alloc (.cells zh 27)) = .ok () (y.alloc (.cells ss 27)):=fun y => run_storeCells_new (P:=Try.prog) y 27 zh ss HS.out.i (hzz.trans hsz.symm) (by have:=all_oneCell_toArray HS.out.o;simpa using this)
 have RD : Hid (Rd (w.alloc (.cells ss 27)) (some ⟨w.heap.size,0,none⟩) (s.map u8v)):=Lib.hid (by have q:=Rd.new w ss.toList 27;rw [HS.out.l] at q;simpa [← HS.out.e] using q)
 go_upto_region 2 with fail
 go_wp2_with (at_builtin;refine wpList_app byteT (by rfl) _ _ (by rfl) w0.heap.size _ _ _ (by rfl) (HO.out.alloc _) _ 32 32 (s.map u8v) (by rfl) (by simp [hl]) RD.out (one_bytes s) (by omega) (by unfold maxLen;omega) (by simp;omega) ?_;intro v3 w3 own3 hg3 hat3;have Own3:=Lib.hid own3;have Gr3:=Lib.hid ((Gr.trans (Gr.of_keep (keep_new _ _) _) (Gr.refl _ _)).app hg3 hat3);clear own3 hg3 hat3)
 exact bodyPost_ret (v:=v3) (by simp [results,Try.results22]) rfl ⟨_,rfl,Own3.out,Gr3.out⟩
set_option maxRecDepth 100000 in
set_option maxHeartbeats 4000000 in
theorem lay_head (w0 : World) (v : Value) (N : Nat) (xs : List Value) (h : Hd) (hv : Array Value) (w : World) (hk0 : Keep w0 w) (own : w.ownsRow w0.heap.size 5 1 v N xs) (hN : N ≤ 900000000) (hh : HdA h hv) (hk : h.ok) :
  Calls Try.prog 22 #[v,.iface 30 (.agg hv)] w (Apd w0.heap.size v (N + 80) (xs ++ (hputL h).map u8v) w):=by
 obtain ⟨zh,hzA,hz0⟩:=zhash_letter32
 obtain ⟨zd,hzD,hd0⟩:=zhead_letterA
 have hzn:=hzA.n;have hzz:=hzA.z
 have hdn:=hzD.n;have hdz:=hzD.z
 have HZ:=Lib.hid hzA;have HZD:=Lib.hid hzD
 have HO:=Lib.hid own;have HK:=Lib.hid hk0
 have hs0:=hk0.size
 clear own hzA hzD hk0
 have hvn:=hh.n;have hvz:=hh.z;have hvi:=hh.i
 have HH:=Lib.hid hh
 have hpl:=hputL_len hk
 have HP : Hid (∀ y,Calls Try.prog 44 #[.agg hv] y fun e w' => ∃ A,e = .returned (.slice A 80 80)∧Rd w' A ((hputL h).map u8v)∧Keep y w'):=Lib.hid fun y => hput_any h hv y hk HH.out
 clear hh
 generalize hputL h = hp at *
 unfold Apd
 go_enter Try.func22,Try.ntmps22
 have NH : ∀ y,(Instr.typeAssert (.iface 30 (.agg hv)) 20 27 true).run Try.prog y = .ok (.tuple #[.agg zh,.bool false]) y:=run_assert_no hash_under rfl (by decide) hz0 _ _
 have N0 : ∀ y,(Instr.typeAssert (.iface 30 (.agg hv)) 20 22 true).run Try.prog y = .ok (.tuple #[.int .u32 0,.bool false]) y:=run_assert_no Try.underlying22 rfl (by decide) zu32 _ _
 have N1 : ∀ y,(Instr.typeAssert (.iface 30 (.agg hv)) 20 23 true).run Try.prog y = .ok (.tuple #[.int .u64 0,.bool false]) y:=run_assert_no Try.underlying23 rfl (by decide) zu64 _ _
 have N2 : ∀ y,(Instr.typeAssert (.iface 30 (.agg hv)) 20 103 true).run Try.prog y = .ok (.tuple #[.agg #[.slice none 0 0,.int .u64 0],.bool false]) y:=run_assert_no Try.underlying103 rfl (by decide) zhashes _ _
 have N3 : ∀ y,(Instr.typeAssert (.iface 30 (.agg hv)) 20 42 true).run Try.prog y = .ok (.tuple #[.slice none 0 0,.bool false]) y:=run_assert_no Try.underlying42 rfl (by decide) zitems _ _
 have N4 : ∀ y,(Instr.typeAssert (.iface 30 (.agg hv)) 20 31 true).run Try.prog y = .ok (.tuple #[.slice none 0 0,.bool false]) y:=run_assert_no Try.underlying31 rfl (by decide) zbytes _ _
 have Y1 : ∀ y,(Instr.typeAssert (.iface 30 (.agg hv)) 20 30 true).run Try.prog y = .ok (.tuple #[.agg hv,.bool true]) y:=run_assert_yes Try.underlying30 rfl _ _
 have hst : ∀ y : World,(storeCells ⟨y.heap.size,0,none⟩ zh.toList 0).run Try.prog (y.alloc (.cells zh 27)) = .ok () (y.alloc (.cells zh 27)):=fun y => run_storeCells_new (P:=Try.prog) y 27 zh zh HZ.out.i rfl (by have:=all_oneCell_toArray HZ.out.o;simpa using this)
 have hst2 : (storeCells ⟨w.heap.size + 1,0,none⟩ hv.toList 0).run Try.prog ((w.alloc (.cells zh 27)).alloc (.cells zd 30)) = .ok () ((w.alloc (.cells zh 27)).alloc (.cells hv 30)):=by
  have q:=run_storeCells_new (P:=Try.prog) (w.alloc (.cells zh 27)) 30 zd hv hvi (hdz.trans hvz.symm) (by have:=all_oneCell_toArray HH.out.o;simpa using this)
  rw [World.size_alloc] at q
  exact q
 go_upto_region 34 with fail
 obtain ⟨w1,hw1⟩ : ∃ w1,w1 = (w.alloc (.cells zh 27)).alloc (.cells hv 30):=⟨_,rfl⟩
 have HB1 : Hid (Blk w1 (w.heap.size + 1) 30 hv.toList):=by
  rw [hw1]
  have h2:=Blk.new (w.alloc (.cells zh 27)) 30 hv.toList
  rw [World.size_alloc] at h2
  exact Lib.hid h2
 have k1 : Keep w w1:=by rw [hw1];exact keep_trans (keep_new _ _) (keep_new _ _)
 have HK1:=Lib.hid k1
 rw [← hw1]
 clear hw1 hst hst2 k1
 go_wp2_with (first | ((with_reducible refine load_arr (w.heap.size + 1) hv (Eq.trans ?_ rfl) HB1.out _ Try.underlying30 rfl hvi ?_);rfl) | (go_at_call 44;refine (HP.out _).mono ?_;rintro e w2 ⟨A2,rfl,r2,k2⟩;have RD2:=Lib.hid r2;have HK2:=Lib.hid (keep_trans HK1.out k2);have hs2:=HK2.out.size;clear r2 k2) | (at_builtin;refine wpList_app byteT (by rfl) _ _ (by rfl) w0.heap.size _ _ _ (by rfl) (own_keep HO.out HK2.out) _ 80 80 (hp.map u8v) (by rfl) (by simp [hpl]) RD2.out (one_bytes hp) (by omega) (by unfold maxLen;omega) (by omega) ?_;intro v3 w3 own3 hg3 hat3;have Own3:=Lib.hid own3;have Gr3:=Lib.hid ((Gr.of_keep HK2.out _).app hg3 hat3);clear own3 hg3 hat3))
 exact bodyPost_ret (v:=v3) (by simp [results,Try.results22]) rfl ⟨_,rfl,Own3.out,Gr3.out⟩
set_option maxRecDepth 100000 in
set_option maxHeartbeats 4000000 in
theorem lay_heads (w0 : World) (v : Value) (N : Nat) (xs : List Value) (A : Option Addr) (l : List Hd) (c : Nat) (w : World) (hk0 : Keep w0 w) (own : w.ownsRow w0.heap.size 5 1 v N xs) (hN : N ≤ 900000000) (hl : l.length ≤ 2000) (hk : ∀ h ∈ l,h.ok) (hr : Rd w0 A (l.flatMap Hd.cells)) :
  Calls Try.prog 22 #[v,.iface 24 (.slice A l.length c)] w (Apd w0.heap.size v (N + (hpall l).length) (xs ++ (hpall l).map u8v) w):=by
 obtain ⟨zh,hzA,hz0⟩:=zhash_letter32
 obtain ⟨zd,hzD,hd0⟩:=zhead_letterA
 have hzn:=hzA.n;have hzz:=hzA.z
 have hdn:=hzD.n;have hdz:=hzD.z
 have HZ:=Lib.hid hzA;have HZD:=Lib.hid hzD
 have HO:=Lib.hid own;have HK:=Lib.hid hk0
 have hs0:=hk0.size
 clear own hzA hzD hk0
 have HLEN : (hpall l).length ≤ 200000:=by unfold hpall;rw [List.length_append,cpt_len,hpa_len l hk];have:=siz_le l.length;omega
 have HR:=Lib.hid hr
 have HP : Hid (∀ y,Keep w0 y → Calls Try.prog 45 #[.slice A l.length c] y fun e w' => ∃ v,e = .returned (.tuple #[v,iv 0])∧w'.ownsRow y.heap.size 5 1 v (hpall l).length ((hpall l).map u8v)∧Keep y w'):=Lib.hid fun y hy => hpall_any A l c y hl hk (HR.out.keep hy)
 clear hr hk
 generalize hpall l = hp at *
 unfold Apd
 go_enter Try.func22,Try.ntmps22
 have NH : ∀ y,(Instr.typeAssert (.iface 24 (.slice A l.length c)) 20 27 true).run Try.prog y = .ok (.tuple #[.agg zh,.bool false]) y:=run_assert_no hash_under rfl (by decide) hz0 _ _
 have N0 : ∀ y,(Instr.typeAssert (.iface 24 (.slice A l.length c)) 20 22 true).run Try.prog y = .ok (.tuple #[.int .u32 0,.bool false]) y:=run_assert_no Try.underlying22 rfl (by decide) zu32 _ _
 have N1 : ∀ y,(Instr.typeAssert (.iface 24 (.slice A l.length c)) 20 23 true).run Try.prog y = .ok (.tuple #[.int .u64 0,.bool false]) y:=run_assert_no Try.underlying23 rfl (by decide) zu64 _ _
 have N2 : ∀ y,(Instr.typeAssert (.iface 24 (.slice A l.length c)) 20 103 true).run Try.prog y = .ok (.tuple #[.agg #[.slice none 0 0,.int .u64 0],.bool false]) y:=run_assert_no Try.underlying103 rfl (by decide) zhashes _ _
 have N3 : ∀ y,(Instr.typeAssert (.iface 24 (.slice A l.length c)) 20 42 true).run Try.prog y = .ok (.tuple #[.slice none 0 0,.bool false]) y:=run_assert_no Try.underlying42 rfl (by decide) zitems _ _
 have N4 : ∀ y,(Instr.typeAssert (.iface 24 (.slice A l.length c)) 20 31 true).run Try.prog y = .ok (.tuple #[.slice none 0 0,.bool false]) y:=run_assert_no Try.underlying31 rfl (by decide) zbytes _ _
 have N5 : ∀ y,(Instr.typeAssert (.iface 24 (.slice A l.length c)) 20 30 true).run Try.prog y = .ok (.tuple #[.agg zd,.bool false]) y:=run_assert_no Try.underlying30 rfl (by decide) hd0 _ _
 have Y1 : ∀ y,(Instr.typeAssert (.iface 24 (.slice A l.length c)) 20 24 true).run Try.prog y = .ok (.tuple #[.slice A l.length c,.bool true]) y:=run_assert_yes Try.underlying24 rfl _ _
 have hst : ∀ y : World,(storeCells ⟨y.heap.size,0,none⟩ zh.toList 0).run Try.prog (y.alloc (.cells zh 27)) = .ok () (y.alloc (.cells zh 27)):=fun y => run_storeCells_new (P:=Try.prog) y 27 zh zh HZ.out.i rfl (by have:=all_oneCell_toArray HZ.out.o;simpa using this)
 go_upto_region 37 with fail
 have k1 : Keep w (w.alloc (.cells zh 27)):=keep_new _ _
 have HK1:=Lib.hid k1
 clear k1 hst
 go_wp2_with (first | (go_at_call 45;refine (HP.out _ (keep_trans HK.out HK1.out)).mono ?_;rintro e w2 ⟨v2,rfl,o2,k2⟩;obtain ⟨A2,c2,rfl,-,-,-⟩:=own_form o2;have RD2:=Lib.hid (own_rd o2);have HK2:=Lib.hid (keep_trans HK1.out k2);have hs2:=HK2.out.size;clear o2 k2) | (at_builtin;refine wpList_app byteT (by rfl) _ _ (by rfl) w0.heap.size _ _ _ (by rfl) (own_keep HO.out HK2.out) _ _ _ (hp.map u8v) (by rfl) (by simp) RD2.out (one_bytes hp) (by omega) (by unfold maxLen;omega) (by omega) ?_;intro v3 w3 own3 hg3 hat3;have Own3:=Lib.hid own3;have Gr3:=Lib.hid ((Gr.of_keep HK2.out _).app hg3 hat3);clear own3 hg3 hat3))
 exact bodyPost_ret (v:=v3) (by simp [results,Try.results22]) rfl ⟨_,rfl,Own3.out,Gr3.out⟩
set_option maxRecDepth 100000 in
set_option maxHeartbeats 4000000 in
theorem lay_tx (w0 : World) (v : Value) (N : Nat) (xs : List Value) (t : TxR) (w : World) (hk0 : Keep w0 w) (own : w.ownsRow w0.heap.size 5 1 v N xs) (hN : N ≤ 900000000) (ht : t.at w0) (hs : saneT t = true) (hT : (txL t).length ≤ 90000000) :
  Calls Try.prog 22 #[v,.iface 47 (.agg #[u32v t.ver,.slice t.iA t.ins.length t.ic,.slice t.oA t.outs.length t.oc,u32v t.lock])] w (Apd w0.heap.size v (N + (txL t).length) (xs ++ (txL t).map u8v) w):=by
 obtain ⟨zh,hzA,hz0⟩:=zhash_letter32
 obtain ⟨zd,hzD,hd0⟩:=zhead_letterA
 have hzn:=hzA.n;have hzz:=hzA.z
 have hdn:=hzD.n;have hdz:=hzD.z
 have HZ:=Lib.hid hzA;have HZD:=Lib.hid hzD
 have HO:=Lib.hid own;have HK:=Lib.hid hk0
 have hs0:=hk0.size
 clear own hzA hzD hk0
 have hns : t.ins.length ≤ 1000∧t.outs.length ≤ 1000:=by unfold saneT at hs;rw [decide_eq_true_eq] at hs;exact ⟨hs.2.1,hs.2.2.1⟩
 have HP : Hid (∀ y,Keep w0 y → Calls Try.prog 46 #[.agg #[u32v t.ver,.slice t.iA t.ins.length t.ic,.slice t.oA t.outs.length t.oc,u32v t.lock]] y fun e w' => ∃ v,e = .returned (.tuple #[v,iv 0])∧w'.ownsRow y.heap.size 5 1 v (txL t).length ((txL t).map u8v)∧Keep y w'):=Lib.hid fun y hy => by
  have q:=tput_any t y (ht.keep hy) (by omega) (by omega)
  rw [if_pos hs,if_pos hs] at q
  exact q
 clear ht hs
 generalize txL t = hp at *
 unfold Apd
 go_enter Try.func22,Try.ntmps22
 have NH : ∀ y,(Instr.typeAssert (.iface 47 (.agg #[u32v t.ver,.slice t.iA t.ins.length t.ic,.slice t.oA t.outs.length t.oc,u32v t.lock])) 20 27 true).run Try.prog y = .ok (.tuple #[.agg zh,.bool false]) y:=run_assert_no hash_under rfl (by decide) hz0 _ _
 have N0 : ∀ y,(Instr.typeAssert (.iface 47 (.agg #[u32v t.ver,.slice t.iA t.ins.length t.ic,.slice t.oA t.outs.length t.oc,u32v t.lock])) 20 22 true).run Try.prog y = .ok (.tuple #[.int .u32 0,.bool false]) y:=run_assert_no Try.underlying22 rfl (by decide) zu32 _ _
 have N1 : ∀ y,(Instr.typeAssert (.iface 47 (.agg #[u32v t.ver,.slice t.iA t.ins.length t.ic,.slice t.oA t.outs.length t.oc,u32v t.lock])) 20 23 true).run Try.prog y = .ok (.tuple #[.int .u64 0,.bool false]) y:=run_assert_no Try.underlying23 rfl (by decide) zu64 _ _
 have N2 : ∀ y,(Instr.typeAssert (.iface 47 (.agg #[u32v t.ver,.slice t.iA t.ins.length t.ic,.slice t.oA t.outs.length t.oc,u32v t.lock])) 20 103 true).run Try.prog y = .ok (.tuple #[.agg #[.slice none 0 0,.int .u64 0],.bool false]) y:=run_assert_no Try.underlying103 rfl (by decide) zhashes _ _
 have N3 : ∀ y,(Instr.typeAssert (.iface 47 (.agg #[u32v t.ver,.slice t.iA t.ins.length t.ic,.slice t.oA t.outs.length t.oc,u32v t.lock])) 20 42 true).run Try.prog y = .ok (.tuple #[.slice none 0 0,.bool false]) y:=run_assert_no Try.underlying42 rfl (by decide) zitems _ _
 have N4 : ∀ y,(Instr.typeAssert (.iface 47 (.agg #[u32v t.ver,.slice t.iA t.ins.length t.ic,.slice t.oA t.outs.length t.oc,u32v t.lock])) 20 31 true).run Try.prog y = .ok (.tuple #[.slice none 0 0,.bool false]) y:=run_assert_no Try.underlying31 rfl (by decide) zbytes _ _
 have N5 : ∀ y,(Instr.typeAssert (.iface 47 (.agg #[u32v t.ver,.slice t.iA t.ins.length t.ic,.slice t.oA t.outs.length t.oc,u32v t.lock])) 20 30 true).run Try.prog y = .ok (.tuple #[.agg zd,.bool false]) y:=run_assert_no Try.underlying30 rfl (by decide) hd0 _ _
 have N6 : ∀ y,(Instr.typeAssert (.iface 47 (.agg #[u32v t.ver,.slice t.iA t.ins.length t.ic,.slice t.oA t.outs.length t.oc,u32v t.lock])) 20 24 true).run Try.prog y = .ok (.tuple #[.slice none 0 0,.bool false]) y:=run_assert_no Try.underlying24 rfl (by decide) zheads _ _
 have Y1 : ∀ y,(Instr.typeAssert (.iface 47 (.agg #[u32v t.ver,.slice t.iA t.ins.length t.ic,.slice t.oA t.outs.length t.oc,u32v t.lock])) 20 47 true).run Try.prog y = .ok (.tuple #[.agg #[u32v t.ver,.slice t.iA t.ins.length t.ic,.slice t.oA t.outs.length t.oc,u32v t.lock],.bool true]) y:=run_assert_yes Try.underlying47 rfl _ _
 have hst : ∀ y : World,(storeCells ⟨y.heap.size,0,none⟩ zh.toList 0).run Try.prog (y.alloc (.cells zh 27)) = .ok () (y.alloc (.cells zh 27)):=fun y => run_storeCells_new (P:=Try.prog) y 27 zh zh HZ.out.i rfl (by have:=all_oneCell_toArray HZ.out.o;simpa using this)
 go_upto_region 40 with fail
 clear hst
 go_upto_region 41 with fail
 obtain ⟨w1,hw1⟩ : ∃ w1,w1 = (w.alloc (.cells zh 27)).alloc (.cells #[u32v t.ver,.slice t.iA t.ins.length t.ic,.slice t.oA t.outs.length t.oc,u32v t.lock] 47):=⟨_,rfl⟩
 have HB1 : Hid (Blk w1 (w.heap.size + 1) 47 [u32v t.ver,.slice t.iA t.ins.length t.ic,.slice t.oA t.outs.length t.oc,u32v t.lock]):=by
  rw [hw1]
  have h2:=Blk.new (w.alloc (.cells zh 27)) 47 [u32v t.ver,.slice t.iA t.ins.length t.ic,.slice t.oA t.outs.length t.oc,u32v t.lock]
  rw [World.size_alloc] at h2
  exact Lib.hid h2
 have k1 : Keep w w1:=by rw [hw1];exact keep_trans (keep_new _ _) (keep_new _ _)
 have HK1:=Lib.hid k1
 have b0:=HB1.out.cell 0;have b1:=HB1.out.cell 1;have b2:=HB1.out.cell 2;have b3:=HB1.out.cell 3
 simp only [List.getElem?_cons_succ,List.getElem?_cons_zero] at b0 b1 b2 b3
 unfold u32v at hw1
 rw [← hw1]
 clear hw1 k1
 go_wp2_with (first | (go_at_call 46;refine (HP.out _ (keep_trans HK.out HK1.out)).mono ?_;rintro e w2 ⟨v2,rfl,o2,k2⟩;obtain ⟨A2,c2,rfl,-,-,-⟩:=own_form o2;have RD2:=Lib.hid (own_rd o2);have HK2:=Lib.hid (keep_trans HK1.out k2);have hs2:=HK2.out.size;clear o2 k2) | (at_builtin;refine wpList_app byteT (by rfl) _ _ (by rfl) w0.heap.size _ _ _ (by rfl) (own_keep HO.out HK2.out) _ _ _ (hp.map u8v) (by rfl) (by simp) RD2.out (one_bytes hp) (by omega) (by unfold maxLen;omega) (by omega) ?_;intro v3 w3 own3 hg3 hat3;have Own3:=Lib.hid own3;have Gr3:=Lib.hid ((Gr.of_keep HK2.out _).app hg3 hat3);clear own3 hg3 hat3))
 exact bodyPost_ret (v:=v3) (by simp [results,Try.results22]) rfl ⟨_,rfl,Own3.out,Gr3.out⟩
end Go.Proofs.Ytbgpgdhndanigaa
/- wire.lay: hashes. (printed by gen_vz.py) -/
set_option linter.unusedSimpArgs false
set_option linter.unusedVariables false
namespace Go.Proofs.Ytbgpgdhndanigaa
open Go.RowKit
attribute [local go_sem ↓] Go.wp_at_zero Go.wp_at_succ
set_option maxRecDepth 100000 in
set_option maxHeartbeats 4000000 in
theorem lay_hsh (w0 : World) (v : Value) (N : Nat) (xs : List Value) (A : Option Addr) (l : List (List UInt8)) (c most : Nat) (w : World) (hk0 : Keep w0 w) (own : w.ownsRow w0.heap.size 5 1 v N xs) (hN : N ≤ 900000000) (hl : l.length ≤ 4096) (hs : ∀ s ∈ l,s.length = 32) (hr : Rd w0 A (hsL l)) :
  Calls Try.prog 22 #[v,.iface 103 (.agg #[.slice A l.length c,u64v most])] w (Apd w0.heap.size v (N + sizN l.length + 32 * l.length) (xs ++ (cptL l.length ++ l.flatten).map u8v) w):=by
 obtain ⟨zh,hzA,hz0⟩:=zhash_letter32
 obtain ⟨zd,hzD,hd0⟩:=zhead_letterA
 have hzn:=hzA.n;have hzz:=hzA.z
 have hdn:=hzD.n;have hdz:=hzD.z
 have HZ:=Lib.hid hzA;have HZD:=Lib.hid hzD
 have HO:=Lib.hid own;have HK:=Lib.hid hk0
 have hs0:=hk0.size
 clear own hzA hzD hk0
 have HR:=Lib.hid hr;have HSL:=Lib.hid hs
 have hsz:=siz_le l.length
 have WC : Hid (∀ y,w.heap.size ≤ y.heap.size → y.ownsRow w0.heap.size 5 1 v N xs → Calls Try.prog 43 #[v,iv l.length] y (Apd w0.heap.size v (N + sizN l.length) (xs ++ (cptL l.length).map u8v) y)):=Lib.hid fun y h1 h2 => wcount_any w0.heap.size v N xs l.length y h2 (by have:=HK.out.size;omega) (by omega) (by omega)
 clear hr hs
 rw [List.map_append,← List.append_assoc]
 obtain ⟨ys,hys⟩ : ∃ ys,xs ++ (cptL l.length).map u8v = ys:=⟨_,rfl⟩
 obtain ⟨M,hM⟩ : ∃ M,N + sizN l.length = M:=⟨_,rfl⟩
 rw [hys,hM] at WC
 rw [hys,hM]
 have hM9 : M ≤ 900000009:=by omega
 clear hys hM hsz
 unfold Apd
 go_enter Try.func22,Try.ntmps22
 have NH : ∀ y,(Instr.typeAssert (.iface 103 (.agg #[.slice A l.length c,u64v most])) 20 27 true).run Try.prog y = .ok (.tuple #[.agg zh,.bool false]) y:=run_assert_no hash_under rfl (by decide) hz0 _ _
 have N0 : ∀ y,(Instr.typeAssert (.iface 103 (.agg #[.slice A l.length c,u64v most])) 20 22 true).run Try.prog y = .ok (.tuple #[.int .u32 0,.bool false]) y:=run_assert_no Try.underlying22 rfl (by decide) zu32 _ _
 have N1 : ∀ y,(Instr.typeAssert (.iface 103 (.agg #[.slice A l.length c,u64v most])) 20 23 true).run Try.prog y = .ok (.tuple #[.int .u64 0,.bool false]) y:=run_assert_no Try.underlying23 rfl (by decide) zu64 _ _
 have Y1 : ∀ y,(Instr.typeAssert (.iface 103 (.agg #[.slice A l.length c,u64v most])) 20 103 true).run Try.prog y = .ok (.tuple #[.agg #[.slice A l.length c,u64v most],.bool true]) y:=run_assert_yes Try.underlying103 rfl _ _
 have hst : ∀ y : World,(storeCells ⟨y.heap.size,0,none⟩ zh.toList 0).run Try.prog (y.alloc (.cells zh 27)) = .ok () (y.alloc (.cells zh 27)):=fun y => run_storeCells_new (P:=Try.prog) y 27 zh zh HZ.out.i rfl (by have:=all_oneCell_toArray HZ.out.o;simpa using this)
 go_upto_region 4 with fail
 clear hst
 go_upto_region 13 with fail
 obtain ⟨w1,hw1⟩ : ∃ w1,w1 = (w.alloc (.cells zh 27)).alloc (.cells #[.slice A l.length c,u64v most] 103):=⟨_,rfl⟩
 have HB1 : Hid (Blk w1 (w.heap.size + 1) 103 [.slice A l.length c,u64v most]):=by
  rw [hw1]
  have h2:=Blk.new (w.alloc (.cells zh 27)) 103 [.slice A l.length c,u64v most]
  rw [World.size_alloc] at h2
  exact Lib.hid h2
 have k1 : Keep w w1:=by rw [hw1];exact keep_trans (keep_new _ _) (keep_new _ _)
 have HK1:=Lib.hid k1
 have HO1:=Lib.hid (own_keep HO.out k1)
 have hvb : ∀ g,v.ownBlock = some g → g < w.heap.size:=fun g q => (HO.out.lt g q).2
 unfold u64v at hw1
 rw [← hw1]
 clear hw1 k1 HO
 have b0:=HB1.out.cell 0
 simp only [List.getElem?_cons_zero] at b0
 have hs1:=HK1.out.size
 go_upto_region 14 with (go_at_call 43;refine (WC.out _ hs1 HO1.out).mono ?_;rintro e w2 ⟨v2,rfl,own2,gr2⟩;have HB2 : Hid (Blk w2 (w.heap.size + 1) 103 [.slice A l.length c,u64v most]):=Lib.hid (HB1.out.grown gr2.g (fun q => by have:=hvb _ q;omega));have b0:=HB2.out.cell 0;simp only [List.getElem?_cons_zero] at b0;have Own2:=Lib.hid own2;have HK2:=Lib.hid (gr2.old HO1.out (keep_trans HK.out HK1.out));have Gr2:=Lib.hid (Gr.trans (Gr.of_keep HK1.out _) gr2);clear own2 gr2)
 have Own0 : Hid (w2.ownsRow w0.heap.size 5 1 v2 (M + 32 * 0) (ys ++ ((l.take 0).flatten).map u8v)):=Lib.hid (own_eq Own2.out (by omega) (by simp))
 clear Own2 WC
 go_wp2_with fail
 go_loopw [0,57] (fun x i wr => ∃ k : Nat,k ≤ l.length∧i = .int .i64 k∧Hid (wr.ownsRow w0.heap.size 5 1 x (M + 32 * k) (ys ++ ((l.take k).flatten).map u8v))∧Hid (Gr w v wr x)∧Hid (Keep w0 wr)) (fun _ i _ => l.length - (intOf i).toNat)
 case atStart => exact ⟨0,Nat.zero_le _,rfl,Own0,Gr2,HK2⟩
 case round =>
  obtain ⟨k,hk,rfl,Own1,Gr1,KR⟩:=hrel
  clear Own0 Gr2
  by_cases hlt : k < l.length
  ·have d1 : (k : Int) < l.length:=by omega
   obtain ⟨g,off,hA,hgb,hrg⟩:=hash_at (HR.out.keep KR.out) HSL.out hlt
   have hkl:=HSL.out _ (List.getElem_mem hlt)
   have HT : Hid (((l.take (k + 1)).flatten).map u8v = ((l.take k).flatten).map u8v ++ (l[k]).map u8v):=Lib.hid (by rw [List.take_succ_eq_append_getElem hlt,List.flatten_append,List.map_append];simp only [List.flatten_cons,List.flatten_nil,List.append_nil])
   generalize l[k] = hh at *
   obtain ⟨ss,hss⟩ : ∃ ss,HashA hh ss:=⟨_,HashA.of hkl⟩
   have hsn:=hss.n;have hssz:=hss.z;have hsi:=hss.i
   have HS:=Lib.hid hss
   have RX : Hid (wr.rangeAt g (off + k * 32) ss.toList):=Lib.hid (by rw [hss.l];exact hrg)
   obtain ⟨n,hn⟩ : ∃ n,l.length = n:=⟨_,rfl⟩
   rw [hn] at d1 hl hk hlt b0 ⊢
   have hst : (storeCells ⟨wr.heap.size,0,none⟩ ss.toList 0).run Try.prog (wr.alloc (.cells zh 27)) = .ok () (wr.alloc (.cells ss 27)):=run_storeCells_new (P:=Try.prog) wr 27 zh ss hsi (hzz.trans hssz.symm) (by have:=all_oneCell_toArray HS.out.o;simpa using this)
   have RD : Hid (Rd (wr.alloc (.cells ss 27)) (some ⟨wr.heap.size,0,none⟩) (hh.map u8v)):=Lib.hid (by have q:=Rd.new wr ss.toList 27;rw [HS.out.l] at q;simpa [← HS.out.e] using q)
   have hs0r:=KR.out.size
   subst hA
   clear hss hrg hgb
   go_wp2_with (first | ((with_reducible refine load_partg g (off + k * 32) ss (Eq.trans ?_ rfl) RX.out _ hash_under rfl hsi rfl ?_);rfl) | (at_builtin;refine wpList_app byteT (by rfl) _ _ (by rfl) w0.heap.size _ _ _ (by rfl) (Own1.out.alloc _) _ 32 32 (hh.map u8v) (by rfl) (by simp [hkl]) RD.out (one_bytes hh) (by omega) (by unfold maxLen;omega) (by simp;omega) ?_;intro v3 w3 own3 hg3 hat3;have Own3:=Lib.hid own3;have Gr3:=Lib.hid ((Gr1.out.alloc _).app hg3 hat3);have K3:=Lib.hid (Gr.old (w0:=w0) (Gr.app (Gr.refl _ _) hg3 hat3) (Own1.out.alloc _) (keep_trans KR.out (keep_new _ _)));clear own3 hg3 hat3))
   go_roundw
   case rel => exact ⟨k + 1,by omega,by go_num,Lib.hid (own_eq Own3.out (by omega) (by rw [HT.out,List.append_assoc])),Gr3,K3⟩
   case measure => simp [intOf];omega
  ·obtain rfl : k = l.length:=by omega
   have d1 : ¬ ((l.length : Nat) : Int) < l.length:=by omega
   have OwnF:=Own1.out
   rw [List.take_length] at OwnF
   have OwnH:=Lib.hid OwnF
   clear OwnF
   go_wp2
   exact bodyPost_ret (by simp [results,Try.results22]) rfl ⟨_,rfl,(by first | exact OwnH.out | (rw [← List.map_flatten];exact OwnH.out)),Gr1.out⟩
end Go.Proofs.Ytbgpgdhndanigaa
/- wire.lay: items. (printed by gen_ia.py) -/
set_option linter.unusedSimpArgs false
set_option linter.unusedVariables false
namespace Go.Proofs.Ytbgpgdhndanigaa
open Go.RowKit
attribute [local go_sem ↓] Go.wp_at_zero Go.wp_at_succ
theorem item_at {w : World} {A : Option Addr} {l : List Itm} (hr : Rd w A (l.flatMap Itm.cells)) (hk : ∀ x ∈ l,x.ok) {k : Nat} (h : k < l.length) :
  ∃ b off,A = some ⟨b,off,none⟩∧b < w.heap.size∧w.rangeAt b (off + k * 33) l[k].cells:=by
 have hlen : ∀ a ∈ l,a.cells.length = 33:=fun a ha => Itm.len (hk a ha)
 obtain ⟨b,off,rfl,hb,F⟩:=hr.at (k:=k * 33) (by rw [flatMap_len' _ 33 _ hlen];omega)
 refine ⟨b,off,rfl,hb,fun j v hv => ?_⟩
 have hj : j < 33:=by rw [← hlen l[k] (List.getElem_mem h)];exact (List.getElem?_eq_some_iff.1 hv).1
 have hg:=flatMap_get' Itm.cells 33 l hlen k j h hj
 have hlt : k * 33 + j < (l.flatMap Itm.cells).length:=by rw [flatMap_len' _ 33 _ hlen];omega
 have hc:=F (k * 33 + j) hlt
 rw [Nat.add_assoc,hc,← hv,← hg,List.getElem?_eq_getElem hlt]
def itL (x : Itm) : List UInt8:=loN x.ty.toNat 4 ++ x.h
set_option maxRecDepth 100000 in
set_option maxHeartbeats 4000000 in
theorem lay_items (w0 : World) (v : Value) (N : Nat) (xs : List Value) (A : Option Addr) (l : List Itm) (c : Nat) (w : World) (hk0 : Keep w0 w) (own : w.ownsRow w0.heap.size 5 1 v N xs) (hN : N ≤ 900000000) (hl : l.length ≤ 50000) (hs : ∀ x ∈ l,x.ok) (hr : Rd w0 A (l.flatMap Itm.cells)) :
  Calls Try.prog 22 #[v,.iface 42 (.slice A l.length c)] w (Apd w0.heap.size v (N + sizN l.length + 36 * l.length) (xs ++ (cptL l.length ++ l.flatMap itL).map u8v) w):=by
 obtain ⟨zh,hzA,hz0⟩:=zhash_letter32
 obtain ⟨zd,hzD,hd0⟩:=zhead_letterA
 have hzn:=hzA.n;have hzz:=hzA.z
 have hdn:=hzD.n;have hdz:=hzD.z
 have HZ:=Lib.hid hzA;have HZD:=Lib.hid hzD
 have HO:=Lib.hid own;have HK:=Lib.hid hk0
 have hs0:=hk0.size
 clear own hzA hzD hk0
 obtain ⟨zi,hiz,hi0,hin⟩:=zitem_letter
 have HR:=Lib.hid hr;have HSL:=Lib.hid hs
 have hsz:=siz_le l.length
 have WC : Hid (∀ y,w.heap.size ≤ y.heap.size → y.ownsRow w0.heap.size 5 1 v N xs → Calls Try.prog 43 #[v,iv l.length] y (Apd w0.heap.size v (N + sizN l.length) (xs ++ (cptL l.length).map u8v) y)):=Lib.hid fun y h1 h2 => wcount_any w0.heap.size v N xs l.length y h2 (by have:=HK.out.size;omega) (by omega) (by omega)
 clear hr hs
 rw [List.map_append,← List.append_assoc]
 obtain ⟨ys,hys⟩ : ∃ ys,xs ++ (cptL l.length).map u8v = ys:=⟨_,rfl⟩
 obtain ⟨M,hM⟩ : ∃ M,N + sizN l.length = M:=⟨_,rfl⟩
 rw [hys,hM] at WC
 rw [hys,hM]
 have hM9 : M ≤ 900000009:=by omega
 clear hys hM hsz
 unfold Apd
 go_enter Try.func22,Try.ntmps22
 have NH : ∀ y,(Instr.typeAssert (.iface 42 (.slice A l.length c)) 20 27 true).run Try.prog y = .ok (.tuple #[.agg zh,.bool false]) y:=run_assert_no hash_under rfl (by decide) hz0 _ _
 have N0 : ∀ y,(Instr.typeAssert (.iface 42 (.slice A l.length c)) 20 22 true).run Try.prog y = .ok (.tuple #[.int .u32 0,.bool false]) y:=run_assert_no Try.underlying22 rfl (by decide) zu32 _ _
 have N1 : ∀ y,(Instr.typeAssert (.iface 42 (.slice A l.length c)) 20 23 true).run Try.prog y = .ok (.tuple #[.int .u64 0,.bool false]) y:=run_assert_no Try.underlying23 rfl (by decide) zu64 _ _
 have N2 : ∀ y,(Instr.typeAssert (.iface 42 (.slice A l.length c)) 20 103 true).run Try.prog y = .ok (.tuple #[.agg #[.slice none 0 0,.int .u64 0],.bool false]) y:=run_assert_no Try.underlying103 rfl (by decide) zhashes _ _
 have Y1 : ∀ y,(Instr.typeAssert (.iface 42 (.slice A l.length c)) 20 42 true).run Try.prog y = .ok (.tuple #[.slice A l.length c,.bool true]) y:=run_assert_yes Try.underlying42 rfl _ _
 have hst : ∀ y : World,(storeCells ⟨y.heap.size,0,none⟩ zh.toList 0).run Try.prog (y.alloc (.cells zh 27)) = .ok () (y.alloc (.cells zh 27)):=fun y => run_storeCells_new (P:=Try.prog) y 27 zh zh HZ.out.i rfl (by have:=all_oneCell_toArray HZ.out.o;simpa using this)
 go_upto_region 4 with fail
 clear hst
 go_upto_region 21 with fail
 obtain ⟨w1,hw1⟩ : ∃ w1,w1 = w.alloc (.cells zh 27):=⟨_,rfl⟩
 have k1 : Keep w w1:=by rw [hw1];exact keep_new _ _
 have HK1:=Lib.hid k1
 have HO1:=Lib.hid (own_keep HO.out k1)
 rw [← hw1]
 clear hw1 k1 HO
 have hs1:=HK1.out.size
 go_upto_region 22 with (go_at_call 43;refine (WC.out _ hs1 HO1.out).mono ?_;rintro e w2 ⟨v2,rfl,own2,gr2⟩;have Own2:=Lib.hid own2;have HK2:=Lib.hid (gr2.old HO1.out (keep_trans HK.out HK1.out));have Gr2:=Lib.hid (Gr.trans (Gr.of_keep HK1.out _) gr2);clear own2 gr2)
 have Own0 : Hid (w2.ownsRow w0.heap.size 5 1 v2 (M + 36 * 0) (ys ++ ((l.take 0).flatMap itL).map u8v)):=Lib.hid (own_eq Own2.out (by omega) (by simp))
 clear Own2 WC
 go_wp2_with fail
 go_loopw [0,74] (fun x i wr => ∃ k : Nat,k ≤ l.length∧i = .int .i64 k∧Hid (wr.ownsRow w0.heap.size 5 1 x (M + 36 * k) (ys ++ ((l.take k).flatMap itL).map u8v))∧Hid (Gr w v wr x)∧Hid (Keep w0 wr)) (fun _ i _ => l.length - (intOf i).toNat)
 case atStart => exact ⟨0,Nat.zero_le _,rfl,Own0,Gr2,HK2⟩
 case round =>
  obtain ⟨k,hk,rfl,Own1,Gr1,KR⟩:=hrel
  clear Own0 Gr2
  by_cases hlt : k < l.length
  ·have d1 : (k : Int) < l.length:=by omega
   obtain ⟨g,off,hA,hgb,hrg⟩:=item_at (HR.out.keep KR.out) HSL.out hlt
   have hkl:=HSL.out _ (List.getElem_mem hlt)
   have HT : Hid (((l.take (k + 1)).flatMap itL).map u8v = ((l.take k).flatMap itL).map u8v ++ (loN (l[k]).ty.toNat 4).map u8v ++ ((l[k]).h).map u8v):=Lib.hid (by rw [List.take_succ_eq_append_getElem hlt,List.flatMap_append,List.map_append];simp only [List.flatMap_cons,List.flatMap_nil,List.append_nil,itL,List.map_append,List.append_assoc])
   generalize l[k] = it at *
   obtain ⟨ts,hts⟩ : ∃ ts,ItA it ts:=⟨_,ItA.of hkl⟩
   have htn:=hts.n;have htz:=hts.z;have hti:=hts.i
   have hhl : it.h.length = 32:=hkl
   have HS:=Lib.hid hts
   have RX : Hid (wr.rangeAt g (off + k * 33) ts.toList):=Lib.hid (by rw [hts.l];exact hrg)
   obtain ⟨n,hn⟩ : ∃ n,l.length = n:=⟨_,rfl⟩
   rw [hn] at d1 hl hk hlt ⊢
   have hst : (storeCells ⟨wr.heap.size,0,none⟩ ts.toList 0).run Try.prog (wr.alloc (.cells zi 70)) = .ok () (wr.alloc (.cells ts 70)):=run_storeCells_new (P:=Try.prog) wr 70 zi ts hti (hiz.trans htz.symm) (by have:=all_oneCell_toArray HS.out.o;simpa using this)
   subst hA
   clear hts hrg hgb
   go_upto_region 25 with ((with_reducible refine load_partg g (off + k * 33) ts (Eq.trans ?_ rfl) RX.out _ Try.underlying70 rfl hti rfl ?_);rfl)
   obtain ⟨w5,hw5⟩ : ∃ w5,w5 = wr.alloc (.cells ts 70):=⟨_,rfl⟩
   have HB5 : Hid (Blk w5 wr.heap.size 70 it.cells):=by rw [hw5,← HS.out.l];exact Lib.hid (Blk.new wr _ ts.toList)
   have k5 : Keep wr w5:=by rw [hw5];exact keep_new _ _
   have K5:=Lib.hid (keep_trans KR.out k5);have Own5:=Lib.hid (own_keep Own1.out k5);have Gr5:=Lib.hid (Gr1.out.keep k5)
   have hgx : ∀ q,Value.ownBlock _ = some q → q < wr.heap.size:=fun q e => (Own1.out.lt q e).2
   rw [← hw5]
   clear hw5 hst k5 RX Own1 Gr1
   generalize wr.heap.size = gi at *
   have i0 : w5.cell? ⟨gi,0,none⟩ = some (u32v it.ty):=(HB5.out.cell 0).trans rfl
   have ht32:=it.ty.toNat_lt
   have hs5:=K5.out.size
   have WN:=Lib.hid (wnum_any w0.heap.size _ _ _ it.ty.toNat 4 w5 Own5.out hs5 (by omega) (by omega))
   go_upto_region 26 with (go_at_call 42;refine WN.out.mono ?_;rintro e w6 ⟨v6,rfl,own6,gr6⟩;have HB6:=Lib.hid (HB5.out.grown gr6.g (fun q => by have:=hgx _ q;omega));have K6:=Lib.hid (gr6.old Own5.out K5.out);have Own6:=Lib.hid own6;have Gr6:=Lib.hid (Gr5.out.trans gr6);clear own6 gr6)
   have hs6:=K6.out.size
   have RD : Hid (Rd w6 (some ⟨gi,1,none⟩) (it.h.map u8v)):=Lib.hid (.inr ⟨gi,1,rfl,fun j hj => by rw [HB6.out.cell,show 1 + j = j + 1 by omega];unfold Itm.cells;rw [List.getElem?_cons_succ,List.getElem?_eq_getElem hj]⟩)
   clear i0 WN HB5 HB6
   go_wp2_with (at_builtin;refine wpList_app byteT (by rfl) _ _ (by rfl) w0.heap.size _ _ _ (by rfl) Own6.out _ 32 32 (it.h.map u8v) (by rfl) (by simp [hhl]) RD.out (one_bytes it.h) (by omega) (by unfold maxLen;omega) (by omega) ?_;intro v7 w7 own7 hg7 hat7;have Own7:=Lib.hid own7;have Gr7:=Lib.hid (Gr6.out.app hg7 hat7);have K7:=Lib.hid (Gr.old (w0:=w0) (Gr.app (Gr.refl _ _) hg7 hat7) Own6.out K6.out);clear own7 hg7 hat7)
   go_roundw
   case rel => exact ⟨k + 1,by omega,by go_num,Lib.hid (own_eq Own7.out (by omega) (by rw [HT.out];simp only [List.append_assoc])),Gr7,K7⟩
   case measure => simp [intOf];omega
  ·obtain rfl : k = l.length:=by omega
   have d1 : ¬ ((l.length : Nat) : Int) < l.length:=by omega
   have OwnF:=Own1.out
   rw [List.take_length] at OwnF
   have OwnH:=Lib.hid OwnF
   clear OwnF
   go_wp2
   exact bodyPost_ret (by simp [results,Try.results22]) rfl ⟨_,rfl,(by first | exact OwnH.out | (rw [← List.map_flatMap];exact OwnH.out)),Gr1.out⟩
end Go.Proofs.Ytbgpgdhndanigaa
