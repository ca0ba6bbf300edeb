/- Texts merged by pack.py: Hgp, Pb, Pd, Pe. -/
import Derived.Test.YtffpanlpbdnafaaDoorCx4
import Derived.Test.YtffpanlpbdnafaaDoorCx9
import Derived.Test.YtffpanlpbdnafaaDoorCx7
import Derived.Test.YtffpanlpbdnafaaDoorCx2
import Derived.Deep.CutBlock
/- A header's bytes are a header: plain. -/
set_option linter.unusedSimpArgs false
set_option linter.unusedVariables false
namespace Go.Proofs.YtffpanlpbdnafaaDoor
open Go.RowKit
theorem w8_nat {n : Int} (h0 : 0 ≤ n) (h1 : n ≤ 255) : ((w8 n).toNat : Int) = n := (w8_of h0 h1).symm
theorem num32_le4 (x : UInt32) (l : List UInt8) : num32 (le4 x ++ l) = x := by
  have hx := w32_hi x
  have e : numE (le4 x ++ l) 4 = x.toNat := by
    simp only [numE, le4, List.cons_append, List.nil_append, List.getD_cons_succ, List.getD_cons_zero]
    have g : ∀ k, ((w8 (leE x k)).toNat : Int) = leE x k := fun k => w8_nat (by unfold leE; omega) (by unfold leE; omega)
    simp only [g]
    unfold leE
    omega
  unfold num32 w32
  rw [e]
  simp
theorem hget_put {h : Hd} (hk : h.ok) : hgetL (hputL h) = h := by
  unfold hgetL hputL
  have l4 : ∀ x, (le4 x).length = 4 := fun _ => rfl
  have d4 : (le4 h.ver ++ (h.prev ++ (h.root ++ (le4 h.time ++ (le4 h.bits ++ le4 h.nonce))))).drop 4 = h.prev ++ (h.root ++ (le4 h.time ++ (le4 h.bits ++ le4 h.nonce))) := List.drop_left' (l4 _)
  have dn : ∀ k, (le4 h.ver ++ (h.prev ++ (h.root ++ (le4 h.time ++ (le4 h.bits ++ le4 h.nonce))))).drop (4 + k) = (h.prev ++ (h.root ++ (le4 h.time ++ (le4 h.bits ++ le4 h.nonce)))).drop k := fun k => by rw [← List.drop_drop, d4]
  have dn2 : ∀ k, (le4 h.ver ++ (h.prev ++ (h.root ++ (le4 h.time ++ (le4 h.bits ++ le4 h.nonce))))).drop (36 + k) = (h.root ++ (le4 h.time ++ (le4 h.bits ++ le4 h.nonce))).drop k := fun k => by
    rw [show 36 + k = 4 + (32 + k) by omega, dn, ← List.drop_drop, List.drop_left' hk.1]
  have dn3 : ∀ k, (le4 h.ver ++ (h.prev ++ (h.root ++ (le4 h.time ++ (le4 h.bits ++ le4 h.nonce))))).drop (68 + k) = (le4 h.time ++ (le4 h.bits ++ le4 h.nonce)).drop k := fun k => by
    rw [show 68 + k = 36 + (32 + k) by omega, dn2, ← List.drop_drop, List.drop_left' hk.2]
  have e36 := dn2 0; have e68 := dn3 0; have e72 := dn3 4; have e76 := dn3 8
  rw [List.drop_zero] at e36 e68
  rw [List.drop_left' (l4 _)] at e72
  have e8 : (le4 h.time ++ (le4 h.bits ++ le4 h.nonce)).drop (4 + 4) = le4 h.nonce := by rw [← List.drop_drop, List.drop_left' (l4 _), List.drop_left' (l4 _)]
  have e76' := e76.trans e8
  rw [d4, e36, e68, e72, e76', num32_le4, num32_le4, num32_le4, List.take_left' hk.1, List.take_left' hk.2]
  have := num32_le4 h.nonce []
  rw [List.append_nil] at this
  rw [this]
end Go.Proofs.YtffpanlpbdnafaaDoor

/- What is got was put so: parts and messages. -/
set_option linter.unusedSimpArgs false
set_option linter.unusedVariables false
namespace Go.Proofs.YtffpanlpbdnafaaDoor
open Go.RowKit
def PV.mst : PV → Nat
  | .hsh _ _ _ most => most
  | _ => 0
theorem put_mk {m : MsgR} (h : fitsB m = true) {l : List UInt8} (e : (partsM m).flatMap layL = l) : putL m = l := by unfold putL; rw [if_pos h, e]
theorem txL_pl (t : TxR) : txL t.pl = txL t := by
  unfold txL TxR.pl
  simp only [List.length_map, List.flatMap_map]
  rfl
theorem saneT_pl (t : TxR) : saneT t.pl = saneT t := by
  unfold saneT TxR.pl
  simp only [List.length_map, List.mem_map, forall_exists_index, and_imp, forall_apply_eq_imp_iff₂]
  rfl
theorem others_pl (m : MsgR) : othersM m.pl = (othersM m).pl := by
  unfold othersM
  rw [show m.pl.kind = m.kind from rfl]
  by_cases h : m.kind = 0
  · rw [if_pos h, if_pos h]; rfl
  rw [if_neg h, if_neg h]; clear h
  by_cases h : m.kind = 2 ∨ m.kind = 3
  · rw [if_pos h, if_pos h]; rfl
  rw [if_neg h, if_neg h]; clear h
  by_cases h : m.kind = 4
  · rw [if_pos h, if_pos h]; rfl
  rw [if_neg h, if_neg h]; clear h
  by_cases h : m.kind = 5
  · rw [if_pos h, if_pos h]; rfl
  rw [if_neg h, if_neg h]; clear h
  by_cases h : m.kind = 6 ∨ m.kind = 7 ∨ m.kind = 8
  · rw [if_pos h, if_pos h]; rfl
  rw [if_neg h, if_neg h]; clear h
  by_cases h : m.kind = 9
  · rw [if_pos h, if_pos h]; rfl
  rw [if_neg h, if_neg h]; clear h
  by_cases h : m.kind = 10
  · rw [if_pos h, if_pos h]; rfl
  rw [if_neg h, if_neg h]
theorem nothing_pl (m : MsgR) : nothingB m.pl = nothingB m := by
  unfold nothingB MsgR.pl TxR.pl
  simp only [List.length_map]
theorem fits_pl (m : MsgR) : fitsB m.pl = fitsB m := by
  have e1 : nothingB (othersM m.pl) = nothingB (othersM m) := by rw [others_pl, nothing_pl]
  have e2 : saneT m.pl.t = saneT m.t := saneT_pl m.t
  unfold fitsB
  rw [e1, e2]
  rfl
theorem lay_tx_pl (t : TxR) : layL (.tx t.pl) = layL (.tx t) := by
  show (if saneT t.pl = true then txL t.pl else []) = if saneT t = true then txL t else []
  rw [saneT_pl, txL_pl]
theorem parts_pl (m : MsgR) : (partsM m.pl).flatMap layL = (partsM m).flatMap layL := by
  unfold partsM
  rw [show m.pl.kind = m.kind from rfl]
  by_cases h : m.kind = 0
  · rw [if_pos h, if_pos h]; rfl
  rw [if_neg h, if_neg h]; clear h
  by_cases h : m.kind = 2 ∨ m.kind = 3
  · rw [if_pos h, if_pos h]; rfl
  rw [if_neg h, if_neg h]; clear h
  by_cases h : m.kind = 4
  · rw [if_pos h, if_pos h]; rfl
  rw [if_neg h, if_neg h]; clear h
  by_cases h : m.kind = 5
  · rw [if_pos h, if_pos h]; rfl
  rw [if_neg h, if_neg h]; clear h
  by_cases h : m.kind = 6 ∨ m.kind = 7 ∨ m.kind = 8
  · rw [if_pos h, if_pos h]; rfl
  rw [if_neg h, if_neg h]; clear h
  by_cases h : m.kind = 9
  · rw [if_pos h, if_pos h]; rfl
  rw [if_neg h, if_neg h]; clear h
  by_cases h : m.kind = 10
  · rw [if_pos h, if_pos h]
    rw [List.flatMap_cons, List.flatMap_cons]
    rw [show m.pl.t = m.t.pl from rfl, lay_tx_pl]
  · rw [if_neg h, if_neg h]
theorem put_pl (m : MsgR) : putL m.pl = putL m := by
  unfold putL
  rw [fits_pl, parts_pl]
end Go.Proofs.YtffpanlpbdnafaaDoor

/- ours, theirs: a transaction of one type as one of the other. (printed by gen_pd.py) -/
set_option linter.unusedSimpArgs false
set_option linter.unusedVariables false
namespace Go.Proofs.YtffpanlpbdnafaaDoor
open Go.RowKit
attribute [local go_sem ↓] Go.wp_at_zero Go.wp_at_succ
theorem rin_info : (Tryd.prog.info? 119).map (·.size) = some 35 := by kernel_rfl
structure InB (x : InR) (cs : Array Value) : Prop where
  l : cs.toList = x.cells
  z : cs.size = 35
  i : (Tryd.prog.info? 119).map (·.size) = some cs.size
  n : ¬ cs = #[]
  o : ∀ v ∈ cs.toList, v.oneCell' = true
theorem InB.of {x : InR} (h : x.prev.length = 32) : InB x x.cells.toArray := by
  have hz : x.cells.toArray.size = 35 := by simpa using InR.len h
  exact ⟨rfl, hz, by rw [hz]; exact rin_info, fun e => by rw [e] at hz; simp at hz, by simpa using x.one⟩
noncomputable def zrin : Array Value := match (Tryd.prog.info? 119).bind (·.zero) with | some (.agg c) => c | _ => #[]
theorem zrin_size : zrin.size = 35 := by kernel_rfl
theorem zrin_zero (w : World) : (zeroValue 119).run Tryd.prog w = .ok (.agg zrin) w := by kernel_rfl
theorem zrin_letter : ∃ zs : Array Value, zs.size = 35 ∧ (∀ w, (zeroValue 119).run Tryd.prog w = .ok (.agg zs) w) ∧ ¬ zs = #[] :=
  ⟨zrin, zrin_size, zrin_zero, fun h => by have := zrin_size; rw [h] at this; cases this⟩
theorem zin_letter0 : ∃ zs : Array Value, zs.size = 35 ∧ (∀ w, (zeroValue 127).run Tryd.prog w = .ok (.agg zs) w) ∧ ¬ zs = #[] := by
  obtain ⟨zs, a, b, c, -⟩ := zin_letter
  exact ⟨zs, a, b, c⟩
set_option maxRecDepth 100000 in
theorem rinT : ElT Tryd.prog 58 119 (Value.agg zrin) 35 72 := ElT.mk' Tryd.underlying58 (by kernel_rfl) zrin_size (by omega)
theorem routT : ElT Tryd.prog 59 121 (.agg #[.int .u64 0, .slice none 0 0]) 2 32 := ElT.mk' Tryd.underlying59 (by kernel_rfl) rfl (by omega)
theorem in_built (p : List UInt8) (ix : UInt32) (A : Option Addr) (n c : Nat) (sq : UInt32) (ds : Array Value) (hl : p.length = 32) (hd : HashA p ds) : Tryd.prog.built 127 [(0, .agg ds), (1, u32v ix), (2, .slice A n c), (3, u32v sq)] = some (p.map u8v ++ [u32v ix, .slice A n c, u32v sq]).toArray := by
  obtain rfl := hd.e
  obtain ⟨a0, a1, a2, a3, a4, a5, a6, a7, a8, a9, b0, b1, b2, b3, b4, b5, b6, b7, b8, b9, c0, c1, c2, c3, c4, c5, c6, c7, c8, c9, d0, d1, rfl⟩ := list32b hl
  show _ = _
  kernel_rfl
theorem rin_built (p : List UInt8) (ix : UInt32) (A : Option Addr) (n c : Nat) (sq : UInt32) (ds : Array Value) (hl : p.length = 32) (hd : HashA p ds) : Tryd.prog.built 119 [(0, .agg ds), (1, u32v ix), (2, .slice A n c), (3, u32v sq)] = some (p.map u8v ++ [u32v ix, .slice A n c, u32v sq]).toArray := by
  obtain rfl := hd.e
  obtain ⟨a0, a1, a2, a3, a4, a5, a6, a7, a8, a9, b0, b1, b2, b3, b4, b5, b6, b7, b8, b9, c0, c1, c2, c3, c4, c5, c6, c7, c8, c9, d0, d1, rfl⟩ := list32b hl
  show _ = _
  kernel_rfl
set_option maxRecDepth 100000 in
set_option maxHeartbeats 4000000 in
theorem ours_any (t : TxR) (w0 w : World) (h0 : t.at w0) (hk0 : Keep w0 w) (hi : t.ins.length ≤ 1000000) (ho : t.outs.length ≤ 1000000) :
    Calls Tryd.prog 33 #[.agg #[u32v t.ver, .slice t.iA t.ins.length t.ic, .slice t.oA t.outs.length t.oc, u32v t.lock]] w fun e w' => ∃ iA ic oA oc, e = .returned (.agg #[u32v t.ver, .slice iA t.ins.length ic, .slice oA t.outs.length oc, u32v t.lock]) ∧ (∀ W, Mid w0 w w' W → TxR.at ⟨t.ver, iA, t.ins, ic, oA, t.outs, oc, t.lock⟩ W) ∧ Keep w w' := by
  have h := h0.keep hk0
  have HI : Hid (∀ k (h : k < t.ins.length), ∃ (b off : Nat) (xs : Array Value) (x : InR), t.iA = some ⟨b, off, none⟩ ∧ InB x xs ∧ x.prev.length = 32 ∧ w.rangeAt b (off + k * 35) xs.toList ∧ t.ins[k]? = some x) := Lib.hid fun k hk => by
    have hp := (h.is _ (List.getElem_mem hk)).p
    obtain ⟨b, off, h1, -, h2⟩ := in_at h.i (fun x hx => (h.is x hx).p) hk
    have hA := InB.of hp
    exact ⟨b, off, _, _, h1, hA, hp, by rw [hA.l]; exact h2, List.getElem?_eq_getElem hk⟩
  have HO : Hid (∀ k (h : k < t.outs.length), ∃ (b off : Nat) (x : OutR), t.oA = some ⟨b, off, none⟩ ∧ w.cell? ⟨b, off + k * 2, none⟩ = some (u64v x.val) ∧ w.cell? ⟨b, off + k * 2 + 1, none⟩ = some (.slice x.A x.sc.length x.cap) ∧ t.outs[k]? = some x) := Lib.hid fun k hk => by
    obtain ⟨b, off, h1, -, h2, h3⟩ := out_at h.o hk
    exact ⟨b, off, _, h1, h2, h3, List.getElem?_eq_getElem hk⟩
  have HIS := Lib.hid h0.is; have HOS := Lib.hid h0.os; have HK0 := Lib.hid hk0
  obtain ⟨ver, iA, ins, ic, oA, outs, oc, lock⟩ := t
  simp only at *
  clear h h0 hk0
  obtain ⟨n, hn⟩ : ∃ n, ins.length = n := ⟨_, rfl⟩
  obtain ⟨m, hm⟩ : ∃ m, outs.length = m := ⟨_, rfl⟩
  rw [hn] at HI hi ⊢
  rw [hm] at HO ho ⊢
  have HNN := Lib.hid hn; have HMM := Lib.hid hm
  clear hn hm
  obtain ⟨zs, hz1, hz2, hz3⟩ := zrin_letter
  go_enter Tryd.func33, Tryd.ntmps33
  go_upto_region 2 with fail
  obtain ⟨w1, hw1⟩ : ∃ w1, w1 = ((w.alloc (.cells #[u32v ver, .slice iA n ic, .slice oA m oc, u32v lock] 61)).alloc (.cells #[.int .u32 0, .slice none 0 0, .slice none 0 0, .int .u32 0] 48)).alloc (.cells #[u32v ver, .slice none 0 0, .slice none 0 0, u32v lock] 48) := ⟨_, rfl⟩
  have HT1 : Hid (Blk w1 w.heap.size 61 [u32v ver, .slice iA n ic, .slice oA m oc, u32v lock]) := by rw [hw1]; exact Lib.hid (((Blk.new w 61 [u32v ver, .slice iA n ic, .slice oA m oc, u32v lock]).alloc _).alloc _)
  have HR1 : Hid (Blk w1 (w.heap.size + 1) 48 [.int .u32 0, .slice none 0 0, .slice none 0 0, .int .u32 0]) := by
    rw [hw1]
    have q := (Blk.new (w.alloc (.cells #[u32v ver, .slice iA n ic, .slice oA m oc, u32v lock] 61)) 48 [.int .u32 0, .slice none 0 0, .slice none 0 0, .int .u32 0]).alloc (.cells #[u32v ver, .slice none 0 0, .slice none 0 0, u32v lock] 48)
    rw [World.size_alloc] at q
    exact Lib.hid q
  have HX1 : Hid (Blk w1 (w.heap.size + 1 + 1) 48 [u32v ver, .slice none 0 0, .slice none 0 0, u32v lock]) := by
    rw [hw1]
    have q := Blk.new ((w.alloc (.cells #[u32v ver, .slice iA n ic, .slice oA m oc, u32v lock] 61)).alloc (.cells #[.int .u32 0, .slice none 0 0, .slice none 0 0, .int .u32 0] 48)) 48 [u32v ver, .slice none 0 0, .slice none 0 0, u32v lock]
    rw [World.size_alloc, World.size_alloc] at q
    exact Lib.hid q
  have HK1 : Hid (Keep w w1) := by rw [hw1]; exact Lib.hid (keep_trans (keep_new _ _) (keep_trans (keep_new _ _) (keep_new _ _)))
  rw [← hw1]
  clear hw1
  have C1 : Hid (([u32v ver, .slice iA n ic, .slice oA m oc, u32v lock] : List Value)[1]? = some (.slice iA n ic)) := Lib.hid rfl
  have C2 : Hid (([u32v ver, .slice iA n ic, .slice oA m oc, u32v lock] : List Value)[2]? = some (.slice oA m oc)) := Lib.hid rfl
  generalize ([u32v ver, .slice iA n ic, .slice oA m oc, u32v lock] : List Value) = TB at HT1 C1 C2
  have hgt : w.heap.size + 1 + 1 < w1.heap.size := HX1.out.lt
  go_upto_block 0 with fail
  have HB1 := Lib.hid (Nat.le_refl w1.heap.size)
  obtain ⟨wb, hwb⟩ : ∃ wb, w1 = wb := ⟨_, rfl⟩
  have Own0 : Hid (w1.ownsRow wb.heap.size 127 35 (.slice none 0 0) 0 ((ins.take 0).flatMap InR.cells)) := Lib.hid (World.ownsRow_nil _ _ _ _)
  rw [hwb] at HT1 HR1 HX1 HK1 Own0 hgt ⊢
  clear hwb HB1
  go_cut [] (fun wx => ∃ vi : Value, Hid (Blk wx (w.heap.size + 1 + 1) 48 [u32v ver, vi, .slice none 0 0, u32v lock]) ∧ Hid (wx.ownsRow wb.heap.size 127 35 vi n (ins.flatMap InR.cells)) ∧ Hid (Blk wx w.heap.size 61 TB) ∧ Hid (Blk wx (w.heap.size + 1) 48 [.int .u32 0, .slice none 0 0, .slice none 0 0, .int .u32 0]) ∧ Hid (Keep w wx) ∧ Hid (wb.heap.size ≤ wx.heap.size))
  case first =>
    go_wp2_with fail
    go_loopw [4] (fun x wr => ∃ (k : Nat) (vi : Value), k ≤ n ∧ x = .int .i64 k ∧ Hid (Blk wr (w.heap.size + 1 + 1) 48 [u32v ver, vi, .slice none 0 0, u32v lock]) ∧ Hid (wr.ownsRow wb.heap.size 127 35 vi k ((ins.take k).flatMap InR.cells)) ∧ Hid (Blk wr w.heap.size 61 TB) ∧ Hid (Blk wr (w.heap.size + 1) 48 [.int .u32 0, .slice none 0 0, .slice none 0 0, .int .u32 0]) ∧ Hid (Keep w wr) ∧ Hid (wb.heap.size ≤ wr.heap.size)) (fun x _ => n - (intOf x).toNat)
    case atStart => exact ⟨0, .slice none 0 0, Nat.zero_le _, rfl, HX1, Own0, HT1, HR1, HK1, Lib.hid (Nat.le_refl _)⟩
    case round =>
      obtain ⟨k, vi, hk, rfl, HX, Own, HT, HR, HK, HS⟩ := hrel
      clear Own0 HX1 HT1 HR1 HK1
      have t1 := (HT.out.cell 1).trans C1.out
      by_cases hlt : k < n
      · obtain ⟨b, off, xs, x, rfl, hxs, hp, hrg, hget⟩ := HI.out k hlt
        have hxz := hxs.z; have hxn := hxs.n; have hxi := hxs.i
        have RX : Hid (wr.rangeAt b (off + k * 35) xs.toList) := Lib.hid fun j v hv => keep_cell HK.out (hrg j v hv)
        have hst : (storeCells ⟨wr.heap.size, 0, none⟩ xs.toList 0).run Tryd.prog (wr.alloc (.cells zs 119)) = .ok () (wr.alloc (.cells xs 119)) := run_storeCells_new (P := Tryd.prog) wr 119 zs xs hxi (hz1.trans hxz.symm) (by have := all_oneCell_toArray hxs.o; rwa [Array.toArray_toList] at this)
        have d4 : (k : Int) < n := by omega
        have HXS := Lib.hid hxs; have HP := Lib.hid hp
        have HGE := Lib.hid hget
        clear hxs hrg hget hp HI
        go_upto_region 6 with ((with_reducible refine load_partg b (off + k * 35) xs (Eq.trans ?_ rfl) RX.out _ Tryd.underlying119 rfl hxi rfl ?_); rfl)
        obtain ⟨w2, hw2⟩ : ∃ w2, w2 = wr.alloc (.cells xs 119) := ⟨_, rfl⟩
        have HG2 : Hid (Blk w2 wr.heap.size 119 xs.toList) := by rw [hw2]; exact Lib.hid (Blk.new wr _ xs.toList)
        have HX2 : Hid (Blk w2 (w.heap.size + 1 + 1) 48 [u32v ver, vi, .slice none 0 0, u32v lock]) := by rw [hw2]; exact Lib.hid (HX.out.alloc _)
        have HT2 : Hid (Blk w2 w.heap.size 61 TB) := by rw [hw2]; exact Lib.hid (HT.out.alloc _)
        have HR2 : Hid (Blk w2 (w.heap.size + 1) 48 [.int .u32 0, .slice none 0 0, .slice none 0 0, .int .u32 0]) := by rw [hw2]; exact Lib.hid (HR.out.alloc _)
        have Own2 : Hid (w2.ownsRow wb.heap.size 127 35 vi k ((ins.take k).flatMap InR.cells)) := by rw [hw2]; exact Lib.hid (Own.out.alloc _)
        have HK2 : Hid (Keep w w2) := by rw [hw2]; exact Lib.hid (keep_trans HK.out (keep_new _ _))
        have HS2 : Hid (wb.heap.size ≤ w2.heap.size) := by rw [hw2]; exact Lib.hid (by have := HS.out; simp; omega)
        rw [← hw2]
        clear hw2 hst RX HX HT HR Own HK HS t1
        generalize wr.heap.size = gx at *
        obtain ⟨ss, hss⟩ : ∃ ss, HashA x.prev ss := ⟨_, HashA.of HP.out⟩
        have hsn := hss.n; have hsz := hss.z; have hsi := hss.i
        have HSS := Lib.hid hss
        have hsl : xs.toList = ss.toList ++ [u32v x.ix, .slice x.A x.sc.length x.cap, u32v x.seq] := by rw [HXS.out.l, HSS.out.l]; rfl
        have hsll : ss.toList.length = 32 := by rw [Array.length_toList]; exact hsz
        have RS : Hid (w2.rangeAt gx 0 ss.toList) := Lib.hid (range_of HG2.out 0 ss.toList (by rw [hsl, List.drop_zero, List.take_left' rfl]))
        have x32 : w2.cell? ⟨gx, 32, none⟩ = some (u32v x.ix) := by rw [HG2.out.cell, hsl, List.getElem?_append_right (by omega), hsll]; rfl
        have x33 : w2.cell? ⟨gx, 33, none⟩ = some (.slice x.A x.sc.length x.cap) := by rw [HG2.out.cell, hsl, List.getElem?_append_right (by omega), hsll]; rfl
        have x34 : w2.cell? ⟨gx, 34, none⟩ = some (u32v x.seq) := by rw [HG2.out.cell, hsl, List.getElem?_append_right (by omega), hsll]; rfl
        obtain ⟨es, hes⟩ : ∃ es : Array Value, es = (x.prev.map u8v ++ [u32v x.ix, .slice x.A x.sc.length x.cap, u32v x.seq]).toArray := ⟨_, rfl⟩
        have HBu : Hid (Tryd.prog.built 127 [(0, .agg ss), (1, u32v x.ix), (2, .slice x.A x.sc.length x.cap), (3, u32v x.seq)] = some es) := Lib.hid (by rw [hes]; exact in_built _ _ _ _ _ _ _ HP.out HSS.out)
        have hel : es.toList = x.cells := by rw [hes]; rfl
        have hez : es.size = 35 := by rw [hes]; simp [HP.out]
        have HEO : Hid (∀ v ∈ es.toList, v.oneCell' = true) := Lib.hid (by rw [hel]; exact x.one)
        have HEL := Lib.hid hel
        have y1 := HX2.out.cell 1
        simp only [List.getElem?_cons_succ, List.getElem?_cons_zero] at y1
        clear hss hes hel hsl hsll HXS HG2
        obtain ⟨Av, cv, rfl, -, -, -⟩ := own_form Own2.out
        go_wp2_with (first
          | ((with_reducible refine load_partg gx 0 ss (Eq.trans ?_ rfl) RS.out _ hash_under rfl hsi rfl ?_); rfl)
          | ((with_reducible refine list_bldg [(0, .agg ss), (1, u32v x.ix), (2, .slice x.A x.sc.length x.cap), (3, u32v x.seq)] es (Eq.trans ?_ rfl) HBu.out (Eq.trans ?_ rfl) ?_); rfl; rfl)
          | ((with_reducible refine list_build1h inT es hez (by omega) (Eq.trans ?_ rfl) ?_); rfl)
          | (at_builtin; refine wpList_app inT (by rfl) _ _ (by rfl) wb.heap.size _ k _ (by rfl) (Own2.out.alloc _) _ 1 1 es.toList (by rfl) (by rw [Array.length_toList, hez]) (by simpa using Rd.new w2 es.toList 127) HEO.out (by omega) (by unfold maxLen; omega) (by have := HS2.out; simp; omega) ?_; intro v3 w3 own3 hg3 hat3; obtain ⟨Aw, cw, rfl, -, -, -⟩ := own_form own3; have HX3 := Lib.hid ((HX2.out.alloc (.cells es 127)).grown hg3 (fun q => by have := (Own2.out.lt _ q).1; omega)); have HT3 := Lib.hid ((HT2.out.alloc (.cells es 127)).grown hg3 (fun q => by have := (Own2.out.lt _ q).1; omega)); have HR3 := Lib.hid ((HR2.out.alloc (.cells es 127)).grown hg3 (fun q => by have := (Own2.out.lt _ q).1; omega)); have y3 := HX3.out.cell 1; have f3 := HX3.out.frozen 1; simp only [List.getElem?_cons_succ, List.getElem?_cons_zero] at y3; have Own3 := Lib.hid own3; have HK3 : Hid (Keep w w3) := Lib.hid (keep_grown (keep_trans HK2.out (keep_new _ _)) (by have := HK2.out.size; simp; omega) hg3 (own_base (Own2.out.alloc (.cells es 127)) (by omega))); have HS3 : Hid (wb.heap.size ≤ w3.heap.size) := Lib.hid (by have := HS2.out; have := hg3.size; simp at this; omega); clear own3 hg3 hat3))
        obtain ⟨w4, hw4⟩ : ∃ w4, w4 = w3.setCell ⟨w.heap.size + 1 + 1, 1, none⟩ (.slice Aw (k + 1) cw) := ⟨_, rfl⟩
        have HX4 : Hid (Blk w4 (w.heap.size + 1 + 1) 48 [u32v ver, .slice Aw (k + 1) cw, .slice none 0 0, u32v lock]) := by rw [hw4]; exact Lib.hid (HX3.out.set_ 1 (.slice Aw (k + 1) cw))
        have HT4 : Hid (Blk w4 w.heap.size 61 TB) := by rw [hw4]; exact Lib.hid (HT3.out.far (by simp <;> omega) _)
        have HR4 : Hid (Blk w4 (w.heap.size + 1) 48 [.int .u32 0, .slice none 0 0, .slice none 0 0, .int .u32 0]) := by rw [hw4]; exact Lib.hid (HR3.out.far (by simp) _)
        have Own4 : Hid (w4.ownsRow wb.heap.size 127 35 (.slice Aw (k + 1) cw) (k + 1) ((ins.take (k + 1)).flatMap InR.cells)) := by
          rw [hw4]
          refine Lib.hid (own_eq (ownsRow_setCell_below Own3.out (a := ⟨w.heap.size + 1 + 1, 1, none⟩) (by omega) _) rfl ?_)
          rw [HEL.out, List.take_add_one, HGE.out, List.flatMap_append]; simp
        have HK4 : Hid (Keep w w4) := by rw [hw4]; exact Lib.hid (Below.setCell HK3.out (by simp <;> omega) _)
        have HS4 : Hid (wb.heap.size ≤ w4.heap.size) := by rw [hw4]; exact Lib.hid (by have := HS3.out; simpa using this)
        rw [← hw4]
        clear hw4 HX3 HT3 HR3 Own3 HK3 HS3 y3 f3 HX2 HT2 HR2 Own2 HK2 HS2 RS x32 x33 x34 y1 HBu HEO HEL HGE HSS HP
        go_roundw
        case rel => exact ⟨k + 1, _, by omega, by go_num, HX4, Own4, HT4, HR4, HK4, HS4⟩
        case measure => simp [intOf]; omega
      · obtain rfl : k = n := by omega
        have d4 : ¬ (k : Int) < k := by omega
        have OwnF : Hid (wr.ownsRow wb.heap.size 127 35 vi k (ins.flatMap InR.cells)) := Lib.hid (own_eq Own.out rfl (by rw [List.take_of_length_le (by rw [HNN.out]; omega)]))
        clear HI Own
        go_wp2
        go_meet
        exact ⟨vi, HX, OwnF, HT, HR, HK, HS⟩
  case rest =>
    obtain ⟨vi, HX5, OwnI, HT5, HR5, HK5, HS5⟩ := hcut
    clear HX1 HT1 HR1 HK1 Own0 C1 HI
    obtain ⟨Avi, cvi, rfl, hcv1, hcv2, -⟩ := own_form OwnI.out
    have hg5 := HX5.out.lt
    go_wp2_with fail
    have OwnO : Hid (wc.ownsRow wc.heap.size 128 2 (.slice none 0 0) 0 ((outs.take 0).flatMap OutR.cells)) := Lib.hid (World.ownsRow_nil _ _ _ _)
    have KX5 : Hid (KeepX (fun k => k = w.heap.size + 1 + 1) wc wc) := Lib.hid (KeepX.of (Below.refl _ _))
    go_loopw [6] (fun x wr => ∃ (j : Nat) (vo : Value), j ≤ m ∧ x = .int .i64 j ∧ Hid (Blk wr (w.heap.size + 1 + 1) 48 [u32v ver, .slice Avi n cvi, vo, u32v lock]) ∧ Hid (wr.ownsRow wc.heap.size 128 2 vo j ((outs.take j).flatMap OutR.cells)) ∧ Hid (Blk wr w.heap.size 61 TB) ∧ Hid (Blk wr (w.heap.size + 1) 48 [.int .u32 0, .slice none 0 0, .slice none 0 0, .int .u32 0]) ∧ Hid (Keep w wr) ∧ Hid (KeepX (fun k => k = w.heap.size + 1 + 1) wc wr)) (fun x _ => m - (intOf x).toNat)
    case atStart => exact ⟨0, .slice none 0 0, Nat.zero_le _, rfl, HX5, OwnO, HT5, HR5, HK5, KX5⟩
    case round =>
      obtain ⟨j, vo, hj, rfl, HX, Own, HT, HR, HK, KX⟩ := hrel
      clear OwnO KX5 HX5 HT5 HR5 HK5
      have t2 := (HT.out.cell 2).trans C2.out
      by_cases hlt : j < m
      · obtain ⟨b, off, x, rfl, c0, c1, hget⟩ := HO.out j hlt
        have hbl : b < w.heap.size := cell_lt c0
        have c0 := keep_cell HK.out c0; have c1 := keep_cell HK.out c1
        have d4 : (j : Int) < m := by omega
        have HGE := Lib.hid hget
        clear hget HO
        obtain ⟨Av, cv, rfl, -, -, -⟩ := own_form Own.out
        go_upto_region 10 with fail
        letI iM : G.Mk := ⟨(Value.slice Av j cv).ownBlock⟩
        refine G.wp_region_tree (.take [0,1,2,3,4,5,6,7,8,9,10,11,12,13,14] (.force [15,16] .done)) [17,18] (by kernel_rfl) (by kernel_rfl) (fun w8 k8 => ?_)
        have HX8 := Lib.hid (HX.out.keep k8); have Own8 := Lib.hid (own_keep Own.out k8); have HT8 := Lib.hid (HT.out.keep k8); have HR8 := Lib.hid (HR.out.keep k8); have HK8 := Lib.hid (keep_trans HK.out k8)
        have KX8 : Hid (KeepX (fun k => k = w.heap.size + 1 + 1) wc w8) := Lib.hid (KX.out.trans (KeepX.of k8) fun _ _ q => q)
        have c0 := keep_cell k8 c0; have c1 := keep_cell k8 c1
        clear k8 HX Own HT HR HK KX t2
        have hneX : G.Mk.m ≠ some (w.heap.size + 1 + 1) := fun q => by have := (Own8.out.lt _ q).1; omega
        have hneT : G.Mk.m ≠ some w.heap.size := fun q => by have := (Own8.out.lt _ q).1; omega
        have hneB : G.Mk.m ≠ some b := fun q => by have := (Own8.out.lt _ q).1; omega
        have b0 := G.aftG_cell (HX8.out.cell 2) hneX
        have b1 := G.aftG_cell ((HT8.out.cell 2).trans C2.out) hneT
        have b2 := G.aftG_cell c0 hneB; have b3 := G.aftG_cell c1 hneB
        try simp only [List.getElem?_cons_succ, List.getElem?_cons_zero] at b0
        refine G.mt_take w8 (G.Gr.refl _) ?_
        simp only [pick_cons, pick_nil, nth_zero, nth_succ]
        repeat (go_big_quiet_step (fail))
        refine wpQuiet_nil (G.mt_force ?_)
        clear b0 b1 b2 b3 hneX hneT hneB c0 c1
        simp only [pick_cons, pick_nil, nth_zero, nth_succ]
        refine G.fc_step rfl (fun K hK => ?_)
        go_simp
        refine hK _ _ (G.Gr.of_keep (keep_new _ _)) ?_
        clear hK K
        obtain ⟨w9, hw9⟩ : ∃ w9, w9 = w8.alloc (.cells #[u64v x.val, .slice x.A x.sc.length x.cap] 128) := ⟨_, rfl⟩
        have HL9 : Hid (Rd w9 (some ⟨w8.heap.size, 0, none⟩) [u64v x.val, .slice x.A x.sc.length x.cap]) := by rw [hw9]; exact Lib.hid (Rd.new w8 [u64v x.val, .slice x.A x.sc.length x.cap] 128)
        have k9 : Keep w8 w9 := by rw [hw9]; exact keep_new _ _
        rw [← hw9]
        have HX9 := Lib.hid (HX8.out.keep k9); have Own9 := Lib.hid (own_keep Own8.out k9); have HT9 := Lib.hid (HT8.out.keep k9); have HR9 := Lib.hid (HR8.out.keep k9); have HK9 := Lib.hid (keep_trans HK8.out k9)
        have KX9 : Hid (KeepX (fun k => k = w.heap.size + 1 + 1) wc w9) := Lib.hid (KX8.out.trans (KeepX.of k9) fun _ _ q => q)
        clear hw9 k9 HX8 Own8 HT8 HR8 HK8 KX8
        have hs9 := KX9.out.2.2.2.1
        refine G.fc_step rfl (fun K hK => ?_)
        refine wp_app outT _ _ (by rfl) wc.heap.size _ j _ (by rfl) Own9.out _ 1 1 [u64v x.val, .slice x.A x.sc.length x.cap] (by rfl) (by rfl) HL9.out (by intro u hu; simp at hu; rcases hu with rfl | rfl <;> rfl) (by omega) (by unfold maxLen; omega) hs9 ?_
        intro v' wq ownq hgq hatq
        refine hK _ _ hgq ?_
        clear hK K HL9
        simp only [Act.put, Array.set!_eq_setIfInBounds, List.setIfInBounds_toArray, List.set_cons_succ, List.set_cons_zero]
        have HXq := Lib.hid (HX9.out.grown hgq (fun q => by have := (Own9.out.lt _ q).1; omega))
        have HTq := Lib.hid (HT9.out.grown hgq (fun q => by have := (Own9.out.lt _ q).1; omega))
        have HRq := Lib.hid (HR9.out.grown hgq (fun q => by have := (Own9.out.lt _ q).1; omega))
        have HKq : Hid (Keep w wq) := Lib.hid (keep_grown HK9.out HK9.out.size hgq (own_base Own9.out (by omega)))
        have KXq : Hid (KeepX (fun k => k = w.heap.size + 1 + 1) wc wq) := Lib.hid (KX9.out.grown hgq (fun i hi q => by have := (Own9.out.lt _ q).1; omega))
        have Ownq := Lib.hid ownq
        clear ownq hgq hatq HX9 HT9 HR9 HK9 KX9 Own9 hs9
        obtain ⟨Aw, cw, rfl, -, -, -⟩ := own_form Ownq.out
        have y3 := HXq.out.cell 2; have f3 := HXq.out.frozen 2
        simp only [List.getElem?_cons_succ, List.getElem?_cons_zero] at y3
        refine G.fc_nil (G.mt_end ?_)
        clear iM
        go_wp2
        obtain ⟨w4, hw4⟩ : ∃ w4, w4 = wq.setCell ⟨w.heap.size + 1 + 1, 2, none⟩ (.slice Aw (j + 1) cw) := ⟨_, rfl⟩
        have HX4 : Hid (Blk w4 (w.heap.size + 1 + 1) 48 [u32v ver, .slice Avi n cvi, .slice Aw (j + 1) cw, u32v lock]) := by rw [hw4]; exact Lib.hid (HXq.out.set_ 2 (.slice Aw (j + 1) cw))
        have HT4 : Hid (Blk w4 w.heap.size 61 TB) := by rw [hw4]; exact Lib.hid (HTq.out.far (by simp <;> omega) _)
        have HR4 : Hid (Blk w4 (w.heap.size + 1) 48 [.int .u32 0, .slice none 0 0, .slice none 0 0, .int .u32 0]) := by rw [hw4]; exact Lib.hid (HRq.out.far (by simp) _)
        have Own4 : Hid (w4.ownsRow wc.heap.size 128 2 (.slice Aw (j + 1) cw) (j + 1) ((outs.take (j + 1)).flatMap OutR.cells)) := by
          rw [hw4]
          refine Lib.hid (own_eq (ownsRow_setCell_below Ownq.out (a := ⟨w.heap.size + 1 + 1, 2, none⟩) (by omega) _) rfl ?_)
          rw [List.take_add_one, HGE.out, List.flatMap_append]; simp [OutR.cells]
        have HK4 : Hid (Keep w w4) := by rw [hw4]; exact Lib.hid (Below.setCell HKq.out (by simp <;> omega) _)
        have KX4 : Hid (KeepX (fun k => k = w.heap.size + 1 + 1) wc w4) := by rw [hw4]; exact Lib.hid (KeepB.set KXq.out 2 _)
        rw [← hw4]
        clear hw4 HXq HTq HRq Ownq HKq KXq y3 f3 HGE
        go_roundw
        case rel => exact ⟨j + 1, _, by omega, by go_num, HX4, Own4, HT4, HR4, HK4, KX4⟩
        case measure => simp [intOf]; omega
      · obtain rfl : j = m := by omega
        have d4 : ¬ (j : Int) < j := by omega
        have OwnF : Hid (wr.ownsRow wc.heap.size 128 2 vo j (outs.flatMap OutR.cells)) := Lib.hid (own_eq Own.out rfl (by rw [List.take_of_length_le (by rw [HMM.out]; omega)]))
        clear HO Own
        obtain ⟨Avo, cvo, rfl, hco1, hco2, -⟩ := own_form OwnF.out
        have OwnJ := Lib.hid (own_kx OwnI.out KX.out (fun g q e => by have := (OwnI.out.lt g q).1; omega))
        have x0 := HX.out.cell 0; have x1 := HX.out.cell 1; have x2 := HX.out.cell 2; have x3 := HX.out.cell 3
        have z0 := HR.out.cell 0; have z1 := HR.out.cell 1; have z2 := HR.out.cell 2; have z3 := HR.out.cell 3
        have f0 := HR.out.frozen 0; have f1 := HR.out.frozen 1; have f2 := HR.out.frozen 2; have f3 := HR.out.frozen 3
        simp only [List.getElem?_cons_succ, List.getElem?_cons_zero] at x0 x1 x2 x3 z0 z1 z2 z3
        go_wp2
        have HRF := ((((HR.out.set_ 0 (u32v ver)).set_ 1 (.slice Avi n cvi)).set_ 2 (.slice Avo j cvo)).set_ 3 (u32v lock))
        have KF := KeepB.set (KeepB.set (KeepB.set (KeepB.set (S := w.heap.size + 1) (KeepX.of (Below.refl wr.heap.size wr)) 0 (u32v ver)) 1 (.slice Avi n cvi)) 2 (.slice Avo j cvo)) 3 (u32v lock)
        have KW := Below.setCell (Below.setCell (Below.setCell (Below.setCell HK.out (p := ⟨w.heap.size + 1, 0, none⟩) (by simp) (u32v ver)) (p := ⟨w.heap.size + 1, 1, none⟩) (by simp) (.slice Avi n cvi)) (p := ⟨w.heap.size + 1, 2, none⟩) (by simp) (.slice Avo j cvo)) (p := ⟨w.heap.size + 1, 3, none⟩) (by simp) (u32v lock)
        have o1 := own_kx OwnJ.out KF (fun g q e => by have := (OwnJ.out.lt g q).1; omega)
        have o2 := own_kx OwnF.out KF (fun g q e => by have := (OwnF.out.lt g q).1; omega)
        exact bodyPost_ret (v := .agg #[u32v ver, .slice Avi n cvi, .slice Avo j cvo, u32v lock]) (results_cell_row Tryd.results33 _ _ (w.heap.size + 1) _ _ _ _ rfl HRF Tryd.underlying48 rfl (by kernel_rfl)) rfl
          ⟨Avi, cvi, Avo, cvo, rfl, fun W hm => ⟨own_mid o1 (by omega) hm, own_mid o2 (by omega) hm, ⟨by rw [HNN.out]; exact hcv1, hcv2⟩, ⟨by rw [HMM.out]; exact hco1, hco2⟩, fun x hx => (HIS.out x hx).keep hm.1, fun x hx => (HOS.out x hx).keep hm.1⟩, KW⟩
set_option maxRecDepth 100000 in
set_option maxHeartbeats 4000000 in
theorem theirs_any (t : TxR) (w0 w : World) (h0 : t.at w0) (hk0 : Keep w0 w) (hi : t.ins.length ≤ 1000000) (ho : t.outs.length ≤ 1000000) :
    Calls Tryd.prog 49 #[.agg #[u32v t.ver, .slice t.iA t.ins.length t.ic, .slice t.oA t.outs.length t.oc, u32v t.lock]] w fun e w' => ∃ iA ic oA oc, e = .returned (.agg #[u32v t.ver, .slice iA t.ins.length ic, .slice oA t.outs.length oc, u32v t.lock]) ∧ (∀ W, Mid w0 w w' W → TxR.at ⟨t.ver, iA, t.ins, ic, oA, t.outs, oc, t.lock⟩ W) ∧ Keep w w' := by
  have h := h0.keep hk0
  have HI : Hid (∀ k (h : k < t.ins.length), ∃ (b off : Nat) (xs : Array Value) (x : InR), t.iA = some ⟨b, off, none⟩ ∧ InA x xs ∧ x.prev.length = 32 ∧ w.rangeAt b (off + k * 35) xs.toList ∧ t.ins[k]? = some x) := Lib.hid fun k hk => by
    have hp := (h.is _ (List.getElem_mem hk)).p
    obtain ⟨b, off, h1, -, h2⟩ := in_at h.i (fun x hx => (h.is x hx).p) hk
    have hA := InA.of hp
    exact ⟨b, off, _, _, h1, hA, hp, by rw [hA.l]; exact h2, List.getElem?_eq_getElem hk⟩
  have HO : Hid (∀ k (h : k < t.outs.length), ∃ (b off : Nat) (x : OutR), t.oA = some ⟨b, off, none⟩ ∧ w.cell? ⟨b, off + k * 2, none⟩ = some (u64v x.val) ∧ w.cell? ⟨b, off + k * 2 + 1, none⟩ = some (.slice x.A x.sc.length x.cap) ∧ t.outs[k]? = some x) := Lib.hid fun k hk => by
    obtain ⟨b, off, h1, -, h2, h3⟩ := out_at h.o hk
    exact ⟨b, off, _, h1, h2, h3, List.getElem?_eq_getElem hk⟩
  have HIS := Lib.hid h0.is; have HOS := Lib.hid h0.os; have HK0 := Lib.hid hk0
  obtain ⟨ver, iA, ins, ic, oA, outs, oc, lock⟩ := t
  simp only at *
  clear h h0 hk0
  obtain ⟨n, hn⟩ : ∃ n, ins.length = n := ⟨_, rfl⟩
  obtain ⟨m, hm⟩ : ∃ m, outs.length = m := ⟨_, rfl⟩
  rw [hn] at HI hi ⊢
  rw [hm] at HO ho ⊢
  have HNN := Lib.hid hn; have HMM := Lib.hid hm
  clear hn hm
  obtain ⟨zs, hz1, hz2, hz3⟩ := zin_letter0
  go_enter Tryd.func49, Tryd.ntmps49
  go_upto_region 2 with fail
  obtain ⟨w1, hw1⟩ : ∃ w1, w1 = ((w.alloc (.cells #[u32v ver, .slice iA n ic, .slice oA m oc, u32v lock] 48)).alloc (.cells #[.int .u32 0, .slice none 0 0, .slice none 0 0, .int .u32 0] 61)).alloc (.cells #[u32v ver, .slice none 0 0, .slice none 0 0, u32v lock] 61) := ⟨_, rfl⟩
  have HT1 : Hid (Blk w1 w.heap.size 48 [u32v ver, .slice iA n ic, .slice oA m oc, u32v lock]) := by rw [hw1]; exact Lib.hid (((Blk.new w 48 [u32v ver, .slice iA n ic, .slice oA m oc, u32v lock]).alloc _).alloc _)
  have HR1 : Hid (Blk w1 (w.heap.size + 1) 61 [.int .u32 0, .slice none 0 0, .slice none 0 0, .int .u32 0]) := by
    rw [hw1]
    have q := (Blk.new (w.alloc (.cells #[u32v ver, .slice iA n ic, .slice oA m oc, u32v lock] 48)) 61 [.int .u32 0, .slice none 0 0, .slice none 0 0, .int .u32 0]).alloc (.cells #[u32v ver, .slice none 0 0, .slice none 0 0, u32v lock] 61)
    rw [World.size_alloc] at q
    exact Lib.hid q
  have HX1 : Hid (Blk w1 (w.heap.size + 1 + 1) 61 [u32v ver, .slice none 0 0, .slice none 0 0, u32v lock]) := by
    rw [hw1]
    have q := Blk.new ((w.alloc (.cells #[u32v ver, .slice iA n ic, .slice oA m oc, u32v lock] 48)).alloc (.cells #[.int .u32 0, .slice none 0 0, .slice none 0 0, .int .u32 0] 61)) 61 [u32v ver, .slice none 0 0, .slice none 0 0, u32v lock]
    rw [World.size_alloc, World.size_alloc] at q
    exact Lib.hid q
  have HK1 : Hid (Keep w w1) := by rw [hw1]; exact Lib.hid (keep_trans (keep_new _ _) (keep_trans (keep_new _ _) (keep_new _ _)))
  rw [← hw1]
  clear hw1
  have C1 : Hid (([u32v ver, .slice iA n ic, .slice oA m oc, u32v lock] : List Value)[1]? = some (.slice iA n ic)) := Lib.hid rfl
  have C2 : Hid (([u32v ver, .slice iA n ic, .slice oA m oc, u32v lock] : List Value)[2]? = some (.slice oA m oc)) := Lib.hid rfl
  generalize ([u32v ver, .slice iA n ic, .slice oA m oc, u32v lock] : List Value) = TB at HT1 C1 C2
  have hgt : w.heap.size + 1 + 1 < w1.heap.size := HX1.out.lt
  go_upto_block 0 with fail
  have HB1 := Lib.hid (Nat.le_refl w1.heap.size)
  obtain ⟨wb, hwb⟩ : ∃ wb, w1 = wb := ⟨_, rfl⟩
  have Own0 : Hid (w1.ownsRow wb.heap.size 119 35 (.slice none 0 0) 0 ((ins.take 0).flatMap InR.cells)) := Lib.hid (World.ownsRow_nil _ _ _ _)
  rw [hwb] at HT1 HR1 HX1 HK1 Own0 hgt ⊢
  clear hwb HB1
  go_cut [] (fun wx => ∃ vi : Value, Hid (Blk wx (w.heap.size + 1 + 1) 61 [u32v ver, vi, .slice none 0 0, u32v lock]) ∧ Hid (wx.ownsRow wb.heap.size 119 35 vi n (ins.flatMap InR.cells)) ∧ Hid (Blk wx w.heap.size 48 TB) ∧ Hid (Blk wx (w.heap.size + 1) 61 [.int .u32 0, .slice none 0 0, .slice none 0 0, .int .u32 0]) ∧ Hid (Keep w wx) ∧ Hid (wb.heap.size ≤ wx.heap.size))
  case first =>
    go_wp2_with fail
    go_loopw [4] (fun x wr => ∃ (k : Nat) (vi : Value), k ≤ n ∧ x = .int .i64 k ∧ Hid (Blk wr (w.heap.size + 1 + 1) 61 [u32v ver, vi, .slice none 0 0, u32v lock]) ∧ Hid (wr.ownsRow wb.heap.size 119 35 vi k ((ins.take k).flatMap InR.cells)) ∧ Hid (Blk wr w.heap.size 48 TB) ∧ Hid (Blk wr (w.heap.size + 1) 61 [.int .u32 0, .slice none 0 0, .slice none 0 0, .int .u32 0]) ∧ Hid (Keep w wr) ∧ Hid (wb.heap.size ≤ wr.heap.size)) (fun x _ => n - (intOf x).toNat)
    case atStart => exact ⟨0, .slice none 0 0, Nat.zero_le _, rfl, HX1, Own0, HT1, HR1, HK1, Lib.hid (Nat.le_refl _)⟩
    case round =>
      obtain ⟨k, vi, hk, rfl, HX, Own, HT, HR, HK, HS⟩ := hrel
      clear Own0 HX1 HT1 HR1 HK1
      have t1 := (HT.out.cell 1).trans C1.out
      by_cases hlt : k < n
      · obtain ⟨b, off, xs, x, rfl, hxs, hp, hrg, hget⟩ := HI.out k hlt
        have hxz := hxs.z; have hxn := hxs.n; have hxi := hxs.i
        have RX : Hid (wr.rangeAt b (off + k * 35) xs.toList) := Lib.hid fun j v hv => keep_cell HK.out (hrg j v hv)
        have hst : (storeCells ⟨wr.heap.size, 0, none⟩ xs.toList 0).run Tryd.prog (wr.alloc (.cells zs 127)) = .ok () (wr.alloc (.cells xs 127)) := run_storeCells_new (P := Tryd.prog) wr 127 zs xs hxi (hz1.trans hxz.symm) (by have := all_oneCell_toArray hxs.o; rwa [Array.toArray_toList] at this)
        have d4 : (k : Int) < n := by omega
        have HXS := Lib.hid hxs; have HP := Lib.hid hp
        have HGE := Lib.hid hget
        clear hxs hrg hget hp HI
        go_upto_region 6 with ((with_reducible refine load_partg b (off + k * 35) xs (Eq.trans ?_ rfl) RX.out _ Tryd.underlying127 rfl hxi rfl ?_); rfl)
        obtain ⟨w2, hw2⟩ : ∃ w2, w2 = wr.alloc (.cells xs 127) := ⟨_, rfl⟩
        have HG2 : Hid (Blk w2 wr.heap.size 127 xs.toList) := by rw [hw2]; exact Lib.hid (Blk.new wr _ xs.toList)
        have HX2 : Hid (Blk w2 (w.heap.size + 1 + 1) 61 [u32v ver, vi, .slice none 0 0, u32v lock]) := by rw [hw2]; exact Lib.hid (HX.out.alloc _)
        have HT2 : Hid (Blk w2 w.heap.size 48 TB) := by rw [hw2]; exact Lib.hid (HT.out.alloc _)
        have HR2 : Hid (Blk w2 (w.heap.size + 1) 61 [.int .u32 0, .slice none 0 0, .slice none 0 0, .int .u32 0]) := by rw [hw2]; exact Lib.hid (HR.out.alloc _)
        have Own2 : Hid (w2.ownsRow wb.heap.size 119 35 vi k ((ins.take k).flatMap InR.cells)) := by rw [hw2]; exact Lib.hid (Own.out.alloc _)
        have HK2 : Hid (Keep w w2) := by rw [hw2]; exact Lib.hid (keep_trans HK.out (keep_new _ _))
        have HS2 : Hid (wb.heap.size ≤ w2.heap.size) := by rw [hw2]; exact Lib.hid (by have := HS.out; simp; omega)
        rw [← hw2]
        clear hw2 hst RX HX HT HR Own HK HS t1
        generalize wr.heap.size = gx at *
        obtain ⟨ss, hss⟩ : ∃ ss, HashA x.prev ss := ⟨_, HashA.of HP.out⟩
        have hsn := hss.n; have hsz := hss.z; have hsi := hss.i
        have HSS := Lib.hid hss
        have hsl : xs.toList = ss.toList ++ [u32v x.ix, .slice x.A x.sc.length x.cap, u32v x.seq] := by rw [HXS.out.l, HSS.out.l]; rfl
        have hsll : ss.toList.length = 32 := by rw [Array.length_toList]; exact hsz
        have RS : Hid (w2.rangeAt gx 0 ss.toList) := Lib.hid (range_of HG2.out 0 ss.toList (by rw [hsl, List.drop_zero, List.take_left' rfl]))
        have x32 : w2.cell? ⟨gx, 32, none⟩ = some (u32v x.ix) := by rw [HG2.out.cell, hsl, List.getElem?_append_right (by omega), hsll]; rfl
        have x33 : w2.cell? ⟨gx, 33, none⟩ = some (.slice x.A x.sc.length x.cap) := by rw [HG2.out.cell, hsl, List.getElem?_append_right (by omega), hsll]; rfl
        have x34 : w2.cell? ⟨gx, 34, none⟩ = some (u32v x.seq) := by rw [HG2.out.cell, hsl, List.getElem?_append_right (by omega), hsll]; rfl
        obtain ⟨es, hes⟩ : ∃ es : Array Value, es = (x.prev.map u8v ++ [u32v x.ix, .slice x.A x.sc.length x.cap, u32v x.seq]).toArray := ⟨_, rfl⟩
        have HBu : Hid (Tryd.prog.built 119 [(0, .agg ss), (1, u32v x.ix), (2, .slice x.A x.sc.length x.cap), (3, u32v x.seq)] = some es) := Lib.hid (by rw [hes]; exact rin_built _ _ _ _ _ _ _ HP.out HSS.out)
        have hel : es.toList = x.cells := by rw [hes]; rfl
        have hez : es.size = 35 := by rw [hes]; simp [HP.out]
        have HEO : Hid (∀ v ∈ es.toList, v.oneCell' = true) := Lib.hid (by rw [hel]; exact x.one)
        have HEL := Lib.hid hel
        have y1 := HX2.out.cell 1
        simp only [List.getElem?_cons_succ, List.getElem?_cons_zero] at y1
        clear hss hes hel hsl hsll HXS HG2
        obtain ⟨Av, cv, rfl, -, -, -⟩ := own_form Own2.out
        go_wp2_with (first
          | ((with_reducible refine load_partg gx 0 ss (Eq.trans ?_ rfl) RS.out _ hash_under rfl hsi rfl ?_); rfl)
          | ((with_reducible refine list_bldg [(0, .agg ss), (1, u32v x.ix), (2, .slice x.A x.sc.length x.cap), (3, u32v x.seq)] es (Eq.trans ?_ rfl) HBu.out (Eq.trans ?_ rfl) ?_); rfl; rfl)
          | ((with_reducible refine list_build1h rinT es hez (by omega) (Eq.trans ?_ rfl) ?_); rfl)
          | (at_builtin; refine wpList_app rinT (by rfl) _ _ (by rfl) wb.heap.size _ k _ (by rfl) (Own2.out.alloc _) _ 1 1 es.toList (by rfl) (by rw [Array.length_toList, hez]) (by simpa using Rd.new w2 es.toList 119) HEO.out (by omega) (by unfold maxLen; omega) (by have := HS2.out; simp; omega) ?_; intro v3 w3 own3 hg3 hat3; obtain ⟨Aw, cw, rfl, -, -, -⟩ := own_form own3; have HX3 := Lib.hid ((HX2.out.alloc (.cells es 119)).grown hg3 (fun q => by have := (Own2.out.lt _ q).1; omega)); have HT3 := Lib.hid ((HT2.out.alloc (.cells es 119)).grown hg3 (fun q => by have := (Own2.out.lt _ q).1; omega)); have HR3 := Lib.hid ((HR2.out.alloc (.cells es 119)).grown hg3 (fun q => by have := (Own2.out.lt _ q).1; omega)); have y3 := HX3.out.cell 1; have f3 := HX3.out.frozen 1; simp only [List.getElem?_cons_succ, List.getElem?_cons_zero] at y3; have Own3 := Lib.hid own3; have HK3 : Hid (Keep w w3) := Lib.hid (keep_grown (keep_trans HK2.out (keep_new _ _)) (by have := HK2.out.size; simp; omega) hg3 (own_base (Own2.out.alloc (.cells es 119)) (by omega))); have HS3 : Hid (wb.heap.size ≤ w3.heap.size) := Lib.hid (by have := HS2.out; have := hg3.size; simp at this; omega); clear own3 hg3 hat3))
        obtain ⟨w4, hw4⟩ : ∃ w4, w4 = w3.setCell ⟨w.heap.size + 1 + 1, 1, none⟩ (.slice Aw (k + 1) cw) := ⟨_, rfl⟩
        have HX4 : Hid (Blk w4 (w.heap.size + 1 + 1) 61 [u32v ver, .slice Aw (k + 1) cw, .slice none 0 0, u32v lock]) := by rw [hw4]; exact Lib.hid (HX3.out.set_ 1 (.slice Aw (k + 1) cw))
        have HT4 : Hid (Blk w4 w.heap.size 48 TB) := by rw [hw4]; exact Lib.hid (HT3.out.far (by simp <;> omega) _)
        have HR4 : Hid (Blk w4 (w.heap.size + 1) 61 [.int .u32 0, .slice none 0 0, .slice none 0 0, .int .u32 0]) := by rw [hw4]; exact Lib.hid (HR3.out.far (by simp) _)
        have Own4 : Hid (w4.ownsRow wb.heap.size 119 35 (.slice Aw (k + 1) cw) (k + 1) ((ins.take (k + 1)).flatMap InR.cells)) := by
          rw [hw4]
          refine Lib.hid (own_eq (ownsRow_setCell_below Own3.out (a := ⟨w.heap.size + 1 + 1, 1, none⟩) (by omega) _) rfl ?_)
          rw [HEL.out, List.take_add_one, HGE.out, List.flatMap_append]; simp
        have HK4 : Hid (Keep w w4) := by rw [hw4]; exact Lib.hid (Below.setCell HK3.out (by simp <;> omega) _)
        have HS4 : Hid (wb.heap.size ≤ w4.heap.size) := by rw [hw4]; exact Lib.hid (by have := HS3.out; simpa using this)
        rw [← hw4]
        clear hw4 HX3 HT3 HR3 Own3 HK3 HS3 y3 f3 HX2 HT2 HR2 Own2 HK2 HS2 RS x32 x33 x34 y1 HBu HEO HEL HGE HSS HP
        go_roundw
        case rel => exact ⟨k + 1, _, by omega, by go_num, HX4, Own4, HT4, HR4, HK4, HS4⟩
        case measure => simp [intOf]; omega
      · obtain rfl : k = n := by omega
        have d4 : ¬ (k : Int) < k := by omega
        have OwnF : Hid (wr.ownsRow wb.heap.size 119 35 vi k (ins.flatMap InR.cells)) := Lib.hid (own_eq Own.out rfl (by rw [List.take_of_length_le (by rw [HNN.out]; omega)]))
        clear HI Own
        go_wp2
        go_meet
        exact ⟨vi, HX, OwnF, HT, HR, HK, HS⟩
  case rest =>
    obtain ⟨vi, HX5, OwnI, HT5, HR5, HK5, HS5⟩ := hcut
    clear HX1 HT1 HR1 HK1 Own0 C1 HI
    obtain ⟨Avi, cvi, rfl, hcv1, hcv2, -⟩ := own_form OwnI.out
    have hg5 := HX5.out.lt
    go_wp2_with fail
    have OwnO : Hid (wc.ownsRow wc.heap.size 121 2 (.slice none 0 0) 0 ((outs.take 0).flatMap OutR.cells)) := Lib.hid (World.ownsRow_nil _ _ _ _)
    have KX5 : Hid (KeepX (fun k => k = w.heap.size + 1 + 1) wc wc) := Lib.hid (KeepX.of (Below.refl _ _))
    go_loopw [6] (fun x wr => ∃ (j : Nat) (vo : Value), j ≤ m ∧ x = .int .i64 j ∧ Hid (Blk wr (w.heap.size + 1 + 1) 61 [u32v ver, .slice Avi n cvi, vo, u32v lock]) ∧ Hid (wr.ownsRow wc.heap.size 121 2 vo j ((outs.take j).flatMap OutR.cells)) ∧ Hid (Blk wr w.heap.size 48 TB) ∧ Hid (Blk wr (w.heap.size + 1) 61 [.int .u32 0, .slice none 0 0, .slice none 0 0, .int .u32 0]) ∧ Hid (Keep w wr) ∧ Hid (KeepX (fun k => k = w.heap.size + 1 + 1) wc wr)) (fun x _ => m - (intOf x).toNat)
    case atStart => exact ⟨0, .slice none 0 0, Nat.zero_le _, rfl, HX5, OwnO, HT5, HR5, HK5, KX5⟩
    case round =>
      obtain ⟨j, vo, hj, rfl, HX, Own, HT, HR, HK, KX⟩ := hrel
      clear OwnO KX5 HX5 HT5 HR5 HK5
      have t2 := (HT.out.cell 2).trans C2.out
      by_cases hlt : j < m
      · obtain ⟨b, off, x, rfl, c0, c1, hget⟩ := HO.out j hlt
        have hbl : b < w.heap.size := cell_lt c0
        have c0 := keep_cell HK.out c0; have c1 := keep_cell HK.out c1
        have d4 : (j : Int) < m := by omega
        have HGE := Lib.hid hget
        clear hget HO
        obtain ⟨Av, cv, rfl, -, -, -⟩ := own_form Own.out
        go_upto_region 10 with fail
        letI iM : G.Mk := ⟨(Value.slice Av j cv).ownBlock⟩
        refine G.wp_region_tree (.take [0,1,2,3,4,5,6,7,8,9,10,11,12,13,14] (.force [15,16] .done)) [17,18] (by kernel_rfl) (by kernel_rfl) (fun w8 k8 => ?_)
        have HX8 := Lib.hid (HX.out.keep k8); have Own8 := Lib.hid (own_keep Own.out k8); have HT8 := Lib.hid (HT.out.keep k8); have HR8 := Lib.hid (HR.out.keep k8); have HK8 := Lib.hid (keep_trans HK.out k8)
        have KX8 : Hid (KeepX (fun k => k = w.heap.size + 1 + 1) wc w8) := Lib.hid (KX.out.trans (KeepX.of k8) fun _ _ q => q)
        have c0 := keep_cell k8 c0; have c1 := keep_cell k8 c1
        clear k8 HX Own HT HR HK KX t2
        have hneX : G.Mk.m ≠ some (w.heap.size + 1 + 1) := fun q => by have := (Own8.out.lt _ q).1; omega
        have hneT : G.Mk.m ≠ some w.heap.size := fun q => by have := (Own8.out.lt _ q).1; omega
        have hneB : G.Mk.m ≠ some b := fun q => by have := (Own8.out.lt _ q).1; omega
        have b0 := G.aftG_cell (HX8.out.cell 2) hneX
        have b1 := G.aftG_cell ((HT8.out.cell 2).trans C2.out) hneT
        have b2 := G.aftG_cell c0 hneB; have b3 := G.aftG_cell c1 hneB
        try simp only [List.getElem?_cons_succ, List.getElem?_cons_zero] at b0
        refine G.mt_take w8 (G.Gr.refl _) ?_
        simp only [pick_cons, pick_nil, nth_zero, nth_succ]
        repeat (go_big_quiet_step (fail))
        refine wpQuiet_nil (G.mt_force ?_)
        clear b0 b1 b2 b3 hneX hneT hneB c0 c1
        simp only [pick_cons, pick_nil, nth_zero, nth_succ]
        refine G.fc_step rfl (fun K hK => ?_)
        go_simp
        refine hK _ _ (G.Gr.of_keep (keep_new _ _)) ?_
        clear hK K
        obtain ⟨w9, hw9⟩ : ∃ w9, w9 = w8.alloc (.cells #[u64v x.val, .slice x.A x.sc.length x.cap] 121) := ⟨_, rfl⟩
        have HL9 : Hid (Rd w9 (some ⟨w8.heap.size, 0, none⟩) [u64v x.val, .slice x.A x.sc.length x.cap]) := by rw [hw9]; exact Lib.hid (Rd.new w8 [u64v x.val, .slice x.A x.sc.length x.cap] 121)
        have k9 : Keep w8 w9 := by rw [hw9]; exact keep_new _ _
        rw [← hw9]
        have HX9 := Lib.hid (HX8.out.keep k9); have Own9 := Lib.hid (own_keep Own8.out k9); have HT9 := Lib.hid (HT8.out.keep k9); have HR9 := Lib.hid (HR8.out.keep k9); have HK9 := Lib.hid (keep_trans HK8.out k9)
        have KX9 : Hid (KeepX (fun k => k = w.heap.size + 1 + 1) wc w9) := Lib.hid (KX8.out.trans (KeepX.of k9) fun _ _ q => q)
        clear hw9 k9 HX8 Own8 HT8 HR8 HK8 KX8
        have hs9 := KX9.out.2.2.2.1
        refine G.fc_step rfl (fun K hK => ?_)
        refine wp_app routT _ _ (by rfl) wc.heap.size _ j _ (by rfl) Own9.out _ 1 1 [u64v x.val, .slice x.A x.sc.length x.cap] (by rfl) (by rfl) HL9.out (by intro u hu; simp at hu; rcases hu with rfl | rfl <;> rfl) (by omega) (by unfold maxLen; omega) hs9 ?_
        intro v' wq ownq hgq hatq
        refine hK _ _ hgq ?_
        clear hK K HL9
        simp only [Act.put, Array.set!_eq_setIfInBounds, List.setIfInBounds_toArray, List.set_cons_succ, List.set_cons_zero]
        have HXq := Lib.hid (HX9.out.grown hgq (fun q => by have := (Own9.out.lt _ q).1; omega))
        have HTq := Lib.hid (HT9.out.grown hgq (fun q => by have := (Own9.out.lt _ q).1; omega))
        have HRq := Lib.hid (HR9.out.grown hgq (fun q => by have := (Own9.out.lt _ q).1; omega))
        have HKq : Hid (Keep w wq) := Lib.hid (keep_grown HK9.out HK9.out.size hgq (own_base Own9.out (by omega)))
        have KXq : Hid (KeepX (fun k => k = w.heap.size + 1 + 1) wc wq) := Lib.hid (KX9.out.grown hgq (fun i hi q => by have := (Own9.out.lt _ q).1; omega))
        have Ownq := Lib.hid ownq
        clear ownq hgq hatq HX9 HT9 HR9 HK9 KX9 Own9 hs9
        obtain ⟨Aw, cw, rfl, -, -, -⟩ := own_form Ownq.out
        have y3 := HXq.out.cell 2; have f3 := HXq.out.frozen 2
        simp only [List.getElem?_cons_succ, List.getElem?_cons_zero] at y3
        refine G.fc_nil (G.mt_end ?_)
        clear iM
        go_wp2
        obtain ⟨w4, hw4⟩ : ∃ w4, w4 = wq.setCell ⟨w.heap.size + 1 + 1, 2, none⟩ (.slice Aw (j + 1) cw) := ⟨_, rfl⟩
        have HX4 : Hid (Blk w4 (w.heap.size + 1 + 1) 61 [u32v ver, .slice Avi n cvi, .slice Aw (j + 1) cw, u32v lock]) := by rw [hw4]; exact Lib.hid (HXq.out.set_ 2 (.slice Aw (j + 1) cw))
        have HT4 : Hid (Blk w4 w.heap.size 48 TB) := by rw [hw4]; exact Lib.hid (HTq.out.far (by simp <;> omega) _)
        have HR4 : Hid (Blk w4 (w.heap.size + 1) 61 [.int .u32 0, .slice none 0 0, .slice none 0 0, .int .u32 0]) := by rw [hw4]; exact Lib.hid (HRq.out.far (by simp) _)
        have Own4 : Hid (w4.ownsRow wc.heap.size 121 2 (.slice Aw (j + 1) cw) (j + 1) ((outs.take (j + 1)).flatMap OutR.cells)) := by
          rw [hw4]
          refine Lib.hid (own_eq (ownsRow_setCell_below Ownq.out (a := ⟨w.heap.size + 1 + 1, 2, none⟩) (by omega) _) rfl ?_)
          rw [List.take_add_one, HGE.out, List.flatMap_append]; simp [OutR.cells]
        have HK4 : Hid (Keep w w4) := by rw [hw4]; exact Lib.hid (Below.setCell HKq.out (by simp <;> omega) _)
        have KX4 : Hid (KeepX (fun k => k = w.heap.size + 1 + 1) wc w4) := by rw [hw4]; exact Lib.hid (KeepB.set KXq.out 2 _)
        rw [← hw4]
        clear hw4 HXq HTq HRq Ownq HKq KXq y3 f3 HGE
        go_roundw
        case rel => exact ⟨j + 1, _, by omega, by go_num, HX4, Own4, HT4, HR4, HK4, KX4⟩
        case measure => simp [intOf]; omega
      · obtain rfl : j = m := by omega
        have d4 : ¬ (j : Int) < j := by omega
        have OwnF : Hid (wr.ownsRow wc.heap.size 121 2 vo j (outs.flatMap OutR.cells)) := Lib.hid (own_eq Own.out rfl (by rw [List.take_of_length_le (by rw [HMM.out]; omega)]))
        clear HO Own
        obtain ⟨Avo, cvo, rfl, hco1, hco2, -⟩ := own_form OwnF.out
        have OwnJ := Lib.hid (own_kx OwnI.out KX.out (fun g q e => by have := (OwnI.out.lt g q).1; omega))
        have x0 := HX.out.cell 0; have x1 := HX.out.cell 1; have x2 := HX.out.cell 2; have x3 := HX.out.cell 3
        have z0 := HR.out.cell 0; have z1 := HR.out.cell 1; have z2 := HR.out.cell 2; have z3 := HR.out.cell 3
        have f0 := HR.out.frozen 0; have f1 := HR.out.frozen 1; have f2 := HR.out.frozen 2; have f3 := HR.out.frozen 3
        simp only [List.getElem?_cons_succ, List.getElem?_cons_zero] at x0 x1 x2 x3 z0 z1 z2 z3
        go_wp2
        have HRF := ((((HR.out.set_ 0 (u32v ver)).set_ 1 (.slice Avi n cvi)).set_ 2 (.slice Avo j cvo)).set_ 3 (u32v lock))
        have KF := KeepB.set (KeepB.set (KeepB.set (KeepB.set (S := w.heap.size + 1) (KeepX.of (Below.refl wr.heap.size wr)) 0 (u32v ver)) 1 (.slice Avi n cvi)) 2 (.slice Avo j cvo)) 3 (u32v lock)
        have KW := Below.setCell (Below.setCell (Below.setCell (Below.setCell HK.out (p := ⟨w.heap.size + 1, 0, none⟩) (by simp) (u32v ver)) (p := ⟨w.heap.size + 1, 1, none⟩) (by simp) (.slice Avi n cvi)) (p := ⟨w.heap.size + 1, 2, none⟩) (by simp) (.slice Avo j cvo)) (p := ⟨w.heap.size + 1, 3, none⟩) (by simp) (u32v lock)
        have o1 := own_kx OwnJ.out KF (fun g q e => by have := (OwnJ.out.lt g q).1; omega)
        have o2 := own_kx OwnF.out KF (fun g q e => by have := (OwnF.out.lt g q).1; omega)
        exact bodyPost_ret (v := .agg #[u32v ver, .slice Avi n cvi, .slice Avo j cvo, u32v lock]) (results_cell_row Tryd.results49 _ _ (w.heap.size + 1) _ _ _ _ rfl HRF Tryd.underlying61 rfl (by kernel_rfl)) rfl
          ⟨Avi, cvi, Avo, cvo, rfl, fun W hm => ⟨own_mid o1 (by omega) hm, own_mid o2 (by omega) hm, ⟨by rw [HNN.out]; exact hcv1, hcv2⟩, ⟨by rw [HMM.out]; exact hco1, hco2⟩, fun x hx => (HIS.out x hx).keep hm.1, fun x hx => (HOS.out x hx).keep hm.1⟩, KW⟩
end Go.Proofs.YtffpanlpbdnafaaDoor

/- message, plainly: a message of one type as one of the other. (printed by gen_pe.py) -/
set_option linter.unusedSimpArgs false
set_option linter.unusedVariables false
namespace Go.Proofs.YtffpanlpbdnafaaDoor
open Go.RowKit
attribute [local go_sem ↓] Go.wp_at_zero Go.wp_at_succ
theorem rmsg_info : (Tryd.prog.info? 63).map (·.size) = some 114 := by kernel_rfl
structure MsB (m : MsgR) (cs : Array Value) : Prop where
  l : cs.toList = m.cells
  z : cs.size = 114
  i : (Tryd.prog.info? 63).map (·.size) = some cs.size
  n : ¬ cs = #[]
  o : ∀ v ∈ cs.toList, v.oneCell' = true
theorem MsB.of {m : MsgR} (h : m.ok) : MsB m m.cells.toArray := by
  have hz : m.cells.toArray.size = 114 := by simpa using MsgR.len h
  exact ⟨rfl, hz, by rw [hz]; exact rmsg_info, fun e => by rw [e] at hz; simp at hz, by simpa using m.one⟩
noncomputable def zrmsg : Array Value := match (Tryd.prog.info? 63).bind (·.zero) with | some (.agg c) => c | _ => #[]
theorem zrmsg_zero (w : World) : (zeroValue 63).run Tryd.prog w = .ok (.agg zrmsg) w := by kernel_rfl
theorem zrmsg_list : zrmsg.toList = (msgZ 0).cells := by kernel_rfl
theorem zrmsg_letter : ∃ zs : Array Value, (∀ w, (zeroValue 63).run Tryd.prog w = .ok (.agg zs) w) ∧ MsB (msgZ 0) zs :=
  ⟨zrmsg, zrmsg_zero, by
    have h := MsB.of (msgZ_ok 0 (by omega))
    rwa [← zrmsg_list, Array.toArray_toList] at h⟩
def bareM (m : MsgR) (t : TxR) : MsgR := { m with iA := none, is := [], ic := 0, bh := zHdr, total := 0, sA := none, shs := [], sc := 0, fA := none, fs := [], fc := 0, t := t }
section
variable (m : MsgR) (t : TxR) (ss : Array Value) (hl : m.stop.length = 32) (hd : HashA m.stop ss)
include hl hd
theorem msgm_built : Tryd.prog.built 50 [(0, .int .i64 m.kind), (1, u32v m.proto), (2, u64v m.nonce), (3, u32v m.height), (4, .slice m.hA m.hs.length m.hc), (5, .slice m.lA m.ls.length m.lc), (6, .agg ss), (9, .agg #[u32v t.ver, .slice t.iA t.ins.length t.ic, .slice t.oA t.outs.length t.oc, u32v t.lock])] = some (bareM m t).cells.toArray := by
  obtain rfl := hd.e
  obtain ⟨k, p, n, h, hA, hs, hc, lA, ls, lc, stop, iA, is, ic, bh, total, sA, shs, sc, fA, fs, fc, t0⟩ := m
  obtain ⟨a0, a1, a2, a3, a4, a5, a6, a7, a8, a9, b0, b1, b2, b3, b4, b5, b6, b7, b8, b9, c0, c1, c2, c3, c4, c5, c6, c7, c8, c9, d0, d1, e⟩ := list32b hl
  simp only at e
  subst e
  show _ = _
  kernel_rfl
theorem rmsgm_built : Tryd.prog.built 63 [(0, .int .i64 m.kind), (1, u32v m.proto), (2, u64v m.nonce), (3, u32v m.height), (4, .slice m.hA m.hs.length m.hc), (5, .slice m.lA m.ls.length m.lc), (6, .agg ss), (9, .agg #[u32v t.ver, .slice t.iA t.ins.length t.ic, .slice t.oA t.outs.length t.oc, u32v t.lock])] = some (bareM m t).cells.toArray := by
  obtain rfl := hd.e
  obtain ⟨k, p, n, h, hA, hs, hc, lA, ls, lc, stop, iA, is, ic, bh, total, sA, shs, sc, fA, fs, fc, t0⟩ := m
  obtain ⟨a0, a1, a2, a3, a4, a5, a6, a7, a8, a9, b0, b1, b2, b3, b4, b5, b6, b7, b8, b9, c0, c1, c2, c3, c4, c5, c6, c7, c8, c9, d0, d1, e⟩ := list32b hl
  simp only at e
  subst e
  show _ = _
  kernel_rfl
end
theorem blk_built (m : MsgR) (hb : m.bh.ok) (hv : Array Value) (hh : HdA m.bh hv) : Tryd.prog.built 44 [(0, .agg hv), (1, u32v m.total), (2, .slice m.sA m.shs.length m.sc), (3, .slice m.fA m.fs.length m.fc)] = some m.blk.toArray := by
  have e : hv = m.bh.cells.toArray := by rw [← hh.l, Array.toArray_toList]
  subst e
  obtain ⟨k, p, n, h, hA, hs, hc, lA, ls, lc, stop, iA, is, ic, ⟨v0, pr, rt, ti, bi, no⟩, total, sA, shs, sc, fA, fs, fc, t0⟩ := m
  obtain ⟨a0, a1, a2, a3, a4, a5, a6, a7, a8, a9, b0, b1, b2, b3, b4, b5, b6, b7, b8, b9, c0, c1, c2, c3, c4, c5, c6, c7, c8, c9, d0, d1, e1⟩ := list32b hb.1
  obtain ⟨A0, A1, A2, A3, A4, A5, A6, A7, A8, A9, B0, B1, B2, B3, B4, B5, B6, B7, B8, B9, C0, C1, C2, C3, C4, C5, C6, C7, C8, C9, D0, D1, e2⟩ := list32b hb.2
  simp only at e1 e2
  subst e1 e2
  show _ = _
  kernel_rfl
theorem rblk_built (m : MsgR) (hb : m.bh.ok) (hv : Array Value) (hh : HdA m.bh hv) : Tryd.prog.built 57 [(0, .agg hv), (1, u32v m.total), (2, .slice m.sA m.shs.length m.sc), (3, .slice m.fA m.fs.length m.fc)] = some m.blk.toArray := by
  have e : hv = m.bh.cells.toArray := by rw [← hh.l, Array.toArray_toList]
  subst e
  obtain ⟨k, p, n, h, hA, hs, hc, lA, ls, lc, stop, iA, is, ic, ⟨v0, pr, rt, ti, bi, no⟩, total, sA, shs, sc, fA, fs, fc, t0⟩ := m
  obtain ⟨a0, a1, a2, a3, a4, a5, a6, a7, a8, a9, b0, b1, b2, b3, b4, b5, b6, b7, b8, b9, c0, c1, c2, c3, c4, c5, c6, c7, c8, c9, d0, d1, e1⟩ := list32b hb.1
  obtain ⟨A0, A1, A2, A3, A4, A5, A6, A7, A8, A9, B0, B1, B2, B3, B4, B5, B6, B7, B8, B9, C0, C1, C2, C3, C4, C5, C6, C7, C8, C9, D0, D1, e2⟩ := list32b hb.2
  simp only at e1 e2
  subst e1 e2
  show _ = _
  kernel_rfl
theorem ritem_built (t : UInt32) (l : List UInt8) (ds : Array Value) (hl : l.length = 32) (hd : HashA l ds) : Tryd.prog.built 97 [(0, u32v t), (1, .agg ds)] = some (Itm.cells ⟨t, l⟩).toArray := by
  obtain rfl := hd.e
  obtain ⟨a0, a1, a2, a3, a4, a5, a6, a7, a8, a9, b0, b1, b2, b3, b4, b5, b6, b7, b8, b9, c0, c1, c2, c3, c4, c5, c6, c7, c8, c9, d0, d1, rfl⟩ := list32b hl
  show _ = _
  kernel_rfl
noncomputable def zritem : Array Value := match (Tryd.prog.info? 97).bind (·.zero) with | some (.agg c) => c | _ => #[]
theorem zritem_size : zritem.size = 33 := by kernel_rfl
set_option maxRecDepth 100000 in
theorem ritemT : ElT Tryd.prog 56 97 (Value.agg zritem) 33 36 := ElT.mk' Tryd.underlying56 (by kernel_rfl) zritem_size (by omega)
theorem at_carry {w y y' : World} {a b : Nat} {P : World → Prop} (h : ∀ W, Keep w W → (∀ k, a ≤ k → k < b → W.heap[k]? = y.heap[k]?) → P W) (hk : Keep y y') (hb : b ≤ y.heap.size) : ∀ W, Keep w W → (∀ k, a ≤ k → k < b → W.heap[k]? = y'.heap[k]?) → P W :=
  fun W h1 h2 => h W h1 fun k ha hb' => (h2 k ha hb').trans (hk.block k (Nat.lt_of_lt_of_le hb' hb))
theorem keep_size_w {a b : World} (h : Keep a b) : a.heap.size ≤ b.heap.size := h.size
theorem range_keep {w w' : World} (k : Keep w w') {g off : Nat} {cs : List Value} (h : w.rangeAt g off cs) : w'.rangeAt g off cs := fun j v hv => keep_cell k (h j v hv)
theorem wpQuiet_buildm {P : Program} {S : World → Prop} {ops : Array Oper} {rest : List Oper} {a : Act} {Q : Act → Prop} {parts : Array (Nat × Operand)} {dst : Option Tmp} {t ty' : TypeId} {pos : String} {af : Array Edge}
    (ps : List (Nat × Value)) (cells : Array Value) (hx : (parts.toList.map fun p => (p.1, a.eval p.2)) = ps) (hb : P.built t ps = some cells)
    (h : wpQuiet P ops S Q rest (a.put dst (.agg cells))) : wpQuiet P ops S Q ({ dst := dst, op := .build t parts, type := ty', pos := pos, after := af, guard := none } :: rest) a := by
  refine BigFrame.wpQuiet_want (by simp [Region.wanted]) fun K hK => ⟨.agg cells, fun w hw => ?_, hK _ h⟩
  have e : (parts.map fun (i, x) => (i, a.eval x)).toList = ps := by rw [Array.toList_map]; exact hx
  have hb2 : P.built t (parts.map fun (i, x) => (i, a.eval x)).toList = some cells := by rw [e]; exact hb
  unfold Oper.quietAt execOp
  simp only [Sem.run_bind, run_build w t _ cells hb2, Result.andThen_ok]
  exact ⟨rfl, rfl⟩
namespace G
theorem wpQuiet_load_partgG [MM : Mk] {P : Program} {w0 : World} {ops : Array Oper} {rest : List Oper} {a : Act} {Q : Act → Prop} {x : Operand} {dst : Option Tmp} {ty ty' : TypeId} {pos : String} {af : Array Edge}
    (g off : Nat) (cs : Array Value) (hx : a.eval x = .pointer (some ⟨g, off, none⟩)) (hr : w0.rangeAt g off cs.toList) (hne : MM.m ≠ some g) (d : TypeDesc) (hu : P.underlying ty = some d) (hd : d.isRow = true) (hi : (P.info? ty).map (·.size) = some cs.size)
    (h : wpQuiet P ops (fun w' => ∃ x, w' = aftG w0 x) Q rest (a.put dst (.agg cs))) :
    wpQuiet P ops (fun w' => ∃ x, w' = aftG w0 x) Q ({ dst := dst, op := .load ty x, type := ty', pos := pos, after := af, guard := none } :: rest) a := by
  refine BigFrame.wpQuiet_want (by simp [Region.wanted]) fun K hK => ⟨.agg cs, fun w hw => ?_, hK _ h⟩
  obtain ⟨y, rfl⟩ := hw
  unfold Oper.quietAt execOp
  have hl := run_loadVar_mid (P := P) (aftG w0 y) g off ty cs.toList d (fun j v hv => aftG_cell (hr j v hv) hne y) hu hd (by simpa using hi)
  simp only [hx, Instr.loadAt, Instr.sureAddr, Sem.run_bind, Sem.run_pure, Result.andThen_ok, hl, Array.toArray_toList]
  exact ⟨rfl, rfl⟩
end G
theorem item_parts {w : World} {A : Option Addr} {l : List Itm} (hr : Rd w A (l.flatMap Itm.cells)) (hk : ∀ x ∈ l, x.ok) {k : Nat} (h : k < l.length) :
    ∃ (b off : Nat) (x : Itm) (ss : Array Value), A = some ⟨b, off, none⟩ ∧ b < w.heap.size ∧ w.cell? ⟨b, off + k * 33, none⟩ = some (u32v x.ty) ∧ w.rangeAt b (off + k * 33 + 1) ss.toList ∧ HashA x.h ss ∧ x.ok ∧ l[k]? = some x := by
  obtain ⟨b, off, h1, h2, h3⟩ := item_at hr hk h
  have hok := hk _ (List.getElem_mem h)
  refine ⟨b, off, l[k], _, h1, h2, ?_, fun j v hv => ?_, HashA.of hok, hok, List.getElem?_eq_getElem h⟩
  · have q := h3 0 (u32v l[k].ty) rfl
    rwa [Nat.add_zero] at q
  · have q := h3 (j + 1) v (by unfold Itm.cells; rw [List.getElem?_cons_succ]; simpa using hv)
    rw [Nat.add_assoc, Nat.add_comm 1 j]; exact q
theorem bareM_ok {m : MsgR} (h : m.ok) (t : TxR) : (bareM m t).ok := ⟨h.k, h.n, h.s, ⟨rfl, rfl⟩, h.h, h.l, (fun x q => by cases q), fun x q => by cases q⟩
def withI (m : MsgR) (A : Option Addr) (l : List Itm) (c : Nat) : MsgR := { m with iA := A, is := l, ic := c }
theorem withI_ok {m : MsgR} (h : m.ok) {A : Option Addr} {l : List Itm} {c : Nat} (hl : ∀ x ∈ l, x.ok) : (withI m A l c).ok := ⟨h.k, h.n, h.s, h.b, h.h, h.l, hl, h.z⟩
theorem set38w {m : MsgR} (h : m.ok) (A : Option Addr) (l : List Itm) (n c : Nat) (hn : l.length = n) : m.cells.set 38 (.slice A n c) = (withI m A l c).cells := by
  subst hn; exact MsgR.set38s h A l c
set_option maxRecDepth 100000 in
set_option maxHeartbeats 4000000 in
theorem lmsg_any (m : MsgR) (cs : Array Value) (hA : MsB m cs) (w : World) (h : m.at_ w) (hi : m.t.ins.length ≤ 1000000) (ho : m.t.outs.length ≤ 1000000) (hit : m.is.length ≤ 1000000) :
    Calls Tryd.prog 15 #[.agg cs] w fun e w' => ∃ m' ds, e = .returned (.agg ds) ∧ MsA m' ds ∧ m'.pl = m.pl ∧ m'.at_ w' ∧ Keep w w' := by
  obtain ⟨zs, hz0, hzA⟩ := zmsg_letter
  have hzn := hzA.n; have hzz := hzA.z; have hzi := hzA.i
  have HZ := Lib.hid hzA
  have hcn := hA.n; have hcz := hA.z; have hci := hA.i
  have HA := Lib.hid hA; have HM := Lib.hid h; have HO := Lib.hid h.o
  obtain ⟨ss, hss⟩ : ∃ ss, HashA m.stop ss := ⟨_, HashA.of h.o.s⟩
  obtain ⟨hv, hhv⟩ : ∃ hv, HdA m.bh hv := ⟨_, HdA.of h.o.b⟩
  have hsn := hss.n; have hsz := hss.z; have hsi := hss.i
  have hvn := hhv.n; have hvz := hhv.z; have hvi := hhv.i
  have HSS := Lib.hid hss; have HHV := Lib.hid hhv
  have TT : Hid (∀ y, Keep w y → Calls Tryd.prog 33 #[.agg #[u32v m.t.ver, .slice m.t.iA m.t.ins.length m.t.ic, .slice m.t.oA m.t.outs.length m.t.oc, u32v m.t.lock]] y fun e w' => ∃ iA ic oA oc, e = .returned (.agg #[u32v m.t.ver, .slice iA m.t.ins.length ic, .slice oA m.t.outs.length oc, u32v m.t.lock]) ∧ (∀ W, Mid w y w' W → TxR.at ⟨m.t.ver, iA, m.t.ins, ic, oA, m.t.outs, oc, m.t.lock⟩ W) ∧ Keep y w') := Lib.hid fun y hy => ours_any m.t w y h.t hy hi ho
  have BU : Hid (∀ iA ic oA oc, Tryd.prog.built 50 [(0, .int .i64 m.kind), (1, u32v m.proto), (2, u64v m.nonce), (3, u32v m.height), (4, .slice m.hA m.hs.length m.hc), (5, .slice m.lA m.ls.length m.lc), (6, .agg ss), (9, .agg #[u32v m.t.ver, .slice iA m.t.ins.length ic, .slice oA m.t.outs.length oc, u32v m.t.lock])] = some (bareM m ⟨m.t.ver, iA, m.t.ins, ic, oA, m.t.outs, oc, m.t.lock⟩).cells.toArray) := Lib.hid fun iA ic oA oc => msgm_built m ⟨m.t.ver, iA, m.t.ins, ic, oA, m.t.outs, oc, m.t.lock⟩ ss h.o.s hss
  obtain ⟨bs, hbs⟩ : ∃ bs : Array Value, bs = m.blk.toArray := ⟨_, rfl⟩
  have BB : Hid (Tryd.prog.built 44 [(0, .agg hv), (1, u32v m.total), (2, .slice m.sA m.shs.length m.sc), (3, .slice m.fA m.fs.length m.fc)] = some bs) := Lib.hid (by rw [hbs]; exact blk_built m h.o.b hv hhv)
  have HBS : Hid (bs.toList = m.blk) := Lib.hid (by rw [hbs])
  have hbz : bs.size = 71 := by rw [hbs]; simpa using MsgR.blk_len h.o.b
  have hbi : (Tryd.prog.info? 44).map (·.size) = some bs.size := by rw [hbz]; kernel_rfl
  have hbn : ¬ bs = #[] := fun e => by rw [e] at hbz; simp at hbz
  clear hA h hss hhv hzA hi ho hbs
  go_enter Tryd.func15, Tryd.ntmps15
  go_upto_region 1 with fail
  obtain ⟨w1, hw1⟩ : ∃ w1, w1 = (w.alloc (.cells cs 63)).alloc (.cells zs 50) := ⟨_, rfl⟩
  have HB1 : Hid (Blk w1 w.heap.size 63 m.cells) := by rw [hw1, ← HA.out.l]; exact Lib.hid ((Blk.new w _ cs.toList).alloc _)
  have HR1 : Hid (Blk w1 (w.heap.size + 1) 50 zs.toList) := by
    rw [hw1]
    have h2 := Blk.new (w.alloc (.cells cs 63)) 50 zs.toList
    rw [World.size_alloc] at h2
    exact Lib.hid h2
  have HK1 : Hid (Keep w w1) := by rw [hw1]; exact Lib.hid (keep_trans (keep_new _ _) (keep_new _ _))
  rw [← hw1]
  clear hw1
  have hw1s := HR1.out.lt
  have RS : Hid (w1.rangeAt w.heap.size 6 ss.toList) := Lib.hid (range_of HB1.out 6 ss.toList (by
    rw [HSS.out.l, MsgR.cells6, List.drop_left' (show m.hd6.length = 6 from rfl), List.take_left' rfl]))
  have c0 : w1.cell? ⟨w.heap.size, 0, none⟩ = some (.int .i64 m.kind) := (HB1.out.cell 0).trans rfl
  have c1 : w1.cell? ⟨w.heap.size, 1, none⟩ = some (u32v m.proto) := (HB1.out.cell 1).trans rfl
  have c2 : w1.cell? ⟨w.heap.size, 2, none⟩ = some (u64v m.nonce) := (HB1.out.cell 2).trans rfl
  have c3 : w1.cell? ⟨w.heap.size, 3, none⟩ = some (u32v m.height) := (HB1.out.cell 3).trans rfl
  have c4 : w1.cell? ⟨w.heap.size, 4, none⟩ = some (.slice m.hA m.hs.length m.hc) := (HB1.out.cell 4).trans rfl
  have c5 : w1.cell? ⟨w.heap.size, 5, none⟩ = some (.slice m.lA m.ls.length m.lc) := (HB1.out.cell 5).trans rfl
  have t0 : w1.cell? ⟨w.heap.size, 110, none⟩ = some (u32v m.t.ver) := (HB1.out.cell 110).trans ((MsgR.tx_get HO.out 0).trans rfl)
  have t1 : w1.cell? ⟨w.heap.size, 111, none⟩ = some (.slice m.t.iA m.t.ins.length m.t.ic) := (HB1.out.cell 111).trans ((MsgR.tx_get HO.out 1).trans rfl)
  have t2 : w1.cell? ⟨w.heap.size, 112, none⟩ = some (.slice m.t.oA m.t.outs.length m.t.oc) := (HB1.out.cell 112).trans ((MsgR.tx_get HO.out 2).trans rfl)
  have t3 : w1.cell? ⟨w.heap.size, 113, none⟩ = some (u32v m.t.lock) := (HB1.out.cell 113).trans ((MsgR.tx_get HO.out 3).trans rfl)
  go_cut [3] (fun p wx => ∃ gx iA ic oA oc, p = .pointer (some ⟨gx, 0, none⟩) ∧ w1.heap.size ≤ gx ∧ Hid (Keep w1 wx) ∧ Hid (Blk wx gx 50 (bareM m ⟨m.t.ver, iA, m.t.ins, ic, oA, m.t.outs, oc, m.t.lock⟩).cells) ∧ Hid (∀ W, Keep w W → (∀ k, w1.heap.size ≤ k → k < wx.heap.size → k ≠ gx → W.heap[k]? = wx.heap[k]?) → TxR.at ⟨m.t.ver, iA, m.t.ins, ic, oA, m.t.outs, oc, m.t.lock⟩ W))
  case first =>
    refine wp_region_tree (.take [0,1,2,3,4,5,6,7,8,9,10,11,12,13,14,15] (.fork 16 (.take [17] (.force [18] .done)) 18 (.force [16] (.take [17] .done)))) [19] (by kernel_rfl) (by kernel_rfl) (fun y0 hk => ?_)
    have Q := Lib.hid hk
    clear hk
    refine mt_take y0 (Below.refl _ _) ?_
    simp only [pick_cons, pick_nil, nth_zero, nth_succ]
    have RS0 := Lib.hid (range_keep Q.out RS.out)
    have a0 := aft_cell (keep_cell Q.out c0); have a1 := aft_cell (keep_cell Q.out c1); have a2 := aft_cell (keep_cell Q.out c2); have a3 := aft_cell (keep_cell Q.out c3); have a4 := aft_cell (keep_cell Q.out c4); have a5 := aft_cell (keep_cell Q.out c5)
    have a6 := aft_cell (keep_cell Q.out t0); have a7 := aft_cell (keep_cell Q.out t1); have a8 := aft_cell (keep_cell Q.out t2); have a9 := aft_cell (keep_cell Q.out t3)
    clear c0 c1 c2 c3 c4 c5 t0 t1 t2 t3
    repeat (first | ((with_reducible refine wpQuiet_load_partg w.heap.size 6 ss (Eq.trans ?_ rfl) RS0.out _ hash_under rfl hsi (Eq.trans ?_ rfl) ?_); rfl; rfl; simp only [Act.put, Array.set!_eq_setIfInBounds, List.setIfInBounds_toArray, List.set_cons_succ, List.set_cons_zero]) | go_big_quiet_step (fail))
    clear a0 a1 a2 a3 a4 a5 a6 a7 a8 a9 RS0
    refine wpQuiet_nil (mt_fork ?_ ?_)
    · simp only [pick_cons, pick_nil, nth_zero, nth_succ]
      refine fc_step rfl (fun K hK => ?_)
      go_simp
      (with_reducible refine (TT.out y0 (keep_trans HK1.out Q.out)).mono ?_)
      rintro e y1 ⟨iA, ic, oA, oc, rfl, hT, hk⟩
      refine hK _ _ hk ?_
      clear hK K
      have HQ16 : w1.heap.size ≤ y0.heap.size := Q.out.size
      have Hprev := Q
      replace Q := Lib.hid (keep_trans Q.out hk)
      have hs_y1 : y0.heap.size ≤ y1.heap.size := hk.size
      have HT : Hid (∀ W, Keep w W → (∀ k, y0.heap.size ≤ k → k < y1.heap.size → W.heap[k]? = y1.heap[k]?) → TxR.at ⟨m.t.ver, iA, m.t.ins, ic, oA, m.t.outs, oc, m.t.lock⟩ W) := Lib.hid fun W h1 h2 => hT W ⟨h1, h2⟩
      obtain ⟨ds, hds⟩ : ∃ ds : Array Value, ds = (bareM m ⟨m.t.ver, iA, m.t.ins, ic, oA, m.t.outs, oc, m.t.lock⟩).cells.toArray := ⟨_, rfl⟩
      have HDS : Hid (MsA (bareM m ⟨m.t.ver, iA, m.t.ins, ic, oA, m.t.outs, oc, m.t.lock⟩) ds) := Lib.hid (by rw [hds]; exact MsA.of (bareM_ok HO.out _))
      have HBU : Hid (Tryd.prog.built 50 [(0, .int .i64 m.kind), (1, u32v m.proto), (2, u64v m.nonce), (3, u32v m.height), (4, .slice m.hA m.hs.length m.hc), (5, .slice m.lA m.ls.length m.lc), (6, .agg ss), (9, .agg #[u32v m.t.ver, .slice iA m.t.ins.length ic, .slice oA m.t.outs.length oc, u32v m.t.lock])] = some ds) := Lib.hid (by rw [hds]; exact BU.out _ _ _ _)
      have hdz := HDS.out.z; have hdn := HDS.out.n; have hdi := HDS.out.i
      clear hT hds
      clear hk
      refine fc_nil (mt_take y1 (Below.refl _ _) ?_)
      simp only [pick_cons, pick_nil, nth_zero, nth_succ]
      repeat (first | ((with_reducible refine wpQuiet_buildm [(0, .int .i64 m.kind), (1, u32v m.proto), (2, u64v m.nonce), (3, u32v m.height), (4, .slice m.hA m.hs.length m.hc), (5, .slice m.lA m.ls.length m.lc), (6, .agg ss), (9, .agg #[u32v m.t.ver, .slice iA m.t.ins.length ic, .slice oA m.t.outs.length oc, u32v m.t.lock])] ds (Eq.trans ?_ rfl) HBU.out ?_); rfl; simp only [Act.put, Array.set!_eq_setIfInBounds, List.setIfInBounds_toArray, List.set_cons_succ, List.set_cons_zero]) | go_big_quiet_step (fail))
      refine wpQuiet_nil (mt_force ?_)
      simp only [pick_cons, pick_nil, nth_zero, nth_succ]
      refine fc_step rfl (fun K hK => ?_)
      go_simp
      refine hK _ _ (keep_new _ _) ?_
      clear hK K
      obtain ⟨y2, hy⟩ : ∃ y2, y2 = y1.alloc (.cells zs 50) := ⟨_, rfl⟩
      have HX : Hid (Blk y2 y1.heap.size 50 zs.toList) := by rw [hy]; exact Blk.new y1 _ zs.toList
      have hk : Keep y1 y2 := by rw [hy]; exact keep_new _ _
      rw [← hy]
      clear hy
      have HXs : y1.heap.size < y2.heap.size := HX.out.lt
      have HXn := Q.out.size
      replace Q := Lib.hid (keep_trans Q.out hk)
      have hs_y2 : y1.heap.size ≤ y2.heap.size := hk.size
      replace HT := Lib.hid (at_carry HT.out hk (Nat.le_refl _))
      clear hk
      generalize hp : y1.heap.size = gx at *
      have HXa : y1.heap.size ≤ gx := Nat.le_of_eq hp
      have HXb : gx ≤ y1.heap.size := Nat.le_of_eq hp.symm
      clear hp
      refine fc_nil (mt_end ?_)
      obtain ⟨wa, hsta, hba, hga⟩ := run_store_blk (P := Tryd.prog) ds.toList HX.out (by rw [Array.length_toList, Array.length_toList, hzz, hdz]) HDS.out.o
      have Hba := Lib.hid hba; have Hga := Lib.hid hga
      have hga1 := hga.size; have hQs := Q.out.size
      clear hba hga
      go_wp2
      go_meet
      refine ⟨gx, iA, ic, oA, oc, rfl, by omega, Lib.hid (Q.out.grown Hga.out (by omega) (fun q hq => by injection hq with hq; omega)), by rw [← HDS.out.l]; exact Hba, Lib.hid (fun W h1 h2 => HT.out W h1 fun k a b => ?_)⟩
      have hkg : k ≠ gx := by omega
      exact (h2 k (by omega) (by omega) hkg).trans (Hga.out.block k (by omega) (fun e => hkg (Option.some.inj e)))
    · simp only [pick_cons, pick_nil, nth_zero, nth_succ]
      refine fc_step rfl (fun K hK => ?_)
      go_simp
      refine hK _ _ (keep_new _ _) ?_
      clear hK K
      obtain ⟨y3, hy⟩ : ∃ y3, y3 = y0.alloc (.cells zs 50) := ⟨_, rfl⟩
      have HX : Hid (Blk y3 y0.heap.size 50 zs.toList) := by rw [hy]; exact Blk.new y0 _ zs.toList
      have hk : Keep y0 y3 := by rw [hy]; exact keep_new _ _
      rw [← hy]
      clear hy
      have HXs : y0.heap.size < y3.heap.size := HX.out.lt
      have HXn := Q.out.size
      replace Q := Lib.hid (keep_trans Q.out hk)
      have hs_y3 : y0.heap.size ≤ y3.heap.size := hk.size
      clear hk
      generalize hp : y0.heap.size = gx at *
      have HXa : y0.heap.size ≤ gx := Nat.le_of_eq hp
      have HXb : gx ≤ y0.heap.size := Nat.le_of_eq hp.symm
      clear hp
      refine fc_nil (mt_force ?_)
      simp only [pick_cons, pick_nil, nth_zero, nth_succ]
      refine fc_step rfl (fun K hK => ?_)
      go_simp
      (with_reducible refine (TT.out y3 (keep_trans HK1.out Q.out)).mono ?_)
      rintro e y4 ⟨iA, ic, oA, oc, rfl, hT, hk⟩
      refine hK _ _ hk ?_
      clear hK K
      have HQ16 : w1.heap.size ≤ y3.heap.size := Q.out.size
      have Hprev := Q
      replace Q := Lib.hid (keep_trans Q.out hk)
      have hs_y4 : y3.heap.size ≤ y4.heap.size := hk.size
      replace HX := Lib.hid (HX.out.keep hk)
      have HT : Hid (∀ W, Keep w W → (∀ k, y3.heap.size ≤ k → k < y4.heap.size → W.heap[k]? = y4.heap[k]?) → TxR.at ⟨m.t.ver, iA, m.t.ins, ic, oA, m.t.outs, oc, m.t.lock⟩ W) := Lib.hid fun W h1 h2 => hT W ⟨h1, h2⟩
      obtain ⟨ds, hds⟩ : ∃ ds : Array Value, ds = (bareM m ⟨m.t.ver, iA, m.t.ins, ic, oA, m.t.outs, oc, m.t.lock⟩).cells.toArray := ⟨_, rfl⟩
      have HDS : Hid (MsA (bareM m ⟨m.t.ver, iA, m.t.ins, ic, oA, m.t.outs, oc, m.t.lock⟩) ds) := Lib.hid (by rw [hds]; exact MsA.of (bareM_ok HO.out _))
      have HBU : Hid (Tryd.prog.built 50 [(0, .int .i64 m.kind), (1, u32v m.proto), (2, u64v m.nonce), (3, u32v m.height), (4, .slice m.hA m.hs.length m.hc), (5, .slice m.lA m.ls.length m.lc), (6, .agg ss), (9, .agg #[u32v m.t.ver, .slice iA m.t.ins.length ic, .slice oA m.t.outs.length oc, u32v m.t.lock])] = some ds) := Lib.hid (by rw [hds]; exact BU.out _ _ _ _)
      have hdz := HDS.out.z; have hdn := HDS.out.n; have hdi := HDS.out.i
      clear hT hds
      clear hk
      refine fc_nil (mt_take y4 (Below.refl _ _) ?_)
      simp only [pick_cons, pick_nil, nth_zero, nth_succ]
      repeat (first | ((with_reducible refine wpQuiet_buildm [(0, .int .i64 m.kind), (1, u32v m.proto), (2, u64v m.nonce), (3, u32v m.height), (4, .slice m.hA m.hs.length m.hc), (5, .slice m.lA m.ls.length m.lc), (6, .agg ss), (9, .agg #[u32v m.t.ver, .slice iA m.t.ins.length ic, .slice oA m.t.outs.length oc, u32v m.t.lock])] ds (Eq.trans ?_ rfl) HBU.out ?_); rfl; simp only [Act.put, Array.set!_eq_setIfInBounds, List.setIfInBounds_toArray, List.set_cons_succ, List.set_cons_zero]) | go_big_quiet_step (fail))
      refine wpQuiet_nil (mt_end ?_)
      obtain ⟨wa, hsta, hba, hga⟩ := run_store_blk (P := Tryd.prog) ds.toList HX.out (by rw [Array.length_toList, Array.length_toList, hzz, hdz]) HDS.out.o
      have Hba := Lib.hid hba; have Hga := Lib.hid hga
      have hga1 := hga.size; have hQs := Q.out.size
      clear hba hga
      go_wp2
      go_meet
      refine ⟨gx, iA, ic, oA, oc, rfl, by omega, Lib.hid (Q.out.grown Hga.out (by omega) (fun q hq => by injection hq with hq; omega)), by rw [← HDS.out.l]; exact Hba, Lib.hid (fun W h1 h2 => HT.out W h1 fun k a b => ?_)⟩
      have hkg : k ≠ gx := by omega
      exact (h2 k (by omega) (by omega) hkg).trans (Hga.out.block k (by omega) (fun e => hkg (Option.some.inj e)))
  case rest =>
    obtain ⟨gx, iA, ic, oA, oc, rfl, hgx, HK5, HX5, HT5⟩ := hcut
    clear c0 c1 c2 c3 c4 c5 t0 t1 t2 t3 RS TT BU
    have hgl := HX5.out.lt
    have HB5 := Lib.hid (HB1.out.keep HK5.out); have HR5 := Lib.hid (HR1.out.keep HK5.out)
    have HKW := Lib.hid (keep_trans HK1.out HK5.out)
    have HOB := Lib.hid (bareM_ok HO.out ⟨m.t.ver, iA, m.t.ins, ic, oA, m.t.outs, oc, m.t.lock⟩)
    obtain ⟨M1, hM1⟩ : ∃ M1, bareM m ⟨m.t.ver, iA, m.t.ins, ic, oA, m.t.outs, oc, m.t.lock⟩ = M1 := ⟨_, rfl⟩
    have HM1 := Lib.hid hM1
    rw [hM1] at HX5 HOB
    clear hM1
    have HI : Hid (∀ k (h : k < m.is.length), ∃ (b off : Nat) (x : Itm) (ss : Array Value), m.iA = some ⟨b, off, none⟩ ∧ b < w.heap.size ∧ w.cell? ⟨b, off + k * 33, none⟩ = some (u32v x.ty) ∧ w.rangeAt b (off + k * 33 + 1) ss.toList ∧ HashA x.h ss ∧ x.ok ∧ m.is[k]? = some x) := Lib.hid fun k h => item_parts HM.out.i HO.out.i h
    obtain ⟨n, hn⟩ : ∃ n, m.is.length = n := ⟨_, rfl⟩
    have HN := Lib.hid hn
    rw [hn] at hit HI
    clear hn
    have x38 : ∀ y, Blk y w.heap.size 63 m.cells → y.cell? ⟨w.heap.size, 38, none⟩ = some (.slice m.iA n m.ic) := fun y hy => (hy.cell 38).trans ((MsgR.tail_get HO.out 0).trans (by rw [← HN.out]; rfl))
    have X38 := Lib.hid x38
    clear x38
    generalize m.iA = mA at *
    have HXI : Hid (Blk wc gx 50 (withI M1 none (m.is.take 0) 0).cells) := Lib.hid (by have q := HX5.out; rw [← HM1.out] at q ⊢; exact q)
    have Own0 : Hid (wc.ownsRow wc.heap.size 98 33 (.slice none 0 0) 0 ((m.is.take 0).flatMap Itm.cells)) := Lib.hid (World.ownsRow_nil _ _ _ _)
    have KX0 : Hid (KeepX (fun k => k = gx) wc wc) := Lib.hid (KeepX.of (Below.refl _ _))
    go_wp2_with fail
    go_loopw [4] (fun x wr => ∃ (j : Nat) (A : Option Addr) (c : Nat), j ≤ n ∧ x = .int .i64 j ∧ Hid (Blk wr gx 50 (withI M1 A (m.is.take j) c).cells) ∧ Hid (wr.ownsRow wc.heap.size 98 33 (.slice A j c) j ((m.is.take j).flatMap Itm.cells)) ∧ Hid (Blk wr w.heap.size 63 m.cells) ∧ Hid (Blk wr (w.heap.size + 1) 50 zs.toList) ∧ Hid (Keep w wr) ∧ Hid (KeepX (fun k => k = gx) wc wr)) (fun x _ => n - (intOf x).toNat)
    case atStart => exact ⟨0, none, 0, Nat.zero_le _, rfl, HXI, Own0, HB5, HR5, HKW, KX0⟩
    case round =>
      obtain ⟨j, A, c, hj, rfl, HX, Own, HB, HR, HK, KX⟩ := hrel
      clear HXI Own0 HB5 HR5 HKW KX0 HX5 HK5
      have t2 := X38.out _ HB.out
      have hlj : (m.is.take j).length = j := by rw [List.length_take, HN.out]; omega
      have HLJ := Lib.hid hlj
      clear hlj
      by_cases hlt : j < n
      · obtain ⟨b, off, x, ds, hmA, hbl, e0, e1, hds, hok, hget⟩ := HI.out j hlt
        subst hmA
        have hdn := hds.n; have hdz := hds.z; have hdi := hds.i
        have HDS := Lib.hid hds; have HOK := Lib.hid hok
        have e0 := keep_cell HK.out e0
        have RE := Lib.hid (range_keep HK.out e1)
        have d4 : (j : Int) < n := by omega
        have HGE := Lib.hid hget
        obtain ⟨es, hes⟩ : ∃ es : Array Value, es = (Itm.cells x).toArray := ⟨_, rfl⟩
        have HBu : Hid (Tryd.prog.built 98 [(0, u32v x.ty), (1, .agg ds)] = some es) := Lib.hid (by rw [hes]; exact item_built x.ty x.h ds hok hds)
        have hel : es.toList = x.cells := by rw [hes]
        have hez : es.size = 33 := by rw [hes]; simpa using Itm.len hok
        have HEO : Hid (∀ v ∈ es.toList, v.oneCell' = true) := Lib.hid (by rw [hel]; exact x.one)
        have HEL := Lib.hid hel
        clear hget HI hds hok e1 hes hel
        go_upto_region 5 with fail
        letI iM : G.Mk := ⟨(Value.slice A j c).ownBlock⟩
        refine G.wp_region_tree (.take [0,1,2,3,4,5,6,7,8,9,10,11,12,13,14] (.force [15,16] .done)) [17,18] (by kernel_rfl) (by kernel_rfl) (fun w8 k8 => ?_)
        have HX8 := Lib.hid (HX.out.keep k8); have Own8 := Lib.hid (own_keep Own.out k8); have HB8 := Lib.hid (HB.out.keep k8); have HR8 := Lib.hid (HR.out.keep k8); have HK8 := Lib.hid (keep_trans HK.out k8)
        have KX8 : Hid (KeepX (fun k => k = gx) wc w8) := Lib.hid (KX.out.trans (KeepX.of k8) fun _ _ q => q)
        have e0 := keep_cell k8 e0; have RE8 := Lib.hid (range_keep k8 RE.out)
        clear k8 HX Own HB HR HK KX t2 RE
        have hwc := HK8.out.size
        have hww := keep_size_w HK1.out
        have hneX : G.Mk.m ≠ some gx := fun q => by have := (Own8.out.lt _ q).1; omega
        have hneT : G.Mk.m ≠ some w.heap.size := fun q => by have := (Own8.out.lt _ q).1; omega
        have hneB : G.Mk.m ≠ some b := fun q => by have := (Own8.out.lt _ q).1; omega
        have q0 : w8.cell? ⟨gx, 38, none⟩ = some (.slice A j c) := (HX8.out.cell 38).trans ((MsgR.tail_get (m := withI M1 A (m.is.take j) c) (withI_ok HOB.out (fun x hx => HO.out.i x (List.mem_of_mem_take hx))) 0).trans (by show some (Value.slice A (m.is.take j).length c) = _; rw [HLJ.out]))
        have b0 := G.aftG_cell q0 hneX
        have b1 := G.aftG_cell (X38.out _ HB8.out) hneT
        have b2 := G.aftG_cell e0 hneB
        refine G.mt_take w8 (G.Gr.refl _) ?_
        simp only [pick_cons, pick_nil, nth_zero, nth_succ]
        repeat (first | ((with_reducible refine G.wpQuiet_load_partgG b (off + j * 33 + 1) ds (Eq.trans ?_ rfl) RE8.out hneB _ hash_under rfl hdi ?_); rfl; simp only [Act.put, Array.set!_eq_setIfInBounds, List.setIfInBounds_toArray, List.set_cons_succ, List.set_cons_zero]) | ((with_reducible refine wpQuiet_buildm [(0, u32v x.ty), (1, .agg ds)] es (Eq.trans ?_ rfl) HBu.out ?_); rfl; simp only [Act.put, Array.set!_eq_setIfInBounds, List.setIfInBounds_toArray, List.set_cons_succ, List.set_cons_zero]) | go_big_quiet_step (fail))
        refine wpQuiet_nil (G.mt_force ?_)
        clear b0 b1 b2 hneX hneT hneB e0 q0
        simp only [pick_cons, pick_nil, nth_zero, nth_succ]
        refine G.fc_step rfl (fun K hK => ?_)
        refine wp_build1b itemT _ rfl es hez (by omega) rfl (hK _ _ (G.Gr.of_keep (keep_new _ _)) ?_)
        clear hK K
        simp only [Act.put, Array.set!_eq_setIfInBounds, List.setIfInBounds_toArray, List.set_cons_succ, List.set_cons_zero]
        obtain ⟨w9, hw9⟩ : ∃ w9, w9 = w8.alloc (.cells es 98) := ⟨_, rfl⟩
        have HL9 : Hid (Rd w9 (some ⟨w8.heap.size, 0, none⟩) es.toList) := by rw [hw9]; exact Lib.hid (by simpa using Rd.new w8 es.toList 98)
        have k9 : Keep w8 w9 := by rw [hw9]; exact keep_new _ _
        rw [← hw9]
        have HX9 := Lib.hid (HX8.out.keep k9); have Own9 := Lib.hid (own_keep Own8.out k9); have HB9 := Lib.hid (HB8.out.keep k9); have HR9 := Lib.hid (HR8.out.keep k9); have HK9 := Lib.hid (keep_trans HK8.out k9)
        have KX9 : Hid (KeepX (fun k => k = gx) wc w9) := Lib.hid (KX8.out.trans (KeepX.of k9) fun _ _ q => q)
        clear hw9 k9 HX8 Own8 HB8 HR8 HK8 KX8
        have hs9 := KX9.out.2.2.2.1
        refine G.fc_step rfl (fun K hK => ?_)
        refine wp_app itemT _ _ (by rfl) wc.heap.size _ j _ (by rfl) Own9.out _ 1 1 es.toList (by rfl) (by rw [Array.length_toList, hez]) HL9.out HEO.out (by omega) (by unfold maxLen; omega) hs9 ?_
        intro v' wq ownq hgq hatq
        refine hK _ _ hgq ?_
        clear hK K HL9
        simp only [Act.put, Array.set!_eq_setIfInBounds, List.setIfInBounds_toArray, List.set_cons_succ, List.set_cons_zero]
        have HXq := Lib.hid (HX9.out.grown hgq (fun q => by have := (Own9.out.lt _ q).1; omega))
        have HBq := Lib.hid (HB9.out.grown hgq (fun q => by have := (Own9.out.lt _ q).1; omega))
        have HRq := Lib.hid (HR9.out.grown hgq (fun q => by have := (Own9.out.lt _ q).1; omega))
        have HKq : Hid (Keep w wq) := Lib.hid (keep_grown HK9.out HK9.out.size hgq (own_base Own9.out (by omega)))
        have KXq : Hid (KeepX (fun k => k = gx) wc wq) := Lib.hid (KX9.out.grown hgq (fun i hi q => by have := (Own9.out.lt _ q).1; omega))
        have Ownq := Lib.hid ownq
        clear ownq hgq hatq HX9 HB9 HR9 HK9 KX9 Own9 hs9
        obtain ⟨Aw, cw, rfl, -, -, -⟩ := own_form Ownq.out
        have y3 : ∃ v, wq.cell? ⟨gx, 38, none⟩ = some v := ⟨_, (HXq.out.cell 38).trans (List.getElem?_eq_getElem (by rw [MsgR.len (withI_ok HOB.out (fun x hx => HO.out.i x (List.mem_of_mem_take hx)))]; omega))⟩
        obtain ⟨v3, y3⟩ := y3
        have f3 := HXq.out.frozen 38
        refine G.fc_nil (G.mt_end ?_)
        clear iM
        go_wp2
        obtain ⟨w4, hw4⟩ : ∃ w4, w4 = wq.setCell ⟨gx, 38, none⟩ (.slice Aw (j + 1) cw) := ⟨_, rfl⟩
        have HX4 : Hid (Blk w4 gx 50 (withI M1 Aw (m.is.take (j + 1)) cw).cells) := by
          rw [hw4]
          have q := HXq.out.set_ 38 (.slice Aw (j + 1) cw)
          rw [set38w (withI_ok HOB.out (fun x hx => HO.out.i x (List.mem_of_mem_take hx))) Aw (m.is.take (j + 1)) (j + 1) cw (by rw [List.length_take, HN.out]; omega)] at q
          exact Lib.hid q
        have HB4 : Hid (Blk w4 w.heap.size 63 m.cells) := by rw [hw4]; exact Lib.hid (HBq.out.far (by simp <;> omega) _)
        have HR4 : Hid (Blk w4 (w.heap.size + 1) 50 zs.toList) := by rw [hw4]; exact Lib.hid (HRq.out.far (by simp <;> omega) _)
        have Own4 : Hid (w4.ownsRow wc.heap.size 98 33 (.slice Aw (j + 1) cw) (j + 1) ((m.is.take (j + 1)).flatMap Itm.cells)) := by
          rw [hw4]
          refine Lib.hid (own_eq (ownsRow_setCell_below Ownq.out (a := ⟨gx, 38, none⟩) (by omega) _) rfl ?_)
          rw [HEL.out, List.take_add_one, HGE.out, List.flatMap_append]; simp
        have HK4 : Hid (Keep w w4) := by rw [hw4]; exact Lib.hid (Below.setCell HKq.out (by simp <;> omega) _)
        have KX4 : Hid (KeepX (fun k => k = gx) wc w4) := by rw [hw4]; exact Lib.hid (KeepB.set KXq.out 38 _)
        rw [← hw4]
        clear hw4 HXq HBq HRq Ownq HKq KXq y3 f3 HGE HEL HEO HBu HDS HOK HLJ RE8
        go_roundw
        case rel => exact ⟨j + 1, Aw, cw, by omega, by go_num, HX4, Own4, HB4, HR4, HK4, KX4⟩
        case measure => simp [intOf]; omega
      · obtain rfl : j = n := by omega
        have d4 : ¬ (j : Int) < j := by omega
        obtain ⟨Ai, ci, hAi, hci1, hci2, -⟩ := own_form Own.out
        obtain ⟨rfl, rfl⟩ : A = Ai ∧ c = ci := by injection hAi with h1 _ h3; exact ⟨h1, h3⟩
        clear hAi
        have ht : m.is.take j = m.is := List.take_of_length_le (by rw [HN.out]; omega)
        rw [ht] at HX Own
        obtain rfl := HM1.out
        have HO2 := Lib.hid (withI_ok HOB.out (A := A) (c := c) HO.out.i)
        have RH : Hid (wr.rangeAt w.heap.size 39 hv.toList) := Lib.hid (range_of HB.out 39 hv.toList (by
          rw [HHV.out.l, MsgR.cells39, List.drop_left' (MsgR.hd39_len HO.out.s)]
          unfold MsgR.blk
          rw [List.append_assoc, List.take_left' rfl]))
        have r107 : wr.cell? ⟨w.heap.size, 107, none⟩ = some (u32v m.total) := (HB.out.cell 107).trans ((MsgR.blk_tail HO.out 0 (by omega)).trans rfl)
        have r108 : wr.cell? ⟨w.heap.size, 108, none⟩ = some (.slice m.sA m.shs.length m.sc) := (HB.out.cell 108).trans ((MsgR.blk_tail HO.out 1 (by omega)).trans rfl)
        have r109 : wr.cell? ⟨w.heap.size, 109, none⟩ = some (.slice m.fA m.fs.length m.fc) := (HB.out.cell 109).trans ((MsgR.blk_tail HO.out 2 (by omega)).trans rfl)
        obtain ⟨wp, hstp, hbp, hgp⟩ := run_store_prt (P := Tryd.prog) 39 bs.toList HX.out (by rw [MsgR.len HO2.out, Array.length_toList, hbz]; omega) (by rw [HBS.out]; intro u hu; exact MsgR.one m u (by rw [MsgR.cells39]; simp [hu]))
        rw [HBS.out, MsgR.splice_blk HO2.out HO.out.b] at hbp
        have HBP := Lib.hid hbp; have HGP := Lib.hid hgp
        have HRP := Lib.hid (HR.out.grown hgp (fun q => by have := Option.some.inj q; omega))
        have HKP : Hid (Keep w wp) := Lib.hid (HK.out.grown hgp HK.out.size (fun q hq => by injection hq with hq; omega))
        clear hbp hgp
        obtain ⟨M3, hM3⟩ : ∃ M3, MsgR.mk m.kind m.proto m.nonce m.height m.hA m.hs m.hc m.lA m.ls m.lc m.stop A m.is c m.bh m.total m.sA m.shs m.sc m.fA m.fs m.fc ⟨m.t.ver, iA, m.t.ins, ic, oA, m.t.outs, oc, m.t.lock⟩ = M3 := ⟨_, rfl⟩
        have HBQ : Hid (Blk wp gx 50 M3.cells) := Lib.hid (by rw [← hM3]; exact HBP.out)
        have HO3 : M3.ok := by rw [← hM3]; exact ⟨HO.out.k, HO.out.n, HO.out.s, HO.out.b, HO.out.h, HO.out.l, HO.out.i, HO.out.z⟩
        obtain ⟨ds, hds⟩ : ∃ ds, MsA M3 ds := ⟨_, MsA.of HO3⟩
        have hdz := hds.z; have hdn := hds.n; have hdi := hds.i
        have HDS := Lib.hid hds
        have HBx : Hid (Blk wp gx 50 ds.toList) := Lib.hid (by rw [HDS.out.l]; exact HBQ.out)
        obtain ⟨w8, hst8, hb8, hg8⟩ := run_store_blk (P := Tryd.prog) ds.toList HRP.out (by rw [Array.length_toList, Array.length_toList, hzz, hdz]) HDS.out.o
        have Hb8 := Lib.hid hb8; have Hg8 := Lib.hid hg8
        have HM3 := Lib.hid hM3
        have HO3 := Lib.hid HO3
        clear hds hb8 hg8 HBP HBQ hM3 ht
        go_wp2_with (first | ((with_reducible refine load_partg w.heap.size 39 hv (Eq.trans ?_ rfl) RH.out _ Tryd.underlying42 rfl hvi rfl ?_); rfl) | ((with_reducible refine list_bldg [(0, .agg hv), (1, u32v m.total), (2, .slice m.sA m.shs.length m.sc), (3, .slice m.fA m.fs.length m.fc)] bs (Eq.trans ?_ rfl) BB.out (Eq.trans ?_ rfl) ?_); rfl; rfl) | ((with_reducible refine load_arr gx ds (Eq.trans ?_ rfl) HBx.out _ Tryd.underlying50 rfl hdi ?_); rfl))
        have KF : Keep w w8 := HKP.out.grown Hg8.out HKP.out.size (fun q hq => by injection hq with hq; omega)
        have KX8 : KeepX (fun k => k = gx ∨ k = w.heap.size + 1) wr w8 := ((KeepX.of (X := fun k => k = gx ∨ k = w.heap.size + 1) (Below.refl wr.heap.size wr)).grown HGP.out (fun i _ q => .inl (Option.some.inj q).symm)).grown Hg8.out (fun i _ q => .inr (Option.some.inj q).symm)
        have o1 := own_kx Own.out KX8 (fun g q e => by have := (Own.out.lt g q).1; omega)
        have hT := HT5.out w8 KF (fun k h1 h2 h3 => (KX8.2.2.2.2 k (Nat.lt_of_lt_of_le h2 KX.out.2.2.2.1) (by rintro (e | e) <;> omega)).trans (KX.out.2.2.2.2 k h2 h3))
        have hat : M3.at_ w8 := by
          rw [← HM3.out]
          exact ⟨by rw [HM3.out]; exact HO3.out, HM.out.h.keep KF, HM.out.hc, HM.out.l.keep KF, HM.out.lc, own_rd o1, ⟨by rw [HN.out]; exact hci1, hci2⟩, HM.out.s.keep KF, HM.out.sc, HM.out.f.keep KF, HM.out.fc, hT⟩
        exact bodyPost_ret (v := .agg ds) (results_cell_row Tryd.results15 _ _ (w.heap.size + 1) _ _ _ _ rfl Hb8.out Tryd.underlying50 rfl (by rw [List.size_toArray, Array.length_toList]; exact hdi)) rfl ⟨M3, ds, rfl, HDS.out, by rw [← HM3.out]; rfl, hat, KF⟩
set_option maxRecDepth 100000 in
set_option maxHeartbeats 4000000 in
theorem plainly_any (m : MsgR) (cs : Array Value) (hA : MsA m cs) (w : World) (h : m.at_ w) (hi : m.t.ins.length ≤ 1000000) (ho : m.t.outs.length ≤ 1000000) (hit : m.is.length ≤ 1000000) :
    Calls Tryd.prog 20 #[.agg cs] w fun e w' => ∃ m' ds, e = .returned (.agg ds) ∧ MsB m' ds ∧ m'.pl = m.pl ∧ m'.at_ w' ∧ Keep w w' := by
  obtain ⟨zs, hz0, hzA⟩ := zrmsg_letter
  have hzn := hzA.n; have hzz := hzA.z; have hzi := hzA.i
  have HZ := Lib.hid hzA
  have hcn := hA.n; have hcz := hA.z; have hci := hA.i
  have HA := Lib.hid hA; have HM := Lib.hid h; have HO := Lib.hid h.o
  obtain ⟨ss, hss⟩ : ∃ ss, HashA m.stop ss := ⟨_, HashA.of h.o.s⟩
  obtain ⟨hv, hhv⟩ : ∃ hv, HdA m.bh hv := ⟨_, HdA.of h.o.b⟩
  have hsn := hss.n; have hsz := hss.z; have hsi := hss.i
  have hvn := hhv.n; have hvz := hhv.z; have hvi := hhv.i
  have HSS := Lib.hid hss; have HHV := Lib.hid hhv
  have TT : Hid (∀ y, Keep w y → Calls Tryd.prog 49 #[.agg #[u32v m.t.ver, .slice m.t.iA m.t.ins.length m.t.ic, .slice m.t.oA m.t.outs.length m.t.oc, u32v m.t.lock]] y fun e w' => ∃ iA ic oA oc, e = .returned (.agg #[u32v m.t.ver, .slice iA m.t.ins.length ic, .slice oA m.t.outs.length oc, u32v m.t.lock]) ∧ (∀ W, Mid w y w' W → TxR.at ⟨m.t.ver, iA, m.t.ins, ic, oA, m.t.outs, oc, m.t.lock⟩ W) ∧ Keep y w') := Lib.hid fun y hy => theirs_any m.t w y h.t hy hi ho
  have BU : Hid (∀ iA ic oA oc, Tryd.prog.built 63 [(0, .int .i64 m.kind), (1, u32v m.proto), (2, u64v m.nonce), (3, u32v m.height), (4, .slice m.hA m.hs.length m.hc), (5, .slice m.lA m.ls.length m.lc), (6, .agg ss), (9, .agg #[u32v m.t.ver, .slice iA m.t.ins.length ic, .slice oA m.t.outs.length oc, u32v m.t.lock])] = some (bareM m ⟨m.t.ver, iA, m.t.ins, ic, oA, m.t.outs, oc, m.t.lock⟩).cells.toArray) := Lib.hid fun iA ic oA oc => rmsgm_built m ⟨m.t.ver, iA, m.t.ins, ic, oA, m.t.outs, oc, m.t.lock⟩ ss h.o.s hss
  obtain ⟨bs, hbs⟩ : ∃ bs : Array Value, bs = m.blk.toArray := ⟨_, rfl⟩
  have BB : Hid (Tryd.prog.built 57 [(0, .agg hv), (1, u32v m.total), (2, .slice m.sA m.shs.length m.sc), (3, .slice m.fA m.fs.length m.fc)] = some bs) := Lib.hid (by rw [hbs]; exact rblk_built m h.o.b hv hhv)
  have HBS : Hid (bs.toList = m.blk) := Lib.hid (by rw [hbs])
  have hbz : bs.size = 71 := by rw [hbs]; simpa using MsgR.blk_len h.o.b
  have hbi : (Tryd.prog.info? 57).map (·.size) = some bs.size := by rw [hbz]; kernel_rfl
  have hbn : ¬ bs = #[] := fun e => by rw [e] at hbz; simp at hbz
  clear hA h hss hhv hzA hi ho hbs
  go_enter Tryd.func20, Tryd.ntmps20
  go_upto_region 1 with fail
  obtain ⟨w1, hw1⟩ : ∃ w1, w1 = (w.alloc (.cells cs 50)).alloc (.cells zs 63) := ⟨_, rfl⟩
  have HB1 : Hid (Blk w1 w.heap.size 50 m.cells) := by rw [hw1, ← HA.out.l]; exact Lib.hid ((Blk.new w _ cs.toList).alloc _)
  have HR1 : Hid (Blk w1 (w.heap.size + 1) 63 zs.toList) := by
    rw [hw1]
    have h2 := Blk.new (w.alloc (.cells cs 50)) 63 zs.toList
    rw [World.size_alloc] at h2
    exact Lib.hid h2
  have HK1 : Hid (Keep w w1) := by rw [hw1]; exact Lib.hid (keep_trans (keep_new _ _) (keep_new _ _))
  rw [← hw1]
  clear hw1
  have hw1s := HR1.out.lt
  have RS : Hid (w1.rangeAt w.heap.size 6 ss.toList) := Lib.hid (range_of HB1.out 6 ss.toList (by
    rw [HSS.out.l, MsgR.cells6, List.drop_left' (show m.hd6.length = 6 from rfl), List.take_left' rfl]))
  have c0 : w1.cell? ⟨w.heap.size, 0, none⟩ = some (.int .i64 m.kind) := (HB1.out.cell 0).trans rfl
  have c1 : w1.cell? ⟨w.heap.size, 1, none⟩ = some (u32v m.proto) := (HB1.out.cell 1).trans rfl
  have c2 : w1.cell? ⟨w.heap.size, 2, none⟩ = some (u64v m.nonce) := (HB1.out.cell 2).trans rfl
  have c3 : w1.cell? ⟨w.heap.size, 3, none⟩ = some (u32v m.height) := (HB1.out.cell 3).trans rfl
  have c4 : w1.cell? ⟨w.heap.size, 4, none⟩ = some (.slice m.hA m.hs.length m.hc) := (HB1.out.cell 4).trans rfl
  have c5 : w1.cell? ⟨w.heap.size, 5, none⟩ = some (.slice m.lA m.ls.length m.lc) := (HB1.out.cell 5).trans rfl
  have t0 : w1.cell? ⟨w.heap.size, 110, none⟩ = some (u32v m.t.ver) := (HB1.out.cell 110).trans ((MsgR.tx_get HO.out 0).trans rfl)
  have t1 : w1.cell? ⟨w.heap.size, 111, none⟩ = some (.slice m.t.iA m.t.ins.length m.t.ic) := (HB1.out.cell 111).trans ((MsgR.tx_get HO.out 1).trans rfl)
  have t2 : w1.cell? ⟨w.heap.size, 112, none⟩ = some (.slice m.t.oA m.t.outs.length m.t.oc) := (HB1.out.cell 112).trans ((MsgR.tx_get HO.out 2).trans rfl)
  have t3 : w1.cell? ⟨w.heap.size, 113, none⟩ = some (u32v m.t.lock) := (HB1.out.cell 113).trans ((MsgR.tx_get HO.out 3).trans rfl)
  go_cut [3] (fun p wx => ∃ gx iA ic oA oc, p = .pointer (some ⟨gx, 0, none⟩) ∧ w1.heap.size ≤ gx ∧ Hid (Keep w1 wx) ∧ Hid (Blk wx gx 63 (bareM m ⟨m.t.ver, iA, m.t.ins, ic, oA, m.t.outs, oc, m.t.lock⟩).cells) ∧ Hid (∀ W, Keep w W → (∀ k, w1.heap.size ≤ k → k < wx.heap.size → k ≠ gx → W.heap[k]? = wx.heap[k]?) → TxR.at ⟨m.t.ver, iA, m.t.ins, ic, oA, m.t.outs, oc, m.t.lock⟩ W))
  case first =>
    refine wp_region_tree (.take [0,1,2,3,4,5,6,7,8,9,10,11,12,13,14,15] (.fork 16 (.take [17] (.force [18] .done)) 18 (.force [16] (.take [17] .done)))) [19] (by kernel_rfl) (by kernel_rfl) (fun y0 hk => ?_)
    have Q := Lib.hid hk
    clear hk
    refine mt_take y0 (Below.refl _ _) ?_
    simp only [pick_cons, pick_nil, nth_zero, nth_succ]
    have RS0 := Lib.hid (range_keep Q.out RS.out)
    have a0 := aft_cell (keep_cell Q.out c0); have a1 := aft_cell (keep_cell Q.out c1); have a2 := aft_cell (keep_cell Q.out c2); have a3 := aft_cell (keep_cell Q.out c3); have a4 := aft_cell (keep_cell Q.out c4); have a5 := aft_cell (keep_cell Q.out c5)
    have a6 := aft_cell (keep_cell Q.out t0); have a7 := aft_cell (keep_cell Q.out t1); have a8 := aft_cell (keep_cell Q.out t2); have a9 := aft_cell (keep_cell Q.out t3)
    clear c0 c1 c2 c3 c4 c5 t0 t1 t2 t3
    repeat (first | ((with_reducible refine wpQuiet_load_partg w.heap.size 6 ss (Eq.trans ?_ rfl) RS0.out _ hash_under rfl hsi (Eq.trans ?_ rfl) ?_); rfl; rfl; simp only [Act.put, Array.set!_eq_setIfInBounds, List.setIfInBounds_toArray, List.set_cons_succ, List.set_cons_zero]) | go_big_quiet_step (fail))
    clear a0 a1 a2 a3 a4 a5 a6 a7 a8 a9 RS0
    refine wpQuiet_nil (mt_fork ?_ ?_)
    · simp only [pick_cons, pick_nil, nth_zero, nth_succ]
      refine fc_step rfl (fun K hK => ?_)
      go_simp
      (with_reducible refine (TT.out y0 (keep_trans HK1.out Q.out)).mono ?_)
      rintro e y1 ⟨iA, ic, oA, oc, rfl, hT, hk⟩
      refine hK _ _ hk ?_
      clear hK K
      have HQ16 : w1.heap.size ≤ y0.heap.size := Q.out.size
      have Hprev := Q
      replace Q := Lib.hid (keep_trans Q.out hk)
      have hs_y1 : y0.heap.size ≤ y1.heap.size := hk.size
      have HT : Hid (∀ W, Keep w W → (∀ k, y0.heap.size ≤ k → k < y1.heap.size → W.heap[k]? = y1.heap[k]?) → TxR.at ⟨m.t.ver, iA, m.t.ins, ic, oA, m.t.outs, oc, m.t.lock⟩ W) := Lib.hid fun W h1 h2 => hT W ⟨h1, h2⟩
      obtain ⟨ds, hds⟩ : ∃ ds : Array Value, ds = (bareM m ⟨m.t.ver, iA, m.t.ins, ic, oA, m.t.outs, oc, m.t.lock⟩).cells.toArray := ⟨_, rfl⟩
      have HDS : Hid (MsB (bareM m ⟨m.t.ver, iA, m.t.ins, ic, oA, m.t.outs, oc, m.t.lock⟩) ds) := Lib.hid (by rw [hds]; exact MsB.of (bareM_ok HO.out _))
      have HBU : Hid (Tryd.prog.built 63 [(0, .int .i64 m.kind), (1, u32v m.proto), (2, u64v m.nonce), (3, u32v m.height), (4, .slice m.hA m.hs.length m.hc), (5, .slice m.lA m.ls.length m.lc), (6, .agg ss), (9, .agg #[u32v m.t.ver, .slice iA m.t.ins.length ic, .slice oA m.t.outs.length oc, u32v m.t.lock])] = some ds) := Lib.hid (by rw [hds]; exact BU.out _ _ _ _)
      have hdz := HDS.out.z; have hdn := HDS.out.n; have hdi := HDS.out.i
      clear hT hds
      clear hk
      refine fc_nil (mt_take y1 (Below.refl _ _) ?_)
      simp only [pick_cons, pick_nil, nth_zero, nth_succ]
      repeat (first | ((with_reducible refine wpQuiet_buildm [(0, .int .i64 m.kind), (1, u32v m.proto), (2, u64v m.nonce), (3, u32v m.height), (4, .slice m.hA m.hs.length m.hc), (5, .slice m.lA m.ls.length m.lc), (6, .agg ss), (9, .agg #[u32v m.t.ver, .slice iA m.t.ins.length ic, .slice oA m.t.outs.length oc, u32v m.t.lock])] ds (Eq.trans ?_ rfl) HBU.out ?_); rfl; simp only [Act.put, Array.set!_eq_setIfInBounds, List.setIfInBounds_toArray, List.set_cons_succ, List.set_cons_zero]) | go_big_quiet_step (fail))
      refine wpQuiet_nil (mt_force ?_)
      simp only [pick_cons, pick_nil, nth_zero, nth_succ]
      refine fc_step rfl (fun K hK => ?_)
      go_simp
      refine hK _ _ (keep_new _ _) ?_
      clear hK K
      obtain ⟨y2, hy⟩ : ∃ y2, y2 = y1.alloc (.cells zs 63) := ⟨_, rfl⟩
      have HX : Hid (Blk y2 y1.heap.size 63 zs.toList) := by rw [hy]; exact Blk.new y1 _ zs.toList
      have hk : Keep y1 y2 := by rw [hy]; exact keep_new _ _
      rw [← hy]
      clear hy
      have HXs : y1.heap.size < y2.heap.size := HX.out.lt
      have HXn := Q.out.size
      replace Q := Lib.hid (keep_trans Q.out hk)
      have hs_y2 : y1.heap.size ≤ y2.heap.size := hk.size
      replace HT := Lib.hid (at_carry HT.out hk (Nat.le_refl _))
      clear hk
      generalize hp : y1.heap.size = gx at *
      have HXa : y1.heap.size ≤ gx := Nat.le_of_eq hp
      have HXb : gx ≤ y1.heap.size := Nat.le_of_eq hp.symm
      clear hp
      refine fc_nil (mt_end ?_)
      obtain ⟨wa, hsta, hba, hga⟩ := run_store_blk (P := Tryd.prog) ds.toList HX.out (by rw [Array.length_toList, Array.length_toList, hzz, hdz]) HDS.out.o
      have Hba := Lib.hid hba; have Hga := Lib.hid hga
      have hga1 := hga.size; have hQs := Q.out.size
      clear hba hga
      go_wp2
      go_meet
      refine ⟨gx, iA, ic, oA, oc, rfl, by omega, Lib.hid (Q.out.grown Hga.out (by omega) (fun q hq => by injection hq with hq; omega)), by rw [← HDS.out.l]; exact Hba, Lib.hid (fun W h1 h2 => HT.out W h1 fun k a b => ?_)⟩
      have hkg : k ≠ gx := by omega
      exact (h2 k (by omega) (by omega) hkg).trans (Hga.out.block k (by omega) (fun e => hkg (Option.some.inj e)))
    · simp only [pick_cons, pick_nil, nth_zero, nth_succ]
      refine fc_step rfl (fun K hK => ?_)
      go_simp
      refine hK _ _ (keep_new _ _) ?_
      clear hK K
      obtain ⟨y3, hy⟩ : ∃ y3, y3 = y0.alloc (.cells zs 63) := ⟨_, rfl⟩
      have HX : Hid (Blk y3 y0.heap.size 63 zs.toList) := by rw [hy]; exact Blk.new y0 _ zs.toList
      have hk : Keep y0 y3 := by rw [hy]; exact keep_new _ _
      rw [← hy]
      clear hy
      have HXs : y0.heap.size < y3.heap.size := HX.out.lt
      have HXn := Q.out.size
      replace Q := Lib.hid (keep_trans Q.out hk)
      have hs_y3 : y0.heap.size ≤ y3.heap.size := hk.size
      clear hk
      generalize hp : y0.heap.size = gx at *
      have HXa : y0.heap.size ≤ gx := Nat.le_of_eq hp
      have HXb : gx ≤ y0.heap.size := Nat.le_of_eq hp.symm
      clear hp
      refine fc_nil (mt_force ?_)
      simp only [pick_cons, pick_nil, nth_zero, nth_succ]
      refine fc_step rfl (fun K hK => ?_)
      go_simp
      (with_reducible refine (TT.out y3 (keep_trans HK1.out Q.out)).mono ?_)
      rintro e y4 ⟨iA, ic, oA, oc, rfl, hT, hk⟩
      refine hK _ _ hk ?_
      clear hK K
      have HQ16 : w1.heap.size ≤ y3.heap.size := Q.out.size
      have Hprev := Q
      replace Q := Lib.hid (keep_trans Q.out hk)
      have hs_y4 : y3.heap.size ≤ y4.heap.size := hk.size
      replace HX := Lib.hid (HX.out.keep hk)
      have HT : Hid (∀ W, Keep w W → (∀ k, y3.heap.size ≤ k → k < y4.heap.size → W.heap[k]? = y4.heap[k]?) → TxR.at ⟨m.t.ver, iA, m.t.ins, ic, oA, m.t.outs, oc, m.t.lock⟩ W) := Lib.hid fun W h1 h2 => hT W ⟨h1, h2⟩
      obtain ⟨ds, hds⟩ : ∃ ds : Array Value, ds = (bareM m ⟨m.t.ver, iA, m.t.ins, ic, oA, m.t.outs, oc, m.t.lock⟩).cells.toArray := ⟨_, rfl⟩
      have HDS : Hid (MsB (bareM m ⟨m.t.ver, iA, m.t.ins, ic, oA, m.t.outs, oc, m.t.lock⟩) ds) := Lib.hid (by rw [hds]; exact MsB.of (bareM_ok HO.out _))
      have HBU : Hid (Tryd.prog.built 63 [(0, .int .i64 m.kind), (1, u32v m.proto), (2, u64v m.nonce), (3, u32v m.height), (4, .slice m.hA m.hs.length m.hc), (5, .slice m.lA m.ls.length m.lc), (6, .agg ss), (9, .agg #[u32v m.t.ver, .slice iA m.t.ins.length ic, .slice oA m.t.outs.length oc, u32v m.t.lock])] = some ds) := Lib.hid (by rw [hds]; exact BU.out _ _ _ _)
      have hdz := HDS.out.z; have hdn := HDS.out.n; have hdi := HDS.out.i
      clear hT hds
      clear hk
      refine fc_nil (mt_take y4 (Below.refl _ _) ?_)
      simp only [pick_cons, pick_nil, nth_zero, nth_succ]
      repeat (first | ((with_reducible refine wpQuiet_buildm [(0, .int .i64 m.kind), (1, u32v m.proto), (2, u64v m.nonce), (3, u32v m.height), (4, .slice m.hA m.hs.length m.hc), (5, .slice m.lA m.ls.length m.lc), (6, .agg ss), (9, .agg #[u32v m.t.ver, .slice iA m.t.ins.length ic, .slice oA m.t.outs.length oc, u32v m.t.lock])] ds (Eq.trans ?_ rfl) HBU.out ?_); rfl; simp only [Act.put, Array.set!_eq_setIfInBounds, List.setIfInBounds_toArray, List.set_cons_succ, List.set_cons_zero]) | go_big_quiet_step (fail))
      refine wpQuiet_nil (mt_end ?_)
      obtain ⟨wa, hsta, hba, hga⟩ := run_store_blk (P := Tryd.prog) ds.toList HX.out (by rw [Array.length_toList, Array.length_toList, hzz, hdz]) HDS.out.o
      have Hba := Lib.hid hba; have Hga := Lib.hid hga
      have hga1 := hga.size; have hQs := Q.out.size
      clear hba hga
      go_wp2
      go_meet
      refine ⟨gx, iA, ic, oA, oc, rfl, by omega, Lib.hid (Q.out.grown Hga.out (by omega) (fun q hq => by injection hq with hq; omega)), by rw [← HDS.out.l]; exact Hba, Lib.hid (fun W h1 h2 => HT.out W h1 fun k a b => ?_)⟩
      have hkg : k ≠ gx := by omega
      exact (h2 k (by omega) (by omega) hkg).trans (Hga.out.block k (by omega) (fun e => hkg (Option.some.inj e)))
  case rest =>
    obtain ⟨gx, iA, ic, oA, oc, rfl, hgx, HK5, HX5, HT5⟩ := hcut
    clear c0 c1 c2 c3 c4 c5 t0 t1 t2 t3 RS TT BU
    have hgl := HX5.out.lt
    have HB5 := Lib.hid (HB1.out.keep HK5.out); have HR5 := Lib.hid (HR1.out.keep HK5.out)
    have HKW := Lib.hid (keep_trans HK1.out HK5.out)
    have HOB := Lib.hid (bareM_ok HO.out ⟨m.t.ver, iA, m.t.ins, ic, oA, m.t.outs, oc, m.t.lock⟩)
    obtain ⟨M1, hM1⟩ : ∃ M1, bareM m ⟨m.t.ver, iA, m.t.ins, ic, oA, m.t.outs, oc, m.t.lock⟩ = M1 := ⟨_, rfl⟩
    have HM1 := Lib.hid hM1
    rw [hM1] at HX5 HOB
    clear hM1
    have HI : Hid (∀ k (h : k < m.is.length), ∃ (b off : Nat) (x : Itm) (ss : Array Value), m.iA = some ⟨b, off, none⟩ ∧ b < w.heap.size ∧ w.cell? ⟨b, off + k * 33, none⟩ = some (u32v x.ty) ∧ w.rangeAt b (off + k * 33 + 1) ss.toList ∧ HashA x.h ss ∧ x.ok ∧ m.is[k]? = some x) := Lib.hid fun k h => item_parts HM.out.i HO.out.i h
    obtain ⟨n, hn⟩ : ∃ n, m.is.length = n := ⟨_, rfl⟩
    have HN := Lib.hid hn
    rw [hn] at hit HI
    clear hn
    have x38 : ∀ y, Blk y w.heap.size 50 m.cells → y.cell? ⟨w.heap.size, 38, none⟩ = some (.slice m.iA n m.ic) := fun y hy => (hy.cell 38).trans ((MsgR.tail_get HO.out 0).trans (by rw [← HN.out]; rfl))
    have X38 := Lib.hid x38
    clear x38
    generalize m.iA = mA at *
    have HXI : Hid (Blk wc gx 63 (withI M1 none (m.is.take 0) 0).cells) := Lib.hid (by have q := HX5.out; rw [← HM1.out] at q ⊢; exact q)
    have Own0 : Hid (wc.ownsRow wc.heap.size 97 33 (.slice none 0 0) 0 ((m.is.take 0).flatMap Itm.cells)) := Lib.hid (World.ownsRow_nil _ _ _ _)
    have KX0 : Hid (KeepX (fun k => k = gx) wc wc) := Lib.hid (KeepX.of (Below.refl _ _))
    go_wp2_with fail
    go_loopw [4] (fun x wr => ∃ (j : Nat) (A : Option Addr) (c : Nat), j ≤ n ∧ x = .int .i64 j ∧ Hid (Blk wr gx 63 (withI M1 A (m.is.take j) c).cells) ∧ Hid (wr.ownsRow wc.heap.size 97 33 (.slice A j c) j ((m.is.take j).flatMap Itm.cells)) ∧ Hid (Blk wr w.heap.size 50 m.cells) ∧ Hid (Blk wr (w.heap.size + 1) 63 zs.toList) ∧ Hid (Keep w wr) ∧ Hid (KeepX (fun k => k = gx) wc wr)) (fun x _ => n - (intOf x).toNat)
    case atStart => exact ⟨0, none, 0, Nat.zero_le _, rfl, HXI, Own0, HB5, HR5, HKW, KX0⟩
    case round =>
      obtain ⟨j, A, c, hj, rfl, HX, Own, HB, HR, HK, KX⟩ := hrel
      clear HXI Own0 HB5 HR5 HKW KX0 HX5 HK5
      have t2 := X38.out _ HB.out
      have hlj : (m.is.take j).length = j := by rw [List.length_take, HN.out]; omega
      have HLJ := Lib.hid hlj
      clear hlj
      by_cases hlt : j < n
      · obtain ⟨b, off, x, ds, hmA, hbl, e0, e1, hds, hok, hget⟩ := HI.out j hlt
        subst hmA
        have hdn := hds.n; have hdz := hds.z; have hdi := hds.i
        have HDS := Lib.hid hds; have HOK := Lib.hid hok
        have e0 := keep_cell HK.out e0
        have RE := Lib.hid (range_keep HK.out e1)
        have d4 : (j : Int) < n := by omega
        have HGE := Lib.hid hget
        obtain ⟨es, hes⟩ : ∃ es : Array Value, es = (Itm.cells x).toArray := ⟨_, rfl⟩
        have HBu : Hid (Tryd.prog.built 97 [(0, u32v x.ty), (1, .agg ds)] = some es) := Lib.hid (by rw [hes]; exact ritem_built x.ty x.h ds hok hds)
        have hel : es.toList = x.cells := by rw [hes]
        have hez : es.size = 33 := by rw [hes]; simpa using Itm.len hok
        have HEO : Hid (∀ v ∈ es.toList, v.oneCell' = true) := Lib.hid (by rw [hel]; exact x.one)
        have HEL := Lib.hid hel
        clear hget HI hds hok e1 hes hel
        go_upto_region 5 with fail
        letI iM : G.Mk := ⟨(Value.slice A j c).ownBlock⟩
        refine G.wp_region_tree (.take [0,1,2,3,4,5,6,7,8,9,10,11,12,13,14] (.force [15,16] .done)) [17,18] (by kernel_rfl) (by kernel_rfl) (fun w8 k8 => ?_)
        have HX8 := Lib.hid (HX.out.keep k8); have Own8 := Lib.hid (own_keep Own.out k8); have HB8 := Lib.hid (HB.out.keep k8); have HR8 := Lib.hid (HR.out.keep k8); have HK8 := Lib.hid (keep_trans HK.out k8)
        have KX8 : Hid (KeepX (fun k => k = gx) wc w8) := Lib.hid (KX.out.trans (KeepX.of k8) fun _ _ q => q)
        have e0 := keep_cell k8 e0; have RE8 := Lib.hid (range_keep k8 RE.out)
        clear k8 HX Own HB HR HK KX t2 RE
        have hwc := HK8.out.size
        have hww := keep_size_w HK1.out
        have hneX : G.Mk.m ≠ some gx := fun q => by have := (Own8.out.lt _ q).1; omega
        have hneT : G.Mk.m ≠ some w.heap.size := fun q => by have := (Own8.out.lt _ q).1; omega
        have hneB : G.Mk.m ≠ some b := fun q => by have := (Own8.out.lt _ q).1; omega
        have q0 : w8.cell? ⟨gx, 38, none⟩ = some (.slice A j c) := (HX8.out.cell 38).trans ((MsgR.tail_get (m := withI M1 A (m.is.take j) c) (withI_ok HOB.out (fun x hx => HO.out.i x (List.mem_of_mem_take hx))) 0).trans (by show some (Value.slice A (m.is.take j).length c) = _; rw [HLJ.out]))
        have b0 := G.aftG_cell q0 hneX
        have b1 := G.aftG_cell (X38.out _ HB8.out) hneT
        have b2 := G.aftG_cell e0 hneB
        refine G.mt_take w8 (G.Gr.refl _) ?_
        simp only [pick_cons, pick_nil, nth_zero, nth_succ]
        repeat (first | ((with_reducible refine G.wpQuiet_load_partgG b (off + j * 33 + 1) ds (Eq.trans ?_ rfl) RE8.out hneB _ hash_under rfl hdi ?_); rfl; simp only [Act.put, Array.set!_eq_setIfInBounds, List.setIfInBounds_toArray, List.set_cons_succ, List.set_cons_zero]) | ((with_reducible refine wpQuiet_buildm [(0, u32v x.ty), (1, .agg ds)] es (Eq.trans ?_ rfl) HBu.out ?_); rfl; simp only [Act.put, Array.set!_eq_setIfInBounds, List.setIfInBounds_toArray, List.set_cons_succ, List.set_cons_zero]) | go_big_quiet_step (fail))
        refine wpQuiet_nil (G.mt_force ?_)
        clear b0 b1 b2 hneX hneT hneB e0 q0
        simp only [pick_cons, pick_nil, nth_zero, nth_succ]
        refine G.fc_step rfl (fun K hK => ?_)
        refine wp_build1b ritemT _ rfl es hez (by omega) rfl (hK _ _ (G.Gr.of_keep (keep_new _ _)) ?_)
        clear hK K
        simp only [Act.put, Array.set!_eq_setIfInBounds, List.setIfInBounds_toArray, List.set_cons_succ, List.set_cons_zero]
        obtain ⟨w9, hw9⟩ : ∃ w9, w9 = w8.alloc (.cells es 97) := ⟨_, rfl⟩
        have HL9 : Hid (Rd w9 (some ⟨w8.heap.size, 0, none⟩) es.toList) := by rw [hw9]; exact Lib.hid (by simpa using Rd.new w8 es.toList 97)
        have k9 : Keep w8 w9 := by rw [hw9]; exact keep_new _ _
        rw [← hw9]
        have HX9 := Lib.hid (HX8.out.keep k9); have Own9 := Lib.hid (own_keep Own8.out k9); have HB9 := Lib.hid (HB8.out.keep k9); have HR9 := Lib.hid (HR8.out.keep k9); have HK9 := Lib.hid (keep_trans HK8.out k9)
        have KX9 : Hid (KeepX (fun k => k = gx) wc w9) := Lib.hid (KX8.out.trans (KeepX.of k9) fun _ _ q => q)
        clear hw9 k9 HX8 Own8 HB8 HR8 HK8 KX8
        have hs9 := KX9.out.2.2.2.1
        refine G.fc_step rfl (fun K hK => ?_)
        refine wp_app ritemT _ _ (by rfl) wc.heap.size _ j _ (by rfl) Own9.out _ 1 1 es.toList (by rfl) (by rw [Array.length_toList, hez]) HL9.out HEO.out (by omega) (by unfold maxLen; omega) hs9 ?_
        intro v' wq ownq hgq hatq
        refine hK _ _ hgq ?_
        clear hK K HL9
        simp only [Act.put, Array.set!_eq_setIfInBounds, List.setIfInBounds_toArray, List.set_cons_succ, List.set_cons_zero]
        have HXq := Lib.hid (HX9.out.grown hgq (fun q => by have := (Own9.out.lt _ q).1; omega))
        have HBq := Lib.hid (HB9.out.grown hgq (fun q => by have := (Own9.out.lt _ q).1; omega))
        have HRq := Lib.hid (HR9.out.grown hgq (fun q => by have := (Own9.out.lt _ q).1; omega))
        have HKq : Hid (Keep w wq) := Lib.hid (keep_grown HK9.out HK9.out.size hgq (own_base Own9.out (by omega)))
        have KXq : Hid (KeepX (fun k => k = gx) wc wq) := Lib.hid (KX9.out.grown hgq (fun i hi q => by have := (Own9.out.lt _ q).1; omega))
        have Ownq := Lib.hid ownq
        clear ownq hgq hatq HX9 HB9 HR9 HK9 KX9 Own9 hs9
        obtain ⟨Aw, cw, rfl, -, -, -⟩ := own_form Ownq.out
        have y3 : ∃ v, wq.cell? ⟨gx, 38, none⟩ = some v := ⟨_, (HXq.out.cell 38).trans (List.getElem?_eq_getElem (by rw [MsgR.len (withI_ok HOB.out (fun x hx => HO.out.i x (List.mem_of_mem_take hx)))]; omega))⟩
        obtain ⟨v3, y3⟩ := y3
        have f3 := HXq.out.frozen 38
        refine G.fc_nil (G.mt_end ?_)
        clear iM
        go_wp2
        obtain ⟨w4, hw4⟩ : ∃ w4, w4 = wq.setCell ⟨gx, 38, none⟩ (.slice Aw (j + 1) cw) := ⟨_, rfl⟩
        have HX4 : Hid (Blk w4 gx 63 (withI M1 Aw (m.is.take (j + 1)) cw).cells) := by
          rw [hw4]
          have q := HXq.out.set_ 38 (.slice Aw (j + 1) cw)
          rw [set38w (withI_ok HOB.out (fun x hx => HO.out.i x (List.mem_of_mem_take hx))) Aw (m.is.take (j + 1)) (j + 1) cw (by rw [List.length_take, HN.out]; omega)] at q
          exact Lib.hid q
        have HB4 : Hid (Blk w4 w.heap.size 50 m.cells) := by rw [hw4]; exact Lib.hid (HBq.out.far (by simp <;> omega) _)
        have HR4 : Hid (Blk w4 (w.heap.size + 1) 63 zs.toList) := by rw [hw4]; exact Lib.hid (HRq.out.far (by simp <;> omega) _)
        have Own4 : Hid (w4.ownsRow wc.heap.size 97 33 (.slice Aw (j + 1) cw) (j + 1) ((m.is.take (j + 1)).flatMap Itm.cells)) := by
          rw [hw4]
          refine Lib.hid (own_eq (ownsRow_setCell_below Ownq.out (a := ⟨gx, 38, none⟩) (by omega) _) rfl ?_)
          rw [HEL.out, List.take_add_one, HGE.out, List.flatMap_append]; simp
        have HK4 : Hid (Keep w w4) := by rw [hw4]; exact Lib.hid (Below.setCell HKq.out (by simp <;> omega) _)
        have KX4 : Hid (KeepX (fun k => k = gx) wc w4) := by rw [hw4]; exact Lib.hid (KeepB.set KXq.out 38 _)
        rw [← hw4]
        clear hw4 HXq HBq HRq Ownq HKq KXq y3 f3 HGE HEL HEO HBu HDS HOK HLJ RE8
        go_roundw
        case rel => exact ⟨j + 1, Aw, cw, by omega, by go_num, HX4, Own4, HB4, HR4, HK4, KX4⟩
        case measure => simp [intOf]; omega
      · obtain rfl : j = n := by omega
        have d4 : ¬ (j : Int) < j := by omega
        obtain ⟨Ai, ci, hAi, hci1, hci2, -⟩ := own_form Own.out
        obtain ⟨rfl, rfl⟩ : A = Ai ∧ c = ci := by injection hAi with h1 _ h3; exact ⟨h1, h3⟩
        clear hAi
        have ht : m.is.take j = m.is := List.take_of_length_le (by rw [HN.out]; omega)
        rw [ht] at HX Own
        obtain rfl := HM1.out
        have HO2 := Lib.hid (withI_ok HOB.out (A := A) (c := c) HO.out.i)
        have RH : Hid (wr.rangeAt w.heap.size 39 hv.toList) := Lib.hid (range_of HB.out 39 hv.toList (by
          rw [HHV.out.l, MsgR.cells39, List.drop_left' (MsgR.hd39_len HO.out.s)]
          unfold MsgR.blk
          rw [List.append_assoc, List.take_left' rfl]))
        have r107 : wr.cell? ⟨w.heap.size, 107, none⟩ = some (u32v m.total) := (HB.out.cell 107).trans ((MsgR.blk_tail HO.out 0 (by omega)).trans rfl)
        have r108 : wr.cell? ⟨w.heap.size, 108, none⟩ = some (.slice m.sA m.shs.length m.sc) := (HB.out.cell 108).trans ((MsgR.blk_tail HO.out 1 (by omega)).trans rfl)
        have r109 : wr.cell? ⟨w.heap.size, 109, none⟩ = some (.slice m.fA m.fs.length m.fc) := (HB.out.cell 109).trans ((MsgR.blk_tail HO.out 2 (by omega)).trans rfl)
        obtain ⟨wp, hstp, hbp, hgp⟩ := run_store_prt (P := Tryd.prog) 39 bs.toList HX.out (by rw [MsgR.len HO2.out, Array.length_toList, hbz]; omega) (by rw [HBS.out]; intro u hu; exact MsgR.one m u (by rw [MsgR.cells39]; simp [hu]))
        rw [HBS.out, MsgR.splice_blk HO2.out HO.out.b] at hbp
        have HBP := Lib.hid hbp; have HGP := Lib.hid hgp
        have HRP := Lib.hid (HR.out.grown hgp (fun q => by have := Option.some.inj q; omega))
        have HKP : Hid (Keep w wp) := Lib.hid (HK.out.grown hgp HK.out.size (fun q hq => by injection hq with hq; omega))
        clear hbp hgp
        obtain ⟨M3, hM3⟩ : ∃ M3, MsgR.mk m.kind m.proto m.nonce m.height m.hA m.hs m.hc m.lA m.ls m.lc m.stop A m.is c m.bh m.total m.sA m.shs m.sc m.fA m.fs m.fc ⟨m.t.ver, iA, m.t.ins, ic, oA, m.t.outs, oc, m.t.lock⟩ = M3 := ⟨_, rfl⟩
        have HBQ : Hid (Blk wp gx 63 M3.cells) := Lib.hid (by rw [← hM3]; exact HBP.out)
        have HO3 : M3.ok := by rw [← hM3]; exact ⟨HO.out.k, HO.out.n, HO.out.s, HO.out.b, HO.out.h, HO.out.l, HO.out.i, HO.out.z⟩
        obtain ⟨ds, hds⟩ : ∃ ds, MsB M3 ds := ⟨_, MsB.of HO3⟩
        have hdz := hds.z; have hdn := hds.n; have hdi := hds.i
        have HDS := Lib.hid hds
        have HBx : Hid (Blk wp gx 63 ds.toList) := Lib.hid (by rw [HDS.out.l]; exact HBQ.out)
        obtain ⟨w8, hst8, hb8, hg8⟩ := run_store_blk (P := Tryd.prog) ds.toList HRP.out (by rw [Array.length_toList, Array.length_toList, hzz, hdz]) HDS.out.o
        have Hb8 := Lib.hid hb8; have Hg8 := Lib.hid hg8
        have HM3 := Lib.hid hM3
        have HO3 := Lib.hid HO3
        clear hds hb8 hg8 HBP HBQ hM3 ht
        go_wp2_with (first | ((with_reducible refine load_partg w.heap.size 39 hv (Eq.trans ?_ rfl) RH.out _ Tryd.underlying42 rfl hvi rfl ?_); rfl) | ((with_reducible refine list_bldg [(0, .agg hv), (1, u32v m.total), (2, .slice m.sA m.shs.length m.sc), (3, .slice m.fA m.fs.length m.fc)] bs (Eq.trans ?_ rfl) BB.out (Eq.trans ?_ rfl) ?_); rfl; rfl) | ((with_reducible refine load_arr gx ds (Eq.trans ?_ rfl) HBx.out _ Tryd.underlying63 rfl hdi ?_); rfl))
        have KF : Keep w w8 := HKP.out.grown Hg8.out HKP.out.size (fun q hq => by injection hq with hq; omega)
        have KX8 : KeepX (fun k => k = gx ∨ k = w.heap.size + 1) wr w8 := ((KeepX.of (X := fun k => k = gx ∨ k = w.heap.size + 1) (Below.refl wr.heap.size wr)).grown HGP.out (fun i _ q => .inl (Option.some.inj q).symm)).grown Hg8.out (fun i _ q => .inr (Option.some.inj q).symm)
        have o1 := own_kx Own.out KX8 (fun g q e => by have := (Own.out.lt g q).1; omega)
        have hT := HT5.out w8 KF (fun k h1 h2 h3 => (KX8.2.2.2.2 k (Nat.lt_of_lt_of_le h2 KX.out.2.2.2.1) (by rintro (e | e) <;> omega)).trans (KX.out.2.2.2.2 k h2 h3))
        have hat : M3.at_ w8 := by
          rw [← HM3.out]
          exact ⟨by rw [HM3.out]; exact HO3.out, HM.out.h.keep KF, HM.out.hc, HM.out.l.keep KF, HM.out.lc, own_rd o1, ⟨by rw [HN.out]; exact hci1, hci2⟩, HM.out.s.keep KF, HM.out.sc, HM.out.f.keep KF, HM.out.fc, hT⟩
        exact bodyPost_ret (v := .agg ds) (results_cell_row Tryd.results20 _ _ (w.heap.size + 1) _ _ _ _ rfl Hb8.out Tryd.underlying63 rfl (by rw [List.size_toArray, Array.length_toList]; exact hdi)) rfl ⟨M3, ds, rfl, HDS.out, by rw [← HM3.out]; rfl, hat, KF⟩
end Go.Proofs.YtffpanlpbdnafaaDoor
