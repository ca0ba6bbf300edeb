/- Texts merged by pack.py: Tb, Tc, Wb, Wc. -/
import Derived.Test.YtjbdboekleaklaaGreatDoorCx7
import Derived.Test.YtjbdboekleaklaaGreatDoorCx5
import Derived.Shelf.Spec.BitsCarry
import Derived.Test.YtjbdboekleaklaaGreatDoorCx6
/- A tree in memory; Len, Find, Node. -/
set_option linter.unusedSimpArgs false
set_option linter.unusedVariables false
namespace Go.Proofs.YtjbdboekleaklaaGreatDoor
open Go.RowKit
attribute [local go_sem ↓] Go.wp_at_zero Go.wp_at_succ

theorem node_info : (Tryz.prog.info? 44).map (·.size) = some 106 := by kernel_rfl
structure NdA (n : Nd) (cs : Array Value) : Prop where
  l : cs.toList = n.cells
  z : cs.size = 106
  i : (Tryz.prog.info? 44).map (·.size) = some cs.size
  n : ¬ cs = #[]
  o : ∀ v ∈ cs.toList, v.oneCell' = true
theorem NdA.of {n : Nd} (hk : n.ok) : NdA n n.cells.toArray := by
  have hz : n.cells.toArray.size = 106 := by rw [List.size_toArray]; exact Nd.len hk
  exact ⟨rfl, hz, by rw [hz]; exact node_info, fun e => by rw [e] at hz; simp at hz, n.one⟩
theorem NdA.eq {n : Nd} {cs ds : Array Value} (h : NdA n cs) (g : NdA n ds) : cs = ds := by
  have := h.l.trans g.l.symm
  rw [← Array.toArray_toList (xs := cs), this, Array.toArray_toList]
def nd0 : Nd := ⟨z32, ⟨0, z32, z32, 0, 0, 0⟩, 0, 0, 0⟩
theorem nd0_ok : nd0.ok := ⟨rfl, ⟨rfl, rfl⟩, Nat.two_pow_pos _⟩
noncomputable def znode : Array Value := match (Tryz.prog.info? 44).bind (·.zero) with | some (.agg c) => c | _ => #[]
theorem znode_size : znode.size = 106 := by kernel_rfl
theorem znode_zero (w : World) : (zeroValue 44).run Tryz.prog w = .ok (.agg znode) w := by kernel_rfl
theorem znode_built : Tryz.prog.built 44 [] = some znode := by kernel_rfl
theorem nd0_cells : nd0.cells = z32.map u8v ++ (Hd.cells ⟨0, z32, z32, 0, 0, 0⟩ ++ [.int .i64 0, .int .i64 0, .int .u64 0, .int .u64 0, .int .u64 0, .int .u64 0]) := by
  simp [Nd.cells, nd0, uL, n64, limb0]
theorem znode_list : znode.toList = nd0.cells := by
  rw [nd0_cells]
  kernel_rfl
theorem znode_letter : ∃ zs : Array Value, zs.size = 106 ∧ (∀ w, (zeroValue 44).run Tryz.prog w = .ok (.agg zs) w) ∧ ¬ zs = #[] ∧ Hid (zs.toList = nd0.cells) ∧ Hid (Tryz.prog.built 44 [] = some zs) :=
  ⟨znode, znode_size, znode_zero, (show ¬ znode = #[] from fun h => by have e := znode_size; rw [h] at e; cases e), Lib.hid znode_list, Lib.hid znode_built⟩
set_option maxRecDepth 100000 in
theorem nodeT : ElT Tryz.prog 69 44 (Value.agg znode) 106 160 := ElT.mk' Tryz.underlying69 (by kernel_rfl) znode_size (by omega)

/-- A tree that is read. -/
def TrR (w : World) (T : Nat) (ns : List Nd) : Prop := ∃ most A c M, Blk w T 72 [.int .i64 most, .slice A ns.length c, .map (some M)] ∧ Rd w A (ns.flatMap Nd.cells) ∧ MapAt w M (ns.map Nd.id) ∧ ns.length ≤ c ∧ c ≤ maxLen
theorem TrR.keep {w w' : World} {T : Nat} {ns : List Nd} (h : TrR w T ns) (hk : Keep w w') : TrR w' T ns := by
  obtain ⟨m, A, c, M, h1, h2, h3, h4⟩ := h
  exact ⟨m, A, c, M, h1.keep hk, h2.keep hk, h3.keep hk, h4⟩
/-- A tree that is written. -/
structure TrO (w : World) (base T M : Nat) (v : Value) (most : Int) (ns : List Nd) : Prop where
  b : Blk w T 72 [.int .i64 most, v, .map (some M)]
  o : w.ownsRow base 44 106 v ns.length (ns.flatMap Nd.cells)
  m : MapAt w M (ns.map Nd.id)
  bT : base ≤ T
  bM : base ≤ M
  ne : T ≠ M
  vT : v.ownBlock ≠ some T
  vM : v.ownBlock ≠ some M
theorem TrO.r {w : World} {base T M : Nat} {v : Value} {most : Int} {ns : List Nd} (h : TrO w base T M v most ns) : TrR w T ns := by
  obtain ⟨A, c, rfl, h1, h2, h3⟩ := own_form h.o
  exact ⟨most, A, c, M, h.b, h3, h.m, h1, h2⟩
theorem TrO.keep {w w' : World} {base T M : Nat} {v : Value} {most : Int} {ns : List Nd} (h : TrO w base T M v most ns) (hk : Keep w w') : TrO w' base T M v most ns :=
  ⟨h.b.keep hk, own_keep h.o hk, h.m.keep hk, h.bT, h.bM, h.ne, h.vT, h.vM⟩

abbrev pT (T : Nat) : Value := .pointer (some ⟨T, 0, none⟩)
theorem node_at {w : World} {A : Option Addr} {ns : List Nd} (hr : Rd w A (ns.flatMap Nd.cells)) (hk : ∀ n ∈ ns, n.ok) {k : Nat} (h : k < ns.length) :
    ∃ b off, A = some ⟨b, off, none⟩ ∧ b < w.heap.size ∧ w.rangeAt b (off + k * 106) ns[k].cells := by
  have hlen : ∀ a ∈ ns, (Nd.cells a).length = 106 := fun a ha => Nd.len (hk a ha)
  obtain ⟨b, off, rfl, hb, F⟩ := hr.at (k := k * 106) (by rw [flatMap_len' _ 106 _ hlen]; omega)
  refine ⟨b, off, rfl, hb, fun j v hv => ?_⟩
  have hj : j < 106 := by rw [← hlen ns[k] (List.getElem_mem h)]; exact (List.getElem?_eq_some_iff.1 hv).1
  have hg := flatMap_get' Nd.cells 106 ns hlen k j h hj
  have hlt : k * 106 + j < (ns.flatMap Nd.cells).length := by rw [flatMap_len' _ 106 _ hlen]; omega
  have hc := F (k * 106 + j) hlt
  rw [Nat.add_assoc, hc, ← hv, ← hg, List.getElem?_eq_getElem hlt]

set_option maxRecDepth 100000 in
theorem tlen_any (T : Nat) (ns : List Nd) (w : World) (h : TrR w T ns) : Calls Tryz.prog 10 #[pT T] w fun e w' => e = .returned (iv ns.length) ∧ Keep w w' := by
  obtain ⟨most, A, c, M, hb, -, -, -, -⟩ := h
  have c1 := hb.cell 1
  simp only [List.getElem?_cons_succ, List.getElem?_cons_zero] at c1
  clear hb
  generalize ns.length = n at *
  go_enter Tryz.func10, Tryz.ntmps10
  go_wp2
  exact bodyPost_ret (v := iv n) (by simp [results, Tryz.results10]) rfl ⟨rfl, Below.refl _ _⟩

set_option maxRecDepth 100000 in
set_option maxHeartbeats 2000000 in
theorem find_any (T : Nat) (ns : List Nd) (id : List UInt8) (cs : Array Value) (w : World) (h : TrR w T ns) (hl : id.length = 32) (hcs : HashA id cs) :
    Calls Tryz.prog 17 #[pT T, .agg cs] w fun e w' => e = .returned (.tuple #[iv ((findN ns id).getD 0 : Nat), .bool (findN ns id).isSome]) ∧ Keep w w' := by
  obtain ⟨most, A, c, M, hb, -, hm, -, -⟩ := h
  have e : idxI (ns.map Nd.id) id = findN ns id := by unfold idxI findN; rw [List.findIdx?_map]; rfl
  have LK : Hid (∀ y, Keep w y → MapAt y M (ns.map Nd.id)) := Lib.hid fun y hy => hm.keep hy
  have E1 : Hid ((idxI (ns.map Nd.id) id).isSome = (findN ns id).isSome) := Lib.hid (by rw [e])
  have E2 : Hid ((idxI (ns.map Nd.id) id).getD 0 = (findN ns id).getD 0) := Lib.hid (by rw [e])
  have HB := Lib.hid hb
  have Hcs := Lib.hid hcs
  have Hl := Lib.hid hl
  have hcz := hcs.z; have hcn := hcs.n; have hci := hcs.i
  clear hb hm e hcs hl
  generalize (findN ns id).isSome = is at *
  generalize (findN ns id).getD 0 = fi at *
  generalize ns.length = n at *
  go_enter Tryz.func17, Tryz.ntmps17
  go_upto_region 3 with fail
  obtain ⟨w1, hw1⟩ : ∃ w1, w1 = w.alloc (.cells cs 36) := ⟨_, rfl⟩
  have HC1 : Hid (Blk w1 w.heap.size 36 cs.toList) := by rw [hw1]; exact Blk.new w _ cs.toList
  have HK1 : Hid (Keep w w1) := by rw [hw1]; exact keep_new _ _
  have HB1 : Hid (Blk w1 T 72 [.int .i64 most, .slice A n c, .map (some M)]) := Lib.hid (HB.out.keep HK1.out)
  rw [← hw1]
  clear hw1 HB
  refine wp_region_tree (.take [0,1,2,3,4] (.force [5] (.take [6,7,8,9,10] .done))) [] (by kernel_rfl) (by kernel_rfl) (fun w9 k9 => ?_)
  have HB9 := Lib.hid (HB1.out.keep k9)
  have HC9 := Lib.hid (HC1.out.keep k9)
  have HK9 := Lib.hid (keep_trans HK1.out k9)
  have q2 := aft_cell (HB9.out.cell 2)
  have RC : Hid (w9.rangeAt w.heap.size 0 cs.toList) := Lib.hid (range_of HC9.out 0 cs.toList (by simp [List.take_of_length_le]))
  clear k9 HB1 HC1 HK1
  refine mt_take w9 (Below.refl _ _) ?_
  simp only [pick_cons, pick_nil, nth_zero, nth_succ]
  repeat (first
    | ((with_reducible refine wpQuiet_load_partg w.heap.size 0 cs (Eq.trans ?_ rfl) RC.out _ Tryz.underlying36 rfl hci (Eq.trans ?_ rfl) ?_); rfl; rfl; simp only [Act.put, Array.set!_eq_setIfInBounds, List.setIfInBounds_toArray, List.set_cons_succ, List.set_cons_zero])
    | go_big_quiet_step (fail))
  refine wpQuiet_nil (mt_force ?_)
  simp only [pick_cons, pick_nil, nth_zero, nth_succ]
  refine fc_step rfl (fun K hK => ?_)
  refine wp_look (by rfl) M (ns.map Nd.id) id cs (by rfl) (by rfl) (LK.out _ HK9.out) Hcs.out Hl.out ?_
  rw [E1.out, E2.out]
  refine hK _ _ (Below.refl _ _) ?_
  simp only [Act.put, Array.set!_eq_setIfInBounds, List.setIfInBounds_toArray, List.set_cons_succ, List.set_cons_zero]
  clear hK K q2 RC
  refine fc_nil (mt_take w9 (Below.refl _ _) ?_)
  simp only [pick_cons, pick_nil, nth_zero, nth_succ]
  repeat (go_big_quiet_step (fail))
  refine wpQuiet_nil (mt_end ?_)
  go_wp2
  exact bodyPost_ret (v := .tuple #[iv (fi : Nat), .bool is]) (by simp [results, Tryz.results17]) rfl ⟨rfl, HK9.out⟩

def nodeO (ns : List Nd) (i : Int) : Option Nd := if 0 ≤ i then ns[i.toNat]? else none
theorem nodeO_nat (ns : List Nd) (i : Nat) : nodeO ns (i : Int) = ns[i]? := by unfold nodeO; rw [if_pos (by omega)]; simp
set_option maxRecDepth 100000 in
set_option maxHeartbeats 2000000 in
theorem node_any (T : Nat) (ns : List Nd) (i : Int) (w : World) (h : TrR w T ns) (hk : ∀ n ∈ ns, n.ok) (hl : ns.length ≤ 1048576) (hi : -9223372036854775808 ≤ i ∧ i ≤ 9223372036854775807) :
    Calls Tryz.prog 15 #[pT T, iv i] w fun e w' => ∃ ds, e = .returned (.tuple #[.agg ds, .bool (nodeO ns i).isSome]) ∧ NdA ((nodeO ns i).getD nd0) ds ∧ Keep w w' := by
  have LN : Hid (∀ y, Keep w y → Calls Tryz.prog 10 #[pT T] y fun e w' => e = .returned (iv ns.length) ∧ Keep y w') := Lib.hid fun y hy => tlen_any T ns y (h.keep hy)
  obtain ⟨most, A, c, M, hb, hr, -, -, -⟩ := h
  have HAT : Hid (∀ k, k < ns.length → i = k → ∃ b off, A = some ⟨b, off, none⟩ ∧ ∃ xs, NdA ((nodeO ns i).getD nd0) xs ∧ (nodeO ns i).isSome = true ∧ w.rangeAt b (off + k * 106) xs.toList) := Lib.hid fun k hlt e => by
    obtain ⟨b, off, h1, -, h2⟩ := node_at hr hk hlt
    refine ⟨b, off, h1, ns[k].cells.toArray, ?_, ?_, h2⟩
    · rw [e, nodeO_nat, List.getElem?_eq_getElem hlt]; exact NdA.of (hk _ (List.getElem_mem hlt))
    · rw [e, nodeO_nat, List.getElem?_eq_getElem hlt]; rfl
  have HNO : Hid (i < 0 ∨ (ns.length : Int) ≤ i → nodeO ns i = none) := Lib.hid fun e => by
    unfold nodeO
    by_cases h0 : 0 ≤ i
    · rw [if_pos h0, List.getElem?_eq_none (by omega)]
    · rw [if_neg h0]
  have HB := Lib.hid hb
  clear hb hr hk
  obtain ⟨zs, hz1, hz2, hz3, hz4, hz5⟩ := znode_letter
  have hzi : (Tryz.prog.info? 44).map (·.size) = some zs.size := by rw [hz1]; exact node_info
  have Hzo : Hid (∀ v ∈ zs.toList, v.oneCell' = true) := Lib.hid (by rw [hz4.out]; exact Nd.one _)
  have Hz0 : Hid (nodeO ns i = none → NdA ((nodeO ns i).getD nd0) zs) := Lib.hid fun e => by rw [e]; exact ⟨hz4.out, hz1, hzi, hz3, Hzo.out⟩
  clear hz4
  generalize nodeO ns i = O at *
  generalize ns.length = n at *
  go_enter Tryz.func15, Tryz.ntmps15
  go_upto_region 1 with fail
  obtain ⟨w1, hw1⟩ : ∃ w1, w1 = w.alloc (.cells zs 44) := ⟨_, rfl⟩
  have HR1 : Hid (Blk w1 w.heap.size 44 zs.toList) := by rw [hw1]; exact Blk.new w _ zs.toList
  have HK1 : Hid (Keep w w1) := by rw [hw1]; exact keep_new _ _
  rw [← hw1]
  clear hw1
  by_cases h0 : i < 0
  · have hO := HNO.out (Or.inl h0)
    have hA := Hz0.out hO
    obtain ⟨w8, hst8, hb8, hg8⟩ := run_store_blk (P := Tryz.prog) zs.toList HR1.out rfl Hzo.out
    have Hb8 := Lib.hid hb8; have Hg8 := Lib.hid hg8
    subst hO
    have HA := Lib.hid hA
    clear hb8 hg8 hA HNO HAT LN Hz0
    go_wp2_with ((with_reducible refine list_buildr [] zs (Eq.trans ?_ rfl) hz5.out ?_); rfl)
    have hb8 := Hb8.out
    exact bodyPost_ret (v := .tuple #[.agg zs, .bool false]) (results_cell_tmp_row Tryz.results15 _ _ w.heap.size _ _ _ _ rfl hb8 Tryz.underlying44 rfl (by rw [List.size_toArray, Array.length_toList]; exact hzi)) rfl ⟨zs, rfl, HA.out, HK1.out.grown Hg8.out HK1.out.size (fun q hq => by injection hq with hq; omega)⟩
  have d0 : ¬ i < 0 := h0
  go_wp2_with fail
  refine (LN.out _ HK1.out).mono ?_
  clear LN
  rintro e w2 ⟨rfl, k2⟩
  have HR2 := Lib.hid (HR1.out.keep k2)
  have HK2 := Lib.hid (keep_trans HK1.out k2)
  clear k2 HR1 HK1
  by_cases h1 : (n : Int) ≤ i
  · have hO := HNO.out (Or.inr h1)
    have hA := Hz0.out hO
    obtain ⟨w8, hst8, hb8, hg8⟩ := run_store_blk (P := Tryz.prog) zs.toList HR2.out rfl Hzo.out
    have Hb8 := Lib.hid hb8; have Hg8 := Lib.hid hg8
    subst hO
    have HA := Lib.hid hA
    clear hb8 hg8 hA HNO HAT Hz0
    go_wp2_with ((with_reducible refine list_buildr [] zs (Eq.trans ?_ rfl) hz5.out ?_); rfl)
    have hb8 := Hb8.out
    exact bodyPost_ret (v := .tuple #[.agg zs, .bool false]) (results_cell_tmp_row Tryz.results15 _ _ w.heap.size _ _ _ _ rfl hb8 Tryz.underlying44 rfl (by rw [List.size_toArray, Array.length_toList]; exact hzi)) rfl ⟨zs, rfl, HA.out, HK2.out.grown Hg8.out HK2.out.size (fun q hq => by injection hq with hq; omega)⟩
  obtain ⟨k, rfl⟩ : ∃ k : Nat, i = k := ⟨i.toNat, by omega⟩
  have hkn : k < n := by omega
  obtain ⟨b, off, rfl, xs, hxs, hO, hrx⟩ := HAT.out k hkn rfl
  have HX : Hid (w2.rangeAt b (off + k * 106) xs.toList) := Lib.hid fun i v hv => keep_cell HK2.out (hrx i v hv)
  have hxz := hxs.z; have hxn := hxs.n; have hxi := hxs.i
  obtain ⟨w8, hst8, hb8, hg8⟩ := run_store_blk (P := Tryz.prog) xs.toList HR2.out (by simp [hz1, hxz]) hxs.o
  have Hb8 := Lib.hid hb8; have Hg8 := Lib.hid hg8
  have Hxs := Lib.hid hxs
  obtain ⟨nx, rfl⟩ := Option.isSome_iff_exists.1 hO
  have hc := (HB.out.keep HK2.out).cell 1
  simp only [List.getElem?_cons_succ, List.getElem?_cons_zero] at hc
  clear hb8 hg8 hxs hrx HNO HAT Hz0
  go_wp2_with ((with_reducible refine load_partg b (off + k * 106) xs (Eq.trans ?_ rfl) HX.out _ Tryz.underlying44 rfl hxi rfl ?_); rfl)
  have hb8 := Hb8.out
  exact bodyPost_ret (v := .tuple #[.agg xs, .bool true]) (results_cell_tmp_row Tryz.results15 _ _ w.heap.size _ _ _ _ rfl hb8 Tryz.underlying44 rfl (by rw [List.size_toArray, Array.length_toList]; exact hxi)) rfl ⟨xs, rfl, Hxs.out, HK2.out.grown Hg8.out HK2.out.size (fun q hq => by injection hq with hq; omega)⟩
end Go.Proofs.YtjbdboekleaklaaGreatDoor

/- Line, Above; fork.Depth. (printed by gen_tc.py) -/
set_option linter.unusedSimpArgs false
set_option linter.unusedVariables false
namespace Go.Proofs.YtjbdboekleaklaaGreatDoor
open Go.RowKit
attribute [local go_sem ↓] Go.wp_at_zero Go.wp_at_succ

theorem nd_tail {n : Nd} (h : n.ok) (j : Nat) : n.cells[100 + j]? = (Value.int .i64 n.par :: Value.int .i64 n.hgt :: uL n.work)[j]? := by
  have e : n.cells = (n.id.map u8v ++ n.head.cells) ++ (Value.int .i64 n.par :: Value.int .i64 n.hgt :: uL n.work) := by simp [Nd.cells]
  have hl : (n.id.map u8v ++ n.head.cells).length = 100 := by simp [h.1, Hd.len h.2.1]
  rw [e, List.getElem?_append_right (by omega), hl, Nat.add_sub_cancel_left]
theorem nd_par {n : Nd} (h : n.ok) : n.cells[100]? = some (.int .i64 n.par) := nd_tail h 0
theorem nd_hgt {n : Nd} (h : n.ok) : n.cells[101]? = some (.int .i64 n.hgt) := nd_tail h 1
theorem intT : ElT Tryz.prog 27 3 (.int .i64 0) 1 8 := ElT.mk' Tryz.underlying27 (by kernel_rfl) rfl (by omega)
def zi (n : Nat) : Array Value := madeCells #[.int .i64 0] (n * 1)
theorem zi_list (n : Nat) : (zi n).toList = List.replicate n (.int .i64 0) := by
  apply List.ext_getElem
  · simp [zi, madeCells]
  · intro i h1 h2
    simp [zi, madeCells, Nat.mod_one]
theorem mk_ints (k : Nat) (hk : k ≤ 2000000) (W : World) : ∃ W', (∀ i : Int, i = k → (Instr.makeSlice 27 (.int .i64 i) (.int .i64 i)).run Tryz.prog W = .ok (.slice (some ⟨W.heap.size, 0, none⟩) k k) W') ∧
    Blk W' W.heap.size 3 (List.replicate k (.int .i64 0)) ∧ Keep W W' ∧ W'.heap.size = W.heap.size + 1 := by
  refine ⟨W.alloc (.cells (zi k) 3), fun i hi => ?_, ?_, keep_new _ _, by simp⟩
  · subst hi; rw [intT.make k k (Nat.le_refl _) (by omega) (by omega) W]; rfl
  · rw [← zi_list]; exact Blk.new W _ (zi k).toList
/-- Numbers in memory. -/
def nvL (l : List Nat) : List Value := l.map fun (k : Nat) => .int .i64 (k : Int)
theorem nvL_len (l : List Nat) : (nvL l).length = l.length := by simp [nvL]
/-- Zeros up to k; from there on the numbers. -/
def zupL (l : List Nat) (k : Nat) : List Value := List.replicate k (.int .i64 0) ++ nvL (l.drop k)
theorem zupL_len (l : List Nat) {k : Nat} (h : k ≤ l.length) : (zupL l k).length = l.length := by simp [zupL, nvL_len]; omega
theorem zupL_set (l : List Nat) {k x : Nat} (h : l[k]? = some x) : (zupL l (k + 1)).set k (.int .i64 (x : Int)) = zupL l k := by
  have hk := (List.getElem?_eq_some_iff.1 h).1
  have hx := (List.getElem?_eq_some_iff.1 h).2
  unfold zupL
  rw [List.replicate_succ', List.append_assoc, List.set_append_right _ _ (by simp), List.length_replicate, Nat.sub_self, List.drop_eq_getElem_cons hk, hx]
  simp [nvL]
theorem zupL_top (l : List Nat) : zupL l l.length = List.replicate l.length (.int .i64 0) := by simp [zupL, nvL]
theorem zupL_zero (l : List Nat) : zupL l 0 = nvL l := by simp [zupL]
def lineO (ns : List Nd) (i : Int) : List Nat := if 0 ≤ i ∧ i.toNat < ns.length then lineN ns i.toNat else []
theorem nodeO_ok {ns : List Nd} (hk : ∀ n ∈ ns, n.ok) (i : Int) : ((nodeO ns i).getD nd0).ok := by
  unfold nodeO
  split
  · cases h : ns[i.toNat]? with
    | none => exact nd0_ok
    | some n => exact hk n (List.mem_of_getElem? h)
  · exact nd0_ok
/-- A number's parent in memory. -/
theorem par_at {w : World} {A : Option Addr} {ns : List Nd} (hr : Rd w A (ns.flatMap Nd.cells)) (hk : ∀ n ∈ ns, n.ok) {k : Nat} (h : k < ns.length) :
    ∃ b off, A = some ⟨b, off, none⟩ ∧ b < w.heap.size ∧ w.cell? ⟨b, off + k * 106 + 100, none⟩ = some (.int .i64 (parN ns k)) ∧ w.cell? ⟨b, off + k * 106 + 101, none⟩ = some (.int .i64 (hgtN ns k : Int)) := by
  obtain ⟨b, off, h1, hb, h2⟩ := node_at hr hk h
  have ok := hk _ (List.getElem_mem h)
  have e := List.getElem?_eq_getElem h
  refine ⟨b, off, h1, hb, ?_, ?_⟩
  · rw [parN_of e]; exact h2 100 _ (nd_par ok)
  · rw [hgtN_of e]; exact h2 101 _ (nd_hgt ok)
def Lined (B : Nat) (ys : List Nat) (w : World) (e : Ending) (w' : World) : Prop := ∃ v, e = .returned v ∧ w'.ownsRow B 3 1 v ys.length (nvL ys) ∧ Keep w w'


set_option maxRecDepth 100000 in
set_option maxHeartbeats 4000000 in
theorem line_any (T : Nat) (ns : List Nd) (i : Int) (w : World) (h : TrR w T ns) (TR : Tr ns) (hl : ns.length ≤ 1048576) (hi : -9223372036854775808 ≤ i ∧ i ≤ 9223372036854775807) :
    Calls Tryz.prog 12 #[pT T, iv i] w (Lined w.heap.size (lineO ns i) w) := by
  have N1 : Hid (∀ y, Keep w y → Calls Tryz.prog 15 #[pT T, iv i] y fun e w' => ∃ ds, e = .returned (.tuple #[.agg ds, .bool (nodeO ns i).isSome]) ∧ NdA ((nodeO ns i).getD nd0) ds ∧ Keep y w') := Lib.hid fun y hy => node_any T ns i y (h.keep hy) TR.ok hl hi
  obtain ⟨most, A, c, M, hb, hr, -, -, -⟩ := h
  have PAR : Hid (∀ k, k < ns.length → ∃ b off, A = some ⟨b, off, none⟩ ∧ b < w.heap.size ∧ w.cell? ⟨b, off + k * 106 + 100, none⟩ = some (.int .i64 (parN ns k)) ∧ w.cell? ⟨b, off + k * 106 + 101, none⟩ = some (.int .i64 (hgtN ns k : Int))) := Lib.hid fun k hk => par_at hr TR.ok hk
  have HOK := Lib.hid (nodeO_ok TR.ok i)
  have HLN : Hid (nodeO ns i = none → lineO ns i = []) := Lib.hid fun e => by
    unfold nodeO at e; unfold lineO
    rw [if_neg]
    rintro ⟨a, b⟩
    rw [if_pos a, List.getElem?_eq_none_iff] at e
    omega
  have HLS : Hid (∀ x, nodeO ns i = some x → ∃ k : Nat, i = k ∧ k < ns.length ∧ lineO ns i = lineN ns k ∧ hgtN ns k = x.hgt) := Lib.hid fun x e => by
    unfold nodeO at e
    by_cases h0 : 0 ≤ i
    · rw [if_pos h0] at e
      have hlt := (List.getElem?_eq_some_iff.1 e).1
      exact ⟨i.toNat, by omega, hlt, by unfold lineO; rw [if_pos ⟨h0, hlt⟩], hgtN_of e⟩
    · rw [if_neg h0] at e; cases e
  have HB := Lib.hid hb
  have HK : Hid (Keep w w) := Lib.hid (Below.refl _ _)
  have hTw0 : T < w.heap.size := hb.lt
  clear hb hr
  obtain ⟨zs, hz1, hz2, hz3, -, -⟩ := znode_letter
  obtain ⟨O, hO⟩ : ∃ O, nodeO ns i = O := ⟨_, rfl⟩
  rw [hO] at N1 HOK HLN HLS
  clear hO
  obtain ⟨LO, hLO⟩ : ∃ LO, lineO ns i = LO := ⟨_, rfl⟩
  rw [hLO] at HLN HLS ⊢
  clear hLO
  generalize hn : ns.length = n at *
  unfold Lined
  go_enter Tryz.func12, Tryz.ntmps12
  go_wp2_with fail
  refine (N1.out _ HK.out).mono ?_
  clear N1
  rintro e w1 ⟨ds, rfl, hds, k1⟩
  have HB1 := Lib.hid (HB.out.keep k1)
  have HK1 := Lib.hid (keep_trans HK.out k1)
  clear k1 HB HK
  have hdsz := hds.z; have hdsn := hds.n; have hdsi := hds.i
  have hstds : (storeCells ⟨w1.heap.size, 0, none⟩ ds.toList 0).run Tryz.prog (w1.alloc (.cells zs 44)) = .ok () (w1.alloc (.cells ds 44)) := run_storeCells_new (P := Tryz.prog) w1 44 zs ds hdsi (hz1.trans hdsz.symm) (by have := all_oneCell_toArray hds.o; rwa [Array.toArray_toList] at this)
  have Hds := Lib.hid hds
  clear hds
  go_upto_region 2 with fail
  obtain ⟨w2, hw2⟩ : ∃ w2, w2 = w1.alloc (.cells ds 44) := ⟨_, rfl⟩
  have HB2 : Hid (Blk w2 T 72 [.int .i64 most, .slice A n c, .map (some M)]) := by rw [hw2]; exact Lib.hid (HB1.out.alloc _)
  have HGN2 : Hid (Blk w2 w1.heap.size 44 ds.toList) := by rw [hw2]; exact Lib.hid (Blk.new w1 44 ds.toList)
  have HK2 : Hid (Keep w w2) := by rw [hw2]; exact Lib.hid (keep_trans HK1.out (keep_new _ _))
  rw [← hw2]
  have hgs2 : w.heap.size ≤ w1.heap.size := HK1.out.size
  have hltHB2 := HB1.out.lt
  clear hw2 HB1 HK1
  generalize w1.heap.size = gn at *
  clear hstds
  have hgn : w.heap.size ≤ gn := hgs2
  cases O with
  | none =>
    have hL := HLN.out rfl
    subst hL
    clear HLN HLS PAR HOK Hds
    go_wp2
    exact bodyPost_ret (v := .slice none 0 0) (by simp [results, Tryz.results12]) rfl ⟨_, rfl, World.ownsRow_nil _ _ _ _, HK2.out⟩
  | some x =>
  obtain ⟨k, rfl, hkn, rfl, hkx⟩ := HLS.out x rfl
  have hle := TR.le k (by omega)
  have c101 : w2.cell? ⟨gn, 101, none⟩ = some (.int .i64 (x.hgt : Int)) := (HGN2.out.cell 101).trans (by rw [Hds.out.l]; exact nd_hgt HOK.out)
  rw [← hkx] at c101
  obtain ⟨hh, hhe⟩ : ∃ hh, hgtN ns k = hh := ⟨_, rfl⟩
  rw [hhe] at c101 hle
  have hw1 : IntKind.i64.wrap ((hh : Int) + 1) = (hh : Int) + 1 := IntWalk.i64_in _ (by omega)
  obtain ⟨wm, hmk, hbm, km, hsz⟩ := mk_ints (hh + 1) (by omega) w2
  have hmk2 := hmk ((hh : Int) + 1) (by omega)
  have HBM := Lib.hid hbm
  have HKm := Lib.hid (keep_trans HK2.out km)
  have HBm := Lib.hid (HB2.out.keep km)
  have c101m : wm.cell? ⟨gn, 101, none⟩ = some (.int .i64 (hh : Int)) := keep_cell km c101
  have hgm : w.heap.size ≤ w2.heap.size := HK2.out.size
  have hTw : T < w2.heap.size := HB2.out.lt
  have hTne : T ≠ w2.heap.size := by omega
  have hll : (lineN ns k).length = hh + 1 := by rw [line_len, hhe]
  clear HLN HLS hbm hmk km hsz HOK Hds
  go_wp2_with fail
  clear c101 c101m hmk2 HGN2 HB2 HK2
  generalize w2.heap.size = gm at *
  go_loopw [1, 8] (fun iv_ kv wr => ∃ j : Nat, j ≤ hh + 1 ∧ kv = .int .i64 ((j : Int) - 1) ∧ (j = 0 ∨ ∃ q : Nat, iv_ = .int .i64 (q : Int) ∧ q = upN ns k (hh + 1 - j)) ∧ Hid (Blk wr gm 3 (zupL (lineN ns k) j)) ∧ Hid (Blk wr T 72 [.int .i64 most, .slice A n c, .map (some M)]) ∧ Hid (Keep w wr)) (fun _ kv _ => (intOf kv + 1).toNat)
  case atStart => exact ⟨hh + 1, Nat.le_refl _, by go_num, Or.inr ⟨k, rfl, by rw [Nat.sub_self]; rfl⟩, by rw [← hll, zupL_top, hll]; exact HBM, HBm, HKm⟩
  case round =>
    obtain ⟨j, hj, rfl, hq, HP, HT, HKr⟩ := hrel
    by_cases h0 : j = 0
    · subst h0
      have d0 : ¬ (0 : Int) ≤ ((0 : Nat) : Int) - 1 := by omega
      have hP := HP.out
      rw [zupL_zero] at hP
      have hown : wr.ownsRow w.heap.size 3 1 (.slice (some ⟨gm, 0, none⟩) (hh + 1) (hh + 1)) (lineN ns k).length (nvL (lineN ns k)) := by
        rw [hll]
        refine ⟨by rw [nvL_len, hll]; omega, .inr ⟨gm, hh + 1, (nvL (lineN ns k)).toArray, rfl, hgm, hP, Nat.le_refl _, by unfold maxLen; omega, by rw [List.size_toArray, nvL_len, hll]; omega, ?_⟩⟩
        rw [List.take_of_length_le (by rw [nvL_len, hll]; omega)]
      have HOWN := Lib.hid hown
      clear hll hown hP HP PAR hq HBM HBm HKm
      go_wp2
      exact bodyPost_ret (v := .slice (some ⟨gm, 0, none⟩) (hh + 1) (hh + 1)) (by simp [results, Tryz.results12]) rfl ⟨_, rfl, HOWN.out, HKr.out⟩
    · obtain ⟨j, rfl⟩ : ∃ j', j = j' + 1 := ⟨j - 1, by omega⟩
      obtain ⟨q, hqe, hqu⟩ := hq.resolve_left h0
      subst hqe
      have hup := TR.upK (by omega : k < ns.length) (hh + 1 - (j + 1)) (by omega)
      rw [← hqu] at hup
      obtain ⟨b, off, rfl, hbw, hp, -⟩ := PAR.out q (by omega)
      have hcell := HP.out.cell j
      have hplen := zupL_len (lineN ns k) (k := j + 1) (by omega)
      have hjv : ∃ v, (zupL (lineN ns k) (j + 1))[j]? = some v := ⟨_, List.getElem?_eq_getElem (by omega)⟩
      obtain ⟨v0, hv0⟩ := hjv
      rw [hv0] at hcell
      have hfr := HP.out.frozen j
      have hlat : (lineN ns k)[j]? = some q := by
        rw [line_at (by omega), hhe, hqu]
        congr 2; omega
      have HQU := Lib.hid hqu
      clear hqu
      have d0 : (0 : Int) ≤ ((j + 1 : Nat) : Int) - 1 := by omega
      have d1 : ((j + 1 : Nat) : Int) - 1 = (j : Int) := by omega
      have d2 : (j : Int) < (hh : Int) + 1 := by omega
      have d3 : (q : Int) < n := by omega
      obtain ⟨w3, hw3⟩ : ∃ w3, w3 = wr.setCell ⟨gm, j, none⟩ (.int .i64 (q : Int)) := ⟨_, rfl⟩
      have HP3 : Hid (Blk w3 gm 3 (zupL (lineN ns k) j)) := by
        rw [hw3]
        have h1 := HP.out.set_ j (.int .i64 (q : Int))
        rw [zupL_set _ hlat] at h1
        exact h1
      have HT3 : Hid (Blk w3 T 72 [.int .i64 most, .slice (some ⟨b, off, none⟩) n c, .map (some M)]) := by rw [hw3]; exact HT.out.far (by simp; omega) _
      have HK3 : Hid (Keep w w3) := by rw [hw3]; exact Below.setCell HKr.out (by simp; omega) _
      go_upto_region 9 with fail
      rw [← hw3]
      clear hw3 hcell hfr HP HT HKr
      have hp3 := keep_cell HK3.out hp
      have ct := HT3.out.cell 1
      simp only [List.getElem?_cons_succ, List.getElem?_cons_zero] at ct
      have hnext : j = 0 ∨ ∃ q' : Nat, (Value.int .i64 (parN ns q)) = .int .i64 (q' : Int) ∧ q' = upN ns k (hh + 1 - j) := by
        by_cases hj0 : j = 0
        · exact .inl hj0
        · refine .inr ⟨(parN ns q).toNat, ?_, ?_⟩
          · have := (TR.par ((TR.pos (by omega)).1 (by omega)) (by omega : q < ns.length)).2.1
            rw [← this]
          · rw [HQU.out, show hh + 1 - j = (hh + 1 - (j + 1)) + 1 by omega]; rfl
      have HNX := Lib.hid hnext
      clear hnext HQU hlat hplen hv0 hup
      generalize parN ns q = pq at *
      go_wp2
      go_roundw
      case rel => exact ⟨j, by omega, by go_num, HNX.out, HP3, HT3, HK3⟩
      case measure => simp [intOf] <;> omega
theorem nodeO_some {ns : List Nd} {i : Int} {x : Nd} (e : nodeO ns i = some x) : ∃ k : Nat, i = k ∧ k < ns.length ∧ hgtN ns k = x.hgt := by
  unfold nodeO at e
  by_cases h0 : 0 ≤ i
  · rw [if_pos h0] at e
    have hlt := (List.getElem?_eq_some_iff.1 e).1
    exact ⟨i.toNat, by omega, hlt, hgtN_of e⟩
  · rw [if_neg h0] at e; cases e
def abvO (ns : List Nd) (i h : Int) : Option Nat := if (nodeO ns i).isSome = true ∧ 0 ≤ h ∧ h ≤ ((nodeO ns i).getD nd0).hgt then some (abvN ns i.toNat h.toNat) else none
set_option maxRecDepth 100000 in
set_option maxHeartbeats 4000000 in
theorem above_any (T : Nat) (ns : List Nd) (i hh : Int) (w : World) (h : TrR w T ns) (TR : Tr ns) (hl : ns.length ≤ 1048576) (hi : -9223372036854775808 ≤ i ∧ i ≤ 9223372036854775807) :
    Calls Tryz.prog 18 #[pT T, iv i, iv hh] w fun e w' => e = .returned (.tuple #[iv ((abvO ns i hh).getD 0 : Nat), .bool (abvO ns i hh).isSome]) ∧ Keep w w' := by
  have N1 : Hid (∀ y, Keep w y → Calls Tryz.prog 15 #[pT T, iv i] y fun e w' => ∃ ds, e = .returned (.tuple #[.agg ds, .bool (nodeO ns i).isSome]) ∧ NdA ((nodeO ns i).getD nd0) ds ∧ Keep y w') := Lib.hid fun y hy => node_any T ns i y (h.keep hy) TR.ok hl hi
  obtain ⟨most, A, c, M, hb, hr, -, -, -⟩ := h
  have PAR : Hid (∀ k, k < ns.length → ∃ b off, A = some ⟨b, off, none⟩ ∧ b < w.heap.size ∧ w.cell? ⟨b, off + k * 106 + 100, none⟩ = some (.int .i64 (parN ns k)) ∧ w.cell? ⟨b, off + k * 106 + 101, none⟩ = some (.int .i64 (hgtN ns k : Int))) := Lib.hid fun k hk => par_at hr TR.ok hk
  have HNS : Hid (∀ x, nodeO ns i = some x → ∃ k : Nat, i = k ∧ k < ns.length ∧ hgtN ns k = x.hgt) := Lib.hid fun x e => nodeO_some e
  have HOK := Lib.hid (nodeO_ok TR.ok i)
  have HAO : Hid (∀ x, abvO ns i hh = x → x = if (nodeO ns i).isSome = true ∧ 0 ≤ hh ∧ hh ≤ ((nodeO ns i).getD nd0).hgt then some (abvN ns i.toNat hh.toNat) else none) := Lib.hid fun x e => by subst e; rfl
  replace HAO := Lib.hid (HAO.out _ rfl)
  have HB := Lib.hid hb
  have HK : Hid (Keep w w) := Lib.hid (Below.refl _ _)
  clear hb hr
  obtain ⟨zs, hz1, hz2, hz3, -, -⟩ := znode_letter
  generalize abvO ns i hh = AO at *
  generalize nodeO ns i = O at *
  generalize hn : ns.length = n at *
  go_enter Tryz.func18, Tryz.ntmps18
  go_wp2_with fail
  refine (N1.out _ HK.out).mono ?_
  clear N1
  rintro e w1 ⟨ds, rfl, hds, k1⟩
  have HB1 := Lib.hid (HB.out.keep k1)
  have HK1 := Lib.hid (keep_trans HK.out k1)
  clear k1 HB HK
  have hdsz := hds.z; have hdsn := hds.n; have hdsi := hds.i
  have hstds : (storeCells ⟨w1.heap.size, 0, none⟩ ds.toList 0).run Tryz.prog (w1.alloc (.cells zs 44)) = .ok () (w1.alloc (.cells ds 44)) := run_storeCells_new (P := Tryz.prog) w1 44 zs ds hdsi (hz1.trans hdsz.symm) (by have := all_oneCell_toArray hds.o; rwa [Array.toArray_toList] at this)
  have Hds := Lib.hid hds
  clear hds
  go_upto_region 2 with fail
  obtain ⟨w2, hw2⟩ : ∃ w2, w2 = w1.alloc (.cells ds 44) := ⟨_, rfl⟩
  have HB2 : Hid (Blk w2 T 72 [.int .i64 most, .slice A n c, .map (some M)]) := by rw [hw2]; exact Lib.hid (HB1.out.alloc _)
  have HGN2 : Hid (Blk w2 w1.heap.size 44 ds.toList) := by rw [hw2]; exact Lib.hid (Blk.new w1 44 ds.toList)
  have HK2 : Hid (Keep w w2) := by rw [hw2]; exact Lib.hid (keep_trans HK1.out (keep_new _ _))
  rw [← hw2]
  have hgs2 : w.heap.size ≤ w1.heap.size := HK1.out.size
  have hltHB2 := HB1.out.lt
  clear hw2 HB1 HK1
  generalize w1.heap.size = gn at *
  clear hstds
  cases O with
  | none =>
    have hA := HAO.out
    rw [if_neg (by simp)] at hA
    subst hA
    clear HAO PAR HOK Hds HNS
    go_wp2
    exact bodyPost_ret (v := .tuple #[iv 0, .bool false]) (by simp [results, Tryz.results18]) rfl ⟨rfl, HK2.out⟩
  | some x =>
  obtain ⟨k, rfl, hkn, hkx⟩ := HNS.out x rfl
  by_cases h0 : hh < 0
  · have hA := HAO.out
    rw [if_neg (by rintro ⟨-, a, -⟩; omega)] at hA
    subst hA
    clear HAO PAR HOK Hds HNS
    go_wp2
    exact bodyPost_ret (v := .tuple #[iv 0, .bool false]) (by simp [results, Tryz.results18]) rfl ⟨rfl, HK2.out⟩
  have c101 : w2.cell? ⟨gn, 101, none⟩ = some (iv (x.hgt : Int)) := (HGN2.out.cell 101).trans (by rw [Hds.out.l]; exact nd_hgt HOK.out)
  by_cases h1 : (x.hgt : Int) < hh
  · have hA := HAO.out
    rw [if_neg (by rintro ⟨-, -, a⟩; simp at a; omega)] at hA
    subst hA
    clear HAO PAR HOK Hds HNS
    go_wp2
    exact bodyPost_ret (v := .tuple #[iv 0, .bool false]) (by simp [results, Tryz.results18]) rfl ⟨rfl, HK2.out⟩
  obtain ⟨g, rfl⟩ : ∃ g : Nat, hh = g := ⟨hh.toNat, by omega⟩
  have hA := HAO.out
  rw [if_pos ⟨rfl, by omega, by simp; omega⟩, Int.toNat_natCast, Int.toNat_natCast] at hA
  subst hA
  have hgx : g ≤ hgtN ns k := by omega
  have d1 : ¬ ((x.hgt : Int) < (g : Int)) := h1
  have d0 : ¬ ((g : Int) < 0) := h0
  clear HAO HOK Hds HNS
  go_wp2_with fail
  clear c101 HGN2
  go_loopw [1] (fun iv_ wr => ∃ m q : Nat, m ≤ hgtN ns k - g ∧ iv_ = .int .i64 (q : Int) ∧ Hid (q = upN ns k m) ∧ Hid (Blk wr T 72 [.int .i64 most, .slice A n c, .map (some M)]) ∧ Hid (Keep w wr)) (fun iv_ _ => (intOf iv_).toNat)
  case atStart => exact ⟨0, k, by omega, rfl, Lib.hid rfl, HB2, HK2⟩
  case round =>
    obtain ⟨m, q, hm, rfl, HQ, HT, HKr⟩ := hrel
    have hup := TR.upK (by omega : k < ns.length) m (by omega)
    rw [← HQ.out] at hup
    obtain ⟨b, off, rfl, hbw, hp, hg⟩ := PAR.out q (by omega)
    have hp := keep_cell HKr.out hp
    have hg := keep_cell HKr.out hg
    have ct := HT.out.cell 1
    simp only [List.getElem?_cons_succ, List.getElem?_cons_zero] at ct
    have d3 : (q : Int) < n := by omega
    by_cases hlt : g < hgtN ns q
    · have hq0 : 0 < q := (TR.pos (by omega)).1 (by omega)
      obtain ⟨p1, p2, p3⟩ := TR.par hq0 (by omega)
      obtain ⟨r, hr⟩ : ∃ r, (parN ns q).toNat = r := ⟨_, rfl⟩
      have hnx : r = upN ns k (m + 1) := by rw [← hr, upN, ← HQ.out]
      rw [hr] at p1 p2
      rw [p2] at hp
      have HNX := Lib.hid hnx
      obtain ⟨hq, hhq⟩ : ∃ hq, hgtN ns q = hq := ⟨_, rfl⟩
      rw [hhq] at hg hlt
      have d4 : (g : Int) < hq := by omega
      have hm2 : m + 1 ≤ hgtN ns k - g := by omega
      clear hnx HQ hup p2 p3 hr hhq
      go_wp2
      go_roundw
      case rel => exact ⟨m + 1, r, hm2, rfl, HNX, HT, HKr⟩
      case measure => simp [intOf]; omega
    · have hme : m = hgtN ns k - g := by omega
      have hqa : q = abvN ns k g := by unfold abvN; rw [← hme]; exact HQ.out
      obtain ⟨hq, hhq⟩ : ∃ hq, hgtN ns q = hq := ⟨_, rfl⟩
      rw [hhq] at hg hlt
      have d4 : ¬ (g : Int) < hq := by omega
      subst hqa
      clear HQ hup hhq hp
      go_wp2
      exact bodyPost_ret (v := .tuple #[iv (abvN ns k g : Nat), .bool true]) (by simp [results, Tryz.results18]) rfl ⟨rfl, HKr.out⟩
/-- Depth's answer. -/
def depR (ns : List Nd) (tip i : Int) : Option Nat := if (nodeO ns i).isSome = true ∧ (abvO ns tip ((nodeO ns i).getD nd0).hgt).map (fun q => (q : Int)) = some i then some (hgtN ns tip.toNat - ((nodeO ns i).getD nd0).hgt + 1) else none
theorem abvO_some {ns : List Nd} {i h : Int} {q : Nat} (e : abvO ns i h = some q) : ∃ k g : Nat, i = k ∧ h = g ∧ k < ns.length ∧ g ≤ hgtN ns k ∧ q = abvN ns k g := by
  unfold abvO at e
  split at e
  · rename_i hc
    obtain ⟨a, b, c⟩ := hc
    obtain ⟨x, hx⟩ := Option.isSome_iff_exists.1 a
    obtain ⟨k, h1, h2, h3⟩ := nodeO_some hx
    rw [hx] at c
    simp only [Option.getD_some] at c
    refine ⟨k, h.toNat, h1, by omega, h2, by omega, ?_⟩
    rw [h1] at e
    exact (Option.some.inj e).symm
  · cases e
set_option maxRecDepth 100000 in
set_option maxHeartbeats 4000000 in
theorem depth_any (T : Nat) (ns : List Nd) (tip i : Int) (w : World) (h : TrR w T ns) (TR : Tr ns) (hl : ns.length ≤ 1048576) (hi : -9223372036854775808 ≤ i ∧ i ≤ 9223372036854775807) (hti : -9223372036854775808 ≤ tip ∧ tip ≤ 9223372036854775807) :
    Calls Tryz.prog 14 #[pT T, iv tip, iv i] w fun e w' => e = .returned (.tuple #[iv ((depR ns tip i).getD 0 : Nat), .bool (depR ns tip i).isSome]) ∧ Keep w w' := by
  have N1 : Hid (∀ y, Keep w y → Calls Tryz.prog 15 #[pT T, iv i] y fun e w' => ∃ ds, e = .returned (.tuple #[.agg ds, .bool (nodeO ns i).isSome]) ∧ NdA ((nodeO ns i).getD nd0) ds ∧ Keep y w') := Lib.hid fun y hy => node_any T ns i y (h.keep hy) TR.ok hl hi
  have N2 : Hid (∀ y, Keep w y → Calls Tryz.prog 15 #[pT T, iv tip] y fun e w' => ∃ ds, e = .returned (.tuple #[.agg ds, .bool (nodeO ns tip).isSome]) ∧ NdA ((nodeO ns tip).getD nd0) ds ∧ Keep y w') := Lib.hid fun y hy => node_any T ns tip y (h.keep hy) TR.ok hl hti
  have AB : Hid (∀ y, Keep w y → Calls Tryz.prog 18 #[pT T, iv tip, iv (((nodeO ns i).getD nd0).hgt : Nat)] y fun e w' => e = .returned (.tuple #[iv ((abvO ns tip ((nodeO ns i).getD nd0).hgt).getD 0 : Nat), .bool (abvO ns tip ((nodeO ns i).getD nd0).hgt).isSome]) ∧ Keep y w') := Lib.hid fun y hy => above_any T ns tip _ y (h.keep hy) TR hl hti
  have HOK := Lib.hid (nodeO_ok TR.ok i)
  have HOK2 := Lib.hid (nodeO_ok TR.ok tip)
  have HDR : Hid (∀ x, depR ns tip i = x → x = if (nodeO ns i).isSome = true ∧ (abvO ns tip ((nodeO ns i).getD nd0).hgt).map (fun q => (q : Int)) = some i then some (hgtN ns tip.toNat - ((nodeO ns i).getD nd0).hgt + 1) else none) := Lib.hid fun x e => by subst e; rfl
  replace HDR := Lib.hid (HDR.out _ rfl)
  have HTOP : Hid (∀ q, abvO ns tip ((nodeO ns i).getD nd0).hgt = some q → ((nodeO ns tip).getD nd0).hgt = hgtN ns tip.toNat ∧ ((nodeO ns i).getD nd0).hgt ≤ hgtN ns tip.toNat ∧ hgtN ns tip.toNat ≤ 1048576) := Lib.hid fun q e => by
    obtain ⟨k, g, h1, h2, h3, h4, -⟩ := abvO_some e
    have hle := TR.le k h3
    subst h1
    rw [nodeO_nat, List.getElem?_eq_getElem h3, Int.toNat_natCast, hgtN_of (List.getElem?_eq_getElem h3)]
    rw [hgtN_of (List.getElem?_eq_getElem h3)] at h4 hle
    exact ⟨rfl, by omega, by omega⟩
  have HK : Hid (Keep w w) := Lib.hid (Below.refl _ _)
  clear h
  obtain ⟨zs, hz1, hz2, hz3, -, -⟩ := znode_letter
  generalize depR ns tip i = DR at *
  generalize hgtN ns tip.toNat = ht at *
  generalize abvO ns tip ((nodeO ns i).getD nd0).hgt = AO at *
  generalize nodeO ns i = O at *
  generalize nodeO ns tip = OT at *
  go_enter Tryz.func14, Tryz.ntmps14
  go_wp2_with fail
  refine (N1.out _ HK.out).mono ?_
  clear N1
  rintro e w1 ⟨ds, rfl, hds, k1⟩
  have HK1 := Lib.hid (keep_trans HK.out k1)
  clear k1  HK
  have hdsz := hds.z; have hdsn := hds.n; have hdsi := hds.i
  have hstds : (storeCells ⟨w1.heap.size, 0, none⟩ ds.toList 0).run Tryz.prog (w1.alloc (.cells zs 44)) = .ok () (w1.alloc (.cells ds 44)) := run_storeCells_new (P := Tryz.prog) w1 44 zs ds hdsi (hz1.trans hdsz.symm) (by have := all_oneCell_toArray hds.o; rwa [Array.toArray_toList] at this)
  have Hds := Lib.hid hds
  clear hds
  go_upto_region 2 with fail
  obtain ⟨w2, hw2⟩ : ∃ w2, w2 = w1.alloc (.cells ds 44) := ⟨_, rfl⟩
  have HGN2 : Hid (Blk w2 w1.heap.size 44 ds.toList) := by rw [hw2]; exact Lib.hid (Blk.new w1 44 ds.toList)
  have HK2 : Hid (Keep w w2) := by rw [hw2]; exact Lib.hid (keep_trans HK1.out (keep_new _ _))
  rw [← hw2]
  have hgs2 : w.heap.size ≤ w1.heap.size := HK1.out.size
  clear hw2  HK1
  generalize w1.heap.size = gn at *
  clear hstds
  cases O with
  | none =>
    have hD := HDR.out
    rw [if_neg (by simp)] at hD
    subst hD
    clear HDR HOK HOK2 Hds HTOP N2 AB
    go_wp2
    exact bodyPost_ret (v := .tuple #[iv 0, .bool false]) (by simp [results, Tryz.results14]) rfl ⟨rfl, HK2.out⟩
  | some x =>
  have c101 : w2.cell? ⟨gn, 101, none⟩ = some (iv (x.hgt : Int)) := (HGN2.out.cell 101).trans (by rw [Hds.out.l]; exact nd_hgt HOK.out)
  have AB2 : Hid (∀ y, Keep w y → Calls Tryz.prog 18 #[pT T, iv tip, iv (x.hgt : Nat)] y fun e w' => e = .returned (.tuple #[iv (AO.getD 0 : Nat), .bool AO.isSome]) ∧ Keep y w') := AB
  clear AB
  go_wp2_with fail
  refine (AB2.out _ HK2.out).mono ?_
  clear AB2 c101
  rintro e w3 ⟨rfl, k3⟩
  have HGN3 := Lib.hid (HGN2.out.keep k3)
  have HK3 := Lib.hid (keep_trans HK2.out k3)
  clear k3 HGN2 HK2
  cases AO with
  | none =>
    have hD := HDR.out
    rw [if_neg (by simp)] at hD
    subst hD
    clear HDR HOK HOK2 Hds HTOP N2 HGN3
    go_wp2
    exact bodyPost_ret (v := .tuple #[iv 0, .bool false]) (by simp [results, Tryz.results14]) rfl ⟨rfl, HK3.out⟩
  | some q =>
  have HT := Lib.hid (HTOP.out q rfl)
  clear HTOP
  by_cases hqi : (q : Int) = i
  case neg =>
    have d1 : ((q : Int) == i) = false := by simp [hqi]
    have d2 : ((q : Int) != i) = true := by simp [hqi]
    have hD := HDR.out
    rw [if_neg (by rintro ⟨-, a⟩; simp at a; exact hqi a)] at hD
    subst hD
    clear HDR HOK HOK2 Hds HT N2 HGN3
    go_wp2
    exact bodyPost_ret (v := .tuple #[iv 0, .bool false]) (by simp [results, Tryz.results14]) rfl ⟨rfl, HK3.out⟩
  subst hqi
  have hD := HDR.out
  rw [if_pos ⟨rfl, by simp⟩] at hD
  subst hD
  have s1 : ((q : Int) == (q : Int)) = true := beq_self_eq_true _
  clear HDR
  go_wp2_with fail
  refine (N2.out _ HK3.out).mono ?_
  clear N2
  rintro e w4 ⟨es, rfl, hes, k4⟩
  have HGN4 := Lib.hid (HGN3.out.keep k4)
  have HK4 := Lib.hid (keep_trans HK3.out k4)
  clear k4 HGN3 HK3
  have hesz := hes.z; have hesn := hes.n; have hesi := hes.i
  have hstes : (storeCells ⟨w4.heap.size, 0, none⟩ es.toList 0).run Tryz.prog (w4.alloc (.cells zs 44)) = .ok () (w4.alloc (.cells es 44)) := run_storeCells_new (P := Tryz.prog) w4 44 zs es hesi (hz1.trans hesz.symm) (by have := all_oneCell_toArray hes.o; rwa [Array.toArray_toList] at this)
  have Hes := Lib.hid hes
  clear hes
  go_upto_region 8 with fail
  obtain ⟨w5, hw5⟩ : ∃ w5, w5 = w4.alloc (.cells es 44) := ⟨_, rfl⟩
  have HGN5 : Hid (Blk w5 gn 44 ds.toList) := by rw [hw5]; exact Lib.hid (HGN4.out.alloc _)
  have HGT5 : Hid (Blk w5 w4.heap.size 44 es.toList) := by rw [hw5]; exact Lib.hid (Blk.new w4 44 es.toList)
  have HK5 : Hid (Keep w w5) := by rw [hw5]; exact Lib.hid (keep_trans HK4.out (keep_new _ _))
  rw [← hw5]
  have hgs5 : w.heap.size ≤ w4.heap.size := HK4.out.size
  have hltHGN5 := HGN4.out.lt
  clear hw5 HGN4 HK4
  generalize w4.heap.size = gt at *
  clear hstes
  have hT := HT.out
  have c101 : w5.cell? ⟨gn, 101, none⟩ = some (iv (x.hgt : Int)) := (HGN5.out.cell 101).trans (by rw [Hds.out.l]; exact nd_hgt HOK.out)
  have t101 : w5.cell? ⟨gt, 101, none⟩ = some (iv (ht : Int)) := (HGT5.out.cell 101).trans (by rw [Hes.out.l, ← hT.1]; exact nd_hgt HOK2.out)
  simp only [Option.getD_some] at hT
  obtain ⟨-, hx1, hx2⟩ := hT
  obtain ⟨xh, hxh⟩ : ∃ z, x.hgt = z := ⟨_, rfl⟩
  rw [hxh] at c101 hx1
  have f1 : (ht : Int) - (xh : Int) = ((ht - xh : Nat) : Int) := by omega
  have f2 : IntKind.i64.wrap ((ht - xh : Nat) : Int) = ((ht - xh : Nat) : Int) := IntWalk.i64_in _ (by omega)
  have f3 : IntKind.i64.wrap (((ht - xh : Nat) : Int) + 1) = ((ht - xh + 1 : Nat) : Int) := by rw [IntWalk.i64_in _ (by omega)]; omega
  clear HT HOK HOK2 Hds Hes HGN5 HGT5
  go_wp2
  exact bodyPost_ret (v := .tuple #[iv ((ht - xh + 1 : Nat) : Int), .bool true]) (by simp [results, Tryz.results14]) rfl ⟨by rw [← hxh]; rfl, HK5.out⟩
end Go.Proofs.YtjbdboekleaklaaGreatDoor

/- u256: Add, Sub, Not. (printed by gen_wb.py) -/
set_option linter.unusedSimpArgs false
set_option linter.unusedVariables false
namespace Go.Proofs.YtjbdboekleaklaaGreatDoor
open Go.RowKit
attribute [local go_sem ↓] Go.wp_at_zero Go.wp_at_succ

theorem bits_Add64 (x y c : Nat) (hc : c ≤ 1) (w : World) :
    (callFunc 54 #[.int .u64 x, .int .u64 y, .int .u64 c]).run Tryz.prog w =
      .ok (.value (.tuple #[.int .u64 (((x + y + c) % 18446744073709551616 : Nat) : Int), .int .u64 (((x + y + c) / 18446744073709551616 : Nat) : Int)])) w := by
  rw [run_callFunc_extern Tryz.func54 (by kernel_rfl) (by kernel_rfl) (by kernel_rfl) (e := add64Entry) (by kernel_rfl), run_add64 x y c (by omega) (by omega) (by omega) (by omega)]
  simp only [Result.andThen]
  congr 5 <;> omega
theorem bits_Sub64 (x y b : Nat) (hb : b ≤ 1) (w : World) :
    (callFunc 80 #[.int .u64 x, .int .u64 y, .int .u64 b]).run Tryz.prog w =
      .ok (.value (.tuple #[.int .u64 (((x + 18446744073709551616 - y - b) % 18446744073709551616 : Nat) : Int), .int .u64 ((if x < y + b then 1 else 0 : Nat) : Int)])) w := by
  rw [run_callFunc_extern Tryz.func80 (by kernel_rfl) (by kernel_rfl) (by kernel_rfl) (e := sub64Entry) (by kernel_rfl), run_sub64 x y b hb]
  rfl


set_option maxRecDepth 100000 in
set_option maxHeartbeats 2000000 in
theorem add_u (N M : Nat) (w : World) (hN : N < 2 ^ 256) (hM : M < 2 ^ 256) :
    Calls Tryz.prog 39 #[uV N, uV M] w fun e w' => e = .returned (.tuple #[uV (sumN N M), .bool (decide (2 ^ 256 ≤ N + M))]) ∧ Keep w w' := by
  obtain ⟨S, hS⟩ : ∃ S, sumN N M = S := ⟨_, rfl⟩
  have HR : Hid (∀ k, k < 4 → ∃ x y, addc N M k ≤ 1 ∧ (∀ w, (callFunc 54 #[n64 (limb N k), n64 (limb M k), n64 (addc N M k)]).run Tryz.prog w = .ok (.value (.tuple #[n64 x, n64 y])) w) ∧ x = limb S k ∧ y = addc N M (k + 1)) := Lib.hid fun k hk => by
    obtain ⟨a, b⟩ := sum_limb N M k hk
    refine ⟨_, _, addc_le N M k, fun w => bits_Add64 _ _ _ (addc_le N M k) w, by rw [← hS]; exact a, b⟩
  have HF : Hid (addc N M 4 = if 2 ^ 256 ≤ N + M then 1 else 0) := Lib.hid (addc_four hN hM)
  have H0 : Hid (addc N M 0 = 0) := Lib.hid (addc_zero N M)
  rw [hS]
  clear hS
  obtain ⟨fb, hfb⟩ : ∃ b, decide (2 ^ 256 ≤ N + M) = b := ⟨_, rfl⟩
  rw [hfb]
  have HFB := Lib.hid hfb
  clear hfb hN hM
  generalize addc N M = cy at *
  go_enter Tryz.func39, Tryz.ntmps39
  go_upto_region 3 with fail
  obtain ⟨w1, hw1⟩ : ∃ w1, w1 = (((w.alloc (.cells #[n64 (limb N 0), n64 (limb N 1), n64 (limb N 2), n64 (limb N 3)] 42)).alloc (.cells #[n64 (limb M 0), n64 (limb M 1), n64 (limb M 2), n64 (limb M 3)] 42)).alloc (.cells #[.int .u64 0, .int .u64 0, .int .u64 0, .int .u64 0] 42)).alloc (.cells #[.int .u64 0, .int .u64 0, .int .u64 0, .int .u64 0] 42) := ⟨_, rfl⟩
  have HA1 : Hid (Blk w1 w.heap.size 42 (uL N)) := by rw [hw1]; exact (((Blk.new w 42 (uL N)).alloc _).alloc _).alloc _
  have HB1 : Hid (Blk w1 (w.heap.size + 1) 42 (uL M)) := by
    rw [hw1]
    have h2 := Blk.new (w.alloc (.cells #[n64 (limb N 0), n64 (limb N 1), n64 (limb N 2), n64 (limb N 3)] 42)) 42 (uL M)
    rw [World.size_alloc] at h2
    exact (h2.alloc _).alloc _
  have HR1 : Hid (Blk w1 (w.heap.size + 1 + 1) 42 [.int .u64 0, .int .u64 0, .int .u64 0, .int .u64 0]) := by
    rw [hw1]
    have h2 := Blk.new ((w.alloc (.cells #[n64 (limb N 0), n64 (limb N 1), n64 (limb N 2), n64 (limb N 3)] 42)).alloc (.cells #[n64 (limb M 0), n64 (limb M 1), n64 (limb M 2), n64 (limb M 3)] 42)) 42 [.int .u64 0, .int .u64 0, .int .u64 0, .int .u64 0]
    rw [World.size_alloc, World.size_alloc] at h2
    exact h2.alloc _
  have HO1 : Hid (Blk w1 (w.heap.size + 1 + 1 + 1) 42 (lowL S 0)) := by
    rw [hw1, lowL_zero S 0 (fun j hj => by omega)]
    have h2 := Blk.new (((w.alloc (.cells #[n64 (limb N 0), n64 (limb N 1), n64 (limb N 2), n64 (limb N 3)] 42)).alloc (.cells #[n64 (limb M 0), n64 (limb M 1), n64 (limb M 2), n64 (limb M 3)] 42)).alloc (.cells #[.int .u64 0, .int .u64 0, .int .u64 0, .int .u64 0] 42)) 42 [.int .u64 0, .int .u64 0, .int .u64 0, .int .u64 0]
    rw [World.size_alloc, World.size_alloc, World.size_alloc] at h2
    exact h2
  have HK1 : Hid (Keep w w1) := by rw [hw1]; exact keep_trans (keep_trans (keep_trans (keep_new _ _) (keep_new _ _)) (keep_new _ _)) (keep_new _ _)
  rw [← hw1]
  clear hw1
  go_wp2_with fail
  go_loopw [7, 9] (fun c i wr => ∃ j : Nat, j ≤ 4 ∧ i = .int .i64 (j : Int) ∧ c = n64 (cy j) ∧ Hid (Blk wr (w.heap.size + 1 + 1 + 1) 42 (lowL S j)) ∧ Hid (Blk wr w.heap.size 42 (uL N)) ∧ Hid (Blk wr (w.heap.size + 1) 42 (uL M)) ∧ Hid (Blk wr (w.heap.size + 1 + 1) 42 [.int .u64 0, .int .u64 0, .int .u64 0, .int .u64 0]) ∧ Hid (Keep w wr)) (fun _ i _ => (4 - intOf i).toNat)
  case atStart => exact ⟨0, by omega, rfl, by rw [H0.out]; rfl, HO1, HA1, HB1, HR1, HK1⟩
  case round =>
    obtain ⟨j, hj, rfl, rfl, HO, HA, HB, HR0, HK⟩ := hrel
    by_cases hlt : j < 4
    · obtain ⟨x, y, hc1, hrun, hx, hy⟩ := HR.out j hlt
      have RUN := Lib.hid hrun
      have i1 : (j : Int) < 4 := by omega
      clear hrun HR HF HFB H0
      go_upto_region 6 with fail
      refine wp_region_tree (.take [0,1,2,3,4,5,6,7] (.force [8] (.take [9,10,11,12] .done))) [13,14] (by kernel_rfl) (by kernel_rfl) (fun w9 k9 => ?_)
      have HO9 := Lib.hid (HO.out.keep k9); have HA9 := Lib.hid (HA.out.keep k9); have HB9 := Lib.hid (HB.out.keep k9); have HR9 := Lib.hid (HR0.out.keep k9); have HK9 := Lib.hid (keep_trans HK.out k9)
      clear k9 HO HA HB HR0 HK
      have a0 := aft_cell (show w9.cell? ⟨w.heap.size, j, none⟩ = some (n64 (limb N j)) by rw [HA9.out.cell, uL_get N j hlt])
      have b0 := aft_cell (show w9.cell? ⟨w.heap.size + 1, j, none⟩ = some (n64 (limb M j)) by rw [HB9.out.cell, uL_get M j hlt])
      refine mt_take w9 (Below.refl _ _) ?_
      simp only [pick_cons, pick_nil, nth_zero, nth_succ]
      repeat (go_big_quiet_step (fail))
      refine wpQuiet_nil (mt_force ?_)
      simp only [pick_cons, pick_nil, nth_zero, nth_succ]
      refine fc_step rfl (fun K hK => ?_)
      have A1 := RUN.out w9
      go_simp
      try simp only [A1]
      refine hK _ _ (Below.refl _ _) ?_
      clear hK K a0 b0 A1 RUN
      refine fc_nil (mt_take w9 (Below.refl _ _) ?_)
      simp only [pick_cons, pick_nil, nth_zero, nth_succ]
      repeat (go_big_quiet_step (fail))
      refine wpQuiet_nil (mt_end ?_)
      have o0 : w9.cell? ⟨w.heap.size + 1 + 1 + 1, j, none⟩ = some (n64 0) := by rw [HO9.out.cell, lowL_get S j hlt]
      have of : w9.frozen? ⟨w.heap.size + 1 + 1 + 1, j, none⟩ = false := HO9.out.frozen _
      go_wp2
      go_roundw
      case rel =>
        refine ⟨j + 1, by omega, by go_num, rfl, Lib.hid ?_, Lib.hid (HA9.out.far (by simp <;> omega) _), Lib.hid (HB9.out.far (by simp <;> omega) _), Lib.hid (HR9.out.far (by simp) _), Lib.hid (Below.setCell HK9.out (by simp <;> omega) _)⟩
        have h1 := HO9.out.set_ j (n64 (limb S j))
        rw [lowL_set S j hlt] at h1
        exact h1
      case measure => simp [intOf]; omega
    · obtain rfl : j = 4 := by omega
      have hO := HO.out; have hR := HR0.out
      rw [lowL_four] at hO
      have o0 := hO.cell 0; have o1 := hO.cell 1; have o2 := hO.cell 2; have o3 := hO.cell 3
      have r0 := hR.cell 0; have r1 := hR.cell 1; have r2 := hR.cell 2; have r3 := hR.cell 3
      have f0 := hR.frozen 0; have f1 := hR.frozen 1; have f2 := hR.frozen 2; have f3 := hR.frozen 3
      simp only [uL, List.getElem?_cons_zero, List.getElem?_cons_succ] at o0 o1 o2 o3 r0 r1 r2 r3
      have hb8 := (((HR0.out.set_ 0 (n64 (limb S 0))).set_ 1 (n64 (limb S 1))).set_ 2 (n64 (limb S 2))).set_ 3 (n64 (limb S 3))
      have HK8 : Hid (Keep w ((((wr.setCell ⟨w.heap.size + 1 + 1, 0, none⟩ (n64 (limb S 0))).setCell ⟨w.heap.size + 1 + 1, 1, none⟩ (n64 (limb S 1))).setCell ⟨w.heap.size + 1 + 1, 2, none⟩ (n64 (limb S 2))).setCell ⟨w.heap.size + 1 + 1, 3, none⟩ (n64 (limb S 3)))) := by
        refine Lib.hid ?_
        iterate 4 (refine Below.setCell ?_ (by simp <;> omega) _)
        exact HK.out
      have Hb8 := Lib.hid hb8
      have c4 : ((cy 4 : Int) != 0) = fb := by
        rw [HF.out, ← HFB.out]
        split <;> simp_all
      clear hb8 hO hR HO HA HB HR0 HK HO1 HA1 HB1 HR1 HK1 HR HF HFB H0
      generalize cy 4 = c4v at *
      go_wp2
      exact bodyPost_ret (v := .tuple #[uV S, .bool fb]) (results_cell_tmp_row Tryz.results39 _ _ (w.heap.size + 1 + 1) _ _ _ _ rfl Hb8.out Tryz.underlying42 rfl (by kernel_rfl)) rfl ⟨rfl, HK8.out⟩


set_option maxRecDepth 100000 in
set_option maxHeartbeats 2000000 in
theorem sub_u (N M : Nat) (w : World) (hN : N < 2 ^ 256) (hM : M < 2 ^ 256) :
    Calls Tryz.prog 68 #[uV N, uV M] w fun e w' => e = .returned (.tuple #[uV (difN N M), .bool (decide (N < M))]) ∧ Keep w w' := by
  obtain ⟨S, hS⟩ : ∃ S, difN N M = S := ⟨_, rfl⟩
  have HR : Hid (∀ k, k < 4 → ∃ x y, subb N M k ≤ 1 ∧ (∀ w, (callFunc 80 #[n64 (limb N k), n64 (limb M k), n64 (subb N M k)]).run Tryz.prog w = .ok (.value (.tuple #[n64 x, n64 y])) w) ∧ x = limb S k ∧ y = subb N M (k + 1)) := Lib.hid fun k hk => by
    refine ⟨_, _, subb_le N M k, fun w => bits_Sub64 _ _ _ (subb_le N M k) w, by rw [← hS]; exact dif_limb hN hM k hk, (subb_step N M k).symm⟩
  have HF : Hid (subb N M 4 = if N < M then 1 else 0) := Lib.hid (subb_four hN hM)
  have H0 : Hid (subb N M 0 = 0) := Lib.hid (subb_zero N M)
  rw [hS]
  clear hS
  obtain ⟨fb, hfb⟩ : ∃ b, decide (N < M) = b := ⟨_, rfl⟩
  rw [hfb]
  have HFB := Lib.hid hfb
  clear hfb hN hM
  generalize subb N M = cy at *
  go_enter Tryz.func68, Tryz.ntmps68
  go_upto_region 3 with fail
  obtain ⟨w1, hw1⟩ : ∃ w1, w1 = (((w.alloc (.cells #[n64 (limb N 0), n64 (limb N 1), n64 (limb N 2), n64 (limb N 3)] 42)).alloc (.cells #[n64 (limb M 0), n64 (limb M 1), n64 (limb M 2), n64 (limb M 3)] 42)).alloc (.cells #[.int .u64 0, .int .u64 0, .int .u64 0, .int .u64 0] 42)).alloc (.cells #[.int .u64 0, .int .u64 0, .int .u64 0, .int .u64 0] 42) := ⟨_, rfl⟩
  have HA1 : Hid (Blk w1 w.heap.size 42 (uL N)) := by rw [hw1]; exact (((Blk.new w 42 (uL N)).alloc _).alloc _).alloc _
  have HB1 : Hid (Blk w1 (w.heap.size + 1) 42 (uL M)) := by
    rw [hw1]
    have h2 := Blk.new (w.alloc (.cells #[n64 (limb N 0), n64 (limb N 1), n64 (limb N 2), n64 (limb N 3)] 42)) 42 (uL M)
    rw [World.size_alloc] at h2
    exact (h2.alloc _).alloc _
  have HR1 : Hid (Blk w1 (w.heap.size + 1 + 1) 42 [.int .u64 0, .int .u64 0, .int .u64 0, .int .u64 0]) := by
    rw [hw1]
    have h2 := Blk.new ((w.alloc (.cells #[n64 (limb N 0), n64 (limb N 1), n64 (limb N 2), n64 (limb N 3)] 42)).alloc (.cells #[n64 (limb M 0), n64 (limb M 1), n64 (limb M 2), n64 (limb M 3)] 42)) 42 [.int .u64 0, .int .u64 0, .int .u64 0, .int .u64 0]
    rw [World.size_alloc, World.size_alloc] at h2
    exact h2.alloc _
  have HO1 : Hid (Blk w1 (w.heap.size + 1 + 1 + 1) 42 (lowL S 0)) := by
    rw [hw1, lowL_zero S 0 (fun j hj => by omega)]
    have h2 := Blk.new (((w.alloc (.cells #[n64 (limb N 0), n64 (limb N 1), n64 (limb N 2), n64 (limb N 3)] 42)).alloc (.cells #[n64 (limb M 0), n64 (limb M 1), n64 (limb M 2), n64 (limb M 3)] 42)).alloc (.cells #[.int .u64 0, .int .u64 0, .int .u64 0, .int .u64 0] 42)) 42 [.int .u64 0, .int .u64 0, .int .u64 0, .int .u64 0]
    rw [World.size_alloc, World.size_alloc, World.size_alloc] at h2
    exact h2
  have HK1 : Hid (Keep w w1) := by rw [hw1]; exact keep_trans (keep_trans (keep_trans (keep_new _ _) (keep_new _ _)) (keep_new _ _)) (keep_new _ _)
  rw [← hw1]
  clear hw1
  go_wp2_with fail
  go_loopw [7, 9] (fun c i wr => ∃ j : Nat, j ≤ 4 ∧ i = .int .i64 (j : Int) ∧ c = n64 (cy j) ∧ Hid (Blk wr (w.heap.size + 1 + 1 + 1) 42 (lowL S j)) ∧ Hid (Blk wr w.heap.size 42 (uL N)) ∧ Hid (Blk wr (w.heap.size + 1) 42 (uL M)) ∧ Hid (Blk wr (w.heap.size + 1 + 1) 42 [.int .u64 0, .int .u64 0, .int .u64 0, .int .u64 0]) ∧ Hid (Keep w wr)) (fun _ i _ => (4 - intOf i).toNat)
  case atStart => exact ⟨0, by omega, rfl, by rw [H0.out]; rfl, HO1, HA1, HB1, HR1, HK1⟩
  case round =>
    obtain ⟨j, hj, rfl, rfl, HO, HA, HB, HR0, HK⟩ := hrel
    by_cases hlt : j < 4
    · obtain ⟨x, y, hc1, hrun, hx, hy⟩ := HR.out j hlt
      have RUN := Lib.hid hrun
      have i1 : (j : Int) < 4 := by omega
      clear hrun HR HF HFB H0
      go_upto_region 6 with fail
      refine wp_region_tree (.take [0,1,2,3,4,5,6,7] (.force [8] (.take [9,10,11,12] .done))) [13,14] (by kernel_rfl) (by kernel_rfl) (fun w9 k9 => ?_)
      have HO9 := Lib.hid (HO.out.keep k9); have HA9 := Lib.hid (HA.out.keep k9); have HB9 := Lib.hid (HB.out.keep k9); have HR9 := Lib.hid (HR0.out.keep k9); have HK9 := Lib.hid (keep_trans HK.out k9)
      clear k9 HO HA HB HR0 HK
      have a0 := aft_cell (show w9.cell? ⟨w.heap.size, j, none⟩ = some (n64 (limb N j)) by rw [HA9.out.cell, uL_get N j hlt])
      have b0 := aft_cell (show w9.cell? ⟨w.heap.size + 1, j, none⟩ = some (n64 (limb M j)) by rw [HB9.out.cell, uL_get M j hlt])
      refine mt_take w9 (Below.refl _ _) ?_
      simp only [pick_cons, pick_nil, nth_zero, nth_succ]
      repeat (go_big_quiet_step (fail))
      refine wpQuiet_nil (mt_force ?_)
      simp only [pick_cons, pick_nil, nth_zero, nth_succ]
      refine fc_step rfl (fun K hK => ?_)
      have A1 := RUN.out w9
      go_simp
      try simp only [A1]
      refine hK _ _ (Below.refl _ _) ?_
      clear hK K a0 b0 A1 RUN
      refine fc_nil (mt_take w9 (Below.refl _ _) ?_)
      simp only [pick_cons, pick_nil, nth_zero, nth_succ]
      repeat (go_big_quiet_step (fail))
      refine wpQuiet_nil (mt_end ?_)
      have o0 : w9.cell? ⟨w.heap.size + 1 + 1 + 1, j, none⟩ = some (n64 0) := by rw [HO9.out.cell, lowL_get S j hlt]
      have of : w9.frozen? ⟨w.heap.size + 1 + 1 + 1, j, none⟩ = false := HO9.out.frozen _
      go_wp2
      go_roundw
      case rel =>
        refine ⟨j + 1, by omega, by go_num, rfl, Lib.hid ?_, Lib.hid (HA9.out.far (by simp <;> omega) _), Lib.hid (HB9.out.far (by simp <;> omega) _), Lib.hid (HR9.out.far (by simp) _), Lib.hid (Below.setCell HK9.out (by simp <;> omega) _)⟩
        have h1 := HO9.out.set_ j (n64 (limb S j))
        rw [lowL_set S j hlt] at h1
        exact h1
      case measure => simp [intOf]; omega
    · obtain rfl : j = 4 := by omega
      have hO := HO.out; have hR := HR0.out
      rw [lowL_four] at hO
      have o0 := hO.cell 0; have o1 := hO.cell 1; have o2 := hO.cell 2; have o3 := hO.cell 3
      have r0 := hR.cell 0; have r1 := hR.cell 1; have r2 := hR.cell 2; have r3 := hR.cell 3
      have f0 := hR.frozen 0; have f1 := hR.frozen 1; have f2 := hR.frozen 2; have f3 := hR.frozen 3
      simp only [uL, List.getElem?_cons_zero, List.getElem?_cons_succ] at o0 o1 o2 o3 r0 r1 r2 r3
      have hb8 := (((HR0.out.set_ 0 (n64 (limb S 0))).set_ 1 (n64 (limb S 1))).set_ 2 (n64 (limb S 2))).set_ 3 (n64 (limb S 3))
      have HK8 : Hid (Keep w ((((wr.setCell ⟨w.heap.size + 1 + 1, 0, none⟩ (n64 (limb S 0))).setCell ⟨w.heap.size + 1 + 1, 1, none⟩ (n64 (limb S 1))).setCell ⟨w.heap.size + 1 + 1, 2, none⟩ (n64 (limb S 2))).setCell ⟨w.heap.size + 1 + 1, 3, none⟩ (n64 (limb S 3)))) := by
        refine Lib.hid ?_
        iterate 4 (refine Below.setCell ?_ (by simp <;> omega) _)
        exact HK.out
      have Hb8 := Lib.hid hb8
      have c4 : ((cy 4 : Int) != 0) = fb := by
        rw [HF.out, ← HFB.out]
        split <;> simp_all
      clear hb8 hO hR HO HA HB HR0 HK HO1 HA1 HB1 HR1 HK1 HR HF HFB H0
      generalize cy 4 = c4v at *
      go_wp2
      exact bodyPost_ret (v := .tuple #[uV S, .bool fb]) (results_cell_tmp_row Tryz.results68 _ _ (w.heap.size + 1 + 1) _ _ _ _ rfl Hb8.out Tryz.underlying42 rfl (by kernel_rfl)) rfl ⟨rfl, HK8.out⟩


theorem xor64 (n : Nat) (h : n < 2 ^ 64) : bits .xor .u64 IntKind.u64.max (n : Int) = ((18446744073709551615 - n : Nat) : Int) := by
  have h1 : BitVec.ofInt 64 IntKind.u64.max = BitVec.allOnes 64 := by decide
  have h2 : (BitVec.ofInt 64 (n : Int)).toNat = n := by
    rw [BitVec.toNat_ofInt]
    have : (2 : Nat) ^ 64 = 18446744073709551616 := by decide
    omega
  show IntKind.u64.wrap ((BitVec.ofInt 64 IntKind.u64.max ^^^ BitVec.ofInt 64 (n : Int)).toNat : Nat) = _
  rw [h1, BitVec.allOnes_xor, BitVec.toNat_not, h2, IntKind.wrap_u64]
  have : (2 : Nat) ^ 64 = 18446744073709551616 := by decide
  omega
set_option maxRecDepth 100000 in
set_option maxHeartbeats 2000000 in
theorem not_u (N : Nat) (w : World) (hN : N < 2 ^ 256) : Calls Tryz.prog 53 #[uV N] w fun e w' => e = .returned (uV (notN N)) ∧ Keep w w' := by
  have e0 := not_limb hN 0 (by decide); have e1 := not_limb hN 1 (by decide); have e2 := not_limb hN 2 (by decide); have e3 := not_limb hN 3 (by decide)
  have x0 := xor64 _ (limb_lt N 0); have x1 := xor64 _ (limb_lt N 1); have x2 := xor64 _ (limb_lt N 2); have x3 := xor64 _ (limb_lt N 3)
  rw [← e0] at x0; rw [← e1] at x1; rw [← e2] at x2; rw [← e3] at x3
  clear e0 e1 e2 e3 hN
  generalize notN N = S at *
  have hB : Tryz.prog.built 42 [(0, n64 (limb S 0)), (1, n64 (limb S 1)), (2, n64 (limb S 2)), (3, n64 (limb S 3))] = some #[n64 (limb S 0), n64 (limb S 1), n64 (limb S 2), n64 (limb S 3)] := by kernel_rfl
  go_enter Tryz.func53, Tryz.ntmps53
  go_wp2
  have hb : Blk ((w.alloc (.cells #[n64 (limb N 0), n64 (limb N 1), n64 (limb N 2), n64 (limb N 3)] 42)).alloc (.cells #[n64 (limb S 0), n64 (limb S 1), n64 (limb S 2), n64 (limb S 3)] 42)) (w.heap.size + 1) 42 (uL S) := by
    have h2 := Blk.new (w.alloc (.cells #[n64 (limb N 0), n64 (limb N 1), n64 (limb N 2), n64 (limb N 3)] 42)) 42 (uL S)
    rw [World.size_alloc] at h2
    exact h2
  exact bodyPost_ret (v := uV S) (results_cell_row Tryz.results53 _ _ (w.heap.size + 1) _ _ _ _ rfl hb Tryz.underlying42 rfl (by kernel_rfl)) rfl ⟨rfl, keep_trans (keep_new _ _) (keep_new _ _)⟩

end Go.Proofs.YtjbdboekleaklaaGreatDoor

/- u256.Div. (printed by gen_wc.py) -/
set_option linter.unusedSimpArgs false
set_option linter.unusedVariables false
namespace Go.Proofs.YtjbdboekleaklaaGreatDoor
open Go.RowKit
attribute [local go_sem ↓] Go.wp_at_zero Go.wp_at_succ

theorem u64_and1 (n : Nat) (h : n < 2 ^ 64) : bits .and .u64 (n : Int) 1 = ((n % 2 : Nat) : Int) := by
  have h1 := bits_and_u64_nat n 1 h (by decide)
  rw [Nat.and_one_is_mod] at h1
  exact h1
theorem limb_digit (a j : Nat) : limb a (j / 64) / 2 ^ (j % 64) % 2 = a / 2 ^ j % 2 := by
  have h : (limb a (j / 64)).testBit (j % 64) = a.testBit j := by
    rw [limb_bit, show 64 * (j / 64) + j % 64 = j by omega]
    have : j % 64 < 64 := Nat.mod_lt _ (by decide)
    simp [this]
  have g : ∀ x i : Nat, x / 2 ^ i % 2 = (x.testBit i).toNat := fun x i => by rw [Nat.testBit_eq_decide_div_mod_eq]; rcases Nat.mod_two_eq_zero_or_one (x / 2 ^ i) with e | e <;> simp [e]
  rw [g, g, h]
theorem even_add {E c : Nat} (hE : E % 2 = 0) (hE2 : E < 2 ^ 256) (hc : c < 2) : E + c < 2 ^ 256 ∧ limb (E + c) 0 = limb E 0 + c ∧ limb (E + c) 1 = limb E 1 ∧ limb (E + c) 2 = limb E 2 ∧ limb (E + c) 3 = limb E 3 ∧ limb E 0 % 2 = 0 := by
  unfold limb
  simp only [Nat.reduceMul, Nat.reducePow, Nat.div_one] at *
  omega
/-- What is left, doubled, with one more digit. -/
theorem left_step {L b c : Nat} (hL : L < b) (hb : b < 2 ^ 256) (hc : c < 2) : sumN L L % 2 = 0 ∧ sumN L L < 2 ^ 256 ∧ (2 ^ 256 ≤ L + L → sumN L L + c < b ∧ difN (sumN L L + c) b = 2 * L + c - b ∧ b ≤ 2 * L + c) ∧ (¬ 2 ^ 256 ≤ L + L → sumN L L + c = 2 * L + c ∧ (b ≤ 2 * L + c → difN (sumN L L + c) b = 2 * L + c - b)) := by
  unfold sumN difN
  simp only [Nat.reducePow] at *
  omega
theorem uL_or {O i : Nat} (hd : i / 64 < 4) : (uL O).set (i / 64) (n64 (limb O (i / 64) ||| 2 ^ (i % 64))) = uL (O ||| 2 ^ i) := by
  have h : ∀ k, limb (O ||| 2 ^ i) k = limb O k ||| (if k = i / 64 then 2 ^ (i % 64) else 0) := fun k => by rw [limb_or, limb_pow]
  unfold uL
  rw [h 0, h 1, h 2, h 3]
  rcases (show i / 64 = 0 ∨ i / 64 = 1 ∨ i / 64 = 2 ∨ i / 64 = 3 by omega) with e | e | e | e <;> rw [e] <;> simp
theorem pow_word {d : Nat} (h : d < 64) : 2 ^ d < 2 ^ 64 := Nat.pow_lt_pow_right (by decide) h

theorem oft_top {a b l : Nat} (h : a / 2 ^ l = 0) : oftN a b l = 0 := by unfold oftN; rw [h]; simp
theorem uL_nil : uL 0 = [.int .u64 0, .int .u64 0, .int .u64 0, .int .u64 0] := by simp [uL, n64, limb0]

theorem results_cell2_tmp_row {P : Program} {fn : Func} {p q u : Tmp} {ty : TypeId} (h : fn.results = #[.cell p ty, .cell q ty, .tmp u]) (tmps : Array Value) (w : World) (g k : Nat) (t t' : TypeId) (cs ds : Array Value) (fr fr' : Nat × Nat) (d : TypeDesc)
    (hp : tmps.getD p undef = .pointer (some ⟨g, 0, none⟩)) (hg : w.heap[g]? = some (.cells cs t fr))
    (hq : tmps.getD q undef = .pointer (some ⟨k, 0, none⟩)) (hk : w.heap[k]? = some (.cells ds t' fr'))
    (hu : P.underlying ty = some d) (hd : (match d with | .struct _ | .array _ _ => true | _ => false) = true) (hi : (P.info? ty).map (·.size) = some cs.size) (hj : (P.info? ty).map (·.size) = some ds.size) :
    (results fn tmps).run P w = .ok (.tuple #[.agg cs, .agg ds, tmps.getD u undef]) w := by
  have l1 := run_loadVar_row (P := P) w g t ty cs fr d hg hu hd hi
  have l2 := run_loadVar_row (P := P) w k t' ty ds fr' d hk hu hd hj
  simp only [results, h]
  simp only [Array.getD_eq_getD_getElem?] at hp hq
  simp [Sem.run_bind, Result.andThen, asAddr, hp, hq, l1, l2]

set_option maxRecDepth 100000 in
set_option maxHeartbeats 8000000 in
theorem div_u (a b : Nat) (w : World) (ha : a < 2 ^ 256) (hb : b < 2 ^ 256) (hb0 : 0 < b) :
    Calls Tryz.prog 52 #[uV a, uV b] w fun e w' => e = .returned (.tuple #[uV (a / b), uV (a % b), .bool true]) ∧ Keep w w' := by
  have LN : Hid (∀ y, Calls Tryz.prog 67 #[uV a] y fun e w' => e = .returned (.int .i64 (lenN a : Nat)) ∧ Keep y w') := Lib.hid fun y => len_any a y ha
  have hL : lenN a ≤ 256 := lenN_le ha
  have hL0 : a / 2 ^ lenN a = 0 := Nat.div_eq_of_lt (lenN_lt a)
  have HL0 := Lib.hid hL0
  have AD : Hid (∀ N y, N < 2 ^ 256 → Calls Tryz.prog 39 #[uV N, uV N] y fun e w' => e = .returned (.tuple #[uV (sumN N N), .bool (decide (2 ^ 256 ≤ N + N))]) ∧ Keep y w') := Lib.hid fun N y h => add_u N N y h h
  have SB : Hid (∀ N y, N < 2 ^ 256 → Calls Tryz.prog 68 #[uV N, uV b] y fun e w' => e = .returned (.tuple #[uV (difN N b), .bool (decide (N < b))]) ∧ Keep y w') := Lib.hid fun N y h => sub_u N b y h hb
  have CP : Hid (∀ N y, N < 2 ^ 256 → Calls Tryz.prog 49 #[uV N, uV b] y fun e w' => e = .returned (.int .i64 (cmpN N b)) ∧ Keep y w') := Lib.hid fun N y h => cmp_any N b y h hb
  have HE : Hid (∀ W, (Go.binOp .eql 42 (uV b) u0).run Tryz.prog W = .ok (.bool false) W) := Lib.hid fun W => by
    have := u_eql hb (Nat.two_pow_pos 256) W
    rw [uV_zero, decide_eq_false (by omega)] at this
    exact this
  have hgd := u256_guard
  have HA := Lib.hid ha; have HBb := Lib.hid hb; have HB0 := Lib.hid hb0
  have HQ : Hid (oftN a b 0 = a / b) := Lib.hid (oft_zero a b)
  have HM : Hid (a / 2 ^ 0 % b = a % b) := Lib.hid (by rw [Nat.pow_zero, Nat.div_one])
  clear ha hb hb0 hL0
  obtain ⟨QQ, hQQ⟩ : ∃ q, a / b = q := ⟨_, rfl⟩
  obtain ⟨RR, hRR⟩ : ∃ q, a % b = q := ⟨_, rfl⟩
  rw [hQQ] at HQ ⊢
  rw [hRR] at HM ⊢
  clear hQQ hRR
  generalize hl : lenN a = l at *
  clear hl
  go_enter Tryz.func52, Tryz.ntmps52
  have he := HE.out
  go_upto_region 4 with fail
  clear he
  obtain ⟨w1, hw1⟩ : ∃ w1, w1 = (((((w.alloc (.cells #[n64 (limb a 0), n64 (limb a 1), n64 (limb a 2), n64 (limb a 3)] 42)).alloc (.cells #[n64 (limb b 0), n64 (limb b 1), n64 (limb b 2), n64 (limb b 3)] 42)).alloc (.cells #[.int .u64 0, .int .u64 0, .int .u64 0, .int .u64 0] 42)).alloc (.cells #[.int .u64 0, .int .u64 0, .int .u64 0, .int .u64 0] 42)).alloc (.cells #[.int .u64 0, .int .u64 0, .int .u64 0, .int .u64 0] 42)).alloc (.cells #[.int .u64 0, .int .u64 0, .int .u64 0, .int .u64 0] 42) := ⟨_, rfl⟩
  have FA1 : Hid (Blk w1 w.heap.size 42 (uL a)) := by rw [hw1]; exact (((((Blk.new w 42 (uL a)).alloc _).alloc _).alloc _).alloc _).alloc _
  have FB1 : Hid (Blk w1 (w.heap.size + 1) 42 (uL b)) := by
    rw [hw1]
    have h2 := Blk.new (w.alloc (.cells #[n64 (limb a 0), n64 (limb a 1), n64 (limb a 2), n64 (limb a 3)] 42)) 42 (uL b)
    rw [World.size_alloc] at h2
    exact ((((h2.alloc _).alloc _).alloc _).alloc _)
  have FR1 : Hid (Blk w1 (w.heap.size + 1 + 1) 42 [.int .u64 0, .int .u64 0, .int .u64 0, .int .u64 0]) := by
    rw [hw1]
    have h2 := Blk.new ((w.alloc (.cells #[n64 (limb a 0), n64 (limb a 1), n64 (limb a 2), n64 (limb a 3)] 42)).alloc (.cells #[n64 (limb b 0), n64 (limb b 1), n64 (limb b 2), n64 (limb b 3)] 42)) 42 [.int .u64 0, .int .u64 0, .int .u64 0, .int .u64 0]
    rw [World.size_alloc, World.size_alloc] at h2
    exact (((h2.alloc _).alloc _).alloc _)
  have FS1 : Hid (Blk w1 (w.heap.size + 1 + 1 + 1) 42 [.int .u64 0, .int .u64 0, .int .u64 0, .int .u64 0]) := by
    rw [hw1]
    have h2 := Blk.new (((w.alloc (.cells #[n64 (limb a 0), n64 (limb a 1), n64 (limb a 2), n64 (limb a 3)] 42)).alloc (.cells #[n64 (limb b 0), n64 (limb b 1), n64 (limb b 2), n64 (limb b 3)] 42)).alloc (.cells #[.int .u64 0, .int .u64 0, .int .u64 0, .int .u64 0] 42)) 42 [.int .u64 0, .int .u64 0, .int .u64 0, .int .u64 0]
    rw [World.size_alloc, World.size_alloc, World.size_alloc] at h2
    exact ((h2.alloc _).alloc _)
  have FO1 : Hid (Blk w1 (w.heap.size + 1 + 1 + 1 + 1) 42 [.int .u64 0, .int .u64 0, .int .u64 0, .int .u64 0]) := by
    rw [hw1]
    have h2 := Blk.new ((((w.alloc (.cells #[n64 (limb a 0), n64 (limb a 1), n64 (limb a 2), n64 (limb a 3)] 42)).alloc (.cells #[n64 (limb b 0), n64 (limb b 1), n64 (limb b 2), n64 (limb b 3)] 42)).alloc (.cells #[.int .u64 0, .int .u64 0, .int .u64 0, .int .u64 0] 42)).alloc (.cells #[.int .u64 0, .int .u64 0, .int .u64 0, .int .u64 0] 42)) 42 [.int .u64 0, .int .u64 0, .int .u64 0, .int .u64 0]
    rw [World.size_alloc, World.size_alloc, World.size_alloc, World.size_alloc] at h2
    exact (h2.alloc _)
  have FL1 : Hid (Blk w1 (w.heap.size + 1 + 1 + 1 + 1 + 1) 42 [.int .u64 0, .int .u64 0, .int .u64 0, .int .u64 0]) := by
    rw [hw1]
    have h2 := Blk.new (((((w.alloc (.cells #[n64 (limb a 0), n64 (limb a 1), n64 (limb a 2), n64 (limb a 3)] 42)).alloc (.cells #[n64 (limb b 0), n64 (limb b 1), n64 (limb b 2), n64 (limb b 3)] 42)).alloc (.cells #[.int .u64 0, .int .u64 0, .int .u64 0, .int .u64 0] 42)).alloc (.cells #[.int .u64 0, .int .u64 0, .int .u64 0, .int .u64 0] 42)).alloc (.cells #[.int .u64 0, .int .u64 0, .int .u64 0, .int .u64 0] 42)) 42 [.int .u64 0, .int .u64 0, .int .u64 0, .int .u64 0]
    rw [World.size_alloc, World.size_alloc, World.size_alloc, World.size_alloc, World.size_alloc] at h2
    exact h2
  have HK1 : Hid (Keep w w1) := by rw [hw1]; exact keep_trans (keep_trans (keep_trans (keep_trans (keep_trans (keep_new _ _) (keep_new _ _)) (keep_new _ _)) (keep_new _ _)) (keep_new _ _)) (keep_new _ _)
  rw [← hw1]
  clear hw1
  have a0 := FA1.out.cell 0; have a1 := FA1.out.cell 1; have a2 := FA1.out.cell 2; have a3 := FA1.out.cell 3
  simp only [uL, List.getElem?_cons_zero, List.getElem?_cons_succ] at a0 a1 a2 a3
  go_wp2_with fail
  refine (LN.out _).mono ?_
  clear LN a0 a1 a2 a3
  rintro e w2 ⟨rfl, k2⟩
  have FA2 := Lib.hid (FA1.out.keep k2)
  have FB2 := Lib.hid (FB1.out.keep k2)
  have FR2 := Lib.hid (FR1.out.keep k2)
  have FS2 := Lib.hid (FS1.out.keep k2)
  have FO2 := Lib.hid (FO1.out.keep k2)
  have FL2 := Lib.hid (FL1.out.keep k2)
  have HK2 := Lib.hid (keep_trans HK1.out k2)
  clear k2 FA1 FB1 FR1 FS1 FO1 FL1 HK1
  go_wp2_with fail
  go_loopw [9] (fun i wr => ∃ j : Nat, j ≤ 256 ∧ i = .int .i64 ((j : Int) - 1) ∧ Hid (Blk wr (w.heap.size) 42 (uL a)) ∧ Hid (Blk wr (w.heap.size + 1) 42 (uL b)) ∧ Hid (Blk wr (w.heap.size + 1 + 1) 42 [.int .u64 0, .int .u64 0, .int .u64 0, .int .u64 0]) ∧ Hid (Blk wr (w.heap.size + 1 + 1 + 1) 42 [.int .u64 0, .int .u64 0, .int .u64 0, .int .u64 0]) ∧ Hid (Blk wr (w.heap.size + 1 + 1 + 1 + 1) 42 (uL (oftN a b j))) ∧ Hid (Blk wr (w.heap.size + 1 + 1 + 1 + 1 + 1) 42 (uL (a / 2 ^ j % b))) ∧ Hid (Keep w wr)) (fun i _ => (intOf i + 1).toNat)
  case atStart => exact ⟨l, hL, by go_num, FA2, FB2, FR2, FS2, Lib.hid (by rw [oft_top HL0.out, uL_nil]; exact FO2.out), Lib.hid (by rw [HL0.out, Nat.zero_mod, uL_nil]; exact FL2.out), HK2⟩
  case round =>
    obtain ⟨j, hj, rfl, FA3, FB3, FR3, FS3, FO3, FL3, HK3⟩ := hrel
    by_cases h0 : j = 0
    · subst h0
      have hQ := HQ.out; have hM := HM.out
      rw [hQ] at FO3
      rw [hM] at FL3
      have d0 : ¬ (0 : Int) ≤ ((0 : Nat) : Int) - 1 := by omega
      clear hQ hM HQ HM AD SB CP FA2 FB2 FR2 FS2 FO2 FL2 HK2 FA3 FB3
      have o0 := FO3.out.cell 0; have o1 := FO3.out.cell 1; have o2 := FO3.out.cell 2; have o3 := FO3.out.cell 3
      have l0 := FL3.out.cell 0; have l1 := FL3.out.cell 1; have l2 := FL3.out.cell 2; have l3 := FL3.out.cell 3
      simp only [uL, List.getElem?_cons_zero, List.getElem?_cons_succ] at o0 o1 o2 o3 l0 l1 l2 l3
      go_upto_region 13 with fail
      letI iM : G.Mk := ⟨some (w.heap.size + 1 + 1)⟩
      refine G.wp_region_tree (.take [0,1] (.force [2] .done)) [3,4] (by kernel_rfl) (by kernel_rfl) (fun w9 k9 => ?_)
      have hneO : G.Mk.m ≠ some (w.heap.size + 1 + 1 + 1 + 1) := fun e => by have e2 : w.heap.size + 1 + 1 = w.heap.size + 1 + 1 + 1 + 1 := Option.some.inj e; omega
      have hneL : G.Mk.m ≠ some (w.heap.size + 1 + 1 + 1 + 1 + 1) := fun e => by have e2 : w.heap.size + 1 + 1 = w.heap.size + 1 + 1 + 1 + 1 + 1 := Option.some.inj e; omega
      have b0 := G.aftG_cell (keep_cell k9 o0) hneO; have b1 := G.aftG_cell (keep_cell k9 o1) hneO; have b2 := G.aftG_cell (keep_cell k9 o2) hneO; have b3 := G.aftG_cell (keep_cell k9 o3) hneO
      have c0 := G.aftG_cell (keep_cell k9 l0) hneL; have c1 := G.aftG_cell (keep_cell k9 l1) hneL; have c2 := G.aftG_cell (keep_cell k9 l2) hneL; have c3 := G.aftG_cell (keep_cell k9 l3) hneL
      have HK9 := Lib.hid (keep_trans HK3.out k9); have HR9 := Lib.hid (FR3.out.keep k9); have HS9 := Lib.hid (FS3.out.keep k9)
      clear o0 o1 o2 o3 l0 l1 l2 l3 HK3 k9 FO3 FL3 FR3 FS3
      refine G.mt_take w9 (G.Gr.refl _) ?_
      simp only [pick_cons, pick_nil, nth_zero, nth_succ]
      repeat (go_big_quiet_step (fail))
      refine wpQuiet_nil (G.mt_force ?_)
      simp only [pick_cons, pick_nil, nth_zero, nth_succ]
      refine G.fc_step rfl (fun K hK => ?_)
      have r0 := HR9.out.cell 0; have r1 := HR9.out.cell 1; have r2 := HR9.out.cell 2; have r3 := HR9.out.cell 3
      have f0 := HR9.out.frozen 0; have f1 := HR9.out.frozen 1; have f2 := HR9.out.frozen 2; have f3 := HR9.out.frozen 3
      simp only [List.getElem?_cons_zero, List.getElem?_cons_succ] at r0 r1 r2 r3
      go_simp
      refine hK _ _ (show G.Gr w9 _ from grown_set (grown_set (grown_set (grown_set (grown_refl w9 _))))) ?_
      clear hK K r0 r1 r2 r3 f0 f1 f2 f3 b0 b1 b2 b3 c0 c1 c2 c3
      refine G.fc_nil (G.mt_end ?_)
      clear hneO hneL
      clear iM
      obtain ⟨wa, hwa⟩ : ∃ wa, wa = ((((w9.setCell ⟨w.heap.size + 1 + 1, 0, none⟩ (n64 (limb QQ 0))).setCell ⟨w.heap.size + 1 + 1, 1, none⟩ (n64 (limb QQ 1))).setCell ⟨w.heap.size + 1 + 1, 2, none⟩ (n64 (limb QQ 2))).setCell ⟨w.heap.size + 1 + 1, 3, none⟩ (n64 (limb QQ 3))) := ⟨_, rfl⟩
      have HRa : Hid (Blk wa (w.heap.size + 1 + 1) 42 (uL QQ)) := by rw [hwa]; exact Lib.hid ((((HR9.out.set_ 0 _).set_ 1 _).set_ 2 _).set_ 3 _)
      have HSa : Hid (Blk wa (w.heap.size + 1 + 1 + 1) 42 [.int .u64 0, .int .u64 0, .int .u64 0, .int .u64 0]) := by rw [hwa]; exact Lib.hid ((((HS9.out.far (by simp <;> omega) _).far (by simp <;> omega) _).far (by simp <;> omega) _).far (by simp <;> omega) _)
      have HKa : Hid (Keep w wa) := by
        rw [hwa]
        refine Lib.hid ?_
        iterate 4 (refine Below.setCell ?_ (by simp <;> omega) _)
        exact HK9.out
      rw [← hwa]
      clear hwa HR9 HS9 HK9
      have r0 := HSa.out.cell 0; have r1 := HSa.out.cell 1; have r2 := HSa.out.cell 2; have r3 := HSa.out.cell 3
      have f0 := HSa.out.frozen 0; have f1 := HSa.out.frozen 1; have f2 := HSa.out.frozen 2; have f3 := HSa.out.frozen 3
      simp only [List.getElem?_cons_zero, List.getElem?_cons_succ] at r0 r1 r2 r3
      have hb8 := (((HSa.out.set_ 0 (n64 (limb RR 0))).set_ 1 (n64 (limb RR 1))).set_ 2 (n64 (limb RR 2))).set_ 3 (n64 (limb RR 3))
      have HR8 : Hid (Blk ((((wa.setCell ⟨w.heap.size + 1 + 1 + 1, 0, none⟩ (n64 (limb RR 0))).setCell ⟨w.heap.size + 1 + 1 + 1, 1, none⟩ (n64 (limb RR 1))).setCell ⟨w.heap.size + 1 + 1 + 1, 2, none⟩ (n64 (limb RR 2))).setCell ⟨w.heap.size + 1 + 1 + 1, 3, none⟩ (n64 (limb RR 3))) (w.heap.size + 1 + 1) 42 (uL QQ)) := Lib.hid ((((HRa.out.far (by simp) _).far (by simp) _).far (by simp) _).far (by simp) _)
      have HK8 : Hid (Keep w ((((wa.setCell ⟨w.heap.size + 1 + 1 + 1, 0, none⟩ (n64 (limb RR 0))).setCell ⟨w.heap.size + 1 + 1 + 1, 1, none⟩ (n64 (limb RR 1))).setCell ⟨w.heap.size + 1 + 1 + 1, 2, none⟩ (n64 (limb RR 2))).setCell ⟨w.heap.size + 1 + 1 + 1, 3, none⟩ (n64 (limb RR 3)))) := by
        refine Lib.hid ?_
        iterate 4 (refine Below.setCell ?_ (by simp <;> omega) _)
        exact HKa.out
      have Hb8 := Lib.hid hb8
      clear hb8 HSa HRa HKa
      go_wp2
      exact bodyPost_ret (v := .tuple #[uV QQ, uV RR, .bool true]) (results_cell2_tmp_row Tryz.results52 _ _ (w.heap.size + 1 + 1) (w.heap.size + 1 + 1 + 1) _ _ _ _ _ _ _ rfl HR8.out rfl Hb8.out Tryz.underlying42 rfl (by kernel_rfl) (by kernel_rfl)) rfl ⟨rfl, HK8.out⟩
    · obtain ⟨j, rfl⟩ : ∃ j', j = j' + 1 := ⟨j - 1, by omega⟩
      have hlt := Nat.mod_lt (a / 2 ^ (j + 1)) HB0.out
      obtain ⟨dm1, dm2, dm3⟩ := div_more (a := a) (i := j) HB0.out
      have LIMB := limb_digit a j
      obtain ⟨L, hLe⟩ : ∃ L, a / 2 ^ (j + 1) % b = L := ⟨_, rfl⟩
      rw [hLe] at hlt dm2 dm3 FL3
      obtain ⟨c, hce⟩ : ∃ c, a / 2 ^ j % 2 = c := ⟨_, rfl⟩
      rw [hce] at dm2 dm3 LIMB
      have hc2 : c < 2 := by rw [← hce]; exact Nat.mod_lt _ (by decide)
      obtain ⟨ls1, ls2, ls3, ls4⟩ := left_step hlt HBb.out hc2
      have hb256 := HBb.out
      have HLlt : Hid (L < 2 ^ 256) := Lib.hid (by omega)
      obtain ⟨E, hE⟩ : ∃ E, sumN L L = E := ⟨_, rfl⟩
      rw [hE] at ls1 ls2 ls3 ls4
      obtain ⟨ea0, ea1, ea2, ea3, ea4, ea5⟩ := even_add ls1 ls2 hc2
      have AD2 := AD.out L
      rw [hE] at AD2
      obtain ⟨ov, hov⟩ : ∃ ov, decide (2 ^ 256 ≤ L + L) = ov := ⟨_, rfl⟩
      rw [hov] at AD2
      have HOV := Lib.hid hov
      clear hov
      have AD3 : Hid (∀ y, Calls Tryz.prog 39 #[uV L, uV L] y fun e w' => e = .returned (.tuple #[uV E, .bool ov]) ∧ Keep y w') := Lib.hid fun y => AD2 y HLlt.out
      have HD2 := Lib.hid dm2; have HD3 := Lib.hid dm3; have HS3 := Lib.hid ls3; have HS4 := Lib.hid ls4
      have HF : Hid (E + c < 2 ^ 256) := Lib.hid ea0
      have d0 : (0 : Int) ≤ ((j + 1 : Nat) : Int) - 1 := by omega
      clear dm1 dm2 dm3 ls1 ls2 ls3 ls4 ea0 AD2 hb256 hlt hE hLe hce AD
      have l0 := FL3.out.cell 0; have l1 := FL3.out.cell 1; have l2 := FL3.out.cell 2; have l3 := FL3.out.cell 3
      simp only [uL, List.getElem?_cons_zero, List.getElem?_cons_succ] at l0 l1 l2 l3
      go_wp2_with fail
      refine (AD3.out _).mono ?_
      clear AD3 l0 l1 l2 l3
      rintro e w4 ⟨rfl, k4⟩
      have FA4 := Lib.hid (FA3.out.keep k4)
      have FB4 := Lib.hid (FB3.out.keep k4)
      have FR4 := Lib.hid (FR3.out.keep k4)
      have FS4 := Lib.hid (FS3.out.keep k4)
      have FO4 := Lib.hid (FO3.out.keep k4)
      have FL4 := Lib.hid (FL3.out.keep k4)
      have HK4 := Lib.hid (keep_trans HK3.out k4)
      clear k4 FA3 FB3 FR3 FS3 FO3 FL3 HK3
      have r0 := FL4.out.cell 0; have r1 := FL4.out.cell 1; have r2 := FL4.out.cell 2; have r3 := FL4.out.cell 3
      simp only [uL, List.getElem?_cons_zero, List.getElem?_cons_succ] at r0 r1 r2 r3
      have f0 := FL4.out.frozen 0; have f1 := FL4.out.frozen 1; have f2 := FL4.out.frozen 2; have f3 := FL4.out.frozen 3
      go_upto_region 9 with fail
      obtain ⟨w5, hw5⟩ : ∃ w5, w5 = ((((w4.setCell ⟨w.heap.size + 1 + 1 + 1 + 1 + 1, 0, none⟩ (n64 (limb E 0))).setCell ⟨w.heap.size + 1 + 1 + 1 + 1 + 1, 1, none⟩ (n64 (limb E 1))).setCell ⟨w.heap.size + 1 + 1 + 1 + 1 + 1, 2, none⟩ (n64 (limb E 2))).setCell ⟨w.heap.size + 1 + 1 + 1 + 1 + 1, 3, none⟩ (n64 (limb E 3))) := ⟨_, rfl⟩
      have FA5 : Hid (Blk w5 (w.heap.size) 42 (uL a)) := by rw [hw5]; exact Lib.hid ((((FA4.out.far (by simp <;> omega) _).far (by simp <;> omega) _).far (by simp <;> omega) _).far (by simp <;> omega) _)
      have FB5 : Hid (Blk w5 (w.heap.size + 1) 42 (uL b)) := by rw [hw5]; exact Lib.hid ((((FB4.out.far (by simp <;> omega) _).far (by simp <;> omega) _).far (by simp <;> omega) _).far (by simp <;> omega) _)
      have FR5 : Hid (Blk w5 (w.heap.size + 1 + 1) 42 [.int .u64 0, .int .u64 0, .int .u64 0, .int .u64 0]) := by rw [hw5]; exact Lib.hid ((((FR4.out.far (by simp <;> omega) _).far (by simp <;> omega) _).far (by simp <;> omega) _).far (by simp <;> omega) _)
      have FS5 : Hid (Blk w5 (w.heap.size + 1 + 1 + 1) 42 [.int .u64 0, .int .u64 0, .int .u64 0, .int .u64 0]) := by rw [hw5]; exact Lib.hid ((((FS4.out.far (by simp <;> omega) _).far (by simp <;> omega) _).far (by simp <;> omega) _).far (by simp <;> omega) _)
      have FO5 : Hid (Blk w5 (w.heap.size + 1 + 1 + 1 + 1) 42 (uL (oftN a b (j + 1)))) := by rw [hw5]; exact Lib.hid ((((FO4.out.far (by simp <;> omega) _).far (by simp <;> omega) _).far (by simp <;> omega) _).far (by simp <;> omega) _)
      have FL5 : Hid (Blk w5 (w.heap.size + 1 + 1 + 1 + 1 + 1) 42 (uL E)) := by rw [hw5]; exact Lib.hid ((((FL4.out.set_ 0 _).set_ 1 _).set_ 2 _).set_ 3 _)
      have HK5 : Hid (Keep w w5) := by
        rw [hw5]
        refine Lib.hid ?_
        iterate 4 (refine Below.setCell ?_ (by simp <;> omega) _)
        exact HK4.out
      rw [← hw5]
      clear hw5 r0 r1 r2 r3 f0 f1 f2 f3 FA4 FB4 FR4 FS4 FO4 FL4 HK4
      have hq1 : Int.tdiv (((j + 1 : Nat) : Int) - 1) 64 = ((j / 64 : Nat) : Int) := by rw [Int.tdiv_eq_ediv_of_nonneg (by omega)]; omega
      have hd1 : Int.tmod (((j + 1 : Nat) : Int) - 1) 64 = ((j % 64 : Nat) : Int) := by rw [Int.tmod_eq_emod_of_nonneg (by omega)]; omega
      have hq4 : j / 64 < 4 := by omega
      have hd64 : j % 64 < 64 := by omega
      obtain ⟨q, hq⟩ : ∃ q, j / 64 = q := ⟨_, rfl⟩
      obtain ⟨d, hd⟩ : ∃ d, j % 64 = d := ⟨_, rfl⟩
      rw [hq] at hq1 hq4 LIMB; rw [hd] at hd1 hd64 LIMB
      have hsh : ((limb a q : Nat) : Int) / 2 ^ d = ((limb a q / 2 ^ d : Nat) : Int) := by rw [Int.natCast_ediv]; rfl
      have hand : bits .and .u64 (((limb a q : Nat) : Int) / 2 ^ d) 1 = (c : Int) := by rw [hsh, u64_and1 _ (Nat.lt_of_le_of_lt (Nat.div_le_self _ _) (limb_lt _ _)), LIMB]
      have hor : bits .or .u64 ((limb E 0 : Nat) : Int) (c : Int) = ((limb (E + c) 0 : Nat) : Int) := by
        rw [bits_or_u64_nat _ _ (limb_lt _ _) (by omega), or_one ea5 hc2, ea1]
      have hj1 : ((j + 1 : Nat) : Int) - 1 = (j : Int) := by omega
      clear hsh LIMB
      obtain ⟨F, hF⟩ : ∃ F, E + c = F := ⟨_, rfl⟩
      rw [hF] at HF HS3 HS4 ea1 ea2 ea3 ea4 hor
      have HSET : Hid ((uL E).set 0 (n64 (limb F 0)) = uL F) := Lib.hid (by unfold uL; rw [ea2, ea3, ea4]; rfl)
      clear ea1 ea2 ea3 ea4 ea5 hF
      go_upto_region 9 with fail
      refine wp_region_tree (.take [0,1,2,3,4,5,6,7,8,9,10,11] .done) [12] (by kernel_rfl) (by kernel_rfl) (fun w6 k6 => ?_)
      have FA6 := Lib.hid (FA5.out.keep k6)
      have FB6 := Lib.hid (FB5.out.keep k6)
      have FR6 := Lib.hid (FR5.out.keep k6)
      have FS6 := Lib.hid (FS5.out.keep k6)
      have FO6 := Lib.hid (FO5.out.keep k6)
      have FL6 := Lib.hid (FL5.out.keep k6)
      have HK6 := Lib.hid (keep_trans HK5.out k6)
      clear k6 FA5 FB5 FR5 FS5 FO5 FL5 HK5
      have l0 := aft_cell (FL6.out.cell 0)
      have a0 := aft_cell (show w6.cell? ⟨w.heap.size, q, none⟩ = some (n64 (limb a q)) by rw [FA6.out.cell, uL_get a q hq4])
      refine mt_take w6 (Below.refl _ _) ?_
      simp only [pick_cons, pick_nil, nth_zero, nth_succ]
      repeat (go_big_quiet_step (fail))
      refine wpQuiet_nil (mt_end ?_)
      clear l0 a0 hand
      have l0 := FL6.out.cell 0; have f0 := FL6.out.frozen 0
      have l0' : w6.cell? ⟨w.heap.size + 1 + 1 + 1 + 1 + 1, 0, none⟩ = some (n64 (limb E 0)) := l0
      go_upto_region 10 with fail
      obtain ⟨w7, hw7⟩ : ∃ w7, w7 = w6.setCell ⟨w.heap.size + 1 + 1 + 1 + 1 + 1, 0, none⟩ (n64 (limb F 0)) := ⟨_, rfl⟩
      have FL7 : Hid (Blk w7 (w.heap.size + 1 + 1 + 1 + 1 + 1) 42 (uL F)) := by
        rw [hw7]
        have h1 := FL6.out.set_ 0 (n64 (limb F 0))
        rw [HSET.out] at h1
        exact h1
      have HK7 : Hid (Keep w w7) := by rw [hw7]; exact Lib.hid (Below.setCell HK6.out (by simp <;> omega) _)
      have FA7 : Hid (Blk w7 (w.heap.size) 42 (uL a)) := by rw [hw7]; exact Lib.hid (FA6.out.far (by simp <;> omega) _)
      have FB7 : Hid (Blk w7 (w.heap.size + 1) 42 (uL b)) := by rw [hw7]; exact Lib.hid (FB6.out.far (by simp <;> omega) _)
      have FR7 : Hid (Blk w7 (w.heap.size + 1 + 1) 42 [.int .u64 0, .int .u64 0, .int .u64 0, .int .u64 0]) := by rw [hw7]; exact Lib.hid (FR6.out.far (by simp <;> omega) _)
      have FS7 : Hid (Blk w7 (w.heap.size + 1 + 1 + 1) 42 [.int .u64 0, .int .u64 0, .int .u64 0, .int .u64 0]) := by rw [hw7]; exact Lib.hid (FS6.out.far (by simp <;> omega) _)
      have FO7 : Hid (Blk w7 (w.heap.size + 1 + 1 + 1 + 1) 42 (uL (oftN a b (j + 1)))) := by rw [hw7]; exact Lib.hid (FO6.out.far (by simp <;> omega) _)
      rw [← hw7]
      clear hw7 l0 l0' f0 FA6 FB6 FR6 FS6 FO6 FL6 HK6 HSET hor
      cases ov with
      | true =>
        have hov : 2 ^ 256 ≤ L + L := of_decide_eq_true HOV.out
        obtain ⟨z1, z2, z3⟩ := HS3.out hov
        obtain ⟨t1, t2⟩ := HD2.out z3
        obtain ⟨R2, hR2⟩ : ∃ R2, difN F b = R2 := ⟨_, rfl⟩
        have HR2 := Lib.hid hR2
        have HREM : Hid (a / 2 ^ j % b = R2) := Lib.hid (by rw [t1, ← z2, hR2])
        have HOFT := Lib.hid t2
        clear hov z1 z2 z3 t1 t2 hR2 HS3 HS4 HD2 HD3
        have l0 := FL7.out.cell 0; have l1 := FL7.out.cell 1; have l2 := FL7.out.cell 2; have l3 := FL7.out.cell 3
        simp only [uL, List.getElem?_cons_zero, List.getElem?_cons_succ] at l0 l1 l2 l3
        have b0 := FB7.out.cell 0; have b1 := FB7.out.cell 1; have b2 := FB7.out.cell 2; have b3 := FB7.out.cell 3
        simp only [uL, List.getElem?_cons_zero, List.getElem?_cons_succ] at b0 b1 b2 b3
        have SB2 : Hid (∀ y, Calls Tryz.prog 68 #[uV F, uV b] y fun e w' => e = .returned (.tuple #[uV R2, .bool (decide (F < b))]) ∧ Keep y w') := Lib.hid fun y => by
          have q := SB.out F y HF.out
          rw [HR2.out] at q
          exact q
        go_wp2_with fail
        refine (SB2.out _).mono ?_
        clear SB2 l0 l1 l2 l3 b0 b1 b2 b3
        rintro e wa ⟨rfl, ka⟩
        have FAa := Lib.hid (FA7.out.keep ka)
        have FBa := Lib.hid (FB7.out.keep ka)
        have FRa := Lib.hid (FR7.out.keep ka)
        have FSa := Lib.hid (FS7.out.keep ka)
        have FOa := Lib.hid (FO7.out.keep ka)
        have FLa := Lib.hid (FL7.out.keep ka)
        have HKa := Lib.hid (keep_trans HK7.out ka)
        clear ka FA7 FB7 FR7 FS7 FO7 FL7 HK7
        have r0 := FLa.out.cell 0; have r1 := FLa.out.cell 1; have r2 := FLa.out.cell 2; have r3 := FLa.out.cell 3
        simp only [uL, List.getElem?_cons_zero, List.getElem?_cons_succ] at r0 r1 r2 r3
        have f0 := FLa.out.frozen 0; have f1 := FLa.out.frozen 1; have f2 := FLa.out.frozen 2; have f3 := FLa.out.frozen 3
        go_upto_region 12 with fail
        obtain ⟨wb, hwb⟩ : ∃ wb, wb = ((((wa.setCell ⟨w.heap.size + 1 + 1 + 1 + 1 + 1, 0, none⟩ (n64 (limb R2 0))).setCell ⟨w.heap.size + 1 + 1 + 1 + 1 + 1, 1, none⟩ (n64 (limb R2 1))).setCell ⟨w.heap.size + 1 + 1 + 1 + 1 + 1, 2, none⟩ (n64 (limb R2 2))).setCell ⟨w.heap.size + 1 + 1 + 1 + 1 + 1, 3, none⟩ (n64 (limb R2 3))) := ⟨_, rfl⟩
        have FAb : Hid (Blk wb (w.heap.size) 42 (uL a)) := by rw [hwb]; exact Lib.hid ((((FAa.out.far (by simp <;> omega) _).far (by simp <;> omega) _).far (by simp <;> omega) _).far (by simp <;> omega) _)
        have FBb : Hid (Blk wb (w.heap.size + 1) 42 (uL b)) := by rw [hwb]; exact Lib.hid ((((FBa.out.far (by simp <;> omega) _).far (by simp <;> omega) _).far (by simp <;> omega) _).far (by simp <;> omega) _)
        have FRb : Hid (Blk wb (w.heap.size + 1 + 1) 42 [.int .u64 0, .int .u64 0, .int .u64 0, .int .u64 0]) := by rw [hwb]; exact Lib.hid ((((FRa.out.far (by simp <;> omega) _).far (by simp <;> omega) _).far (by simp <;> omega) _).far (by simp <;> omega) _)
        have FSb : Hid (Blk wb (w.heap.size + 1 + 1 + 1) 42 [.int .u64 0, .int .u64 0, .int .u64 0, .int .u64 0]) := by rw [hwb]; exact Lib.hid ((((FSa.out.far (by simp <;> omega) _).far (by simp <;> omega) _).far (by simp <;> omega) _).far (by simp <;> omega) _)
        have FOb : Hid (Blk wb (w.heap.size + 1 + 1 + 1 + 1) 42 (uL (oftN a b (j + 1)))) := by rw [hwb]; exact Lib.hid ((((FOa.out.far (by simp <;> omega) _).far (by simp <;> omega) _).far (by simp <;> omega) _).far (by simp <;> omega) _)
        have FLb : Hid (Blk wb (w.heap.size + 1 + 1 + 1 + 1 + 1) 42 (uL R2)) := by rw [hwb]; exact Lib.hid ((((FLa.out.set_ 0 _).set_ 1 _).set_ 2 _).set_ 3 _)
        have HKb : Hid (Keep w wb) := by
          rw [hwb]
          refine Lib.hid ?_
          iterate 4 (refine Below.setCell ?_ (by simp <;> omega) _)
          exact HKa.out
        rw [← hwb]
        clear hwb r0 r1 r2 r3 f0 f1 f2 f3 FAa FBa FRa FSa FOa FLa HKa
        have hpi : ((2 : Int) ^ d) = ((2 ^ d : Nat) : Int) := by rw [Int.natCast_pow]; rfl
        have hpw : IntKind.u64.wrap ((2 : Int) ^ d) = (2 : Int) ^ d := by
          have h1 : (2 : Nat) ^ d < 18446744073709551616 := pow_word hd64
          rw [hpi]
          generalize (2 : Nat) ^ d = P at *
          rw [IntKind.wrap_u64]; omega
        obtain ⟨X, hX⟩ : ∃ X, limb (oftN a b (j + 1)) q ||| 2 ^ d = X := ⟨_, rfl⟩
        have hor : bits .or .u64 ((limb (oftN a b (j + 1)) q : Nat) : Int) ((2 : Int) ^ d) = (X : Int) := by rw [hpi, bits_or_u64_nat _ _ (limb_lt _ _) (pow_word hd64), hX]
        have HSX : Hid ((uL (oftN a b (j + 1))).set q (n64 X) = uL (oftN a b (j + 1) ||| 2 ^ j)) := Lib.hid (by rw [← hX, ← hq, ← hd]; exact uL_or (by rw [hq]; exact hq4))
        clear hX hpi
        refine wp_region_tree (.take [0,1,2,3,4,5,6,7,8] .done) [9] (by kernel_rfl) (by kernel_rfl) (fun wc kc => ?_)
        have FAc := Lib.hid (FAb.out.keep kc)
        have FBc := Lib.hid (FBb.out.keep kc)
        have FRc := Lib.hid (FRb.out.keep kc)
        have FSc := Lib.hid (FSb.out.keep kc)
        have FOc := Lib.hid (FOb.out.keep kc)
        have FLc := Lib.hid (FLb.out.keep kc)
        have HKc := Lib.hid (keep_trans HKb.out kc)
        clear kc FAb FBb FRb FSb FOb FLb HKb
        have o0 := aft_cell (show wc.cell? ⟨w.heap.size + 1 + 1 + 1 + 1, q, none⟩ = some (n64 (limb (oftN a b (j + 1)) q)) by rw [FOc.out.cell, uL_get _ q hq4])
        refine mt_take wc (Below.refl _ _) ?_
        simp only [pick_cons, pick_nil, nth_zero, nth_succ]
        repeat (go_big_quiet_step (fail))
        refine wpQuiet_nil (mt_end ?_)
        clear o0
        have o0 : wc.cell? ⟨w.heap.size + 1 + 1 + 1 + 1, q, none⟩ = some (n64 (limb (oftN a b (j + 1)) q)) := by rw [FOc.out.cell, uL_get _ q hq4]
        have fo := FOc.out.frozen q
        go_wp2
        go_roundw
        case rel =>
          refine ⟨j, by omega, by go_num, Lib.hid (FAc.out.far (by simp <;> omega) _), Lib.hid (FBc.out.far (by simp <;> omega) _), Lib.hid (FRc.out.far (by simp <;> omega) _), Lib.hid (FSc.out.far (by simp <;> omega) _), Lib.hid ?_, Lib.hid ?_, Lib.hid (Below.setCell HKc.out (by simp <;> omega) _)⟩
          · have h1 := FOc.out.set_ q (n64 X)
            rw [HSX.out, ← oft_hit HOFT.out] at h1
            exact h1
          · rw [HREM.out]; exact FLc.out.far (by simp <;> omega) _
        case measure => simp [intOf] <;> omega
      | false =>
        have hov : ¬ 2 ^ 256 ≤ L + L := of_decide_eq_false HOV.out
        obtain ⟨z1, z2⟩ := HS4.out hov
        have CP2 : Hid (∀ y, Calls Tryz.prog 49 #[uV F, uV b] y fun e w' => e = .returned (.int .i64 (cmpN F b)) ∧ Keep y w') := Lib.hid fun y => CP.out F y HF.out
        have HCM : Hid (∀ x, cmpN F b = x → (b ≤ F → 0 ≤ x) ∧ (F < b → x = -1)) := Lib.hid fun x e => by
          subst e; unfold cmpN
          constructor <;> intro h <;> (repeat split) <;> omega
        replace HCM := Lib.hid (HCM.out _ rfl)
        have Z1 := Lib.hid z1; have Z2 := Lib.hid z2
        clear hov z1 z2 HS3 HS4
        generalize cmpN F b = cm at *
        have l0 := FL7.out.cell 0; have l1 := FL7.out.cell 1; have l2 := FL7.out.cell 2; have l3 := FL7.out.cell 3
        simp only [uL, List.getElem?_cons_zero, List.getElem?_cons_succ] at l0 l1 l2 l3
        have b0 := FB7.out.cell 0; have b1 := FB7.out.cell 1; have b2 := FB7.out.cell 2; have b3 := FB7.out.cell 3
        simp only [uL, List.getElem?_cons_zero, List.getElem?_cons_succ] at b0 b1 b2 b3
        go_wp2_with fail
        refine (CP2.out _).mono ?_
        clear CP2 l0 l1 l2 l3 b0 b1 b2 b3
        rintro e w8 ⟨rfl, k8⟩
        have FA8 := Lib.hid (FA7.out.keep k8)
        have FB8 := Lib.hid (FB7.out.keep k8)
        have FR8 := Lib.hid (FR7.out.keep k8)
        have FS8 := Lib.hid (FS7.out.keep k8)
        have FO8 := Lib.hid (FO7.out.keep k8)
        have FL8 := Lib.hid (FL7.out.keep k8)
        have HK8 := Lib.hid (keep_trans HK7.out k8)
        clear k8 FA7 FB7 FR7 FS7 FO7 FL7 HK7
        by_cases hge : b ≤ F
        · have hcm := HCM.out.1 hge
          have hcm2 : ¬ cm < 0 := by omega
          have z := Z1.out
          obtain ⟨t1, t2⟩ := HD2.out (by omega)
          have y := Z2.out (by omega)
          obtain ⟨R2, hR2⟩ : ∃ R2, difN F b = R2 := ⟨_, rfl⟩
          have HR2 := Lib.hid hR2
          have HREM : Hid (a / 2 ^ j % b = R2) := Lib.hid (by rw [t1, ← y, hR2])
          have HOFT := Lib.hid t2
          clear z t1 t2 y hR2 HCM Z1 Z2 HD2 HD3 hge
          have l0 := FL8.out.cell 0; have l1 := FL8.out.cell 1; have l2 := FL8.out.cell 2; have l3 := FL8.out.cell 3
          simp only [uL, List.getElem?_cons_zero, List.getElem?_cons_succ] at l0 l1 l2 l3
          have b0 := FB8.out.cell 0; have b1 := FB8.out.cell 1; have b2 := FB8.out.cell 2; have b3 := FB8.out.cell 3
          simp only [uL, List.getElem?_cons_zero, List.getElem?_cons_succ] at b0 b1 b2 b3
          have SB2 : Hid (∀ y, Calls Tryz.prog 68 #[uV F, uV b] y fun e w' => e = .returned (.tuple #[uV R2, .bool (decide (F < b))]) ∧ Keep y w') := Lib.hid fun y => by
            have q := SB.out F y HF.out
            rw [HR2.out] at q
            exact q
          go_wp2_with fail
          refine (SB2.out _).mono ?_
          clear SB2 l0 l1 l2 l3 b0 b1 b2 b3
          rintro e wa ⟨rfl, ka⟩
          have FAa := Lib.hid (FA8.out.keep ka)
          have FBa := Lib.hid (FB8.out.keep ka)
          have FRa := Lib.hid (FR8.out.keep ka)
          have FSa := Lib.hid (FS8.out.keep ka)
          have FOa := Lib.hid (FO8.out.keep ka)
          have FLa := Lib.hid (FL8.out.keep ka)
          have HKa := Lib.hid (keep_trans HK8.out ka)
          clear ka FA8 FB8 FR8 FS8 FO8 FL8 HK8
          have r0 := FLa.out.cell 0; have r1 := FLa.out.cell 1; have r2 := FLa.out.cell 2; have r3 := FLa.out.cell 3
          simp only [uL, List.getElem?_cons_zero, List.getElem?_cons_succ] at r0 r1 r2 r3
          have f0 := FLa.out.frozen 0; have f1 := FLa.out.frozen 1; have f2 := FLa.out.frozen 2; have f3 := FLa.out.frozen 3
          go_upto_region 12 with fail
          obtain ⟨wb, hwb⟩ : ∃ wb, wb = ((((wa.setCell ⟨w.heap.size + 1 + 1 + 1 + 1 + 1, 0, none⟩ (n64 (limb R2 0))).setCell ⟨w.heap.size + 1 + 1 + 1 + 1 + 1, 1, none⟩ (n64 (limb R2 1))).setCell ⟨w.heap.size + 1 + 1 + 1 + 1 + 1, 2, none⟩ (n64 (limb R2 2))).setCell ⟨w.heap.size + 1 + 1 + 1 + 1 + 1, 3, none⟩ (n64 (limb R2 3))) := ⟨_, rfl⟩
          have FAb : Hid (Blk wb (w.heap.size) 42 (uL a)) := by rw [hwb]; exact Lib.hid ((((FAa.out.far (by simp <;> omega) _).far (by simp <;> omega) _).far (by simp <;> omega) _).far (by simp <;> omega) _)
          have FBb : Hid (Blk wb (w.heap.size + 1) 42 (uL b)) := by rw [hwb]; exact Lib.hid ((((FBa.out.far (by simp <;> omega) _).far (by simp <;> omega) _).far (by simp <;> omega) _).far (by simp <;> omega) _)
          have FRb : Hid (Blk wb (w.heap.size + 1 + 1) 42 [.int .u64 0, .int .u64 0, .int .u64 0, .int .u64 0]) := by rw [hwb]; exact Lib.hid ((((FRa.out.far (by simp <;> omega) _).far (by simp <;> omega) _).far (by simp <;> omega) _).far (by simp <;> omega) _)
          have FSb : Hid (Blk wb (w.heap.size + 1 + 1 + 1) 42 [.int .u64 0, .int .u64 0, .int .u64 0, .int .u64 0]) := by rw [hwb]; exact Lib.hid ((((FSa.out.far (by simp <;> omega) _).far (by simp <;> omega) _).far (by simp <;> omega) _).far (by simp <;> omega) _)
          have FOb : Hid (Blk wb (w.heap.size + 1 + 1 + 1 + 1) 42 (uL (oftN a b (j + 1)))) := by rw [hwb]; exact Lib.hid ((((FOa.out.far (by simp <;> omega) _).far (by simp <;> omega) _).far (by simp <;> omega) _).far (by simp <;> omega) _)
          have FLb : Hid (Blk wb (w.heap.size + 1 + 1 + 1 + 1 + 1) 42 (uL R2)) := by rw [hwb]; exact Lib.hid ((((FLa.out.set_ 0 _).set_ 1 _).set_ 2 _).set_ 3 _)
          have HKb : Hid (Keep w wb) := by
            rw [hwb]
            refine Lib.hid ?_
            iterate 4 (refine Below.setCell ?_ (by simp <;> omega) _)
            exact HKa.out
          rw [← hwb]
          clear hwb r0 r1 r2 r3 f0 f1 f2 f3 FAa FBa FRa FSa FOa FLa HKa
          have hpi : ((2 : Int) ^ d) = ((2 ^ d : Nat) : Int) := by rw [Int.natCast_pow]; rfl
          have hpw : IntKind.u64.wrap ((2 : Int) ^ d) = (2 : Int) ^ d := by
            have h1 : (2 : Nat) ^ d < 18446744073709551616 := pow_word hd64
            rw [hpi]
            generalize (2 : Nat) ^ d = P at *
            rw [IntKind.wrap_u64]; omega
          obtain ⟨X, hX⟩ : ∃ X, limb (oftN a b (j + 1)) q ||| 2 ^ d = X := ⟨_, rfl⟩
          have hor : bits .or .u64 ((limb (oftN a b (j + 1)) q : Nat) : Int) ((2 : Int) ^ d) = (X : Int) := by rw [hpi, bits_or_u64_nat _ _ (limb_lt _ _) (pow_word hd64), hX]
          have HSX : Hid ((uL (oftN a b (j + 1))).set q (n64 X) = uL (oftN a b (j + 1) ||| 2 ^ j)) := Lib.hid (by rw [← hX, ← hq, ← hd]; exact uL_or (by rw [hq]; exact hq4))
          clear hX hpi
          refine wp_region_tree (.take [0,1,2,3,4,5,6,7,8] .done) [9] (by kernel_rfl) (by kernel_rfl) (fun wc kc => ?_)
          have FAc := Lib.hid (FAb.out.keep kc)
          have FBc := Lib.hid (FBb.out.keep kc)
          have FRc := Lib.hid (FRb.out.keep kc)
          have FSc := Lib.hid (FSb.out.keep kc)
          have FOc := Lib.hid (FOb.out.keep kc)
          have FLc := Lib.hid (FLb.out.keep kc)
          have HKc := Lib.hid (keep_trans HKb.out kc)
          clear kc FAb FBb FRb FSb FOb FLb HKb
          have o0 := aft_cell (show wc.cell? ⟨w.heap.size + 1 + 1 + 1 + 1, q, none⟩ = some (n64 (limb (oftN a b (j + 1)) q)) by rw [FOc.out.cell, uL_get _ q hq4])
          refine mt_take wc (Below.refl _ _) ?_
          simp only [pick_cons, pick_nil, nth_zero, nth_succ]
          repeat (go_big_quiet_step (fail))
          refine wpQuiet_nil (mt_end ?_)
          clear o0
          have o0 : wc.cell? ⟨w.heap.size + 1 + 1 + 1 + 1, q, none⟩ = some (n64 (limb (oftN a b (j + 1)) q)) := by rw [FOc.out.cell, uL_get _ q hq4]
          have fo := FOc.out.frozen q
          go_wp2
          go_roundw
          case rel =>
            refine ⟨j, by omega, by go_num, Lib.hid (FAc.out.far (by simp <;> omega) _), Lib.hid (FBc.out.far (by simp <;> omega) _), Lib.hid (FRc.out.far (by simp <;> omega) _), Lib.hid (FSc.out.far (by simp <;> omega) _), Lib.hid ?_, Lib.hid ?_, Lib.hid (Below.setCell HKc.out (by simp <;> omega) _)⟩
            · have h1 := FOc.out.set_ q (n64 X)
              rw [HSX.out, ← oft_hit HOFT.out] at h1
              exact h1
            · rw [HREM.out]; exact FLc.out.far (by simp <;> omega) _
          case measure => simp [intOf] <;> omega
        · have hcm : cm = -1 := HCM.out.2 (by omega)
          subst hcm
          have z := Z1.out
          obtain ⟨t1, t2⟩ := HD3.out (by omega)
          have HREM : Hid (a / 2 ^ j % b = F) := Lib.hid (by rw [t1, z])
          have HOFT := Lib.hid (oft_miss t2)
          clear z t1 t2 HCM Z1 Z2 HD2 HD3 hge
          go_wp2
          go_roundw
          case rel => exact ⟨j, by omega, by go_num, FA8, FB8, FR8, FS8, Lib.hid (by rw [HOFT.out]; exact FO8.out), Lib.hid (by rw [HREM.out]; exact FL8.out), HK8⟩
          case measure => simp [intOf] <;> omega
end Go.Proofs.YtjbdboekleaklaaGreatDoor
