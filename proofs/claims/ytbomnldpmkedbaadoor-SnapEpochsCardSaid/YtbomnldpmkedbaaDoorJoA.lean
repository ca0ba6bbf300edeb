/- A record of a journal. -/
import Derived.Test.YtbomnldpmkedbaaDoorHdr
import Derived.Test.YtbomnldpmkedbaaDoorMoG
import Derived.Deep.AppendSrc
import Derived.Deep.RegionLaw
import Derived.Great.BuildSlice
set_option linter.unusedSimpArgs false
set_option linter.unusedVariables false
namespace Go.Proofs.YtbomnldpmkedbaaDoor
open Go.RowKit
attribute [local go_sem ↓] Go.wp_at_zero Go.wp_at_succ

section
variable {P : Program}
/-- A full slice appended to: a row of its own. -/
theorem run_append_full {t e : TypeId} {z : Value} (T : ElT P t e z 1 1) (w : World) (ty : TypeId) (A : Option Addr) (n : Nat) (xs : List Value) (hx : xs.length = n) (hr : Rd w A xs)
    (B : Option Addr) (m c : Nat) (news : List Value) (hm : news.length = m) (h0 : 0 < m) (hn : Rd w B news) (h1 : ∀ u ∈ news, u.oneCell' = true) (hb : n + m ≤ 100000000) :
    ∃ v' w', (Builtin.append_ #[t, t] ty #[.slice A n n, .slice B m c]).run P w = .ok v' w' ∧ w'.ownsRow w.heap.size e 1 v' (n + m) (xs ++ news) ∧ Keep w w' := by
  obtain ⟨i, hi, hz, hsz, hby⟩ := T.info
  rcases hn with rfl | ⟨b, off, rfl, hc⟩
  · simp at hm; omega
  have hs : Src P i.size t (.slice (some ⟨b, off, none⟩) m c) m news w := Src.ofSlice w T.und ⟨b, off, none⟩ m c news (by rw [hsz, hm, Nat.mul_one]) (fun j u hu => by
    obtain ⟨hj, rfl⟩ := List.getElem?_eq_some_iff.1 hu
    rw [add_lit0]; exact hc j hj) h1
  have hold : (Builtin.firstCells i.size n (.slice A n n)).run P w.drew = .ok xs.toArray w.drew := by
    rcases hr with rfl | ⟨b2, off2, rfl, hc2⟩
    · have h00 : n = 0 := by simpa using hx.symm
      subst h00
      cases A <;> simp [Builtin.firstCells, loadCells, loadCellsFrom]
    · exact run_firstCells_some w.drew i.size n ⟨b2, off2, none⟩ n n xs (by rw [hsz, hx, Nat.mul_one]) (fun j u hu => by
        obtain ⟨hj, rfl⟩ := List.getElem?_eq_some_iff.1 hu
        rw [add_lit0]; exact hc2 j hj)
  have hge := grownCap_ge w (n + m) n e
  have hcm : grownCap w (n + m) n e ≤ maxLen := grownCap_le_maxLen w (n + m) n e (by unfold maxLen; omega)
  have hrun := run_append_grow_src w t t ty e i z T.und hi hz A n n xs hold _ m news hs (by omega) (by omega) (growslice_fits (by omega) (by rw [hby]; omega))
  refine ⟨_, _, hrun, ⟨by simp [hx, hm], .inr ⟨w.heap.size, grownCap w (n + m) n e, (xs ++ news).toArray ++ Builtin.zeroCells z.cells (grownCap w (n + m) n e - (n + m)), rfl, Nat.le_refl _, ?_, hge, hcm, ?_, ?_⟩⟩, ?_⟩
  · exact heap_alloc_new w.drew _
  · simp [size_zeroCells, T.zs, hx, hm]; omega
  · rw [Array.toList_append, List.take_left' (by simp [hx, hm])]
  · exact ((Below.refl w.heap.size w).drew).alloc (Nat.le_refl _) _
theorem wpList_app_full {t e : TypeId} {z : Value} (T : ElT P t e z 1 1) {w : World} {ops : Array Oper} {rest : List Oper} {a : Act} {Q : Exit → Act → World → Prop} {s x : Operand} {dst : Option Tmp} {ty : TypeId} {pos : String} {af : Array Edge}
    (A : Option Addr) (n : Nat) (xs : List Value) (hsv : a.eval s = .slice A n n) (hx : xs.length = n) (hr : Rd w A xs)
    (B : Option Addr) (m c : Nat) (news : List Value) (hxv : a.eval x = .slice B m c) (hm : news.length = m) (h0 : 0 < m) (hn : Rd w B news) (h1 : ∀ u ∈ news, u.oneCell' = true) (hb : n + m ≤ 100000000)
    (h : ∀ v' w', w'.ownsRow w.heap.size e 1 v' (n + m) (xs ++ news) → Keep w w' → wpList P ops Q rest (a.put dst v') w') :
    wpList P ops Q ({ dst := dst, op := .call { callee := .builtin .append, args := #[s, x], argTypes := #[t, t] }, type := ty, pos := pos, after := af, guard := none } :: rest) a w := by
  obtain ⟨v', w', hrun, h2, h3⟩ := run_append_full T w ty A n xs hx hr B m c news hm h0 hn h1 hb
  refine wpList_plain rfl fun K hK => ?_
  unfold Oper.wp execOp
  simp only [resolve, invoke, builtin, Sem.run_bind, Sem.run_pure, Result.andThen_ok, List.map_toArray, List.map_cons, List.map_nil, hsv, hxv, hrun]
  exact hK _ _ (h v' w' h2 h3)
/-- A whole variable loaded, in a region that draws its order. -/
theorem wpQuiet_load_arr {w0 : World} {ops : Array Oper} {rest : List Oper} {a : Act} {Q : Act → Prop} {x : Operand} {dst : Option Tmp} {ty ty' t : TypeId} {pos : String} {af : Array Edge}
    (g : Nat) (cs : Array Value) (hx : a.eval x = .pointer (some ⟨g, 0, none⟩)) (hb : Blk w0 g t cs.toList) (d : TypeDesc) (hu : P.underlying ty = some d) (hd : d.isRow = true) (hi : (P.info? ty).map (·.size) = some cs.size)
    (h : wpQuiet P ops (fun w' => ∃ x, w' = aft w0 x) Q rest (a.put dst (.agg cs))) :
    wpQuiet P ops (fun w' => ∃ x, w' = aft w0 x) Q ({ dst := dst, op := .load ty x, type := ty', pos := pos, after := af, guard := none } :: rest) a := by
  refine BigFrame.wpQuiet_want (by simp [Region.wanted]) fun K hK => ⟨.agg cs, fun w hw => ?_, hK _ h⟩
  obtain ⟨y, rfl⟩ := hw
  have hb2 := hb.keep (aft_keep w0 y)
  unfold Oper.quietAt execOp
  have hl := run_loadVar_mid (P := P) (aft w0 y) g 0 ty cs.toList d (fun j v hv => by rw [Nat.zero_add, hb2.cell]; exact hv) hu hd (by simpa using hi)
  simp only [hx, Instr.loadAt, Instr.sureAddr, Sem.run_bind, Sem.run_pure, Result.andThen_ok, hl, Array.toArray_toList]
  exact ⟨rfl, rfl⟩
end

theorem results_tmp_cell_row {P : Program} {fn : Func} {p u : Tmp} {ty : TypeId} (h : fn.results = #[.tmp u, .cell p ty]) (tmps : Array Value) (w : World) (g : Nat) (t : TypeId) (cs : Array Value) (fr : Nat × Nat) (d : TypeDesc)
    (hp : tmps.getD p undef = .pointer (some ⟨g, 0, none⟩)) (hg : w.heap[g]? = some (.cells cs t fr))
    (hu : P.underlying ty = some d) (hd : (match d with | .struct _ | .array _ _ => true | _ => false) = true) (hi : (P.info? ty).map (·.size) = some cs.size) :
    (results fn tmps).run P w = .ok (.tuple #[tmps.getD u undef, .agg cs]) w := by
  have hp' : tmps[p]?.getD undef = .pointer (some ⟨g, 0, none⟩) := by simpa using hp
  simp [results, h, hp', asAddr, run_loadVar_row w g t ty cs fr d hg hu hd hi]
/-- The load of a whole variable, as the walk's simp leaves it. -/
theorem run_loadCells_blk {P : Program} {w : World} {g : Nat} {t : TypeId} {cs : Array Value} (hb : Blk w g t cs.toList) (n : Nat) (hn : cs.size = n) : (loadCellsFrom ⟨g, 0, none⟩ 0 n #[]).run P w = .ok cs w := by
  subst hn
  have := run_loadCells_list (P := P) w ⟨g, 0, none⟩ cs.toList (fun j v hv => by rw [add_lit0, Nat.zero_add, hb.cell]; exact hv)
  simpa [loadCells] using this

theorem own_lowH {w : World} {b b' : Nat} {e : TypeId} {size : Nat} {v : Value} {n : Nat} {xs : List Value} (h : w.ownsRow b e size v n xs) (hb : b' ≤ b) : w.ownsRow b' e size v n xs :=
  ⟨h.1, h.2.imp id fun ⟨g, cap, cur, e1, e2, e3⟩ => ⟨g, cap, cur, e1, Nat.le_trans hb e2, e3⟩⟩

def seqN (seq : Int) : UInt32 := w32 ((seq % 4294967296 + 1) % 4294967296)
/-- A record's bytes ahead of its sum. -/
def recHead (seq : Int) (h : Hd) : List UInt8 := le4 (seqN seq) ++ (hputL h ++ List.replicate 12 0)
def recSum (last : List UInt8) (seq : Int) (h : Hd) : List UInt8 := dblL (last ++ recHead seq h)
/-- A record's bytes. -/
def recB (last : List UInt8) (seq : Int) (h : Hd) : List UInt8 := recHead seq h ++ recSum last seq h
theorem recHead_len (seq : Int) {h : Hd} (hk : h.ok) : (recHead seq h).length = 96 := by simp [recHead, le4, hputL_len hk]
theorem recB_len (last : List UInt8) (seq : Int) {h : Hd} (hk : h.ok) : (recB last seq h).length = 128 := by
  rw [recB, List.length_append, recHead_len seq hk]; unfold recSum; rw [dblL_len]
theorem zhash_letter : ∃ zs : Array Value, zs.size = 32 ∧ (∀ w, (zeroValue 34).run Tryd.prog w = .ok (.agg zs) w) ∧ ¬ zs = #[] ∧ zs.toList = (List.replicate 32 (0 : UInt8)).map u8v :=
  ⟨zhash, zhash_size, zhash_zero, (fun h => by have := zhash_size; rw [h] at this; cases this), zhash_list⟩

theorem bv0 (x : UInt32) : Value.int .u8 ((x.toNat : Int) % 256) = u8v (w8 (leE x 0)) := by
  have e : (x.toNat : Int) % 256 = leE x 0 := by unfold leE; simp
  rw [e]; unfold u8v; rw [← w8_of (by unfold leE; omega) (by unfold leE; omega)]
theorem bv1 (x : UInt32) : Value.int .u8 ((x.toNat : Int) / 256 % 256) = u8v (w8 (leE x 1)) := by
  have e : (x.toNat : Int) / 256 % 256 = leE x 1 := by unfold leE; rfl
  rw [e]; unfold u8v; rw [← w8_of (by unfold leE; omega) (by unfold leE; omega)]
theorem bv2 (x : UInt32) : Value.int .u8 ((x.toNat : Int) / 65536 % 256) = u8v (w8 (leE x 2)) := by
  have e : (x.toNat : Int) / 65536 % 256 = leE x 2 := by unfold leE; rfl
  rw [e]; unfold u8v; rw [← w8_of (by unfold leE; omega) (by unfold leE; omega)]
theorem bv3 (x : UInt32) : Value.int .u8 ((x.toNat : Int) / 16777216) = u8v (w8 (leE x 3)) := by
  have hx := w32_hi x
  have e : (x.toNat : Int) / 16777216 = leE x 3 := by
    unfold leE
    show _ = (x.toNat : Int) / 16777216 % 256
    omega
  rw [e]; unfold u8v; rw [← w8_of (by unfold leE; omega) (by unfold leE; omega)]
theorem rec_set (x : UInt32) : (((((List.replicate 128 (0 : UInt8)).map u8v).set 0 (u8v (w8 (leE x 0)))).set 1 (u8v (w8 (leE x 1)))).set 2 (u8v (w8 (leE x 2)))).set 3 (u8v (w8 (leE x 3))) = (le4 x ++ (List.replicate 80 0 ++ List.replicate 44 0)).map u8v := by rfl

set_option maxRecDepth 100000 in
set_option maxHeartbeats 3000000 in
theorem record_any (last : List UInt8) (ls : Array Value) (seq : Int) (h : Hd) (hs : Array Value) (w : World) (hls : HashA last ls) (hll : last.length = 32) (hk : h.ok) (hhs : HdA h hs) (hS : ShaOk w) :
    Calls Tryd.prog 60 #[.agg ls, .int .i64 seq, .agg hs] w fun e w' => ∃ A c ds, e = .returned (.tuple #[.slice A 128 c, .agg ds]) ∧ HashA (recSum last seq h) ds ∧ w'.ownsRow w.heap.size 5 1 (.slice A 128 c) 128 ((recB last seq h).map u8v) ∧ Keep w w' := by
  obtain ⟨zs, hz1, hz2, hz3, hz4⟩ := zhash_letter
  have hcz := hls.z; have hcn := hls.n; have hdz := hhs.z; have hdn := hhs.n; have hdi := hhs.i
  have Hls := Lib.hid hls; have Hhs := Lib.hid hhs; have Hll := Lib.hid hll; have Hk := Lib.hid hk; have HS := Lib.hid hS
  clear hls hhs hll hk hS
  have HRH : Hid (∀ d, recHead seq h = d → recB last seq h = d ++ dblL (last ++ d) ∧ recSum last seq h = dblL (last ++ d)) := fun d e => by subst e; exact ⟨rfl, rfl⟩
  have Hhd : Hid (recHead seq h = le4 (seqN seq) ++ (hputL h ++ List.replicate 12 0)) := rfl
  have Hpl : Hid ((hputL h).length = 80) := hputL_len Hk.out
  have P1 : Hid (∀ w', Calls Tryd.prog 70 #[.agg hs] w' fun e w'' => ∃ A, e = .returned (.slice A 80 80) ∧ Rd w'' A ((hputL h).map u8v) ∧ Keep w' w'') := fun w' => hput_any h hs w' Hk.out Hhs.out
  generalize recB last seq h = RB at HRH ⊢
  generalize recSum last seq h = RS at HRH ⊢
  generalize recHead seq h = RH at HRH Hhd
  generalize hputL h = hp at Hhd Hpl P1
  go_enter Tryd.func60, Tryd.ntmps60
  go_upto_region 2 with fail
  obtain ⟨w1, hw1⟩ : ∃ w1, w1 = ((w.alloc (.cells ls 34)).alloc (.cells hs 65)).alloc (.cells zs 34) := ⟨_, rfl⟩
  have hL : Blk w1 w.heap.size 34 (last.map u8v) := by
    rw [hw1]; exact (((show Blk _ w.heap.size _ (last.map u8v) by rw [← Hls.out.l]; exact Blk.new w _ ls.toList).alloc _).alloc _)
  have hH : Blk w1 (w.heap.size + 1) 65 hs.toList := by
    rw [hw1]
    have h1 := Blk.new (w.alloc (.cells ls 34)) 65 hs.toList
    rw [World.size_alloc] at h1
    exact h1.alloc _
  have hR : Blk w1 (w.heap.size + 1 + 1) 34 zs.toList := by
    rw [hw1]
    have h1 := Blk.new ((w.alloc (.cells ls 34)).alloc (.cells hs 65)) 34 zs.toList
    rw [World.size_alloc, World.size_alloc] at h1
    exact h1
  have kw1 : Keep w w1 := by rw [hw1]; exact keep_trans (keep_trans (keep_new _ _) (keep_new _ _)) (keep_new _ _)
  have hz11 : w.heap.size + 3 = w1.heap.size := by rw [hw1]; simp
  rw [← hw1]
  clear hw1
  rw [show Value.int .u32 ((seq % 4294967296 + 1) % 4294967296) = u32v (seqN seq) from u32v_w (by omega) (by omega)]
  generalize seqN seq = n at Hhd ⊢
  have hn32 := w32_hi n
  obtain ⟨wm, hmk, hbm, km, hsz⟩ := make_blk 96 128 96 128 rfl rfl (by omega) (by omega) w1
  have c0 := hbm.cell 0; have c1 := hbm.cell 1; have c2 := hbm.cell 2; have c3 := hbm.cell 3
  simp only [List.getElem?_map, List.getElem?_replicate] at c0 c1 c2 c3
  have f0 := hbm.frozen 0; have f1 := hbm.frozen 1; have f2 := hbm.frozen 2; have f3 := hbm.frozen 3
  have Hbm := Lib.hid hbm; have Hkm := Lib.hid km
  clear hbm hsz
  go_upto_region 4 with fail
  obtain ⟨w2, hw2⟩ : ∃ w2, w2 = (((wm.setCell ⟨w1.heap.size, 0, none⟩ (.int .u8 ((n.toNat : Int) % 256))).setCell ⟨w1.heap.size, 1, none⟩ (.int .u8 ((n.toNat : Int) / 256 % 256))).setCell ⟨w1.heap.size, 2, none⟩ (.int .u8 ((n.toNat : Int) / 65536 % 256))).setCell ⟨w1.heap.size, 3, none⟩ (.int .u8 ((n.toNat : Int) / 16777216)) := ⟨_, rfl⟩
  have HM2 : Hid (Blk w2 w1.heap.size 5 ((le4 n ++ (List.replicate 80 0 ++ List.replicate 44 0)).map u8v)) := by
    rw [hw2, bv0, bv1, bv2, bv3, ← rec_set]
    exact (((Hbm.out.set_ 0 _).set_ 1 _).set_ 2 _).set_ 3 _
  have HK2 : Hid (Keep w1 w2) := by
    rw [hw2]
    iterate 4 (refine Below.setCell ?_ (by simp) _)
    exact km
  rw [← hw2]
  clear hw2 hmk c0 c1 c2 c3 f0 f1 f2 f3
  refine wp_region_tree (.take [0,1,2] (.force [3] .done)) [4] (by kernel_rfl) (by kernel_rfl) (fun w3 k3 => ?_)
  have kw3 := keep_trans (keep_trans kw1 HK2.out) k3
  have hH3 : Hid (Blk w3 (w.heap.size + 1) 65 hs.toList) := hH.keep (keep_trans HK2.out k3)
  refine mt_take w3 (Below.refl _ _) ?_
  simp only [pick_cons, pick_nil, nth_zero, nth_succ]
  go_big_quiet_step (fail)
  go_big_quiet_step (fail)
  (with_reducible refine wpQuiet_load_arr (w.heap.size + 1) hs (Eq.trans ?_ rfl) hH3.out _ Tryd.underlying65 rfl hdi ?_)
  rfl
  simp only [Act.put, Array.set!_eq_setIfInBounds, List.setIfInBounds_toArray, List.set_cons_succ, List.set_cons_zero]
  refine wpQuiet_nil (mt_force ?_)
  simp only [pick_cons, pick_nil, nth_zero, nth_succ]
  refine fc_step rfl (fun K hK => ?_)
  go_simp
  (with_reducible refine (P1.out _).mono ?_)
  rintro e w4 ⟨A4, rfl, hr4, hk⟩
  refine hK _ _ hk ?_
  clear hK K
  have k4 := keep_trans k3 hk
  have HM4 := Lib.hid (HM2.out.keep k4); have Hr4 := Lib.hid hr4
  have HK4 := Lib.hid (keep_trans HK2.out k4)
  clear hk hr4 kw3 hH3 k3
  refine fc_nil (mt_end ?_)
  refine wpList_cpy byteW (by rfl) _ _ (by rfl) w1.heap.size 4 80 124 (by rfl) A4 80 80 (hp.map u8v) (by rfl) (by rw [List.length_map]; exact Hpl.out) Hr4.out (one_w8 _) _ _ HM4.out (by simp [le4]) ?_
  intro w5 ho5 hg5
  simp only [Act.put, Array.set!_eq_setIfInBounds, List.setIfInBounds_toArray, List.set_cons_succ, List.set_cons_zero]
  have hpl80 : hp.length = 80 := Hpl.out
  have HM5 : Hid (Blk w5 w1.heap.size 5 ((RH ++ List.replicate 32 0).map u8v)) := by
    have h := ho5.out
    rw [List.take_of_length_le (by rw [List.length_map]; omega), splice_mapH, splice_mid (le4 n) _ _ hp 4 rfl (by rw [hpl80, List.length_replicate])] at h
    rw [Hhd.out]
    have e : le4 n ++ (hp ++ List.replicate 12 (0 : UInt8)) ++ List.replicate 32 0 = le4 n ++ (hp ++ List.replicate 44 0) := by
      rw [List.append_assoc, List.append_assoc, List.replicate_append_replicate]
    rw [e]
    exact h
  have hRHl : Hid (RH.length = 96) := by rw [Hhd.out]; simp [Hid, le4, hpl80]
  have HK5 : Hid (Keep w1 w5) := HK4.out.grown hg5 HK4.out.size (fun q hq => by injection hq with hq; omega)
  have hz5 := HK5.out.size
  clear ho5 hg5 k4 hpl80
  have HL5 := Lib.hid (hL.keep HK5.out); have HR5 := Lib.hid (hR.keep HK5.out)
  have kw5 := keep_trans kw1 HK5.out
  have HMr : Hid (Rd w5 (some ⟨w1.heap.size, 0, none⟩) (RH.map u8v)) := by
    have h := HM5.out.rd.take 96
    rw [← List.map_take, List.take_left' hRHl.out] at h
    exact h
  have D1 : Hid (∀ w' A' c', Keep w w' → Rd w' A' ((last ++ RH).map u8v) → 128 ≤ c' → c' ≤ maxLen → Calls Tryd.prog 28 #[.slice A' 128 c'] w' fun e w'' => e = .returned (hashV (dblL (last ++ RH))) ∧ Keep w' w'') := fun w' A' c' hk hr hc hm => by
    have hl : (last ++ RH).length = 128 := by rw [List.length_append, Hll.out, hRHl.out]
    have h := double_any A' (last ++ RH) c' w' (HS.out.keep hk) hr (by omega) hm (by omega)
    rw [hl] at h
    exact h
  obtain ⟨hRB, hRS⟩ := HRH.out RH rfl
  obtain ⟨ds, hds⟩ : ∃ ds, HashA RS ds := ⟨_, HashA.of (by rw [hRS]; exact dblL_len _)⟩
  have D2 : Hid (∀ w' A' c', Keep w w' → Rd w' A' ((last ++ RH).map u8v) → 128 ≤ c' → c' ≤ maxLen → Calls Tryd.prog 28 #[.slice A' 128 c'] w' fun e w'' => e = .returned (.agg ds) ∧ Keep w' w'') := fun w' A' c' hk hr hc hm =>
    (D1.out w' A' c' hk hr hc hm).mono fun e w'' ⟨h1, h2⟩ => ⟨by rw [h1, ← hRS]; unfold hashV; rw [hds.e], h2⟩
  have hsz := hds.z; have hsn := hds.n
  have Hds := Lib.hid hds; have HRB := Lib.hid hRB; have HRS := Lib.hid hRS
  have hst1 : ∀ ww : World, (storeCells ⟨ww.heap.size, 0, none⟩ ds.toList 0).run Tryd.prog (ww.alloc (.cells zs 34)) = .ok () (ww.alloc (.cells ds 34)) := fun ww => run_storeCells_new (P := Tryd.prog) ww 34 zs ds Hds.out.i (hz1.trans hsz.symm) (by have := all_oneCell_toArray Hds.out.o; rwa [Array.toArray_toList] at this)
  clear hds hRB hRS D1
  go_wp2_with (at_builtin; refine wpList_app_full byteW (some ⟨w.heap.size, 0, none⟩) 32 (last.map u8v) (by rfl) (by rw [List.length_map]; exact Hll.out) HL5.out.rd (some ⟨w1.heap.size, 0, none⟩) 96 128 (RH.map u8v) (by rfl) (by rw [List.length_map]; exact hRHl.out) (by omega) HMr.out (one_w8 _) (by omega) ?_; intro v6 w6 own6 hk6; have own7 := own_eq own6 (n' := 128) (xs' := (last ++ RH).map u8v) (by omega) (by rw [List.map_append]); obtain ⟨A6, c6, rfl, hc6, hm6, hr6⟩ := own_form own7)
  have kw6 := keep_trans kw5 hk6
  refine (D2.out w6 A6 c6 kw6 hr6 hc6 hm6).mono ?_
  rintro e w7 ⟨rfl, k7⟩
  have kw7 := keep_trans kw6 k7
  have k57 := keep_trans hk6 k7
  have HM7 := Lib.hid (HM5.out.keep k57); have HR7 := Lib.hid (HR5.out.keep k57)
  clear own6 own7 hr6 hm6 hc6
  go_upto_region 6 with fail
  have HK7 := Lib.hid (keep_trans HK5.out k57)
  obtain ⟨w9, hw9⟩ : ∃ w9, w9 = w7.alloc (.cells ds 34) := ⟨_, rfl⟩
  have HS9 : Hid (Blk w9 w7.heap.size 34 ds.toList) := by rw [hw9]; exact Blk.new w7 _ ds.toList
  have HM9 : Hid (Blk w9 w1.heap.size 5 ((RH ++ List.replicate 32 0).map u8v)) := by rw [hw9]; exact HM7.out.alloc _
  have HR9 : Hid (Blk w9 (w.heap.size + 1 + 1) 34 zs.toList) := by rw [hw9]; exact HR7.out.alloc _
  have HK9 : Hid (Keep w1 w9) := by rw [hw9]; exact keep_trans HK7.out (keep_new _ _)
  rw [← hw9]
  have hz7 : w1.heap.size < w7.heap.size := HM7.out.lt
  clear hw9 hst1 HM7 HR7 k7 k57 HS
  generalize w7.heap.size = S at HS9 hz7 ⊢
  have own9 : w9.ownsRow w1.heap.size 5 1 (.slice (some ⟨w1.heap.size, 0, none⟩) 96 128) 96 (RH.map u8v) := by
    have h : w9.heap[w1.heap.size]? = some (.cells (splice ((RH ++ List.replicate 32 0).map u8v) 0 (RH.map u8v)).toArray 5 (0, 0)) := by
      have e : splice ((RH ++ List.replicate 32 (0 : UInt8)).map u8v) 0 (RH.map u8v) = (RH ++ List.replicate 32 0).map u8v := by
        rw [splice_mapH]; congr 1; simp [splice]
      rw [e]; exact HM9.out
    exact own_fill (n := 96) (c := 128) h (Nat.le_refl _) (by rw [List.length_map]; exact hRHl.out) (by have : RH.length = 96 := hRHl.out; simp [this]) (by omega) (by unfold maxLen; omega)
  have Own9 := Lib.hid own9
  have hi9 := Hds.out.i
  have hz9 := HK9.out.size
  clear own9
  letI iM : G.Mk := ⟨some w1.heap.size⟩
  refine G.wp_region_tree (.take [0,1,3] (.force [2] (.take [4] .done))) [5] (by kernel_rfl) (by kernel_rfl) (fun w8 k8 => ?_)
  have hneS : G.Mk.m ≠ some S := fun e => by have e2 : w1.heap.size = S := Option.some.inj e; omega
  have hneR : G.Mk.m ≠ some (w.heap.size + 1 + 1) := fun e => by have e2 : w1.heap.size = w.heap.size + 1 + 1 := Option.some.inj e; omega
  have HS8 : Hid (Blk w8 S 34 ds.toList) := HS9.out.keep k8
  have HR8 : Hid (Blk w8 (w.heap.size + 1 + 1) 34 zs.toList) := HR9.out.keep k8
  refine G.mt_take w8 (G.Gr.refl _) ?_
  simp only [pick_cons, pick_nil, nth_zero, nth_succ]
  go_big_quiet_step (fail)
  go_big_quiet_step (fail)
  (with_reducible refine G.wpQuiet_load_arrG S ds (Eq.trans ?_ rfl) HS8.out hneS (.array 32 5) hash_under (arr_row _ _) hi9 ?_)
  rfl
  simp only [Act.put, Array.set!_eq_setIfInBounds, List.setIfInBounds_toArray, List.set_cons_succ, List.set_cons_zero]
  refine wpQuiet_nil (G.mt_force ?_)
  simp only [pick_cons, pick_nil, nth_zero, nth_succ]
  have own8 : w8.ownsRow w1.heap.size 5 1 (.slice (some ⟨w1.heap.size, 0, none⟩) 96 128) 96 (RH.map u8v) := by
    have hb8 : Blk w8 w1.heap.size 5 ((RH ++ List.replicate 32 0).map u8v) := HM9.out.keep k8
    have h : w8.heap[w1.heap.size]? = some (.cells (splice ((RH ++ List.replicate 32 0).map u8v) 0 (RH.map u8v)).toArray 5 (0, 0)) := by
      have e : splice ((RH ++ List.replicate 32 (0 : UInt8)).map u8v) 0 (RH.map u8v) = (RH ++ List.replicate 32 0).map u8v := by
        rw [splice_mapH]; congr 1; simp [splice]
      rw [e]; exact hb8
    exact own_fill (n := 96) (c := 128) h (Nat.le_refl _) (by rw [List.length_map]; exact hRHl.out) (by have : RH.length = 96 := hRHl.out; simp [this]) (by omega) (by unfold maxLen; omega)
  refine G.fc_step rfl (fun K hK => ?_)
  refine wp_app byteW _ _ (by rfl) w1.heap.size _ 96 _ (by rfl) own8 _ 32 32 ds.toList (by rfl) (by rw [Array.length_toList, hsz]) HS8.out.rd Hds.out.o (by omega) (by unfold maxLen; omega) (Nat.le_trans hz9 k8.size) (fun v10 w10 own10 hg10 hat10 => hK _ _ hg10 ?_)
  clear hK K
  have own11 := own_eq own10 (n' := 128) (xs' := RB.map u8v) (by omega) (by rw [HRB.out, ← HRS.out, List.map_append, Hds.out.l])
  have HR10 : Hid (Blk w10 (w.heap.size + 1 + 1) 34 zs.toList) := HR8.out.grown hg10 hneR
  have hgr : w9.grownBy w10 (some w1.heap.size) := World.grownBy.trans (G.grown_of_keep k8 _) hg10
  have kw10 : Hid (Keep w w10) := (keep_trans kw1 HK9.out).grown hgr (keep_trans kw1 HK9.out).size (fun q hq => by injection hq with hq; omega)
  obtain ⟨A10, c10, rfl, hc10, hm10, hr10⟩ := own_form own11
  have Own11 := Lib.hid own11
  obtain ⟨w11, hst, hb11, hg11⟩ := run_store_blk (P := Tryd.prog) ds.toList HR10.out (by simp [hz1, hsz]) Hds.out.o
  have Hb11 := Lib.hid hb11; have Hg11 := Lib.hid hg11; have Hgr := Lib.hid hgr
  clear own10 own11 hg10 hat10 hgr hb11 hg11 own8 hr10
  refine G.fc_nil (G.mt_take w10 (G.Gr.refl _) ?_)
  simp only [pick_cons, pick_nil, nth_zero, nth_succ, Act.put, Array.set!_eq_setIfInBounds, List.setIfInBounds_toArray, List.set_cons_succ, List.set_cons_zero]
  repeat (go_big_quiet_step (fail))
  refine wpQuiet_nil (G.mt_end ?_)
  clear hneS hneR
  clear iM
  go_wp2
  have hb11 := Hb11.out
  refine bodyPost_ret (v := .tuple #[.slice A10 128 c10, .agg ds]) (results_tmp_cell_row Tryd.results60 _ _ (w.heap.size + 1 + 1) _ _ _ (.array 32 5) rfl hb11 hash_under rfl (by rw [List.size_toArray, Array.length_toList]; exact hi9)) rfl ⟨A10, c10, ds, rfl, Hds.out, ?_, kw10.out.grown Hg11.out kw10.out.size (fun q hq => by injection hq with hq; omega)⟩
  have hkept := Own11.out.kept Hg11.out (.inr (fun e => by have h1 := (Own11.out.lt _ e).1; omega))
  exact own_lowH hkept (by omega)
end Go.Proofs.YtbomnldpmkedbaaDoor

namespace Go.Proofs.YtbomnldpmkedbaaDoor
open Go.RowKit
attribute [local go_sem ↓] Go.wp_at_zero Go.wp_at_succ

theorem bytes_str {A : Option Addr} {l : List UInt8} {w : World} (n c : Nat) (hn : n = l.length) (hr : Rd w A (l.map u8v)) : (convert 24 9 (.slice A n c)).run Tryd.prog w = .ok (.string (str l)) w := by
  subst hn
  exact run_bytes_str Tryd.underlying24 Tryd.underlying5 Tryd.underlying9 _ hr
set_option maxHeartbeats 400000 in
theorem equal_any (A : Option Addr) (a : List UInt8) (n c : Nat) (B : Option Addr) (b : List UInt8) (m d : Nat) (w : World) (ha : Rd w A (a.map u8v)) (hb : Rd w B (b.map u8v)) (hn : n = a.length) (hm : m = b.length) :
    Calls Tryd.prog 29 #[.slice A n c, .slice B m d] w fun e w' => e = .returned (.bool (decide (a = b))) ∧ w = w' := by
  have c1 := bytes_str n c hn ha
  have c2 := bytes_str m d hm hb
  have t := str_beq a b
  clear hn hm
  go_enter Tryd.func29, Tryd.ntmps29
  go_wp2
  go_ret
  exact ⟨ret_bool (by by_cases h : a = b <;> simp [h]), rfl⟩

set_option maxRecDepth 100000 in
set_option maxHeartbeats 1000000 in
theorem rec_any (last : List UInt8) (ls : Array Value) (seq : Int) (h : Hd) (hs : Array Value) (w : World) (hls : HashA last ls) (hll : last.length = 32) (hk : h.ok) (hhs : HdA h hs) (hS : ShaOk w) :
    Calls Tryd.prog 52 #[.agg ls, .int .i64 seq, .agg hs] w fun e w' => ∃ A c, e = .returned (.slice A 128 c) ∧ w'.ownsRow w.heap.size 5 1 (.slice A 128 c) 128 ((recB last seq h).map u8v) ∧ Keep w w' := by
  have R1 : Hid (∀ w', Keep w w' → Calls Tryd.prog 60 #[.agg ls, .int .i64 seq, .agg hs] w' fun e w'' => ∃ A c ds, e = .returned (.tuple #[.slice A 128 c, .agg ds]) ∧ HashA (recSum last seq h) ds ∧ w''.ownsRow w'.heap.size 5 1 (.slice A 128 c) 128 ((recB last seq h).map u8v) ∧ Keep w' w'') := fun w' hk' => record_any last ls seq h hs w' hls hll hk hhs (hS.keep hk')
  generalize recB last seq h = RB at *
  generalize recSum last seq h = RS at *
  obtain ⟨zs, hz1, hz2, hz3, hz4⟩ := zhash_letter
  have hcz := hls.z; have hcn := hls.n; have hci := hls.i; have hdz := hhs.z; have hdn := hhs.n; have hdi := hhs.i
  clear hls hhs hll hk hS hz4
  go_enter Tryd.func52, Tryd.ntmps52
  go_upto_region 1 with fail
  have HL : Hid (Blk ((w.alloc (.cells ls 34)).alloc (.cells hs 65)) w.heap.size 34 ls.toList) := (Blk.new w 34 ls.toList).alloc _
  have HH : Hid (Blk ((w.alloc (.cells ls 34)).alloc (.cells hs 65)) (w.heap.size + 1) 65 hs.toList) := by
    have h1 := Blk.new (w.alloc (.cells ls 34)) 65 hs.toList
    rw [World.size_alloc] at h1
    exact h1
  have kw1 : Keep w ((w.alloc (.cells ls 34)).alloc (.cells hs 65)) := keep_trans (keep_new _ _) (keep_new _ _)
  generalize (w.alloc (.cells ls 34)).alloc (.cells hs 65) = w1 at HL HH kw1 ⊢
  go_wp2_with (first
    | ((with_reducible refine load_arr w.heap.size ls (Eq.trans ?_ rfl) HL.out (.array 32 5) hash_under (arr_row _ _) hci ?_); rfl)
    | ((with_reducible refine load_arr (w.heap.size + 1) hs (Eq.trans ?_ rfl) HH.out _ Tryd.underlying65 rfl hdi ?_); rfl))
  refine (R1.out _ kw1).mono ?_
  rintro e w2 ⟨A2, c2, ds, rfl, hds, own2, k2⟩
  have hez := hds.z; have hen := hds.n
  have hst : (storeCells ⟨w2.heap.size, 0, none⟩ ds.toList 0).run Tryd.prog (w2.alloc (.cells zs 34)) = .ok () (w2.alloc (.cells ds 34)) := run_storeCells_new (P := Tryd.prog) w2 34 zs ds hds.i (hz1.trans hez.symm) (by have := all_oneCell_toArray hds.o; rwa [Array.toArray_toList] at this)
  have Own2 := Lib.hid own2
  clear hds own2
  go_wp2
  go_ret
  exact ⟨A2, c2, rfl, own_lowH (own_keep Own2.out (keep_new _ _)) kw1.size, keep_trans (keep_trans kw1 k2) (keep_new _ _)⟩
end Go.Proofs.YtbomnldpmkedbaaDoor

namespace Go.Proofs.YtbomnldpmkedbaaDoor
open Go.RowKit
attribute [local go_sem ↓] Go.wp_at_zero Go.wp_at_succ

theorem results_cell_cell_tmp {P : Program} {fn : Func} {p q u : Tmp} {ty ty' : TypeId} (h : fn.results = #[.cell p ty, .cell q ty', .tmp u]) (tmps : Array Value) (w : World) (g g' : Nat) (t t' : TypeId) (cs cs' : Array Value) (fr fr' : Nat × Nat) (d d' : TypeDesc)
    (hp : tmps.getD p undef = .pointer (some ⟨g, 0, none⟩)) (hq : tmps.getD q undef = .pointer (some ⟨g', 0, none⟩)) (hg : w.heap[g]? = some (.cells cs t fr)) (hg' : w.heap[g']? = some (.cells cs' t' fr'))
    (hu : P.underlying ty = some d) (hu' : P.underlying ty' = some d') (hd : (match d with | .struct _ | .array _ _ => true | _ => false) = true) (hd' : (match d' with | .struct _ | .array _ _ => true | _ => false) = true)
    (hi : (P.info? ty).map (·.size) = some cs.size) (hi' : (P.info? ty').map (·.size) = some cs'.size) :
    (results fn tmps).run P w = .ok (.tuple #[.agg cs, .agg cs', tmps.getD u undef]) w := by
  have hp' : tmps[p]?.getD undef = .pointer (some ⟨g, 0, none⟩) := by simpa using hp
  have hq' : tmps[q]?.getD undef = .pointer (some ⟨g', 0, none⟩) := by simpa using hq
  simp [results, h, hp', hq', asAddr, run_loadVar_row w g t ty cs fr d hg hu hd hi, run_loadVar_row w g' t' ty' cs' fr' d' hg' hu' hd' hi']

def zHd : Hd := ⟨0, z32, z32, 0, 0, 0⟩
theorem zhash_A : ∃ zs : Array Value, HashA z32 zs ∧ (∀ w, (zeroValue 34).run Tryd.prog w = .ok (.agg zs) w) :=
  ⟨zhash, ⟨zhash_list, zhash_size, by rw [zhash_size]; kernel_rfl, (fun h => by have := zhash_size; rw [h] at this; cases this), by rw [zhash_list]; exact one_w8 _, by rw [show z32.map u8v = zhash.toList from zhash_list.symm, Array.toArray_toList]⟩, zhash_zero⟩
theorem zhead_A : ∃ zs : Array Value, HdA zHd zs ∧ (∀ w, (zeroValue 65).run Tryd.prog w = .ok (.agg zs) w) :=
  ⟨zhead, ⟨zhead_list, zhead_size, by rw [zhead_size]; kernel_rfl, (fun h => by have := zhead_size; rw [h] at this; cases this), by rw [zhead_list]; exact Hd.one _⟩, zhead_zero⟩

/-- What is taken of bytes. -/
def takeD (last : List UInt8) (seq : Int) (b : List UInt8) : Bool × Hd × List UInt8 :=
  if b.length = 128 ∧ recB last seq (hgetL ((b.drop 4).take 80)) = b then (true, hgetL ((b.drop 4).take 80), b.drop 96) else (false, zHd, z32)
theorem recSum_of {last : List UInt8} {seq : Int} {h : Hd} {b : List UInt8} (hk : h.ok) (e : recB last seq h = b) : recSum last seq h = b.drop 96 := by
  rw [← e, recB, List.drop_left' (recHead_len seq hk)]

set_option maxRecDepth 100000 in
set_option maxHeartbeats 3000000 in
theorem take_any (last : List UInt8) (ls : Array Value) (seq : Int) (A : Option Addr) (b : List UInt8) (c : Nat) (w : World) (hls : HashA last ls) (hll : last.length = 32) (hr : Rd w A (b.map u8v)) (hbc : b.length ≤ c) (hcm : c ≤ maxLen) (hS : ShaOk w) :
    Calls Tryd.prog 53 #[.agg ls, .int .i64 seq, .slice A b.length c] w fun e w' => ∃ hv sv, e = .returned (.tuple #[.agg hv, .agg sv, .bool (takeD last seq b).1]) ∧ HdA (takeD last seq b).2.1 hv ∧ HashA (takeD last seq b).2.2 sv ∧ Keep w w' := by
  obtain ⟨sz, hSZ, szz⟩ := zhash_A
  obtain ⟨hz, hHZ, hzz⟩ := zhead_A
  have szs := hSZ.z; have szn := hSZ.n; have szi := hSZ.i; have szo := hSZ.o
  have hzs := hHZ.z; have hzn := hHZ.n; have hzi := hHZ.i; have hzo := hHZ.o
  have SZ := Lib.hid hSZ; have HZ := Lib.hid hHZ
  have hcz := hls.z; have hcn := hls.n; have hci := hls.i
  have Hls := Lib.hid hls; have Hll := Lib.hid hll; have HS := Lib.hid hS; have Hr := Lib.hid hr
  unfold maxLen at hcm
  clear hSZ hHZ hls hll hS hr
  by_cases hb : b.length = 128
  · have hb80 : ((b.drop 4).take 80).length = 80 := by rw [List.length_take, List.length_drop]; omega
    have hok := hgetL_ok hb80
    have G1 : Hid (∀ w' g off, Keep w w' → Rd w' (some ⟨g, off, none⟩) (((b.drop 4).take 80).map u8v) → ∀ d, 80 ≤ d → d ≤ 9223372036854775807 → Calls Tryd.prog 68 #[.slice (some ⟨g, off, none⟩) 80 d] w' fun e w'' => ∃ cs, e = .returned (.tuple #[.agg cs, .int .i64 0]) ∧ HdA (hgetL ((b.drop 4).take 80)) cs ∧ Keep w' w'') := fun w' g off hk hr' d h1 h2 => hget_any _ _ d w' hb80 h1 (by unfold maxLen; omega) hr'
    have R1 : Hid (∀ w' hs, Keep w w' → HdA (hgetL ((b.drop 4).take 80)) hs → Calls Tryd.prog 60 #[.agg ls, .int .i64 seq, .agg hs] w' fun e w'' => ∃ A c ds, e = .returned (.tuple #[.slice A 128 c, .agg ds]) ∧ HashA (recSum last seq (hgetL ((b.drop 4).take 80))) ds ∧ w''.ownsRow w'.heap.size 5 1 (.slice A 128 c) 128 ((recB last seq (hgetL ((b.drop 4).take 80))).map u8v) ∧ Keep w' w'') := fun w' hs hk' hhs => record_any last ls seq _ hs w' Hls.out Hll.out hok hhs (HS.out.keep hk')
    have HD0 : Hid (∀ H RB RS, hgetL ((b.drop 4).take 80) = H → recB last seq H = RB → recSum last seq H = RS → RB.length = 128 ∧ (RB = b → takeD last seq b = (true, H, RS)) ∧ (RB ≠ b → takeD last seq b = (false, zHd, z32))) := fun H RB RS e1 e2 e3 => by
      subst e1 e2 e3
      refine ⟨recB_len _ _ hok, fun e => ?_, fun e => if_neg (fun h => e h.2)⟩
      rw [takeD, if_pos ⟨hb, e⟩, recSum_of hok e]
    obtain ⟨g, off, rfl, hg, _⟩ := Hr.out.at (k := 0) (by simp; omega)
    have HRs : Hid (∀ w', Keep w w' → Rd w' (some ⟨g, off + 4, none⟩) (((b.drop 4).take 80).map u8v)) := fun w' h => by
      have h1 := (Hr.out.keep h).sub 4 80 (by rw [List.length_map]; omega)
      rwa [← List.map_drop, ← List.map_take] at h1
    obtain ⟨D, hDD⟩ : ∃ D, takeD last seq b = D := ⟨_, rfl⟩
    rw [hDD] at HD0 ⊢
    have hD3 := HD0.out _ _ _ rfl rfl rfl
    generalize recB last seq (hgetL ((b.drop 4).take 80)) = RB at R1 hD3
    generalize recSum last seq (hgetL ((b.drop 4).take 80)) = RS at R1 hD3
    generalize hgetL ((b.drop 4).take 80) = H at G1 R1 hD3
    generalize (b.drop 4).take 80 = b4 at HRs G1
    have HD3 := Lib.hid hD3
    clear hD3 HD0 hDD hok hb80
    have Hb := Lib.hid hb
    have hb' : (128 : Int) = (b.length : Int) := by omega
    rw [hb] at hbc ⊢
    clear hb hb'
    go_enter Tryd.func53, Tryd.ntmps53
    go_wp2_with fail
    obtain ⟨w1, hw1⟩ : ∃ w1, w1 = ((w.alloc (.cells ls 34)).alloc (.cells hz 65)).alloc (.cells sz 34) := ⟨_, rfl⟩
    have HL1 : Hid (Blk w1 w.heap.size 34 ls.toList) := by rw [hw1]; exact ((Blk.new w _ ls.toList).alloc _).alloc _
    have H61 : Hid (Blk w1 (w.heap.size + 1) 65 hz.toList) := by
      rw [hw1]
      have h1 := Blk.new (w.alloc (.cells ls 34)) 65 hz.toList
      rw [World.size_alloc] at h1
      exact h1.alloc _
    have H71 : Hid (Blk w1 (w.heap.size + 1 + 1) 34 sz.toList) := by
      rw [hw1]
      have h1 := Blk.new ((w.alloc (.cells ls 34)).alloc (.cells hz 65)) 34 sz.toList
      rw [World.size_alloc, World.size_alloc] at h1
      exact h1
    have HK1 : Hid (Keep w w1) := by rw [hw1]; exact keep_trans (keep_trans (keep_new _ _) (keep_new _ _)) (keep_new _ _)
    have hz1 : w.heap.size + 3 = w1.heap.size := by rw [hw1]; simp
    rw [← hw1]
    clear hw1
    refine (G1.out w1 g (off + 4) HK1.out (HRs.out _ HK1.out) (c - 4) (by omega) (by omega)).mono ?_
    rintro e w2 ⟨hs, rfl, hhs, k2⟩
    have hes := hhs.z; have hen := hhs.n; have hei := hhs.i
    have Hhs := Lib.hid hhs
    have hst2 : (storeCells ⟨w2.heap.size, 0, none⟩ hs.toList 0).run Tryd.prog (w2.alloc (.cells hz 65)) = .ok () (w2.alloc (.cells hs 65)) := run_storeCells_new (P := Tryd.prog) w2 65 hz hs hei (hzs.trans hes.symm) (by have := all_oneCell_toArray Hhs.out.o; rwa [Array.toArray_toList] at this)
    clear hhs
    go_upto_region 6 with fail
    obtain ⟨w3, hw3⟩ : ∃ w3, w3 = w2.alloc (.cells hs 65) := ⟨_, rfl⟩
    have HH3 : Hid (Blk w3 w2.heap.size 65 hs.toList) := by rw [hw3]; exact Blk.new w2 _ hs.toList
    have k13 : Keep w1 w3 := by rw [hw3]; exact keep_trans k2 (keep_new _ _)
    have hz2 : w1.heap.size ≤ w2.heap.size := k2.size
    have HL3 := Lib.hid (HL1.out.keep k13); have H63 := Lib.hid (H61.out.keep k13); have H73 := Lib.hid (H71.out.keep k13)
    have HK3 := Lib.hid (keep_trans HK1.out k13)
    rw [← hw3]
    clear hw3 hst2 k13 k2
    have hX2 : w2.heap.size < w3.heap.size := HH3.out.lt
    generalize w2.heap.size = X at HH3 hz2 hX2 ⊢
    go_wp2_with (first
      | ((with_reducible refine load_arr w.heap.size ls (Eq.trans ?_ rfl) HL3.out (.array 32 5) hash_under (arr_row _ _) hci ?_); rfl)
      | ((with_reducible refine load_arr X hs (Eq.trans ?_ rfl) HH3.out _ Tryd.underlying65 rfl hei ?_); rfl))
    refine (R1.out w3 hs HK3.out Hhs.out).mono ?_
    rintro e w4 ⟨A4, c4, ds, rfl, hds, own4, k4⟩
    have hfs := hds.z; have hfn := hds.n; have hfi := hds.i
    have Hds := Lib.hid hds
    have hst4 : (storeCells ⟨w4.heap.size, 0, none⟩ ds.toList 0).run Tryd.prog (w4.alloc (.cells sz 34)) = .ok () (w4.alloc (.cells ds 34)) := run_storeCells_new (P := Tryd.prog) w4 34 sz ds hfi (szs.trans hfs.symm) (by have := all_oneCell_toArray Hds.out.o; rwa [Array.toArray_toList] at this)
    obtain ⟨A4', c4', hv4, hc4, hm4, hr4⟩ := own_form own4
    obtain ⟨rfl, rfl⟩ : A4 = A4' ∧ c4 = c4' := by injection hv4 with h1 h2 h3; exact ⟨h1, h3⟩
    have Hr4 := Lib.hid hr4
    have hrb : Hid (RB.length = 128) := HD3.out.1
    clear hds own4 hv4 hr4 hm4
    go_upto_region 7 with fail
    obtain ⟨w5, hw5⟩ : ∃ w5, w5 = w4.alloc (.cells ds 34) := ⟨_, rfl⟩
    have HS5 : Hid (Blk w5 w4.heap.size 34 ds.toList) := by rw [hw5]; exact Blk.new w4 _ ds.toList
    have k35 : Keep w3 w5 := by rw [hw5]; exact keep_trans k4 (keep_new _ _)
    have hz4 : w3.heap.size ≤ w4.heap.size := k4.size
    have HH5 := Lib.hid (HH3.out.keep k35); have H65 := Lib.hid (H63.out.keep k35); have H75 := Lib.hid (H73.out.keep k35)
    have HK5 := Lib.hid (keep_trans HK3.out k35)
    have Hr5 : Hid (Rd w5 A4 (RB.map u8v)) := by rw [hw5]; exact Hr4.out.alloc _
    rw [← hw5]
    clear hw5 hst4 k35 k4
    have hY2 : w4.heap.size < w5.heap.size := HS5.out.lt
    generalize w4.heap.size = Y at HS5 hz4 hY2 ⊢
    go_wp2_with fail
    refine (equal_any A4 RB 128 c4 (some ⟨g, off, none⟩) b 128 c w5 Hr5.out (Hr.out.keep HK5.out) hrb.out.symm Hb.out.symm).mono ?_
    rintro e w6 ⟨rfl, rfl⟩
    by_cases heq : RB = b
    · have HD : Hid (D = (true, H, RS)) := HD3.out.2.1 heq
      have hdt : decide (RB = b) = true := decide_eq_true heq
      clear heq
      go_upto_region 9 with fail
      letI iM : G.Mk := ⟨some (w.heap.size + 1)⟩
      refine G.wp_region_tree (.take [0,1] (.force [2] .done)) [3,4] (by kernel_rfl) (by kernel_rfl) (fun w7 k7 => ?_)
      have hneX : G.Mk.m ≠ some X := fun e => by have e2 : w.heap.size + 1 = X := Option.some.inj e; omega
      have hneY : G.Mk.m ≠ some Y := fun e => by have e2 : w.heap.size + 1 = Y := Option.some.inj e; omega
      have HH7 := Lib.hid (HH5.out.keep k7); have HS7 := Lib.hid (HS5.out.keep k7); have H67 := Lib.hid (H65.out.keep k7); have H77 := Lib.hid (H75.out.keep k7)
      have HK7 := Lib.hid (keep_trans HK5.out k7)
      obtain ⟨wa, hsta, hba, hga⟩ := run_store_blk (P := Tryd.prog) hs.toList H67.out (by simp [hzs, hes]) Hhs.out.o
      obtain ⟨wb, hstb, hbb, hgb⟩ := run_store_blk (P := Tryd.prog) ds.toList (H77.out.grown hga (fun e => by have e2 : w.heap.size + 1 = w.heap.size + 1 + 1 := Option.some.inj e; omega)) (by simp [szs, hfs]) Hds.out.o
      have hba2 := Lib.hid (hba.grown hgb (fun e => by have e2 : w.heap.size + 1 + 1 = w.heap.size + 1 := Option.some.inj e; omega)); have hbb2 := Lib.hid hbb; have hga2 := Lib.hid hga; have hgb2 := Lib.hid hgb
      clear hba hbb hga hgb
      refine G.mt_take w7 (G.Gr.refl _) ?_
      simp only [pick_cons, pick_nil, nth_zero, nth_succ]
      (with_reducible refine G.wpQuiet_load_arrG X hs (Eq.trans ?_ rfl) HH7.out hneX _ Tryd.underlying65 rfl hei ?_)
      rfl
      simp only [Act.put, Array.set!_eq_setIfInBounds, List.setIfInBounds_toArray, List.set_cons_succ, List.set_cons_zero]
      (with_reducible refine G.wpQuiet_load_arrG Y ds (Eq.trans ?_ rfl) HS7.out hneY (.array 32 5) hash_under (arr_row _ _) hfi ?_)
      rfl
      simp only [Act.put, Array.set!_eq_setIfInBounds, List.setIfInBounds_toArray, List.set_cons_succ, List.set_cons_zero]
      refine wpQuiet_nil (G.mt_force ?_)
      simp only [pick_cons, pick_nil, nth_zero, nth_succ]
      refine G.fc_step rfl (fun K hK => ?_)
      go_simp
      refine hK _ _ (show G.Gr w7 wa from hga2.out) ?_
      clear hK K
      refine G.fc_nil (G.mt_end ?_)
      clear hneX hneY
      clear iM
      go_wp2
      rw [HD.out]
      exact bodyPost_ret (v := .tuple #[.agg hs, .agg ds, .bool true]) (results_cell_cell_tmp Tryd.results53 _ _ (w.heap.size + 1) (w.heap.size + 1 + 1) _ _ _ _ _ _ _ (.array 32 5) rfl rfl hba2.out hbb2.out Tryd.underlying65 hash_under rfl rfl (by rw [List.size_toArray, Array.length_toList]; exact hei) (by rw [List.size_toArray, Array.length_toList]; exact hfi)) rfl ⟨hs, ds, rfl, Hhs.out, Hds.out, (HK7.out.grown hga2.out HK7.out.size (fun q hq => by injection hq with hq; omega)).grown hgb2.out (Nat.le_trans HK7.out.size hga2.out.size) (fun q hq => by injection hq with hq; omega)⟩
    · have HD : Hid (D = (false, zHd, z32)) := HD3.out.2.2 heq
      have hdt : decide (RB = b) = false := decide_eq_false heq
      clear heq
      go_upto_region 8 with fail
      obtain ⟨wa, hsta, hba, hga⟩ := run_store_blk (P := Tryd.prog) hz.toList H65.out (by simp) hzo
      obtain ⟨wb, hstb, hbb, hgb⟩ := run_store_blk (P := Tryd.prog) sz.toList (H75.out.grown hga (fun e => by have e2 : w.heap.size + 1 = w.heap.size + 1 + 1 := Option.some.inj e; omega)) (by simp) szo
      have hba2 := Lib.hid (hba.grown hgb (fun e => by have e2 : w.heap.size + 1 + 1 = w.heap.size + 1 := Option.some.inj e; omega)); have hbb2 := Lib.hid hbb; have hga2 := Lib.hid hga; have hgb2 := Lib.hid hgb
      clear hba hbb hga hgb
      go_wp2
      rw [HD.out]
      exact bodyPost_ret (v := .tuple #[.agg hz, .agg sz, .bool false]) (results_cell_cell_tmp Tryd.results53 _ _ (w.heap.size + 1) (w.heap.size + 1 + 1) _ _ _ _ _ _ _ (.array 32 5) rfl rfl hba2.out hbb2.out Tryd.underlying65 hash_under rfl rfl (by rw [List.size_toArray, Array.length_toList]; exact hzi) (by rw [List.size_toArray, Array.length_toList]; exact szi)) rfl ⟨hz, sz, rfl, HZ.out, SZ.out, (HK5.out.grown hga2.out HK5.out.size (fun q hq => by injection hq with hq; omega)).grown hgb2.out (Nat.le_trans HK5.out.size hga2.out.size) (fun q hq => by injection hq with hq; omega)⟩
  · have HD : Hid (takeD last seq b = (false, zHd, z32)) := if_neg (fun h => hb h.1)
    have t1 : ((b.length : Int) != 128) = true := by simp; omega
    obtain ⟨D, hDD⟩ : ∃ D, takeD last seq b = D := ⟨_, rfl⟩
    rw [hDD] at HD ⊢
    clear hDD hb
    go_enter Tryd.func53, Tryd.ntmps53
    go_upto_region 2 with fail
    have H3 : Hid (Blk (((w.alloc (.cells ls 34)).alloc (.cells hz 65)).alloc (.cells sz 34)) (w.heap.size + 1) 65 hz.toList) := by
      have h1 := Blk.new (w.alloc (.cells ls 34)) 65 hz.toList
      rw [World.size_alloc] at h1
      exact h1.alloc _
    have H4 : Hid (Blk (((w.alloc (.cells ls 34)).alloc (.cells hz 65)).alloc (.cells sz 34)) (w.heap.size + 1 + 1) 34 sz.toList) := by
      have h1 := Blk.new ((w.alloc (.cells ls 34)).alloc (.cells hz 65)) 34 sz.toList
      rw [World.size_alloc, World.size_alloc] at h1
      exact h1
    have HK : Hid (Keep w (((w.alloc (.cells ls 34)).alloc (.cells hz 65)).alloc (.cells sz 34))) := keep_trans (keep_trans (keep_new _ _) (keep_new _ _)) (keep_new _ _)
    generalize ((w.alloc (.cells ls 34)).alloc (.cells hz 65)).alloc (.cells sz 34) = w1 at H3 H4 HK ⊢
    obtain ⟨wa, hsta, hba, hga⟩ := run_store_blk (P := Tryd.prog) hz.toList H3.out (by simp) hzo
    obtain ⟨wb, hstb, hbb, hgb⟩ := run_store_blk (P := Tryd.prog) sz.toList (H4.out.grown hga (fun e => by have e2 : w.heap.size + 1 = w.heap.size + 1 + 1 := Option.some.inj e; omega)) (by simp) szo
    have hba2 := Lib.hid (hba.grown hgb (fun e => by have e2 : w.heap.size + 1 + 1 = w.heap.size + 1 := Option.some.inj e; omega)); have hbb2 := Lib.hid hbb; have hga2 := Lib.hid hga; have hgb2 := Lib.hid hgb
    clear hba hbb hga hgb
    go_wp2
    rw [HD.out]
    exact bodyPost_ret (v := .tuple #[.agg hz, .agg sz, .bool false]) (results_cell_cell_tmp Tryd.results53 _ _ (w.heap.size + 1) (w.heap.size + 1 + 1) _ _ _ _ _ _ _ (.array 32 5) rfl rfl hba2.out hbb2.out Tryd.underlying65 hash_under rfl rfl (by rw [List.size_toArray, Array.length_toList]; exact hzi) (by rw [List.size_toArray, Array.length_toList]; exact szi)) rfl ⟨hz, sz, rfl, HZ.out, SZ.out, (HK.out.grown hga2.out HK.out.size (fun q hq => by injection hq with hq; omega)).grown hgb2.out (Nat.le_trans HK.out.size hga2.out.size) (fun q hq => by injection hq with hq; omega)⟩
end Go.Proofs.YtbomnldpmkedbaaDoor

namespace Go.Proofs.YtbomnldpmkedbaaDoor
open Go.RowKit
attribute [local go_sem ↓] Go.wp_at_zero Go.wp_at_succ

section
variable {P : Program}
theorem range_of {w : World} {g : Nat} {t : TypeId} {all : List Value} (hb : Blk w g t all) (off : Nat) (cs : List Value) (hs : (all.drop off).take cs.length = cs) : w.rangeAt g off cs := fun j v hv => by
  have hj : j < cs.length := (List.getElem?_eq_some_iff.1 hv).1
  rw [hb.cell]
  rw [← hs, List.getElem?_take_of_lt hj, List.getElem?_drop] at hv
  exact hv
/-- A part of a variable is loaded. -/
theorem load_part {w : World} {ops : Array Oper} {rest : List Oper} {a : Act} {Q : Exit → Act → World → Prop} {x : Operand} {dst : Option Tmp} {ty ty' : TypeId} {pos : String} {af : Array Edge}
    (g off : Nat) (cs : Array Value) (hx : a.eval x = .pointer (some ⟨g, off, none⟩)) (hr : w.rangeAt g off cs.toList) (d : TypeDesc) (hu : P.underlying ty = some d) (hd : d.isRow = true) (hi : (P.info? ty).map (·.size) = some cs.size)
    (h : wpList P ops Q rest (a.put dst (.agg cs)) w) : wpList P ops Q ({ dst := dst, op := .load ty x, type := ty', pos := pos, after := af, guard := none } :: rest) a w :=
  wpList_load_mid rfl ty x rfl g off hx cs.toList d hr hu hd (by simpa using hi) h
theorem wpQuiet_load_part {w0 : World} {ops : Array Oper} {rest : List Oper} {a : Act} {Q : Act → Prop} {x : Operand} {dst : Option Tmp} {ty ty' : TypeId} {pos : String} {af : Array Edge}
    (g off : Nat) (cs : Array Value) (hx : a.eval x = .pointer (some ⟨g, off, none⟩)) (hr : w0.rangeAt g off cs.toList) (d : TypeDesc) (hu : P.underlying ty = some d) (hd : d.isRow = true) (hi : (P.info? ty).map (·.size) = some cs.size)
    (h : wpQuiet P ops (fun w' => ∃ x, w' = aft w0 x) Q rest (a.put dst (.agg cs))) :
    wpQuiet P ops (fun w' => ∃ x, w' = aft w0 x) Q ({ dst := dst, op := .load ty x, type := ty', pos := pos, after := af, guard := none } :: rest) a := by
  refine BigFrame.wpQuiet_want (by simp [Region.wanted]) fun K hK => ⟨.agg cs, fun w hw => ?_, hK _ h⟩
  obtain ⟨y, rfl⟩ := hw
  unfold Oper.quietAt execOp
  have hl := run_loadVar_mid (P := P) (aft w0 y) g off ty cs.toList d (fun j v hv => keep_cell (aft_keep w0 y) (hr j v hv)) hu hd (by simpa using hi)
  simp only [hx, Instr.loadAt, Instr.sureAddr, Sem.run_bind, Sem.run_pure, Result.andThen_ok, hl, Array.toArray_toList]
  exact ⟨rfl, rfl⟩
/-- A part of a variable is stored. -/
theorem run_store_part {w : World} {g : Nat} {t : TypeId} {all : List Value} (off : Nat) (cs : List Value) (hb : Blk w g t all) (hl : off + cs.length ≤ all.length) (h1 : ∀ v ∈ cs, v.oneCell' = true) :
    ∃ w', (storeCells ⟨g, off, none⟩ cs 0).run P w = .ok () w' ∧ Blk w' g t (splice all off cs) ∧ w.grownBy w' (some g) := by
  have hrun := run_storeCells_at P g off t cs 0 all.toArray w hb (by simpa using hl) h1
  simp only [Nat.add_zero, List.toList_toArray] at hrun
  refine ⟨_, hrun, ?_, rfl, rfl, rfl, by simp [World.setRow], fun k _ hne => setRow_other w g k _ (fun e => hne (by rw [e]))⟩
  have h := setRow_heap w g all.toArray (all.take off ++ cs ++ all.drop (off + cs.length)).toArray t (0, 0) hb
  unfold Blk splice
  rw [← List.append_assoc]
  exact h
end

theorem foldl_set : ∀ (l : List Value) (k : Nat) (acc : Array Value), k + l.length = acc.size → (l.zipIdx k).foldl (fun cs x => cs.setIfInBounds (0 + x.2) x.1) acc = (acc.toList.take k ++ l).toArray
  | [], k, acc, h => by
    have : acc.toList.take k = acc.toList := List.take_of_length_le (by simp at h ⊢; omega)
    simp [this]
  | v :: r, k, acc, h => by
    rw [List.zipIdx_cons, List.foldl_cons, foldl_set r (k + 1) _ (by simp at h ⊢; omega)]
    have hk : k < acc.size := by simp at h; omega
    congr 1
    rw [Array.toList_setIfInBounds, Nat.zero_add, List.take_succ_eq_append_getElem (by simpa using hk), List.getElem_set_self, List.take_set_of_le (Nat.le_refl _)]
    simp
/-- A slice of one struct is built. -/
theorem wp_build1 {P : Program} {t e : TypeId} {zc : Array Value} {size bytes : Nat} (T : ElT P t e (.agg zc) size bytes) {o : Oper} {a : Act} {w : World} {K : Act → World → Prop} {Q : Exit → Act → World → Prop} (x : Operand) (ho : o.op = .buildSlice t 1 #[(0, x)])
    (cs : Array Value) (hz : cs.size = size) (hsm : size ≤ 1000) (hx : a.eval x = .agg cs)
    (h : K (a.put o.dst (.slice (some ⟨w.heap.size, 0, none⟩) 1 1)) (w.alloc (.cells cs e))) : o.wp P a w K Q := by
  obtain ⟨i, hi, hiz, his, _⟩ := T.info
  have hzc : zc.size = size := T.zs
  have hp := T.pos
  refine wp_buildSlice t e 1 _ ho cs i (.agg zc) T.und hi hiz (by rw [his]; omega) (by rw [his]; omega) ?_ h
  have hc : (Value.agg cs).cells = cs := rfl
  simp only [List.map_toArray, List.map_cons, List.map_nil, hx, Instr.fill, hc, his, hz, Nat.zero_mul, Nat.one_mul]
  rw [if_neg (by simp)]
  congr 1
  rw [← Array.foldl_toList, Array.toList_zipIdx]
  have hf := foldl_set cs.toList 0 ((Array.range size).map fun j => zc[j % zc.size]!) (by simp [hz])
  simp only [List.take_zero, List.nil_append, Array.toArray_toList] at hf
  exact hf

/-- How many records a room has. -/
def roomN (room : Int) : Nat := (min (max room 0) 1024).toNat
set_option maxHeartbeats 400000 in
theorem records_any (room : Int) (w : World) : Calls Tryd.prog 59 #[.int .i64 room] w fun e w' => e = .returned (.int .i64 (roomN room)) ∧ w = w' := by
  have e : (roomN room : Int) = min (max room 0) 1024 := by unfold roomN; omega
  have He := Lib.hid e; clear e
  go_enter Tryd.func59, Tryd.ntmps59
  go_wp2
  all_goals go_ret
  all_goals exact ⟨ret_int (by have h := He.out; omega), rfl⟩

/-- A reader's cells. -/
def rdCells (d0 d1 : Value) (base room n : Int) (last : List UInt8) (bs hv : Value) : List Value := [d0, d1, .int .i64 base, .int .i64 room, .int .i64 n] ++ (last.map u8v ++ [bs, hv])
section
variable {d0 d1 bs hv : Value} {base room n : Int} {last : List UInt8}
theorem rdCells_len (hl : last.length = 32) : (rdCells d0 d1 base room n last bs hv).length = 39 := by simp [rdCells, hl]
theorem rdCells_last (hl : last.length = 32) : ((rdCells d0 d1 base room n last bs hv).drop 5).take 32 = last.map u8v := by
  show (last.map u8v ++ [bs, hv]).take 32 = last.map u8v
  rw [List.take_left' (by simp [hl])]
theorem rdCells_37 (hl : last.length = 32) : (rdCells d0 d1 base room n last bs hv)[37]? = some bs := by
  unfold rdCells
  rw [List.getElem?_append_right (by simp), List.getElem?_append_right (by simp [hl])]; simp [hl]
theorem rdCells_38 (hl : last.length = 32) : (rdCells d0 d1 base room n last bs hv)[38]? = some hv := by
  unfold rdCells
  rw [List.getElem?_append_right (by simp), List.getElem?_append_right (by simp [hl])]; simp [hl]
theorem rdCells_setN (m : Int) : (rdCells d0 d1 base room n last bs hv).set 4 (.int .i64 m) = rdCells d0 d1 base room m last bs hv := rfl
theorem rdCells_setLast (hl : last.length = 32) {s : List UInt8} (hs : s.length = 32) : splice (rdCells d0 d1 base room n last bs hv) 5 (s.map u8v) = rdCells d0 d1 base room n s bs hv := by
  unfold rdCells
  exact splice_mid _ _ _ _ 5 rfl (by simp [hl, hs])
theorem rdCells_setH (hl : last.length = 32) (hv' : Value) : (rdCells d0 d1 base room n last bs hv).set 38 hv' = rdCells d0 d1 base room n last bs hv' := by
  unfold rdCells
  rw [List.set_append_right _ _ (by simp), List.set_append_right _ _ (by simp [hl])]
  simp [hl]
end

/-- A reader: its block, the headers that it has, the bytes that it reads. -/
structure RSt (w0 w : World) (G : Nat) (d0 d1 : Value) (bn : Nat) (room : Int) (k : Nat) (last : List UInt8) (A : Option Addr) (bs : List UInt8) (c : Nat) (hv : Value) (hs : List Hd) : Prop where
  kp : Keep w0 w
  gB : w0.heap.size ≤ G
  blk : Blk w G 107 (rdCells d0 d1 bn room k last (.slice A bs.length c) hv)
  own : w.ownsRow w0.heap.size 65 68 hv hs.length (hs.flatMap Hd.cells)
  oG : hv.ownBlock ≠ some G
  rdG : RdX (some G) w A (bs.map u8v)
  rdH : RdX hv.ownBlock w A (bs.map u8v)
theorem RSt.keep {w0 w w' : World} {G : Nat} {d0 d1 : Value} {bn : Nat} {room : Int} {k : Nat} {last : List UInt8} {A : Option Addr} {bs : List UInt8} {c : Nat} {hv : Value} {hs : List Hd} (h : RSt w0 w G d0 d1 bn room k last A bs c hv hs) (hk : Keep w w') : RSt w0 w' G d0 d1 bn room k last A bs c hv hs :=
  ⟨keep_trans h.kp hk, h.gB, h.blk.keep hk, own_keep h.own hk, h.oG, h.rdG.keep hk, h.rdH.keep hk⟩
/-- What the next one is. -/
def nxD (bn : Nat) (room : Int) (k : Nat) (last bs : List UInt8) : Bool × Hd × List UInt8 :=
  if k < roomN room ∧ (bn + 4 * k) * 32 + 128 ≤ bs.length then takeD last k ((bs.drop ((bn + 4 * k) * 32)).take 128) else (false, zHd, z32)
set_option maxRecDepth 100000 in
theorem headT : ElT Tryd.prog 39 65 (Value.agg zhead) 68 80 := ElT.mk' Tryd.underlying39 (by kernel_rfl) zhead_size (by omega)
end Go.Proofs.YtbomnldpmkedbaaDoor
