/- A record of a journal. -/
import Derived.Test.YtielojlhdnimgaaDoorHdrC
import Derived.Test.YtielojlhdnimgaaDoorMoG
import Derived.Deep.AppendSrc
import Derived.Deep.RegionLaw
set_option linter.unusedSimpArgs false
set_option linter.unusedVariables false
namespace Go.Proofs.YtielojlhdnimgaaDoor
open Go.RowKit
attribute [local go_sem ↓] Go.wp_at_zero Go.wp_at_succ

section
variable {P : Program}
/-- A full slice appended to: a row of its own. -/
theorem run_append_full {t e : TypeId} {z : Value} (T : ElT P t e z 1 1) (w : World) (ty : TypeId) (A : Option Addr) (n : Nat) (xs : List Value) (hx : xs.length = n) (hr : Rd w A xs)
    (B : Option Addr) (m c : Nat) (news : List Value) (hm : news.length = m) (h0 : 0 < m) (hn : Rd w B news) (h1 : ∀ u ∈ news, u.oneCell' = true) (hb : n + m ≤ 100000000) :
    ∃ v' w', (Builtin.append_ #[t, t] ty #[.slice A n n, .slice B m c]).run P w = .ok v' w' ∧ w'.ownsRow w.heap.size e 1 v' (n + m) (xs ++ news) ∧ Keep w w' := by
  obtain ⟨i, hi, hz, hsz, hby⟩ := T.info
  rcases hn with rfl | ⟨b, off, rfl, hc⟩
  · simp at hm; omega
  have hs : Src P i.size t (.slice (some ⟨b, off, none⟩) m c) m news w := Src.ofSlice w T.und ⟨b, off, none⟩ m c news (by rw [hsz, hm, Nat.mul_one]) (fun j u hu => by
    obtain ⟨hj, rfl⟩ := List.getElem?_eq_some_iff.1 hu
    rw [add_lit0]; exact hc j hj) h1
  have hold : (Builtin.firstCells i.size n (.slice A n n)).run P w.drew = .ok xs.toArray w.drew := by
    rcases hr with rfl | ⟨b2, off2, rfl, hc2⟩
    · have h00 : n = 0 := by simpa using hx.symm
      subst h00
      cases A <;> simp [Builtin.firstCells, loadCells, loadCellsFrom]
    · exact run_firstCells_some w.drew i.size n ⟨b2, off2, none⟩ n n xs (by rw [hsz, hx, Nat.mul_one]) (fun j u hu => by
        obtain ⟨hj, rfl⟩ := List.getElem?_eq_some_iff.1 hu
        rw [add_lit0]; exact hc2 j hj)
  have hge := grownCap_ge w (n + m) n e
  have hcm : grownCap w (n + m) n e ≤ maxLen := grownCap_le_maxLen w (n + m) n e (by unfold maxLen; omega)
  have hrun := run_append_grow_src w t t ty e i z T.und hi hz A n n xs hold _ m news hs (by omega) (by omega) (growslice_fits (by omega) (by rw [hby]; omega))
  refine ⟨_, _, hrun, ⟨by simp [hx, hm], .inr ⟨w.heap.size, grownCap w (n + m) n e, (xs ++ news).toArray ++ Builtin.zeroCells z.cells (grownCap w (n + m) n e - (n + m)), rfl, Nat.le_refl _, ?_, hge, hcm, ?_, ?_⟩⟩, ?_⟩
  · exact heap_alloc_new w.drew _
  · simp [size_zeroCells, T.zs, hx, hm]; omega
  · rw [Array.toList_append, List.take_left' (by simp [hx, hm])]
  · exact ((Below.refl w.heap.size w).drew).alloc (Nat.le_refl _) _
theorem wpList_app_full {t e : TypeId} {z : Value} (T : ElT P t e z 1 1) {w : World} {ops : Array Oper} {rest : List Oper} {a : Act} {Q : Exit → Act → World → Prop} {s x : Operand} {dst : Option Tmp} {ty : TypeId} {pos : String} {af : Array Edge}
    (A : Option Addr) (n : Nat) (xs : List Value) (hsv : a.eval s = .slice A n n) (hx : xs.length = n) (hr : Rd w A xs)
    (B : Option Addr) (m c : Nat) (news : List Value) (hxv : a.eval x = .slice B m c) (hm : news.length = m) (h0 : 0 < m) (hn : Rd w B news) (h1 : ∀ u ∈ news, u.oneCell' = true) (hb : n + m ≤ 100000000)
    (h : ∀ v' w', w'.ownsRow w.heap.size e 1 v' (n + m) (xs ++ news) → Keep w w' → wpList P ops Q rest (a.put dst v') w') :
    wpList P ops Q ({ dst := dst, op := .call { callee := .builtin .append, args := #[s, x], argTypes := #[t, t] }, type := ty, pos := pos, after := af, guard := none } :: rest) a w := by
  obtain ⟨v', w', hrun, h2, h3⟩ := run_append_full T w ty A n xs hx hr B m c news hm h0 hn h1 hb
  refine wpList_plain rfl fun K hK => ?_
  unfold Oper.wp execOp
  simp only [resolve, invoke, builtin, Sem.run_bind, Sem.run_pure, Result.andThen_ok, List.map_toArray, List.map_cons, List.map_nil, hsv, hxv, hrun]
  exact hK _ _ (h v' w' h2 h3)
/-- A whole variable loaded, in a region that draws its order. -/
theorem wpQuiet_load_arr {w0 : World} {ops : Array Oper} {rest : List Oper} {a : Act} {Q : Act → Prop} {x : Operand} {dst : Option Tmp} {ty ty' t : TypeId} {pos : String} {af : Array Edge}
    (g : Nat) (cs : Array Value) (hx : a.eval x = .pointer (some ⟨g, 0, none⟩)) (hb : Blk w0 g t cs.toList) (d : TypeDesc) (hu : P.underlying ty = some d) (hd : d.isRow = true) (hi : (P.info? ty).map (·.size) = some cs.size)
    (h : wpQuiet P ops (fun w' => ∃ x, w' = aft w0 x) Q rest (a.put dst (.agg cs))) :
    wpQuiet P ops (fun w' => ∃ x, w' = aft w0 x) Q ({ dst := dst, op := .load ty x, type := ty', pos := pos, after := af, guard := none } :: rest) a := by
  refine BigFrame.wpQuiet_want (by simp [Region.wanted]) fun K hK => ⟨.agg cs, fun w hw => ?_, hK _ h⟩
  obtain ⟨y, rfl⟩ := hw
  have hb2 := hb.keep (aft_keep w0 y)
  unfold Oper.quietAt execOp
  have hl := run_loadVar_mid (P := P) (aft w0 y) g 0 ty cs.toList d (fun j v hv => by rw [Nat.zero_add, hb2.cell]; exact hv) hu hd (by simpa using hi)
  simp only [hx, Instr.loadAt, Instr.sureAddr, Sem.run_bind, Sem.run_pure, Result.andThen_ok, hl, Array.toArray_toList]
  exact ⟨rfl, rfl⟩
end

theorem results_tmp_cell_row {P : Program} {fn : Func} {p u : Tmp} {ty : TypeId} (h : fn.results = #[.tmp u, .cell p ty]) (tmps : Array Value) (w : World) (g : Nat) (t : TypeId) (cs : Array Value) (fr : Nat × Nat) (d : TypeDesc)
    (hp : tmps.getD p undef = .pointer (some ⟨g, 0, none⟩)) (hg : w.heap[g]? = some (.cells cs t fr))
    (hu : P.underlying ty = some d) (hd : (match d with | .struct _ | .array _ _ => true | _ => false) = true) (hi : (P.info? ty).map (·.size) = some cs.size) :
    (results fn tmps).run P w = .ok (.tuple #[tmps.getD u undef, .agg cs]) w := by
  have hp' : tmps[p]?.getD undef = .pointer (some ⟨g, 0, none⟩) := by simpa using hp
  simp [results, h, hp', asAddr, run_loadVar_row w g t ty cs fr d hg hu hd hi]
/-- The load of a whole variable, as the walk's simp leaves it. -/
theorem run_loadCells_blk {P : Program} {w : World} {g : Nat} {t : TypeId} {cs : Array Value} (hb : Blk w g t cs.toList) (n : Nat) (hn : cs.size = n) : (loadCellsFrom ⟨g, 0, none⟩ 0 n #[]).run P w = .ok cs w := by
  subst hn
  have := run_loadCells_list (P := P) w ⟨g, 0, none⟩ cs.toList (fun j v hv => by rw [add_lit0, Nat.zero_add, hb.cell]; exact hv)
  simpa [loadCells] using this

theorem own_lowH {w : World} {b b' : Nat} {e : TypeId} {size : Nat} {v : Value} {n : Nat} {xs : List Value} (h : w.ownsRow b e size v n xs) (hb : b' ≤ b) : w.ownsRow b' e size v n xs :=
  ⟨h.1, h.2.imp id fun ⟨g, cap, cur, e1, e2, e3⟩ => ⟨g, cap, cur, e1, Nat.le_trans hb e2, e3⟩⟩

def seqN (seq : Int) : UInt32 := w32 ((seq % 4294967296 + 1) % 4294967296)
/-- A record's bytes ahead of its sum. -/
def recHead (seq : Int) (h : Hd) : List UInt8 := le4 (seqN seq) ++ (hputL h ++ List.replicate 12 0)
def recSum (last : List UInt8) (seq : Int) (h : Hd) : List UInt8 := dblL (last ++ recHead seq h)
/-- A record's bytes. -/
def recB (last : List UInt8) (seq : Int) (h : Hd) : List UInt8 := recHead seq h ++ recSum last seq h
theorem recHead_len (seq : Int) {h : Hd} (hk : h.ok) : (recHead seq h).length = 96 := by simp [recHead, le4, hputL_len hk]
theorem recB_len (last : List UInt8) (seq : Int) {h : Hd} (hk : h.ok) : (recB last seq h).length = 128 := by
  rw [recB, List.length_append, recHead_len seq hk]; unfold recSum; rw [dblL_len]
theorem zhash_letter : ∃ zs : Array Value, zs.size = 32 ∧ (∀ w, (zeroValue 33).run Tryd.prog w = .ok (.agg zs) w) ∧ ¬ zs = #[] ∧ zs.toList = (List.replicate 32 (0 : UInt8)).map u8v :=
  ⟨zhash, zhash_size, zhash_zero, (fun h => by have := zhash_size; rw [h] at this; cases this), zhash_list⟩

theorem bv0 (x : UInt32) : Value.int .u8 ((x.toNat : Int) % 256) = u8v (w8 (leE x 0)) := by
  have e : (x.toNat : Int) % 256 = leE x 0 := by unfold leE; simp
  rw [e]; unfold u8v; rw [← w8_of (by unfold leE; omega) (by unfold leE; omega)]
theorem bv1 (x : UInt32) : Value.int .u8 ((x.toNat : Int) / 256 % 256) = u8v (w8 (leE x 1)) := by
  have e : (x.toNat : Int) / 256 % 256 = leE x 1 := by unfold leE; rfl
  rw [e]; unfold u8v; rw [← w8_of (by unfold leE; omega) (by unfold leE; omega)]
theorem bv2 (x : UInt32) : Value.int .u8 ((x.toNat : Int) / 65536 % 256) = u8v (w8 (leE x 2)) := by
  have e : (x.toNat : Int) / 65536 % 256 = leE x 2 := by unfold leE; rfl
  rw [e]; unfold u8v; rw [← w8_of (by unfold leE; omega) (by unfold leE; omega)]
theorem bv3 (x : UInt32) : Value.int .u8 ((x.toNat : Int) / 16777216) = u8v (w8 (leE x 3)) := by
  have hx := w32_hi x
  have e : (x.toNat : Int) / 16777216 = leE x 3 := by
    unfold leE
    show _ = (x.toNat : Int) / 16777216 % 256
    omega
  rw [e]; unfold u8v; rw [← w8_of (by unfold leE; omega) (by unfold leE; omega)]
theorem rec_set (x : UInt32) : (((((List.replicate 128 (0 : UInt8)).map u8v).set 0 (u8v (w8 (leE x 0)))).set 1 (u8v (w8 (leE x 1)))).set 2 (u8v (w8 (leE x 2)))).set 3 (u8v (w8 (leE x 3))) = (le4 x ++ (List.replicate 80 0 ++ List.replicate 44 0)).map u8v := by rfl

set_option maxRecDepth 100000 in
set_option maxHeartbeats 3000000 in
theorem record_any (last : List UInt8) (ls : Array Value) (seq : Int) (h : Hd) (hs : Array Value) (w : World) (hls : HashA last ls) (hll : last.length = 32) (hk : h.ok) (hhs : HdA h hs) (hS : ShaOk w) :
    Calls Tryd.prog 30 #[.agg ls, .int .i64 seq, .agg hs] w fun e w' => ∃ A c ds, e = .returned (.tuple #[.slice A 128 c, .agg ds]) ∧ HashA (recSum last seq h) ds ∧ w'.ownsRow w.heap.size 5 1 (.slice A 128 c) 128 ((recB last seq h).map u8v) ∧ Keep w w' := by
  obtain ⟨zs, hz1, hz2, hz3, hz4⟩ := zhash_letter
  have hcz := hls.z; have hcn := hls.n; have hdz := hhs.z; have hdn := hhs.n; have hdi := hhs.i
  have Hls := Lib.hid hls; have Hhs := Lib.hid hhs; have Hll := Lib.hid hll; have Hk := Lib.hid hk; have HS := Lib.hid hS
  clear hls hhs hll hk hS
  have HRH : Hid (∀ d, recHead seq h = d → recB last seq h = d ++ dblL (last ++ d) ∧ recSum last seq h = dblL (last ++ d)) := fun d e => by subst e; exact ⟨rfl, rfl⟩
  have Hhd : Hid (recHead seq h = le4 (seqN seq) ++ (hputL h ++ List.replicate 12 0)) := rfl
  have Hpl : Hid ((hputL h).length = 80) := hputL_len Hk.out
  have P1 : Hid (∀ w', Calls Tryd.prog 21 #[.agg hs] w' fun e w'' => ∃ A, e = .returned (.slice A 80 80) ∧ Rd w'' A ((hputL h).map u8v) ∧ Keep w' w'') := fun w' => hput_any h hs w' Hk.out Hhs.out
  generalize recB last seq h = RB at HRH ⊢
  generalize recSum last seq h = RS at HRH ⊢
  generalize recHead seq h = RH at HRH Hhd
  generalize hputL h = hp at Hhd Hpl P1
  go_enter Tryd.func30, Tryd.ntmps30
  go_upto_region 2 with fail
  obtain ⟨w1, hw1⟩ : ∃ w1, w1 = ((w.alloc (.cells ls 33)).alloc (.cells hs 44)).alloc (.cells zs 33) := ⟨_, rfl⟩
  have hL : Blk w1 w.heap.size 33 (last.map u8v) := by
    rw [hw1]; exact (((show Blk _ w.heap.size _ (last.map u8v) by rw [← Hls.out.l]; exact Blk.new w _ ls.toList).alloc _).alloc _)
  have hH : Blk w1 (w.heap.size + 1) 44 hs.toList := by
    rw [hw1]
    have h1 := Blk.new (w.alloc (.cells ls 33)) 44 hs.toList
    rw [World.size_alloc] at h1
    exact h1.alloc _
  have hR : Blk w1 (w.heap.size + 1 + 1) 33 zs.toList := by
    rw [hw1]
    have h1 := Blk.new ((w.alloc (.cells ls 33)).alloc (.cells hs 44)) 33 zs.toList
    rw [World.size_alloc, World.size_alloc] at h1
    exact h1
  have kw1 : Keep w w1 := by rw [hw1]; exact keep_trans (keep_trans (keep_new _ _) (keep_new _ _)) (keep_new _ _)
  have hz11 : w.heap.size + 3 = w1.heap.size := by rw [hw1]; simp
  rw [← hw1]
  clear hw1
  rw [show Value.int .u32 ((seq % 4294967296 + 1) % 4294967296) = u32v (seqN seq) from u32v_w (by omega) (by omega)]
  generalize seqN seq = n at Hhd ⊢
  have hn32 := w32_hi n
  obtain ⟨wm, hmk, hbm, km, hsz⟩ := make_blk 96 128 96 128 rfl rfl (by omega) (by omega) w1
  have c0 := hbm.cell 0; have c1 := hbm.cell 1; have c2 := hbm.cell 2; have c3 := hbm.cell 3
  simp only [List.getElem?_map, List.getElem?_replicate] at c0 c1 c2 c3
  have f0 := hbm.frozen 0; have f1 := hbm.frozen 1; have f2 := hbm.frozen 2; have f3 := hbm.frozen 3
  have Hbm := Lib.hid hbm; have Hkm := Lib.hid km
  clear hbm hsz
  go_upto_region 4 with fail
  obtain ⟨w2, hw2⟩ : ∃ w2, w2 = (((wm.setCell ⟨w1.heap.size, 0, none⟩ (.int .u8 ((n.toNat : Int) % 256))).setCell ⟨w1.heap.size, 1, none⟩ (.int .u8 ((n.toNat : Int) / 256 % 256))).setCell ⟨w1.heap.size, 2, none⟩ (.int .u8 ((n.toNat : Int) / 65536 % 256))).setCell ⟨w1.heap.size, 3, none⟩ (.int .u8 ((n.toNat : Int) / 16777216)) := ⟨_, rfl⟩
  have HM2 : Hid (Blk w2 w1.heap.size 5 ((le4 n ++ (List.replicate 80 0 ++ List.replicate 44 0)).map u8v)) := by
    rw [hw2, bv0, bv1, bv2, bv3, ← rec_set]
    exact (((Hbm.out.set_ 0 _).set_ 1 _).set_ 2 _).set_ 3 _
  have HK2 : Hid (Keep w1 w2) := by
    rw [hw2]
    iterate 4 (refine Below.setCell ?_ (by simp) _)
    exact km
  rw [← hw2]
  clear hw2 hmk c0 c1 c2 c3 f0 f1 f2 f3
  refine wp_region_tree (.take [0,1,2] (.force [3] .done)) [4] (by kernel_rfl) (by kernel_rfl) (fun w3 k3 => ?_)
  have kw3 := keep_trans (keep_trans kw1 HK2.out) k3
  have hH3 : Hid (Blk w3 (w.heap.size + 1) 44 hs.toList) := hH.keep (keep_trans HK2.out k3)
  refine mt_take w3 (Below.refl _ _) ?_
  simp only [pick_cons, pick_nil, nth_zero, nth_succ]
  go_big_quiet_step (fail)
  go_big_quiet_step (fail)
  (with_reducible refine wpQuiet_load_arr (w.heap.size + 1) hs (Eq.trans ?_ rfl) hH3.out _ Tryd.underlying44 rfl hdi ?_)
  rfl
  simp only [Act.put, Array.set!_eq_setIfInBounds, List.setIfInBounds_toArray, List.set_cons_succ, List.set_cons_zero]
  refine wpQuiet_nil (mt_force ?_)
  simp only [pick_cons, pick_nil, nth_zero, nth_succ]
  refine fc_step rfl (fun K hK => ?_)
  go_simp
  (with_reducible refine (P1.out _).mono ?_)
  rintro e w4 ⟨A4, rfl, hr4, hk⟩
  refine hK _ _ hk ?_
  clear hK K
  have k4 := keep_trans k3 hk
  have HM4 := Lib.hid (HM2.out.keep k4); have Hr4 := Lib.hid hr4
  have HK4 := Lib.hid (keep_trans HK2.out k4)
  clear hk hr4 kw3 hH3 k3
  refine fc_nil (mt_end ?_)
  refine wpList_cpy byteW (by rfl) _ _ (by rfl) w1.heap.size 4 80 124 (by rfl) A4 80 80 (hp.map u8v) (by rfl) (by rw [List.length_map]; exact Hpl.out) Hr4.out (one_w8 _) _ _ HM4.out (by simp [le4]) ?_
  intro w5 ho5 hg5
  simp only [Act.put, Array.set!_eq_setIfInBounds, List.setIfInBounds_toArray, List.set_cons_succ, List.set_cons_zero]
  have hpl80 : hp.length = 80 := Hpl.out
  have HM5 : Hid (Blk w5 w1.heap.size 5 ((RH ++ List.replicate 32 0).map u8v)) := by
    have h := ho5.out
    rw [List.take_of_length_le (by rw [List.length_map]; omega), splice_mapH, splice_mid (le4 n) _ _ hp 4 rfl (by rw [hpl80, List.length_replicate])] at h
    rw [Hhd.out]
    have e : le4 n ++ (hp ++ List.replicate 12 (0 : UInt8)) ++ List.replicate 32 0 = le4 n ++ (hp ++ List.replicate 44 0) := by
      rw [List.append_assoc, List.append_assoc, List.replicate_append_replicate]
    rw [e]
    exact h
  have hRHl : Hid (RH.length = 96) := by rw [Hhd.out]; simp [Hid, le4, hpl80]
  have HK5 : Hid (Keep w1 w5) := HK4.out.grown hg5 HK4.out.size (fun q hq => by injection hq with hq; omega)
  have hz5 := HK5.out.size
  clear ho5 hg5 k4 hpl80
  have HL5 := Lib.hid (hL.keep HK5.out); have HR5 := Lib.hid (hR.keep HK5.out)
  have kw5 := keep_trans kw1 HK5.out
  have HMr : Hid (Rd w5 (some ⟨w1.heap.size, 0, none⟩) (RH.map u8v)) := by
    have h := HM5.out.rd.take 96
    rw [← List.map_take, List.take_left' hRHl.out] at h
    exact h
  have D1 : Hid (∀ w' A' c', Keep w w' → Rd w' A' ((last ++ RH).map u8v) → 128 ≤ c' → c' ≤ maxLen → Calls Tryd.prog 43 #[.slice A' 128 c'] w' fun e w'' => e = .returned (hashV (dblL (last ++ RH))) ∧ Keep w' w'') := fun w' A' c' hk hr hc hm => by
    have hl : (last ++ RH).length = 128 := by rw [List.length_append, Hll.out, hRHl.out]
    have h := double_any A' (last ++ RH) c' w' (HS.out.keep hk) hr (by omega) hm (by omega)
    rw [hl] at h
    exact h
  obtain ⟨hRB, hRS⟩ := HRH.out RH rfl
  obtain ⟨ds, hds⟩ : ∃ ds, HashA RS ds := ⟨_, HashA.of (by rw [hRS]; exact dblL_len _)⟩
  have D2 : Hid (∀ w' A' c', Keep w w' → Rd w' A' ((last ++ RH).map u8v) → 128 ≤ c' → c' ≤ maxLen → Calls Tryd.prog 43 #[.slice A' 128 c'] w' fun e w'' => e = .returned (.agg ds) ∧ Keep w' w'') := fun w' A' c' hk hr hc hm =>
    (D1.out w' A' c' hk hr hc hm).mono fun e w'' ⟨h1, h2⟩ => ⟨by rw [h1, ← hRS]; unfold hashV; rw [hds.e], h2⟩
  have hsz := hds.z; have hsn := hds.n
  have Hds := Lib.hid hds; have HRB := Lib.hid hRB; have HRS := Lib.hid hRS
  have hst1 : ∀ ww : World, (storeCells ⟨ww.heap.size, 0, none⟩ ds.toList 0).run Tryd.prog (ww.alloc (.cells zs 33)) = .ok () (ww.alloc (.cells ds 33)) := fun ww => run_storeCells_new (P := Tryd.prog) ww 33 zs ds Hds.out.i (hz1.trans hsz.symm) (by have := all_oneCell_toArray Hds.out.o; rwa [Array.toArray_toList] at this)
  clear hds hRB hRS D1
  go_wp2_with (at_builtin; refine wpList_app_full byteW (some ⟨w.heap.size, 0, none⟩) 32 (last.map u8v) (by rfl) (by rw [List.length_map]; exact Hll.out) HL5.out.rd (some ⟨w1.heap.size, 0, none⟩) 96 128 (RH.map u8v) (by rfl) (by rw [List.length_map]; exact hRHl.out) (by omega) HMr.out (one_w8 _) (by omega) ?_; intro v6 w6 own6 hk6; have own7 := own_eq own6 (n' := 128) (xs' := (last ++ RH).map u8v) (by omega) (by rw [List.map_append]); obtain ⟨A6, c6, rfl, hc6, hm6, hr6⟩ := own_form own7)
  have kw6 := keep_trans kw5 hk6
  refine (D2.out w6 A6 c6 kw6 hr6 hc6 hm6).mono ?_
  rintro e w7 ⟨rfl, k7⟩
  have kw7 := keep_trans kw6 k7
  have k57 := keep_trans hk6 k7
  have HM7 := Lib.hid (HM5.out.keep k57); have HR7 := Lib.hid (HR5.out.keep k57)
  clear own6 own7 hr6 hm6 hc6
  go_upto_region 6 with fail
  have HK7 := Lib.hid (keep_trans HK5.out k57)
  obtain ⟨w9, hw9⟩ : ∃ w9, w9 = w7.alloc (.cells ds 33) := ⟨_, rfl⟩
  have HS9 : Hid (Blk w9 w7.heap.size 33 ds.toList) := by rw [hw9]; exact Blk.new w7 _ ds.toList
  have HM9 : Hid (Blk w9 w1.heap.size 5 ((RH ++ List.replicate 32 0).map u8v)) := by rw [hw9]; exact HM7.out.alloc _
  have HR9 : Hid (Blk w9 (w.heap.size + 1 + 1) 33 zs.toList) := by rw [hw9]; exact HR7.out.alloc _
  have HK9 : Hid (Keep w1 w9) := by rw [hw9]; exact keep_trans HK7.out (keep_new _ _)
  rw [← hw9]
  have hz7 : w1.heap.size < w7.heap.size := HM7.out.lt
  clear hw9 hst1 HM7 HR7 k7 k57 HS
  generalize w7.heap.size = S at HS9 hz7 ⊢
  have own9 : w9.ownsRow w1.heap.size 5 1 (.slice (some ⟨w1.heap.size, 0, none⟩) 96 128) 96 (RH.map u8v) := by
    have h : w9.heap[w1.heap.size]? = some (.cells (splice ((RH ++ List.replicate 32 0).map u8v) 0 (RH.map u8v)).toArray 5 (0, 0)) := by
      have e : splice ((RH ++ List.replicate 32 (0 : UInt8)).map u8v) 0 (RH.map u8v) = (RH ++ List.replicate 32 0).map u8v := by
        rw [splice_mapH]; congr 1; simp [splice]
      rw [e]; exact HM9.out
    exact own_fill (n := 96) (c := 128) h (Nat.le_refl _) (by rw [List.length_map]; exact hRHl.out) (by have : RH.length = 96 := hRHl.out; simp [this]) (by omega) (by unfold maxLen; omega)
  have Own9 := Lib.hid own9
  have hi9 := Hds.out.i
  have hz9 := HK9.out.size
  clear own9
  letI iM : G.Mk := ⟨some w1.heap.size⟩
  refine G.wp_region_tree (.take [0,1,3] (.force [2] (.take [4] .done))) [5] (by kernel_rfl) (by kernel_rfl) (fun w8 k8 => ?_)
  have hneS : G.Mk.m ≠ some S := fun e => by have e2 : w1.heap.size = S := Option.some.inj e; omega
  have hneR : G.Mk.m ≠ some (w.heap.size + 1 + 1) := fun e => by have e2 : w1.heap.size = w.heap.size + 1 + 1 := Option.some.inj e; omega
  have HS8 : Hid (Blk w8 S 33 ds.toList) := HS9.out.keep k8
  have HR8 : Hid (Blk w8 (w.heap.size + 1 + 1) 33 zs.toList) := HR9.out.keep k8
  refine G.mt_take w8 (G.Gr.refl _) ?_
  simp only [pick_cons, pick_nil, nth_zero, nth_succ]
  go_big_quiet_step (fail)
  go_big_quiet_step (fail)
  (with_reducible refine G.wpQuiet_load_arrG S ds (Eq.trans ?_ rfl) HS8.out hneS (.array 32 5) hash_under (arr_row _ _) hi9 ?_)
  rfl
  simp only [Act.put, Array.set!_eq_setIfInBounds, List.setIfInBounds_toArray, List.set_cons_succ, List.set_cons_zero]
  refine wpQuiet_nil (G.mt_force ?_)
  simp only [pick_cons, pick_nil, nth_zero, nth_succ]
  have own8 : w8.ownsRow w1.heap.size 5 1 (.slice (some ⟨w1.heap.size, 0, none⟩) 96 128) 96 (RH.map u8v) := by
    have hb8 : Blk w8 w1.heap.size 5 ((RH ++ List.replicate 32 0).map u8v) := HM9.out.keep k8
    have h : w8.heap[w1.heap.size]? = some (.cells (splice ((RH ++ List.replicate 32 0).map u8v) 0 (RH.map u8v)).toArray 5 (0, 0)) := by
      have e : splice ((RH ++ List.replicate 32 (0 : UInt8)).map u8v) 0 (RH.map u8v) = (RH ++ List.replicate 32 0).map u8v := by
        rw [splice_mapH]; congr 1; simp [splice]
      rw [e]; exact hb8
    exact own_fill (n := 96) (c := 128) h (Nat.le_refl _) (by rw [List.length_map]; exact hRHl.out) (by have : RH.length = 96 := hRHl.out; simp [this]) (by omega) (by unfold maxLen; omega)
  refine G.fc_step rfl (fun K hK => ?_)
  refine wp_app byteW _ _ (by rfl) w1.heap.size _ 96 _ (by rfl) own8 _ 32 32 ds.toList (by rfl) (by rw [Array.length_toList, hsz]) HS8.out.rd Hds.out.o (by omega) (by unfold maxLen; omega) (Nat.le_trans hz9 k8.size) (fun v10 w10 own10 hg10 hat10 => hK _ _ hg10 ?_)
  clear hK K
  have own11 := own_eq own10 (n' := 128) (xs' := RB.map u8v) (by omega) (by rw [HRB.out, ← HRS.out, List.map_append, Hds.out.l])
  have HR10 : Hid (Blk w10 (w.heap.size + 1 + 1) 33 zs.toList) := HR8.out.grown hg10 hneR
  have hgr : w9.grownBy w10 (some w1.heap.size) := World.grownBy.trans (G.grown_of_keep k8 _) hg10
  have kw10 : Hid (Keep w w10) := (keep_trans kw1 HK9.out).grown hgr (keep_trans kw1 HK9.out).size (fun q hq => by injection hq with hq; omega)
  obtain ⟨A10, c10, rfl, hc10, hm10, hr10⟩ := own_form own11
  have Own11 := Lib.hid own11
  obtain ⟨w11, hst, hb11, hg11⟩ := run_store_blk (P := Tryd.prog) ds.toList HR10.out (by simp [hz1, hsz]) Hds.out.o
  have Hb11 := Lib.hid hb11; have Hg11 := Lib.hid hg11; have Hgr := Lib.hid hgr
  clear own10 own11 hg10 hat10 hgr hb11 hg11 own8 hr10
  refine G.fc_nil (G.mt_take w10 (G.Gr.refl _) ?_)
  simp only [pick_cons, pick_nil, nth_zero, nth_succ, Act.put, Array.set!_eq_setIfInBounds, List.setIfInBounds_toArray, List.set_cons_succ, List.set_cons_zero]
  repeat (go_big_quiet_step (fail))
  refine wpQuiet_nil (G.mt_end ?_)
  clear hneS hneR
  clear iM
  go_wp2
  have hb11 := Hb11.out
  refine bodyPost_ret (v := .tuple #[.slice A10 128 c10, .agg ds]) (results_tmp_cell_row Tryd.results30 _ _ (w.heap.size + 1 + 1) _ _ _ (.array 32 5) rfl hb11 hash_under rfl (by rw [List.size_toArray, Array.length_toList]; exact hi9)) rfl ⟨A10, c10, ds, rfl, Hds.out, ?_, kw10.out.grown Hg11.out kw10.out.size (fun q hq => by injection hq with hq; omega)⟩
  have hkept := Own11.out.kept Hg11.out (.inr (fun e => by have h1 := (Own11.out.lt _ e).1; omega))
  exact own_lowH hkept (by omega)
end Go.Proofs.YtielojlhdnimgaaDoor
