/- rules.Point. -/
import Derived.Test.YteoilddiilegmaaDoorRm
import Derived.Test.YteoilddiilegmaaDoorEi
import Derived.Test.YteoilddiilegmaaDoorHm
set_option linter.unusedSimpArgs false
set_option linter.unusedVariables false
namespace Go.Proofs.YteoilddiilegmaaDoor
open Go.RowKit
attribute [local go_sem ↓] Go.wp_at_zero Go.wp_at_succ

theorem zhash_Br : Tryd.prog.built 28 [] = some zhash := by kernel_rfl
theorem list_buildr {P : Program} {w : World} {ops : Array Oper} {rest : List Oper} {a : Act} {Q : Exit → Act → World → Prop} {parts : Array (Nat × Operand)} {dst : Option Tmp} {t ty' : TypeId} {pos : String} {af : Array Edge}
    (ps : List (Nat × Value)) (cells : Array Value) (hx : (parts.toList.map fun p => (p.1, a.eval p.2)) = ps) (hb : P.built t ps = some cells)
    (h : wpList P ops Q rest (a.put dst (.agg cells)) w) : wpList P ops Q ({ dst := dst, op := .build t parts, type := ty', pos := pos, after := af, guard := none } :: rest) a w :=
  wpList_plain rfl fun _ hK => wp_build t parts rfl (by rw [show (parts.map fun (i, x) => (i, a.eval x)).toList = ps by rw [Array.toList_map]; exact hx, hb]; rfl) (by rw [show (parts.map fun (i, x) => (i, a.eval x)).toList = ps by rw [Array.toList_map]; exact hx, hb]; exact hK _ _ h)

/-- Checkpoints. -/
def chkC (x : Int × List UInt8) : List Value := iv x.1 :: x.2.map u8v
theorem chkC_len {x : Int × List UInt8} (h : x.2.length = 32) : (chkC x).length = 33 := by simp [chkC, h]
theorem chkC_one (x : Int × List UInt8) : ∀ v ∈ chkC x, v.oneCell' = true := by
  intro v hv
  rcases List.mem_cons.1 hv with rfl | hv
  · rfl
  · exact one_w8 _ v hv
def Chks (p : Par) (A : Option Addr) (w : World) : Prop := Rd w A (p.chks.flatMap chkC) ∧ (∀ x ∈ p.chks, x.2.length = 32) ∧ p.chks.length ≤ 1000
theorem Chks.keep {p : Par} {A : Option Addr} {w w' : World} (h : Chks p A w) (hk : Keep w w') : Chks p A w' := ⟨h.1.keep hk, h.2⟩
theorem chks_at {p : Par} {w : World} {A : Option Addr} (hr : Chks p A w) {k : Nat} (h : k < p.chks.length) :
    ∃ b off, A = some ⟨b, off, none⟩ ∧ b < w.heap.size ∧ w.rangeAt b (off + k * 33) (chkC p.chks[k]) := by
  have hlen : ∀ a ∈ p.chks, (chkC a).length = 33 := fun a ha => chkC_len (hr.2.1 a ha)
  obtain ⟨b, off, rfl, hb, F⟩ := hr.1.at (k := k * 33) (by rw [flatMap_len' _ 33 _ hlen]; omega)
  refine ⟨b, off, rfl, hb, fun j v hv => ?_⟩
  have hj : j < 33 := by rw [← hlen p.chks[k] (List.getElem_mem h)]; exact (List.getElem?_eq_some_iff.1 hv).1
  have hg := flatMap_get' chkC 33 p.chks hlen k j h hj
  have hlt : k * 33 + j < (p.chks.flatMap chkC).length := by rw [flatMap_len' _ 33 _ hlen]; omega
  have hc := F (k * 33 + j) hlt
  rw [Nat.add_assoc, hc, ← hv, ← hg, List.getElem?_eq_getElem hlt]

noncomputable def zchk : Array Value := match (Tryd.prog.info? 70).bind (·.zero) with | some (.agg c) => c | _ => #[]
theorem zchk_size : zchk.size = 33 := by kernel_rfl
theorem zchk_zero (w : World) : (zeroValue 70).run Tryd.prog w = .ok (.agg zchk) w := by kernel_rfl
theorem chk_size : (Tryd.prog.info? 70).map (·.size) = some 33 := by kernel_rfl

def pointR (p : Par) (n : Int) : Option (List UInt8) := (p.chks.find? fun x => x.1 == n).map (·.2)
def pointH (p : Par) (n : Int) : List UInt8 := (pointR p n).getD (List.replicate 32 0)

set_option maxRecDepth 100000 in
set_option maxHeartbeats 4000000 in
theorem point_any (p : Par) (A : Option Addr) (c : Nat) (n : Int) (w : World) (hr : Chks p A w) :
    Calls Tryd.prog 12 #[parV p A c, iv n] w fun e w' => ∃ cs, e = .returned (.tuple #[.agg cs, .bool (pointR p n).isSome]) ∧ HashA (pointH p n) cs ∧ Keep w w' := by
  obtain ⟨zs, hzs⟩ : ∃ zs, zs = zhash := ⟨_, rfl⟩
  have hz1 : zs.size = 32 := by rw [hzs]; exact zhash_size
  have hz2 : ∀ w, (zeroValue 28).run Tryd.prog w = .ok (.agg zs) w := fun w => by rw [hzs]; exact zhash_zero w
  have hz3 : ¬ zs = #[] := fun h => by rw [h] at hz1; cases hz1
  have hz4 : Hid (zs.toList = (List.replicate 32 (0 : UInt8)).map u8v) := Lib.hid (by rw [hzs]; exact zhash_list)
  have hz5 : Hid (Tryd.prog.built 28 [] = some zs) := Lib.hid (by rw [hzs]; exact zhash_Br)
  clear hzs
  obtain ⟨ys, hys⟩ : ∃ ys, ys = zchk := ⟨_, rfl⟩
  have hy1 : ys.size = 33 := by rw [hys]; exact zchk_size
  have hy2 : ∀ w, (zeroValue 70).run Tryd.prog w = .ok (.agg ys) w := fun w => by rw [hys]; exact zchk_zero w
  have hy3 : ¬ ys = #[] := fun h => by rw [h] at hy1; cases hy1
  clear hys
  have HAT : Hid (∀ k (h : k < p.chks.length), ∃ b off, A = some ⟨b, off, none⟩ ∧ w.rangeAt b (off + k * 33) (chkC p.chks[k]) ∧ p.chks[k].2.length = 32) := Lib.hid fun k h => by
    obtain ⟨b, off, h1, -, h2⟩ := chks_at hr h
    exact ⟨b, off, h1, h2, hr.2.1 _ (List.getElem_mem h)⟩
  have hl : p.chks.length ≤ 1000 := hr.2.2
  have HP : Hid (∀ r hsh, (pointR p n).isSome = r → pointH p n = hsh → r = ((p.chks.find? fun x => x.1 == n).map (·.2)).isSome ∧ hsh = ((p.chks.find? fun x => x.1 == n).map (·.2)).getD (List.replicate 32 0)) := Lib.hid fun r hsh e1 e2 => by subst e1 e2; exact ⟨rfl, rfl⟩
  replace HP := Lib.hid (HP.out _ _ rfl rfl)
  clear hr
  generalize (pointR p n).isSome = R at *
  generalize pointH p n = H at *
  unfold parV
  generalize p.chks = L at *
  generalize p.limit = limit at *
  generalize p.itv = itv at *
  generalize p.span = span at *
  generalize p.fut = fut at *
  generalize p.idx = idx at *
  generalize p.orp = orp at *
  clear p
  go_enter Tryd.func12, Tryd.ntmps12
  go_upto_region 1 with fail
  obtain ⟨w1, hw1⟩ : ∃ w1, w1 = (w.alloc (.cells #[u32v limit, iv itv, iv span, iv fut, iv idx, iv orp, .slice A L.length c] 25)).alloc (.cells zs 28) := ⟨_, rfl⟩
  have HP1 : Hid (Blk w1 w.heap.size 25 [u32v limit, iv itv, iv span, iv fut, iv idx, iv orp, .slice A L.length c]) := by rw [hw1]; exact Lib.hid ((Blk.new w 25 [u32v limit, iv itv, iv span, iv fut, iv idx, iv orp, .slice A L.length c]).alloc _)
  have HR1 : Hid (Blk w1 (w.heap.size + 1) 28 zs.toList) := by
    rw [hw1]
    have h2 := Blk.new (w.alloc (.cells #[u32v limit, iv itv, iv span, iv fut, iv idx, iv orp, .slice A L.length c] 25)) 28 zs.toList
    rw [World.size_alloc] at h2
    exact Lib.hid h2
  have HK1 : Hid (Keep w w1) := by rw [hw1]; exact Lib.hid (keep_trans (keep_new _ _) (keep_new _ _))
  rw [← hw1]
  clear hw1
  have p6 := HP1.out.cell 6
  simp only [List.getElem?_cons_succ, List.getElem?_cons_zero] at p6
  go_wp2_with fail
  clear p6 HP1
  go_loopw [11] (fun i wr => ∃ k : Nat, k ≤ L.length ∧ i = .int .i64 k ∧ Hid ((L.take k).find? (fun x => x.1 == n) = none) ∧ Hid (Blk wr (w.heap.size + 1) 28 zs.toList) ∧ Hid (Keep w wr)) (fun i _ => L.length - (intOf i).toNat)
  case atStart => exact ⟨0, Nat.zero_le _, rfl, Lib.hid rfl, HR1, HK1⟩
  case round =>
    obtain ⟨k, hk, rfl, hno, HR, HK⟩ := hrel
    by_cases hlt : k < L.length
    · obtain ⟨b, off, rfl, hrg, hh⟩ := HAT.out k hlt
      have RA : Hid (wr.rangeAt b (off + k * 33) (chkC L[k]).toArray.toList) := Lib.hid fun j v hv => keep_cell HK.out (hrg j v hv)
      have hone := chkC_one L[k]
      have hsz := chkC_len hh
      have hf : (L.take (k + 1)).find? (fun x => x.1 == n) = if L[k].1 = n then some L[k] else none := by
        rw [List.take_succ_eq_append_getElem hlt, List.find?_append, hno.out, Option.none_or]
        simp only [List.find?_cons, List.find?_nil, beq_iff_eq]
        by_cases e : L[k].1 = n
        · simp [e]
        · have e2 : (L[k].1 == n) = false := by simpa using e
          simp [e, e2]
      have hall : (L.find? fun x => x.1 == n) = (((L.take (k + 1)).find? fun x => x.1 == n).or ((L.drop (k + 1)).find? fun x => x.1 == n)) := by
        rw [← List.find?_append, List.take_append_drop]
      have HF := Lib.hid hf; have HL := Lib.hid hall
      clear hf hall hrg
      generalize L[k] = x at *
      obtain ⟨m, hsh⟩ := x
      simp only at hh HF
      obtain ⟨ck, hck⟩ : ∃ ck, (chkC (m, hsh)).toArray = ck := ⟨_, rfl⟩
      have hcl : ck.toList = iv m :: hsh.map u8v := by rw [← hck]; rfl
      have hc1 : ck.size = 33 := by rw [← hck, List.size_toArray, hsz]
      have hc2 : (Tryd.prog.info? 70).map (·.size) = some ck.size := by rw [hc1]; exact chk_size
      have hc3 : ¬ ck = #[] := fun h => by rw [h] at hc1; cases hc1
      have hc4 := Lib.hid (show ∀ v ∈ ck.toList, v.oneCell' = true by rw [← hck]; exact hone)
      rw [hck] at RA
      have hst : (storeCells ⟨wr.heap.size, 0, none⟩ ck.toList 0).run Tryd.prog (wr.alloc (.cells ys 70)) = .ok () (wr.alloc (.cells ck 70)) := run_storeCells_new (P := Tryd.prog) wr 70 ys ck hc2 (hy1.trans hc1.symm) (by have := all_oneCell_toArray hc4.out; rwa [Array.toArray_toList] at this)
      have Hcl := Lib.hid hcl
      have Hh := Lib.hid hh
      clear hck hsz hone hcl hh
      go_upto_region 4 with ((with_reducible refine load_partg b (off + k * 33) ck (Eq.trans ?_ rfl) RA.out _ Tryd.underlying70 rfl hc2 rfl ?_); rfl)
      obtain ⟨w3, hw3⟩ : ∃ w3, w3 = wr.alloc (.cells ck 70) := ⟨_, rfl⟩
      have HC3 : Hid (Blk w3 wr.heap.size 70 (iv m :: hsh.map u8v)) := by rw [hw3, ← Hcl.out]; exact Lib.hid (Blk.new wr 70 ck.toList)
      have HR3 : Hid (Blk w3 (w.heap.size + 1) 28 zs.toList) := by rw [hw3]; exact Lib.hid (HR.out.alloc _)
      have HK3 : Hid (Keep w w3) := by rw [hw3]; exact Lib.hid (keep_trans HK.out (keep_new _ _))
      rw [← hw3]
      clear hw3 hst RA HR HK
      have hg1 : w.heap.size + 1 < w3.heap.size := HR3.out.lt
      generalize wr.heap.size = g at *
      have c0 := HC3.out.cell 0
      simp only [List.getElem?_cons_zero] at c0
      by_cases hmn : m = n
      · subst hmn
        have hR := HP.out.1
        have hH := HP.out.2
        rw [HL.out, HF.out, if_pos rfl] at hR hH
        simp only [Option.some_or, Option.map_some, Option.isSome_some, Option.getD_some] at hR hH
        subst hR hH
        obtain ⟨hv, hhv⟩ : ∃ hv, HashA H hv := ⟨_, HashA.of Hh.out⟩
        have hvz := hhv.z; have hvn := hhv.n; have hvi := hhv.i
        have Hhv := Lib.hid hhv
        have hrg : Hid (w3.rangeAt g 1 hv.toList) := Lib.hid (range_of HC3.out 1 hv.toList (by rw [hhv.l]; simp [List.take_of_length_le]))
        obtain ⟨w8, hst8, hb8, hg8⟩ := run_store_blk (P := Tryd.prog) hv.toList HR3.out (by simp [hz1, hvz]) hhv.o
        have Hb8 := Lib.hid hb8; have Hg8 := Lib.hid hg8
        clear hb8 hg8 hhv HP HL HF hno HC3 HAT
        go_wp2_with ((with_reducible refine load_partg g 1 hv (Eq.trans ?_ rfl) hrg.out _ Tryd.underlying28 rfl hvi rfl ?_); rfl)
        have hb8 := Hb8.out
        exact bodyPost_ret (v := .tuple #[.agg hv, .bool true]) (results_cell_tmp_row Tryd.results12 _ _ (w.heap.size + 1) _ _ _ _ rfl hb8 Tryd.underlying28 rfl (by rw [List.size_toArray, Array.length_toList]; exact hvi)) rfl ⟨hv, rfl, Hhv.out, HK3.out.grown Hg8.out HK3.out.size (fun q hq => by injection hq with hq; omega)⟩
      · have d1 : (m == n) = false := by simp [hmn]
        have hno2 := HF.out
        rw [if_neg hmn] at hno2
        have Hno2 := Lib.hid hno2
        clear hno2 HF HL hmn
        go_wp2
        go_roundw
        case rel => exact ⟨k + 1, by omega, by go_num, Hno2, HR3, HK3⟩
        case measure => simp [intOf]; omega
    · obtain rfl : L.length = k := by omega
      have hR := HP.out.1
      have hH := HP.out.2
      have hno2 := hno.out
      rw [List.take_length] at hno2
      rw [hno2] at hR hH
      simp only [Option.map_none, Option.isSome_none, Option.getD_none] at hR hH
      subst hR hH
      have hzo : ∀ v ∈ zs.toList, v.oneCell' = true := by rw [hz4.out]; exact one_w8 _
      have hzi : (Tryd.prog.info? 28).map (·.size) = some zs.size := by rw [hz1]; kernel_rfl
      obtain ⟨w8, hst8, hb8, hg8⟩ := run_store_blk (P := Tryd.prog) zs.toList HR.out rfl hzo
      have Hb8 := Lib.hid hb8; have Hg8 := Lib.hid hg8
      have hg1 : w.heap.size + 1 < wr.heap.size := HR.out.lt
      clear hb8 hg8 hno2 HP hno hzo HAT
      go_wp2_with ((with_reducible refine list_buildr [] zs (Eq.trans ?_ rfl) hz5.out ?_); rfl)
      have hb8 := Hb8.out
      have hza : HashA (List.replicate 32 0) zs := by
        have h := HashA.of (h := List.replicate 32 (0 : UInt8)) rfl
        have e : ((List.replicate 32 (0 : UInt8)).map u8v).toArray = zs := by rw [← hz4.out, Array.toArray_toList]
        rw [e] at h
        exact h
      exact bodyPost_ret (v := .tuple #[.agg zs, .bool false]) (results_cell_tmp_row Tryd.results12 _ _ (w.heap.size + 1) _ _ _ _ rfl hb8 Tryd.underlying28 rfl (by rw [List.size_toArray, Array.length_toList]; exact hzi)) rfl ⟨zs, rfl, hza, HK.out.grown Hg8.out HK.out.size (fun q hq => by injection hq with hq; omega)⟩
end Go.Proofs.YteoilddiilegmaaDoor
