/- Texts merged by pack.py: Rpt, Rpl, Rg, Qb, Qc, Qd, Qe, Qf, Pa. -/
import Derived.Test.YtffpanlpbdnafaaDoorCx8
import Derived.Test.YtffpanlpbdnafaaDoorCx1
import Derived.Lib.LazyBuf
import Derived.Test.YtffpanlpbdnafaaDoorCx7
import Derived.Test.YtffpanlpbdnafaaDoorCx4
import Derived.Test.YtffpanlpbdnafaaDoorCx3
/- frame.Put (printed by gen_rpt.py) -/
set_option linter.unusedSimpArgs false
set_option linter.unusedVariables false
namespace Go.Proofs.YtffpanlpbdnafaaDoor
open Go.RowKit
attribute [local go_sem ↓] Go.wp_at_zero Go.wp_at_succ
theorem grown_setCells {b : Nat} : ∀ (vs : List Value) (o : Nat) (w w' : World), w.grownBy w' (some b) → w.grownBy (w'.setCells b o vs) (some b)
  | [], _, _, _, h => h
  | v :: r, o, w, w', h => grown_setCells r (o + 1) w _ (grown_set h)
theorem blk_setCells {b : Nat} {t : TypeId} : ∀ (vs pre cs : List Value) (w : World), Blk w b t (pre ++ cs) → vs.length ≤ cs.length → Blk (w.setCells b pre.length vs) b t (pre ++ (vs ++ cs.drop vs.length))
  | [], pre, cs, w, h, _ => by simpa [World.setCells] using h
  | v :: r, pre, [], w, h, hl => by simp at hl
  | v :: r, pre, x :: cs, w, h, hl => by
    have h1 := h.set_ pre.length v
    have e : (pre ++ x :: cs).set pre.length v = (pre ++ [v]) ++ cs := by simp [List.set_append_right]
    rw [e] at h1
    have q := blk_setCells r (pre ++ [v]) cs _ h1 (by simpa using hl)
    rw [List.length_append, List.length_singleton, List.append_assoc] at q
    simpa [World.setCells] using q
theorem wp_copyR {P : Program} {o : Oper} {a : Act} {w : World} {K : Act → World → Prop} {Q : Exit → Act → World → Prop} (d x : Operand) (dT sT : TypeId) (hop : o.op = Op.call { callee := Callee.builtin Builtin.copy, args := #[d, x], argTypes := #[dT, sT] })
    (u v r : Value) (w' : World) (hd : a.eval d = u) (hx : a.eval x = v) (hrun : (Builtin.copy_ #[dT, sT] o.type #[u, v]).run P w = .ok r w') (hK : K (a.put o.dst r) w') : o.wp P a w K Q := by
  unfold Oper.wp
  simp [execOp, hop, resolve, invoke, builtin, hd, hx, hrun, Result.andThen]
  exact hK
theorem Below.blk {B : Nat} {a b : World} {g : Nat} {t : TypeId} {cs : List Value} (h : Below B a b) (hb : Blk a g t cs) (hg : g < B) : Blk b g t cs := (h.block g hg).trans hb
def putF (g : UInt32) (cmd pl : List UInt8) : List UInt8 := le4 g ++ ((cmd ++ List.replicate (12 - cmd.length) 0) ++ (le4 (UInt32.ofNat pl.length) ++ ((dblL pl).take 4 ++ pl)))
noncomputable def z12 : Array Value := match (Tryd.prog.info? 125).bind (·.zero) with | some (.agg c) => c | _ => #[]
theorem z12_zero (w : World) : (zeroValue 125).run Tryd.prog w = .ok (.agg z12) w := by kernel_rfl
theorem z12_list : z12.toList = (List.replicate 12 (0 : UInt8)).map u8v := by kernel_rfl
theorem z12_letter : ∃ zs : Array Value, (∀ w, (zeroValue 125).run Tryd.prog w = .ok (.agg zs) w) ∧ zs.toList = (List.replicate 12 (0 : UInt8)).map u8v ∧ zs.size = 12 ∧ ¬ zs = #[] :=
  ⟨z12, z12_zero, z12_list, by have h := congrArg List.length z12_list; simpa using h, fun e => by have h := z12_list; rw [e] at h; cases h⟩
set_option maxRecDepth 100000 in
set_option maxHeartbeats 8000000 in
theorem fput_any (g : UInt32) (cmd pl : List UInt8) (A : Option Addr) (n c : Nat) (w : World) (hn : pl.length = n) (hc : n ≤ c ∧ c ≤ maxLen) (hbig : n ≤ 4000000) (hcmd : cmdB cmd = true) (hr : Rd w A (pl.map u8v)) (hS : ShaOk w) :
    Calls Tryd.prog 32 #[u32v g, .agg #[.string (str cmd), .slice A n c]] w fun e w' => ∃ v, e = .returned (.tuple #[v, iv 0]) ∧ w'.ownsRow w.heap.size 5 1 v (24 + n) ((putF g cmd pl).map u8v) ∧ Keep w w' := by
  have CM : Hid (∀ y, Calls Tryd.prog 41 #[.string (str cmd)] y fun e w' => e = .returned (.bool true) ∧ Keep y w') := Lib.hid fun y => by
    have q := command_any cmd y
    rwa [hcmd] at q
  have hcl : 1 ≤ cmd.length ∧ cmd.length ≤ 12 := by
    simp only [cmdB, Bool.and_eq_true, decide_eq_true_eq] at hcmd
    exact ⟨hcmd.1.1, hcmd.1.2⟩
  have HP : Hid (putF g cmd pl = _) := Lib.hid (putF.eq_1 g cmd pl)
  generalize putF g cmd pl = BS at *
  obtain ⟨ds, hds⟩ : ∃ ds, HashA (dblL pl) ds := ⟨_, HashA.of (dblL_len _)⟩
  have HDL : Hid ((dblL pl).length = 32) := Lib.hid (dblL_len _)
  have DB : Hid (∀ y, Keep w y → Calls Tryd.prog 43 #[.slice A n c] y fun e w' => e = .returned (.agg ds) ∧ Keep y w') := Lib.hid fun y hy => by
    have q := double_any A pl c y (hS.keep hy) (hr.keep hy) (by omega) hc.2 (by omega)
    rw [hn, show hashV (dblL pl) = .agg ds from congrArg Value.agg hds.e] at q
    exact q
  have hdn := hds.n; have hdz := hds.z; have hdi := hds.i
  have HDS := Lib.hid hds
  generalize dblL pl = D at *
  obtain ⟨zs, hz0, hzl, hzz, hzn⟩ := z12_letter
  have HZL := Lib.hid hzl; have HCL := Lib.hid hcl; have HC := Lib.hid hc; have HR := Lib.hid hr; have HN := Lib.hid hn
  have d1 : decide ((4000000 : Int) < n) = false := decide_eq_false (by omega)
  have HB := Lib.hid hbig
  clear hcmd hc hr hS hn hds hzl hcl hbig
  go_enter Tryd.func32, Tryd.ntmps32
  go_upto_region 1 with fail
  obtain ⟨w0, hw0⟩ : ∃ y, y = w.alloc (.cells #[.string (str cmd), .slice A n c] 71) := ⟨_, rfl⟩
  have H3 : Hid (Blk w0 w.heap.size 71 [.string (str cmd), .slice A n c]) := by rw [hw0]; exact Lib.hid (Blk.new w _ [.string (str cmd), .slice A n c])
  have HK0 : Hid (Keep w w0) := by rw [hw0]; exact Lib.hid (keep_new _ _)
  rw [← hw0]
  clear hw0
  have r0 : w0.cell? ⟨w.heap.size, 0, none⟩ = some (.string (str cmd)) := (H3.out.cell 0).trans rfl
  go_upto_region 3 with (go_at_call 41; refine (CM.out _).mono ?_; rintro e w1 ⟨rfl, k1⟩; replace H3 := Lib.hid (H3.out.keep k1); have HK1 := Lib.hid (keep_trans HK0.out k1); clear k1)
  clear r0
  have r1 : w1.cell? ⟨w.heap.size, 1, none⟩ = some (.slice A n c) := (H3.out.cell 1).trans rfl
  go_upto_region 6 with fail
  obtain ⟨w2, hw2⟩ : ∃ y, y = w1.alloc (.cells zs 125) := ⟨_, rfl⟩
  have hk2 : Keep w1 w2 := by rw [hw2]; exact keep_new _ _
  have H6 : Hid (Blk w2 w1.heap.size 125 ((List.replicate 12 (0 : UInt8)).map u8v)) := by rw [hw2, ← HZL.out]; exact Lib.hid (Blk.new w1 _ zs.toList)
  rw [← hw2]
  clear hw2 r1 CM
  have hb6 : w.heap.size < w1.heap.size := H3.out.lt
  replace H3 := Lib.hid (H3.out.keep hk2)
  have HK2 := Lib.hid (keep_trans HK1.out hk2)
  clear hk2 HK0 HK1 d1
  generalize w1.heap.size = b6 at *
  letI iM : G.Mk := ⟨some b6⟩
  refine G.wp_region_tree (.take [0,1,2] (.force [3] .done)) [] (by kernel_rfl) (by kernel_rfl) (fun wa ka => ?_)
  have hne : G.Mk.m ≠ some w.heap.size := fun q => by have e : b6 = w.heap.size := Option.some.inj q; omega
  have r0 := G.aftG_cell (keep_cell ka (show w2.cell? ⟨w.heap.size, 0, none⟩ = some (.string (str cmd)) from (H3.out.cell 0).trans rfl)) hne
  have A3 := Lib.hid (H3.out.keep ka); have A6 := Lib.hid (H6.out.keep ka); have AK := Lib.hid (keep_trans HK2.out ka)
  clear ka H3 H6 HK2
  refine G.mt_take wa (G.Gr.refl _) ?_
  simp only [pick_cons, pick_nil, nth_zero, nth_succ]
  repeat (go_big_quiet_step (fail))
  clear r0 hne
  refine wpQuiet_nil (G.mt_force ?_)
  simp only [pick_cons, pick_nil, nth_zero, nth_succ]
  refine G.fc_step rfl (fun K hK => ?_)
  have hcl := HCL.out
  have hsz : (str cmd).size = cmd.length := rfl
  have hrun := run_copy_string (P := Tryd.prog) wa 26 9 3 5 b6 0 12 12 (str cmd) Tryd.underlying26 u8_size (by rw [hsz]; exact hcl.2) (fun j hj => by
    rw [Nat.zero_add, A6.out.cell, List.getElem?_eq_getElem (by rw [hsz] at hj; simp; omega)]; rfl) (fun j hj => A6.out.frozen _)
  have hdt : ((str cmd).data.toList.map fun x => Value.int .u8 (x.toNat : Int)) = cmd.map u8v := by
    show (cmd.toArray.toList.map fun x => Value.int .u8 (x.toNat : Int)) = cmd.map u8v
    simp
  rw [hdt] at hrun
  refine wp_copyR (.tmp 17) (.tmp 19) 26 9 rfl _ _ _ _ rfl rfl hrun ?_
  have hgr : wa.grownBy (wa.setCells b6 0 (cmd.map u8v)) (some b6) := grown_setCells _ _ _ _ (grown_refl _ _)
  have hB6 : Blk (wa.setCells b6 0 (cmd.map u8v)) b6 125 ((cmd ++ List.replicate (12 - cmd.length) 0).map u8v) := by
    have q := blk_setCells (cmd.map u8v) [] _ wa A6.out (by simp; exact hcl.2)
    have e : cmd.map u8v ++ ((List.replicate 12 (0 : UInt8)).map u8v).drop (cmd.map u8v).length = (cmd ++ List.replicate (12 - cmd.length) 0).map u8v := by
      rw [List.map_append, List.length_map, ← List.map_drop, List.drop_replicate]
    have q2 : Blk (wa.setCells b6 0 (cmd.map u8v)) b6 125 (cmd.map u8v ++ ((List.replicate 12 (0 : UInt8)).map u8v).drop (cmd.map u8v).length) := q
    rw [e] at q2
    exact q2
  refine hK _ _ (show G.Gr wa _ from hgr) ?_
  clear hK K hrun hdt
  obtain ⟨wb, hwb⟩ : ∃ y, y = wa.setCells b6 0 (cmd.map u8v) := ⟨_, rfl⟩
  rw [← hwb] at hgr hB6
  rw [← hwb]
  clear hwb
  have A3b : Hid (Blk wb w.heap.size 71 [.string (str cmd), .slice A n c]) := Lib.hid (A3.out.grown hgr (fun e => by injection e with e; omega))
  have AKb : Hid (Keep w wb) := Lib.hid (AK.out.grown hgr AK.out.size (fun q hq => by injection hq with hq; omega))
  have A6b := Lib.hid hB6
  clear hgr hB6 A3 A6 AK hcl hsz
  refine G.fc_nil (G.mt_end ?_)
  clear iM
  have r1 : wb.cell? ⟨w.heap.size, 1, none⟩ = some (.slice A n c) := (A3b.out.cell 1).trans rfl
  go_wp2_with fail
  refine (DB.out _ AKb.out).mono ?_
  clear DB r1
  rintro e w5 ⟨rfl, k5⟩
  replace A3b := Lib.hid (A3b.out.keep k5); replace A6b := Lib.hid (A6b.out.keep k5)
  have AK5 := Lib.hid (keep_trans AKb.out k5)
  obtain ⟨hz, hhz1, hhz2, hhz3, hhz4⟩ := zhash_letter
  have HDI := Lib.hid hdi; have HDC := Lib.hid hdz
  have hst : (storeCells ⟨w5.heap.size, 0, none⟩ ds.toList 0).run Tryd.prog (w5.alloc (.cells hz 39)) = .ok () (w5.alloc (.cells ds 39)) := run_storeCells_new (P := Tryd.prog) w5 39 hz ds HDI.out (hhz1.trans HDC.out.symm) (by have := all_oneCell_toArray HDS.out.o; simpa using this)
  clear k5 AKb hhz4
  go_upto_region 8 with fail
  obtain ⟨w6, hw⟩ : ∃ y, y = w5.alloc (.cells ds 39) := ⟨_, rfl⟩
  have hk6 : Keep w5 w6 := by rw [hw]; exact keep_new _ _
  have A7 : Hid (Blk w6 w5.heap.size 39 (D.map u8v)) := by rw [hw, ← HDS.out.l]; exact Lib.hid (Blk.new w5 _ ds.toList)
  rw [← hw]
  clear hst hw
  have hb7 : b6 < w5.heap.size := A6b.out.lt
  replace A3b := Lib.hid (A3b.out.keep hk6); replace A6b := Lib.hid (A6b.out.keep hk6)
  have AK6 := Lib.hid (keep_trans AK5.out hk6)
  clear hk6 AK5
  generalize w5.heap.size = b7 at *
  have r1 : w6.cell? ⟨w.heap.size, 1, none⟩ = some (.slice A n c) := (A3b.out.cell 1).trans rfl
  obtain ⟨w8, hmk, own8, k8, hs8⟩ := mk_bytes0 (24 + n) (by have := HB.out; omega) w6
  have hmk2 := hmk (24 + (n : Int)) (by omega)
  have hn63 : n ≤ 4000000 := HB.out
  clear hmk
  go_upto_region 9 with fail
  obtain ⟨B, hB⟩ : ∃ B, B = w6.heap.size := ⟨_, rfl⟩
  rw [← hB] at own8 hs8
  rw [← hB]
  have hbl8 : Below B w6 w8 := by rw [hB]; exact k8
  have hbB : w.heap.size < B ∧ b6 < B ∧ b7 < B := ⟨by rw [hB]; exact A3b.out.lt, by rw [hB]; exact A6b.out.lt, by rw [hB]; exact A7.out.lt⟩
  have BB := Lib.hid hbB
  have OW8 := Lib.hid own8; have BL8 := Lib.hid hbl8; have HS8 := Lib.hid hs8
  have hcv : IntKind.u32.wrap (n : Int) = ((UInt32.ofNat n).toNat : Int) := by
    rw [IntKind.wrap_u32, UInt32.toNat_ofNat']
    omega
  have HCV := Lib.hid hcv
  have BLW : Hid (∀ y, Below B w6 y → Keep w y) := Lib.hid fun y hy => AK6.out.trans (hy.mono (by have := BB.out.1; omega))
  have HSB : Hid (B ≤ w6.heap.size) := Lib.hid (Nat.le_of_eq hB)
  clear hmk2 hcv own8 hbl8 hbB hs8 k8 r1 hb7 hB
  have LNN10 : Hid (((cmd ++ List.replicate (12 - cmd.length) 0).map u8v).length = 12 * 1) := Lib.hid (by have := HCL.out; simp; omega)
  have LNN12 : Hid (((D.take 4).map u8v).length = 4 * 1) := Lib.hid (by have := HDL.out; simp [this])
  have LNN13 : Hid ((pl.map u8v).length = n * 1) := Lib.hid (by have := HN.out; simp [this])
  go_upto_region 10 with (go_at_call 54; refine (four_any B _ 0 [] w8 OW8.out (by have := BL8.out.size; have := HSB.out; omega) (by have := HB.out; omega) g).mono ?_; rintro e w9 ⟨v9, rfl, ow, gr⟩; have OW9 := Lib.hid ow; have BL9 := Lib.hid (BL8.out.trans (gr.below OW8.out (by have := BL8.out.size; have := HSB.out; omega))); clear ow gr)
  have RS10 := Lib.hid ((Below.blk BL9.out A6b.out BB.out.2.1).rd)
  go_upto_region 11 with (at_builtin; refine wpList_app byteT (by rfl) _ _ (by rfl) B _ (0 + 4) _ (by rfl) OW9.out (some ⟨b6, 0, none⟩) 12 12 ((cmd ++ List.replicate (12 - cmd.length) 0).map u8v) (by rfl) LNN10.out RS10.out (one_w8 _) (by have := HB.out; omega) (by unfold maxLen; have := HB.out; omega) (by have := BL9.out.size; have := HSB.out; omega) ?_; intro v10 w10 ow hg hat; have OW10 := Lib.hid ow; have BL10 := Lib.hid (BL9.out.trans ((Gr.app (Gr.refl w9 _) hg hat).below OW9.out (by have := BL9.out.size; have := HSB.out; omega))); clear ow hg hat)
  have r1 : w10.cell? ⟨w.heap.size, 1, none⟩ = some (.slice A n c) := ((Below.blk BL10.out A3b.out BB.out.1).cell 1).trans rfl
  have hcv := HCV.out
  have hu : u32v (UInt32.ofNat n) = .int .u32 (n : Int) := by
    unfold u32v
    rw [← HCV.out, IntWalk.u32_in _ (by have := HB.out; omega)]
  have F11 : Hid (Calls Tryd.prog 54 #[v10, .int .u32 (n : Int)] w10 (Apd B v10 (0 + 4 + 12 + 4) (([] ++ (le4 g).map u8v) ++ (cmd ++ List.replicate (12 - cmd.length) 0).map u8v ++ (le4 (UInt32.ofNat n)).map u8v) w10)) := Lib.hid (by
    have q := four_any B v10 (0 + 4 + 12) _ w10 OW10.out (by have := BL10.out.size; have := HSB.out; omega) (by have := HB.out; omega) (UInt32.ofNat n)
    rwa [hu] at q)
  clear hcv hu
  go_upto_region 12 with (go_at_call 54; refine F11.out.mono ?_; rintro e w11 ⟨v11, rfl, ow, gr⟩; have OW11 := Lib.hid ow; have BL11 := Lib.hid (BL10.out.trans (gr.below OW10.out (by have := BL10.out.size; have := HSB.out; omega))); clear ow gr)
  clear r1 F11
  have RS12 := Lib.hid ((show Rd w11 (some ⟨b7, 0, none⟩) ((D.take 4).map u8v) from by rw [List.map_take]; exact (Below.blk BL11.out A7.out BB.out.2.2).rd.take 4))
  go_upto_region 13 with (at_builtin; refine wpList_app byteT (by rfl) _ _ (by rfl) B _ (0 + 4 + 12 + 4) _ (by rfl) OW11.out (some ⟨b7, 0, none⟩) 4 32 ((D.take 4).map u8v) (by rfl) LNN12.out RS12.out (one_w8 _) (by have := HB.out; omega) (by unfold maxLen; have := HB.out; omega) (by have := BL11.out.size; have := HSB.out; omega) ?_; intro v12 w12 ow hg hat; have OW12 := Lib.hid ow; have BL12 := Lib.hid (BL11.out.trans ((Gr.app (Gr.refl w11 _) hg hat).below OW11.out (by have := BL11.out.size; have := HSB.out; omega))); clear ow hg hat)
  have r1 : w12.cell? ⟨w.heap.size, 1, none⟩ = some (.slice A n c) := ((Below.blk BL12.out A3b.out BB.out.1).cell 1).trans rfl
  have RS13 := Lib.hid ((HR.out.keep (BLW.out _ BL12.out)))
  go_wp2_with (at_builtin; refine wpList_app byteT (by rfl) _ _ (by rfl) B _ (0 + 4 + 12 + 4 + 4) _ (by rfl) OW12.out A n c (pl.map u8v) (by rfl) LNN13.out RS13.out (one_w8 _) (by have := HB.out; omega) (by unfold maxLen; have := HB.out; omega) (by have := BL12.out.size; have := HSB.out; omega) ?_; intro v13 w13 ow hg hat; have OW13 := Lib.hid ow; have BL13 := Lib.hid (BL12.out.trans ((Gr.app (Gr.refl w12 _) hg hat).below OW12.out (by have := BL12.out.size; have := HSB.out; omega))); clear ow hg hat)
  have hfin : (((([] ++ (le4 g).map u8v) ++ (cmd ++ List.replicate (12 - cmd.length) 0).map u8v) ++ (le4 (UInt32.ofNat n)).map u8v) ++ (D.take 4).map u8v) ++ pl.map u8v = BS.map u8v := by
    rw [HP.out, HN.out]
    simp
  exact bodyPost_ret (v := .tuple #[v13, iv 0]) (by simp [results, Tryd.results32]) rfl ⟨v13, rfl, own_eq (own_base OW13.out (by have := BB.out.1; omega)) (by omega) hfin, BLW.out _ BL13.out⟩
end Go.Proofs.YtffpanlpbdnafaaDoor

/- A frame that is put is got again, plainly. -/
set_option linter.unusedSimpArgs false
set_option linter.unusedVariables false
namespace Go.Proofs.YtffpanlpbdnafaaDoor
open Go.RowKit
theorem trimN_end (l : List UInt8) (k : Nat) : ∀ j, (∀ i, k ≤ i → i < k + j → l[i]? = some 0) → (k = 0 ∨ ∃ x, l[k - 1]? = some x ∧ x ≠ 0) → trimN l (k + j) = k
  | 0, _, hk => by
    rcases hk with rfl | ⟨x, h1, h2⟩
    · rfl
    · cases k with
      | zero => rfl
      | succ k =>
        show trimN l (k + 1) = k + 1
        unfold trimN
        rw [if_neg]
        rw [show k + 1 - 1 = k from rfl] at h1
        rw [h1]
        intro e
        exact h2 (Option.some.inj e)
  | j + 1, hz, hk => by
    show trimN l (k + j + 1) = k
    unfold trimN
    rw [if_pos (hz (k + j) (by omega) (by omega))]
    exact trimN_end l k j (fun i h1 h2 => hz i h1 (by omega)) hk
theorem putF_len {g : UInt32} {cmd pl : List UInt8} (hc : cmd.length ≤ 12) : (putF g cmd pl).length = 24 + pl.length := by
  have h1 : (le4 g).length = 4 := rfl
  have h2 : (le4 (UInt32.ofNat pl.length)).length = 4 := rfl
  have h3 := dblL_len pl
  simp [putF, h1, h2, h3]
  omega
theorem le4_lo (n : Nat) (h : n < 4294967296) : le4 (UInt32.ofNat n) = loN n 4 := by
  have ht : (UInt32.ofNat n).toNat = n := by rw [UInt32.toNat_ofNat']; omega
  have key : ∀ k, w8 (leE (UInt32.ofNat n) k) = UInt8.ofNat (n / 2 ^ (8 * k)) := fun k => by
    unfold w8 leE
    rw [ht]
    have e : ((n : Int) / 2 ^ (8 * k) % 256).toNat = n / 2 ^ (8 * k) % 256 := by
      have : ((n : Int) / 2 ^ (8 * k) % 256) = ((n / 2 ^ (8 * k) % 256 : Nat) : Int) := by
        rw [Int.natCast_emod, Int.natCast_ediv, Int.natCast_pow]
        exact rfl
      rw [this, Int.toNat_natCast]
    rw [e]
    apply UInt8.toNat_inj.1
    rw [UInt8.toNat_ofNat', UInt8.toNat_ofNat']
    omega
  unfold le4
  rw [key, key, key, key]
  rfl
theorem getF_put (g : UInt32) (most : Int) (cmd pl : List UInt8) (hc : cmdB cmd = true) (hp : pl.length ≤ 4000000) (hm : (pl.length : Int) ≤ bndF most) : getF g most (putF g cmd pl) = ((cmd, pl), 24 + pl.length, 0) := by
  have hcl : 1 ≤ cmd.length ∧ cmd.length ≤ 12 := by
    simp only [cmdB, Bool.and_eq_true, decide_eq_true_eq] at hc
    exact ⟨hc.1.1, hc.1.2⟩
  have hl := putF_len (g := g) (pl := pl) hcl.2
  obtain ⟨pad, hpad⟩ : ∃ pad, pad = cmd ++ List.replicate (12 - cmd.length) (0 : UInt8) := ⟨_, rfl⟩
  have hpl : pad.length = 12 := by rw [hpad]; simp; omega
  obtain ⟨sz, hsz⟩ : ∃ sz, sz = le4 (UInt32.ofNat pl.length) := ⟨_, rfl⟩
  have hsl : sz.length = 4 := by rw [hsz]; rfl
  obtain ⟨sm, hsm⟩ : ∃ sm, sm = (dblL pl).take 4 := ⟨_, rfl⟩
  have hml : sm.length = 4 := by rw [hsm, List.length_take, dblL_len]; rfl
  have hgl : (le4 g).length = 4 := rfl
  have e0 : putF g cmd pl = le4 g ++ (pad ++ (sz ++ (sm ++ pl))) := by rw [hpad, hsz, hsm]; rfl
  have d4 : (putF g cmd pl).drop 4 = pad ++ (sz ++ (sm ++ pl)) := by rw [e0, List.drop_left' hgl]
  have d16 : (putF g cmd pl).drop 16 = sz ++ (sm ++ pl) := by
    have : (putF g cmd pl).drop 16 = ((putF g cmd pl).drop 4).drop 12 := by rw [List.drop_drop]
    rw [this, d4, List.drop_left' hpl]
  have d20 : (putF g cmd pl).drop 20 = sm ++ pl := by
    have : (putF g cmd pl).drop 20 = ((putF g cmd pl).drop 16).drop 4 := by rw [List.drop_drop]
    rw [this, d16, List.drop_left' hsl]
  have d24 : (putF g cmd pl).drop 24 = pl := by
    have : (putF g cmd pl).drop 24 = ((putF g cmd pl).drop 20).drop 4 := by rw [List.drop_drop]
    rw [this, d20, List.drop_left' hml]
  have hcmd : gcmd (putF g cmd pl) = cmd := by
    unfold gcmd
    rw [d4, List.take_left' hpl]
    have ht : trimN pad 12 = cmd.length := by
      have q := trimN_end pad cmd.length (12 - cmd.length) (fun i h1 h2 => by rw [hpad, List.getElem?_append_right h1, List.getElem?_replicate, if_pos (by omega)]) (Or.inr (by
        have hlt : cmd.length - 1 < cmd.length := by omega
        refine ⟨cmd[cmd.length - 1], by rw [hpad, List.getElem?_append_left hlt, List.getElem?_eq_getElem hlt], fun e => ?_⟩
        simp only [cmdB, Bool.and_eq_true, List.all_eq_true, decide_eq_true_eq] at hc
        have := (hc.2 _ (List.getElem_mem hlt)).1
        rw [e] at this
        exact absurd this (by decide)))
      rw [show cmd.length + (12 - cmd.length) = 12 from by omega] at q
      exact q
    rw [ht, hpad, List.append_assoc, List.take_left' rfl]
  have hsize : gsize (putF g cmd pl) = pl.length := by
    unfold gsize
    rw [d16, hsz, le4_lo _ (by omega), numN_lo _ _ 4 4 (Nat.le_refl _)]
    exact Nat.mod_eq_of_lt (by omega)
  have hgpl : gpl (putF g cmd pl) = pl := by
    unfold gpl
    rw [hsize, d24, List.take_of_length_le (Nat.le_refl _)]
  unfold getF
  rw [if_neg, if_neg (by rw [hl]; omega), if_neg (by rw [hcmd, hc]; decide), if_neg (by rw [hsize]; omega), if_neg (by rw [hl, hsize]; omega), if_neg, hcmd, hgpl, hsize]
  · rw [hgpl, d20, List.take_left' hml, hsm]
    exact fun h => h rfl
  · rw [e0, List.take_left' hgl, List.take_of_length_le (by rw [← e0, hl, hgl]; omega)]
    exact fun h => h rfl
theorem evs_put (g : UInt32) (most : Int) (cmd pl : List UInt8) (hc : cmdB cmd = true) (hp : pl.length ≤ 4000000) (hm : (pl.length : Int) ≤ bndF most) : evs g most (putF g cmd pl) = [((cmd, pl), 0), (([], []), 1)] := by
  have hcl : cmd.length ≤ 12 := by
    simp only [cmdB, Bool.and_eq_true, decide_eq_true_eq] at hc
    exact hc.1.2
  have hl := putF_len (g := g) (pl := pl) hcl
  have hg := getF_put g most cmd pl hc hp hm
  unfold evs
  rw [hl, show 24 + pl.length + 1 = (23 + pl.length) + 1 + 1 from by omega]
  rw [evL, hg]
  simp only [if_true]
  rw [← hl, List.drop_length, evL]
  have hn : getF g most [] = (([], []), 0, 1) := by
    unfold getF
    rw [if_neg (by simp), if_pos (by simp)]
  rw [hn]
  rfl
theorem le4_injR {a b : UInt32} (h : le4 a = le4 b) : a = b := by
  have key : ∀ x : UInt32, le4 x = loN x.toNat 4 := fun x => by
    have q := le4_lo x.toNat x.toNat_lt
    rwa [UInt32.ofNat_toNat] at q
  rw [key, key] at h
  have q1 := numN_lo a.toNat [] 4 4 (Nat.le_refl _)
  have q2 := numN_lo b.toNat [] 4 4 (Nat.le_refl _)
  rw [h, q2] at q1
  have ha := a.toNat_lt; have hb := b.toNat_lt
  apply UInt32.toNat_inj.1
  rw [Nat.mod_eq_of_lt (show b.toNat < 2 ^ (8 * 4) from hb), Nat.mod_eq_of_lt (show a.toNat < 2 ^ (8 * 4) from ha)] at q1
  exact q1.symm
theorem evs_other (g o : UInt32) (most : Int) (cmd pl : List UInt8) (hc : cmdB cmd = true) (hne : o ≠ g) : evs o most (putF g cmd pl) = [(([], []), 5)] := by
  have hcl : cmd.length ≤ 12 := by
    simp only [cmdB, Bool.and_eq_true, decide_eq_true_eq] at hc
    exact hc.1.2
  have hl := putF_len (g := g) (pl := pl) hcl
  have hg : getF o most (putF g cmd pl) = (([], []), 0, 5) := by
    unfold getF
    rw [if_pos]
    intro h
    rw [List.take_of_length_le (l := le4 o) (by rw [hl]; show 4 ≤ _; omega)] at h
    have e0 : putF g cmd pl = le4 g ++ ((cmd ++ List.replicate (12 - cmd.length) 0) ++ (le4 (UInt32.ofNat pl.length) ++ ((dblL pl).take 4 ++ pl))) := rfl
    rw [e0, List.take_left' (show (le4 g).length = 4 from rfl)] at h
    exact hne (le4_injR h).symm
  unfold evs
  rw [evL, hg]
  rfl
end Go.Proofs.YtffpanlpbdnafaaDoor

/- What frame.Feed's own variables hold between two rounds. -/
set_option linter.unusedSimpArgs false
set_option linter.unusedVariables false
namespace Go.Proofs.YtffpanlpbdnafaaDoor
open Go.RowKit
def EvR.mcells (x : EvR) : List Value := [.string (str x.c), .slice x.P x.p.length x.pc]
def outE (all : List UInt8) (E : List Ev) : List UInt8 × Int := match E.getLast? with
  | some y => if y.2 = 0 then ([], 0) else if y.2 = 1 then (all.drop (cnsE (okE E)), 0) else ([], y.2)
  | none => ([], 0)
def okR (l : List EvR) : List EvR := l.filter fun x => x.e == 0
def rstE (all : List UInt8) (pre : List EvR) : List UInt8 := all.drop (cnsE (okE (pre.map EvR.ev)))
def Stp (B bb : Nat) (W W' : World) : Prop := ∃ row, W.grownBy W' row ∧ ∀ r, row = some r → r = bb ∨ (B ≤ r ∧ ∃ o : Obj, W.heap[r]? = some o ∧ o.isCells = false)
section
variable {B bb : Nat} {W W' : World}
theorem Stp.blk (h : Stp B bb W W') {k : Nat} {o : Obj} (ho : W.heap[k]? = some o) (hc : o.isCells = true) (hk : k ≠ bb) : W'.heap[k]? = W.heap[k]? := by
  obtain ⟨row, hg, hr⟩ := h
  refine hg.block k (Array.getElem?_eq_some_iff.1 ho).1 (fun e => ?_)
  rcases hr k e.symm with rfl | ⟨_, o', h1, h2⟩
  · exact hk rfl
  · rw [ho] at h1; cases h1; rw [hc] at h2; cases h2
theorem Stp.cell (h : Stp B bb W W') {b o : Nat} {v : Value} (hc : W.cell? ⟨b, o, none⟩ = some v) (hb : b ≠ bb) : W'.cell? ⟨b, o, none⟩ = some v := by
  obtain ⟨ob, h1, h2⟩ := cells_of_cell hc
  exact (World.cell?_of_block (h.blk h1 h2 hb)).trans hc
theorem Stp.Blk (h : Stp B bb W W') {k : Nat} {t : TypeId} {cs : List Value} (hb : Blk W k t cs) (hk : k ≠ bb) : Blk W' k t cs := (h.blk hb rfl hk).trans hb
theorem Stp.kx (h : Stp B bb W W') {X : Nat → Prop} (hX : X bb) {w0 : World} (hk : KX B X w0 W) : KX B X w0 W' := by
  obtain ⟨row, hg, hr⟩ := h
  refine ⟨hg.os.trans hk.os, hg.tape.trans hk.tape, hg.output.trans hk.output, Nat.le_trans hk.size hg.size, fun k h1 h2 h3 => (hg.block k (Nat.lt_of_lt_of_le h2 hk.size) (fun e => ?_)).trans (hk.block k h1 h2 h3)⟩
  rcases hr k e.symm with rfl | ⟨h4, _⟩
  · exact h3 hX
  · omega
theorem Stp.rdx (h : Stp B bb W W') (hB : bb < B) {row : Option Nat} {A : Option Addr} {xs : List Value} {n : Nat} (hr : RdX row W A xs) (hf : FreshA B A n) (hn : n = 0 → xs = []) : RdX row W' A xs := by
  rcases hr with rfl | ⟨b, off, rfl, h2, h3⟩
  · exact .inl rfl
  · rcases hf with h0 | ⟨b', off', e, hb⟩
    · exact .inl (hn h0)
    · cases e
      exact .inr ⟨b, off, rfl, h2, fun j hj => h.cell (h3 j hj) (by omega)⟩
theorem Stp.own (h : Stp B bb W W') (hB : bb < B) {e : TypeId} {size : Nat} {v : Value} {n : Nat} {xs : List Value} (ho : W.ownsRow B e size v n xs) : W'.ownsRow B e size v n xs := by
  refine ⟨ho.1, ?_⟩
  rcases ho.2 with h1 | ⟨g, cap, cur, rfl, hb, hg, h4⟩
  · exact .inl h1
  · exact .inr ⟨g, cap, cur, rfl, hb, (h.blk hg rfl (by omega)).trans hg, h4⟩
end
def FdI (g : UInt32) (n : Int) (cl : List UInt8) (B b6 b7 b8 bb : Nat) (w7 : World) (pre : List EvR) (W : World) : Prop :=
  ∃ (A' : Option Addr) (c' : Nat) (L : Option Addr) (lc : Nat) (RA : Option Addr) (rc : Nat),
    KX B (fun k => (k = b6 ∨ k = b7 ∨ k = b8) ∨ k = bb) w7 W ∧
    (((rstE cl pre).length ≤ c' ∧ c' ≤ maxLen) ∧ Blk W b6 26 [.slice A' (rstE cl pre).length c'] ∧ ∀ y, KX B (fun k => (k = b6 ∨ k = b7 ∨ k = b8) ∨ k = bb) w7 y → Rd y A' ((rstE cl pre).map u8v)) ∧
    (Blk W b8 101 [.slice L (okR pre).length lc] ∧ W.ownsRow B 71 2 (.slice L (okR pre).length lc) (okR pre).length ((okR pre).flatMap EvR.mcells)) ∧
    (∀ x ∈ okR pre, (x.p.length ≤ x.pc ∧ x.pc ≤ maxLen) ∧ RdX (Value.slice L (okR pre).length lc).ownBlock W x.P (x.p.map u8v) ∧ FreshA B x.P x.p.length) ∧
    (Blk W b7 29 (bufL g n RA (outE cl (pre.map EvR.ev)).1.length rc (outE cl (pre.map EvR.ev)).2) ∧ ((outE cl (pre.map EvR.ev)).1.length ≤ rc ∧ rc ≤ maxLen) ∧ RdX none W RA ((outE cl (pre.map EvR.ev)).1.map u8v) ∧ FreshA B RA (outE cl (pre.map EvR.ev)).1.length)
theorem FdI.stp {g : UInt32} {n : Int} {cl : List UInt8} {B b6 b7 b8 bb : Nat} {w7 : World} {pre : List EvR} {W W' : World} (hB : bb < B) (hb : b6 ≠ bb ∧ b7 ≠ bb ∧ b8 ≠ bb) (h : FdI g n cl B b6 b7 b8 bb w7 pre W) (hs : Stp B bb W W') : FdI g n cl B b6 b7 b8 bb w7 pre W' := by
  obtain ⟨A', c', L, lc, RA, rc, h1, ⟨h2, h3, h4⟩, ⟨h5, h6⟩, h7, h8, h9, h10, h11⟩ := h
  refine ⟨A', c', L, lc, RA, rc, hs.kx (Or.inr rfl) h1, ⟨h2, hs.Blk h3 hb.1, h4⟩, ⟨hs.Blk h5 hb.2.2, hs.own hB h6⟩, fun x hx => ?_, hs.Blk h8 hb.2.1, h9, ?_, h11⟩
  · obtain ⟨q1, q2, q3⟩ := h7 x hx
    exact ⟨q1, hs.rdx hB q2 q3 (fun e => by rw [List.eq_nil_of_length_eq_zero e]; rfl), q3⟩
  · exact hs.rdx hB h10 h11 (fun e => by rw [List.eq_nil_of_length_eq_zero e]; rfl)
end Go.Proofs.YtffpanlpbdnafaaDoor

/- frame.Get of nothing, frame.Sane where nothing is left; peer.Sane, taken. -/
set_option linter.unusedSimpArgs false
set_option linter.unusedVariables false
namespace Go.Proofs.YtffpanlpbdnafaaDoor
open Go.RowKit
attribute [local go_sem ↓] Go.wp_at_zero Go.wp_at_succ
theorem fmsg_info : (Tryd.prog.info? 71).map (·.size) = some 2 := by kernel_rfl
noncomputable def zfmsg : Array Value := match (Tryd.prog.info? 71).bind (·.zero) with | some (.agg c) => c | _ => #[]
theorem zfmsg_zero (w : World) : (zeroValue 71).run Tryd.prog w = .ok (.agg zfmsg) w := by kernel_rfl
theorem zfmsg_size : zfmsg.size = 2 := by kernel_rfl
theorem zfmsg_one : ∀ v ∈ zfmsg.toList, v.oneCell' = true := by
  have h : (zfmsg.toList.all fun v => v.oneCell') = true := by kernel_rfl
  exact fun v hv => List.all_eq_true.1 h v hv
theorem zfmsg_letter : ∃ zs : Array Value, (∀ w, (zeroValue 71).run Tryd.prog w = .ok (.agg zs) w) ∧ zs.size = 2 ∧ ¬ zs = #[] ∧ (∀ v ∈ zs.toList, v.oneCell' = true) :=
  ⟨zfmsg, zfmsg_zero, zfmsg_size, (fun h => by have := zfmsg_size; rw [h] at this; cases this), zfmsg_one⟩
set_option maxRecDepth 100000 in
set_option maxHeartbeats 4000000 in
theorem get_nil (g : UInt32) (n : Int) (A : Option Addr) (c : Nat) (w : World) :
    Calls Tryd.prog 18 #[u32v g, iv n, .slice A 0 c] w fun e w' => ∃ v, e = .returned (.tuple #[v, iv 0, iv 1]) ∧ (∃ zs : Array Value, v = .agg zs ∧ zs.size = 2 ∧ ¬ zs = #[] ∧ (∀ u ∈ zs.toList, u.oneCell' = true)) ∧ Keep w w' := by
  obtain ⟨zs, hz0, hzz, hzn, hzo⟩ := zfmsg_letter
  have HZO := Lib.hid hzo
  clear hzo
  go_enter Tryd.func18, Tryd.ntmps18
  go_wp2_with fail
  go_loopw [19] (fun i wr => i = .int .i64 0 ∧ Blk wr w.heap.size 71 zs.toList ∧ Keep w wr) (fun i _ => 0)
  case atStart => exact ⟨rfl, Blk.new w 71 zs.toList, keep_new w _⟩
  case round =>
    obtain ⟨rfl, hb, hkr⟩ := hrel
    have HB := Lib.hid hb
    have HK := Lib.hid hkr
    obtain ⟨w8, hst8, hb8, hg8⟩ := run_store_blk (P := Tryd.prog) zs.toList hb rfl HZO.out
    have Hb8 := Lib.hid hb8; have Hg8 := Lib.hid hg8
    clear hb8 hg8 hb hkr
    go_wp2
    exact bodyPost_ret (v := .tuple #[.agg zs, iv 0, iv 1]) (results_cell_tmp_tmp Tryd.results18 _ _ w.heap.size _ _ _ _ rfl Hb8.out Tryd.underlying71 rfl (by rw [List.size_toArray, Array.length_toList, hzz]; exact fmsg_info)) rfl ⟨_, rfl, ⟨zs, rfl, hzz, hzn, HZO.out⟩, HK.out.grown Hg8.out HK.out.size (fun q hq => by injection hq with hq; omega)⟩
def fsaneB (c : Int) : Bool := decide (c = bndF c)
set_option maxRecDepth 100000 in
set_option maxHeartbeats 4000000 in
theorem fsane_nil (g : UInt32) (n : Int) (A : Option Addr) (c : Nat) (b : Int) (bs : Array Value) (h : BuA (bufL g n A 0 c b) bs) (w : World) :
    Calls Tryd.prog 29 #[.agg bs] w fun e w' => e = .returned (.bool (fsaneB n)) ∧ Keep w w' := by
  have BN : Hid (∀ y, Calls Tryd.prog 42 #[iv n] y fun e w' => e = .returned (iv (bndF n)) ∧ Keep y w') := Lib.hid fun y => bounded_any n y
  have GN : Hid (∀ y, Calls Tryd.prog 18 #[u32v g, iv n, .slice A 0 c] y fun e w' => ∃ v, e = .returned (.tuple #[v, iv 0, iv 1]) ∧ (∃ zs : Array Value, v = .agg zs ∧ zs.size = 2 ∧ ¬ zs = #[] ∧ (∀ u ∈ zs.toList, u.oneCell' = true)) ∧ Keep y w') := Lib.hid fun y => get_nil g n A c y
  obtain ⟨zm, hz0, hzz, hzn, hzo⟩ := zfmsg_letter
  have hbn := h.n; have hbz := h.z; have hbi := h.i
  have HA := Lib.hid h
  have HF : Hid (fsaneB n = decide (n = bndF n)) := Lib.hid rfl
  generalize fsaneB n = F at *
  generalize bndF n = B at *
  clear h hzo
  obtain ⟨d, hd⟩ : ∃ d, (n != B) = d := ⟨_, rfl⟩
  have hF : F = !d := by rw [HF.out, ← hd]; simp [bne]; by_cases e : n = B <;> simp [e]
  obtain ⟨p, hp⟩ : ∃ p, (b != 0) = p := ⟨_, rfl⟩
  clear HF
  go_enter Tryd.func29, Tryd.ntmps29
  go_upto_region 1 with fail
  obtain ⟨w1, hw1⟩ : ∃ w1, w1 = w.alloc (.cells bs 29) := ⟨_, rfl⟩
  have HB1 : Hid (Blk w1 w.heap.size 29 (bufL g n A 0 c b)) := by rw [hw1, ← HA.out.l]; exact Lib.hid (Blk.new w _ bs.toList)
  have HK1 : Hid (Keep w w1) := by rw [hw1]; exact Lib.hid (keep_new _ _)
  rw [← hw1]
  clear hw1
  refine wp_region_tree (.take [0,1,2,3] (.force [4] (.take [5] .done))) [] (by kernel_rfl) (by kernel_rfl) (fun w9 k9 => ?_)
  have HB9 := Lib.hid (HB1.out.keep k9)
  have HK9 := Lib.hid (keep_trans HK1.out k9)
  have q1 := aft_cell (HB9.out.cell 1)
  clear HB1 HK1 k9
  refine mt_take w9 (Below.refl _ _) ?_
  simp only [pick_cons, pick_nil, nth_zero, nth_succ]
  repeat (go_big_quiet_step (fail))
  refine wpQuiet_nil (mt_force ?_)
  simp only [pick_cons, pick_nil, nth_zero, nth_succ]
  refine fc_step rfl (fun K hK => ?_)
  go_simp
  (with_reducible refine (BN.out _).mono ?_)
  rintro e w2 ⟨rfl, k2⟩
  refine hK _ _ k2 ?_
  clear hK K BN
  have HB2 := Lib.hid (HB9.out.keep k2)
  have HK2 := Lib.hid (keep_trans HK9.out k2)
  clear HB9 HK9 k2 q1
  refine fc_nil (mt_take w2 (Below.refl _ _) ?_)
  simp only [pick_cons, pick_nil, nth_zero, nth_succ]
  repeat (go_big_quiet_step (fail))
  refine wpQuiet_nil (mt_end ?_)
  have r0 : w2.cell? ⟨w.heap.size, 0, none⟩ = some (u32v g) := (HB2.out.cell 0).trans rfl
  have r1 : w2.cell? ⟨w.heap.size, 1, none⟩ = some (iv n) := (HB2.out.cell 1).trans rfl
  have r2 : w2.cell? ⟨w.heap.size, 2, none⟩ = some (.slice A 0 c) := (HB2.out.cell 2).trans rfl
  have r3 : w2.cell? ⟨w.heap.size, 3, none⟩ = some (iv b) := (HB2.out.cell 3).trans rfl
  cases d
  · cases p
    · go_wp2_with fail
      refine (GN.out _).mono ?_
      clear GN r0 r1 r2 r3
      rintro e w3 ⟨v, rfl, ⟨zs, rfl, hvz, hvn, hvo⟩, k3⟩
      have HK3 := Lib.hid (keep_trans HK2.out k3)
      clear HK2 k3 HB2
      have hst : ∀ ww : World, (storeCells ⟨ww.heap.size, 0, none⟩ zs.toList 0).run Tryd.prog (ww.alloc (.cells zm 71)) = .ok () (ww.alloc (.cells zs 71)) := fun ww =>
        run_storeCells_new (P := Tryd.prog) ww 71 zm zs (by rw [hvz]; exact fmsg_info) (by rw [hzz, hvz]) (by have := all_oneCell_toArray hvo; rwa [Array.toArray_toList] at this)
      clear hvo
      go_wp2
      exact bodyPost_ret (v := .bool F) (by simp [results, Tryd.results29, hF]) rfl ⟨rfl, keep_trans HK3.out (keep_new _ _)⟩
    · go_wp2
      exact bodyPost_ret (v := .bool F) (by simp [results, Tryd.results29, hF]) rfl ⟨rfl, HK2.out⟩
  · go_wp2
    exact bodyPost_ret (v := .bool F) (by simp [results, Tryd.results29, hF]) rfl ⟨rfl, HK2.out⟩
end Go.Proofs.YtffpanlpbdnafaaDoor

/- peer.Sane, taken (where nothing is left of a stream). -/
set_option linter.unusedSimpArgs false
set_option linter.unusedVariables false
namespace Go.Proofs.YtffpanlpbdnafaaDoor
open Go.RowKit
attribute [local go_sem ↓] Go.wp_at_zero Go.wp_at_succ
def saneP (p : PeR) : Bool := decide (0 ≤ p.stage ∧ p.stage ≤ 3) && decide (0 ≤ p.misses ∧ p.misses ≤ 3) && (decide (0 ≤ p.until_) && !decide (1099511627776 < p.until_)) && (!p.asked || p.stage == 2) && fsaneB p.cap
set_option maxRecDepth 100000 in
set_option maxHeartbeats 4000000 in
theorem psane_any (p : PeR) (cs : Array Value) (hA : PeA p cs) (hr : p.rs = []) (w : World) :
    Calls Tryd.prog 12 #[.agg cs] w fun e w' => e = .returned (.bool (saneP p)) ∧ Keep w w' := by
  obtain ⟨bs, hbs⟩ : ∃ bs, BuA (bufL p.magic p.cap p.rA 0 p.rc p.bad) bs := ⟨_, BuA.of ..⟩
  have FS : Hid (∀ y, Calls Tryd.prog 29 #[.agg bs] y fun e w' => e = .returned (.bool (fsaneB p.cap)) ∧ Keep y w') := Lib.hid fun y => fsane_nil _ _ _ _ _ bs hbs y
  have hcn := hA.n; have hcz := hA.z; have hci := hA.i
  have hbn := hbs.n; have hbz := hbs.z; have hbi := hbs.i
  have HS : Hid (saneP p = (decide (0 ≤ p.stage ∧ p.stage ≤ 3) && decide (0 ≤ p.misses ∧ p.misses ≤ 3) && (decide (0 ≤ p.until_) && !decide (1099511627776 < p.until_)) && (!p.asked || p.stage == 2) && fsaneB p.cap)) := Lib.hid rfl
  have HA := Lib.hid hA
  have HBC : Hid (p.cells = [iv p.stage, u64v p.nonce, u32v p.height, .bool p.asked, iv p.until_, iv p.misses] ++ bs.toList) := by
    rw [hbs.l]; unfold PeR.cells bufL; rw [hr]; exact Lib.hid rfl
  clear hA hbs hr
  generalize saneP p = S at *
  generalize fsaneB p.cap = F at *
  go_enter Tryd.func12, Tryd.ntmps12
  go_upto_region 1 with fail
  obtain ⟨w1, hw1⟩ : ∃ w1, w1 = w.alloc (.cells cs 31) := ⟨_, rfl⟩
  have HB1 : Hid (Blk w1 w.heap.size 31 p.cells) := by rw [hw1, ← HA.out.l]; exact Lib.hid (Blk.new w _ cs.toList)
  have HK1 : Hid (Keep w w1) := by rw [hw1]; exact Lib.hid (keep_new _ _)
  rw [← hw1]
  clear hw1
  have r0 : w1.cell? ⟨w.heap.size, 0, none⟩ = some (iv p.stage) := (HB1.out.cell 0).trans rfl
  have r3 : w1.cell? ⟨w.heap.size, 3, none⟩ = some (.bool p.asked) := (HB1.out.cell 3).trans rfl
  have r4 : w1.cell? ⟨w.heap.size, 4, none⟩ = some (iv p.until_) := (HB1.out.cell 4).trans rfl
  have r5 : w1.cell? ⟨w.heap.size, 5, none⟩ = some (iv p.misses) := (HB1.out.cell 5).trans rfl
  have RB : Hid (w1.rangeAt w.heap.size 6 bs.toList) := Lib.hid (range_of HB1.out 6 bs.toList (by rw [HBC.out]; simp [List.take_of_length_le]))
  clear HB1 HBC
  generalize p.stage = st at *
  generalize p.asked = ak at *
  generalize p.until_ = un at *
  generalize p.misses = mi at *
  by_cases h0 : st < 0
  · have hS : S = false := by rw [HS.out, show decide (0 ≤ st ∧ st ≤ 3) = false from by simp; omega]; rfl
    go_wp2
    exact bodyPost_ret (v := .bool false) (by simp [results, Tryd.results12]) rfl ⟨by first | rfl | rw [hS], HK1.out⟩
  by_cases h1 : 3 < st
  · have hS : S = false := by rw [HS.out, show decide (0 ≤ st ∧ st ≤ 3) = false from by simp; omega]; rfl
    go_wp2
    exact bodyPost_ret (v := .bool false) (by simp [results, Tryd.results12]) rfl ⟨by first | rfl | rw [hS], HK1.out⟩
  have e1 : decide (0 ≤ st ∧ st ≤ 3) = true := by rw [decide_eq_true_eq]; omega
  by_cases h2 : mi < 0
  · have hS : S = false := by rw [HS.out, e1, show decide (0 ≤ mi ∧ mi ≤ 3) = false from by simp; omega]; rfl
    go_wp2
    exact bodyPost_ret (v := .bool false) (by simp [results, Tryd.results12]) rfl ⟨by first | rfl | rw [hS], HK1.out⟩
  by_cases h3 : 3 < mi
  · have hS : S = false := by rw [HS.out, e1, show decide (0 ≤ mi ∧ mi ≤ 3) = false from by simp; omega]; rfl
    go_wp2
    exact bodyPost_ret (v := .bool false) (by simp [results, Tryd.results12]) rfl ⟨by first | rfl | rw [hS], HK1.out⟩
  have e2 : decide (0 ≤ mi ∧ mi ≤ 3) = true := by rw [decide_eq_true_eq]; omega
  by_cases h4 : un < 0
  · have hS : S = false := by rw [HS.out, e1, e2, show decide (0 ≤ un) = false from by simp; omega]; rfl
    go_wp2
    exact bodyPost_ret (v := .bool false) (by simp [results, Tryd.results12]) rfl ⟨by first | rfl | rw [hS], HK1.out⟩
  have e4 : decide (0 ≤ un) = true := by rw [decide_eq_true_eq]; omega
  obtain ⟨u, hu⟩ : ∃ u, decide (1099511627776 < un) = u := ⟨_, rfl⟩
  have HS2 : Hid (S = (!u && (!ak || st == 2) && F)) := by rw [HS.out, e1, e2, e4, hu]; exact Lib.hid (by simp)
  clear HS e1 e2 e4
  cases u
  · by_cases hk : ak = true
    · subst hk
      by_cases h6 : st = 2
      · subst h6
        go_wp2_with ((with_reducible refine load_partg w.heap.size 6 bs (Eq.trans ?_ rfl) RB.out _ Tryd.underlying29 rfl hbi rfl ?_); rfl)
        refine (FS.out _).mono ?_
        clear FS r0 r3 r4 r5
        rintro e w3 ⟨rfl, k3⟩
        have HK3 := Lib.hid (keep_trans HK1.out k3)
        clear k3
        go_wp2
        exact bodyPost_ret (v := .bool F) (by simp [results, Tryd.results12]) rfl ⟨by rw [HS2.out]; simp, HK3.out⟩
      · have d6 : (st != 2) = true := by simpa [bne_iff_ne] using h6
        have hS : S = false := by rw [HS2.out]; simp [h6]
        clear h6
        go_wp2
        exact bodyPost_ret (v := .bool false) (by simp [results, Tryd.results12]) rfl ⟨by first | rfl | rw [hS], HK1.out⟩
    · have hk : ak = false := by simpa using hk
      subst hk
      go_wp2_with ((with_reducible refine load_partg w.heap.size 6 bs (Eq.trans ?_ rfl) RB.out _ Tryd.underlying29 rfl hbi rfl ?_); rfl)
      refine (FS.out _).mono ?_
      clear FS r0 r3 r4 r5
      rintro e w3 ⟨rfl, k3⟩
      have HK3 := Lib.hid (keep_trans HK1.out k3)
      clear k3
      go_wp2
      exact bodyPost_ret (v := .bool F) (by simp [results, Tryd.results12]) rfl ⟨by rw [HS2.out]; simp, HK3.out⟩
  · have hS : S = false := by rw [HS2.out]; rfl
    go_wp2
    exact bodyPost_ret (v := .bool false) (by simp [results, Tryd.results12]) rfl ⟨by first | rfl | rw [hS], HK1.out⟩
end Go.Proofs.YtffpanlpbdnafaaDoor

/- peer.taken (where nothing is left of a stream). -/
set_option linter.unusedSimpArgs false
set_option linter.unusedVariables false
namespace Go.Proofs.YtffpanlpbdnafaaDoor
open Go.RowKit
attribute [local go_sem ↓] Go.wp_at_zero Go.wp_at_succ
def takenP (p : PeR) : PeR := if saneP p then p else newP p.magic p.cap
set_option maxRecDepth 100000 in
set_option maxHeartbeats 4000000 in
theorem ptaken_any (p : PeR) (cs : Array Value) (hA : PeA p cs) (hr : p.rs = []) (w : World) :
    Calls Tryd.prog 26 #[.agg cs] w fun e w' => ∃ ds, e = .returned (.agg ds) ∧ PeA (takenP p) ds ∧ Keep w w' := by
  obtain ⟨zs, hz0, hzA⟩ := zpeer_letter
  have PS : Hid (∀ y, Calls Tryd.prog 12 #[.agg cs] y fun e w' => e = .returned (.bool (saneP p)) ∧ Keep y w') := Lib.hid fun y => psane_any p cs hA hr y
  have PN : Hid (∀ y, Calls Tryd.prog 9 #[u32v p.magic, iv p.cap] y fun e w' => ∃ ps, e = .returned (.agg ps) ∧ PeA (newP p.magic p.cap) ps ∧ Keep y w') := Lib.hid fun y => pnew_any _ _ y
  have HT : Hid (takenP p = if saneP p then p else newP p.magic p.cap) := Lib.hid rfl
  have hcn := hA.n; have hcz := hA.z; have hci := hA.i
  have hzn := hzA.n; have hzz := hzA.z
  have HA := Lib.hid hA; have HZ := Lib.hid hzA
  clear hA hzA hr
  generalize takenP p = T at *
  generalize saneP p = S at *
  generalize newP p.magic p.cap = N at *
  go_enter Tryd.func26, Tryd.ntmps26
  go_upto_region 1 with fail
  obtain ⟨w1, hw1⟩ : ∃ w1, w1 = (w.alloc (.cells cs 31)).alloc (.cells zs 31) := ⟨_, rfl⟩
  have HB1 : Hid (Blk w1 w.heap.size 31 cs.toList) := by rw [hw1]; exact Lib.hid ((Blk.new w _ cs.toList).alloc _)
  have HR1 : Hid (Blk w1 (w.heap.size + 1) 31 zs.toList) := by
    rw [hw1]
    have h2 := Blk.new (w.alloc (.cells cs 31)) 31 zs.toList
    rw [World.size_alloc] at h2
    exact Lib.hid h2
  have HK1 : Hid (Keep w w1) := by rw [hw1]; exact Lib.hid (keep_trans (keep_new _ _) (keep_new _ _))
  rw [← hw1]
  clear hw1
  go_wp2_with ((with_reducible refine load_arr w.heap.size cs (Eq.trans ?_ rfl) HB1.out _ Tryd.underlying31 rfl hci ?_); rfl)
  refine (PS.out _).mono ?_
  clear PS
  rintro e w2 ⟨rfl, k2⟩
  have HB2 := Lib.hid (HB1.out.keep k2)
  have HR2 := Lib.hid (HR1.out.keep k2)
  have HK2 := Lib.hid (keep_trans HK1.out k2)
  clear k2 HB1 HR1 HK1
  have HBp : Hid (Blk w2 w.heap.size 31 p.cells) := by rw [← HA.out.l]; exact HB2
  cases S
  · have r6 : w2.cell? ⟨w.heap.size, 6, none⟩ = some (u32v p.magic) := (HBp.out.cell 6).trans rfl
    have r7 : w2.cell? ⟨w.heap.size, 7, none⟩ = some (iv p.cap) := (HBp.out.cell 7).trans rfl
    go_wp2_with fail
    refine (PN.out _).mono ?_
    clear PN r6 r7
    rintro e w3 ⟨ps, rfl, hpA, k3⟩
    have hpn := hpA.n; have hpz := hpA.z; have hpi := hpA.i
    have HP := Lib.hid hpA
    have HK3 := Lib.hid (keep_trans HK2.out k3)
    obtain ⟨w8, hst8, hb8, hg8⟩ := run_store_blk (P := Tryd.prog) ps.toList (HR2.out.keep k3) (by rw [Array.length_toList, Array.length_toList, hzz, hpz]) hpA.o
    have Hb8 := Lib.hid hb8; have Hg8 := Lib.hid hg8
    clear hb8 hg8 hpA k3 HB2 HR2 HK2 HBp
    go_wp2
    exact bodyPost_ret (v := .agg ps) (results_cell_row Tryd.results26 _ _ (w.heap.size + 1) _ _ _ _ rfl Hb8.out Tryd.underlying31 rfl (by rw [List.size_toArray, Array.length_toList]; exact hpi)) rfl ⟨ps, rfl, by rw [HT.out]; exact HP.out, HK3.out.grown Hg8.out HK3.out.size (fun q hq => by injection hq with hq; omega)⟩
  · obtain ⟨w8, hst8, hb8, hg8⟩ := run_store_blk (P := Tryd.prog) cs.toList HR2.out (by rw [Array.length_toList, Array.length_toList, hzz, hcz]) HA.out.o
    have Hb8 := Lib.hid hb8; have Hg8 := Lib.hid hg8
    clear hb8 hg8 HR2 HBp
    go_wp2_with ((with_reducible refine load_arr w.heap.size cs (Eq.trans ?_ rfl) HB2.out _ Tryd.underlying31 rfl hci ?_); rfl)
    exact bodyPost_ret (v := .agg cs) (results_cell_row Tryd.results26 _ _ (w.heap.size + 1) _ _ _ _ rfl Hb8.out Tryd.underlying31 rfl (by rw [List.size_toArray, Array.length_toList]; exact hci)) rfl ⟨cs, rfl, by rw [HT.out]; exact HA.out, HK2.out.grown Hg8.out HK2.out.size (fun q hq => by injection hq with hq; omega)⟩
end Go.Proofs.YtffpanlpbdnafaaDoor

/- peer.Ask (printed by gen_qe.py) -/
set_option linter.unusedSimpArgs false
set_option linter.unusedVariables false
namespace Go.Proofs.YtffpanlpbdnafaaDoor
open Go.RowKit
attribute [local go_sem ↓] Go.wp_at_zero Go.wp_at_succ
end Go.Proofs.YtffpanlpbdnafaaDoor

/- peer.Tick (printed by gen_qe.py) -/
set_option linter.unusedSimpArgs false
set_option linter.unusedVariables false
namespace Go.Proofs.YtffpanlpbdnafaaDoor
open Go.RowKit
attribute [local go_sem ↓] Go.wp_at_zero Go.wp_at_succ
end Go.Proofs.YtffpanlpbdnafaaDoor

/- What is got was put so: plain laws of reading a transaction. -/
set_option linter.unusedSimpArgs false
set_option linter.unusedVariables false
namespace Go.Proofs.YtffpanlpbdnafaaDoor
open Go.RowKit
end Go.Proofs.YtffpanlpbdnafaaDoor
