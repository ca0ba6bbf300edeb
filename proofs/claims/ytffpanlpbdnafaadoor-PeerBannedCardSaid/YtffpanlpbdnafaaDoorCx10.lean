/- Texts merged by pack.py: Qg, Ql, Qm, Qn, Qh, Pf, Qo. -/
import Derived.Test.YtffpanlpbdnafaaDoorCx7
import Derived.Test.YtffpanlpbdnafaaDoorCx9
import Derived.Test.YtffpanlpbdnafaaDoorCx3
import Derived.Test.YtffpanlpbdnafaaDoorCx6
import Derived.Deep.CutBlock
/- peer.Handle (printed by gen_qg.py) -/
set_option linter.unusedSimpArgs false
set_option linter.unusedVariables false
namespace Go.Proofs.YtffpanlpbdnafaaDoor
open Go.RowKit
attribute [local go_sem ↓] Go.wp_at_zero Go.wp_at_succ

def hdlP (p : PeR) (m : MsgR) : PeR × List MsgR × Int :=
  if (takenP p).stage = 3 then (takenP p, [], 16)
  else if fitsB m = false then ((takenP p).ban, [], 2)
  else if (takenP p).stage = 0 ∧ m.kind = 0 then ({ takenP p with stage := 1, nonce := m.nonce, height := m.height }, [{ msgZ 0 with proto := 70015, nonce := m.nonce }, msgZ 1], 0)
  else if (takenP p).stage = 1 ∧ m.kind = 1 then ({ takenP p with stage := 2 }, [], 0)
  else if (takenP p).stage = 2 ∧ m.kind = 2 then (takenP p, [{ msgZ 3 with nonce := m.nonce }], 0)
  else if (takenP p).stage = 2 ∧ m.kind = 5 then ({ takenP p with asked := false, misses := 0 }, [], 0)
  else if (takenP p).stage = 2 ∧ m.kind ≠ 0 ∧ m.kind ≠ 1 then (takenP p, [], 0)
  else ((takenP p).ban, [], 15)
theorem ev_guard : Tryd.prog.eqGuardType Tryd.prog.depth 89 = false := by kernel_rfl
theorem ev_stood : Tryd.prog.stoodInHeld 89 = false := by kernel_rfl
theorem ev_struct : Tryd.prog.underlying 89 = some (.struct (Tryd.prog.fieldsOf 89)) := by kernel_rfl
theorem ev_fields : ((Tryd.prog.fieldsOf 89).toList.map fun f => (f.name != "_", f.type, f.offset)) = [(true, 3, 0), (true, 3, 1)] := by kernel_rfl
theorem int_agg (w : World) : (isAgg 3).run Tryd.prog w = .ok false w := by kernel_rfl
theorem part_iv {cs : Array Value} {off : Nat} {v : Value} (h : cs[off]? = some v) (w : World) : (part 3 cs off).run Tryd.prog w = .ok v w := by
  simp only [part, Sem.run_bind, int_agg, Result.andThen_ok, Bool.false_eq_true, if_false, h, Sem.run_pure]
theorem ev_in (a b c d : Int) (w : World) : (Op.equalIn 10000 89 (.agg #[iv a, iv b]) (.agg #[iv c, iv d])).run Tryd.prog w = .ok ((a == c) && ((b == d) && true)) w := by
  rw [show (10000 : Nat) = 9998 + 2 from rfl, run_equalIn_agg w 9999 _ _ _ ev_struct ev_stood, eqF_of Tryd.prog, ev_fields]
  refine eqF_step (part_iv rfl w) (part_iv rfl w) (run_equalIn_int w 9998 _ .i64 .i64 _ _ Tryd.underlying3) (eqF_step (part_iv rfl w) (part_iv rfl w) (run_equalIn_int w 9998 _ .i64 .i64 _ _ Tryd.underlying3) ?_)
  rw [eqF]; rfl
theorem event_eq (a b c d : Int) (w : World) : (Go.binOp .eql 89 (.agg #[iv a, iv b]) (.agg #[iv c, iv d])).run Tryd.prog w = .ok (.bool ((a == c) && ((b == d) && true))) w := by
  rw [run_eql_struct, ev_in]; rfl
theorem ev_t {a b c d : Int} (h : a = c ∧ b = d) : ((a == c) && ((b == d) && true)) = true := by obtain ⟨rfl, rfl⟩ := h; simp
theorem ev_f {a b c d : Int} (h : ¬ (a = c ∧ b = d)) : ((a == c) && ((b == d) && true)) = false := by
  rw [Bool.eq_false_iff]; intro q; apply h; simpa using q
set_option maxRecDepth 100000 in
theorem msgsT : ElT Tryd.prog 32 50 (Value.agg zmsg) 114 336 := ElT.mk' Tryd.underlying32 (by kernel_rfl) zmsg_size (by omega)
theorem pong_built (n : Nat) (h : n < 2 ^ 64) : ∃ ks, MsA { msgZ 3 with nonce := n } ks ∧ Tryd.prog.built 50 [(0, .int .i64 3), (2, u64v n)] = some ks := by
  have ho := msgZ_ok 3 (by omega)
  exact ⟨_, MsA.of (m := { msgZ 3 with nonce := n }) ⟨ho.k, h, ho.s, ho.b, ho.h, ho.l, ho.i, ho.z⟩, by kernel_rfl⟩
theorem hello_built (n : Nat) (h : n < 2 ^ 64) : ∃ ks, MsA { msgZ 0 with proto := 70015, nonce := n } ks ∧ Tryd.prog.built 50 [(0, .int .i64 0), (1, .int .u32 70015), (2, u64v n)] = some ks := by
  have ho := msgZ_ok 0 (by omega)
  exact ⟨_, MsA.of (m := { msgZ 0 with proto := 70015, nonce := n }) ⟨ho.k, h, ho.s, ho.b, ho.h, ho.l, ho.i, ho.z⟩, by kernel_rfl⟩
theorem foldl_setoff (off : Nat) : ∀ (l : List Value) (k : Nat) (acc : Array Value), off + k + l.length ≤ acc.size → (l.zipIdx k).foldl (fun cs x => cs.setIfInBounds (off + x.2) x.1) acc = (acc.toList.take (off + k) ++ l ++ acc.toList.drop (off + k + l.length)).toArray
  | [], k, acc, h => by simp
  | v :: r, k, acc, h => by
    rw [List.zipIdx_cons, List.foldl_cons, foldl_setoff off r (k + 1) _ (by simp at h ⊢; omega)]
    have hk : off + k < acc.size := by simp at h; omega
    congr 1
    rw [Array.toList_setIfInBounds, ← Nat.add_assoc, List.take_succ_eq_append_getElem (by simpa using hk), List.getElem_set_self, List.take_set_of_le (Nat.le_refl _), List.drop_set_of_lt (by omega)]
    have e : off + k + (v :: r).length = off + k + 1 + r.length := by simp; omega
    simp only [e, List.append_assoc, List.singleton_append, List.cons_append, List.nil_append]
theorem fill_step {place : Nat → Option (Nat × Nat)} {acc : Array Value} {i off size : Nat} {v : Value} {rest : List (Nat × Value)} (hp : place i = some (off, size)) (hv : v.cells.size = size) (ho : off + size ≤ acc.size) :
    Instr.fill place acc ((i, v) :: rest) = Instr.fill place (acc.toList.take off ++ v.cells.toList ++ acc.toList.drop (off + size)).toArray rest := by
  rw [Instr.fill, hp]
  simp only []
  rw [if_neg (by simp [hv]; omega)]
  congr 1
  rw [← Array.foldl_toList, Array.toList_zipIdx]
  have := foldl_setoff off v.cells.toList 0 acc (by simp [hv]; omega)
  rw [Nat.add_zero] at this
  rw [show v.cells.toList.length = size from by simpa using hv] at this
  exact this
theorem wp_build2b {P : Program} {t e : TypeId} {zc : Array Value} {size bytes : Nat} (T : ElT P t e (.agg zc) size bytes) {o : Oper} {a : Act} {w : World} {K : Act → World → Prop} {Q : Exit → Act → World → Prop} (x y : Operand) (ho : o.op = .buildSlice t 2 #[(0, x), (1, y)])
    (cs ds : Array Value) (hz : cs.size = size) (hzd : ds.size = size) (hsm : size ≤ 1000) (hx : a.eval x = .agg cs) (hy : a.eval y = .agg ds)
    (h : K (a.put o.dst (.slice (some ⟨w.heap.size, 0, none⟩) 2 2)) (w.alloc (.cells (cs.toList ++ ds.toList).toArray e))) : o.wp P a w K Q := by
  obtain ⟨i, hi, hiz, his, _⟩ := T.info
  have hzc : zc.size = size := T.zs
  have hp := T.pos
  refine wp_buildSlice t e 2 _ ho (cs.toList ++ ds.toList).toArray i (.agg zc) T.und hi hiz (by rw [his]; omega) (by rw [his]; omega) ?_ h
  have hc : (Value.agg cs).cells = cs := rfl
  have hd : (Value.agg ds).cells = ds := rfl
  have hcl : cs.toList.length = size := by simpa using hz
  have hdl : ds.toList.length = size := by simpa using hzd
  simp only [List.map_toArray, List.map_cons, List.map_nil, hx, hy, his]
  rw [fill_step (off := 0 * size) (size := size) rfl (by rw [hc, hz]) (by simp; omega)]
  rw [fill_step (off := 1 * size) (size := size) rfl (by rw [hd, hzd]) (by simp [hc, hz]; omega)]
  rw [Instr.fill]
  congr 2
  rw [hc, hd, Nat.zero_mul, Nat.one_mul, List.take_zero, List.nil_append]
  rw [List.take_append_of_le_length (by omega), List.take_of_length_le (by omega)]
  have : List.drop (size + size) (cs.toList ++ List.drop (0 + size) ((Array.range (2 * size)).map fun j => (Value.agg zc).cells[j % (Value.agg zc).cells.size]!).toList) = [] := List.drop_eq_nil_of_le (by simp [hz]; omega)
  simp only [] at this ⊢
  rw [this, List.append_nil]
def Hdl (R : PeR × List MsgR × Int) (w : World) (e : Ending) (w' : World) : Prop :=
  ∃ ds A n, e = .returned (.tuple #[.agg ds, .slice A R.2.1.length n, iv R.2.2]) ∧ PeA R.1 ds ∧ R.2.1.length ≤ n ∧ n ≤ 2 ∧ Rd w' A (R.2.1.flatMap MsgR.cells) ∧ Keep w w'
set_option maxRecDepth 100000 in
set_option maxHeartbeats 4000000 in
theorem handle_any (p : PeR) (cs : Array Value) (hA : PeA p cs) (hr : p.rs = []) (m : MsgR) (ms : Array Value) (hM : MsA m ms) (w : World) (hm : m.at_ w) :
    Calls Tryd.prog 8 #[.agg cs, .agg ms] w (Hdl (hdlP p m) w) := by
  have HT : Hid (hdlP p m = _) := Lib.hid (hdlP.eq_1 p m)
  generalize hdlP p m = R at *
  obtain ⟨zs, hz0, hzA⟩ := zpeer_letter
  have FT : Hid (∀ y, Keep w y → Calls Tryd.prog 16 #[.agg ms] y fun e w' => e = .returned (.bool (fitsB m)) ∧ Keep y w') := Lib.hid fun y hy => fits_any m ms hM hm.o y (hm.t.keep hy)
  have TK : Hid (∀ y, Calls Tryd.prog 26 #[.agg cs] y fun e w' => ∃ ds, e = .returned (.agg ds) ∧ PeA (takenP p) ds ∧ Keep y w') := Lib.hid fun y => ptaken_any p cs hA hr y
  have hcn := hA.n; have hcz := hA.z; have hci := hA.i
  have hzn := hzA.n; have hzz := hzA.z
  have HA := Lib.hid hA; have HZ := Lib.hid hzA
  have hmn := hM.n; have hmz := hM.z; have hmi := hM.i
  have HMS := Lib.hid hM
  have HNN := Lib.hid hm.o.n
  clear hA hzA hr hM hm
  generalize takenP p = q at *
  generalize fitsB m = b at *
  go_enter Tryd.func8, Tryd.ntmps8
  go_upto_region 1 with fail
  obtain ⟨w1, hw1⟩ : ∃ w1, w1 = ((w.alloc (.cells cs 31)).alloc (.cells ms 50)).alloc (.cells zs 31) := ⟨_, rfl⟩
  have HB1 : Hid (Blk w1 w.heap.size 31 cs.toList) := by rw [hw1]; exact Lib.hid (((Blk.new w _ cs.toList).alloc _).alloc _)
  have HM1 : Hid (Blk w1 (w.heap.size + 1) 50 ms.toList) := by
    rw [hw1]
    have h2 := Blk.new (w.alloc (.cells cs 31)) 50 ms.toList
    rw [World.size_alloc] at h2
    exact Lib.hid (h2.alloc _)
  have HR1 : Hid (Blk w1 (w.heap.size + 2) 31 zs.toList) := by
    rw [hw1]
    have h2 := Blk.new ((w.alloc (.cells cs 31)).alloc (.cells ms 50)) 31 zs.toList
    rw [World.size_alloc, World.size_alloc] at h2
    exact Lib.hid h2
  have HK1 : Hid (Keep w w1) := by rw [hw1]; exact Lib.hid (keep_trans (keep_trans (keep_new _ _) (keep_new _ _)) (keep_new _ _))
  rw [← hw1]
  clear hw1
  go_wp2_with ((with_reducible refine load_arr w.heap.size cs (Eq.trans ?_ rfl) HB1.out _ Tryd.underlying31 rfl hci ?_); rfl)
  refine (TK.out _).mono ?_
  clear TK
  rintro e w2 ⟨qs, rfl, hqA, k2⟩
  have hqn := hqA.n; have hqz := hqA.z; have hqi := hqA.i
  have HQ := Lib.hid hqA
  have HK2 := Lib.hid (keep_trans HK1.out k2)
  obtain ⟨w3, hst3, hb3, hg3⟩ := run_store_blk (P := Tryd.prog) qs.toList (HB1.out.keep k2) (by rw [Array.length_toList, Array.length_toList, hcz, hqz]) HQ.out.o
  have HB3 : Hid (Blk w3 w.heap.size 31 q.cells) := by rw [← HQ.out.l]; exact Lib.hid hb3
  have HBc3 : Hid (Blk w3 w.heap.size 31 qs.toList) := Lib.hid hb3
  have HM3 : Hid (Blk w3 (w.heap.size + 1) 50 ms.toList) := Lib.hid ((HM1.out.keep k2).grown hg3 (fun e => by injection e with e; omega))
  have HR3 : Hid (Blk w3 (w.heap.size + 2) 31 zs.toList) := Lib.hid ((HR1.out.keep k2).grown hg3 (fun e => by injection e with e; omega))
  have HK3 : Hid (Keep w w3) := Lib.hid (HK2.out.grown hg3 HK2.out.size (fun q hq => by injection hq with hq; omega))
  clear k2 HB1 HR1 HK1 HM1 HK2 hqA hb3 hg3
  go_upto_region 2 with fail
  clear hst3
  have r0 : w3.cell? ⟨w.heap.size, 0, none⟩ = some (iv q.stage) := (HB3.out.cell 0).trans rfl
  by_cases h3 : q.stage = 3
  · have d0 : (q.stage == 3) = true := by rw [h3]; rfl
    have hR : R = (q, [], 16) := by rw [HT.out, if_pos h3]
    clear h3
    obtain ⟨w8, hst8, hb8, hg8⟩ := run_store_blk (P := Tryd.prog) qs.toList HR3.out (by rw [Array.length_toList, Array.length_toList, hzz, HQ.out.z]) HQ.out.o
    have Hb8 := Lib.hid hb8; have Hg8 := Lib.hid hg8
    have hdi8 := HQ.out.i
    have hdn8 := HQ.out.n
    have hdz8 := HQ.out.z
    have HRE := Lib.hid hR
    clear hb8 hg8 hR HT
    go_wp2_with ((with_reducible refine load_arr w.heap.size qs (Eq.trans ?_ rfl) HBc3.out _ Tryd.underlying31 rfl hdi8 ?_); rfl)
    exact bodyPost_ret (v := .tuple #[.agg qs, .slice none 0 0, iv 16]) (results_cell_tmp_tmp Tryd.results8 _ _ (w.heap.size + 2) _ _ _ _ rfl Hb8.out Tryd.underlying31 rfl (by rw [List.size_toArray, Array.length_toList]; exact hdi8)) rfl (by
      rw [HRE.out]
      exact ⟨qs, none, 0, rfl, HQ.out, Nat.le_refl _, Nat.zero_le _, Rd.nil _ _, HK3.out.grown Hg8.out HK3.out.size (fun q hq => by injection hq with hq; omega)⟩)
  have d0 : (q.stage == 3) = false := by rw [beq_eq_false_iff_ne]; exact h3
  have HT2 := Lib.hid (HT.out.trans (if_neg h3))
  clear h3 HT
  go_wp2_with ((with_reducible refine load_arr (w.heap.size + 1) ms (Eq.trans ?_ rfl) HM3.out _ Tryd.underlying50 rfl hmi ?_); rfl)
  refine (FT.out _ HK3.out).mono ?_
  clear FT r0
  rintro e w4 ⟨rfl, k4⟩
  have HBc4 := Lib.hid (HBc3.out.keep k4)
  have HB4 := Lib.hid (HB3.out.keep k4)
  have HM4 : Hid (Blk w4 (w.heap.size + 1) 50 m.cells) := by rw [← HMS.out.l]; exact Lib.hid (HM3.out.keep k4)
  have HR4 := Lib.hid (HR3.out.keep k4)
  have HK4 := Lib.hid (keep_trans HK3.out k4)
  clear k4 HBc3 HB3 HM3 HR3 HK3
  cases b
  · have hR : R = (q.ban, [], 2) := by rw [HT2.out, if_pos rfl]
    have hR0 := hR
    have HRE := Lib.hid hR
    clear hR hR0 HT2
    go_wp2_with ((with_reducible refine load_arr w.heap.size qs (Eq.trans ?_ rfl) HBc4.out _ Tryd.underlying31 rfl hqi ?_); rfl)
    refine (banned_any _ qs HQ.out _).mono ?_
    rintro e w5 ⟨bs, rfl, hbA, k5⟩
    have hbn := hbA.n; have hbz := hbA.z; have hbi := hbA.i
    have HBA := Lib.hid hbA
    have HK5 := Lib.hid (keep_trans HK4.out k5)
    obtain ⟨w8, hst8, hb8, hg8⟩ := run_store_blk (P := Tryd.prog) bs.toList (HR4.out.keep k5) (by rw [Array.length_toList, Array.length_toList, hzz, hbz]) hbA.o
    have Hb8 := Lib.hid hb8; have Hg8 := Lib.hid hg8
    clear hb8 hg8 hbA k5
    go_wp2
    exact bodyPost_ret (v := .tuple #[.agg bs, .slice none 0 0, iv 2]) (results_cell_tmp_tmp Tryd.results8 _ _ (w.heap.size + 2) _ _ _ _ rfl Hb8.out Tryd.underlying31 rfl (by rw [List.size_toArray, Array.length_toList]; exact hbi)) rfl (by
      rw [HRE.out]
      exact ⟨bs, none, 0, rfl, HBA.out, Nat.le_refl _, Nat.zero_le _, Rd.nil _ _, HK5.out.grown Hg8.out HK5.out.size (fun q hq => by injection hq with hq; omega)⟩)
  have HT := Lib.hid (HT2.out.trans (if_neg (by decide)))
  clear HT2
  have r0 : w4.cell? ⟨w.heap.size, 0, none⟩ = some (iv q.stage) := (HB4.out.cell 0).trans rfl
  have m0 : w4.cell? ⟨w.heap.size + 1, 0, none⟩ = some (iv m.kind) := (HM4.out.cell 0).trans rfl
  have hgd := ev_guard
  by_cases c1 : q.stage = 0 ∧ m.kind = 0
  · have hR : R = ({ q with stage := 1, nonce := m.nonce, height := m.height }, [{ msgZ 0 with proto := 70015, nonce := m.nonce }, msgZ 1], 0) := HT.out.trans (if_pos c1)
    have he1 : ∀ w, (Go.binOp .eql 89 (.agg #[iv q.stage, iv m.kind]) (.agg #[iv 0, iv 0])).run Tryd.prog w = .ok (.bool true) w := fun w => by rw [event_eq, ev_t c1]
    have hi1 : ∀ w, (Op.equalIn 10000 89 (.agg #[iv q.stage, iv m.kind]) (.agg #[iv 0, iv 0])).run Tryd.prog w = .ok true w := fun w => by rw [ev_in, ev_t c1]
    have HC := Lib.hid c1
    clear c1 HT
    have m2 : w4.cell? ⟨w.heap.size + 1, 2, none⟩ = some (u64v m.nonce) := (HM4.out.cell 2).trans rfl
    have m3 : w4.cell? ⟨w.heap.size + 1, 3, none⟩ = some (u32v m.height) := (HM4.out.cell 3).trans rfl
    have HRE := Lib.hid hR
    clear hR
    go_upto_region 8 with fail
    letI iM : G.Mk := ⟨some w.heap.size⟩
    refine G.wp_region_tree (.take [0,1,2,3,4] (.force [5] (.take [6] (.force [7] (.take [8] (.force [9] .done)))))) [] (by kernel_rfl) (by kernel_rfl) (fun wa ka => ?_)
    have hneG : G.Mk.m ≠ some (w.heap.size + 1) := fun q => by have e : w.heap.size = w.heap.size + 1 := Option.some.inj q; omega
    have HBa := Lib.hid (HB4.out.keep ka); have HMa := Lib.hid (HM4.out.keep ka); have HRa := Lib.hid (HR4.out.keep ka); have HKa := Lib.hid (keep_trans HK4.out ka)
    have b2 := G.aftG_cell (keep_cell ka m2) hneG
    have b3 := G.aftG_cell (keep_cell ka m3) hneG
    clear ka HB4 HM4 HR4 HK4 HBc4 m2 m3 m0 r0 hgd he1 hi1
    refine G.mt_take wa (G.Gr.refl _) ?_
    simp only [pick_cons, pick_nil, nth_zero, nth_succ]
    repeat (go_big_quiet_step (fail))
    refine wpQuiet_nil (G.mt_force ?_)
    clear b2 b3 hneG
    simp only [pick_cons, pick_nil, nth_zero, nth_succ]
    refine G.fc_step rfl (fun K hK => ?_)
    obtain ⟨v0, z0⟩ : ∃ v, wa.cell? ⟨w.heap.size, 0, none⟩ = some v := ⟨_, (HBa.out.cell 0).trans rfl⟩
    have y0 := HBa.out.frozen 0
    go_simp
    refine hK _ _ (show G.Gr wa _ from grown_set (grown_refl wa _)) ?_
    clear hK K z0 y0
    obtain ⟨wb0, hwb⟩ : ∃ wb, wb = wa.setCell ⟨w.heap.size, 0, none⟩ (.int .i64 1) := ⟨_, rfl⟩
    have HBb0 : Hid (Blk wb0 w.heap.size 31 (PeR.cells { q with stage := 1 })) := by
      rw [hwb]
      have q := HBa.out.set_ 0 (.int .i64 1)
      exact Lib.hid q
    have HMb0 : Hid (Blk wb0 (w.heap.size + 1) 50 m.cells) := by rw [hwb]; exact Lib.hid (HMa.out.far (by simp) _)
    have HRb0 : Hid (Blk wb0 (w.heap.size + 2) 31 zs.toList) := by rw [hwb]; exact Lib.hid (HRa.out.far (by simp) _)
    have HKb0 : Hid (Keep w wb0) := by rw [hwb]; exact Lib.hid (Below.setCell HKa.out (by simp) _)
    rw [← hwb]
    clear hwb HBa HMa HRa HKa
    refine G.fc_nil (G.mt_take _ (G.Gr.refl _) ?_)
    simp only [pick_cons, pick_nil, nth_zero, nth_succ]
    repeat (go_big_quiet_step (fail))
    refine wpQuiet_nil (G.mt_force ?_)
    simp only [pick_cons, pick_nil, nth_zero, nth_succ]
    refine G.fc_step rfl (fun K hK => ?_)
    obtain ⟨v0, z0⟩ : ∃ v, wb0.cell? ⟨w.heap.size, 1, none⟩ = some v := ⟨_, (HBb0.out.cell 1).trans rfl⟩
    have y0 := HBb0.out.frozen 1
    go_simp
    refine hK _ _ (show G.Gr wb0 _ from grown_set (grown_refl wb0 _)) ?_
    clear hK K z0 y0
    obtain ⟨wb1, hwb⟩ : ∃ wb, wb = wb0.setCell ⟨w.heap.size, 1, none⟩ (u64v m.nonce) := ⟨_, rfl⟩
    have HBb1 : Hid (Blk wb1 w.heap.size 31 (PeR.cells { q with stage := 1, nonce := m.nonce })) := by
      rw [hwb]
      have q := HBb0.out.set_ 1 (u64v m.nonce)
      exact Lib.hid q
    have HMb1 : Hid (Blk wb1 (w.heap.size + 1) 50 m.cells) := by rw [hwb]; exact Lib.hid (HMb0.out.far (by simp) _)
    have HRb1 : Hid (Blk wb1 (w.heap.size + 2) 31 zs.toList) := by rw [hwb]; exact Lib.hid (HRb0.out.far (by simp) _)
    have HKb1 : Hid (Keep w wb1) := by rw [hwb]; exact Lib.hid (Below.setCell HKb0.out (by simp) _)
    rw [← hwb]
    clear hwb HBb0 HMb0 HRb0 HKb0
    refine G.fc_nil (G.mt_take _ (G.Gr.refl _) ?_)
    simp only [pick_cons, pick_nil, nth_zero, nth_succ]
    repeat (go_big_quiet_step (fail))
    refine wpQuiet_nil (G.mt_force ?_)
    simp only [pick_cons, pick_nil, nth_zero, nth_succ]
    refine G.fc_step rfl (fun K hK => ?_)
    obtain ⟨v0, z0⟩ : ∃ v, wb1.cell? ⟨w.heap.size, 2, none⟩ = some v := ⟨_, (HBb1.out.cell 2).trans rfl⟩
    have y0 := HBb1.out.frozen 2
    go_simp
    refine hK _ _ (show G.Gr wb1 _ from grown_set (grown_refl wb1 _)) ?_
    clear hK K z0 y0
    obtain ⟨wb2, hwb⟩ : ∃ wb, wb = wb1.setCell ⟨w.heap.size, 2, none⟩ (u32v m.height) := ⟨_, rfl⟩
    have HBb2 : Hid (Blk wb2 w.heap.size 31 (PeR.cells { q with stage := 1, nonce := m.nonce, height := m.height })) := by
      rw [hwb]
      have q := HBb1.out.set_ 2 (u32v m.height)
      exact Lib.hid q
    have HMb2 : Hid (Blk wb2 (w.heap.size + 1) 50 m.cells) := by rw [hwb]; exact Lib.hid (HMb1.out.far (by simp) _)
    have HRb2 : Hid (Blk wb2 (w.heap.size + 2) 31 zs.toList) := by rw [hwb]; exact Lib.hid (HRb1.out.far (by simp) _)
    have HKb2 : Hid (Keep w wb2) := by rw [hwb]; exact Lib.hid (Below.setCell HKb1.out (by simp) _)
    rw [← hwb]
    clear hwb HBb1 HMb1 HRb1 HKb1
    refine G.fc_nil (G.mt_end ?_)
    clear iM
    obtain ⟨ds, hds⟩ : ∃ ds, PeA { q with stage := 1, nonce := m.nonce, height := m.height } ds := ⟨_, PeA.of _⟩
    have HDS := Lib.hid hds
    have HBx : Hid (Blk wb2 w.heap.size 31 ds.toList) := by rw [HDS.out.l]; exact HBb2
    clear hds HBb2
    have m2 : wb2.cell? ⟨w.heap.size + 1, 2, none⟩ = some (u64v m.nonce) := (HMb2.out.cell 2).trans rfl
    obtain ⟨ys, hyz, hyA⟩ := zmsg_letter
    obtain ⟨ks, hks, hbu⟩ := hello_built m.nonce HNN.out
    obtain ⟨vs, hvs, hbv⟩ : ∃ vs, MsA (msgZ 1) vs ∧ Tryd.prog.built 50 [(0, .int .i64 1)] = some vs := ⟨_, MsA.of (msgZ_ok 1 (by omega)), by kernel_rfl⟩
    have hyn := hyA.n; have hkn := hks.n; have hkz := hks.z; have hyzz := hyA.z; have hki := hks.i; have hvz := hvs.z
    have HKS := Lib.hid hks; have HVS := Lib.hid hvs; have HBu := Lib.hid hbu; have HBv := Lib.hid hbv
    have hst : (storeCells ⟨wb2.heap.size, 0, none⟩ ks.toList 0).run Tryd.prog (wb2.alloc (.cells ys 50)) = .ok () (wb2.alloc (.cells ks 50)) := run_storeCells_new (P := Tryd.prog) wb2 50 ys ks HKS.out.i (hyA.z.trans hkz.symm) (by have := all_oneCell_toArray HKS.out.o; simpa using this)
    clear hks hvs hbu hbv hyA
    go_upto_region 10 with ((with_reducible refine list_bldg [(0, .int .i64 0), (1, .int .u32 70015), (2, u64v m.nonce)] ks (Eq.trans ?_ rfl) HBu.out (Eq.trans ?_ rfl) ?_); rfl; rfl)
    obtain ⟨w5, hw5⟩ : ∃ w5, w5 = wb2.alloc (.cells ks 50) := ⟨_, rfl⟩
    have HH5 : Hid (Blk w5 wb2.heap.size 50 ks.toList) := by rw [hw5]; exact Lib.hid (Blk.new wb2 _ ks.toList)
    have HB5 : Hid (Blk w5 w.heap.size 31 ds.toList) := by rw [hw5]; exact Lib.hid (HBx.out.alloc _)
    have HR5 : Hid (Blk w5 (w.heap.size + 2) 31 zs.toList) := by rw [hw5]; exact Lib.hid (HRb2.out.alloc _)
    have HK5 : Hid (Keep w w5) := by rw [hw5]; exact Lib.hid (keep_trans HKb2.out (keep_new _ _))
    rw [← hw5]
    have hl2 := HRb2.out.lt
    clear hw5 hst HBx HRb2 HKb2 HMb2 m2
    generalize wb2.heap.size = hn at *
    letI iM : G.Mk := ⟨some (w.heap.size + 2)⟩
    refine G.wp_region_tree (.take [0,1,2] (.fork 3 (.force [4] (.take [5,6] .done)) 4 (.force [3] (.take [5,6] .done)))) [] (by kernel_rfl) (by kernel_rfl) (fun wa ka => ?_)
    have hne0 : G.Mk.m ≠ some w.heap.size := fun q => by have e : w.heap.size + 2 = w.heap.size := Option.some.inj q; omega
    have hne1 : G.Mk.m ≠ some hn := fun q => by have e : w.heap.size + 2 = hn := Option.some.inj q; omega
    have HBa := Lib.hid (HB5.out.keep ka); have HHa := Lib.hid (HH5.out.keep ka); have HRa := Lib.hid (HR5.out.keep ka); have HKa := Lib.hid (keep_trans HK5.out ka)
    have hdi := HDS.out.i
    have b2 := hdi
    clear ka HB5 HR5 HK5 HH5
    refine G.mt_take wa (G.Gr.refl _) ?_
    simp only [pick_cons, pick_nil, nth_zero, nth_succ]
    repeat (first
      | ((with_reducible refine G.wpQuiet_load_arrG w.heap.size ds (Eq.trans ?_ rfl) HBa.out hne0 _ Tryd.underlying31 rfl hdi ?_); rfl; simp only [Act.put, Array.set!_eq_setIfInBounds, List.setIfInBounds_toArray, List.set_cons_succ, List.set_cons_zero])
      | ((with_reducible refine G.wpQuiet_load_arrG hn ks (Eq.trans ?_ rfl) HHa.out hne1 _ Tryd.underlying50 rfl hki ?_); rfl; simp only [Act.put, Array.set!_eq_setIfInBounds, List.setIfInBounds_toArray, List.set_cons_succ, List.set_cons_zero])
      | ((with_reducible refine wpQuiet_buildm [(0, .int .i64 1)] vs (Eq.trans ?_ rfl) HBv.out ?_); rfl; simp only [Act.put, Array.set!_eq_setIfInBounds, List.setIfInBounds_toArray, List.set_cons_succ, List.set_cons_zero])
      | go_big_quiet_step (fail))
    refine wpQuiet_nil (G.mt_fork ?_ ?_)
    · simp only [pick_cons, pick_nil, nth_zero, nth_succ]
      refine G.fc_step rfl (fun K hK => ?_)
      refine wp_build2b msgsT _ _ (by rfl) ks vs hkz hvz (by omega) (by rfl) (by rfl) ?_
      refine hK _ _ (G.Gr.of_keep (keep_new _ _)) ?_
      clear hK K
      obtain ⟨wb, hwb⟩ : ∃ wb, wb = wa.alloc (.cells (ks.toList ++ vs.toList).toArray 50) := ⟨_, rfl⟩
      have HRb : Hid (Blk wb (w.heap.size + 2) 31 zs.toList) := by rw [hwb]; exact Lib.hid (HRa.out.alloc _)
      have HNb : Hid (Blk wb wa.heap.size 50 (ks.toList ++ vs.toList)) := by rw [hwb]; exact Lib.hid (Blk.new wa _ ((ks.toList ++ vs.toList)))
      have HKb : Hid (Keep w wb) := by rw [hwb]; exact Lib.hid (keep_trans HKa.out (keep_new _ _))
      have hlt := HRa.out.lt
      have HdI := HDS.out.i
      rw [← hwb]
      clear hwb b2 hne0 hne1 HBa HRa HKa
      obtain ⟨w8, hst8, hb8, hg8⟩ := run_store_blk (P := Tryd.prog) ds.toList HRb.out (by rw [Array.length_toList, Array.length_toList, hzz, HDS.out.z]) HDS.out.o
      have HZ8 := Lib.hid hb8
      have HN8 : Hid (Blk w8 wa.heap.size 50 (ks.toList ++ vs.toList)) := Lib.hid (HNb.out.grown hg8 (fun e => by injection e with e; omega))
      have HK8 : Hid (Keep w w8) := Lib.hid (HKb.out.grown hg8 HKb.out.size (fun q hq => by injection hq with hq; omega))
      clear hb8 HRb HNb HKb
      refine G.fc_nil (G.mt_force ?_)
      simp only [pick_cons, pick_nil, nth_zero, nth_succ]
      refine G.fc_step rfl (fun K hK => ?_)
      have hAz := HDS.out.z; have hAn := HDS.out.n
      go_simp
      refine hK _ _ (show G.Gr wb w8 from hg8) ?_
      clear hK K hst8 hg8
      refine G.fc_nil (G.mt_take _ (G.Gr.refl _) ?_)
      simp only [pick_cons, pick_nil, nth_zero, nth_succ]
      repeat (go_big_quiet_step (fail))
      refine wpQuiet_nil (G.mt_end ?_)
      clear iM
      go_wp2
      exact bodyPost_ret (v := .tuple #[.agg ds, .slice (some ⟨wa.heap.size, 0, none⟩) 2 2, iv 0]) (results_cell_tmp_tmp Tryd.results8 _ _ (w.heap.size + 2) _ _ _ _ rfl HZ8.out Tryd.underlying31 rfl (by rw [List.size_toArray, Array.length_toList]; exact HdI)) rfl (by
        rw [HRE.out]
        exact ⟨ds, _, 2, rfl, HDS.out, Nat.le_refl _, by omega, by have q := HN8.out.rd; rw [HKS.out.l, HVS.out.l] at q; simpa using q, HK8.out⟩)
    · simp only [pick_cons, pick_nil, nth_zero, nth_succ]
      have hlt := HRa.out.lt
      have HdI := HDS.out.i
      obtain ⟨w7, hst8, hb7, hg8⟩ := run_store_blk (P := Tryd.prog) ds.toList HRa.out (by rw [Array.length_toList, Array.length_toList, hzz, HDS.out.z]) HDS.out.o
      have HZ7 := Lib.hid hb7
      have HK7 : Hid (Keep w w7) := Lib.hid (HKa.out.grown hg8 HKa.out.size (fun q hq => by injection hq with hq; omega))
      clear hb7 b2 hne0 hne1
      refine G.fc_step rfl (fun K hK => ?_)
      have hAz := HDS.out.z; have hAn := HDS.out.n
      go_simp
      refine hK _ _ (show G.Gr wa w7 from hg8) ?_
      clear hK K hst8 hg8 HBa HRa HKa
      refine G.fc_nil (G.mt_force ?_)
      simp only [pick_cons, pick_nil, nth_zero, nth_succ]
      refine G.fc_step rfl (fun K hK => ?_)
      refine wp_build2b msgsT _ _ (by rfl) ks vs hkz hvz (by omega) (by rfl) (by rfl) ?_
      refine hK _ _ (G.Gr.of_keep (keep_new _ _)) ?_
      clear hK K
      obtain ⟨w8, hwb⟩ : ∃ wb, wb = w7.alloc (.cells (ks.toList ++ vs.toList).toArray 50) := ⟨_, rfl⟩
      have HZ8 : Hid (Blk w8 (w.heap.size + 2) 31 ds.toList) := by rw [hwb]; exact Lib.hid (HZ7.out.alloc _)
      have HN8 : Hid (Blk w8 w7.heap.size 50 (ks.toList ++ vs.toList)) := by rw [hwb]; exact Lib.hid (Blk.new w7 _ ((ks.toList ++ vs.toList)))
      have HK8 : Hid (Keep w w8) := by rw [hwb]; exact Lib.hid (keep_trans HK7.out (keep_new _ _))
      rw [← hwb]
      clear hwb HZ7 HK7
      simp only [Act.put, Array.set!_eq_setIfInBounds, List.setIfInBounds_toArray, List.set_cons_succ, List.set_cons_zero]
      refine G.fc_nil (G.mt_take _ (G.Gr.refl _) ?_)
      simp only [pick_cons, pick_nil, nth_zero, nth_succ]
      repeat (go_big_quiet_step (fail))
      refine wpQuiet_nil (G.mt_end ?_)
      clear iM
      go_wp2
      exact bodyPost_ret (v := .tuple #[.agg ds, .slice (some ⟨w7.heap.size, 0, none⟩) 2 2, iv 0]) (results_cell_tmp_tmp Tryd.results8 _ _ (w.heap.size + 2) _ _ _ _ rfl HZ8.out Tryd.underlying31 rfl (by rw [List.size_toArray, Array.length_toList]; exact HdI)) rfl (by
        rw [HRE.out]
        exact ⟨ds, _, 2, rfl, HDS.out, Nat.le_refl _, by omega, by have q := HN8.out.rd; rw [HKS.out.l, HVS.out.l] at q; simpa using q, HK8.out⟩)
  have he1 : ∀ w, (Go.binOp .eql 89 (.agg #[iv q.stage, iv m.kind]) (.agg #[iv 0, iv 0])).run Tryd.prog w = .ok (.bool false) w := fun w => by rw [event_eq, ev_f c1]
  have hi1 : ∀ w, (Op.equalIn 10000 89 (.agg #[iv q.stage, iv m.kind]) (.agg #[iv 0, iv 0])).run Tryd.prog w = .ok false w := fun w => by rw [ev_in, ev_f c1]
  have HT1 := Lib.hid (HT.out.trans (if_neg c1))
  clear HT c1
  by_cases c2 : q.stage = 1 ∧ m.kind = 1
  · have hR : R = ({ q with stage := 2 }, [], 0) := HT1.out.trans (if_pos c2)
    have he2 : ∀ w, (Go.binOp .eql 89 (.agg #[iv q.stage, iv m.kind]) (.agg #[iv 1, iv 1])).run Tryd.prog w = .ok (.bool true) w := fun w => by rw [event_eq, ev_t c2]
    have hi2 : ∀ w, (Op.equalIn 10000 89 (.agg #[iv q.stage, iv m.kind]) (.agg #[iv 1, iv 1])).run Tryd.prog w = .ok true w := fun w => by rw [ev_in, ev_t c2]
    have HRE := Lib.hid hR
    have f0 := HB4.out.frozen 0
    clear c2 HT1 hR
    go_upto_region 13 with fail
    obtain ⟨wx, hwx⟩ : ∃ wx, wx = (w4.setCell ⟨w.heap.size, 0, none⟩ (.int .i64 2)) := ⟨_, rfl⟩
    have HX : Blk wx w.heap.size 31 ({ q with stage := 2 }).cells := by rw [hwx]; exact (HB4.out.set_ 0 (.int .i64 2))
    have HRX : Hid (Blk wx (w.heap.size + 2) 31 zs.toList) := by rw [hwx]; exact Lib.hid (HR4.out.far (by simp <;> omega) _)
    have HKX : Hid (Keep w wx) := by rw [hwx]; exact Lib.hid (Below.setCell HK4.out (by simp <;> omega) _)
    rw [← hwx]
    clear hwx
    obtain ⟨ds, hds⟩ : ∃ ds, PeA ({ q with stage := 2 }) ds := ⟨_, PeA.of _⟩
    have HDS := Lib.hid hds
    have HBx : Hid (Blk wx w.heap.size 31 ds.toList) := by rw [HDS.out.l]; exact Lib.hid HX
    clear hds HX HR4 HK4 HB4 HBc4
    obtain ⟨w8, hst8, hb8, hg8⟩ := run_store_blk (P := Tryd.prog) ds.toList HRX.out (by rw [Array.length_toList, Array.length_toList, hzz, HDS.out.z]) HDS.out.o
    have Hb8 := Lib.hid hb8; have Hg8 := Lib.hid hg8
    have hdi8 := HDS.out.i
    have hdn8 := HDS.out.n
    have hdz8 := HDS.out.z
    clear hb8 hg8
    go_wp2_with ((with_reducible refine load_arr w.heap.size ds (Eq.trans ?_ rfl) HBx.out _ Tryd.underlying31 rfl hdi8 ?_); rfl)
    exact bodyPost_ret (v := .tuple #[.agg ds, .slice none 0 0, iv 0]) (results_cell_tmp_tmp Tryd.results8 _ _ (w.heap.size + 2) _ _ _ _ rfl Hb8.out Tryd.underlying31 rfl (by rw [List.size_toArray, Array.length_toList]; exact hdi8)) rfl (by
      rw [HRE.out]
      exact ⟨ds, none, 0, rfl, HDS.out, Nat.le_refl _, Nat.zero_le _, Rd.nil _ _, HKX.out.grown Hg8.out HKX.out.size (fun q hq => by injection hq with hq; omega)⟩)
  have he2 : ∀ w, (Go.binOp .eql 89 (.agg #[iv q.stage, iv m.kind]) (.agg #[iv 1, iv 1])).run Tryd.prog w = .ok (.bool false) w := fun w => by rw [event_eq, ev_f c2]
  have hi2 : ∀ w, (Op.equalIn 10000 89 (.agg #[iv q.stage, iv m.kind]) (.agg #[iv 1, iv 1])).run Tryd.prog w = .ok false w := fun w => by rw [ev_in, ev_f c2]
  have HT2 := Lib.hid (HT1.out.trans (if_neg c2))
  clear HT1 c2
  by_cases c3 : q.stage = 2 ∧ m.kind = 2
  · have hR : R = (q, [{ msgZ 3 with nonce := m.nonce }], 0) := HT2.out.trans (if_pos c3)
    have he3 : ∀ w, (Go.binOp .eql 89 (.agg #[iv q.stage, iv m.kind]) (.agg #[iv 2, iv 2])).run Tryd.prog w = .ok (.bool true) w := fun w => by rw [event_eq, ev_t c3]
    have hi3 : ∀ w, (Op.equalIn 10000 89 (.agg #[iv q.stage, iv m.kind]) (.agg #[iv 2, iv 2])).run Tryd.prog w = .ok true w := fun w => by rw [ev_in, ev_t c3]
    clear c3 HT2
    have HRE := Lib.hid hR
    have m2 : w4.cell? ⟨w.heap.size + 1, 2, none⟩ = some (u64v m.nonce) := (HM4.out.cell 2).trans rfl
    obtain ⟨ks, hks, hbu⟩ := pong_built m.nonce HNN.out
    have hkz := hks.z; have hkn := hks.n; have hki := hks.i
    have HKS := Lib.hid hks; have HBu := Lib.hid hbu
    clear hR hks hbu
    go_upto_region 15 with fail
    letI iM : G.Mk := ⟨some (w.heap.size + 2)⟩
    refine G.wp_region_tree (.take [0,1,2,3] (.fork 4 (.force [5] (.take [6,7] .done)) 5 (.force [4] (.take [6,7] .done)))) [] (by kernel_rfl) (by kernel_rfl) (fun wa ka => ?_)
    have hne0 : G.Mk.m ≠ some w.heap.size := fun q => by have e : w.heap.size + 2 = w.heap.size := Option.some.inj q; omega
    have hne1 : G.Mk.m ≠ some (w.heap.size + 1) := fun q => by have e : w.heap.size + 2 = w.heap.size + 1 := Option.some.inj q; omega
    have HBa := Lib.hid (HBc4.out.keep ka); have HRa := Lib.hid (HR4.out.keep ka); have HKa := Lib.hid (keep_trans HK4.out ka)
    have b2 := G.aftG_cell (keep_cell ka m2) hne1
    have RGa : Hid (wa.rangeAt w.heap.size 0 qs.toList) := Lib.hid (range_of HBa.out 0 qs.toList (by simp [List.take_of_length_le]))
    clear ka HB4 HM4 HR4 HK4 HBc4 m2 m0 r0 hgd he1 hi1 he2 hi2 he3 hi3 hne1
    refine G.mt_take wa (G.Gr.refl _) ?_
    simp only [pick_cons, pick_nil, nth_zero, nth_succ]
    repeat (first
      | ((with_reducible refine G.wpQuiet_load_arrG w.heap.size qs (Eq.trans ?_ rfl) HBa.out hne0 _ Tryd.underlying31 rfl hqi ?_); rfl; simp only [Act.put, Array.set!_eq_setIfInBounds, List.setIfInBounds_toArray, List.set_cons_succ, List.set_cons_zero])
      | ((with_reducible refine wpQuiet_buildm [(0, .int .i64 3), (2, u64v m.nonce)] ks (Eq.trans ?_ rfl) HBu.out ?_); rfl; simp only [Act.put, Array.set!_eq_setIfInBounds, List.setIfInBounds_toArray, List.set_cons_succ, List.set_cons_zero])
      | go_big_quiet_step (fail))
    refine wpQuiet_nil (G.mt_fork ?_ ?_)
    · simp only [pick_cons, pick_nil, nth_zero, nth_succ]
      refine G.fc_step rfl (fun K hK => ?_)
      refine wp_build1b msgsT _ (by rfl) ks hkz (by omega) (by rfl) ?_
      refine hK _ _ (G.Gr.of_keep (keep_new _ _)) ?_
      clear hK K
      obtain ⟨wb, hwb⟩ : ∃ wb, wb = wa.alloc (.cells ks 50) := ⟨_, rfl⟩
      have HRb : Hid (Blk wb (w.heap.size + 2) 31 zs.toList) := by rw [hwb]; exact Lib.hid (HRa.out.alloc _)
      have HNb : Hid (Blk wb wa.heap.size 50 ks.toList) := by rw [hwb]; exact Lib.hid (Blk.new wa _ (ks.toList))
      have HKb : Hid (Keep w wb) := by rw [hwb]; exact Lib.hid (keep_trans HKa.out (keep_new _ _))
      have hlt := HRa.out.lt
      have HdI := HQ.out.i
      rw [← hwb]
      clear hwb b2 hne0 RGa HBa HRa HKa
      obtain ⟨w8, hst8, hb8, hg8⟩ := run_store_blk (P := Tryd.prog) qs.toList HRb.out (by rw [Array.length_toList, Array.length_toList, hzz, HQ.out.z]) HQ.out.o
      have HZ8 := Lib.hid hb8
      have HN8 : Hid (Blk w8 wa.heap.size 50 ks.toList) := Lib.hid (HNb.out.grown hg8 (fun e => by injection e with e; omega))
      have HK8 : Hid (Keep w w8) := Lib.hid (HKb.out.grown hg8 HKb.out.size (fun q hq => by injection hq with hq; omega))
      clear hb8 HRb HNb HKb
      refine G.fc_nil (G.mt_force ?_)
      simp only [pick_cons, pick_nil, nth_zero, nth_succ]
      refine G.fc_step rfl (fun K hK => ?_)
      have hAz := HQ.out.z; have hAn := HQ.out.n
      go_simp
      refine hK _ _ (show G.Gr wb w8 from hg8) ?_
      clear hK K hst8 hg8
      refine G.fc_nil (G.mt_take _ (G.Gr.refl _) ?_)
      simp only [pick_cons, pick_nil, nth_zero, nth_succ]
      repeat (go_big_quiet_step (fail))
      refine wpQuiet_nil (G.mt_end ?_)
      clear iM
      go_wp2
      exact bodyPost_ret (v := .tuple #[.agg qs, .slice (some ⟨wa.heap.size, 0, none⟩) 1 1, iv 0]) (results_cell_tmp_tmp Tryd.results8 _ _ (w.heap.size + 2) _ _ _ _ rfl HZ8.out Tryd.underlying31 rfl (by rw [List.size_toArray, Array.length_toList]; exact HdI)) rfl (by
        rw [HRE.out]
        exact ⟨qs, _, 1, rfl, HQ.out, Nat.le_refl _, by omega, by have q := HN8.out.rd; rw [HKS.out.l] at q; simpa using q, HK8.out⟩)
    · simp only [pick_cons, pick_nil, nth_zero, nth_succ]
      have hlt := HRa.out.lt
      have HdI := HQ.out.i
      obtain ⟨w7, hst8, hb7, hg8⟩ := run_store_blk (P := Tryd.prog) qs.toList HRa.out (by rw [Array.length_toList, Array.length_toList, hzz, HQ.out.z]) HQ.out.o
      have HZ7 := Lib.hid hb7
      have HK7 : Hid (Keep w w7) := Lib.hid (HKa.out.grown hg8 HKa.out.size (fun q hq => by injection hq with hq; omega))
      clear hb7 b2 hne0 RGa
      refine G.fc_step rfl (fun K hK => ?_)
      have hAz := HQ.out.z; have hAn := HQ.out.n
      go_simp
      refine hK _ _ (show G.Gr wa w7 from hg8) ?_
      clear hK K hst8 hg8 HBa HRa HKa
      refine G.fc_nil (G.mt_force ?_)
      simp only [pick_cons, pick_nil, nth_zero, nth_succ]
      refine G.fc_step rfl (fun K hK => ?_)
      refine wp_build1b msgsT _ (by rfl) ks hkz (by omega) (by rfl) ?_
      refine hK _ _ (G.Gr.of_keep (keep_new _ _)) ?_
      clear hK K
      obtain ⟨w8, hwb⟩ : ∃ wb, wb = w7.alloc (.cells ks 50) := ⟨_, rfl⟩
      have HZ8 : Hid (Blk w8 (w.heap.size + 2) 31 qs.toList) := by rw [hwb]; exact Lib.hid (HZ7.out.alloc _)
      have HN8 : Hid (Blk w8 w7.heap.size 50 ks.toList) := by rw [hwb]; exact Lib.hid (Blk.new w7 _ (ks.toList))
      have HK8 : Hid (Keep w w8) := by rw [hwb]; exact Lib.hid (keep_trans HK7.out (keep_new _ _))
      rw [← hwb]
      clear hwb HZ7 HK7
      simp only [Act.put, Array.set!_eq_setIfInBounds, List.setIfInBounds_toArray, List.set_cons_succ, List.set_cons_zero]
      refine G.fc_nil (G.mt_take _ (G.Gr.refl _) ?_)
      simp only [pick_cons, pick_nil, nth_zero, nth_succ]
      repeat (go_big_quiet_step (fail))
      refine wpQuiet_nil (G.mt_end ?_)
      clear iM
      go_wp2
      exact bodyPost_ret (v := .tuple #[.agg qs, .slice (some ⟨w7.heap.size, 0, none⟩) 1 1, iv 0]) (results_cell_tmp_tmp Tryd.results8 _ _ (w.heap.size + 2) _ _ _ _ rfl HZ8.out Tryd.underlying31 rfl (by rw [List.size_toArray, Array.length_toList]; exact HdI)) rfl (by
        rw [HRE.out]
        exact ⟨qs, _, 1, rfl, HQ.out, Nat.le_refl _, by omega, by have q := HN8.out.rd; rw [HKS.out.l] at q; simpa using q, HK8.out⟩)
  have he3 : ∀ w, (Go.binOp .eql 89 (.agg #[iv q.stage, iv m.kind]) (.agg #[iv 2, iv 2])).run Tryd.prog w = .ok (.bool false) w := fun w => by rw [event_eq, ev_f c3]
  have hi3 : ∀ w, (Op.equalIn 10000 89 (.agg #[iv q.stage, iv m.kind]) (.agg #[iv 2, iv 2])).run Tryd.prog w = .ok false w := fun w => by rw [ev_in, ev_f c3]
  have HT3 := Lib.hid (HT2.out.trans (if_neg c3))
  clear HT2 c3
  by_cases c4 : q.stage = 2 ∧ m.kind = 5
  · have hR : R = ({ q with asked := false, misses := 0 }, [], 0) := HT3.out.trans (if_pos c4)
    have he4 : ∀ w, (Go.binOp .eql 89 (.agg #[iv q.stage, iv m.kind]) (.agg #[iv 2, iv 5])).run Tryd.prog w = .ok (.bool true) w := fun w => by rw [event_eq, ev_t c4]
    have hi4 : ∀ w, (Op.equalIn 10000 89 (.agg #[iv q.stage, iv m.kind]) (.agg #[iv 2, iv 5])).run Tryd.prog w = .ok true w := fun w => by rw [ev_in, ev_t c4]
    have HRE := Lib.hid hR
    have f3 := HB4.out.frozen 3
    have f5 := HB4.out.frozen 5
    have r3 : w4.cell? ⟨w.heap.size, 3, none⟩ = some (.bool q.asked) := (HB4.out.cell 3).trans rfl
    have r5 : w4.cell? ⟨w.heap.size, 5, none⟩ = some (iv q.misses) := (HB4.out.cell 5).trans rfl
    clear c4 HT3 hR
    go_upto_region 18 with fail
    obtain ⟨wx, hwx⟩ : ∃ wx, wx = ((w4.setCell ⟨w.heap.size, 3, none⟩ (.bool false)).setCell ⟨w.heap.size, 5, none⟩ (.int .i64 0)) := ⟨_, rfl⟩
    have HX : Blk wx w.heap.size 31 ({ q with asked := false, misses := 0 }).cells := by rw [hwx]; exact ((HB4.out.set_ 3 (.bool false)).set_ 5 (.int .i64 0))
    have HRX : Hid (Blk wx (w.heap.size + 2) 31 zs.toList) := by rw [hwx]; exact Lib.hid ((HR4.out.far (by simp <;> omega) _).far (by simp <;> omega) _)
    have HKX : Hid (Keep w wx) := by rw [hwx]; exact Lib.hid (Below.setCell (Below.setCell HK4.out (by simp <;> omega) _) (by simp <;> omega) _)
    rw [← hwx]
    clear hwx r3 r5 f3 f5
    obtain ⟨ds, hds⟩ : ∃ ds, PeA ({ q with asked := false, misses := 0 }) ds := ⟨_, PeA.of _⟩
    have HDS := Lib.hid hds
    have HBx : Hid (Blk wx w.heap.size 31 ds.toList) := by rw [HDS.out.l]; exact Lib.hid HX
    clear hds HX HR4 HK4 HB4 HBc4
    obtain ⟨w8, hst8, hb8, hg8⟩ := run_store_blk (P := Tryd.prog) ds.toList HRX.out (by rw [Array.length_toList, Array.length_toList, hzz, HDS.out.z]) HDS.out.o
    have Hb8 := Lib.hid hb8; have Hg8 := Lib.hid hg8
    have hdi8 := HDS.out.i
    have hdn8 := HDS.out.n
    have hdz8 := HDS.out.z
    clear hb8 hg8
    go_wp2_with ((with_reducible refine load_arr w.heap.size ds (Eq.trans ?_ rfl) HBx.out _ Tryd.underlying31 rfl hdi8 ?_); rfl)
    exact bodyPost_ret (v := .tuple #[.agg ds, .slice none 0 0, iv 0]) (results_cell_tmp_tmp Tryd.results8 _ _ (w.heap.size + 2) _ _ _ _ rfl Hb8.out Tryd.underlying31 rfl (by rw [List.size_toArray, Array.length_toList]; exact hdi8)) rfl (by
      rw [HRE.out]
      exact ⟨ds, none, 0, rfl, HDS.out, Nat.le_refl _, Nat.zero_le _, Rd.nil _ _, HKX.out.grown Hg8.out HKX.out.size (fun q hq => by injection hq with hq; omega)⟩)
  have he4 : ∀ w, (Go.binOp .eql 89 (.agg #[iv q.stage, iv m.kind]) (.agg #[iv 2, iv 5])).run Tryd.prog w = .ok (.bool false) w := fun w => by rw [event_eq, ev_f c4]
  have hi4 : ∀ w, (Op.equalIn 10000 89 (.agg #[iv q.stage, iv m.kind]) (.agg #[iv 2, iv 5])).run Tryd.prog w = .ok false w := fun w => by rw [ev_in, ev_f c4]
  have HT4 := Lib.hid (HT3.out.trans (if_neg c4))
  clear HT3 c4
  by_cases h5 : q.stage = 2
  · have d5 : (q.stage == 2) = true := by rw [h5]; rfl
    by_cases h6 : m.kind = 0
    · have d6 : (m.kind != 0) = false := by rw [h6]; rfl
      have hR : R = (q.ban, [], 15) := HT4.out.trans (if_neg (fun h => h.2.1 h6))
      clear h5 h6
      have hR0 := hR
      have HRE := Lib.hid hR
      clear hR hR0 HT4
      go_wp2_with ((with_reducible refine load_arr w.heap.size qs (Eq.trans ?_ rfl) HBc4.out _ Tryd.underlying31 rfl hqi ?_); rfl)
      refine (banned_any _ qs HQ.out _).mono ?_
      rintro e w5 ⟨bs, rfl, hbA, k5⟩
      have hbn := hbA.n; have hbz := hbA.z; have hbi := hbA.i
      have HBA := Lib.hid hbA
      have HK5 := Lib.hid (keep_trans HK4.out k5)
      obtain ⟨w8, hst8, hb8, hg8⟩ := run_store_blk (P := Tryd.prog) bs.toList (HR4.out.keep k5) (by rw [Array.length_toList, Array.length_toList, hzz, hbz]) hbA.o
      have Hb8 := Lib.hid hb8; have Hg8 := Lib.hid hg8
      clear hb8 hg8 hbA k5
      go_wp2
      exact bodyPost_ret (v := .tuple #[.agg bs, .slice none 0 0, iv 15]) (results_cell_tmp_tmp Tryd.results8 _ _ (w.heap.size + 2) _ _ _ _ rfl Hb8.out Tryd.underlying31 rfl (by rw [List.size_toArray, Array.length_toList]; exact hbi)) rfl (by
        rw [HRE.out]
        exact ⟨bs, none, 0, rfl, HBA.out, Nat.le_refl _, Nat.zero_le _, Rd.nil _ _, HK5.out.grown Hg8.out HK5.out.size (fun q hq => by injection hq with hq; omega)⟩)
    · have d6 : (m.kind != 0) = true := by simpa [bne_iff_ne] using h6
      by_cases h7 : m.kind = 1
      · have d7 : (m.kind != 1) = false := by rw [h7]; rfl
        have hR : R = (q.ban, [], 15) := HT4.out.trans (if_neg (fun h => h.2.2 h7))
        clear h5 h6 h7
        have hR0 := hR
        have HRE := Lib.hid hR
        clear hR hR0 HT4
        go_wp2_with ((with_reducible refine load_arr w.heap.size qs (Eq.trans ?_ rfl) HBc4.out _ Tryd.underlying31 rfl hqi ?_); rfl)
        refine (banned_any _ qs HQ.out _).mono ?_
        rintro e w5 ⟨bs, rfl, hbA, k5⟩
        have hbn := hbA.n; have hbz := hbA.z; have hbi := hbA.i
        have HBA := Lib.hid hbA
        have HK5 := Lib.hid (keep_trans HK4.out k5)
        obtain ⟨w8, hst8, hb8, hg8⟩ := run_store_blk (P := Tryd.prog) bs.toList (HR4.out.keep k5) (by rw [Array.length_toList, Array.length_toList, hzz, hbz]) hbA.o
        have Hb8 := Lib.hid hb8; have Hg8 := Lib.hid hg8
        clear hb8 hg8 hbA k5
        go_wp2
        exact bodyPost_ret (v := .tuple #[.agg bs, .slice none 0 0, iv 15]) (results_cell_tmp_tmp Tryd.results8 _ _ (w.heap.size + 2) _ _ _ _ rfl Hb8.out Tryd.underlying31 rfl (by rw [List.size_toArray, Array.length_toList]; exact hbi)) rfl (by
          rw [HRE.out]
          exact ⟨bs, none, 0, rfl, HBA.out, Nat.le_refl _, Nat.zero_le _, Rd.nil _ _, HK5.out.grown Hg8.out HK5.out.size (fun q hq => by injection hq with hq; omega)⟩)
      · have d7 : (m.kind != 1) = true := by simpa [bne_iff_ne] using h7
        have hR : R = (q, [], 0) := HT4.out.trans (if_pos ⟨h5, h6, h7⟩)
        clear h5 h6 h7
        obtain ⟨w8, hst8, hb8, hg8⟩ := run_store_blk (P := Tryd.prog) qs.toList HR4.out (by rw [Array.length_toList, Array.length_toList, hzz, HQ.out.z]) HQ.out.o
        have Hb8 := Lib.hid hb8; have Hg8 := Lib.hid hg8
        have hdi8 := HQ.out.i
        have hdn8 := HQ.out.n
        have hdz8 := HQ.out.z
        have HRE := Lib.hid hR
        clear hb8 hg8 hR HT4
        go_wp2_with ((with_reducible refine load_arr w.heap.size qs (Eq.trans ?_ rfl) HBc4.out _ Tryd.underlying31 rfl hdi8 ?_); rfl)
        exact bodyPost_ret (v := .tuple #[.agg qs, .slice none 0 0, iv 0]) (results_cell_tmp_tmp Tryd.results8 _ _ (w.heap.size + 2) _ _ _ _ rfl Hb8.out Tryd.underlying31 rfl (by rw [List.size_toArray, Array.length_toList]; exact hdi8)) rfl (by
          rw [HRE.out]
          exact ⟨qs, none, 0, rfl, HQ.out, Nat.le_refl _, Nat.zero_le _, Rd.nil _ _, HK4.out.grown Hg8.out HK4.out.size (fun q hq => by injection hq with hq; omega)⟩)
  · have d5 : (q.stage == 2) = false := by rw [beq_eq_false_iff_ne]; exact h5
    have hR : R = (q.ban, [], 15) := HT4.out.trans (if_neg (fun h => h5 h.1))
    clear h5
    have hR0 := hR
    have HRE := Lib.hid hR
    clear hR hR0 HT4
    go_wp2_with ((with_reducible refine load_arr w.heap.size qs (Eq.trans ?_ rfl) HBc4.out _ Tryd.underlying31 rfl hqi ?_); rfl)
    refine (banned_any _ qs HQ.out _).mono ?_
    rintro e w5 ⟨bs, rfl, hbA, k5⟩
    have hbn := hbA.n; have hbz := hbA.z; have hbi := hbA.i
    have HBA := Lib.hid hbA
    have HK5 := Lib.hid (keep_trans HK4.out k5)
    obtain ⟨w8, hst8, hb8, hg8⟩ := run_store_blk (P := Tryd.prog) bs.toList (HR4.out.keep k5) (by rw [Array.length_toList, Array.length_toList, hzz, hbz]) hbA.o
    have Hb8 := Lib.hid hb8; have Hg8 := Lib.hid hg8
    clear hb8 hg8 hbA k5
    go_wp2
    exact bodyPost_ret (v := .tuple #[.agg bs, .slice none 0 0, iv 15]) (results_cell_tmp_tmp Tryd.results8 _ _ (w.heap.size + 2) _ _ _ _ rfl Hb8.out Tryd.underlying31 rfl (by rw [List.size_toArray, Array.length_toList]; exact hbi)) rfl (by
      rw [HRE.out]
      exact ⟨bs, none, 0, rfl, HBA.out, Nat.le_refl _, Nat.zero_le _, Rd.nil _ _, HK5.out.grown Hg8.out HK5.out.size (fun q hq => by injection hq with hq; omega)⟩)
end Go.Proofs.YtffpanlpbdnafaaDoor

/- frame.Sane, peer.Sane, taken, Judge of any peer (printed by gen_ql.py) -/
set_option linter.unusedSimpArgs false
set_option linter.unusedVariables false
namespace Go.Proofs.YtffpanlpbdnafaaDoor
open Go.RowKit
attribute [local go_sem ↓] Go.wp_at_zero Go.wp_at_succ
/-- May a stream be? -/
def fsaneF (g : UInt32) (n : Int) (l : List UInt8) (b : Int) : Bool := decide (n = bndF n) && (if b = 0 then decide ((getF g n l).2.2 = 1) else decide (l.length = 0))
/-- A peer in memory: what is left of its bytes. -/
structure PeR.at_ (p : PeR) (w : World) : Prop where
  r : Rd w p.rA (p.rs.map u8v)
  c : p.rs.length ≤ p.rc ∧ p.rc ≤ maxLen
  b : p.rs.length ≤ 1000000000
theorem PeR.at_.keep {p : PeR} {w w' : World} (h : p.at_ w) (k : Keep w w') : p.at_ w' := ⟨h.r.keep k, h.c, h.b⟩
theorem fmsg_new {zs ds : Array Value} (hz : zs.size = 2) (v0 v1 : Value) (h0 : v0.oneCell' = true) (h1 : v1.oneCell' = true) (y : World) : (storeCells ⟨y.heap.size, 0, none⟩ [v0, v1] 0).run Tryd.prog (y.alloc (.cells zs 71)) = .ok () (y.alloc (.cells #[v0, v1] 71)) :=
  run_storeCells_new (P := Tryd.prog) y 71 zs #[v0, v1] fmsg_info (by rw [hz]; rfl) (by simp [h0, h1])
set_option maxRecDepth 100000 in
set_option maxHeartbeats 4000000 in
theorem fsane_gen (g : UInt32) (n : Int) (A : Option Addr) (l : List UInt8) (L c : Nat) (b : Int) (bs : Array Value) (hL : l.length = L) (hc : L ≤ c ∧ c ≤ maxLen) (hbig : L ≤ 1000000000) (h : BuA (bufL g n A L c b) bs) (w : World) (hr : Rd w A (l.map u8v)) (hS : ShaOk w) :
    Calls Tryd.prog 29 #[.agg bs] w fun e w' => e = .returned (.bool (fsaneF g n l b)) ∧ Keep w w' := by
  have BN : Hid (∀ y, Calls Tryd.prog 42 #[iv n] y fun e w' => e = .returned (iv (bndF n)) ∧ Keep y w') := Lib.hid fun y => bounded_any n y
  have GN : Hid (∀ y, Keep w y → Calls Tryd.prog 18 #[u32v g, iv n, .slice A L c] y fun e w' => ∃ s P q pc N, e = .returned (.tuple #[.agg #[.string s, .slice P q pc], iv N, iv (getF g n l).2.2]) ∧ Keep y w') := Lib.hid fun y hy =>
    (fget_any g n A l L c y hL (hS.keep hy) hc hbig (hr.keep hy)).mono fun e w' ⟨P, pc, h1, _, _, _, h2⟩ => ⟨_, P, _, pc, _, h1, h2⟩
  obtain ⟨zm, hz0, hzz, hzn, hzo⟩ := zfmsg_letter
  have hbn := h.n; have hbz := h.z; have hbi := h.i
  have HA := Lib.hid h
  have HF : Hid (fsaneF g n l b = (decide (n = bndF n) && (if b = 0 then decide ((getF g n l).2.2 = 1) else decide (L = 0)))) := Lib.hid (by rw [← hL]; rfl)
  generalize fsaneF g n l b = F at *
  generalize (getF g n l).2.2 = E at *
  generalize bndF n = B at *
  have hfz : zm.size = 2 := hzz
  clear h hzo hc hbig hr hS hL
  obtain ⟨d, hd⟩ : ∃ d, (n != B) = d := ⟨_, rfl⟩
  obtain ⟨p, hp⟩ : ∃ p, (b != 0) = p := ⟨_, rfl⟩
  have hF : F = (!d && (if p then decide (L = 0) else decide (E = 1))) := by
    rw [HF.out, ← hd, ← hp]
    by_cases e1 : n = B <;> by_cases e2 : b = 0 <;> simp [e1, e2, bne]
  have HF2 := Lib.hid hF
  clear HF hF
  go_enter Tryd.func29, Tryd.ntmps29
  go_upto_region 1 with fail
  obtain ⟨w1, hw1⟩ : ∃ w1, w1 = w.alloc (.cells bs 29) := ⟨_, rfl⟩
  have HB1 : Hid (Blk w1 w.heap.size 29 (bufL g n A L c b)) := by rw [hw1, ← HA.out.l]; exact Lib.hid (Blk.new w _ bs.toList)
  have HK1 : Hid (Keep w w1) := by rw [hw1]; exact Lib.hid (keep_new _ _)
  rw [← hw1]
  clear hw1
  refine wp_region_tree (.take [0,1,2,3] (.force [4] (.take [5] .done))) [] (by kernel_rfl) (by kernel_rfl) (fun w9 k9 => ?_)
  have HB9 := Lib.hid (HB1.out.keep k9)
  have HK9 := Lib.hid (keep_trans HK1.out k9)
  have q1 := aft_cell (HB9.out.cell 1)
  clear HB1 HK1 k9
  refine mt_take w9 (Below.refl _ _) ?_
  simp only [pick_cons, pick_nil, nth_zero, nth_succ]
  repeat (go_big_quiet_step (fail))
  refine wpQuiet_nil (mt_force ?_)
  simp only [pick_cons, pick_nil, nth_zero, nth_succ]
  refine fc_step rfl (fun K hK => ?_)
  go_simp
  (with_reducible refine (BN.out _).mono ?_)
  rintro e w2 ⟨rfl, k2⟩
  refine hK _ _ k2 ?_
  clear hK K BN
  have HB2 := Lib.hid (HB9.out.keep k2)
  have HK2 := Lib.hid (keep_trans HK9.out k2)
  clear HB9 HK9 k2 q1
  refine fc_nil (mt_take w2 (Below.refl _ _) ?_)
  simp only [pick_cons, pick_nil, nth_zero, nth_succ]
  repeat (go_big_quiet_step (fail))
  refine wpQuiet_nil (mt_end ?_)
  have r0 : w2.cell? ⟨w.heap.size, 0, none⟩ = some (u32v g) := (HB2.out.cell 0).trans rfl
  have r1 : w2.cell? ⟨w.heap.size, 1, none⟩ = some (iv n) := (HB2.out.cell 1).trans rfl
  have r2 : w2.cell? ⟨w.heap.size, 2, none⟩ = some (.slice A L c) := (HB2.out.cell 2).trans rfl
  have r3 : w2.cell? ⟨w.heap.size, 3, none⟩ = some (iv b) := (HB2.out.cell 3).trans rfl
  cases d
  · cases p
    · have hF : F = decide (E = 1) := by rw [HF2.out]; simp
      clear HF2
      go_wp2_with fail
      refine (GN.out _ HK2.out).mono ?_
      clear GN r0 r1 r2 r3
      rintro e w3 ⟨s, P, q, pc, N, rfl, k3⟩
      have HK3 := Lib.hid (keep_trans HK2.out k3)
      clear HK2 k3 HB2
      have hst : ∀ ww : World, (storeCells ⟨ww.heap.size, 0, none⟩ [.string s, .slice P q pc] 0).run Tryd.prog (ww.alloc (.cells zm 71)) = .ok () (ww.alloc (.cells #[.string s, .slice P q pc] 71)) := fun ww => fmsg_new (ds := #[]) hfz _ _ rfl rfl ww
      by_cases hE : E = 1
      · have d1 : (E == 1) = true := by rw [hE]; rfl
        have hFT : F = true := by rw [hF, decide_eq_true hE]
        subst hFT
        subst hE
        clear hF
        go_wp2
        all_goals exact bodyPost_ret (v := .bool true) (by simp [results, Tryd.results29]) rfl ⟨rfl, keep_trans HK3.out (keep_new _ _)⟩
      · have d1 : (E == 1) = false := by rw [beq_eq_false_iff_ne]; exact hE
        have hFF : F = false := by rw [hF, decide_eq_false hE]
        subst hFF
        clear hF hE
        go_wp2
        all_goals exact bodyPost_ret (v := .bool false) (by simp [results, Tryd.results29]) rfl ⟨rfl, keep_trans HK3.out (keep_new _ _)⟩
    · have hF : F = decide (L = 0) := by rw [HF2.out]; simp
      clear HF2 GN
      by_cases hE : L = 0
      · have d1 : ((L : Int) == 0) = true := by rw [hE]; rfl
        have d2 : (L : Int) = 0 := by omega
        have hFT : F = true := by rw [hF, decide_eq_true hE]
        subst hFT
        subst hE
        clear hF
        go_wp2
        exact bodyPost_ret (v := .bool true) (by simp [results, Tryd.results29]) rfl ⟨rfl, HK2.out⟩
      · have d1 : ((L : Int) == 0) = false := by rw [beq_eq_false_iff_ne]; omega
        have d2 : ¬ (L : Int) = 0 := by omega
        have hFF : F = false := by rw [hF, decide_eq_false hE]
        subst hFF
        clear hF
        go_wp2
        exact bodyPost_ret (v := .bool false) (by simp [results, Tryd.results29]) rfl ⟨rfl, HK2.out⟩
  · have hF : F = false := by rw [HF2.out]; simp
    subst hF
    clear HF2 GN
    go_wp2
    exact bodyPost_ret (v := .bool false) (by simp [results, Tryd.results29]) rfl ⟨rfl, HK2.out⟩
def saneG (p : PeR) : Bool := decide (0 ≤ p.stage ∧ p.stage ≤ 3) && decide (0 ≤ p.misses ∧ p.misses ≤ 3) && (decide (0 ≤ p.until_) && !decide (1099511627776 < p.until_)) && (!p.asked || p.stage == 2) && fsaneF p.magic p.cap p.rs p.bad

set_option maxRecDepth 100000 in
set_option maxHeartbeats 4000000 in
theorem psane_gen (p : PeR) (cs : Array Value) (hA : PeA p cs) (w : World) (ha : p.at_ w) (hS : ShaOk w) :
    Calls Tryd.prog 12 #[.agg cs] w fun e w' => e = .returned (.bool (saneG p)) ∧ Keep w w' := by
  obtain ⟨bs, hbs⟩ : ∃ bs, BuA (bufL p.magic p.cap p.rA p.rs.length p.rc p.bad) bs := ⟨_, BuA.of ..⟩
  have FS : Hid (∀ y, Keep w y → Calls Tryd.prog 29 #[.agg bs] y fun e w' => e = .returned (.bool (fsaneF p.magic p.cap p.rs p.bad)) ∧ Keep y w') := Lib.hid fun y hy => fsane_gen _ _ _ _ _ _ _ bs rfl ha.c ha.b hbs y (ha.r.keep hy) (hS.keep hy)
  have hcn := hA.n; have hcz := hA.z; have hci := hA.i
  have hbn := hbs.n; have hbz := hbs.z; have hbi := hbs.i
  have HS : Hid (saneG p = (decide (0 ≤ p.stage ∧ p.stage ≤ 3) && decide (0 ≤ p.misses ∧ p.misses ≤ 3) && (decide (0 ≤ p.until_) && !decide (1099511627776 < p.until_)) && (!p.asked || p.stage == 2) && fsaneF p.magic p.cap p.rs p.bad)) := Lib.hid rfl
  have HA := Lib.hid hA
  have HBC : Hid (p.cells = [iv p.stage, u64v p.nonce, u32v p.height, .bool p.asked, iv p.until_, iv p.misses] ++ bs.toList) := by
    rw [hbs.l]; unfold PeR.cells bufL; exact Lib.hid rfl
  clear hA hbs ha hS
  generalize saneG p = S at *
  generalize fsaneF p.magic p.cap p.rs p.bad = F at *
  go_enter Tryd.func12, Tryd.ntmps12
  go_upto_region 1 with fail
  obtain ⟨w1, hw1⟩ : ∃ w1, w1 = w.alloc (.cells cs 31) := ⟨_, rfl⟩
  have HB1 : Hid (Blk w1 w.heap.size 31 p.cells) := by rw [hw1, ← HA.out.l]; exact Lib.hid (Blk.new w _ cs.toList)
  have HK1 : Hid (Keep w w1) := by rw [hw1]; exact Lib.hid (keep_new _ _)
  rw [← hw1]
  clear hw1
  have r0 : w1.cell? ⟨w.heap.size, 0, none⟩ = some (iv p.stage) := (HB1.out.cell 0).trans rfl
  have r3 : w1.cell? ⟨w.heap.size, 3, none⟩ = some (.bool p.asked) := (HB1.out.cell 3).trans rfl
  have r4 : w1.cell? ⟨w.heap.size, 4, none⟩ = some (iv p.until_) := (HB1.out.cell 4).trans rfl
  have r5 : w1.cell? ⟨w.heap.size, 5, none⟩ = some (iv p.misses) := (HB1.out.cell 5).trans rfl
  have RB : Hid (w1.rangeAt w.heap.size 6 bs.toList) := Lib.hid (range_of HB1.out 6 bs.toList (by rw [HBC.out]; simp [List.take_of_length_le]))
  clear HB1 HBC
  generalize p.stage = st at *
  generalize p.asked = ak at *
  generalize p.until_ = un at *
  generalize p.misses = mi at *
  by_cases h0 : st < 0
  · have hS : S = false := by rw [HS.out, show decide (0 ≤ st ∧ st ≤ 3) = false from by simp; omega]; rfl
    go_wp2
    exact bodyPost_ret (v := .bool false) (by simp [results, Tryd.results12]) rfl ⟨by first | rfl | rw [hS], HK1.out⟩
  by_cases h1 : 3 < st
  · have hS : S = false := by rw [HS.out, show decide (0 ≤ st ∧ st ≤ 3) = false from by simp; omega]; rfl
    go_wp2
    exact bodyPost_ret (v := .bool false) (by simp [results, Tryd.results12]) rfl ⟨by first | rfl | rw [hS], HK1.out⟩
  have e1 : decide (0 ≤ st ∧ st ≤ 3) = true := by rw [decide_eq_true_eq]; omega
  by_cases h2 : mi < 0
  · have hS : S = false := by rw [HS.out, e1, show decide (0 ≤ mi ∧ mi ≤ 3) = false from by simp; omega]; rfl
    go_wp2
    exact bodyPost_ret (v := .bool false) (by simp [results, Tryd.results12]) rfl ⟨by first | rfl | rw [hS], HK1.out⟩
  by_cases h3 : 3 < mi
  · have hS : S = false := by rw [HS.out, e1, show decide (0 ≤ mi ∧ mi ≤ 3) = false from by simp; omega]; rfl
    go_wp2
    exact bodyPost_ret (v := .bool false) (by simp [results, Tryd.results12]) rfl ⟨by first | rfl | rw [hS], HK1.out⟩
  have e2 : decide (0 ≤ mi ∧ mi ≤ 3) = true := by rw [decide_eq_true_eq]; omega
  by_cases h4 : un < 0
  · have hS : S = false := by rw [HS.out, e1, e2, show decide (0 ≤ un) = false from by simp; omega]; rfl
    go_wp2
    exact bodyPost_ret (v := .bool false) (by simp [results, Tryd.results12]) rfl ⟨by first | rfl | rw [hS], HK1.out⟩
  have e4 : decide (0 ≤ un) = true := by rw [decide_eq_true_eq]; omega
  obtain ⟨u, hu⟩ : ∃ u, decide (1099511627776 < un) = u := ⟨_, rfl⟩
  have HS2 : Hid (S = (!u && (!ak || st == 2) && F)) := by rw [HS.out, e1, e2, e4, hu]; exact Lib.hid (by simp)
  clear HS e1 e2 e4
  cases u
  · by_cases hk : ak = true
    · subst hk
      by_cases h6 : st = 2
      · subst h6
        go_wp2_with ((with_reducible refine load_partg w.heap.size 6 bs (Eq.trans ?_ rfl) RB.out _ Tryd.underlying29 rfl hbi rfl ?_); rfl)
        refine (FS.out _ HK1.out).mono ?_
        clear FS r0 r3 r4 r5
        rintro e w3 ⟨rfl, k3⟩
        have HK3 := Lib.hid (keep_trans HK1.out k3)
        clear k3
        go_wp2
        exact bodyPost_ret (v := .bool F) (by simp [results, Tryd.results12]) rfl ⟨by rw [HS2.out]; simp, HK3.out⟩
      · have d6 : (st != 2) = true := by simpa [bne_iff_ne] using h6
        have hS : S = false := by rw [HS2.out]; simp [h6]
        clear h6
        go_wp2
        exact bodyPost_ret (v := .bool false) (by simp [results, Tryd.results12]) rfl ⟨by first | rfl | rw [hS], HK1.out⟩
    · have hk : ak = false := by simpa using hk
      subst hk
      go_wp2_with ((with_reducible refine load_partg w.heap.size 6 bs (Eq.trans ?_ rfl) RB.out _ Tryd.underlying29 rfl hbi rfl ?_); rfl)
      refine (FS.out _ HK1.out).mono ?_
      clear FS r0 r3 r4 r5
      rintro e w3 ⟨rfl, k3⟩
      have HK3 := Lib.hid (keep_trans HK1.out k3)
      clear k3
      go_wp2
      exact bodyPost_ret (v := .bool F) (by simp [results, Tryd.results12]) rfl ⟨by rw [HS2.out]; simp, HK3.out⟩
  · have hS : S = false := by rw [HS2.out]; rfl
    go_wp2
    exact bodyPost_ret (v := .bool false) (by simp [results, Tryd.results12]) rfl ⟨by first | rfl | rw [hS], HK1.out⟩

def takenG (p : PeR) : PeR := if saneG p then p else newP p.magic p.cap
set_option maxRecDepth 100000 in
set_option maxHeartbeats 4000000 in
theorem ptaken_gen (p : PeR) (cs : Array Value) (hA : PeA p cs) (w : World) (ha : p.at_ w) (hS : ShaOk w) :
    Calls Tryd.prog 26 #[.agg cs] w fun e w' => ∃ ds, e = .returned (.agg ds) ∧ PeA (takenG p) ds ∧ Keep w w' := by
  obtain ⟨zs, hz0, hzA⟩ := zpeer_letter
  have PS : Hid (∀ y, Keep w y → Calls Tryd.prog 12 #[.agg cs] y fun e w' => e = .returned (.bool (saneG p)) ∧ Keep y w') := Lib.hid fun y hy => psane_gen p cs hA y (ha.keep hy) (hS.keep hy)
  have PN : Hid (∀ y, Calls Tryd.prog 9 #[u32v p.magic, iv p.cap] y fun e w' => ∃ ps, e = .returned (.agg ps) ∧ PeA (newP p.magic p.cap) ps ∧ Keep y w') := Lib.hid fun y => pnew_any _ _ y
  have HT : Hid (takenG p = if saneG p then p else newP p.magic p.cap) := Lib.hid rfl
  have hcn := hA.n; have hcz := hA.z; have hci := hA.i
  have hzn := hzA.n; have hzz := hzA.z
  have HA := Lib.hid hA; have HZ := Lib.hid hzA
  clear hA hzA ha hS
  generalize takenG p = T at *
  generalize saneG p = S at *
  generalize newP p.magic p.cap = N at *
  go_enter Tryd.func26, Tryd.ntmps26
  go_upto_region 1 with fail
  obtain ⟨w1, hw1⟩ : ∃ w1, w1 = (w.alloc (.cells cs 31)).alloc (.cells zs 31) := ⟨_, rfl⟩
  have HB1 : Hid (Blk w1 w.heap.size 31 cs.toList) := by rw [hw1]; exact Lib.hid ((Blk.new w _ cs.toList).alloc _)
  have HR1 : Hid (Blk w1 (w.heap.size + 1) 31 zs.toList) := by
    rw [hw1]
    have h2 := Blk.new (w.alloc (.cells cs 31)) 31 zs.toList
    rw [World.size_alloc] at h2
    exact Lib.hid h2
  have HK1 : Hid (Keep w w1) := by rw [hw1]; exact Lib.hid (keep_trans (keep_new _ _) (keep_new _ _))
  rw [← hw1]
  clear hw1
  go_wp2_with ((with_reducible refine load_arr w.heap.size cs (Eq.trans ?_ rfl) HB1.out _ Tryd.underlying31 rfl hci ?_); rfl)
  refine (PS.out _ HK1.out).mono ?_
  clear PS
  rintro e w2 ⟨rfl, k2⟩
  have HB2 := Lib.hid (HB1.out.keep k2)
  have HR2 := Lib.hid (HR1.out.keep k2)
  have HK2 := Lib.hid (keep_trans HK1.out k2)
  clear k2 HB1 HR1 HK1
  have HBp : Hid (Blk w2 w.heap.size 31 p.cells) := by rw [← HA.out.l]; exact HB2
  cases S
  · have r6 : w2.cell? ⟨w.heap.size, 6, none⟩ = some (u32v p.magic) := (HBp.out.cell 6).trans rfl
    have r7 : w2.cell? ⟨w.heap.size, 7, none⟩ = some (iv p.cap) := (HBp.out.cell 7).trans rfl
    go_wp2_with fail
    refine (PN.out _).mono ?_
    clear PN r6 r7
    rintro e w3 ⟨ps, rfl, hpA, k3⟩
    have hpn := hpA.n; have hpz := hpA.z; have hpi := hpA.i
    have HP := Lib.hid hpA
    have HK3 := Lib.hid (keep_trans HK2.out k3)
    obtain ⟨w8, hst8, hb8, hg8⟩ := run_store_blk (P := Tryd.prog) ps.toList (HR2.out.keep k3) (by rw [Array.length_toList, Array.length_toList, hzz, hpz]) hpA.o
    have Hb8 := Lib.hid hb8; have Hg8 := Lib.hid hg8
    clear hb8 hg8 hpA k3 HB2 HR2 HK2 HBp
    go_wp2
    exact bodyPost_ret (v := .agg ps) (results_cell_row Tryd.results26 _ _ (w.heap.size + 1) _ _ _ _ rfl Hb8.out Tryd.underlying31 rfl (by rw [List.size_toArray, Array.length_toList]; exact hpi)) rfl ⟨ps, rfl, by rw [HT.out]; exact HP.out, HK3.out.grown Hg8.out HK3.out.size (fun q hq => by injection hq with hq; omega)⟩
  · obtain ⟨w8, hst8, hb8, hg8⟩ := run_store_blk (P := Tryd.prog) cs.toList HR2.out (by rw [Array.length_toList, Array.length_toList, hzz, hcz]) HA.out.o
    have Hb8 := Lib.hid hb8; have Hg8 := Lib.hid hg8
    clear hb8 hg8 HR2 HBp
    go_wp2_with ((with_reducible refine load_arr w.heap.size cs (Eq.trans ?_ rfl) HB2.out _ Tryd.underlying31 rfl hci ?_); rfl)
    exact bodyPost_ret (v := .agg cs) (results_cell_row Tryd.results26 _ _ (w.heap.size + 1) _ _ _ _ rfl Hb8.out Tryd.underlying31 rfl (by rw [List.size_toArray, Array.length_toList]; exact hci)) rfl ⟨cs, rfl, by rw [HT.out]; exact HA.out, HK2.out.grown Hg8.out HK2.out.size (fun q hq => by injection hq with hq; omega)⟩
end Go.Proofs.YtffpanlpbdnafaaDoor

/- Judge of any peer; Feed, Send, Ask of one that is banned; the law's side (printed by gen_qm.py) -/
set_option linter.unusedSimpArgs false
set_option linter.unusedVariables false
namespace Go.Proofs.YtffpanlpbdnafaaDoor
open Go.RowKit
attribute [local go_sem ↓] Go.wp_at_zero Go.wp_at_succ
theorem bnd_bnd (n : Int) : bndF (bndF n) = bndF n := by unfold bndF; omega
/-- One that is banned. -/
structure BanQ (q : PeR) : Prop where
  s : q.stage = 3
  a : q.asked = false
  r : q.rs = []
  n : saneP q = true
theorem ban_sane (p : PeR) : BanQ (takenG p).ban := by
  refine ⟨rfl, rfl, rfl, ?_⟩
  have key : ∀ x : PeR, (0 ≤ x.misses ∧ x.misses ≤ 3) → (0 ≤ x.until_ ∧ ¬ 1099511627776 < x.until_) → x.cap = bndF x.cap → saneP x.ban = true := fun x h1 h2 h3 => by
    have e : fsaneB x.cap = true := decide_eq_true h3
    simp [saneP, PeR.ban, h1, h2.1, h2.2, e]
  unfold takenG
  by_cases h : saneG p = true
  · rw [if_pos h]
    simp only [saneG, fsaneF, Bool.and_eq_true, decide_eq_true_eq, Bool.not_eq_true', decide_eq_false_iff_not] at h
    exact key p h.1.1.1.2 h.1.1.2 h.2.1
  · rw [if_neg h]
    exact key _ ⟨by show (0 : Int) ≤ 0; omega, by show (0 : Int) ≤ 3; omega⟩ ⟨by show (0 : Int) ≤ 0; omega, by show ¬ (1099511627776 : Int) < 0; omega⟩ (by show bndF p.cap = bndF (bndF p.cap); rw [bnd_bnd])
theorem BanQ.taken {q : PeR} (h : BanQ q) : takenP q = q := by unfold takenP; rw [if_pos h.n]
theorem getF_nil (g : UInt32) (n : Int) : (getF g n []).2.2 = 1 := by
  unfold getF
  rw [if_neg (by simp), if_pos (by simp)]
theorem saneG_nil {q : PeR} (h : q.rs = []) : saneG q = saneP q := by
  have e : fsaneF q.magic q.cap q.rs q.bad = fsaneB q.cap := by
    unfold fsaneF fsaneB
    rw [h, getF_nil]
    simp
  unfold saneG saneP; rw [e]
theorem takenG_nil {q : PeR} (h : q.rs = []) : takenG q = takenP q := by unfold takenG takenP; rw [saneG_nil h]
set_option maxRecDepth 100000 in
set_option maxHeartbeats 4000000 in
theorem feed_ban (q : PeR) (cs : Array Value) (hA : PeA q cs) (hq : BanQ q) (bv : Value) (w : World) :
    Calls Tryd.prog 17 #[.agg cs, bv] w fun e w' => ∃ ds, e = .returned (.tuple #[.agg ds, .slice none 0 0, iv 16]) ∧ PeA q ds ∧ Keep w w' := by
  obtain ⟨zs, hz0, hzA⟩ := zpeer_letter
  have TK : Hid (∀ y, Keep w y → Calls Tryd.prog 26 #[.agg cs] y fun e w' => ∃ ds, e = .returned (.agg ds) ∧ PeA q ds ∧ Keep y w') := Lib.hid fun y _ => by
    have k := ptaken_any q cs hA hq.r y
    rwa [hq.taken] at k
  have HS : Hid (q.stage = 3) := Lib.hid hq.s
  have hcn := hA.n; have hcz := hA.z; have hci := hA.i
  have hzn := hzA.n; have hzz := hzA.z
  have HA := Lib.hid hA; have HZ := Lib.hid hzA
  clear hA hzA hq
  go_enter Tryd.func17, Tryd.ntmps17
  go_upto_region 1 with fail
  obtain ⟨w1, hw1⟩ : ∃ w1, w1 = ((w.alloc (.cells cs 31)).alloc (.cells zs 31)) := ⟨_, rfl⟩
  have HB1 : Hid (Blk w1 w.heap.size 31 cs.toList) := by rw [hw1]; exact Lib.hid ((Blk.new w _ cs.toList).alloc _)
  have HR1 : Hid (Blk w1 (w.heap.size + 1) 31 zs.toList) := by
    rw [hw1]
    have h2 := Blk.new (w.alloc (.cells cs 31)) 31 zs.toList
    simp only [World.size_alloc] at h2
    exact Lib.hid h2
  have HK1 : Hid (Keep w w1) := by rw [hw1]; exact Lib.hid (keep_trans (keep_new _ _) (keep_new _ _))
  rw [← hw1]
  clear hw1
  go_wp2_with ((with_reducible refine load_arr w.heap.size cs (Eq.trans ?_ rfl) HB1.out _ Tryd.underlying31 rfl hci ?_); rfl)
  refine (TK.out _ HK1.out).mono ?_
  clear TK
  rintro e w2 ⟨qs, rfl, hqA, k2⟩
  have hqn := hqA.n; have hqz := hqA.z; have hqi := hqA.i
  have HQ := Lib.hid hqA
  have HK2 := Lib.hid (keep_trans HK1.out k2)
  obtain ⟨w3, hst3, hb3, hg3⟩ := run_store_blk (P := Tryd.prog) qs.toList (HB1.out.keep k2) (by rw [Array.length_toList, Array.length_toList, hcz, hqz]) HQ.out.o
  have HB3 : Hid (Blk w3 w.heap.size 31 q.cells) := by rw [← HQ.out.l]; exact Lib.hid hb3
  have HBc3 : Hid (Blk w3 w.heap.size 31 qs.toList) := Lib.hid hb3
  have HR3 : Hid (Blk w3 (w.heap.size + 1) 31 zs.toList) := Lib.hid ((HR1.out.keep k2).grown hg3 (fun e => by injection e with e; omega))
  have HK3 : Hid (Keep w w3) := Lib.hid (HK2.out.grown hg3 HK2.out.size (fun q hq => by injection hq with hq; omega))
  clear k2 HB1 HK1 HK2 hqA hb3 hg3 HR1
  go_upto_region 2 with fail
  clear hst3
  have r0 : w3.cell? ⟨w.heap.size, 0, none⟩ = some (iv 3) := (HB3.out.cell 0).trans (by show some (iv q.stage) = _; rw [HS.out])
  obtain ⟨w8, hst8, hb8, hg8⟩ := run_store_blk (P := Tryd.prog) qs.toList HR3.out (by rw [Array.length_toList, Array.length_toList, hzz, HQ.out.z]) HQ.out.o
  have Hb8 := Lib.hid hb8; have Hg8 := Lib.hid hg8
  have hdi8 := HQ.out.i
  have hdn8 := HQ.out.n
  have hdz8 := HQ.out.z
  clear hb8 hg8
  go_wp2_with ((with_reducible refine load_arr w.heap.size qs (Eq.trans ?_ rfl) HBc3.out _ Tryd.underlying31 rfl hdi8 ?_); rfl)
  exact bodyPost_ret (v := .tuple #[.agg qs, .slice none 0 0, iv 16]) (results_cell_tmp_tmp Tryd.results17 _ _ (w.heap.size + 1) _ _ _ _ rfl Hb8.out Tryd.underlying31 rfl (by rw [List.size_toArray, Array.length_toList]; exact hdi8)) rfl ⟨qs, rfl, HQ.out, HK3.out.grown Hg8.out HK3.out.size (fun q hq => by injection hq with hq; omega)⟩
set_option maxRecDepth 100000 in
set_option maxHeartbeats 4000000 in
theorem ask_ban (q : PeR) (cs : Array Value) (hA : PeA q cs) (hq : BanQ q) (now wait : Int) (w : World) :
    Calls Tryd.prog 10 #[.agg cs, iv now, iv wait] w fun e w' => ∃ ds, e = .returned (.tuple #[.agg ds, .bool false]) ∧ PeA q ds ∧ Keep w w' := by
  obtain ⟨zs, hz0, hzA⟩ := zpeer_letter
  have TK : Hid (∀ y, Keep w y → Calls Tryd.prog 26 #[.agg cs] y fun e w' => ∃ ds, e = .returned (.agg ds) ∧ PeA q ds ∧ Keep y w') := Lib.hid fun y _ => by
    have k := ptaken_any q cs hA hq.r y
    rwa [hq.taken] at k
  have HS : Hid (q.stage = 3) := Lib.hid hq.s
  have hcn := hA.n; have hcz := hA.z; have hci := hA.i
  have hzn := hzA.n; have hzz := hzA.z
  have HA := Lib.hid hA; have HZ := Lib.hid hzA
  clear hA hzA hq
  go_enter Tryd.func10, Tryd.ntmps10
  go_upto_region 1 with fail
  obtain ⟨w1, hw1⟩ : ∃ w1, w1 = ((w.alloc (.cells cs 31)).alloc (.cells zs 31)) := ⟨_, rfl⟩
  have HB1 : Hid (Blk w1 w.heap.size 31 cs.toList) := by rw [hw1]; exact Lib.hid ((Blk.new w _ cs.toList).alloc _)
  have HR1 : Hid (Blk w1 (w.heap.size + 1) 31 zs.toList) := by
    rw [hw1]
    have h2 := Blk.new (w.alloc (.cells cs 31)) 31 zs.toList
    simp only [World.size_alloc] at h2
    exact Lib.hid h2
  have HK1 : Hid (Keep w w1) := by rw [hw1]; exact Lib.hid (keep_trans (keep_new _ _) (keep_new _ _))
  rw [← hw1]
  clear hw1
  go_wp2_with ((with_reducible refine load_arr w.heap.size cs (Eq.trans ?_ rfl) HB1.out _ Tryd.underlying31 rfl hci ?_); rfl)
  refine (TK.out _ HK1.out).mono ?_
  clear TK
  rintro e w2 ⟨qs, rfl, hqA, k2⟩
  have hqn := hqA.n; have hqz := hqA.z; have hqi := hqA.i
  have HQ := Lib.hid hqA
  have HK2 := Lib.hid (keep_trans HK1.out k2)
  obtain ⟨w3, hst3, hb3, hg3⟩ := run_store_blk (P := Tryd.prog) qs.toList (HB1.out.keep k2) (by rw [Array.length_toList, Array.length_toList, hcz, hqz]) HQ.out.o
  have HB3 : Hid (Blk w3 w.heap.size 31 q.cells) := by rw [← HQ.out.l]; exact Lib.hid hb3
  have HBc3 : Hid (Blk w3 w.heap.size 31 qs.toList) := Lib.hid hb3
  have HR3 : Hid (Blk w3 (w.heap.size + 1) 31 zs.toList) := Lib.hid ((HR1.out.keep k2).grown hg3 (fun e => by injection e with e; omega))
  have HK3 : Hid (Keep w w3) := Lib.hid (HK2.out.grown hg3 HK2.out.size (fun q hq => by injection hq with hq; omega))
  clear k2 HB1 HK1 HK2 hqA hb3 hg3 HR1
  go_upto_region 2 with fail
  clear hst3
  have r0 : w3.cell? ⟨w.heap.size, 0, none⟩ = some (iv 3) := (HB3.out.cell 0).trans (by show some (iv q.stage) = _; rw [HS.out])
  obtain ⟨w8, hst8, hb8, hg8⟩ := run_store_blk (P := Tryd.prog) qs.toList HR3.out (by rw [Array.length_toList, Array.length_toList, hzz, HQ.out.z]) HQ.out.o
  have Hb8 := Lib.hid hb8; have Hg8 := Lib.hid hg8
  have hdi8 := HQ.out.i
  have hdn8 := HQ.out.n
  have hdz8 := HQ.out.z
  clear hb8 hg8
  go_wp2_with ((with_reducible refine load_arr w.heap.size qs (Eq.trans ?_ rfl) HBc3.out _ Tryd.underlying31 rfl hdi8 ?_); rfl)
  exact bodyPost_ret (v := .tuple #[.agg qs, .bool false]) (results_cell_tmp_row Tryd.results10 _ _ (w.heap.size + 1) _ _ _ _ rfl Hb8.out Tryd.underlying31 rfl (by rw [List.size_toArray, Array.length_toList]; exact hdi8)) rfl ⟨qs, rfl, HQ.out, HK3.out.grown Hg8.out HK3.out.size (fun q hq => by injection hq with hq; omega)⟩
set_option maxRecDepth 100000 in
set_option maxHeartbeats 4000000 in
theorem send_ban (q : PeR) (cs : Array Value) (hA : PeA q cs) (hq : BanQ q) (m : MsgR) (ms : Array Value) (hM : MsA m ms) (w : World) :
    Calls Tryd.prog 14 #[.agg cs, .agg ms] w fun e w' => e = .returned (.tuple #[.slice none 0 0, iv 16]) ∧ Keep w w' := by
  obtain ⟨zs, hz0, hzA⟩ := zpeer_letter
  have TK : Hid (∀ y, Keep w y → Calls Tryd.prog 26 #[.agg cs] y fun e w' => ∃ ds, e = .returned (.agg ds) ∧ PeA q ds ∧ Keep y w') := Lib.hid fun y _ => by
    have k := ptaken_any q cs hA hq.r y
    rwa [hq.taken] at k
  have HS : Hid (q.stage = 3) := Lib.hid hq.s
  have hcn := hA.n; have hcz := hA.z; have hci := hA.i
  have hzn := hzA.n; have hzz := hzA.z
  have HA := Lib.hid hA; have HZ := Lib.hid hzA
  have hmn := hM.n; have hmz := hM.z
  clear hA hzA hq hM
  go_enter Tryd.func14, Tryd.ntmps14
  go_upto_region 1 with fail
  obtain ⟨w1, hw1⟩ : ∃ w1, w1 = ((w.alloc (.cells cs 31)).alloc (.cells ms 50)) := ⟨_, rfl⟩
  have HB1 : Hid (Blk w1 w.heap.size 31 cs.toList) := by rw [hw1]; exact Lib.hid ((Blk.new w _ cs.toList).alloc _)
  have HK1 : Hid (Keep w w1) := by rw [hw1]; exact Lib.hid (keep_trans (keep_new _ _) (keep_new _ _))
  rw [← hw1]
  clear hw1
  go_wp2_with ((with_reducible refine load_arr w.heap.size cs (Eq.trans ?_ rfl) HB1.out _ Tryd.underlying31 rfl hci ?_); rfl)
  refine (TK.out _ HK1.out).mono ?_
  clear TK
  rintro e w2 ⟨qs, rfl, hqA, k2⟩
  have hqn := hqA.n; have hqz := hqA.z; have hqi := hqA.i
  have HQ := Lib.hid hqA
  have HK2 := Lib.hid (keep_trans HK1.out k2)
  obtain ⟨w3, hst3, hb3, hg3⟩ := run_store_blk (P := Tryd.prog) qs.toList (HB1.out.keep k2) (by rw [Array.length_toList, Array.length_toList, hcz, hqz]) HQ.out.o
  have HB3 : Hid (Blk w3 w.heap.size 31 q.cells) := by rw [← HQ.out.l]; exact Lib.hid hb3
  have HBc3 : Hid (Blk w3 w.heap.size 31 qs.toList) := Lib.hid hb3
  have HK3 : Hid (Keep w w3) := Lib.hid (HK2.out.grown hg3 HK2.out.size (fun q hq => by injection hq with hq; omega))
  clear k2 HB1 HK1 HK2 hqA hb3 hg3
  go_upto_region 2 with fail
  clear hst3
  have r0 : w3.cell? ⟨w.heap.size, 0, none⟩ = some (iv 3) := (HB3.out.cell 0).trans (by show some (iv q.stage) = _; rw [HS.out])
  go_wp2
  exact bodyPost_ret (v := .tuple #[.slice none 0 0, iv 16]) (by simp [results, Tryd.results14]) rfl ⟨rfl, HK3.out⟩
/-- Judged by an error. -/
def judG (p : PeR) (c : Int) : PeR := if c = 2 ∨ c = 3 ∨ c = 4 ∨ c = 5 ∨ c = 6 ∨ c = 7 ∨ c = 11 ∨ c = 13 then (takenG p).ban else takenG p
set_option maxRecDepth 100000 in
set_option maxHeartbeats 4000000 in
theorem judge_any (p : PeR) (cs : Array Value) (hA : PeA p cs) (c : Int) (w : World) (ha : p.at_ w) (hS : ShaOk w) :
    Calls Tryd.prog 24 #[.agg cs, iv c] w fun e w' => ∃ ds, e = .returned (.agg ds) ∧ PeA (judG p c) ds ∧ Keep w w' := by
  obtain ⟨zs, hz0, hzA⟩ := zpeer_letter
  have TK : Hid (∀ y, Keep w y → Calls Tryd.prog 26 #[.agg cs] y fun e w' => ∃ ds, e = .returned (.agg ds) ∧ PeA (takenG p) ds ∧ Keep y w') := Lib.hid fun y hy => ptaken_gen p cs hA y (ha.keep hy) (hS.keep hy)
  have HT : Hid (judG p c = _) := Lib.hid (judG.eq_1 p c)
  have hcn := hA.n; have hcz := hA.z; have hci := hA.i
  have hzn := hzA.n; have hzz := hzA.z
  have HA := Lib.hid hA; have HZ := Lib.hid hzA
  clear hA hzA ha hS
  generalize judG p c = R at *
  generalize takenG p = q at *
  go_enter Tryd.func24, Tryd.ntmps24
  go_upto_region 1 with fail
  obtain ⟨w1, hw1⟩ : ∃ w1, w1 = ((w.alloc (.cells cs 31)).alloc (.cells zs 31)) := ⟨_, rfl⟩
  have HB1 : Hid (Blk w1 w.heap.size 31 cs.toList) := by rw [hw1]; exact Lib.hid ((Blk.new w _ cs.toList).alloc _)
  have HR1 : Hid (Blk w1 (w.heap.size + 1) 31 zs.toList) := by
    rw [hw1]
    have h2 := Blk.new (w.alloc (.cells cs 31)) 31 zs.toList
    simp only [World.size_alloc] at h2
    exact Lib.hid h2
  have HK1 : Hid (Keep w w1) := by rw [hw1]; exact Lib.hid (keep_trans (keep_new _ _) (keep_new _ _))
  rw [← hw1]
  clear hw1
  go_wp2_with ((with_reducible refine load_arr w.heap.size cs (Eq.trans ?_ rfl) HB1.out _ Tryd.underlying31 rfl hci ?_); rfl)
  refine (TK.out _ HK1.out).mono ?_
  clear TK
  rintro e w2 ⟨qs, rfl, hqA, k2⟩
  have hqn := hqA.n; have hqz := hqA.z; have hqi := hqA.i
  have HQ := Lib.hid hqA
  have HK2 := Lib.hid (keep_trans HK1.out k2)
  obtain ⟨w3, hst3, hb3, hg3⟩ := run_store_blk (P := Tryd.prog) qs.toList (HB1.out.keep k2) (by rw [Array.length_toList, Array.length_toList, hcz, hqz]) HQ.out.o
  have HB3 : Hid (Blk w3 w.heap.size 31 q.cells) := by rw [← HQ.out.l]; exact Lib.hid hb3
  have HBc3 : Hid (Blk w3 w.heap.size 31 qs.toList) := Lib.hid hb3
  have HR3 : Hid (Blk w3 (w.heap.size + 1) 31 zs.toList) := Lib.hid ((HR1.out.keep k2).grown hg3 (fun e => by injection e with e; omega))
  have HK3 : Hid (Keep w w3) := Lib.hid (HK2.out.grown hg3 HK2.out.size (fun q hq => by injection hq with hq; omega))
  clear k2 HB1 HK1 HK2 hqA hb3 hg3 HR1
  go_upto_region 2 with fail
  clear hst3
  by_cases hc : c = 2 ∨ c = 3 ∨ c = 4 ∨ c = 5 ∨ c = 6 ∨ c = 7 ∨ c = 11 ∨ c = 13
  · have hR : R = q.ban := HT.out.trans (if_pos hc)
    have HRE := Lib.hid hR
    clear hR HT
    rcases hc with rfl | rfl | rfl | rfl | rfl | rfl | rfl | rfl
    · go_wp2_with ((with_reducible refine load_arr w.heap.size qs (Eq.trans ?_ rfl) HBc3.out _ Tryd.underlying31 rfl hqi ?_); rfl)
      refine (banned_any _ qs HQ.out _).mono ?_
      rintro e w5 ⟨bs, rfl, hbA, k5⟩
      have hbn := hbA.n; have hbz := hbA.z; have hbi := hbA.i
      have HBA := Lib.hid hbA
      have HK5 := Lib.hid (keep_trans HK3.out k5)
      obtain ⟨w8, hst8, hb8, hg8⟩ := run_store_blk (P := Tryd.prog) bs.toList (HR3.out.keep k5) (by rw [Array.length_toList, Array.length_toList, hzz, hbz]) hbA.o
      have Hb8 := Lib.hid hb8; have Hg8 := Lib.hid hg8
      clear hb8 hg8 hbA k5
      go_wp2
      exact bodyPost_ret (v := .agg bs) (results_cell_row Tryd.results24 _ _ (w.heap.size + 1) _ _ _ _ rfl Hb8.out Tryd.underlying31 rfl (by rw [List.size_toArray, Array.length_toList]; exact hbi)) rfl ⟨bs, rfl, by rw [HRE.out]; exact HBA.out, HK5.out.grown Hg8.out HK5.out.size (fun q hq => by injection hq with hq; omega)⟩
    · go_wp2_with ((with_reducible refine load_arr w.heap.size qs (Eq.trans ?_ rfl) HBc3.out _ Tryd.underlying31 rfl hqi ?_); rfl)
      refine (banned_any _ qs HQ.out _).mono ?_
      rintro e w5 ⟨bs, rfl, hbA, k5⟩
      have hbn := hbA.n; have hbz := hbA.z; have hbi := hbA.i
      have HBA := Lib.hid hbA
      have HK5 := Lib.hid (keep_trans HK3.out k5)
      obtain ⟨w8, hst8, hb8, hg8⟩ := run_store_blk (P := Tryd.prog) bs.toList (HR3.out.keep k5) (by rw [Array.length_toList, Array.length_toList, hzz, hbz]) hbA.o
      have Hb8 := Lib.hid hb8; have Hg8 := Lib.hid hg8
      clear hb8 hg8 hbA k5
      go_wp2
      exact bodyPost_ret (v := .agg bs) (results_cell_row Tryd.results24 _ _ (w.heap.size + 1) _ _ _ _ rfl Hb8.out Tryd.underlying31 rfl (by rw [List.size_toArray, Array.length_toList]; exact hbi)) rfl ⟨bs, rfl, by rw [HRE.out]; exact HBA.out, HK5.out.grown Hg8.out HK5.out.size (fun q hq => by injection hq with hq; omega)⟩
    · go_wp2_with ((with_reducible refine load_arr w.heap.size qs (Eq.trans ?_ rfl) HBc3.out _ Tryd.underlying31 rfl hqi ?_); rfl)
      refine (banned_any _ qs HQ.out _).mono ?_
      rintro e w5 ⟨bs, rfl, hbA, k5⟩
      have hbn := hbA.n; have hbz := hbA.z; have hbi := hbA.i
      have HBA := Lib.hid hbA
      have HK5 := Lib.hid (keep_trans HK3.out k5)
      obtain ⟨w8, hst8, hb8, hg8⟩ := run_store_blk (P := Tryd.prog) bs.toList (HR3.out.keep k5) (by rw [Array.length_toList, Array.length_toList, hzz, hbz]) hbA.o
      have Hb8 := Lib.hid hb8; have Hg8 := Lib.hid hg8
      clear hb8 hg8 hbA k5
      go_wp2
      exact bodyPost_ret (v := .agg bs) (results_cell_row Tryd.results24 _ _ (w.heap.size + 1) _ _ _ _ rfl Hb8.out Tryd.underlying31 rfl (by rw [List.size_toArray, Array.length_toList]; exact hbi)) rfl ⟨bs, rfl, by rw [HRE.out]; exact HBA.out, HK5.out.grown Hg8.out HK5.out.size (fun q hq => by injection hq with hq; omega)⟩
    · go_wp2_with ((with_reducible refine load_arr w.heap.size qs (Eq.trans ?_ rfl) HBc3.out _ Tryd.underlying31 rfl hqi ?_); rfl)
      refine (banned_any _ qs HQ.out _).mono ?_
      rintro e w5 ⟨bs, rfl, hbA, k5⟩
      have hbn := hbA.n; have hbz := hbA.z; have hbi := hbA.i
      have HBA := Lib.hid hbA
      have HK5 := Lib.hid (keep_trans HK3.out k5)
      obtain ⟨w8, hst8, hb8, hg8⟩ := run_store_blk (P := Tryd.prog) bs.toList (HR3.out.keep k5) (by rw [Array.length_toList, Array.length_toList, hzz, hbz]) hbA.o
      have Hb8 := Lib.hid hb8; have Hg8 := Lib.hid hg8
      clear hb8 hg8 hbA k5
      go_wp2
      exact bodyPost_ret (v := .agg bs) (results_cell_row Tryd.results24 _ _ (w.heap.size + 1) _ _ _ _ rfl Hb8.out Tryd.underlying31 rfl (by rw [List.size_toArray, Array.length_toList]; exact hbi)) rfl ⟨bs, rfl, by rw [HRE.out]; exact HBA.out, HK5.out.grown Hg8.out HK5.out.size (fun q hq => by injection hq with hq; omega)⟩
    · go_wp2_with ((with_reducible refine load_arr w.heap.size qs (Eq.trans ?_ rfl) HBc3.out _ Tryd.underlying31 rfl hqi ?_); rfl)
      refine (banned_any _ qs HQ.out _).mono ?_
      rintro e w5 ⟨bs, rfl, hbA, k5⟩
      have hbn := hbA.n; have hbz := hbA.z; have hbi := hbA.i
      have HBA := Lib.hid hbA
      have HK5 := Lib.hid (keep_trans HK3.out k5)
      obtain ⟨w8, hst8, hb8, hg8⟩ := run_store_blk (P := Tryd.prog) bs.toList (HR3.out.keep k5) (by rw [Array.length_toList, Array.length_toList, hzz, hbz]) hbA.o
      have Hb8 := Lib.hid hb8; have Hg8 := Lib.hid hg8
      clear hb8 hg8 hbA k5
      go_wp2
      exact bodyPost_ret (v := .agg bs) (results_cell_row Tryd.results24 _ _ (w.heap.size + 1) _ _ _ _ rfl Hb8.out Tryd.underlying31 rfl (by rw [List.size_toArray, Array.length_toList]; exact hbi)) rfl ⟨bs, rfl, by rw [HRE.out]; exact HBA.out, HK5.out.grown Hg8.out HK5.out.size (fun q hq => by injection hq with hq; omega)⟩
    · go_wp2_with ((with_reducible refine load_arr w.heap.size qs (Eq.trans ?_ rfl) HBc3.out _ Tryd.underlying31 rfl hqi ?_); rfl)
      refine (banned_any _ qs HQ.out _).mono ?_
      rintro e w5 ⟨bs, rfl, hbA, k5⟩
      have hbn := hbA.n; have hbz := hbA.z; have hbi := hbA.i
      have HBA := Lib.hid hbA
      have HK5 := Lib.hid (keep_trans HK3.out k5)
      obtain ⟨w8, hst8, hb8, hg8⟩ := run_store_blk (P := Tryd.prog) bs.toList (HR3.out.keep k5) (by rw [Array.length_toList, Array.length_toList, hzz, hbz]) hbA.o
      have Hb8 := Lib.hid hb8; have Hg8 := Lib.hid hg8
      clear hb8 hg8 hbA k5
      go_wp2
      exact bodyPost_ret (v := .agg bs) (results_cell_row Tryd.results24 _ _ (w.heap.size + 1) _ _ _ _ rfl Hb8.out Tryd.underlying31 rfl (by rw [List.size_toArray, Array.length_toList]; exact hbi)) rfl ⟨bs, rfl, by rw [HRE.out]; exact HBA.out, HK5.out.grown Hg8.out HK5.out.size (fun q hq => by injection hq with hq; omega)⟩
    · go_wp2_with ((with_reducible refine load_arr w.heap.size qs (Eq.trans ?_ rfl) HBc3.out _ Tryd.underlying31 rfl hqi ?_); rfl)
      refine (banned_any _ qs HQ.out _).mono ?_
      rintro e w5 ⟨bs, rfl, hbA, k5⟩
      have hbn := hbA.n; have hbz := hbA.z; have hbi := hbA.i
      have HBA := Lib.hid hbA
      have HK5 := Lib.hid (keep_trans HK3.out k5)
      obtain ⟨w8, hst8, hb8, hg8⟩ := run_store_blk (P := Tryd.prog) bs.toList (HR3.out.keep k5) (by rw [Array.length_toList, Array.length_toList, hzz, hbz]) hbA.o
      have Hb8 := Lib.hid hb8; have Hg8 := Lib.hid hg8
      clear hb8 hg8 hbA k5
      go_wp2
      exact bodyPost_ret (v := .agg bs) (results_cell_row Tryd.results24 _ _ (w.heap.size + 1) _ _ _ _ rfl Hb8.out Tryd.underlying31 rfl (by rw [List.size_toArray, Array.length_toList]; exact hbi)) rfl ⟨bs, rfl, by rw [HRE.out]; exact HBA.out, HK5.out.grown Hg8.out HK5.out.size (fun q hq => by injection hq with hq; omega)⟩
    · go_wp2_with ((with_reducible refine load_arr w.heap.size qs (Eq.trans ?_ rfl) HBc3.out _ Tryd.underlying31 rfl hqi ?_); rfl)
      refine (banned_any _ qs HQ.out _).mono ?_
      rintro e w5 ⟨bs, rfl, hbA, k5⟩
      have hbn := hbA.n; have hbz := hbA.z; have hbi := hbA.i
      have HBA := Lib.hid hbA
      have HK5 := Lib.hid (keep_trans HK3.out k5)
      obtain ⟨w8, hst8, hb8, hg8⟩ := run_store_blk (P := Tryd.prog) bs.toList (HR3.out.keep k5) (by rw [Array.length_toList, Array.length_toList, hzz, hbz]) hbA.o
      have Hb8 := Lib.hid hb8; have Hg8 := Lib.hid hg8
      clear hb8 hg8 hbA k5
      go_wp2
      exact bodyPost_ret (v := .agg bs) (results_cell_row Tryd.results24 _ _ (w.heap.size + 1) _ _ _ _ rfl Hb8.out Tryd.underlying31 rfl (by rw [List.size_toArray, Array.length_toList]; exact hbi)) rfl ⟨bs, rfl, by rw [HRE.out]; exact HBA.out, HK5.out.grown Hg8.out HK5.out.size (fun q hq => by injection hq with hq; omega)⟩
  · have hR : R = q := HT.out.trans (if_neg hc)
    have HRE := Lib.hid hR
    have e2 : (c == 2) = false := by rw [beq_eq_false_iff_ne]; exact fun h => hc (by simp [h])
    have e3 : (c == 3) = false := by rw [beq_eq_false_iff_ne]; exact fun h => hc (by simp [h])
    have e4 : (c == 4) = false := by rw [beq_eq_false_iff_ne]; exact fun h => hc (by simp [h])
    have e5 : (c == 5) = false := by rw [beq_eq_false_iff_ne]; exact fun h => hc (by simp [h])
    have e6 : (c == 6) = false := by rw [beq_eq_false_iff_ne]; exact fun h => hc (by simp [h])
    have e7 : (c == 7) = false := by rw [beq_eq_false_iff_ne]; exact fun h => hc (by simp [h])
    have e11 : (c == 11) = false := by rw [beq_eq_false_iff_ne]; exact fun h => hc (by simp [h])
    have e13 : (c == 13) = false := by rw [beq_eq_false_iff_ne]; exact fun h => hc (by simp [h])
    clear hR HT hc
    obtain ⟨w8, hst8, hb8, hg8⟩ := run_store_blk (P := Tryd.prog) qs.toList HR3.out (by rw [Array.length_toList, Array.length_toList, hzz, HQ.out.z]) HQ.out.o
    have Hb8 := Lib.hid hb8; have Hg8 := Lib.hid hg8
    have hdi8 := HQ.out.i
    have hdn8 := HQ.out.n
    have hdz8 := HQ.out.z
    clear hb8 hg8
    go_wp2_with ((with_reducible refine load_arr w.heap.size qs (Eq.trans ?_ rfl) HBc3.out _ Tryd.underlying31 rfl hdi8 ?_); rfl)
    exact bodyPost_ret (v := .agg qs) (results_cell_row Tryd.results24 _ _ (w.heap.size + 1) _ _ _ _ rfl Hb8.out Tryd.underlying31 rfl (by rw [List.size_toArray, Array.length_toList]; exact hdi8)) rfl ⟨qs, rfl, by rw [HRE.out]; exact HQ.out, HK3.out.grown Hg8.out HK3.out.size (fun q hq => by injection hq with hq; omega)⟩
end Go.Proofs.YtffpanlpbdnafaaDoor

/- A reference's peer as a value; the law's side (printed by gen_qn.py) -/
set_option linter.unusedSimpArgs false
set_option linter.unusedVariables false
namespace Go.Proofs.YtffpanlpbdnafaaDoor
open Go.RowKit
attribute [local go_sem ↓] Go.wp_at_zero Go.wp_at_succ
structure RpA (p : PeR) (cs : Array Value) : Prop where
  l : cs.toList = p.cells
  z : cs.size = 10
  i : (Tryd.prog.info? 83).map (·.size) = some cs.size
  n : ¬ cs = #[]
  o : ∀ v ∈ cs.toList, v.oneCell' = true
theorem rp_info : (Tryd.prog.info? 83).map (·.size) = some 10 := by kernel_rfl
theorem RpA.of (p : PeR) : RpA p p.cells.toArray := ⟨rfl, rfl, rp_info, (fun e => by cases e), by simpa using p.one⟩
theorem side_built (p : PeR) : Tryd.prog.built 31 [(0, iv p.stage), (1, u64v p.nonce), (2, u32v p.height), (3, .bool p.asked), (4, iv p.until_), (5, iv p.misses), (6, .agg #[u32v p.magic, iv p.cap, .slice p.rA p.rs.length p.rc, iv p.bad])] = some p.cells.toArray := by kernel_rfl
set_option maxRecDepth 100000 in
set_option maxHeartbeats 4000000 in
theorem side_any (p : PeR) (cs : Array Value) (hA : RpA p cs) (w : World) :
    Calls Tryd.prog 25 #[.agg cs] w fun e w' => ∃ ds, e = .returned (.agg ds) ∧ PeA p ds ∧ Keep w w' := by
  obtain ⟨zs, hz0, hzA⟩ := zpeer_letter
  obtain ⟨ks, hks⟩ : ∃ ks, ks = p.cells.toArray := ⟨_, rfl⟩
  have hkA : PeA p ks := by rw [hks]; exact PeA.of p
  have hcn := hA.n; have hcz := hA.z; have hci := hA.i
  have hzn := hzA.n; have hzz := hzA.z; have hkn := hkA.n; have hkz := hkA.z; have hki := hkA.i
  have HBu := Lib.hid (side_built p)
  rw [← hks] at HBu
  have HA := Lib.hid hA; have HZ := Lib.hid hzA; have HKS := Lib.hid hkA
  clear hA hzA hkA hks
  go_enter Tryd.func25, Tryd.ntmps25
  go_upto_region 1 with fail
  obtain ⟨w1, hw1⟩ : ∃ w1, w1 = (w.alloc (.cells cs 83)).alloc (.cells zs 31) := ⟨_, rfl⟩
  have HB1 : Hid (Blk w1 w.heap.size 83 p.cells) := by rw [hw1, ← HA.out.l]; exact Lib.hid ((Blk.new w _ cs.toList).alloc _)
  have HR1 : Hid (Blk w1 (w.heap.size + 1) 31 zs.toList) := by
    rw [hw1]
    have h2 := Blk.new (w.alloc (.cells cs 83)) 31 zs.toList
    rw [World.size_alloc] at h2
    exact Lib.hid h2
  have HK1 : Hid (Keep w w1) := by rw [hw1]; exact Lib.hid (keep_trans (keep_new _ _) (keep_new _ _))
  rw [← hw1]
  clear hw1
  have r0 : w1.cell? ⟨w.heap.size, 0, none⟩ = some (iv p.stage) := (HB1.out.cell 0).trans rfl
  have r1 : w1.cell? ⟨w.heap.size, 1, none⟩ = some (u64v p.nonce) := (HB1.out.cell 1).trans rfl
  have r2 : w1.cell? ⟨w.heap.size, 2, none⟩ = some (u32v p.height) := (HB1.out.cell 2).trans rfl
  have r3 : w1.cell? ⟨w.heap.size, 3, none⟩ = some (.bool p.asked) := (HB1.out.cell 3).trans rfl
  have r4 : w1.cell? ⟨w.heap.size, 4, none⟩ = some (iv p.until_) := (HB1.out.cell 4).trans rfl
  have r5 : w1.cell? ⟨w.heap.size, 5, none⟩ = some (iv p.misses) := (HB1.out.cell 5).trans rfl
  have r6 : w1.cell? ⟨w.heap.size, 6, none⟩ = some (u32v p.magic) := (HB1.out.cell 6).trans rfl
  have r7 : w1.cell? ⟨w.heap.size, 7, none⟩ = some (iv p.cap) := (HB1.out.cell 7).trans rfl
  have r8 : w1.cell? ⟨w.heap.size, 8, none⟩ = some (.slice p.rA p.rs.length p.rc) := (HB1.out.cell 8).trans rfl
  have r9 : w1.cell? ⟨w.heap.size, 9, none⟩ = some (iv p.bad) := (HB1.out.cell 9).trans rfl
  obtain ⟨w8, hst8, hb8, hg8⟩ := run_store_blk (P := Tryd.prog) ks.toList HR1.out (by rw [Array.length_toList, Array.length_toList, hzz, hkz]) HKS.out.o
  have Hb8 := Lib.hid hb8; have Hg8 := Lib.hid hg8
  clear hb8 hg8
  go_wp2_with ((with_reducible refine list_bldg [(0, iv p.stage), (1, u64v p.nonce), (2, u32v p.height), (3, .bool p.asked), (4, iv p.until_), (5, iv p.misses), (6, .agg #[u32v p.magic, iv p.cap, .slice p.rA p.rs.length p.rc, iv p.bad])] ks (Eq.trans ?_ rfl) HBu.out (Eq.trans ?_ rfl) ?_); rfl; rfl)
  exact bodyPost_ret (v := .agg ks) (results_cell_row Tryd.results25 _ _ (w.heap.size + 1) _ _ _ _ rfl Hb8.out Tryd.underlying31 rfl (by rw [List.size_toArray, Array.length_toList]; exact hki)) rfl ⟨ks, rfl, HKS.out, HK1.out.grown Hg8.out HK1.out.size (fun q hq => by injection hq with hq; omega)⟩
end Go.Proofs.YtffpanlpbdnafaaDoor

/- Peers that miss, plainly; the chapter's awake (printed by gen_qh.py) -/
set_option linter.unusedSimpArgs false
set_option linter.unusedVariables false
namespace Go.Proofs.YtffpanlpbdnafaaDoor
open Go.RowKit
attribute [local go_sem ↓] Go.wp_at_zero Go.wp_at_succ

theorem fitsM0 (n : Nat) : fitsB { msgZ 0 with nonce := n } = true := rfl
theorem fitsM1 : fitsB (msgZ 1) = true := rfl
theorem fitsM2 : fitsB (msgZ 2) = true := rfl
theorem fitsM5 : fitsB (msgZ 5) = true := rfl
def stP (g : UInt32) (k U : Int) : PeR := { peZ with stage := if k = 3 then 3 else 2, until_ := U, misses := k, magic := g, cap := 99 }
def p1P (g : UInt32) (n : Nat) : PeR := { peZ with stage := 1, nonce := n, magic := g, cap := 99 }
theorem st_sane {g : UInt32} {k U : Int} (hk : 0 ≤ k ∧ k ≤ 3) (hU : 0 ≤ U ∧ U ≤ 1099511627776) : takenP (stP g k U) = stP g k U := by
  have h : saneP (stP g k U) = true := by
    have e : (0 : Int) ≤ (if k = 3 then 3 else 2) ∧ (if k = 3 then 3 else 2) ≤ (3 : Int) := by split <;> omega
    have f : fsaneB 99 = true := rfl
    have u : ¬ (1099511627776 : Int) < U := by omega
    simp [saneP, stP, peZ, e, hk, hU.1, u, f]
  unfold takenP; rw [if_pos h]
theorem st_saneA {g : UInt32} {k U : Int} (hk : 0 ≤ k ∧ k < 3) (hU : 0 ≤ U ∧ U ≤ 1099511627776) : takenP { stP g k U with asked := true } = { stP g k U with asked := true } := by
  have h : saneP { stP g k U with asked := true } = true := by
    have f : fsaneB 99 = true := rfl
    have e : ¬ k = 3 := by omega
    have e2 : k ≤ 3 := by omega
    have u : ¬ (1099511627776 : Int) < U := by omega
    simp [saneP, stP, peZ, hk.1, e2, hU.1, u, f, e]
  unfold takenP; rw [if_pos h]
theorem st_ask {g : UInt32} {k U t : Int} (hk : 0 ≤ k ∧ k < 3) (hU : 0 ≤ U ∧ U ≤ 1099511627776) : askP (stP g k U) t 3 = ({ stP g k (t + 3) with asked := true }, true) := by
  have e : ¬ k = 3 := by omega
  unfold askP
  rw [st_sane ⟨hk.1, by omega⟩ hU]
  simp [stP, peZ, e]
theorem st_ask3 {g : UInt32} {U t : Int} (hU : 0 ≤ U ∧ U ≤ 1099511627776) : askP (stP g 3 U) t 3 = (stP g 3 U, false) := by
  unfold askP
  rw [st_sane (by omega) hU]
  simp [stP]
theorem st_tick {g : UInt32} {k U x : Int} (hk : 0 ≤ k ∧ k ≤ 3) (hU : 0 ≤ U ∧ U ≤ 1099511627776) : tickP (stP g k U) x = (stP g k U, false) := by
  unfold tickP
  rw [st_sane hk hU]
  simp [stP, peZ]
theorem st_early {g : UInt32} {k U : Int} (hk : 0 ≤ k ∧ k < 3) (hU : 0 ≤ U ∧ U ≤ 1099511627776) : tickP { stP g k U with asked := true } U = ({ stP g k U with asked := true }, false) := by
  unfold tickP
  rw [st_saneA hk hU]
  simp [stP]
theorem st_late {g : UInt32} {k U x : Int} (hk : 0 ≤ k ∧ k < 3) (hU : 0 ≤ U ∧ U ≤ 1099511627776) (hx : U < x) : tickP { stP g k U with asked := true } x = (stP g (k + 1) U, true) := by
  unfold tickP
  rw [st_saneA hk hU]
  have e : ¬ k = 3 := by omega
  by_cases h : 2 ≤ k
  · obtain rfl : k = 2 := by omega
    simp [stP, hx, PeR.ban, peZ]
  · have e1 : ¬ k + 1 = 3 := by omega
    simp [stP, hx, h, e, e1, peZ]
theorem st_heads {g : UInt32} {k U : Int} (hk : 0 ≤ k ∧ k < 3) (hU : 0 ≤ U ∧ U ≤ 1099511627776) : hdlP { stP g k U with asked := true } (msgZ 5) = (stP g 0 U, [], 0) := by
  have e : ¬ k = 3 := by omega
  unfold hdlP
  rw [st_saneA hk hU, fitsM5]
  simp [stP, e, msgZ, peZ]
theorem hdl_v (g : UInt32) (n : Nat) : hdlP (newP g 99) { msgZ 0 with nonce := n } = (p1P g n, [{ msgZ 0 with proto := 70015, nonce := n }, msgZ 1], 0) := rfl
theorem hdl_k (g : UInt32) (n : Nat) : hdlP (p1P g n) (msgZ 1) = ({ stP g 0 0 with nonce := n }, [], 0) := rfl
theorem hdl_p (g : UInt32) : hdlP (newP g 99) (msgZ 2) = ((newP g 99).ban, [], 15) := rfl
/-- A store into a variable just made. -/
theorem pst_new {p q : PeR} {zs ds : Array Value} (hz : PeA p zs) (hd : PeA q ds) (y : World) : (storeCells ⟨y.heap.size, 0, none⟩ ds.toList 0).run Tryd.prog (y.alloc (.cells zs 31)) = .ok () (y.alloc (.cells ds 31)) :=
  run_storeCells_new (P := Tryd.prog) y 31 zs ds hd.i (hz.z.trans hd.z.symm) (by have := all_oneCell_toArray hd.o; simpa using this)
theorem ver_built (n : Nat) (h : n < 2 ^ 64) : ∃ ks, MsA { msgZ 0 with nonce := n } ks ∧ Tryd.prog.built 50 [(0, .int .i64 0), (2, u64v n)] = some ks := by
  have ho := msgZ_ok 0 (by omega)
  exact ⟨_, MsA.of (m := { msgZ 0 with nonce := n }) ⟨ho.k, h, ho.s, ho.b, ho.h, ho.l, ho.i, ho.z⟩, by kernel_rfl⟩
theorem kind_built (k : Int) (h : -9223372036854775808 ≤ k ∧ k ≤ 9223372036854775807) : ∃ ks, MsA (msgZ k) ks ∧ Tryd.prog.built 50 [(0, .int .i64 k)] = some ks := ⟨_, MsA.of (msgZ_ok k h), by kernel_rfl⟩
theorem handle_as {p q : PeR} {l : List MsgR} {c : Int} (cs : Array Value) (hA : PeA p cs) (hr : p.rs = []) (m : MsgR) (ms : Array Value) (hM : MsA m ms) (h : hdlP p m = (q, l, c)) (w : World) (hm : m.at_ w) :
    Calls Tryd.prog 8 #[.agg cs, .agg ms] w fun e w' => ∃ ds A n, e = .returned (.tuple #[.agg ds, .slice A l.length n, iv c]) ∧ PeA q ds ∧ l.length ≤ n ∧ n ≤ 2 ∧ Rd w' A (l.flatMap MsgR.cells) ∧ Keep w w' := by
  have q := handle_any p cs hA hr m ms hM w hm
  rw [h] at q
  exact q
set_option maxRecDepth 100000 in
set_option maxHeartbeats 4000000 in
theorem awake22 (w : World) : Calls Tryd.prog 7 #[] w fun e w' => e = .returned (.bool true) ∧ Keep w w' := by
  obtain ⟨zs, hz0, hzA⟩ := zpeer_letter
  obtain ⟨k2, h2A, h2b⟩ := kind_built 2 (by omega)
  obtain ⟨k0, h0A, h0b⟩ := ver_built 3 (by omega)
  obtain ⟨k1, h1A, h1b⟩ := kind_built 1 (by omega)
  have B2 := Lib.hid h2b; have B0 := Lib.hid h0b; have B1 := Lib.hid h1b
  have NP : Hid (∀ y, Calls Tryd.prog 9 #[u32v 7, iv 99] y fun e w' => ∃ ps, e = .returned (.agg ps) ∧ PeA (newP 7 99) ps ∧ Keep y w') := Lib.hid fun y => pnew_any 7 99 y
  have H1 : Hid (∀ ps y, PeA (newP 7 99) ps → Calls Tryd.prog 8 #[.agg ps, .agg k2] y fun e w' => ∃ ds A n, e = .returned (.tuple #[.agg ds, .slice A 0 n, iv 15]) ∧ PeA (newP 7 99).ban ds ∧ Keep y w') := Lib.hid fun ps y hp =>
    (handle_as ps hp rfl _ k2 h2A (hdl_p 7) y (msgZ_at 2 (by omega) y)).mono fun e w' ⟨ds, A, n, h1, h2, _, _, _, h3⟩ => ⟨ds, A, n, h1, h2, h3⟩
  have H2 : Hid (∀ ps y, PeA (newP 7 99) ps → Calls Tryd.prog 8 #[.agg ps, .agg k0] y fun e w' => ∃ ds b o n, e = .returned (.tuple #[.agg ds, .slice (some ⟨b, o, none⟩) 2 n, iv 0]) ∧ PeA (p1P 7 3) ds ∧ w'.cell? ⟨b, o + 2, none⟩ = some (u64v 3) ∧ 2 ≤ n ∧ Keep y w') := Lib.hid fun ps y hp =>
    (handle_as ps hp rfl _ k0 h0A (hdl_v 7 3) y (by
      have z := msgZ_at 0 (by omega) y
      exact ⟨⟨z.o.k, (by show 3 < 2 ^ 64; omega), z.o.s, z.o.b, z.o.h, z.o.l, z.o.i, z.o.z⟩, z.h, z.hc, z.l, z.lc, z.i, z.ic, z.s, z.sc, z.f, z.fc, z.t⟩)).mono fun e w' ⟨ds, A, n, h1, h2, hn, _, hr, h3⟩ => by
      obtain ⟨b, o, rfl, _, hc⟩ := hr.at (k := 2) (by decide)
      exact ⟨ds, b, o, n, h1, h2, hc 2 (by decide), hn, h3⟩
  have H3 : Hid (∀ ps y, PeA (p1P 7 3) ps → Calls Tryd.prog 8 #[.agg ps, .agg k1] y fun e w' => ∃ ds A n, e = .returned (.tuple #[.agg ds, .slice A 0 n, iv 0]) ∧ PeA { stP 7 0 0 with nonce := 3 } ds ∧ Keep y w') := Lib.hid fun ps y hp =>
    (handle_as ps hp rfl _ k1 h1A (hdl_k 7 3) y (msgZ_at 1 (by omega) y)).mono fun e w' ⟨ds, A, n, h1, h2, _, _, _, h3⟩ => ⟨ds, A, n, h1, h2, h3⟩
  have hzn := hzA.n; have hzz := hzA.z
  have HZ := Lib.hid hzA
  have hz0' := hz0
  clear h2A h0A h1A h2b h0b h1b hzA
  go_enter Tryd.func7, Tryd.ntmps7
  go_upto_region 2 with (first | (go_at_call 9; refine (NP.out _).mono ?_; rintro e wa ⟨ps, rfl, hpA, k⟩; have HPA := Lib.hid hpA; have KA := Lib.hid k; clear k hpA) | ((with_reducible refine list_bldg [(0, .int .i64 2)] k2 (Eq.trans ?_ rfl) B2.out (Eq.trans ?_ rfl) ?_); rfl; rfl) | (go_at_call 8; refine (H1.out _ _ HPA.out).mono ?_; rintro e wb ⟨ds, A, n, rfl, hdA, k⟩; have hst := pst_new HZ.out hdA wb; have hdn := hdA.n; have hdz := hdA.z; have HDA := Lib.hid hdA; have KB := Lib.hid (keep_trans KA.out k); clear k hdA))
  obtain ⟨w1, hw1⟩ : ∃ w1, w1 = wb.alloc (.cells ds 31) := ⟨_, rfl⟩
  have HP1 : Hid (Blk w1 wb.heap.size 31 (newP 7 99).ban.cells) := by rw [hw1, ← HDA.out.l]; exact Lib.hid (Blk.new wb _ ds.toList)
  have HK1 : Hid (Keep w w1) := by rw [hw1]; exact Lib.hid (keep_trans KB.out (keep_new _ _))
  rw [← hw1]
  clear hst hw1 KA KB HDA HPA H1 hdn hdz B2
  generalize wb.heap.size = b1 at *
  go_upto_region 3 with (first | (go_at_call 9; refine (NP.out _).mono ?_; rintro e wa ⟨ps, rfl, hpA, k⟩; have HPA := Lib.hid hpA; have HP1a := Lib.hid (HP1.out.keep k); have KA := Lib.hid (keep_trans HK1.out k); clear k hpA HP1 HK1) | ((with_reducible refine list_bldg [(0, .int .i64 0), (2, u64v 3)] k0 (Eq.trans ?_ rfl) B0.out (Eq.trans ?_ rfl) ?_); rfl; rfl) | (go_at_call 8; refine (H2.out _ _ HPA.out).mono ?_; rintro e wb ⟨ds, lb, lo, n2, rfl, hdA, hc, hn2, k⟩; have hst := pst_new HZ.out hdA wb; have hdn := hdA.n; have hdz := hdA.z; have HDA := Lib.hid hdA; have KB := Lib.hid (keep_trans KA.out k); have HP1b := Lib.hid (HP1a.out.keep k); clear k hdA HP1a))
  obtain ⟨w2, hw2⟩ : ∃ w2, w2 = wb.alloc (.cells ds 31) := ⟨_, rfl⟩
  have HQ2 : Hid (Blk w2 wb.heap.size 31 ds.toList) := by rw [hw2]; exact Lib.hid (Blk.new wb _ ds.toList)
  have HP2 : Hid (Blk w2 b1 31 (newP 7 99).ban.cells) := by rw [hw2]; exact Lib.hid (HP1b.out.alloc _)
  have HC2 : Hid (w2.cell? ⟨lb, lo + 2, none⟩ = some (u64v 3)) := by rw [hw2]; exact Lib.hid (keep_cell (keep_new _ _) hc)
  have HK2 : Hid (Keep w w2) := by rw [hw2]; exact Lib.hid (keep_trans KB.out (keep_new _ _))
  have HN2 := Lib.hid hn2
  rw [← hw2]
  have hdi := HDA.out.i
  clear hst hw2 KA KB HPA H2 NP B0 hc HP1b hn2
  generalize wb.heap.size = b2 at *
  go_upto_region 4 with (first | ((with_reducible refine load_arr b2 ds (Eq.trans ?_ rfl) HQ2.out _ Tryd.underlying31 rfl hdi ?_); rfl) | ((with_reducible refine list_bldg [(0, .int .i64 1)] k1 (Eq.trans ?_ rfl) B1.out (Eq.trans ?_ rfl) ?_); rfl; rfl) | (go_at_call 8; refine (H3.out _ _ HDA.out).mono ?_; rintro e wb ⟨rs, A3, n3, rfl, hrA, k⟩; have hst := pst_new HZ.out hrA wb; have hrn := hrA.n; have hrz := hrA.z; have HRA := Lib.hid hrA; have KB := Lib.hid (keep_trans HK2.out k); have HP3 := Lib.hid (HP2.out.keep k); have HC3 := Lib.hid (keep_cell k HC2.out); clear k hrA HP2 HC2))
  obtain ⟨w3, hw3⟩ : ∃ w3, w3 = wb.alloc (.cells rs 31) := ⟨_, rfl⟩
  have r3 : w3.cell? ⟨wb.heap.size, 0, none⟩ = some (.int .i64 2) := by
    rw [hw3]
    have q := (Blk.new wb 31 rs.toList).cell 0
    rw [Array.toArray_toList] at q
    exact q.trans (by rw [HRA.out.l]; rfl)
  have r1 : w3.cell? ⟨b1, 0, none⟩ = some (.int .i64 3) := by rw [hw3]; exact ((HP3.out.alloc _).cell 0).trans rfl
  have r2 : w3.cell? ⟨lb, lo + 2, none⟩ = some (u64v 3) := by rw [hw3]; exact keep_cell (keep_new _ _) HC3.out
  have HK3 : Hid (Keep w w3) := by rw [hw3]; exact Lib.hid (keep_trans KB.out (keep_new _ _))
  rw [← hw3]
  have d2 : 2 ≤ n2 := HN2.out
  clear hst hw3 KB HDA HRA HP3 HC3 H3 B1 HQ2 HK2 hrn hrz hdn hdz hdi HN2
  try simp only [List.append_eq, List.cons_append, List.nil_append]
  go_wp2
  exact bodyPost_ret (v := .bool true) (by simp [results, Tryd.results7]) rfl ⟨rfl, HK3.out⟩
end Go.Proofs.YtffpanlpbdnafaaDoor

/- Few: has a transaction, a message, few parts? (printed by gen_pf.py) -/
set_option linter.unusedSimpArgs false
set_option linter.unusedVariables false
namespace Go.Proofs.YtffpanlpbdnafaaDoor
open Go.RowKit
attribute [local go_sem ↓] Go.wp_at_zero Go.wp_at_succ

def fewT (t : TxR) : Bool := decide ((∀ x ∈ t.ins, x.sc.length ≤ 300) ∧ (∀ x ∈ t.outs, x.sc.length ≤ 300) ∧ t.ins.length ≤ 20 ∧ t.outs.length ≤ 20)
def fewM (m : MsgR) : Bool := decide (m.hs.length ≤ 40 ∧ m.ls.length ≤ 150 ∧ m.is.length ≤ 100 ∧ m.shs.length ≤ 100 ∧ m.fs.length ≤ 1100) && fewT m.t

set_option maxRecDepth 100000 in
set_option maxHeartbeats 4000000 in
theorem few08_any (t : TxR) (w : World) (h : t.at w) :
    Calls Tryd.prog 30 #[.agg #[u32v t.ver, .slice t.iA t.ins.length t.ic, .slice t.oA t.outs.length t.oc, u32v t.lock]] w fun e w' => e = .returned (.bool (fewT t)) ∧ Keep w w' := by
  have HI : Hid (∀ k (h : k < t.ins.length), ∃ (b off : Nat) (x : InR), t.iA = some ⟨b, off, none⟩ ∧ w.cell? ⟨b, off + k * 35 + 33, none⟩ = some (.slice x.A x.sc.length x.cap) ∧ t.ins[k]? = some x) := Lib.hid fun k hk => by
    have hp := (h.is _ (List.getElem_mem hk)).p
    obtain ⟨b, off, h1, -, h2⟩ := in_at h.i (fun x hx => (h.is x hx).p) hk
    exact ⟨b, off, _, h1, h2 33 _ (by unfold InR.cells; rw [List.getElem?_append_right (by simp [hp])]; simp [hp]), List.getElem?_eq_getElem hk⟩
  have HO : Hid (∀ k (h : k < t.outs.length), ∃ (b off : Nat) (x : OutR), t.oA = some ⟨b, off, none⟩ ∧ w.cell? ⟨b, off + k * 2 + 1, none⟩ = some (.slice x.A x.sc.length x.cap) ∧ t.outs[k]? = some x) := Lib.hid fun k hk => by
    obtain ⟨b, off, h1, -, h2, h3⟩ := out_at h.o hk
    exact ⟨b, off, _, h1, h3, List.getElem?_eq_getElem hk⟩
  have hi9 := h.ic; have ho9 := h.oc
  unfold maxLen at hi9 ho9
  obtain ⟨R, hR⟩ : ∃ R, fewT t = R := ⟨_, rfl⟩
  have HD : Hid (R = true ↔ ((∀ x ∈ t.ins, x.sc.length ≤ 300) ∧ (∀ x ∈ t.outs, x.sc.length ≤ 300) ∧ t.ins.length ≤ 20 ∧ t.outs.length ≤ 20)) := Lib.hid (by rw [← hR]; unfold fewT; rw [decide_eq_true_eq])
  rw [hR]
  obtain ⟨ver, iA, ins, ic, oA, outs, oc, lock⟩ := t
  simp only at *
  clear h hR
  obtain ⟨n, hn⟩ : ∃ n, ins.length = n := ⟨_, rfl⟩
  obtain ⟨m, hm⟩ : ∃ m, outs.length = m := ⟨_, rfl⟩
  rw [hn] at HI hi9 HD ⊢
  rw [hm] at HO ho9 HD ⊢
  have HNN := Lib.hid hn; have HMM := Lib.hid hm
  clear hn hm
  have bad : Hid (∀ P : Prop, ¬ P → (R = true → P) → R = false) := Lib.hid fun P h1 h2 => by
    cases R with
    | false => rfl
    | true => exact absurd (h2 rfl) h1
  go_enter Tryd.func30, Tryd.ntmps30
  go_upto_region 1 with fail
  obtain ⟨w1, hw1⟩ : ∃ w1, w1 = w.alloc (.cells #[u32v ver, .slice iA n ic, .slice oA m oc, u32v lock] 61) := ⟨_, rfl⟩
  have HT1 : Hid (Blk w1 w.heap.size 61 [u32v ver, .slice iA n ic, .slice oA m oc, u32v lock]) := by rw [hw1]; exact Lib.hid (Blk.new w 61 [u32v ver, .slice iA n ic, .slice oA m oc, u32v lock])
  have HK1 : Hid (Keep w w1) := by rw [hw1]; exact Lib.hid (keep_new _ _)
  rw [← hw1]
  clear hw1
  have t1 := HT1.out.cell 1; have t2 := HT1.out.cell 2
  simp only [List.getElem?_cons_succ, List.getElem?_cons_zero] at t1 t2
  generalize w.heap.size = gt at *
  have HI1 : Hid (∀ k (h : k < n), ∃ (b off : Nat) (x : InR), iA = some ⟨b, off, none⟩ ∧ w1.cell? ⟨b, off + k * 35 + 33, none⟩ = some (.slice x.A x.sc.length x.cap) ∧ ins[k]? = some x) := Lib.hid fun k h => by
    obtain ⟨b, off, x, h1, h2, h3⟩ := HI.out k h
    exact ⟨b, off, x, h1, keep_cell HK1.out h2, h3⟩
  have HO1 : Hid (∀ k (h : k < m), ∃ (b off : Nat) (x : OutR), oA = some ⟨b, off, none⟩ ∧ w1.cell? ⟨b, off + k * 2 + 1, none⟩ = some (.slice x.A x.sc.length x.cap) ∧ outs[k]? = some x) := Lib.hid fun k h => by
    obtain ⟨b, off, x, h1, h2, h3⟩ := HO.out k h
    exact ⟨b, off, x, h1, keep_cell HK1.out h2, h3⟩
  clear HI HO HT1
  go_wp2_with fail
  go_loopw [3] (fun x wr => ∃ k : Nat, k ≤ n ∧ x = .int .i64 k ∧ Hid (∀ y ∈ ins.take k, y.sc.length ≤ 300) ∧ Hid (Keep w wr) ∧ wr.cell? ⟨gt, 1, none⟩ = some (.slice iA n ic) ∧ wr.cell? ⟨gt, 2, none⟩ = some (.slice oA m oc) ∧ Hid (∀ k (h : k < n), ∃ (b off : Nat) (x : InR), iA = some ⟨b, off, none⟩ ∧ wr.cell? ⟨b, off + k * 35 + 33, none⟩ = some (.slice x.A x.sc.length x.cap) ∧ ins[k]? = some x) ∧ Hid (∀ k (h : k < m), ∃ (b off : Nat) (x : OutR), oA = some ⟨b, off, none⟩ ∧ wr.cell? ⟨b, off + k * 2 + 1, none⟩ = some (.slice x.A x.sc.length x.cap) ∧ outs[k]? = some x)) (fun x _ => n - (intOf x).toNat)
  case atStart => exact ⟨0, Nat.zero_le _, rfl, Lib.hid (by simp), HK1, t1, t2, HI1, HO1⟩
  case round =>
    clear t1 t2 HI1 HO1 HK1
    obtain ⟨k, hk, rfl, HS, HK1, t1, t2, HI1, HO1⟩ := hrel
    by_cases hlt : k < n
    · obtain ⟨b, off, x, rfl, c33, hget⟩ := HI1.out k hlt
      have d4 : (k : Int) < n := by omega
      have HGE := Lib.hid hget
      clear hget
      by_cases hs : 300 < x.sc.length
      · have hv := bad.out (∀ y ∈ ins, y.sc.length ≤ 300) (fun q => by have := q x (List.mem_of_getElem? HGE.out); omega) fun q => (HD.out.1 q).1
        subst hv
        have d5 : (300 : Int) < x.sc.length := by omega
        clear HD bad
        go_wp2
        exact bodyPost_ret (v := .bool false) (by simp [results, Tryd.results30]) rfl ⟨rfl, HK1.out⟩
      · have d5 : ¬ (300 : Int) < x.sc.length := by omega
        have HS2 : Hid (∀ y ∈ ins.take (k + 1), y.sc.length ≤ 300) := Lib.hid fun y hy => by
          rw [List.take_add_one, HGE.out] at hy
          rcases List.mem_append.1 hy with q | q
          · exact HS.out y q
          · simp at q; subst q; omega
        clear HS bad
        go_wp2
        go_roundw
        case rel => exact ⟨k + 1, by omega, by go_num, HS2, HK1, t1, t2, HI1, HO1⟩
        case measure => simp [intOf]; omega
    · obtain rfl : k = n := by omega
      have d4 : ¬ (k : Int) < k := by omega
      have HSA : Hid (∀ y ∈ ins, y.sc.length ≤ 300) := Lib.hid (by have := HS.out; rwa [List.take_of_length_le (by rw [HNN.out]; omega)] at this)
      clear HS HI1
      go_wp2_with fail
      clear d4
      go_loopw [4] (fun x wr => ∃ j : Nat, j ≤ m ∧ x = .int .i64 j ∧ Hid (∀ y ∈ outs.take j, y.sc.length ≤ 300) ∧ Hid (Keep w wr) ∧ wr.cell? ⟨gt, 1, none⟩ = some (.slice iA k ic) ∧ wr.cell? ⟨gt, 2, none⟩ = some (.slice oA m oc)  ∧ Hid (∀ k (h : k < m), ∃ (b off : Nat) (x : OutR), oA = some ⟨b, off, none⟩ ∧ wr.cell? ⟨b, off + k * 2 + 1, none⟩ = some (.slice x.A x.sc.length x.cap) ∧ outs[k]? = some x)) (fun x _ => m - (intOf x).toNat)
      case atStart => exact ⟨0, Nat.zero_le _, rfl, Lib.hid (by simp), HK1, t1, t2, HO1⟩
      case round =>
        clear t1 t2
        obtain ⟨j, hj, rfl, HS, HKr, t1, t2, HO2⟩ := hrel
        clear HO1
        by_cases hlt2 : j < m
        · obtain ⟨b, off, x, rfl, c1, hget⟩ := HO2.out j hlt2
          have d4 : (j : Int) < m := by omega
          have HGE := Lib.hid hget
          clear hget
          by_cases hs : 300 < x.sc.length
          · have hv := bad.out (∀ y ∈ outs, y.sc.length ≤ 300) (fun q => by have := q x (List.mem_of_getElem? HGE.out); omega) fun q => (HD.out.1 q).2.1
            subst hv
            have d5 : (300 : Int) < x.sc.length := by omega
            clear HD bad
            go_wp2
            exact bodyPost_ret (v := .bool false) (by simp [results, Tryd.results30]) rfl ⟨rfl, HKr.out⟩
          · have d5 : ¬ (300 : Int) < x.sc.length := by omega
            have HS2 : Hid (∀ y ∈ outs.take (j + 1), y.sc.length ≤ 300) := Lib.hid fun y hy => by
              rw [List.take_add_one, HGE.out] at hy
              rcases List.mem_append.1 hy with q | q
              · exact HS.out y q
              · simp at q; subst q; omega
            clear HS bad
            go_wp2
            go_roundw
            case rel => exact ⟨j + 1, by omega, by go_num, HS2, HKr, t1, t2, HO2⟩
            case measure => simp [intOf]; omega
        · obtain rfl : j = m := by omega
          have d4 : ¬ (j : Int) < j := by omega
          have HSB : Hid (∀ y ∈ outs, y.sc.length ≤ 300) := Lib.hid (by have := HS.out; rwa [List.take_of_length_le (by rw [HMM.out]; omega)] at this)
          clear HS HO2
          by_cases hn : k ≤ 20
          · have e1 : (k : Int) ≤ 20 := by omega
            by_cases hm : j ≤ 20
            · have e2 : (j : Int) ≤ 20 := by omega
              have hv : R = true := HD.out.2 ⟨HSA.out, HSB.out, hn, hm⟩
              subst hv
              clear HD bad hn hm
              go_wp2
              exact bodyPost_ret (v := .bool true) (by simp [results, Tryd.results30]) rfl ⟨rfl, HKr.out⟩
            · have e2 : ¬ (j : Int) ≤ 20 := by omega
              have hv := bad.out (j ≤ 20) hm fun q => (HD.out.1 q).2.2.2
              subst hv
              clear HD bad hn hm
              go_wp2
              exact bodyPost_ret (v := .bool false) (by simp [results, Tryd.results30]) rfl ⟨rfl, HKr.out⟩
          · have e1 : ¬ (k : Int) ≤ 20 := by omega
            have hv := bad.out (k ≤ 20) hn fun q => (HD.out.1 q).2.2.1
            subst hv
            clear HD bad hn
            go_wp2
            exact bodyPost_ret (v := .bool false) (by simp [results, Tryd.results30]) rfl ⟨rfl, HKr.out⟩

set_option maxRecDepth 100000 in
set_option maxHeartbeats 4000000 in
theorem few09_any (m : MsgR) (cs : Array Value) (hA : MsB m cs) (w : World) (h : m.at_ w) :
    Calls Tryd.prog 13 #[.agg cs] w fun e w' => e = .returned (.bool (fewM m)) ∧ Keep w w' := by
  have hcn := hA.n; have hcz := hA.z; have hci := hA.i
  have HA := Lib.hid hA; have HO := Lib.hid h.o
  have FT : Hid (∀ y, Keep w y → Calls Tryd.prog 30 #[.agg #[u32v m.t.ver, .slice m.t.iA m.t.ins.length m.t.ic, .slice m.t.oA m.t.outs.length m.t.oc, u32v m.t.lock]] y fun e w' => e = .returned (.bool (fewT m.t)) ∧ Keep y w') := Lib.hid fun y hy => few08_any m.t y (h.t.keep hy)
  have HD : Hid (fewM m = (decide (m.hs.length ≤ 40 ∧ m.ls.length ≤ 150 ∧ m.is.length ≤ 100 ∧ m.shs.length ≤ 100 ∧ m.fs.length ≤ 1100) && fewT m.t)) := Lib.hid rfl
  clear hA h
  generalize fewM m = R at *
  generalize fewT m.t = B at *
  go_enter Tryd.func13, Tryd.ntmps13
  go_upto_region 1 with fail
  obtain ⟨w1, hw1⟩ : ∃ w1, w1 = w.alloc (.cells cs 63) := ⟨_, rfl⟩
  have HB1 : Hid (Blk w1 w.heap.size 63 m.cells) := by rw [hw1, ← HA.out.l]; exact Lib.hid (Blk.new w _ cs.toList)
  have HK1 : Hid (Keep w w1) := by rw [hw1]; exact Lib.hid (keep_new _ _)
  rw [← hw1]
  clear hw1
  have c4 : w1.cell? ⟨w.heap.size, 4, none⟩ = some (.slice m.hA m.hs.length m.hc) := (HB1.out.cell 4).trans rfl
  have c5 : w1.cell? ⟨w.heap.size, 5, none⟩ = some (.slice m.lA m.ls.length m.lc) := (HB1.out.cell 5).trans rfl
  have c38 : w1.cell? ⟨w.heap.size, 38, none⟩ = some (.slice m.iA m.is.length m.ic) := (HB1.out.cell 38).trans ((MsgR.tail_get HO.out 0).trans rfl)
  have r108 : w1.cell? ⟨w.heap.size, 108, none⟩ = some (.slice m.sA m.shs.length m.sc) := (HB1.out.cell 108).trans ((MsgR.blk_tail HO.out 1 (by omega)).trans rfl)
  have r109 : w1.cell? ⟨w.heap.size, 109, none⟩ = some (.slice m.fA m.fs.length m.fc) := (HB1.out.cell 109).trans ((MsgR.blk_tail HO.out 2 (by omega)).trans rfl)
  have t0 : w1.cell? ⟨w.heap.size, 110, none⟩ = some (u32v m.t.ver) := (HB1.out.cell 110).trans ((MsgR.tx_get HO.out 0).trans rfl)
  have t1 : w1.cell? ⟨w.heap.size, 111, none⟩ = some (.slice m.t.iA m.t.ins.length m.t.ic) := (HB1.out.cell 111).trans ((MsgR.tx_get HO.out 1).trans rfl)
  have t2 : w1.cell? ⟨w.heap.size, 112, none⟩ = some (.slice m.t.oA m.t.outs.length m.t.oc) := (HB1.out.cell 112).trans ((MsgR.tx_get HO.out 2).trans rfl)
  have t3 : w1.cell? ⟨w.heap.size, 113, none⟩ = some (u32v m.t.lock) := (HB1.out.cell 113).trans ((MsgR.tx_get HO.out 3).trans rfl)
  have bad : Hid (¬ (m.hs.length ≤ 40 ∧ m.ls.length ≤ 150 ∧ m.is.length ≤ 100 ∧ m.shs.length ≤ 100 ∧ m.fs.length ≤ 1100) → R = false) := Lib.hid fun h => by rw [HD.out, decide_eq_false h]; rfl
  by_cases gh : m.hs.length ≤ 40
  case neg =>
    have hv := bad.out (by omega)
    subst hv
    have eh : ¬ ((m.hs.length : Nat) : Int) ≤ 40 := by omega
    clear HD bad gh
    try simp only [List.append_eq, List.cons_append, List.nil_append]
    go_wp2
    exact bodyPost_ret (v := .bool false) (by simp [results, Tryd.results13]) rfl ⟨rfl, HK1.out⟩
  have eh : ((m.hs.length : Nat) : Int) ≤ 40 := by omega
  by_cases gl : m.ls.length ≤ 150
  case neg =>
    have hv := bad.out (by omega)
    subst hv
    have el : ¬ ((m.ls.length : Nat) : Int) ≤ 150 := by omega
    clear HD bad gl
    try simp only [List.append_eq, List.cons_append, List.nil_append]
    go_wp2
    exact bodyPost_ret (v := .bool false) (by simp [results, Tryd.results13]) rfl ⟨rfl, HK1.out⟩
  have el : ((m.ls.length : Nat) : Int) ≤ 150 := by omega
  by_cases gi : m.is.length ≤ 100
  case neg =>
    have hv := bad.out (by omega)
    subst hv
    have ei : ¬ ((m.is.length : Nat) : Int) ≤ 100 := by omega
    clear HD bad gi
    try simp only [List.append_eq, List.cons_append, List.nil_append]
    go_wp2
    exact bodyPost_ret (v := .bool false) (by simp [results, Tryd.results13]) rfl ⟨rfl, HK1.out⟩
  have ei : ((m.is.length : Nat) : Int) ≤ 100 := by omega
  by_cases gs : m.shs.length ≤ 100
  case neg =>
    have hv := bad.out (by omega)
    subst hv
    have es : ¬ ((m.shs.length : Nat) : Int) ≤ 100 := by omega
    clear HD bad gs
    try simp only [List.append_eq, List.cons_append, List.nil_append]
    go_wp2
    exact bodyPost_ret (v := .bool false) (by simp [results, Tryd.results13]) rfl ⟨rfl, HK1.out⟩
  have es : ((m.shs.length : Nat) : Int) ≤ 100 := by omega
  by_cases gf : m.fs.length ≤ 1100
  case neg =>
    have hv := bad.out (by omega)
    subst hv
    have ef : ¬ ((m.fs.length : Nat) : Int) ≤ 1100 := by omega
    clear HD bad gf
    try simp only [List.append_eq, List.cons_append, List.nil_append]
    go_wp2
    exact bodyPost_ret (v := .bool false) (by simp [results, Tryd.results13]) rfl ⟨rfl, HK1.out⟩
  have ef : ((m.fs.length : Nat) : Int) ≤ 1100 := by omega
  have hv : R = B := by rw [HD.out, decide_eq_true ⟨gh, gl, gi, gs, gf⟩]; rfl
  subst hv
  clear HD bad gh gl gi gs gf
  try simp only [List.append_eq, List.cons_append, List.nil_append]
  go_wp2_with (go_at_call 30; refine (FT.out _ HK1.out).mono ?_; rintro e w2 ⟨rfl, k2⟩; have HK2 := Lib.hid (keep_trans HK1.out k2); clear k2)
  exact bodyPost_ret (v := .bool R) (by simp [results, Tryd.results13]) rfl ⟨rfl, HK2.out⟩
end Go.Proofs.YtffpanlpbdnafaaDoor

/- PeerBanned (printed by gen_qo.py) -/
set_option linter.unusedSimpArgs false
set_option linter.unusedVariables false
namespace Go.Proofs.YtffpanlpbdnafaaDoor
open Go.RowKit
attribute [local go_sem ↓] Go.wp_at_zero Go.wp_at_succ
theorem tick_ban {q : PeR} (h : BanQ q) (now : Int) : tickP q now = (q, false) := by
  unfold tickP
  rw [h.taken, h.a]
  simp
theorem judG_ban {q : PeR} (h : BanQ q) (c : Int) : (judG q c).stage = 3 := by
  unfold judG
  rw [takenG_nil h.r, h.taken]
  split
  · rfl
  · exact h.s
theorem handle_ban {q : PeR} (h : BanQ q) (m : MsgR) : hdlP q m = (q, [], 16) := by
  unfold hdlP
  rw [h.taken, if_pos h.s]
theorem BanQ.at_ {q : PeR} (h : BanQ q) (hc : q.rc = 0) (w : World) : q.at_ w := ⟨by rw [h.r]; exact Rd.nil _ _, by rw [h.r, hc]; exact ⟨Nat.le_refl _, Nat.zero_le _⟩, by rw [h.r]; exact Nat.zero_le _⟩
set_option maxRecDepth 100000 in
set_option maxHeartbeats 8000000 in
theorem banned_walk (p : PeR) (cs : Array Value) (B : Option Addr) (n bc : Nat) (m : MsgR) (ms : Array Value) (now ec : Int) (w : World) (hA : RpA p cs) (hr : Rd w p.rA (p.rs.map u8v)) (hc : p.rs.length ≤ p.rc ∧ p.rc ≤ maxLen) (hM : MsB m ms) (hm : m.at_ w) (hS : ShaOk w) :
    Calls Tryd.prog 6 #[.agg cs, .slice B n bc, .agg ms, iv now, iv ec] w fun e w' => e = .returned (.bool true) ∧ Keep w w' := by
  have AW : Hid (∀ y, Calls Tryd.prog 7 #[] y fun e w' => e = .returned (.bool true) ∧ Keep y w') := Lib.hid awake22
  have FW : Hid (∀ y, Keep w y → Calls Tryd.prog 13 #[.agg ms] y fun e w' => e = .returned (.bool (fewM m)) ∧ Keep y w') := Lib.hid fun y hy => few09_any m ms hM y (hm.keep hy)
  have hcn := hA.n; have hcz := hA.z; have hci := hA.i
  have hmn := hM.n; have hmz := hM.z; have hmi := hM.i
  have HA := Lib.hid hA; have HMS := Lib.hid hM; have HMA := Lib.hid hm; have HSW := Lib.hid hS; have HRR := Lib.hid hr; have HCC := Lib.hid hc
  obtain ⟨N, hN⟩ : ∃ N, p.rs.length = N := ⟨_, rfl⟩
  have HNN := Lib.hid hN
  clear hA hM hm hS hr hc hN
  by_cases hn : 1500 < n
  · have d1 : decide ((1500 : Int) < n) = true := decide_eq_true (by omega)
    clear hn FW
    go_enter Tryd.func6, Tryd.ntmps6
    go_upto_region 1 with fail
    obtain ⟨w1, hw1⟩ : ∃ w1, w1 = (w.alloc (.cells cs 83)).alloc (.cells ms 63) := ⟨_, rfl⟩
    have HP1 : Hid (Blk w1 w.heap.size 83 cs.toList) := by rw [hw1]; exact Lib.hid ((Blk.new w _ cs.toList).alloc _)
    have HM1 : Hid (Blk w1 (w.heap.size + 1) 63 ms.toList) := by
      rw [hw1]
      have h2 := Blk.new (w.alloc (.cells cs 83)) 63 ms.toList
      rw [World.size_alloc] at h2
      exact Lib.hid h2
    have HK1 : Hid (Keep w w1) := by rw [hw1]; exact Lib.hid (keep_trans (keep_new _ _) (keep_new _ _))
    rw [← hw1]
    clear hw1
    go_upto_region 2 with (go_at_call 7; refine (AW.out _).mono ?_; rintro e w2 ⟨rfl, k⟩; have HK2 := Lib.hid (keep_trans HK1.out k); have HP2 := Lib.hid (HP1.out.keep k); have HM2 := Lib.hid (HM1.out.keep k); clear k)
    have r8 : w2.cell? ⟨w.heap.size, 8, none⟩ = some (.slice p.rA N p.rc) := (HP2.out.cell 8).trans (by rw [HA.out.l, ← HNN.out]; rfl)
    go_wp2
    exact bodyPost_ret (v := .bool true) (by simp [results, Tryd.results6]) rfl ⟨rfl, HK2.out⟩
  have d1 : decide ((1500 : Int) < n) = false := decide_eq_false (by omega)
  clear hn
  by_cases hN : 600 < N
  · have d2 : decide ((600 : Int) < N) = true := decide_eq_true (by omega)
    clear hN FW
    go_enter Tryd.func6, Tryd.ntmps6
    go_upto_region 1 with fail
    obtain ⟨w1, hw1⟩ : ∃ w1, w1 = (w.alloc (.cells cs 83)).alloc (.cells ms 63) := ⟨_, rfl⟩
    have HP1 : Hid (Blk w1 w.heap.size 83 cs.toList) := by rw [hw1]; exact Lib.hid ((Blk.new w _ cs.toList).alloc _)
    have HM1 : Hid (Blk w1 (w.heap.size + 1) 63 ms.toList) := by
      rw [hw1]
      have h2 := Blk.new (w.alloc (.cells cs 83)) 63 ms.toList
      rw [World.size_alloc] at h2
      exact Lib.hid h2
    have HK1 : Hid (Keep w w1) := by rw [hw1]; exact Lib.hid (keep_trans (keep_new _ _) (keep_new _ _))
    rw [← hw1]
    clear hw1
    go_upto_region 2 with (go_at_call 7; refine (AW.out _).mono ?_; rintro e w2 ⟨rfl, k⟩; have HK2 := Lib.hid (keep_trans HK1.out k); have HP2 := Lib.hid (HP1.out.keep k); have HM2 := Lib.hid (HM1.out.keep k); clear k)
    have r8 : w2.cell? ⟨w.heap.size, 8, none⟩ = some (.slice p.rA N p.rc) := (HP2.out.cell 8).trans (by rw [HA.out.l, ← HNN.out]; rfl)
    go_wp2
    exact bodyPost_ret (v := .bool true) (by simp [results, Tryd.results6]) rfl ⟨rfl, HK2.out⟩
  have d2 : decide ((600 : Int) < N) = false := decide_eq_false (by omega)
  have HN6 : Hid (N ≤ 600) := Lib.hid (by omega)
  clear hN
  cases hfew : fewM m
  · rw [hfew] at FW
    clear hfew
    go_enter Tryd.func6, Tryd.ntmps6
    go_upto_region 1 with fail
    obtain ⟨w1, hw1⟩ : ∃ w1, w1 = (w.alloc (.cells cs 83)).alloc (.cells ms 63) := ⟨_, rfl⟩
    have HP1 : Hid (Blk w1 w.heap.size 83 cs.toList) := by rw [hw1]; exact Lib.hid ((Blk.new w _ cs.toList).alloc _)
    have HM1 : Hid (Blk w1 (w.heap.size + 1) 63 ms.toList) := by
      rw [hw1]
      have h2 := Blk.new (w.alloc (.cells cs 83)) 63 ms.toList
      rw [World.size_alloc] at h2
      exact Lib.hid h2
    have HK1 : Hid (Keep w w1) := by rw [hw1]; exact Lib.hid (keep_trans (keep_new _ _) (keep_new _ _))
    rw [← hw1]
    clear hw1
    go_upto_region 2 with (go_at_call 7; refine (AW.out _).mono ?_; rintro e w2 ⟨rfl, k⟩; have HK2 := Lib.hid (keep_trans HK1.out k); have HP2 := Lib.hid (HP1.out.keep k); have HM2 := Lib.hid (HM1.out.keep k); clear k)
    have r8 : w2.cell? ⟨w.heap.size, 8, none⟩ = some (.slice p.rA N p.rc) := (HP2.out.cell 8).trans (by rw [HA.out.l, ← HNN.out]; rfl)
    go_wp2_with (first | ((with_reducible refine load_partg (w.heap.size + 1) 0 ms (Eq.trans ?_ rfl) (range_of HM2.out 0 ms.toList (by simp [List.take_of_length_le])) _ Tryd.underlying63 rfl hmi (Eq.trans ?_ rfl) ?_); rfl; rfl) | (go_at_call 13; refine (FW.out _ HK2.out).mono ?_; rintro e w3 ⟨rfl, k⟩; have HK3 := Lib.hid (keep_trans HK2.out k); have HP3 := Lib.hid (HP2.out.keep k); have HM3 := Lib.hid (HM2.out.keep k); clear k))
    exact bodyPost_ret (v := .bool true) (by simp [results, Tryd.results6]) rfl ⟨rfl, HK3.out⟩
  rw [hfew] at FW
  have HFE := Lib.hid hfew
  clear hfew
  obtain ⟨zs, hz0, hzA⟩ := zpeer_letter
  have hzn := hzA.n; have hzz := hzA.z
  have HZ := Lib.hid hzA
  have SD : Hid (∀ y, Calls Tryd.prog 25 #[.agg cs] y fun e w' => ∃ ds, e = .returned (.agg ds) ∧ PeA p ds ∧ Keep y w') := Lib.hid fun y => side_any p cs HA.out y
  have JG : Hid (∀ ds y, PeA p ds → Keep w y → Calls Tryd.prog 24 #[.agg ds, iv 6] y fun e w' => ∃ qs, e = .returned (.agg qs) ∧ PeA (takenG p).ban qs ∧ Keep y w') := Lib.hid fun ds y hd hy => by
    have k := judge_any p ds hd 6 y (by
      have h6 := HN6.out
      exact ⟨HRR.out.keep hy, HCC.out, by rw [HNN.out]; omega⟩) (HSW.out.keep hy)
    rw [show judG p 6 = (takenG p).ban from by unfold judG; rw [if_pos (by simp)]] at k
    exact k
  obtain ⟨q, hq, hqb⟩ : ∃ q, (takenG p).ban = q ∧ BanQ q ∧ q.rc = 0 := ⟨_, rfl, ban_sane p, rfl⟩
  rw [hq] at JG
  clear hq
  have HQB := Lib.hid hqb.1
  have FD : Hid (∀ qs y, PeA q qs → Calls Tryd.prog 17 #[.agg qs, .slice B n bc] y fun e w' => ∃ ds, e = .returned (.tuple #[.agg ds, .slice none 0 0, iv 16]) ∧ PeA q ds ∧ Keep y w') := Lib.hid fun qs y h => feed_ban q qs h hqb.1 _ y
  have MG : Hid (∀ y, Keep w y → Calls Tryd.prog 15 #[.agg ms] y fun e w' => ∃ m' ds, e = .returned (.agg ds) ∧ MsA m' ds ∧ m'.at_ w' ∧ Keep y w') := Lib.hid fun y hy => by
    have hf := HFE.out
    simp only [fewM, fewT, Bool.and_eq_true, decide_eq_true_eq] at hf
    obtain ⟨⟨h1, h2, h3, h4, h5⟩, h6, h7, h8, h9⟩ := hf
    exact (lmsg_any m ms HMS.out y (HMA.out.keep hy) (by omega) (by omega) (by omega)).mono fun e w' ⟨m', ds, g1, g2, g3, g4, g5⟩ => ⟨m', ds, g1, g2, g4, g5⟩
  have HD : Hid (∀ qs (m' : MsgR) ds y, PeA q qs → MsA m' ds → m'.at_ y → Calls Tryd.prog 8 #[.agg qs, .agg ds] y fun e w' => ∃ xs A n, e = .returned (.tuple #[.agg xs, .slice A 0 n, iv 16]) ∧ PeA q xs ∧ Keep y w') := Lib.hid fun qs m' ds y h1 h2 h3 =>
    (handle_as qs h1 hqb.1.r m' ds h2 (handle_ban hqb.1 m') y h3).mono fun e w' ⟨xs, A, n, g1, g2, _, _, _, g3⟩ => ⟨xs, A, n, g1, g2, g3⟩
  have AK : Hid (∀ qs y, PeA q qs → Calls Tryd.prog 10 #[.agg qs, iv now, iv now] y fun e w' => ∃ ds, e = .returned (.tuple #[.agg ds, .bool false]) ∧ PeA q ds ∧ Keep y w') := Lib.hid fun qs y h => ask_ban q qs h hqb.1 now now y
  have TK : Hid (∀ qs y, PeA q qs → Calls Tryd.prog 11 #[.agg qs, iv now] y fun e w' => ∃ ds, e = .returned (.tuple #[.agg ds, .bool false]) ∧ PeA q ds ∧ Keep y w') := Lib.hid fun qs y h => by
    have k := tick_any q qs h hqb.1.r now y
    rw [tick_ban hqb.1] at k
    exact k
  have JE : Hid (∀ qs y, PeA q qs → Keep w y → Calls Tryd.prog 24 #[.agg qs, iv ec] y fun e w' => ∃ x ds, e = .returned (.agg ds) ∧ (PeA x ds ∧ x.stage = 3) ∧ Keep y w') := Lib.hid fun qs y h hy =>
    (judge_any q qs h ec y (hqb.1.at_ hqb.2 y) (HSW.out.keep hy)).mono fun e w' ⟨ds, g1, g2, g3⟩ => ⟨_, ds, g1, ⟨g2, judG_ban hqb.1 ec⟩, g3⟩
  have SE : Hid (∀ qs (m' : MsgR) ds y, PeA q qs → MsA m' ds → Calls Tryd.prog 14 #[.agg qs, .agg ds] y fun e w' => e = .returned (.tuple #[.slice none 0 0, iv 16]) ∧ Keep y w') := Lib.hid fun qs m' ds y h1 h2 => send_ban q qs h1 hqb.1 m' ds h2 y
  have SN : Hid (∀ qs y, PeA q qs → Calls Tryd.prog 12 #[.agg qs] y fun e w' => e = .returned (.bool true) ∧ Keep y w') := Lib.hid fun qs y h => by
    have k := psane_any q qs h hqb.1.r y
    rw [hqb.1.n] at k
    exact k
  clear hqb hzA
  go_enter Tryd.func6, Tryd.ntmps6
  go_upto_region 1 with fail
  obtain ⟨w1, hw1⟩ : ∃ w1, w1 = (w.alloc (.cells cs 83)).alloc (.cells ms 63) := ⟨_, rfl⟩
  have HP1 : Hid (Blk w1 w.heap.size 83 cs.toList) := by rw [hw1]; exact Lib.hid ((Blk.new w _ cs.toList).alloc _)
  have HM1 : Hid (Blk w1 (w.heap.size + 1) 63 ms.toList) := by
    rw [hw1]
    have h2 := Blk.new (w.alloc (.cells cs 83)) 63 ms.toList
    rw [World.size_alloc] at h2
    exact Lib.hid h2
  have HK1 : Hid (Keep w w1) := by rw [hw1]; exact Lib.hid (keep_trans (keep_new _ _) (keep_new _ _))
  rw [← hw1]
  clear hw1
  go_upto_region 2 with (go_at_call 7; refine (AW.out _).mono ?_; rintro e w2 ⟨rfl, k⟩; have HK2 := Lib.hid (keep_trans HK1.out k); have HP2 := Lib.hid (HP1.out.keep k); have HM2 := Lib.hid (HM1.out.keep k); clear k)
  have r8 : w2.cell? ⟨w.heap.size, 8, none⟩ = some (.slice p.rA N p.rc) := (HP2.out.cell 8).trans (by rw [HA.out.l, ← HNN.out]; rfl)
  go_upto_region 4 with (first | ((with_reducible refine load_partg (w.heap.size + 1) 0 ms (Eq.trans ?_ rfl) (range_of HM2.out 0 ms.toList (by simp [List.take_of_length_le])) _ Tryd.underlying63 rfl hmi (Eq.trans ?_ rfl) ?_); rfl; rfl) | (go_at_call 13; refine (FW.out _ HK2.out).mono ?_; rintro e w3 ⟨rfl, k⟩; have HK3 := Lib.hid (keep_trans HK2.out k); have HP3 := Lib.hid (HP2.out.keep k); have HM3 := Lib.hid (HM2.out.keep k); clear k))
  clear r8 FW AW HK1 HK2 HP1 HP2 HM1 HM2
  go_upto_region 5 with (first | ((with_reducible refine load_arr w.heap.size cs (Eq.trans ?_ rfl) HP3.out _ Tryd.underlying83 rfl hci ?_); rfl) | (go_at_call 25; refine (SD.out _).mono ?_; rintro e w4 ⟨ds, rfl, hdA, k⟩; have HDS := Lib.hid hdA; have HK4 := Lib.hid (keep_trans HK3.out k); have HM4 := Lib.hid (HM3.out.keep k); clear k hdA) | (go_at_call 24; refine (JG.out _ _ HDS.out HK4.out).mono ?_; rintro e w5 ⟨qs, rfl, hdA, k⟩; replace HM4 := Lib.hid (HM4.out.keep k); have HKw5 := Lib.hid (keep_trans HK4.out k); have hst := pst_new HZ.out hdA w5; have hnq := hdA.n; have hzq := hdA.z; have hiq := hdA.i; have HAq := Lib.hid hdA; clear k hdA))
  obtain ⟨w6, hw⟩ : ∃ y, y = w5.alloc (.cells qs 31) := ⟨_, rfl⟩
  have HBq : Hid (Blk w6 w5.heap.size 31 qs.toList) := by rw [hw]; exact Lib.hid (Blk.new w5 _ qs.toList)
  replace HM4 := Lib.hid (show Blk w6 _ _ _ from by rw [hw]; exact HM4.out.alloc _)
  have HKw6 : Hid (Keep w w6) := by rw [hw]; exact Lib.hid (keep_trans HKw5.out (keep_new _ _))
  rw [← hw]
  clear hst hw HKw5
  generalize w5.heap.size = bq at *
  clear SD JG HDS HP3 HM3 HK3 HK4
  go_upto_region 6 with (first | ((with_reducible refine load_arr bq qs (Eq.trans ?_ rfl) HBq.out _ Tryd.underlying31 rfl hiq ?_); rfl) | (go_at_call 17; refine (FD.out qs _ HAq.out).mono ?_; rintro e w7 ⟨d1, rfl, hdA, k⟩; replace HM4 := Lib.hid (HM4.out.keep k); replace HBq := Lib.hid (HBq.out.keep k); have HKw7 := Lib.hid (keep_trans HKw6.out k); have hst := pst_new HZ.out hdA w7; have hna := hdA.n; have hza := hdA.z; have hia := hdA.i; have HAa := Lib.hid hdA; clear k hdA))
  obtain ⟨w8, hw⟩ : ∃ y, y = w7.alloc (.cells d1 31) := ⟨_, rfl⟩
  have HBa : Hid (Blk w8 w7.heap.size 31 d1.toList) := by rw [hw]; exact Lib.hid (Blk.new w7 _ d1.toList)
  replace HM4 := Lib.hid (show Blk w8 _ _ _ from by rw [hw]; exact HM4.out.alloc _)
  replace HBq := Lib.hid (show Blk w8 _ _ _ from by rw [hw]; exact HBq.out.alloc _)
  have HKw8 : Hid (Keep w w8) := by rw [hw]; exact Lib.hid (keep_trans HKw7.out (keep_new _ _))
  rw [← hw]
  clear hst hw HKw7
  generalize w7.heap.size = ba at *
  have C1 : Hid (w8.cell? ⟨ba, 0, none⟩ = some (iv 3)) := Lib.hid ((HBa.out.cell 0).trans (by rw [HAa.out.l]; show some (iv q.stage) = _; rw [HQB.out.s]))
  clear HBa FD HKw6 hna hza hia HAa
  go_cut [16, 17, 18] (fun s16 s17 s18 wx => ∃ g16 A n, s16 = .pointer (some ⟨g16, 0, none⟩) ∧ s17 = .slice A 0 n ∧ s18 = iv 16 ∧ Hid (wx.cell? ⟨g16, 0, none⟩ = some (iv 3)) ∧ Hid (Keep w8 wx))
  case first =>
    refine wp_region_tree (.take [0,1] (.fork 2 (.fork 3 (.take [4,5,6,7] (.force [8] .done)) 8 (.force [3] (.take [4,5,6,7] .done))) 8 (.force [2,3] (.take [4,5,6,7] .done)))) [9,10,11] (by kernel_rfl) (by kernel_rfl) (fun y0 hk => ?_)
    have Q := Lib.hid hk
    clear hk
    refine mt_take y0 (Below.refl _ _) ?_
    simp only [pick_cons, pick_nil, nth_zero, nth_succ]
    have RM := Lib.hid (range_of (HM4.out.keep Q.out) 0 ms.toList (by simp [List.take_of_length_le]))
    have RQ := Lib.hid (range_of (HBq.out.keep Q.out) 0 qs.toList (by simp [List.take_of_length_le]))
    repeat (first | ((with_reducible refine wpQuiet_load_partg bq 0 qs (Eq.trans ?_ rfl) RQ.out _ Tryd.underlying31 rfl hiq (Eq.trans ?_ rfl) ?_); rfl; rfl; simp only [Act.put, Array.set!_eq_setIfInBounds, List.setIfInBounds_toArray, List.set_cons_succ, List.set_cons_zero]) | ((with_reducible refine wpQuiet_load_partg (w.heap.size + 1) 0 ms (Eq.trans ?_ rfl) RM.out _ Tryd.underlying63 rfl hmi (Eq.trans ?_ rfl) ?_); rfl; rfl; simp only [Act.put, Array.set!_eq_setIfInBounds, List.setIfInBounds_toArray, List.set_cons_succ, List.set_cons_zero]) | go_big_quiet_step (fail))
    clear RM RQ
    refine wpQuiet_nil (mt_fork ?_ ?_)
    · simp only [pick_cons, pick_nil, nth_zero, nth_succ]
      refine fc_step rfl (fun K hK => ?_)
      go_simp
      (with_reducible refine (MG.out y0 (keep_trans HKw8.out Q.out)).mono ?_)
      rintro e y1 ⟨m1, e1, rfl, hmA, hma, hk⟩
      refine hK _ _ hk ?_
      clear hK K
      have HQ2 : w8.heap.size ≤ y0.heap.size := Q.out.size
      have Hprev := Q
      replace Q := Lib.hid (keep_trans Q.out hk)
      have hs_y1 : y0.heap.size ≤ y1.heap.size := hk.size
      have HMA1 := Lib.hid hmA; have HMT := Lib.hid hma
      have hen := hmA.n; have hez := hmA.z
      clear hmA hma
      clear hk
      refine fc_nil (mt_fork ?_ ?_)
      · simp only [pick_cons, pick_nil, nth_zero, nth_succ]
        refine fc_step rfl (fun K hK => ?_)
        go_simp
        (with_reducible refine (HD.out qs m1 e1 y1 HAq.out HMA1.out HMT.out).mono ?_)
        rintro e y2 ⟨x1, A1, n1, rfl, hx, hk⟩
        refine hK _ _ hk ?_
        clear hK K
        have HQ3 : w8.heap.size ≤ y1.heap.size := Q.out.size
        have Hprev := Q
        replace Q := Lib.hid (keep_trans Q.out hk)
        have hs_y2 : y1.heap.size ≤ y2.heap.size := hk.size
        replace HMT := Lib.hid (HMT.out.keep hk)
        have HX1 := Lib.hid hx
        have hxn := hx.n; have hxz := hx.z; have hxi := hx.i
        clear hx
        clear hk
        refine fc_nil (mt_take y2 (Below.refl _ _) ?_)
        simp only [pick_cons, pick_nil, nth_zero, nth_succ]
        repeat (go_big_quiet_step (fail))
        refine wpQuiet_nil (mt_force ?_)
        simp only [pick_cons, pick_nil, nth_zero, nth_succ]
        refine fc_step rfl (fun K hK => ?_)
        go_simp
        refine hK _ _ (keep_new _ _) ?_
        clear hK K
        obtain ⟨y3, hy⟩ : ∃ y3, y3 = y2.alloc (.cells zs 31) := ⟨_, rfl⟩
        have HX : Hid (Blk y3 y2.heap.size 31 zs.toList) := by rw [hy]; exact Blk.new y2 _ zs.toList
        have hk : Keep y2 y3 := by rw [hy]; exact keep_new _ _
        rw [← hy]
        clear hy
        have HXs : y2.heap.size < y3.heap.size := HX.out.lt
        have HXn := Q.out.size
        replace Q := Lib.hid (keep_trans Q.out hk)
        have hs_y3 : y2.heap.size ≤ y3.heap.size := hk.size
        replace HMT := Lib.hid (HMT.out.keep hk)
        clear hk
        generalize hp : y2.heap.size = gx at *
        have HXa : y2.heap.size ≤ gx := Nat.le_of_eq hp
        have HXb : gx ≤ y2.heap.size := Nat.le_of_eq hp.symm
        clear hp
        refine fc_nil (mt_end ?_)
        obtain ⟨wa, hsta, hba, hga⟩ := run_store_blk (P := Tryd.prog) x1.toList HX.out (by rw [Array.length_toList, Array.length_toList, hzz, hxz]) HX1.out.o
        have Hba := Lib.hid hba; have Hga := Lib.hid hga
        have hga1 := hga.size; have hQs := Q.out.size
        clear hba hga
        go_wp2
        go_meet
        exact ⟨gx, A1, n1, rfl, rfl, rfl, Lib.hid ((Hba.out.cell 0).trans (by rw [HX1.out.l]; show some (iv q.stage) = _; rw [HQB.out.s])), Lib.hid (Q.out.grown Hga.out (by omega) (fun q hq => by injection hq with hq; omega))⟩
      · simp only [pick_cons, pick_nil, nth_zero, nth_succ]
        refine fc_step rfl (fun K hK => ?_)
        go_simp
        refine hK _ _ (keep_new _ _) ?_
        clear hK K
        obtain ⟨y4, hy⟩ : ∃ y4, y4 = y1.alloc (.cells zs 31) := ⟨_, rfl⟩
        have HX : Hid (Blk y4 y1.heap.size 31 zs.toList) := by rw [hy]; exact Blk.new y1 _ zs.toList
        have hk : Keep y1 y4 := by rw [hy]; exact keep_new _ _
        rw [← hy]
        clear hy
        have HXs : y1.heap.size < y4.heap.size := HX.out.lt
        have HXn := Q.out.size
        replace Q := Lib.hid (keep_trans Q.out hk)
        have hs_y4 : y1.heap.size ≤ y4.heap.size := hk.size
        replace HMT := Lib.hid (HMT.out.keep hk)
        clear hk
        generalize hp : y1.heap.size = gx at *
        have HXa : y1.heap.size ≤ gx := Nat.le_of_eq hp
        have HXb : gx ≤ y1.heap.size := Nat.le_of_eq hp.symm
        clear hp
        refine fc_nil (mt_force ?_)
        simp only [pick_cons, pick_nil, nth_zero, nth_succ]
        refine fc_step rfl (fun K hK => ?_)
        go_simp
        (with_reducible refine (HD.out qs m1 e1 y4 HAq.out HMA1.out HMT.out).mono ?_)
        rintro e y5 ⟨x1, A1, n1, rfl, hx, hk⟩
        refine hK _ _ hk ?_
        clear hK K
        have HQ3 : w8.heap.size ≤ y4.heap.size := Q.out.size
        have Hprev := Q
        replace Q := Lib.hid (keep_trans Q.out hk)
        have hs_y5 : y4.heap.size ≤ y5.heap.size := hk.size
        replace HMT := Lib.hid (HMT.out.keep hk)
        replace HX := Lib.hid (HX.out.keep hk)
        have HX1 := Lib.hid hx
        have hxn := hx.n; have hxz := hx.z; have hxi := hx.i
        clear hx
        clear hk
        refine fc_nil (mt_take y5 (Below.refl _ _) ?_)
        simp only [pick_cons, pick_nil, nth_zero, nth_succ]
        repeat (go_big_quiet_step (fail))
        refine wpQuiet_nil (mt_end ?_)
        obtain ⟨wa, hsta, hba, hga⟩ := run_store_blk (P := Tryd.prog) x1.toList HX.out (by rw [Array.length_toList, Array.length_toList, hzz, hxz]) HX1.out.o
        have Hba := Lib.hid hba; have Hga := Lib.hid hga
        have hga1 := hga.size; have hQs := Q.out.size
        clear hba hga
        go_wp2
        go_meet
        exact ⟨gx, A1, n1, rfl, rfl, rfl, Lib.hid ((Hba.out.cell 0).trans (by rw [HX1.out.l]; show some (iv q.stage) = _; rw [HQB.out.s])), Lib.hid (Q.out.grown Hga.out (by omega) (fun q hq => by injection hq with hq; omega))⟩
    · simp only [pick_cons, pick_nil, nth_zero, nth_succ]
      refine fc_step rfl (fun K hK => ?_)
      go_simp
      refine hK _ _ (keep_new _ _) ?_
      clear hK K
      obtain ⟨y6, hy⟩ : ∃ y6, y6 = y0.alloc (.cells zs 31) := ⟨_, rfl⟩
      have HX : Hid (Blk y6 y0.heap.size 31 zs.toList) := by rw [hy]; exact Blk.new y0 _ zs.toList
      have hk : Keep y0 y6 := by rw [hy]; exact keep_new _ _
      rw [← hy]
      clear hy
      have HXs : y0.heap.size < y6.heap.size := HX.out.lt
      have HXn := Q.out.size
      replace Q := Lib.hid (keep_trans Q.out hk)
      have hs_y6 : y0.heap.size ≤ y6.heap.size := hk.size
      clear hk
      generalize hp : y0.heap.size = gx at *
      have HXa : y0.heap.size ≤ gx := Nat.le_of_eq hp
      have HXb : gx ≤ y0.heap.size := Nat.le_of_eq hp.symm
      clear hp
      refine fc_nil (mt_force ?_)
      simp only [pick_cons, pick_nil, nth_zero, nth_succ]
      refine fc_step rfl (fun K hK => ?_)
      go_simp
      (with_reducible refine (MG.out y6 (keep_trans HKw8.out Q.out)).mono ?_)
      rintro e y7 ⟨m1, e1, rfl, hmA, hma, hk⟩
      refine hK _ _ hk ?_
      clear hK K
      have HQ2 : w8.heap.size ≤ y6.heap.size := Q.out.size
      have Hprev := Q
      replace Q := Lib.hid (keep_trans Q.out hk)
      have hs_y7 : y6.heap.size ≤ y7.heap.size := hk.size
      replace HX := Lib.hid (HX.out.keep hk)
      have HMA1 := Lib.hid hmA; have HMT := Lib.hid hma
      have hen := hmA.n; have hez := hmA.z
      clear hmA hma
      clear hk
      refine fc_step rfl (fun K hK => ?_)
      go_simp
      (with_reducible refine (HD.out qs m1 e1 y7 HAq.out HMA1.out HMT.out).mono ?_)
      rintro e y8 ⟨x1, A1, n1, rfl, hx, hk⟩
      refine hK _ _ hk ?_
      clear hK K
      have HQ3 : w8.heap.size ≤ y7.heap.size := Q.out.size
      have Hprev := Q
      replace Q := Lib.hid (keep_trans Q.out hk)
      have hs_y8 : y7.heap.size ≤ y8.heap.size := hk.size
      replace HX := Lib.hid (HX.out.keep hk)
      replace HMT := Lib.hid (HMT.out.keep hk)
      have HX1 := Lib.hid hx
      have hxn := hx.n; have hxz := hx.z; have hxi := hx.i
      clear hx
      clear hk
      refine fc_nil (mt_take y8 (Below.refl _ _) ?_)
      simp only [pick_cons, pick_nil, nth_zero, nth_succ]
      repeat (go_big_quiet_step (fail))
      refine wpQuiet_nil (mt_end ?_)
      obtain ⟨wa, hsta, hba, hga⟩ := run_store_blk (P := Tryd.prog) x1.toList HX.out (by rw [Array.length_toList, Array.length_toList, hzz, hxz]) HX1.out.o
      have Hba := Lib.hid hba; have Hga := Lib.hid hga
      have hga1 := hga.size; have hQs := Q.out.size
      clear hba hga
      go_wp2
      go_meet
      exact ⟨gx, A1, n1, rfl, rfl, rfl, Lib.hid ((Hba.out.cell 0).trans (by rw [HX1.out.l]; show some (iv q.stage) = _; rw [HQB.out.s])), Lib.hid (Q.out.grown Hga.out (by omega) (fun q hq => by injection hq with hq; omega))⟩
  case rest =>
    obtain ⟨g16, A16, n16, rfl, rfl, rfl, C2, K8⟩ := hcut
    replace C1 := Lib.hid (keep_cell K8.out C1.out)
    replace HBq := Lib.hid (HBq.out.keep K8.out)
    replace HM4 := Lib.hid (HM4.out.keep K8.out)
    have HKwc := Lib.hid (keep_trans HKw8.out K8.out)
    clear K8 HKw8 HD
    go_upto_region 8 with (first | ((with_reducible refine load_arr bq qs (Eq.trans ?_ rfl) HBq.out _ Tryd.underlying31 rfl hiq ?_); rfl) | (go_at_call 10; refine (AK.out qs _ HAq.out).mono ?_; rintro e w9 ⟨d2, rfl, hdA, k⟩; replace HM4 := Lib.hid (HM4.out.keep k); replace HBq := Lib.hid (HBq.out.keep k); replace C1 := Lib.hid (keep_cell k C1.out); replace C2 := Lib.hid (keep_cell k C2.out); have HKw9 := Lib.hid (keep_trans HKwc.out k); have hst := pst_new HZ.out hdA w9; have hnb := hdA.n; have hzb := hdA.z; have hib := hdA.i; have HAb := Lib.hid hdA; clear k hdA))
    obtain ⟨w10, hw⟩ : ∃ y, y = w9.alloc (.cells d2 31) := ⟨_, rfl⟩
    have HBb : Hid (Blk w10 w9.heap.size 31 d2.toList) := by rw [hw]; exact Lib.hid (Blk.new w9 _ d2.toList)
    replace HM4 := Lib.hid (show Blk w10 _ _ _ from by rw [hw]; exact HM4.out.alloc _)
    replace HBq := Lib.hid (show Blk w10 _ _ _ from by rw [hw]; exact HBq.out.alloc _)
    replace C1 := Lib.hid (keep_cell (show Keep _ w10 from by rw [hw]; exact keep_new _ _) C1.out)
    replace C2 := Lib.hid (keep_cell (show Keep _ w10 from by rw [hw]; exact keep_new _ _) C2.out)
    have HKw10 : Hid (Keep w w10) := by rw [hw]; exact Lib.hid (keep_trans HKw9.out (keep_new _ _))
    rw [← hw]
    clear hst hw HKw9
    generalize w9.heap.size = bb at *
    have C3 : Hid (w10.cell? ⟨bb, 0, none⟩ = some (iv 3)) := Lib.hid ((HBb.out.cell 0).trans (by rw [HAb.out.l]; show some (iv q.stage) = _; rw [HQB.out.s]))
    clear HBb AK hnb hzb hib HAb
    go_upto_region 9 with (first | ((with_reducible refine load_arr bq qs (Eq.trans ?_ rfl) HBq.out _ Tryd.underlying31 rfl hiq ?_); rfl) | (go_at_call 11; refine (TK.out qs _ HAq.out).mono ?_; rintro e w11 ⟨d3, rfl, hdA, k⟩; replace HM4 := Lib.hid (HM4.out.keep k); replace HBq := Lib.hid (HBq.out.keep k); replace C1 := Lib.hid (keep_cell k C1.out); replace C2 := Lib.hid (keep_cell k C2.out); replace C3 := Lib.hid (keep_cell k C3.out); have HKw11 := Lib.hid (keep_trans HKw10.out k); have hst := pst_new HZ.out hdA w11; have hnc := hdA.n; have hzc := hdA.z; have hic := hdA.i; have HAc := Lib.hid hdA; clear k hdA))
    obtain ⟨w12, hw⟩ : ∃ y, y = w11.alloc (.cells d3 31) := ⟨_, rfl⟩
    have HBc : Hid (Blk w12 w11.heap.size 31 d3.toList) := by rw [hw]; exact Lib.hid (Blk.new w11 _ d3.toList)
    replace HM4 := Lib.hid (show Blk w12 _ _ _ from by rw [hw]; exact HM4.out.alloc _)
    replace HBq := Lib.hid (show Blk w12 _ _ _ from by rw [hw]; exact HBq.out.alloc _)
    replace C1 := Lib.hid (keep_cell (show Keep _ w12 from by rw [hw]; exact keep_new _ _) C1.out)
    replace C2 := Lib.hid (keep_cell (show Keep _ w12 from by rw [hw]; exact keep_new _ _) C2.out)
    replace C3 := Lib.hid (keep_cell (show Keep _ w12 from by rw [hw]; exact keep_new _ _) C3.out)
    have HKw12 : Hid (Keep w w12) := by rw [hw]; exact Lib.hid (keep_trans HKw11.out (keep_new _ _))
    rw [← hw]
    clear hst hw HKw11
    generalize w11.heap.size = bc3 at *
    have C4 : Hid (w12.cell? ⟨bc3, 0, none⟩ = some (iv 3)) := Lib.hid ((HBc.out.cell 0).trans (by rw [HAc.out.l]; show some (iv q.stage) = _; rw [HQB.out.s]))
    clear HBc TK hnc hzc hic HAc
    go_upto_region 10 with (first | ((with_reducible refine load_arr bq qs (Eq.trans ?_ rfl) HBq.out _ Tryd.underlying31 rfl hiq ?_); rfl) | (go_at_call 24; refine (JE.out qs _ HAq.out HKw12.out).mono ?_; rintro e w13 ⟨x, d4, rfl, ⟨hdA, hx3⟩, k⟩; replace HM4 := Lib.hid (HM4.out.keep k); replace HBq := Lib.hid (HBq.out.keep k); replace C1 := Lib.hid (keep_cell k C1.out); replace C2 := Lib.hid (keep_cell k C2.out); replace C3 := Lib.hid (keep_cell k C3.out); replace C4 := Lib.hid (keep_cell k C4.out); have HKw13 := Lib.hid (keep_trans HKw12.out k); have hst := pst_new HZ.out hdA w13; have hnd := hdA.n; have hzd := hdA.z; have hid := hdA.i; have HAd := Lib.hid hdA; clear k hdA))
    obtain ⟨w14, hw⟩ : ∃ y, y = w13.alloc (.cells d4 31) := ⟨_, rfl⟩
    have HBd : Hid (Blk w14 w13.heap.size 31 d4.toList) := by rw [hw]; exact Lib.hid (Blk.new w13 _ d4.toList)
    replace HM4 := Lib.hid (show Blk w14 _ _ _ from by rw [hw]; exact HM4.out.alloc _)
    replace HBq := Lib.hid (show Blk w14 _ _ _ from by rw [hw]; exact HBq.out.alloc _)
    replace C1 := Lib.hid (keep_cell (show Keep _ w14 from by rw [hw]; exact keep_new _ _) C1.out)
    replace C2 := Lib.hid (keep_cell (show Keep _ w14 from by rw [hw]; exact keep_new _ _) C2.out)
    replace C3 := Lib.hid (keep_cell (show Keep _ w14 from by rw [hw]; exact keep_new _ _) C3.out)
    replace C4 := Lib.hid (keep_cell (show Keep _ w14 from by rw [hw]; exact keep_new _ _) C4.out)
    have HKw14 : Hid (Keep w w14) := by rw [hw]; exact Lib.hid (keep_trans HKw13.out (keep_new _ _))
    rw [← hw]
    clear hst hw HKw13
    generalize w13.heap.size = bd at *
    have C5 : Hid (w14.cell? ⟨bd, 0, none⟩ = some (iv 3)) := Lib.hid ((HBd.out.cell 0).trans (by rw [HAd.out.l]; show some (iv x.stage) = _; rw [hx3]))
    clear HBd JE hnd hzd hid HAd hx3
    refine wp_region_tree (.take [0,1] (.force [2,3] (.take [4,5,6,7,8] .done))) [] (by kernel_rfl) (by kernel_rfl) (fun y0 hk => ?_)
    replace HM4 := Lib.hid (HM4.out.keep hk)
    replace HBq := Lib.hid (HBq.out.keep hk)
    replace C1 := Lib.hid (keep_cell hk C1.out)
    replace C2 := Lib.hid (keep_cell hk C2.out)
    replace C3 := Lib.hid (keep_cell hk C3.out)
    replace C4 := Lib.hid (keep_cell hk C4.out)
    replace C5 := Lib.hid (keep_cell hk C5.out)
    have HKy0 := Lib.hid (keep_trans HKw14.out hk)
    clear hk HKw14
    refine mt_take y0 (Below.refl _ _) ?_
    simp only [pick_cons, pick_nil, nth_zero, nth_succ]
    repeat (first | ((with_reducible refine wpQuiet_load_partg bq 0 qs (Eq.trans ?_ rfl) (range_of HBq.out 0 qs.toList (by simp [List.take_of_length_le])) _ Tryd.underlying31 rfl hiq (Eq.trans ?_ rfl) ?_); rfl; rfl; simp only [Act.put, Array.set!_eq_setIfInBounds, List.setIfInBounds_toArray, List.set_cons_succ, List.set_cons_zero]) | ((with_reducible refine wpQuiet_load_partg (w.heap.size + 1) 0 ms (Eq.trans ?_ rfl) (range_of HM4.out 0 ms.toList (by simp [List.take_of_length_le])) _ Tryd.underlying63 rfl hmi (Eq.trans ?_ rfl) ?_); rfl; rfl; simp only [Act.put, Array.set!_eq_setIfInBounds, List.setIfInBounds_toArray, List.set_cons_succ, List.set_cons_zero]) | go_big_quiet_step (fail))
    refine wpQuiet_nil (mt_force ?_)
    simp only [pick_cons, pick_nil, nth_zero, nth_succ]
    refine fc_step rfl (fun K hK => ?_)
    go_simp
    (with_reducible refine (MG.out _ HKy0.out).mono ?_)
    rintro e y1 ⟨m1, e1, rfl, hmA, hma, hk⟩
    refine hK _ _ hk ?_
    clear hK K
    replace HM4 := Lib.hid (HM4.out.keep hk)
    replace HBq := Lib.hid (HBq.out.keep hk)
    replace C1 := Lib.hid (keep_cell hk C1.out)
    replace C2 := Lib.hid (keep_cell hk C2.out)
    replace C3 := Lib.hid (keep_cell hk C3.out)
    replace C4 := Lib.hid (keep_cell hk C4.out)
    replace C5 := Lib.hid (keep_cell hk C5.out)
    have HKy1 := Lib.hid (keep_trans HKy0.out hk)
    clear hk HKy0
    refine fc_step rfl (fun K hK => ?_)
    go_simp
    (with_reducible refine (SE.out qs m1 e1 _ HAq.out hmA).mono ?_)
    rintro e y2 ⟨rfl, hk⟩
    refine hK _ _ hk ?_
    clear hK K
    replace HM4 := Lib.hid (HM4.out.keep hk)
    replace HBq := Lib.hid (HBq.out.keep hk)
    replace C1 := Lib.hid (keep_cell hk C1.out)
    replace C2 := Lib.hid (keep_cell hk C2.out)
    replace C3 := Lib.hid (keep_cell hk C3.out)
    replace C4 := Lib.hid (keep_cell hk C4.out)
    replace C5 := Lib.hid (keep_cell hk C5.out)
    have HKy2 := Lib.hid (keep_trans HKy1.out hk)
    clear hk HKy1
    clear SE MG HM4 hmA hma
    refine fc_nil (mt_take y2 (Below.refl _ _) ?_)
    simp only [pick_cons, pick_nil, nth_zero, nth_succ]
    repeat (go_big_quiet_step (fail))
    refine wpQuiet_nil (mt_end ?_)
    have q0 : y2.cell? ⟨bq, 0, none⟩ = some (iv 3) := (HBq.out.cell 0).trans (by rw [HAq.out.l]; show some (iv q.stage) = _; rw [HQB.out.s])
    have q3 : y2.cell? ⟨bq, 3, none⟩ = some (.bool false) := (HBq.out.cell 3).trans (by rw [HAq.out.l]; show some (Value.bool q.asked) = _; rw [HQB.out.a])
    have q8 : y2.cell? ⟨bq, 8, none⟩ = some (.slice q.rA 0 q.rc) := (HBq.out.cell 8).trans (by rw [HAq.out.l]; show some (Value.slice q.rA q.rs.length q.rc) = _; rw [HQB.out.r]; rfl)
    go_upto_region 13 with (first | ((with_reducible refine load_partg bq 0 qs (Eq.trans ?_ rfl) (range_of HBq.out 0 qs.toList (by simp [List.take_of_length_le])) _ Tryd.underlying31 rfl hiq (Eq.trans ?_ rfl) ?_); rfl; rfl) | (go_at_call 12; refine (SN.out qs _ HAq.out).mono ?_; rintro e z ⟨rfl, k⟩; have HKz := Lib.hid (keep_trans HKy2.out k); replace C1 := Lib.hid (keep_cell k C1.out); replace C2 := Lib.hid (keep_cell k C2.out); replace C3 := Lib.hid (keep_cell k C3.out); replace C4 := Lib.hid (keep_cell k C4.out); replace C5 := Lib.hid (keep_cell k C5.out); clear k))
    clear q0 q3 q8 SN HBq HKy2
    have c1 := C1.out; have c2 := C2.out; have c3 := C3.out; have c4 := C4.out; have c5 := C5.out
    try simp only [List.append_eq, List.cons_append, List.nil_append]
    go_wp2
    exact bodyPost_ret (v := .bool true) (by simp [results, Tryd.results6]) rfl ⟨rfl, HKz.out⟩
end Go.Proofs.YtffpanlpbdnafaaDoor
