/- Texts merged by pack.py: Qg, Qh, Qi. -/
import Derived.Test.YtffpanlpbdnafaaDoorCx5
import Derived.Test.YtffpanlpbdnafaaDoorCx8
import Derived.Test.YtffpanlpbdnafaaDoorCx3
import Derived.Deep.CutBlock
/- peer.Handle (printed by gen_qg.py) -/
set_option linter.unusedSimpArgs false
set_option linter.unusedVariables false
namespace Go.Proofs.YtffpanlpbdnafaaDoor
open Go.RowKit
attribute [local go_sem ↓] Go.wp_at_zero Go.wp_at_succ

def hdlP (p : PeR) (m : MsgR) : PeR × List MsgR × Int :=
  if (takenP p).stage = 3 then (takenP p, [], 16)
  else if fitsB m = false then ((takenP p).ban, [], 2)
  else if (takenP p).stage = 0 ∧ m.kind = 0 then ({ takenP p with stage := 1, nonce := m.nonce, height := m.height }, [{ msgZ 0 with proto := 70015, nonce := m.nonce }, msgZ 1], 0)
  else if (takenP p).stage = 1 ∧ m.kind = 1 then ({ takenP p with stage := 2 }, [], 0)
  else if (takenP p).stage = 2 ∧ m.kind = 2 then (takenP p, [{ msgZ 3 with nonce := m.nonce }], 0)
  else if (takenP p).stage = 2 ∧ m.kind = 5 then ({ takenP p with asked := false, misses := 0 }, [], 0)
  else if (takenP p).stage = 2 ∧ m.kind ≠ 0 ∧ m.kind ≠ 1 then (takenP p, [], 0)
  else ((takenP p).ban, [], 15)
theorem ev_guard : Tryd.prog.eqGuardType Tryd.prog.depth 89 = false := by kernel_rfl
theorem ev_stood : Tryd.prog.stoodInHeld 89 = false := by kernel_rfl
theorem ev_struct : Tryd.prog.underlying 89 = some (.struct (Tryd.prog.fieldsOf 89)) := by kernel_rfl
theorem ev_fields : ((Tryd.prog.fieldsOf 89).toList.map fun f => (f.name != "_", f.type, f.offset)) = [(true, 3, 0), (true, 3, 1)] := by kernel_rfl
theorem int_agg (w : World) : (isAgg 3).run Tryd.prog w = .ok false w := by kernel_rfl
theorem part_iv {cs : Array Value} {off : Nat} {v : Value} (h : cs[off]? = some v) (w : World) : (part 3 cs off).run Tryd.prog w = .ok v w := by
  simp only [part, Sem.run_bind, int_agg, Result.andThen_ok, Bool.false_eq_true, if_false, h, Sem.run_pure]
theorem ev_in (a b c d : Int) (w : World) : (Op.equalIn 10000 89 (.agg #[iv a, iv b]) (.agg #[iv c, iv d])).run Tryd.prog w = .ok ((a == c) && ((b == d) && true)) w := by
  rw [show (10000 : Nat) = 9998 + 2 from rfl, run_equalIn_agg w 9999 _ _ _ ev_struct ev_stood, eqF_of Tryd.prog, ev_fields]
  refine eqF_step (part_iv rfl w) (part_iv rfl w) (run_equalIn_int w 9998 _ .i64 .i64 _ _ Tryd.underlying3) (eqF_step (part_iv rfl w) (part_iv rfl w) (run_equalIn_int w 9998 _ .i64 .i64 _ _ Tryd.underlying3) ?_)
  rw [eqF]; rfl
theorem event_eq (a b c d : Int) (w : World) : (Go.binOp .eql 89 (.agg #[iv a, iv b]) (.agg #[iv c, iv d])).run Tryd.prog w = .ok (.bool ((a == c) && ((b == d) && true))) w := by
  rw [run_eql_struct, ev_in]; rfl
theorem ev_t {a b c d : Int} (h : a = c ∧ b = d) : ((a == c) && ((b == d) && true)) = true := by obtain ⟨rfl, rfl⟩ := h; simp
theorem ev_f {a b c d : Int} (h : ¬ (a = c ∧ b = d)) : ((a == c) && ((b == d) && true)) = false := by
  rw [Bool.eq_false_iff]; intro q; apply h; simpa using q
set_option maxRecDepth 100000 in
theorem msgsT : ElT Tryd.prog 32 50 (Value.agg zmsg) 114 336 := ElT.mk' Tryd.underlying32 (by kernel_rfl) zmsg_size (by omega)
theorem pong_built (n : Nat) (h : n < 2 ^ 64) : ∃ ks, MsA { msgZ 3 with nonce := n } ks ∧ Tryd.prog.built 50 [(0, .int .i64 3), (2, u64v n)] = some ks := by
  have ho := msgZ_ok 3 (by omega)
  exact ⟨_, MsA.of (m := { msgZ 3 with nonce := n }) ⟨ho.k, h, ho.s, ho.b, ho.h, ho.l, ho.i, ho.z⟩, by kernel_rfl⟩
theorem hello_built (n : Nat) (h : n < 2 ^ 64) : ∃ ks, MsA { msgZ 0 with proto := 70015, nonce := n } ks ∧ Tryd.prog.built 50 [(0, .int .i64 0), (1, .int .u32 70015), (2, u64v n)] = some ks := by
  have ho := msgZ_ok 0 (by omega)
  exact ⟨_, MsA.of (m := { msgZ 0 with proto := 70015, nonce := n }) ⟨ho.k, h, ho.s, ho.b, ho.h, ho.l, ho.i, ho.z⟩, by kernel_rfl⟩
theorem foldl_setoff (off : Nat) : ∀ (l : List Value) (k : Nat) (acc : Array Value), off + k + l.length ≤ acc.size → (l.zipIdx k).foldl (fun cs x => cs.setIfInBounds (off + x.2) x.1) acc = (acc.toList.take (off + k) ++ l ++ acc.toList.drop (off + k + l.length)).toArray
  | [], k, acc, h => by simp
  | v :: r, k, acc, h => by
    rw [List.zipIdx_cons, List.foldl_cons, foldl_setoff off r (k + 1) _ (by simp at h ⊢; omega)]
    have hk : off + k < acc.size := by simp at h; omega
    congr 1
    rw [Array.toList_setIfInBounds, ← Nat.add_assoc, List.take_succ_eq_append_getElem (by simpa using hk), List.getElem_set_self, List.take_set_of_le (Nat.le_refl _), List.drop_set_of_lt (by omega)]
    have e : off + k + (v :: r).length = off + k + 1 + r.length := by simp; omega
    simp only [e, List.append_assoc, List.singleton_append, List.cons_append, List.nil_append]
theorem fill_step {place : Nat → Option (Nat × Nat)} {acc : Array Value} {i off size : Nat} {v : Value} {rest : List (Nat × Value)} (hp : place i = some (off, size)) (hv : v.cells.size = size) (ho : off + size ≤ acc.size) :
    Instr.fill place acc ((i, v) :: rest) = Instr.fill place (acc.toList.take off ++ v.cells.toList ++ acc.toList.drop (off + size)).toArray rest := by
  rw [Instr.fill, hp]
  simp only []
  rw [if_neg (by simp [hv]; omega)]
  congr 1
  rw [← Array.foldl_toList, Array.toList_zipIdx]
  have := foldl_setoff off v.cells.toList 0 acc (by simp [hv]; omega)
  rw [Nat.add_zero] at this
  rw [show v.cells.toList.length = size from by simpa using hv] at this
  exact this
theorem wp_build2b {P : Program} {t e : TypeId} {zc : Array Value} {size bytes : Nat} (T : ElT P t e (.agg zc) size bytes) {o : Oper} {a : Act} {w : World} {K : Act → World → Prop} {Q : Exit → Act → World → Prop} (x y : Operand) (ho : o.op = .buildSlice t 2 #[(0, x), (1, y)])
    (cs ds : Array Value) (hz : cs.size = size) (hzd : ds.size = size) (hsm : size ≤ 1000) (hx : a.eval x = .agg cs) (hy : a.eval y = .agg ds)
    (h : K (a.put o.dst (.slice (some ⟨w.heap.size, 0, none⟩) 2 2)) (w.alloc (.cells (cs.toList ++ ds.toList).toArray e))) : o.wp P a w K Q := by
  obtain ⟨i, hi, hiz, his, _⟩ := T.info
  have hzc : zc.size = size := T.zs
  have hp := T.pos
  refine wp_buildSlice t e 2 _ ho (cs.toList ++ ds.toList).toArray i (.agg zc) T.und hi hiz (by rw [his]; omega) (by rw [his]; omega) ?_ h
  have hc : (Value.agg cs).cells = cs := rfl
  have hd : (Value.agg ds).cells = ds := rfl
  have hcl : cs.toList.length = size := by simpa using hz
  have hdl : ds.toList.length = size := by simpa using hzd
  simp only [List.map_toArray, List.map_cons, List.map_nil, hx, hy, his]
  rw [fill_step (off := 0 * size) (size := size) rfl (by rw [hc, hz]) (by simp; omega)]
  rw [fill_step (off := 1 * size) (size := size) rfl (by rw [hd, hzd]) (by simp [hc, hz]; omega)]
  rw [Instr.fill]
  congr 2
  rw [hc, hd, Nat.zero_mul, Nat.one_mul, List.take_zero, List.nil_append]
  rw [List.take_append_of_le_length (by omega), List.take_of_length_le (by omega)]
  have : List.drop (size + size) (cs.toList ++ List.drop (0 + size) ((Array.range (2 * size)).map fun j => (Value.agg zc).cells[j % (Value.agg zc).cells.size]!).toList) = [] := List.drop_eq_nil_of_le (by simp [hz]; omega)
  simp only [] at this ⊢
  rw [this, List.append_nil]
def Hdl (R : PeR × List MsgR × Int) (w : World) (e : Ending) (w' : World) : Prop :=
  ∃ ds A n, e = .returned (.tuple #[.agg ds, .slice A R.2.1.length n, iv R.2.2]) ∧ PeA R.1 ds ∧ R.2.1.length ≤ n ∧ n ≤ 2 ∧ Rd w' A (R.2.1.flatMap MsgR.cells) ∧ Keep w w'
set_option maxRecDepth 100000 in
set_option maxHeartbeats 4000000 in
theorem handle_any (p : PeR) (cs : Array Value) (hA : PeA p cs) (hr : p.rs = []) (m : MsgR) (ms : Array Value) (hM : MsA m ms) (w : World) (hm : m.at_ w) :
    Calls Tryd.prog 8 #[.agg cs, .agg ms] w (Hdl (hdlP p m) w) := by
  have HT : Hid (hdlP p m = _) := Lib.hid (hdlP.eq_1 p m)
  generalize hdlP p m = R at *
  obtain ⟨zs, hz0, hzA⟩ := zpeer_letter
  have FT : Hid (∀ y, Keep w y → Calls Tryd.prog 16 #[.agg ms] y fun e w' => e = .returned (.bool (fitsB m)) ∧ Keep y w') := Lib.hid fun y hy => fits_any m ms hM hm.o y (hm.t.keep hy)
  have TK : Hid (∀ y, Calls Tryd.prog 26 #[.agg cs] y fun e w' => ∃ ds, e = .returned (.agg ds) ∧ PeA (takenP p) ds ∧ Keep y w') := Lib.hid fun y => ptaken_any p cs hA hr y
  have hcn := hA.n; have hcz := hA.z; have hci := hA.i
  have hzn := hzA.n; have hzz := hzA.z
  have HA := Lib.hid hA; have HZ := Lib.hid hzA
  have hmn := hM.n; have hmz := hM.z; have hmi := hM.i
  have HMS := Lib.hid hM
  have HNN := Lib.hid hm.o.n
  clear hA hzA hr hM hm
  generalize takenP p = q at *
  generalize fitsB m = b at *
  go_enter Tryd.func8, Tryd.ntmps8
  go_upto_region 1 with fail
  obtain ⟨w1, hw1⟩ : ∃ w1, w1 = ((w.alloc (.cells cs 31)).alloc (.cells ms 50)).alloc (.cells zs 31) := ⟨_, rfl⟩
  have HB1 : Hid (Blk w1 w.heap.size 31 cs.toList) := by rw [hw1]; exact Lib.hid (((Blk.new w _ cs.toList).alloc _).alloc _)
  have HM1 : Hid (Blk w1 (w.heap.size + 1) 50 ms.toList) := by
    rw [hw1]
    have h2 := Blk.new (w.alloc (.cells cs 31)) 50 ms.toList
    rw [World.size_alloc] at h2
    exact Lib.hid (h2.alloc _)
  have HR1 : Hid (Blk w1 (w.heap.size + 2) 31 zs.toList) := by
    rw [hw1]
    have h2 := Blk.new ((w.alloc (.cells cs 31)).alloc (.cells ms 50)) 31 zs.toList
    rw [World.size_alloc, World.size_alloc] at h2
    exact Lib.hid h2
  have HK1 : Hid (Keep w w1) := by rw [hw1]; exact Lib.hid (keep_trans (keep_trans (keep_new _ _) (keep_new _ _)) (keep_new _ _))
  rw [← hw1]
  clear hw1
  go_wp2_with ((with_reducible refine load_arr w.heap.size cs (Eq.trans ?_ rfl) HB1.out _ Tryd.underlying31 rfl hci ?_); rfl)
  refine (TK.out _).mono ?_
  clear TK
  rintro e w2 ⟨qs, rfl, hqA, k2⟩
  have hqn := hqA.n; have hqz := hqA.z; have hqi := hqA.i
  have HQ := Lib.hid hqA
  have HK2 := Lib.hid (keep_trans HK1.out k2)
  obtain ⟨w3, hst3, hb3, hg3⟩ := run_store_blk (P := Tryd.prog) qs.toList (HB1.out.keep k2) (by rw [Array.length_toList, Array.length_toList, hcz, hqz]) HQ.out.o
  have HB3 : Hid (Blk w3 w.heap.size 31 q.cells) := by rw [← HQ.out.l]; exact Lib.hid hb3
  have HBc3 : Hid (Blk w3 w.heap.size 31 qs.toList) := Lib.hid hb3
  have HM3 : Hid (Blk w3 (w.heap.size + 1) 50 ms.toList) := Lib.hid ((HM1.out.keep k2).grown hg3 (fun e => by injection e with e; omega))
  have HR3 : Hid (Blk w3 (w.heap.size + 2) 31 zs.toList) := Lib.hid ((HR1.out.keep k2).grown hg3 (fun e => by injection e with e; omega))
  have HK3 : Hid (Keep w w3) := Lib.hid (HK2.out.grown hg3 HK2.out.size (fun q hq => by injection hq with hq; omega))
  clear k2 HB1 HR1 HK1 HM1 HK2 hqA hb3 hg3
  go_upto_region 2 with fail
  clear hst3
  have r0 : w3.cell? ⟨w.heap.size, 0, none⟩ = some (iv q.stage) := (HB3.out.cell 0).trans rfl
  by_cases h3 : q.stage = 3
  · have d0 : (q.stage == 3) = true := by rw [h3]; rfl
    have hR : R = (q, [], 16) := by rw [HT.out, if_pos h3]
    clear h3
    obtain ⟨w8, hst8, hb8, hg8⟩ := run_store_blk (P := Tryd.prog) qs.toList HR3.out (by rw [Array.length_toList, Array.length_toList, hzz, HQ.out.z]) HQ.out.o
    have Hb8 := Lib.hid hb8; have Hg8 := Lib.hid hg8
    have hdi8 := HQ.out.i
    have hdn8 := HQ.out.n
    have hdz8 := HQ.out.z
    have HRE := Lib.hid hR
    clear hb8 hg8 hR HT
    go_wp2_with ((with_reducible refine load_arr w.heap.size qs (Eq.trans ?_ rfl) HBc3.out _ Tryd.underlying31 rfl hdi8 ?_); rfl)
    exact bodyPost_ret (v := .tuple #[.agg qs, .slice none 0 0, iv 16]) (results_cell_tmp_tmp Tryd.results8 _ _ (w.heap.size + 2) _ _ _ _ rfl Hb8.out Tryd.underlying31 rfl (by rw [List.size_toArray, Array.length_toList]; exact hdi8)) rfl (by
      rw [HRE.out]
      exact ⟨qs, none, 0, rfl, HQ.out, Nat.le_refl _, Nat.zero_le _, Rd.nil _ _, HK3.out.grown Hg8.out HK3.out.size (fun q hq => by injection hq with hq; omega)⟩)
  have d0 : (q.stage == 3) = false := by rw [beq_eq_false_iff_ne]; exact h3
  have HT2 := Lib.hid (HT.out.trans (if_neg h3))
  clear h3 HT
  go_wp2_with ((with_reducible refine load_arr (w.heap.size + 1) ms (Eq.trans ?_ rfl) HM3.out _ Tryd.underlying50 rfl hmi ?_); rfl)
  refine (FT.out _ HK3.out).mono ?_
  clear FT r0
  rintro e w4 ⟨rfl, k4⟩
  have HBc4 := Lib.hid (HBc3.out.keep k4)
  have HB4 := Lib.hid (HB3.out.keep k4)
  have HM4 : Hid (Blk w4 (w.heap.size + 1) 50 m.cells) := by rw [← HMS.out.l]; exact Lib.hid (HM3.out.keep k4)
  have HR4 := Lib.hid (HR3.out.keep k4)
  have HK4 := Lib.hid (keep_trans HK3.out k4)
  clear k4 HBc3 HB3 HM3 HR3 HK3
  cases b
  · have hR : R = (q.ban, [], 2) := by rw [HT2.out, if_pos rfl]
    have hR0 := hR
    have HRE := Lib.hid hR
    clear hR hR0 HT2
    go_wp2_with ((with_reducible refine load_arr w.heap.size qs (Eq.trans ?_ rfl) HBc4.out _ Tryd.underlying31 rfl hqi ?_); rfl)
    refine (banned_any _ qs HQ.out _).mono ?_
    rintro e w5 ⟨bs, rfl, hbA, k5⟩
    have hbn := hbA.n; have hbz := hbA.z; have hbi := hbA.i
    have HBA := Lib.hid hbA
    have HK5 := Lib.hid (keep_trans HK4.out k5)
    obtain ⟨w8, hst8, hb8, hg8⟩ := run_store_blk (P := Tryd.prog) bs.toList (HR4.out.keep k5) (by rw [Array.length_toList, Array.length_toList, hzz, hbz]) hbA.o
    have Hb8 := Lib.hid hb8; have Hg8 := Lib.hid hg8
    clear hb8 hg8 hbA k5
    go_wp2
    exact bodyPost_ret (v := .tuple #[.agg bs, .slice none 0 0, iv 2]) (results_cell_tmp_tmp Tryd.results8 _ _ (w.heap.size + 2) _ _ _ _ rfl Hb8.out Tryd.underlying31 rfl (by rw [List.size_toArray, Array.length_toList]; exact hbi)) rfl (by
      rw [HRE.out]
      exact ⟨bs, none, 0, rfl, HBA.out, Nat.le_refl _, Nat.zero_le _, Rd.nil _ _, HK5.out.grown Hg8.out HK5.out.size (fun q hq => by injection hq with hq; omega)⟩)
  have HT := Lib.hid (HT2.out.trans (if_neg (by decide)))
  clear HT2
  have r0 : w4.cell? ⟨w.heap.size, 0, none⟩ = some (iv q.stage) := (HB4.out.cell 0).trans rfl
  have m0 : w4.cell? ⟨w.heap.size + 1, 0, none⟩ = some (iv m.kind) := (HM4.out.cell 0).trans rfl
  have hgd := ev_guard
  by_cases c1 : q.stage = 0 ∧ m.kind = 0
  · have hR : R = ({ q with stage := 1, nonce := m.nonce, height := m.height }, [{ msgZ 0 with proto := 70015, nonce := m.nonce }, msgZ 1], 0) := HT.out.trans (if_pos c1)
    have he1 : ∀ w, (Go.binOp .eql 89 (.agg #[iv q.stage, iv m.kind]) (.agg #[iv 0, iv 0])).run Tryd.prog w = .ok (.bool true) w := fun w => by rw [event_eq, ev_t c1]
    have hi1 : ∀ w, (Op.equalIn 10000 89 (.agg #[iv q.stage, iv m.kind]) (.agg #[iv 0, iv 0])).run Tryd.prog w = .ok true w := fun w => by rw [ev_in, ev_t c1]
    have HC := Lib.hid c1
    clear c1 HT
    have m2 : w4.cell? ⟨w.heap.size + 1, 2, none⟩ = some (u64v m.nonce) := (HM4.out.cell 2).trans rfl
    have m3 : w4.cell? ⟨w.heap.size + 1, 3, none⟩ = some (u32v m.height) := (HM4.out.cell 3).trans rfl
    have HRE := Lib.hid hR
    clear hR
    go_upto_region 8 with fail
    letI iM : G.Mk := ⟨some w.heap.size⟩
    refine G.wp_region_tree (.take [0,1,2,3,4] (.force [5] (.take [6] (.force [7] (.take [8] (.force [9] .done)))))) [] (by kernel_rfl) (by kernel_rfl) (fun wa ka => ?_)
    have hneG : G.Mk.m ≠ some (w.heap.size + 1) := fun q => by have e : w.heap.size = w.heap.size + 1 := Option.some.inj q; omega
    have HBa := Lib.hid (HB4.out.keep ka); have HMa := Lib.hid (HM4.out.keep ka); have HRa := Lib.hid (HR4.out.keep ka); have HKa := Lib.hid (keep_trans HK4.out ka)
    have b2 := G.aftG_cell (keep_cell ka m2) hneG
    have b3 := G.aftG_cell (keep_cell ka m3) hneG
    clear ka HB4 HM4 HR4 HK4 HBc4 m2 m3 m0 r0 hgd he1 hi1
    refine G.mt_take wa (G.Gr.refl _) ?_
    simp only [pick_cons, pick_nil, nth_zero, nth_succ]
    repeat (go_big_quiet_step (fail))
    refine wpQuiet_nil (G.mt_force ?_)
    clear b2 b3 hneG
    simp only [pick_cons, pick_nil, nth_zero, nth_succ]
    refine G.fc_step rfl (fun K hK => ?_)
    obtain ⟨v0, z0⟩ : ∃ v, wa.cell? ⟨w.heap.size, 0, none⟩ = some v := ⟨_, (HBa.out.cell 0).trans rfl⟩
    have y0 := HBa.out.frozen 0
    go_simp
    refine hK _ _ (show G.Gr wa _ from grown_set (grown_refl wa _)) ?_
    clear hK K z0 y0
    obtain ⟨wb0, hwb⟩ : ∃ wb, wb = wa.setCell ⟨w.heap.size, 0, none⟩ (.int .i64 1) := ⟨_, rfl⟩
    have HBb0 : Hid (Blk wb0 w.heap.size 31 (PeR.cells { q with stage := 1 })) := by
      rw [hwb]
      have q := HBa.out.set_ 0 (.int .i64 1)
      exact Lib.hid q
    have HMb0 : Hid (Blk wb0 (w.heap.size + 1) 50 m.cells) := by rw [hwb]; exact Lib.hid (HMa.out.far (by simp) _)
    have HRb0 : Hid (Blk wb0 (w.heap.size + 2) 31 zs.toList) := by rw [hwb]; exact Lib.hid (HRa.out.far (by simp) _)
    have HKb0 : Hid (Keep w wb0) := by rw [hwb]; exact Lib.hid (Below.setCell HKa.out (by simp) _)
    rw [← hwb]
    clear hwb HBa HMa HRa HKa
    refine G.fc_nil (G.mt_take _ (G.Gr.refl _) ?_)
    simp only [pick_cons, pick_nil, nth_zero, nth_succ]
    repeat (go_big_quiet_step (fail))
    refine wpQuiet_nil (G.mt_force ?_)
    simp only [pick_cons, pick_nil, nth_zero, nth_succ]
    refine G.fc_step rfl (fun K hK => ?_)
    obtain ⟨v0, z0⟩ : ∃ v, wb0.cell? ⟨w.heap.size, 1, none⟩ = some v := ⟨_, (HBb0.out.cell 1).trans rfl⟩
    have y0 := HBb0.out.frozen 1
    go_simp
    refine hK _ _ (show G.Gr wb0 _ from grown_set (grown_refl wb0 _)) ?_
    clear hK K z0 y0
    obtain ⟨wb1, hwb⟩ : ∃ wb, wb = wb0.setCell ⟨w.heap.size, 1, none⟩ (u64v m.nonce) := ⟨_, rfl⟩
    have HBb1 : Hid (Blk wb1 w.heap.size 31 (PeR.cells { q with stage := 1, nonce := m.nonce })) := by
      rw [hwb]
      have q := HBb0.out.set_ 1 (u64v m.nonce)
      exact Lib.hid q
    have HMb1 : Hid (Blk wb1 (w.heap.size + 1) 50 m.cells) := by rw [hwb]; exact Lib.hid (HMb0.out.far (by simp) _)
    have HRb1 : Hid (Blk wb1 (w.heap.size + 2) 31 zs.toList) := by rw [hwb]; exact Lib.hid (HRb0.out.far (by simp) _)
    have HKb1 : Hid (Keep w wb1) := by rw [hwb]; exact Lib.hid (Below.setCell HKb0.out (by simp) _)
    rw [← hwb]
    clear hwb HBb0 HMb0 HRb0 HKb0
    refine G.fc_nil (G.mt_take _ (G.Gr.refl _) ?_)
    simp only [pick_cons, pick_nil, nth_zero, nth_succ]
    repeat (go_big_quiet_step (fail))
    refine wpQuiet_nil (G.mt_force ?_)
    simp only [pick_cons, pick_nil, nth_zero, nth_succ]
    refine G.fc_step rfl (fun K hK => ?_)
    obtain ⟨v0, z0⟩ : ∃ v, wb1.cell? ⟨w.heap.size, 2, none⟩ = some v := ⟨_, (HBb1.out.cell 2).trans rfl⟩
    have y0 := HBb1.out.frozen 2
    go_simp
    refine hK _ _ (show G.Gr wb1 _ from grown_set (grown_refl wb1 _)) ?_
    clear hK K z0 y0
    obtain ⟨wb2, hwb⟩ : ∃ wb, wb = wb1.setCell ⟨w.heap.size, 2, none⟩ (u32v m.height) := ⟨_, rfl⟩
    have HBb2 : Hid (Blk wb2 w.heap.size 31 (PeR.cells { q with stage := 1, nonce := m.nonce, height := m.height })) := by
      rw [hwb]
      have q := HBb1.out.set_ 2 (u32v m.height)
      exact Lib.hid q
    have HMb2 : Hid (Blk wb2 (w.heap.size + 1) 50 m.cells) := by rw [hwb]; exact Lib.hid (HMb1.out.far (by simp) _)
    have HRb2 : Hid (Blk wb2 (w.heap.size + 2) 31 zs.toList) := by rw [hwb]; exact Lib.hid (HRb1.out.far (by simp) _)
    have HKb2 : Hid (Keep w wb2) := by rw [hwb]; exact Lib.hid (Below.setCell HKb1.out (by simp) _)
    rw [← hwb]
    clear hwb HBb1 HMb1 HRb1 HKb1
    refine G.fc_nil (G.mt_end ?_)
    clear iM
    obtain ⟨ds, hds⟩ : ∃ ds, PeA { q with stage := 1, nonce := m.nonce, height := m.height } ds := ⟨_, PeA.of _⟩
    have HDS := Lib.hid hds
    have HBx : Hid (Blk wb2 w.heap.size 31 ds.toList) := by rw [HDS.out.l]; exact HBb2
    clear hds HBb2
    have m2 : wb2.cell? ⟨w.heap.size + 1, 2, none⟩ = some (u64v m.nonce) := (HMb2.out.cell 2).trans rfl
    obtain ⟨ys, hyz, hyA⟩ := zmsg_letter
    obtain ⟨ks, hks, hbu⟩ := hello_built m.nonce HNN.out
    obtain ⟨vs, hvs, hbv⟩ : ∃ vs, MsA (msgZ 1) vs ∧ Tryd.prog.built 50 [(0, .int .i64 1)] = some vs := ⟨_, MsA.of (msgZ_ok 1 (by omega)), by kernel_rfl⟩
    have hyn := hyA.n; have hkn := hks.n; have hkz := hks.z; have hyzz := hyA.z; have hki := hks.i; have hvz := hvs.z
    have HKS := Lib.hid hks; have HVS := Lib.hid hvs; have HBu := Lib.hid hbu; have HBv := Lib.hid hbv
    have hst : (storeCells ⟨wb2.heap.size, 0, none⟩ ks.toList 0).run Tryd.prog (wb2.alloc (.cells ys 50)) = .ok () (wb2.alloc (.cells ks 50)) := run_storeCells_new (P := Tryd.prog) wb2 50 ys ks HKS.out.i (hyA.z.trans hkz.symm) (by have := all_oneCell_toArray HKS.out.o; simpa using this)
    clear hks hvs hbu hbv hyA
    go_upto_region 10 with ((with_reducible refine list_bldg [(0, .int .i64 0), (1, .int .u32 70015), (2, u64v m.nonce)] ks (Eq.trans ?_ rfl) HBu.out (Eq.trans ?_ rfl) ?_); rfl; rfl)
    obtain ⟨w5, hw5⟩ : ∃ w5, w5 = wb2.alloc (.cells ks 50) := ⟨_, rfl⟩
    have HH5 : Hid (Blk w5 wb2.heap.size 50 ks.toList) := by rw [hw5]; exact Lib.hid (Blk.new wb2 _ ks.toList)
    have HB5 : Hid (Blk w5 w.heap.size 31 ds.toList) := by rw [hw5]; exact Lib.hid (HBx.out.alloc _)
    have HR5 : Hid (Blk w5 (w.heap.size + 2) 31 zs.toList) := by rw [hw5]; exact Lib.hid (HRb2.out.alloc _)
    have HK5 : Hid (Keep w w5) := by rw [hw5]; exact Lib.hid (keep_trans HKb2.out (keep_new _ _))
    rw [← hw5]
    have hl2 := HRb2.out.lt
    clear hw5 hst HBx HRb2 HKb2 HMb2 m2
    generalize wb2.heap.size = hn at *
    letI iM : G.Mk := ⟨some (w.heap.size + 2)⟩
    refine G.wp_region_tree (.take [0,1,2] (.fork 3 (.force [4] (.take [5,6] .done)) 4 (.force [3] (.take [5,6] .done)))) [] (by kernel_rfl) (by kernel_rfl) (fun wa ka => ?_)
    have hne0 : G.Mk.m ≠ some w.heap.size := fun q => by have e : w.heap.size + 2 = w.heap.size := Option.some.inj q; omega
    have hne1 : G.Mk.m ≠ some hn := fun q => by have e : w.heap.size + 2 = hn := Option.some.inj q; omega
    have HBa := Lib.hid (HB5.out.keep ka); have HHa := Lib.hid (HH5.out.keep ka); have HRa := Lib.hid (HR5.out.keep ka); have HKa := Lib.hid (keep_trans HK5.out ka)
    have hdi := HDS.out.i
    have b2 := hdi
    clear ka HB5 HR5 HK5 HH5
    refine G.mt_take wa (G.Gr.refl _) ?_
    simp only [pick_cons, pick_nil, nth_zero, nth_succ]
    repeat (first
      | ((with_reducible refine G.wpQuiet_load_arrG w.heap.size ds (Eq.trans ?_ rfl) HBa.out hne0 _ Tryd.underlying31 rfl hdi ?_); rfl; simp only [Act.put, Array.set!_eq_setIfInBounds, List.setIfInBounds_toArray, List.set_cons_succ, List.set_cons_zero])
      | ((with_reducible refine G.wpQuiet_load_arrG hn ks (Eq.trans ?_ rfl) HHa.out hne1 _ Tryd.underlying50 rfl hki ?_); rfl; simp only [Act.put, Array.set!_eq_setIfInBounds, List.setIfInBounds_toArray, List.set_cons_succ, List.set_cons_zero])
      | ((with_reducible refine wpQuiet_buildm [(0, .int .i64 1)] vs (Eq.trans ?_ rfl) HBv.out ?_); rfl; simp only [Act.put, Array.set!_eq_setIfInBounds, List.setIfInBounds_toArray, List.set_cons_succ, List.set_cons_zero])
      | go_big_quiet_step (fail))
    refine wpQuiet_nil (G.mt_fork ?_ ?_)
    · simp only [pick_cons, pick_nil, nth_zero, nth_succ]
      refine G.fc_step rfl (fun K hK => ?_)
      refine wp_build2b msgsT _ _ (by rfl) ks vs hkz hvz (by omega) (by rfl) (by rfl) ?_
      refine hK _ _ (G.Gr.of_keep (keep_new _ _)) ?_
      clear hK K
      obtain ⟨wb, hwb⟩ : ∃ wb, wb = wa.alloc (.cells (ks.toList ++ vs.toList).toArray 50) := ⟨_, rfl⟩
      have HRb : Hid (Blk wb (w.heap.size + 2) 31 zs.toList) := by rw [hwb]; exact Lib.hid (HRa.out.alloc _)
      have HNb : Hid (Blk wb wa.heap.size 50 (ks.toList ++ vs.toList)) := by rw [hwb]; exact Lib.hid (Blk.new wa _ ((ks.toList ++ vs.toList)))
      have HKb : Hid (Keep w wb) := by rw [hwb]; exact Lib.hid (keep_trans HKa.out (keep_new _ _))
      have hlt := HRa.out.lt
      have HdI := HDS.out.i
      rw [← hwb]
      clear hwb b2 hne0 hne1 HBa HRa HKa
      obtain ⟨w8, hst8, hb8, hg8⟩ := run_store_blk (P := Tryd.prog) ds.toList HRb.out (by rw [Array.length_toList, Array.length_toList, hzz, HDS.out.z]) HDS.out.o
      have HZ8 := Lib.hid hb8
      have HN8 : Hid (Blk w8 wa.heap.size 50 (ks.toList ++ vs.toList)) := Lib.hid (HNb.out.grown hg8 (fun e => by injection e with e; omega))
      have HK8 : Hid (Keep w w8) := Lib.hid (HKb.out.grown hg8 HKb.out.size (fun q hq => by injection hq with hq; omega))
      clear hb8 HRb HNb HKb
      refine G.fc_nil (G.mt_force ?_)
      simp only [pick_cons, pick_nil, nth_zero, nth_succ]
      refine G.fc_step rfl (fun K hK => ?_)
      have hAz := HDS.out.z; have hAn := HDS.out.n
      go_simp
      refine hK _ _ (show G.Gr wb w8 from hg8) ?_
      clear hK K hst8 hg8
      refine G.fc_nil (G.mt_take _ (G.Gr.refl _) ?_)
      simp only [pick_cons, pick_nil, nth_zero, nth_succ]
      repeat (go_big_quiet_step (fail))
      refine wpQuiet_nil (G.mt_end ?_)
      clear iM
      go_wp2
      exact bodyPost_ret (v := .tuple #[.agg ds, .slice (some ⟨wa.heap.size, 0, none⟩) 2 2, iv 0]) (results_cell_tmp_tmp Tryd.results8 _ _ (w.heap.size + 2) _ _ _ _ rfl HZ8.out Tryd.underlying31 rfl (by rw [List.size_toArray, Array.length_toList]; exact HdI)) rfl (by
        rw [HRE.out]
        exact ⟨ds, _, 2, rfl, HDS.out, Nat.le_refl _, by omega, by have q := HN8.out.rd; rw [HKS.out.l, HVS.out.l] at q; simpa using q, HK8.out⟩)
    · simp only [pick_cons, pick_nil, nth_zero, nth_succ]
      have hlt := HRa.out.lt
      have HdI := HDS.out.i
      obtain ⟨w7, hst8, hb7, hg8⟩ := run_store_blk (P := Tryd.prog) ds.toList HRa.out (by rw [Array.length_toList, Array.length_toList, hzz, HDS.out.z]) HDS.out.o
      have HZ7 := Lib.hid hb7
      have HK7 : Hid (Keep w w7) := Lib.hid (HKa.out.grown hg8 HKa.out.size (fun q hq => by injection hq with hq; omega))
      clear hb7 b2 hne0 hne1
      refine G.fc_step rfl (fun K hK => ?_)
      have hAz := HDS.out.z; have hAn := HDS.out.n
      go_simp
      refine hK _ _ (show G.Gr wa w7 from hg8) ?_
      clear hK K hst8 hg8 HBa HRa HKa
      refine G.fc_nil (G.mt_force ?_)
      simp only [pick_cons, pick_nil, nth_zero, nth_succ]
      refine G.fc_step rfl (fun K hK => ?_)
      refine wp_build2b msgsT _ _ (by rfl) ks vs hkz hvz (by omega) (by rfl) (by rfl) ?_
      refine hK _ _ (G.Gr.of_keep (keep_new _ _)) ?_
      clear hK K
      obtain ⟨w8, hwb⟩ : ∃ wb, wb = w7.alloc (.cells (ks.toList ++ vs.toList).toArray 50) := ⟨_, rfl⟩
      have HZ8 : Hid (Blk w8 (w.heap.size + 2) 31 ds.toList) := by rw [hwb]; exact Lib.hid (HZ7.out.alloc _)
      have HN8 : Hid (Blk w8 w7.heap.size 50 (ks.toList ++ vs.toList)) := by rw [hwb]; exact Lib.hid (Blk.new w7 _ ((ks.toList ++ vs.toList)))
      have HK8 : Hid (Keep w w8) := by rw [hwb]; exact Lib.hid (keep_trans HK7.out (keep_new _ _))
      rw [← hwb]
      clear hwb HZ7 HK7
      simp only [Act.put, Array.set!_eq_setIfInBounds, List.setIfInBounds_toArray, List.set_cons_succ, List.set_cons_zero]
      refine G.fc_nil (G.mt_take _ (G.Gr.refl _) ?_)
      simp only [pick_cons, pick_nil, nth_zero, nth_succ]
      repeat (go_big_quiet_step (fail))
      refine wpQuiet_nil (G.mt_end ?_)
      clear iM
      go_wp2
      exact bodyPost_ret (v := .tuple #[.agg ds, .slice (some ⟨w7.heap.size, 0, none⟩) 2 2, iv 0]) (results_cell_tmp_tmp Tryd.results8 _ _ (w.heap.size + 2) _ _ _ _ rfl HZ8.out Tryd.underlying31 rfl (by rw [List.size_toArray, Array.length_toList]; exact HdI)) rfl (by
        rw [HRE.out]
        exact ⟨ds, _, 2, rfl, HDS.out, Nat.le_refl _, by omega, by have q := HN8.out.rd; rw [HKS.out.l, HVS.out.l] at q; simpa using q, HK8.out⟩)
  have he1 : ∀ w, (Go.binOp .eql 89 (.agg #[iv q.stage, iv m.kind]) (.agg #[iv 0, iv 0])).run Tryd.prog w = .ok (.bool false) w := fun w => by rw [event_eq, ev_f c1]
  have hi1 : ∀ w, (Op.equalIn 10000 89 (.agg #[iv q.stage, iv m.kind]) (.agg #[iv 0, iv 0])).run Tryd.prog w = .ok false w := fun w => by rw [ev_in, ev_f c1]
  have HT1 := Lib.hid (HT.out.trans (if_neg c1))
  clear HT c1
  by_cases c2 : q.stage = 1 ∧ m.kind = 1
  · have hR : R = ({ q with stage := 2 }, [], 0) := HT1.out.trans (if_pos c2)
    have he2 : ∀ w, (Go.binOp .eql 89 (.agg #[iv q.stage, iv m.kind]) (.agg #[iv 1, iv 1])).run Tryd.prog w = .ok (.bool true) w := fun w => by rw [event_eq, ev_t c2]
    have hi2 : ∀ w, (Op.equalIn 10000 89 (.agg #[iv q.stage, iv m.kind]) (.agg #[iv 1, iv 1])).run Tryd.prog w = .ok true w := fun w => by rw [ev_in, ev_t c2]
    have HRE := Lib.hid hR
    have f0 := HB4.out.frozen 0
    clear c2 HT1 hR
    go_upto_region 13 with fail
    obtain ⟨wx, hwx⟩ : ∃ wx, wx = (w4.setCell ⟨w.heap.size, 0, none⟩ (.int .i64 2)) := ⟨_, rfl⟩
    have HX : Blk wx w.heap.size 31 ({ q with stage := 2 }).cells := by rw [hwx]; exact (HB4.out.set_ 0 (.int .i64 2))
    have HRX : Hid (Blk wx (w.heap.size + 2) 31 zs.toList) := by rw [hwx]; exact Lib.hid (HR4.out.far (by simp <;> omega) _)
    have HKX : Hid (Keep w wx) := by rw [hwx]; exact Lib.hid (Below.setCell HK4.out (by simp <;> omega) _)
    rw [← hwx]
    clear hwx
    obtain ⟨ds, hds⟩ : ∃ ds, PeA ({ q with stage := 2 }) ds := ⟨_, PeA.of _⟩
    have HDS := Lib.hid hds
    have HBx : Hid (Blk wx w.heap.size 31 ds.toList) := by rw [HDS.out.l]; exact Lib.hid HX
    clear hds HX HR4 HK4 HB4 HBc4
    obtain ⟨w8, hst8, hb8, hg8⟩ := run_store_blk (P := Tryd.prog) ds.toList HRX.out (by rw [Array.length_toList, Array.length_toList, hzz, HDS.out.z]) HDS.out.o
    have Hb8 := Lib.hid hb8; have Hg8 := Lib.hid hg8
    have hdi8 := HDS.out.i
    have hdn8 := HDS.out.n
    have hdz8 := HDS.out.z
    clear hb8 hg8
    go_wp2_with ((with_reducible refine load_arr w.heap.size ds (Eq.trans ?_ rfl) HBx.out _ Tryd.underlying31 rfl hdi8 ?_); rfl)
    exact bodyPost_ret (v := .tuple #[.agg ds, .slice none 0 0, iv 0]) (results_cell_tmp_tmp Tryd.results8 _ _ (w.heap.size + 2) _ _ _ _ rfl Hb8.out Tryd.underlying31 rfl (by rw [List.size_toArray, Array.length_toList]; exact hdi8)) rfl (by
      rw [HRE.out]
      exact ⟨ds, none, 0, rfl, HDS.out, Nat.le_refl _, Nat.zero_le _, Rd.nil _ _, HKX.out.grown Hg8.out HKX.out.size (fun q hq => by injection hq with hq; omega)⟩)
  have he2 : ∀ w, (Go.binOp .eql 89 (.agg #[iv q.stage, iv m.kind]) (.agg #[iv 1, iv 1])).run Tryd.prog w = .ok (.bool false) w := fun w => by rw [event_eq, ev_f c2]
  have hi2 : ∀ w, (Op.equalIn 10000 89 (.agg #[iv q.stage, iv m.kind]) (.agg #[iv 1, iv 1])).run Tryd.prog w = .ok false w := fun w => by rw [ev_in, ev_f c2]
  have HT2 := Lib.hid (HT1.out.trans (if_neg c2))
  clear HT1 c2
  by_cases c3 : q.stage = 2 ∧ m.kind = 2
  · have hR : R = (q, [{ msgZ 3 with nonce := m.nonce }], 0) := HT2.out.trans (if_pos c3)
    have he3 : ∀ w, (Go.binOp .eql 89 (.agg #[iv q.stage, iv m.kind]) (.agg #[iv 2, iv 2])).run Tryd.prog w = .ok (.bool true) w := fun w => by rw [event_eq, ev_t c3]
    have hi3 : ∀ w, (Op.equalIn 10000 89 (.agg #[iv q.stage, iv m.kind]) (.agg #[iv 2, iv 2])).run Tryd.prog w = .ok true w := fun w => by rw [ev_in, ev_t c3]
    clear c3 HT2
    have HRE := Lib.hid hR
    have m2 : w4.cell? ⟨w.heap.size + 1, 2, none⟩ = some (u64v m.nonce) := (HM4.out.cell 2).trans rfl
    obtain ⟨ks, hks, hbu⟩ := pong_built m.nonce HNN.out
    have hkz := hks.z; have hkn := hks.n; have hki := hks.i
    have HKS := Lib.hid hks; have HBu := Lib.hid hbu
    clear hR hks hbu
    go_upto_region 15 with fail
    letI iM : G.Mk := ⟨some (w.heap.size + 2)⟩
    refine G.wp_region_tree (.take [0,1,2,3] (.fork 4 (.force [5] (.take [6,7] .done)) 5 (.force [4] (.take [6,7] .done)))) [] (by kernel_rfl) (by kernel_rfl) (fun wa ka => ?_)
    have hne0 : G.Mk.m ≠ some w.heap.size := fun q => by have e : w.heap.size + 2 = w.heap.size := Option.some.inj q; omega
    have hne1 : G.Mk.m ≠ some (w.heap.size + 1) := fun q => by have e : w.heap.size + 2 = w.heap.size + 1 := Option.some.inj q; omega
    have HBa := Lib.hid (HBc4.out.keep ka); have HRa := Lib.hid (HR4.out.keep ka); have HKa := Lib.hid (keep_trans HK4.out ka)
    have b2 := G.aftG_cell (keep_cell ka m2) hne1
    have RGa : Hid (wa.rangeAt w.heap.size 0 qs.toList) := Lib.hid (range_of HBa.out 0 qs.toList (by simp [List.take_of_length_le]))
    clear ka HB4 HM4 HR4 HK4 HBc4 m2 m0 r0 hgd he1 hi1 he2 hi2 he3 hi3 hne1
    refine G.mt_take wa (G.Gr.refl _) ?_
    simp only [pick_cons, pick_nil, nth_zero, nth_succ]
    repeat (first
      | ((with_reducible refine G.wpQuiet_load_arrG w.heap.size qs (Eq.trans ?_ rfl) HBa.out hne0 _ Tryd.underlying31 rfl hqi ?_); rfl; simp only [Act.put, Array.set!_eq_setIfInBounds, List.setIfInBounds_toArray, List.set_cons_succ, List.set_cons_zero])
      | ((with_reducible refine wpQuiet_buildm [(0, .int .i64 3), (2, u64v m.nonce)] ks (Eq.trans ?_ rfl) HBu.out ?_); rfl; simp only [Act.put, Array.set!_eq_setIfInBounds, List.setIfInBounds_toArray, List.set_cons_succ, List.set_cons_zero])
      | go_big_quiet_step (fail))
    refine wpQuiet_nil (G.mt_fork ?_ ?_)
    · simp only [pick_cons, pick_nil, nth_zero, nth_succ]
      refine G.fc_step rfl (fun K hK => ?_)
      refine wp_build1b msgsT _ (by rfl) ks hkz (by omega) (by rfl) ?_
      refine hK _ _ (G.Gr.of_keep (keep_new _ _)) ?_
      clear hK K
      obtain ⟨wb, hwb⟩ : ∃ wb, wb = wa.alloc (.cells ks 50) := ⟨_, rfl⟩
      have HRb : Hid (Blk wb (w.heap.size + 2) 31 zs.toList) := by rw [hwb]; exact Lib.hid (HRa.out.alloc _)
      have HNb : Hid (Blk wb wa.heap.size 50 ks.toList) := by rw [hwb]; exact Lib.hid (Blk.new wa _ (ks.toList))
      have HKb : Hid (Keep w wb) := by rw [hwb]; exact Lib.hid (keep_trans HKa.out (keep_new _ _))
      have hlt := HRa.out.lt
      have HdI := HQ.out.i
      rw [← hwb]
      clear hwb b2 hne0 RGa HBa HRa HKa
      obtain ⟨w8, hst8, hb8, hg8⟩ := run_store_blk (P := Tryd.prog) qs.toList HRb.out (by rw [Array.length_toList, Array.length_toList, hzz, HQ.out.z]) HQ.out.o
      have HZ8 := Lib.hid hb8
      have HN8 : Hid (Blk w8 wa.heap.size 50 ks.toList) := Lib.hid (HNb.out.grown hg8 (fun e => by injection e with e; omega))
      have HK8 : Hid (Keep w w8) := Lib.hid (HKb.out.grown hg8 HKb.out.size (fun q hq => by injection hq with hq; omega))
      clear hb8 HRb HNb HKb
      refine G.fc_nil (G.mt_force ?_)
      simp only [pick_cons, pick_nil, nth_zero, nth_succ]
      refine G.fc_step rfl (fun K hK => ?_)
      have hAz := HQ.out.z; have hAn := HQ.out.n
      go_simp
      refine hK _ _ (show G.Gr wb w8 from hg8) ?_
      clear hK K hst8 hg8
      refine G.fc_nil (G.mt_take _ (G.Gr.refl _) ?_)
      simp only [pick_cons, pick_nil, nth_zero, nth_succ]
      repeat (go_big_quiet_step (fail))
      refine wpQuiet_nil (G.mt_end ?_)
      clear iM
      go_wp2
      exact bodyPost_ret (v := .tuple #[.agg qs, .slice (some ⟨wa.heap.size, 0, none⟩) 1 1, iv 0]) (results_cell_tmp_tmp Tryd.results8 _ _ (w.heap.size + 2) _ _ _ _ rfl HZ8.out Tryd.underlying31 rfl (by rw [List.size_toArray, Array.length_toList]; exact HdI)) rfl (by
        rw [HRE.out]
        exact ⟨qs, _, 1, rfl, HQ.out, Nat.le_refl _, by omega, by have q := HN8.out.rd; rw [HKS.out.l] at q; simpa using q, HK8.out⟩)
    · simp only [pick_cons, pick_nil, nth_zero, nth_succ]
      have hlt := HRa.out.lt
      have HdI := HQ.out.i
      obtain ⟨w7, hst8, hb7, hg8⟩ := run_store_blk (P := Tryd.prog) qs.toList HRa.out (by rw [Array.length_toList, Array.length_toList, hzz, HQ.out.z]) HQ.out.o
      have HZ7 := Lib.hid hb7
      have HK7 : Hid (Keep w w7) := Lib.hid (HKa.out.grown hg8 HKa.out.size (fun q hq => by injection hq with hq; omega))
      clear hb7 b2 hne0 RGa
      refine G.fc_step rfl (fun K hK => ?_)
      have hAz := HQ.out.z; have hAn := HQ.out.n
      go_simp
      refine hK _ _ (show G.Gr wa w7 from hg8) ?_
      clear hK K hst8 hg8 HBa HRa HKa
      refine G.fc_nil (G.mt_force ?_)
      simp only [pick_cons, pick_nil, nth_zero, nth_succ]
      refine G.fc_step rfl (fun K hK => ?_)
      refine wp_build1b msgsT _ (by rfl) ks hkz (by omega) (by rfl) ?_
      refine hK _ _ (G.Gr.of_keep (keep_new _ _)) ?_
      clear hK K
      obtain ⟨w8, hwb⟩ : ∃ wb, wb = w7.alloc (.cells ks 50) := ⟨_, rfl⟩
      have HZ8 : Hid (Blk w8 (w.heap.size + 2) 31 qs.toList) := by rw [hwb]; exact Lib.hid (HZ7.out.alloc _)
      have HN8 : Hid (Blk w8 w7.heap.size 50 ks.toList) := by rw [hwb]; exact Lib.hid (Blk.new w7 _ (ks.toList))
      have HK8 : Hid (Keep w w8) := by rw [hwb]; exact Lib.hid (keep_trans HK7.out (keep_new _ _))
      rw [← hwb]
      clear hwb HZ7 HK7
      simp only [Act.put, Array.set!_eq_setIfInBounds, List.setIfInBounds_toArray, List.set_cons_succ, List.set_cons_zero]
      refine G.fc_nil (G.mt_take _ (G.Gr.refl _) ?_)
      simp only [pick_cons, pick_nil, nth_zero, nth_succ]
      repeat (go_big_quiet_step (fail))
      refine wpQuiet_nil (G.mt_end ?_)
      clear iM
      go_wp2
      exact bodyPost_ret (v := .tuple #[.agg qs, .slice (some ⟨w7.heap.size, 0, none⟩) 1 1, iv 0]) (results_cell_tmp_tmp Tryd.results8 _ _ (w.heap.size + 2) _ _ _ _ rfl HZ8.out Tryd.underlying31 rfl (by rw [List.size_toArray, Array.length_toList]; exact HdI)) rfl (by
        rw [HRE.out]
        exact ⟨qs, _, 1, rfl, HQ.out, Nat.le_refl _, by omega, by have q := HN8.out.rd; rw [HKS.out.l] at q; simpa using q, HK8.out⟩)
  have he3 : ∀ w, (Go.binOp .eql 89 (.agg #[iv q.stage, iv m.kind]) (.agg #[iv 2, iv 2])).run Tryd.prog w = .ok (.bool false) w := fun w => by rw [event_eq, ev_f c3]
  have hi3 : ∀ w, (Op.equalIn 10000 89 (.agg #[iv q.stage, iv m.kind]) (.agg #[iv 2, iv 2])).run Tryd.prog w = .ok false w := fun w => by rw [ev_in, ev_f c3]
  have HT3 := Lib.hid (HT2.out.trans (if_neg c3))
  clear HT2 c3
  by_cases c4 : q.stage = 2 ∧ m.kind = 5
  · have hR : R = ({ q with asked := false, misses := 0 }, [], 0) := HT3.out.trans (if_pos c4)
    have he4 : ∀ w, (Go.binOp .eql 89 (.agg #[iv q.stage, iv m.kind]) (.agg #[iv 2, iv 5])).run Tryd.prog w = .ok (.bool true) w := fun w => by rw [event_eq, ev_t c4]
    have hi4 : ∀ w, (Op.equalIn 10000 89 (.agg #[iv q.stage, iv m.kind]) (.agg #[iv 2, iv 5])).run Tryd.prog w = .ok true w := fun w => by rw [ev_in, ev_t c4]
    have HRE := Lib.hid hR
    have f3 := HB4.out.frozen 3
    have f5 := HB4.out.frozen 5
    have r3 : w4.cell? ⟨w.heap.size, 3, none⟩ = some (.bool q.asked) := (HB4.out.cell 3).trans rfl
    have r5 : w4.cell? ⟨w.heap.size, 5, none⟩ = some (iv q.misses) := (HB4.out.cell 5).trans rfl
    clear c4 HT3 hR
    go_upto_region 18 with fail
    obtain ⟨wx, hwx⟩ : ∃ wx, wx = ((w4.setCell ⟨w.heap.size, 3, none⟩ (.bool false)).setCell ⟨w.heap.size, 5, none⟩ (.int .i64 0)) := ⟨_, rfl⟩
    have HX : Blk wx w.heap.size 31 ({ q with asked := false, misses := 0 }).cells := by rw [hwx]; exact ((HB4.out.set_ 3 (.bool false)).set_ 5 (.int .i64 0))
    have HRX : Hid (Blk wx (w.heap.size + 2) 31 zs.toList) := by rw [hwx]; exact Lib.hid ((HR4.out.far (by simp <;> omega) _).far (by simp <;> omega) _)
    have HKX : Hid (Keep w wx) := by rw [hwx]; exact Lib.hid (Below.setCell (Below.setCell HK4.out (by simp <;> omega) _) (by simp <;> omega) _)
    rw [← hwx]
    clear hwx r3 r5 f3 f5
    obtain ⟨ds, hds⟩ : ∃ ds, PeA ({ q with asked := false, misses := 0 }) ds := ⟨_, PeA.of _⟩
    have HDS := Lib.hid hds
    have HBx : Hid (Blk wx w.heap.size 31 ds.toList) := by rw [HDS.out.l]; exact Lib.hid HX
    clear hds HX HR4 HK4 HB4 HBc4
    obtain ⟨w8, hst8, hb8, hg8⟩ := run_store_blk (P := Tryd.prog) ds.toList HRX.out (by rw [Array.length_toList, Array.length_toList, hzz, HDS.out.z]) HDS.out.o
    have Hb8 := Lib.hid hb8; have Hg8 := Lib.hid hg8
    have hdi8 := HDS.out.i
    have hdn8 := HDS.out.n
    have hdz8 := HDS.out.z
    clear hb8 hg8
    go_wp2_with ((with_reducible refine load_arr w.heap.size ds (Eq.trans ?_ rfl) HBx.out _ Tryd.underlying31 rfl hdi8 ?_); rfl)
    exact bodyPost_ret (v := .tuple #[.agg ds, .slice none 0 0, iv 0]) (results_cell_tmp_tmp Tryd.results8 _ _ (w.heap.size + 2) _ _ _ _ rfl Hb8.out Tryd.underlying31 rfl (by rw [List.size_toArray, Array.length_toList]; exact hdi8)) rfl (by
      rw [HRE.out]
      exact ⟨ds, none, 0, rfl, HDS.out, Nat.le_refl _, Nat.zero_le _, Rd.nil _ _, HKX.out.grown Hg8.out HKX.out.size (fun q hq => by injection hq with hq; omega)⟩)
  have he4 : ∀ w, (Go.binOp .eql 89 (.agg #[iv q.stage, iv m.kind]) (.agg #[iv 2, iv 5])).run Tryd.prog w = .ok (.bool false) w := fun w => by rw [event_eq, ev_f c4]
  have hi4 : ∀ w, (Op.equalIn 10000 89 (.agg #[iv q.stage, iv m.kind]) (.agg #[iv 2, iv 5])).run Tryd.prog w = .ok false w := fun w => by rw [ev_in, ev_f c4]
  have HT4 := Lib.hid (HT3.out.trans (if_neg c4))
  clear HT3 c4
  by_cases h5 : q.stage = 2
  · have d5 : (q.stage == 2) = true := by rw [h5]; rfl
    by_cases h6 : m.kind = 0
    · have d6 : (m.kind != 0) = false := by rw [h6]; rfl
      have hR : R = (q.ban, [], 15) := HT4.out.trans (if_neg (fun h => h.2.1 h6))
      clear h5 h6
      have hR0 := hR
      have HRE := Lib.hid hR
      clear hR hR0 HT4
      go_wp2_with ((with_reducible refine load_arr w.heap.size qs (Eq.trans ?_ rfl) HBc4.out _ Tryd.underlying31 rfl hqi ?_); rfl)
      refine (banned_any _ qs HQ.out _).mono ?_
      rintro e w5 ⟨bs, rfl, hbA, k5⟩
      have hbn := hbA.n; have hbz := hbA.z; have hbi := hbA.i
      have HBA := Lib.hid hbA
      have HK5 := Lib.hid (keep_trans HK4.out k5)
      obtain ⟨w8, hst8, hb8, hg8⟩ := run_store_blk (P := Tryd.prog) bs.toList (HR4.out.keep k5) (by rw [Array.length_toList, Array.length_toList, hzz, hbz]) hbA.o
      have Hb8 := Lib.hid hb8; have Hg8 := Lib.hid hg8
      clear hb8 hg8 hbA k5
      go_wp2
      exact bodyPost_ret (v := .tuple #[.agg bs, .slice none 0 0, iv 15]) (results_cell_tmp_tmp Tryd.results8 _ _ (w.heap.size + 2) _ _ _ _ rfl Hb8.out Tryd.underlying31 rfl (by rw [List.size_toArray, Array.length_toList]; exact hbi)) rfl (by
        rw [HRE.out]
        exact ⟨bs, none, 0, rfl, HBA.out, Nat.le_refl _, Nat.zero_le _, Rd.nil _ _, HK5.out.grown Hg8.out HK5.out.size (fun q hq => by injection hq with hq; omega)⟩)
    · have d6 : (m.kind != 0) = true := by simpa [bne_iff_ne] using h6
      by_cases h7 : m.kind = 1
      · have d7 : (m.kind != 1) = false := by rw [h7]; rfl
        have hR : R = (q.ban, [], 15) := HT4.out.trans (if_neg (fun h => h.2.2 h7))
        clear h5 h6 h7
        have hR0 := hR
        have HRE := Lib.hid hR
        clear hR hR0 HT4
        go_wp2_with ((with_reducible refine load_arr w.heap.size qs (Eq.trans ?_ rfl) HBc4.out _ Tryd.underlying31 rfl hqi ?_); rfl)
        refine (banned_any _ qs HQ.out _).mono ?_
        rintro e w5 ⟨bs, rfl, hbA, k5⟩
        have hbn := hbA.n; have hbz := hbA.z; have hbi := hbA.i
        have HBA := Lib.hid hbA
        have HK5 := Lib.hid (keep_trans HK4.out k5)
        obtain ⟨w8, hst8, hb8, hg8⟩ := run_store_blk (P := Tryd.prog) bs.toList (HR4.out.keep k5) (by rw [Array.length_toList, Array.length_toList, hzz, hbz]) hbA.o
        have Hb8 := Lib.hid hb8; have Hg8 := Lib.hid hg8
        clear hb8 hg8 hbA k5
        go_wp2
        exact bodyPost_ret (v := .tuple #[.agg bs, .slice none 0 0, iv 15]) (results_cell_tmp_tmp Tryd.results8 _ _ (w.heap.size + 2) _ _ _ _ rfl Hb8.out Tryd.underlying31 rfl (by rw [List.size_toArray, Array.length_toList]; exact hbi)) rfl (by
          rw [HRE.out]
          exact ⟨bs, none, 0, rfl, HBA.out, Nat.le_refl _, Nat.zero_le _, Rd.nil _ _, HK5.out.grown Hg8.out HK5.out.size (fun q hq => by injection hq with hq; omega)⟩)
      · have d7 : (m.kind != 1) = true := by simpa [bne_iff_ne] using h7
        have hR : R = (q, [], 0) := HT4.out.trans (if_pos ⟨h5, h6, h7⟩)
        clear h5 h6 h7
        obtain ⟨w8, hst8, hb8, hg8⟩ := run_store_blk (P := Tryd.prog) qs.toList HR4.out (by rw [Array.length_toList, Array.length_toList, hzz, HQ.out.z]) HQ.out.o
        have Hb8 := Lib.hid hb8; have Hg8 := Lib.hid hg8
        have hdi8 := HQ.out.i
        have hdn8 := HQ.out.n
        have hdz8 := HQ.out.z
        have HRE := Lib.hid hR
        clear hb8 hg8 hR HT4
        go_wp2_with ((with_reducible refine load_arr w.heap.size qs (Eq.trans ?_ rfl) HBc4.out _ Tryd.underlying31 rfl hdi8 ?_); rfl)
        exact bodyPost_ret (v := .tuple #[.agg qs, .slice none 0 0, iv 0]) (results_cell_tmp_tmp Tryd.results8 _ _ (w.heap.size + 2) _ _ _ _ rfl Hb8.out Tryd.underlying31 rfl (by rw [List.size_toArray, Array.length_toList]; exact hdi8)) rfl (by
          rw [HRE.out]
          exact ⟨qs, none, 0, rfl, HQ.out, Nat.le_refl _, Nat.zero_le _, Rd.nil _ _, HK4.out.grown Hg8.out HK4.out.size (fun q hq => by injection hq with hq; omega)⟩)
  · have d5 : (q.stage == 2) = false := by rw [beq_eq_false_iff_ne]; exact h5
    have hR : R = (q.ban, [], 15) := HT4.out.trans (if_neg (fun h => h5 h.1))
    clear h5
    have hR0 := hR
    have HRE := Lib.hid hR
    clear hR hR0 HT4
    go_wp2_with ((with_reducible refine load_arr w.heap.size qs (Eq.trans ?_ rfl) HBc4.out _ Tryd.underlying31 rfl hqi ?_); rfl)
    refine (banned_any _ qs HQ.out _).mono ?_
    rintro e w5 ⟨bs, rfl, hbA, k5⟩
    have hbn := hbA.n; have hbz := hbA.z; have hbi := hbA.i
    have HBA := Lib.hid hbA
    have HK5 := Lib.hid (keep_trans HK4.out k5)
    obtain ⟨w8, hst8, hb8, hg8⟩ := run_store_blk (P := Tryd.prog) bs.toList (HR4.out.keep k5) (by rw [Array.length_toList, Array.length_toList, hzz, hbz]) hbA.o
    have Hb8 := Lib.hid hb8; have Hg8 := Lib.hid hg8
    clear hb8 hg8 hbA k5
    go_wp2
    exact bodyPost_ret (v := .tuple #[.agg bs, .slice none 0 0, iv 15]) (results_cell_tmp_tmp Tryd.results8 _ _ (w.heap.size + 2) _ _ _ _ rfl Hb8.out Tryd.underlying31 rfl (by rw [List.size_toArray, Array.length_toList]; exact hbi)) rfl (by
      rw [HRE.out]
      exact ⟨bs, none, 0, rfl, HBA.out, Nat.le_refl _, Nat.zero_le _, Rd.nil _ _, HK5.out.grown Hg8.out HK5.out.size (fun q hq => by injection hq with hq; omega)⟩)
end Go.Proofs.YtffpanlpbdnafaaDoor

/- Peers that miss, plainly; the chapter's awake (printed by gen_qh.py) -/
set_option linter.unusedSimpArgs false
set_option linter.unusedVariables false
namespace Go.Proofs.YtffpanlpbdnafaaDoor
open Go.RowKit
attribute [local go_sem ↓] Go.wp_at_zero Go.wp_at_succ

theorem fitsM0 (n : Nat) : fitsB { msgZ 0 with nonce := n } = true := rfl
theorem fitsM1 : fitsB (msgZ 1) = true := rfl
theorem fitsM2 : fitsB (msgZ 2) = true := rfl
theorem fitsM5 : fitsB (msgZ 5) = true := rfl
def stP (g : UInt32) (k U : Int) : PeR := { peZ with stage := if k = 3 then 3 else 2, until_ := U, misses := k, magic := g, cap := 99 }
def p1P (g : UInt32) (n : Nat) : PeR := { peZ with stage := 1, nonce := n, magic := g, cap := 99 }
theorem st_sane {g : UInt32} {k U : Int} (hk : 0 ≤ k ∧ k ≤ 3) (hU : 0 ≤ U ∧ U ≤ 1099511627776) : takenP (stP g k U) = stP g k U := by
  have h : saneP (stP g k U) = true := by
    have e : (0 : Int) ≤ (if k = 3 then 3 else 2) ∧ (if k = 3 then 3 else 2) ≤ (3 : Int) := by split <;> omega
    have f : fsaneB 99 = true := rfl
    have u : ¬ (1099511627776 : Int) < U := by omega
    simp [saneP, stP, peZ, e, hk, hU.1, u, f]
  unfold takenP; rw [if_pos h]
theorem st_saneA {g : UInt32} {k U : Int} (hk : 0 ≤ k ∧ k < 3) (hU : 0 ≤ U ∧ U ≤ 1099511627776) : takenP { stP g k U with asked := true } = { stP g k U with asked := true } := by
  have h : saneP { stP g k U with asked := true } = true := by
    have f : fsaneB 99 = true := rfl
    have e : ¬ k = 3 := by omega
    have e2 : k ≤ 3 := by omega
    have u : ¬ (1099511627776 : Int) < U := by omega
    simp [saneP, stP, peZ, hk.1, e2, hU.1, u, f, e]
  unfold takenP; rw [if_pos h]
theorem st_ask {g : UInt32} {k U t : Int} (hk : 0 ≤ k ∧ k < 3) (hU : 0 ≤ U ∧ U ≤ 1099511627776) : askP (stP g k U) t 3 = ({ stP g k (t + 3) with asked := true }, true) := by
  have e : ¬ k = 3 := by omega
  unfold askP
  rw [st_sane ⟨hk.1, by omega⟩ hU]
  simp [stP, peZ, e]
theorem st_ask3 {g : UInt32} {U t : Int} (hU : 0 ≤ U ∧ U ≤ 1099511627776) : askP (stP g 3 U) t 3 = (stP g 3 U, false) := by
  unfold askP
  rw [st_sane (by omega) hU]
  simp [stP]
theorem st_tick {g : UInt32} {k U x : Int} (hk : 0 ≤ k ∧ k ≤ 3) (hU : 0 ≤ U ∧ U ≤ 1099511627776) : tickP (stP g k U) x = (stP g k U, false) := by
  unfold tickP
  rw [st_sane hk hU]
  simp [stP, peZ]
theorem st_early {g : UInt32} {k U : Int} (hk : 0 ≤ k ∧ k < 3) (hU : 0 ≤ U ∧ U ≤ 1099511627776) : tickP { stP g k U with asked := true } U = ({ stP g k U with asked := true }, false) := by
  unfold tickP
  rw [st_saneA hk hU]
  simp [stP]
theorem st_late {g : UInt32} {k U x : Int} (hk : 0 ≤ k ∧ k < 3) (hU : 0 ≤ U ∧ U ≤ 1099511627776) (hx : U < x) : tickP { stP g k U with asked := true } x = (stP g (k + 1) U, true) := by
  unfold tickP
  rw [st_saneA hk hU]
  have e : ¬ k = 3 := by omega
  by_cases h : 2 ≤ k
  · obtain rfl : k = 2 := by omega
    simp [stP, hx, PeR.ban, peZ]
  · have e1 : ¬ k + 1 = 3 := by omega
    simp [stP, hx, h, e, e1, peZ]
theorem st_heads {g : UInt32} {k U : Int} (hk : 0 ≤ k ∧ k < 3) (hU : 0 ≤ U ∧ U ≤ 1099511627776) : hdlP { stP g k U with asked := true } (msgZ 5) = (stP g 0 U, [], 0) := by
  have e : ¬ k = 3 := by omega
  unfold hdlP
  rw [st_saneA hk hU, fitsM5]
  simp [stP, e, msgZ, peZ]
theorem hdl_v (g : UInt32) (n : Nat) : hdlP (newP g 99) { msgZ 0 with nonce := n } = (p1P g n, [{ msgZ 0 with proto := 70015, nonce := n }, msgZ 1], 0) := rfl
theorem hdl_k (g : UInt32) (n : Nat) : hdlP (p1P g n) (msgZ 1) = ({ stP g 0 0 with nonce := n }, [], 0) := rfl
theorem hdl_p (g : UInt32) : hdlP (newP g 99) (msgZ 2) = ((newP g 99).ban, [], 15) := rfl
/-- A store into a variable just made. -/
theorem pst_new {p q : PeR} {zs ds : Array Value} (hz : PeA p zs) (hd : PeA q ds) (y : World) : (storeCells ⟨y.heap.size, 0, none⟩ ds.toList 0).run Tryd.prog (y.alloc (.cells zs 31)) = .ok () (y.alloc (.cells ds 31)) :=
  run_storeCells_new (P := Tryd.prog) y 31 zs ds hd.i (hz.z.trans hd.z.symm) (by have := all_oneCell_toArray hd.o; simpa using this)
theorem ver_built (n : Nat) (h : n < 2 ^ 64) : ∃ ks, MsA { msgZ 0 with nonce := n } ks ∧ Tryd.prog.built 50 [(0, .int .i64 0), (2, u64v n)] = some ks := by
  have ho := msgZ_ok 0 (by omega)
  exact ⟨_, MsA.of (m := { msgZ 0 with nonce := n }) ⟨ho.k, h, ho.s, ho.b, ho.h, ho.l, ho.i, ho.z⟩, by kernel_rfl⟩
theorem kind_built (k : Int) (h : -9223372036854775808 ≤ k ∧ k ≤ 9223372036854775807) : ∃ ks, MsA (msgZ k) ks ∧ Tryd.prog.built 50 [(0, .int .i64 k)] = some ks := ⟨_, MsA.of (msgZ_ok k h), by kernel_rfl⟩
theorem handle_as {p q : PeR} {l : List MsgR} {c : Int} (cs : Array Value) (hA : PeA p cs) (hr : p.rs = []) (m : MsgR) (ms : Array Value) (hM : MsA m ms) (h : hdlP p m = (q, l, c)) (w : World) (hm : m.at_ w) :
    Calls Tryd.prog 8 #[.agg cs, .agg ms] w fun e w' => ∃ ds A n, e = .returned (.tuple #[.agg ds, .slice A l.length n, iv c]) ∧ PeA q ds ∧ l.length ≤ n ∧ n ≤ 2 ∧ Rd w' A (l.flatMap MsgR.cells) ∧ Keep w w' := by
  have q := handle_any p cs hA hr m ms hM w hm
  rw [h] at q
  exact q
set_option maxRecDepth 100000 in
set_option maxHeartbeats 4000000 in
theorem awake22 (w : World) : Calls Tryd.prog 7 #[] w fun e w' => e = .returned (.bool true) ∧ Keep w w' := by
  obtain ⟨zs, hz0, hzA⟩ := zpeer_letter
  obtain ⟨k2, h2A, h2b⟩ := kind_built 2 (by omega)
  obtain ⟨k0, h0A, h0b⟩ := ver_built 3 (by omega)
  obtain ⟨k1, h1A, h1b⟩ := kind_built 1 (by omega)
  have B2 := Lib.hid h2b; have B0 := Lib.hid h0b; have B1 := Lib.hid h1b
  have NP : Hid (∀ y, Calls Tryd.prog 9 #[u32v 7, iv 99] y fun e w' => ∃ ps, e = .returned (.agg ps) ∧ PeA (newP 7 99) ps ∧ Keep y w') := Lib.hid fun y => pnew_any 7 99 y
  have H1 : Hid (∀ ps y, PeA (newP 7 99) ps → Calls Tryd.prog 8 #[.agg ps, .agg k2] y fun e w' => ∃ ds A n, e = .returned (.tuple #[.agg ds, .slice A 0 n, iv 15]) ∧ PeA (newP 7 99).ban ds ∧ Keep y w') := Lib.hid fun ps y hp =>
    (handle_as ps hp rfl _ k2 h2A (hdl_p 7) y (msgZ_at 2 (by omega) y)).mono fun e w' ⟨ds, A, n, h1, h2, _, _, _, h3⟩ => ⟨ds, A, n, h1, h2, h3⟩
  have H2 : Hid (∀ ps y, PeA (newP 7 99) ps → Calls Tryd.prog 8 #[.agg ps, .agg k0] y fun e w' => ∃ ds b o n, e = .returned (.tuple #[.agg ds, .slice (some ⟨b, o, none⟩) 2 n, iv 0]) ∧ PeA (p1P 7 3) ds ∧ w'.cell? ⟨b, o + 2, none⟩ = some (u64v 3) ∧ 2 ≤ n ∧ Keep y w') := Lib.hid fun ps y hp =>
    (handle_as ps hp rfl _ k0 h0A (hdl_v 7 3) y (by
      have z := msgZ_at 0 (by omega) y
      exact ⟨⟨z.o.k, (by show 3 < 2 ^ 64; omega), z.o.s, z.o.b, z.o.h, z.o.l, z.o.i, z.o.z⟩, z.h, z.hc, z.l, z.lc, z.i, z.ic, z.s, z.sc, z.f, z.fc, z.t⟩)).mono fun e w' ⟨ds, A, n, h1, h2, hn, _, hr, h3⟩ => by
      obtain ⟨b, o, rfl, _, hc⟩ := hr.at (k := 2) (by decide)
      exact ⟨ds, b, o, n, h1, h2, hc 2 (by decide), hn, h3⟩
  have H3 : Hid (∀ ps y, PeA (p1P 7 3) ps → Calls Tryd.prog 8 #[.agg ps, .agg k1] y fun e w' => ∃ ds A n, e = .returned (.tuple #[.agg ds, .slice A 0 n, iv 0]) ∧ PeA { stP 7 0 0 with nonce := 3 } ds ∧ Keep y w') := Lib.hid fun ps y hp =>
    (handle_as ps hp rfl _ k1 h1A (hdl_k 7 3) y (msgZ_at 1 (by omega) y)).mono fun e w' ⟨ds, A, n, h1, h2, _, _, _, h3⟩ => ⟨ds, A, n, h1, h2, h3⟩
  have hzn := hzA.n; have hzz := hzA.z
  have HZ := Lib.hid hzA
  have hz0' := hz0
  clear h2A h0A h1A h2b h0b h1b hzA
  go_enter Tryd.func7, Tryd.ntmps7
  go_upto_region 2 with (first | (go_at_call 9; refine (NP.out _).mono ?_; rintro e wa ⟨ps, rfl, hpA, k⟩; have HPA := Lib.hid hpA; have KA := Lib.hid k; clear k hpA) | ((with_reducible refine list_bldg [(0, .int .i64 2)] k2 (Eq.trans ?_ rfl) B2.out (Eq.trans ?_ rfl) ?_); rfl; rfl) | (go_at_call 8; refine (H1.out _ _ HPA.out).mono ?_; rintro e wb ⟨ds, A, n, rfl, hdA, k⟩; have hst := pst_new HZ.out hdA wb; have hdn := hdA.n; have hdz := hdA.z; have HDA := Lib.hid hdA; have KB := Lib.hid (keep_trans KA.out k); clear k hdA))
  obtain ⟨w1, hw1⟩ : ∃ w1, w1 = wb.alloc (.cells ds 31) := ⟨_, rfl⟩
  have HP1 : Hid (Blk w1 wb.heap.size 31 (newP 7 99).ban.cells) := by rw [hw1, ← HDA.out.l]; exact Lib.hid (Blk.new wb _ ds.toList)
  have HK1 : Hid (Keep w w1) := by rw [hw1]; exact Lib.hid (keep_trans KB.out (keep_new _ _))
  rw [← hw1]
  clear hst hw1 KA KB HDA HPA H1 hdn hdz B2
  generalize wb.heap.size = b1 at *
  go_upto_region 3 with (first | (go_at_call 9; refine (NP.out _).mono ?_; rintro e wa ⟨ps, rfl, hpA, k⟩; have HPA := Lib.hid hpA; have HP1a := Lib.hid (HP1.out.keep k); have KA := Lib.hid (keep_trans HK1.out k); clear k hpA HP1 HK1) | ((with_reducible refine list_bldg [(0, .int .i64 0), (2, u64v 3)] k0 (Eq.trans ?_ rfl) B0.out (Eq.trans ?_ rfl) ?_); rfl; rfl) | (go_at_call 8; refine (H2.out _ _ HPA.out).mono ?_; rintro e wb ⟨ds, lb, lo, n2, rfl, hdA, hc, hn2, k⟩; have hst := pst_new HZ.out hdA wb; have hdn := hdA.n; have hdz := hdA.z; have HDA := Lib.hid hdA; have KB := Lib.hid (keep_trans KA.out k); have HP1b := Lib.hid (HP1a.out.keep k); clear k hdA HP1a))
  obtain ⟨w2, hw2⟩ : ∃ w2, w2 = wb.alloc (.cells ds 31) := ⟨_, rfl⟩
  have HQ2 : Hid (Blk w2 wb.heap.size 31 ds.toList) := by rw [hw2]; exact Lib.hid (Blk.new wb _ ds.toList)
  have HP2 : Hid (Blk w2 b1 31 (newP 7 99).ban.cells) := by rw [hw2]; exact Lib.hid (HP1b.out.alloc _)
  have HC2 : Hid (w2.cell? ⟨lb, lo + 2, none⟩ = some (u64v 3)) := by rw [hw2]; exact Lib.hid (keep_cell (keep_new _ _) hc)
  have HK2 : Hid (Keep w w2) := by rw [hw2]; exact Lib.hid (keep_trans KB.out (keep_new _ _))
  have HN2 := Lib.hid hn2
  rw [← hw2]
  have hdi := HDA.out.i
  clear hst hw2 KA KB HPA H2 NP B0 hc HP1b hn2
  generalize wb.heap.size = b2 at *
  go_upto_region 4 with (first | ((with_reducible refine load_arr b2 ds (Eq.trans ?_ rfl) HQ2.out _ Tryd.underlying31 rfl hdi ?_); rfl) | ((with_reducible refine list_bldg [(0, .int .i64 1)] k1 (Eq.trans ?_ rfl) B1.out (Eq.trans ?_ rfl) ?_); rfl; rfl) | (go_at_call 8; refine (H3.out _ _ HDA.out).mono ?_; rintro e wb ⟨rs, A3, n3, rfl, hrA, k⟩; have hst := pst_new HZ.out hrA wb; have hrn := hrA.n; have hrz := hrA.z; have HRA := Lib.hid hrA; have KB := Lib.hid (keep_trans HK2.out k); have HP3 := Lib.hid (HP2.out.keep k); have HC3 := Lib.hid (keep_cell k HC2.out); clear k hrA HP2 HC2))
  obtain ⟨w3, hw3⟩ : ∃ w3, w3 = wb.alloc (.cells rs 31) := ⟨_, rfl⟩
  have r3 : w3.cell? ⟨wb.heap.size, 0, none⟩ = some (.int .i64 2) := by
    rw [hw3]
    have q := (Blk.new wb 31 rs.toList).cell 0
    rw [Array.toArray_toList] at q
    exact q.trans (by rw [HRA.out.l]; rfl)
  have r1 : w3.cell? ⟨b1, 0, none⟩ = some (.int .i64 3) := by rw [hw3]; exact ((HP3.out.alloc _).cell 0).trans rfl
  have r2 : w3.cell? ⟨lb, lo + 2, none⟩ = some (u64v 3) := by rw [hw3]; exact keep_cell (keep_new _ _) HC3.out
  have HK3 : Hid (Keep w w3) := by rw [hw3]; exact Lib.hid (keep_trans KB.out (keep_new _ _))
  rw [← hw3]
  have d2 : 2 ≤ n2 := HN2.out
  clear hst hw3 KB HDA HRA HP3 HC3 H3 B1 HQ2 HK2 hrn hrz hdn hdz hdi HN2
  try simp only [List.append_eq, List.cons_append, List.nil_append]
  go_wp2
  exact bodyPost_ret (v := .bool true) (by simp [results, Tryd.results7]) rfl ⟨rfl, HK3.out⟩
end Go.Proofs.YtffpanlpbdnafaaDoor

/- PeerMisses (printed by gen_qi.py) -/
set_option linter.unusedSimpArgs false
set_option linter.unusedVariables false
namespace Go.Proofs.YtffpanlpbdnafaaDoor
open Go.RowKit
attribute [local go_sem ↓] Go.wp_at_zero Go.wp_at_succ
theorem low24 (n : Int) : bits .and .i64 n 16777215 = n % 16777216 := by
  have h127 : (BitVec.ofInt 64 16777215).toNat = 2 ^ 24 - 1 := by decide
  have key : (BitVec.ofInt 64 n &&& BitVec.ofInt 64 16777215).toNat = (n % ((2 ^ 64 : Nat) : Int)).toNat % 2 ^ 24 := by
    rw [BitVec.toNat_and, BitVec.toNat_ofInt, h127, Nat.and_two_pow_sub_one_eq_mod]
  show IntKind.i64.wrap ((BitVec.ofInt 64 n &&& BitVec.ofInt 64 16777215).toNat : Nat) = n % 16777216
  rw [key, IntKind.wrap_i64]
  omega
theorem st0_eq (g : UInt32) : { stP g 0 0 with nonce := 0 } = stP g 0 0 := rfl
theorem stP3 (g : UInt32) (U : Int) : (stP g 3 U).stage = 3 := rfl
theorem stPn (g : UInt32) {k : Int} (U : Int) (h : ¬ k = 3) : (stP g k U).stage = 2 := by simp [stP, h]
set_option maxRecDepth 100000 in
set_option maxHeartbeats 8000000 in
theorem misses_walk (g : UInt32) (A : Option Addr) (N c : Nat) (bs : List Bool) (now : Int) (w : World) (hN : bs.length = N) (hr : Rd w A (bs.map Value.bool)) (hc : N ≤ c ∧ c ≤ maxLen) :
    Calls Tryd.prog 3 #[u32v g, .slice A N c, iv now] w fun e w' => e = .returned (.bool true) ∧ Keep w w' := by
  have AW : Hid (∀ y, Calls Tryd.prog 7 #[] y fun e w' => e = .returned (.bool true) ∧ Keep y w') := Lib.hid awake22
  have hml : maxLen = 9223372036854775807 ∨ True := Or.inr trivial
  by_cases hbig : 30 < N
  · have d1 : (30 : Int) < N := by omega
    clear hml hc hr
    go_enter Tryd.func3, Tryd.ntmps3
    go_wp2_with (go_at_call 7; refine (AW.out _).mono ?_; rintro e w1 ⟨rfl, k1⟩; have K1 := Lib.hid k1; clear k1)
    exact bodyPost_ret (v := .bool true) (by simp [results, Tryd.results3]) rfl ⟨rfl, K1.out⟩
  have d1 : ¬ (30 : Int) < N := by omega
  have ROW : Hid (∀ k (h : k < N), ∃ b off x, A = some ⟨b, off, none⟩ ∧ b < w.heap.size ∧ w.cell? ⟨b, off + k, none⟩ = some (.bool x)) := Lib.hid fun k h => by
    obtain ⟨b, off, rfl, hb, hcell⟩ := hr.at (k := k) (by simp [hN]; exact h)
    exact ⟨b, off, bs[k], rfl, hb, by have q := hcell k (by simp [hN]; exact h); simpa using q⟩
  clear hml hr hN
  obtain ⟨zs, hz0, hzA⟩ := zpeer_letter
  obtain ⟨k0, h0A, h0b⟩ := ver_built 0 (by omega)
  obtain ⟨k1, h1A, h1b⟩ := kind_built 1 (by omega)
  obtain ⟨k5, h5A, h5b⟩ := kind_built 5 (by omega)
  have B0 : Hid (Tryd.prog.built 50 [(0, .int .i64 0)] = some k0) := Lib.hid (by
    obtain ⟨q0, q1, q2⟩ := kind_built 0 (by omega)
    have e : q0 = k0 := by rw [← Array.toList_inj, q1.l, h0A.l]; rfl
    rw [← e]; exact q2)
  have B1 := Lib.hid h1b; have B5 := Lib.hid h5b
  have NP : Hid (∀ y, Calls Tryd.prog 9 #[u32v g, iv 99] y fun e w' => ∃ ps, e = .returned (.agg ps) ∧ PeA (newP g 99) ps ∧ Keep y w') := Lib.hid fun y => pnew_any g 99 y
  have H0 : Hid (∀ ps y, PeA (newP g 99) ps → Calls Tryd.prog 8 #[.agg ps, .agg k0] y fun e w' => ∃ ds A n, e = .returned (.tuple #[.agg ds, .slice A 2 n, iv 0]) ∧ PeA (p1P g 0) ds ∧ Keep y w') := Lib.hid fun ps y hp =>
    (handle_as ps hp rfl _ k0 h0A (hdl_v g 0) y (msgZ_at 0 (by omega) y)).mono fun e w' ⟨ds, A, n, h1, h2, _, _, _, h3⟩ => ⟨ds, A, n, h1, h2, h3⟩
  have H1 : Hid (∀ ps y, PeA (p1P g 0) ps → Calls Tryd.prog 8 #[.agg ps, .agg k1] y fun e w' => ∃ ds A n, e = .returned (.tuple #[.agg ds, .slice A 0 n, iv 0]) ∧ PeA (stP g 0 0) ds ∧ Keep y w') := Lib.hid fun ps y hp =>
    (handle_as ps hp rfl _ k1 h1A (hdl_k g 0) y (msgZ_at 1 (by omega) y)).mono fun e w' ⟨ds, A, n, h1, h2, _, _, _, h3⟩ => ⟨ds, A, n, h1, h2, h3⟩
  have H5 : Hid (∀ ps y (k U : Int), 0 ≤ k ∧ k < 3 → 0 ≤ U ∧ U ≤ 1099511627776 → PeA { stP g k U with asked := true } ps → Calls Tryd.prog 8 #[.agg ps, .agg k5] y fun e w' => ∃ ds A n, e = .returned (.tuple #[.agg ds, .slice A 0 n, iv 0]) ∧ PeA (stP g 0 U) ds ∧ Keep y w') := Lib.hid fun ps y k U hk hU hp =>
    (handle_as ps hp rfl _ k5 h5A (st_heads hk hU) y (msgZ_at 5 (by omega) y)).mono fun e w' ⟨ds, A, n, h1, h2, _, _, _, h3⟩ => ⟨ds, A, n, h1, h2, h3⟩
  have AK : Hid (∀ ps y (p q : PeR) (b : Bool) (t : Int), PeA p ps → p.rs = [] → 0 ≤ t ∧ t ≤ 16777600 → askP p t 3 = (q, b) → Calls Tryd.prog 10 #[.agg ps, iv t, iv 3] y fun e w' => ∃ ds, e = .returned (.tuple #[.agg ds, .bool b]) ∧ PeA q ds ∧ Keep y w') := Lib.hid fun ps y p q b t hp hr ht he => by
    have q := ask_any p ps hp hr t 3 (by omega) (by omega) y
    rw [he] at q; exact q
  have TK : Hid (∀ ps y (p q : PeR) (b : Bool) (t : Int), PeA p ps → p.rs = [] → tickP p t = (q, b) → Calls Tryd.prog 11 #[.agg ps, iv t] y fun e w' => ∃ ds, e = .returned (.tuple #[.agg ds, .bool b]) ∧ PeA q ds ∧ Keep y w') := Lib.hid fun ps y p q b t hp hr he => by
    have q := tick_any p ps hp hr t y
    rw [he] at q; exact q
  have SN : Hid (∀ ps y (p : PeR), PeA p ps → p.rs = [] → saneP p = true → Calls Tryd.prog 12 #[.agg ps] y fun e w' => e = .returned (.bool true) ∧ Keep y w') := Lib.hid fun ps y p hp hr he => by
    have q := psane_any p ps hp hr y
    rw [he] at q; exact q
  have hzn := hzA.n; have hzz := hzA.z
  have HZ := Lib.hid hzA
  clear h0A h1A h5A h0b h1b h5b hzA hbig
  obtain ⟨T, hT⟩ : ∃ T : Int, bits .and .i64 now 16777215 = T ∧ 0 ≤ T ∧ T < 16777216 := ⟨_, low24 now, by omega, by omega⟩
  obtain ⟨hTe, hT0, hT1⟩ := hT
  go_enter Tryd.func3, Tryd.ntmps3
  go_upto_region 2 with (go_at_call 7; refine (AW.out _).mono ?_; rintro e w1 ⟨rfl, k1⟩; have HK1 := Lib.hid k1; clear k1 AW)
  go_upto_region 5 with (first | (go_at_call 9; refine (NP.out _).mono ?_; rintro e w1a ⟨ps, rfl, hpA, k⟩; have HPA := Lib.hid hpA; have HK1a := Lib.hid (keep_trans HK1.out k); clear k hpA HK1) | ((with_reducible refine list_bldg [(0, .int .i64 0)] k0 (Eq.trans ?_ rfl) B0.out (Eq.trans ?_ rfl) ?_); rfl; rfl) | (go_at_call 8; refine (H0.out _ _ HPA.out).mono ?_; rintro e w2 ⟨da, Ax, nx, rfl, hdA, k⟩;  have HK2 := Lib.hid (keep_trans HK1a.out k); have hst := pst_new HZ.out hdA w2; have hna := hdA.n; have hza := hdA.z; have hia := hdA.i; have HAa := Lib.hid hdA; clear k hdA))
  obtain ⟨w3, hw⟩ : ∃ y, y = w2.alloc (.cells da 31) := ⟨_, rfl⟩
  have HBa : Hid (Blk w3 w2.heap.size 31 da.toList) := by rw [hw]; exact Lib.hid (Blk.new w2 _ da.toList)
  have HK3 : Hid (Keep w w3) := by rw [hw]; exact Lib.hid (keep_trans HK2.out (keep_new _ _))
  rw [← hw]
  have hlea : w.heap.size ≤ w2.heap.size := HK2.out.size
  clear hst hw HK2
  generalize w2.heap.size = b8 at *
  clear HPA H0 NP B0 HK1a
  go_upto_region 6 with (first | ((with_reducible refine load_arr b8 da (Eq.trans ?_ rfl) HBa.out _ Tryd.underlying31 rfl hia ?_); rfl) | ((with_reducible refine list_bldg [(0, .int .i64 1)] k1 (Eq.trans ?_ rfl) B1.out (Eq.trans ?_ rfl) ?_); rfl; rfl) | (go_at_call 8; refine (H1.out _ _ HAa.out).mono ?_; rintro e w4 ⟨db, Ay, ny, rfl, hdA, k⟩; replace HBa := Lib.hid (HBa.out.keep k); have HK4 := Lib.hid (keep_trans HK3.out k); have hst := pst_new HZ.out hdA w4; have hnb := hdA.n; have hzb := hdA.z; have hib := hdA.i; have HAb := Lib.hid hdA; clear k hdA))
  obtain ⟨w5, hw⟩ : ∃ y, y = w4.alloc (.cells db 31) := ⟨_, rfl⟩
  have HBb : Hid (Blk w5 w4.heap.size 31 db.toList) := by rw [hw]; exact Lib.hid (Blk.new w4 _ db.toList)
  replace HBa := Lib.hid (show Blk w5 _ _ _ from by rw [hw]; exact HBa.out.alloc _)
  have HK5 : Hid (Keep w w5) := by rw [hw]; exact Lib.hid (keep_trans HK4.out (keep_new _ _))
  rw [← hw]
  have hleb : w.heap.size ≤ w4.heap.size := HK4.out.size
  clear hst hw HK4
  generalize w4.heap.size = b11 at *
  clear H1 B1 HK3
  obtain ⟨w6, hst, hb6, hg6⟩ := run_store_blk (P := Tryd.prog) db.toList HBa.out (by rw [Array.length_toList, Array.length_toList, hza, hzb]) HAb.out.o
  have HB6 := Lib.hid hb6
  have HK6 : Hid (Keep w w6) := Lib.hid (HK5.out.grown hg6 HK5.out.size (fun q hq => by injection hq with hq; omega))
  clear hb6 hg6
  go_upto_region 7 with ((with_reducible refine load_arr b11 db (Eq.trans ?_ rfl) HBb.out _ Tryd.underlying31 rfl hib ?_); rfl)
  clear hst HBa HBb HK5 HAa hna hza hia hleb
  have hU0 : Hid ((0 : Int) ≤ 0 ∧ (0 : Int) ≤ T) := Lib.hid ⟨by omega, by omega⟩
  go_wp2_with fail
  clear hTe
  go_loopw [14, 15, 16] (fun tv kv iv_ wr => ∃ (n k : Nat) (U : Int) (ds : Array Value), n ≤ N ∧ k ≤ 3 ∧ iv_ = .int .i64 n ∧ kv = .int .i64 k ∧ tv = .int .i64 (T + 4 * n) ∧ Hid (0 ≤ U ∧ U ≤ 16777600) ∧ Hid (PeA (stP g k U) ds) ∧ Hid (Blk wr b8 31 ds.toList) ∧ Hid (Keep w wr)) (fun _ _ iv_ _ => N - (intOf iv_).toNat)
  case atStart => exact ⟨0, 0, 0, db, by omega, by omega, rfl, rfl, by simp, Lib.hid ⟨by omega, by omega⟩, HAb, HB6, HK6⟩
  case round =>
    obtain ⟨n, k, U, ds, hn, hk, rfl, rfl, rfl, HU, HA0, HB0, HK0⟩ := hrel
    clear HB6 HK6
    have hi0 := HA0.out.i; have hn0 := HA0.out.n; have hz0s := HA0.out.z
    obtain ⟨t, ht⟩ : ∃ t : Int, t = T + 4 * n := ⟨_, rfl⟩
    rw [← ht]
    by_cases hlt : n < N
    · have hlt2 : (n : Int) < N := by omega
      obtain ⟨b, off, x, rfl, hbl, hx⟩ := ROW.out n hlt
      have HXW := Lib.hid hx
      have ht0 : 0 ≤ t := by omega
      have ht1 : t ≤ 16777400 := by omega
      have HT := Lib.hid ht
      have HTA : Hid (0 ≤ t ∧ t ≤ 16777600) := Lib.hid ⟨by omega, by omega⟩
      have HTB : Hid (0 ≤ t + 3 ∧ t + 3 ≤ 1099511627776) := Lib.hid ⟨by omega, by omega⟩
      have HUB : Hid (0 ≤ U ∧ U ≤ 1099511627776) := Lib.hid ⟨HU.out.1, by have := HU.out.2; omega⟩
      have H33 : Hid ((0 : Int) ≤ 3 ∧ (3 : Int) ≤ 3) := Lib.hid ⟨by omega, by omega⟩
      have H03 : Hid ((0 : Int) ≤ 0 ∧ (0 : Int) ≤ 3) := Lib.hid ⟨by omega, by omega⟩
      have HLT : Hid (t + 3 < t + 4) := Lib.hid (by omega)
      clear hx ROW ht hT0 hT1
      by_cases hk3 : k = 3
      · subst hk3
        replace HA0 : Hid (PeA (stP g 3 U) ds) := Lib.hid HA0.out
        cases x
        · go_upto_region 13 with (first | ((with_reducible refine load_arr b8 ds (Eq.trans ?_ rfl) HB0.out _ Tryd.underlying31 rfl hi0 ?_); rfl) | (go_at_call 10; refine (AK.out ds _ (stP g 3 U) (stP g 3 U) false t HA0.out rfl HTA.out (st_ask3 HUB.out)).mono ?_; rintro e wa ⟨d1, rfl, hdA, k⟩; replace HB0 := Lib.hid (HB0.out.keep k); have HKa := Lib.hid (keep_trans HK0.out k); have hst := pst_new HZ.out hdA wa; have hn1 := hdA.n; have hz1 := hdA.z; have hi1 := hdA.i; have HA1 := Lib.hid hdA; clear k hdA))
          have HNE0 : Hid (b8 ≠ wa.heap.size) := Lib.hid (Nat.ne_of_lt HB0.out.lt)
          obtain ⟨wb, hw⟩ : ∃ y, y = wa.alloc (.cells d1 31) := ⟨_, rfl⟩
          have HB1 : Hid (Blk wb wa.heap.size 31 d1.toList) := by rw [hw]; exact Lib.hid (Blk.new wa _ d1.toList)
          replace HB0 := Lib.hid (show Blk wb _ _ _ from by rw [hw]; exact HB0.out.alloc _)
          have HKb : Hid (Keep w wb) := by rw [hw]; exact Lib.hid (keep_trans HKa.out (keep_new _ _))
          rw [← hw]
          have hle1 : w.heap.size ≤ wa.heap.size := HKa.out.size
          clear hst hw HKa
          generalize wa.heap.size = b17 at *
          have HNE := HNE0
          clear HNE0
          go_upto_region 15 with fail
          go_upto_region 16 with (first | ((with_reducible refine load_arr b17 d1 (Eq.trans ?_ rfl) HB1.out _ Tryd.underlying31 rfl hi1 ?_); rfl) | (go_at_call 11; refine (TK.out d1 _ (stP g 3 U) (stP g 3 U) false (t + 3) HA1.out rfl (st_tick H33.out HUB.out)).mono ?_; rintro e wc ⟨d2, rfl, hdA, k⟩; replace HB0 := Lib.hid (HB0.out.keep k); replace HB1 := Lib.hid (HB1.out.keep k); have HKc := Lib.hid (keep_trans HKb.out k); have hst := pst_new HZ.out hdA wc; have hn2 := hdA.n; have hz2 := hdA.z; have hi2 := hdA.i; have HA2 := Lib.hid hdA; clear k hdA))
          obtain ⟨wd, hw⟩ : ∃ y, y = wc.alloc (.cells d2 31) := ⟨_, rfl⟩
          have HB2 : Hid (Blk wd wc.heap.size 31 d2.toList) := by rw [hw]; exact Lib.hid (Blk.new wc _ d2.toList)
          replace HB0 := Lib.hid (show Blk wd _ _ _ from by rw [hw]; exact HB0.out.alloc _)
          replace HB1 := Lib.hid (show Blk wd _ _ _ from by rw [hw]; exact HB1.out.alloc _)
          have HKd : Hid (Keep w wd) := by rw [hw]; exact Lib.hid (keep_trans HKc.out (keep_new _ _))
          rw [← hw]
          have hle2 : w.heap.size ≤ wc.heap.size := HKc.out.size
          clear hst hw HKc
          generalize wc.heap.size = b19 at *
          have r2 : wd.cell? ⟨b19, 0, none⟩ = some (iv 3) := (HB2.out.cell 0).trans (by rw [HA2.out.l]; simp [PeR.cells, stP])
          have r1 : wd.cell? ⟨b17, 0, none⟩ = some (iv 3) := (HB1.out.cell 0).trans (by rw [HA1.out.l]; simp [PeR.cells, stP])
          go_upto_region 18 with fail
          clear r1 r2 HB2 HA2 hi2 hn2 hz2 hle2
          have rx : wd.cell? ⟨b, off + n, none⟩ = some (.bool false) := keep_cell HKd.out HXW.out
          go_upto_region 23 with fail
          clear rx
          go_upto_region 24 with (first | ((with_reducible refine load_arr b17 d1 (Eq.trans ?_ rfl) HB1.out _ Tryd.underlying31 rfl hi1 ?_); rfl) | (go_at_call 11; refine (TK.out d1 _ (stP g 3 U) (stP g 3 U) false (t + 4) HA1.out rfl (st_tick H33.out HUB.out)).mono ?_; rintro e wg ⟨d3, rfl, hdA, k⟩; replace HB0 := Lib.hid (HB0.out.keep k); have HKg := Lib.hid (keep_trans HKd.out k); have hst := pst_new HZ.out hdA wg; have hn3 := hdA.n; have hz3 := hdA.z; have hi3 := hdA.i; have HA3 := Lib.hid hdA; clear k hdA))
          obtain ⟨wh, hw⟩ : ∃ y, y = wg.alloc (.cells d3 31) := ⟨_, rfl⟩
          have HB3 : Hid (Blk wh wg.heap.size 31 d3.toList) := by rw [hw]; exact Lib.hid (Blk.new wg _ d3.toList)
          replace HB0 := Lib.hid (show Blk wh _ _ _ from by rw [hw]; exact HB0.out.alloc _)
          have HKh : Hid (Keep w wh) := by rw [hw]; exact Lib.hid (keep_trans HKg.out (keep_new _ _))
          rw [← hw]
          have hle3 : w.heap.size ≤ wg.heap.size := HKg.out.size
          clear hst hw HKg
          generalize wg.heap.size = b24 at *
          have rx : wh.cell? ⟨b, off + n, none⟩ = some (.bool false) := keep_cell HKh.out HXW.out
          go_upto_region 28 with fail
          clear rx HB1
          obtain ⟨wi, hst, hb6, hg6⟩ := run_store_blk (P := Tryd.prog) d3.toList HB0.out (by rw [Array.length_toList, Array.length_toList, hz0s, hz3]) HA3.out.o
          have HB0 := Lib.hid hb6
          have HKi : Hid (Keep w wi) := Lib.hid (HKh.out.grown hg6 HKh.out.size (fun q hq => by injection hq with hq; omega))
          clear hb6 hg6
          go_upto_region 29 with ((with_reducible refine load_arr b24 d3 (Eq.trans ?_ rfl) HB3.out _ Tryd.underlying31 rfl hi3 ?_); rfl)
          clear hst HB3 HKh hle3
          have hU1 := HU.out.1; have hU2 := HU.out.2
          have r0 : wi.cell? ⟨b8, 0, none⟩ = some (iv 3) := (HB0.out.cell 0).trans (by rw [HA3.out.l]; simp [PeR.cells, stP])
          go_wp2
          go_roundw
          case rel => exact ⟨n + 1, 3, U, d3, by omega, by omega, by go_num, rfl, congrArg (Value.int .i64) (by have := HT.out; omega), Lib.hid ⟨by omega, by omega⟩, HA3, HB0, HKi⟩
          case measure => simp [intOf]; omega
        · go_upto_region 13 with (first | ((with_reducible refine load_arr b8 ds (Eq.trans ?_ rfl) HB0.out _ Tryd.underlying31 rfl hi0 ?_); rfl) | (go_at_call 10; refine (AK.out ds _ (stP g 3 U) (stP g 3 U) false t HA0.out rfl HTA.out (st_ask3 HUB.out)).mono ?_; rintro e wa ⟨d1, rfl, hdA, k⟩; replace HB0 := Lib.hid (HB0.out.keep k); have HKa := Lib.hid (keep_trans HK0.out k); have hst := pst_new HZ.out hdA wa; have hn1 := hdA.n; have hz1 := hdA.z; have hi1 := hdA.i; have HA1 := Lib.hid hdA; clear k hdA))
          have HNE0 : Hid (b8 ≠ wa.heap.size) := Lib.hid (Nat.ne_of_lt HB0.out.lt)
          obtain ⟨wb, hw⟩ : ∃ y, y = wa.alloc (.cells d1 31) := ⟨_, rfl⟩
          have HB1 : Hid (Blk wb wa.heap.size 31 d1.toList) := by rw [hw]; exact Lib.hid (Blk.new wa _ d1.toList)
          replace HB0 := Lib.hid (show Blk wb _ _ _ from by rw [hw]; exact HB0.out.alloc _)
          have HKb : Hid (Keep w wb) := by rw [hw]; exact Lib.hid (keep_trans HKa.out (keep_new _ _))
          rw [← hw]
          have hle1 : w.heap.size ≤ wa.heap.size := HKa.out.size
          clear hst hw HKa
          generalize wa.heap.size = b17 at *
          have HNE := HNE0
          clear HNE0
          go_upto_region 15 with fail
          go_upto_region 16 with (first | ((with_reducible refine load_arr b17 d1 (Eq.trans ?_ rfl) HB1.out _ Tryd.underlying31 rfl hi1 ?_); rfl) | (go_at_call 11; refine (TK.out d1 _ (stP g 3 U) (stP g 3 U) false (t + 3) HA1.out rfl (st_tick H33.out HUB.out)).mono ?_; rintro e wc ⟨d2, rfl, hdA, k⟩; replace HB0 := Lib.hid (HB0.out.keep k); replace HB1 := Lib.hid (HB1.out.keep k); have HKc := Lib.hid (keep_trans HKb.out k); have hst := pst_new HZ.out hdA wc; have hn2 := hdA.n; have hz2 := hdA.z; have hi2 := hdA.i; have HA2 := Lib.hid hdA; clear k hdA))
          obtain ⟨wd, hw⟩ : ∃ y, y = wc.alloc (.cells d2 31) := ⟨_, rfl⟩
          have HB2 : Hid (Blk wd wc.heap.size 31 d2.toList) := by rw [hw]; exact Lib.hid (Blk.new wc _ d2.toList)
          replace HB0 := Lib.hid (show Blk wd _ _ _ from by rw [hw]; exact HB0.out.alloc _)
          replace HB1 := Lib.hid (show Blk wd _ _ _ from by rw [hw]; exact HB1.out.alloc _)
          have HKd : Hid (Keep w wd) := by rw [hw]; exact Lib.hid (keep_trans HKc.out (keep_new _ _))
          rw [← hw]
          have hle2 : w.heap.size ≤ wc.heap.size := HKc.out.size
          clear hst hw HKc
          generalize wc.heap.size = b19 at *
          have r2 : wd.cell? ⟨b19, 0, none⟩ = some (iv 3) := (HB2.out.cell 0).trans (by rw [HA2.out.l]; simp [PeR.cells, stP])
          have r1 : wd.cell? ⟨b17, 0, none⟩ = some (iv 3) := (HB1.out.cell 0).trans (by rw [HA1.out.l]; simp [PeR.cells, stP])
          go_upto_region 18 with fail
          clear r1 r2 HB2 HA2 hi2 hn2 hz2 hle2
          have rx : wd.cell? ⟨b, off + n, none⟩ = some (.bool true) := keep_cell HKd.out HXW.out
          go_upto_region 23 with fail
          clear rx
          go_upto_region 24 with (first | ((with_reducible refine load_arr b17 d1 (Eq.trans ?_ rfl) HB1.out _ Tryd.underlying31 rfl hi1 ?_); rfl) | (go_at_call 11; refine (TK.out d1 _ (stP g 3 U) (stP g 3 U) false (t + 4) HA1.out rfl (st_tick H33.out HUB.out)).mono ?_; rintro e wg ⟨d3, rfl, hdA, k⟩; replace HB0 := Lib.hid (HB0.out.keep k); have HKg := Lib.hid (keep_trans HKd.out k); have hst := pst_new HZ.out hdA wg; have hn3 := hdA.n; have hz3 := hdA.z; have hi3 := hdA.i; have HA3 := Lib.hid hdA; clear k hdA))
          obtain ⟨wh, hw⟩ : ∃ y, y = wg.alloc (.cells d3 31) := ⟨_, rfl⟩
          have HB3 : Hid (Blk wh wg.heap.size 31 d3.toList) := by rw [hw]; exact Lib.hid (Blk.new wg _ d3.toList)
          replace HB0 := Lib.hid (show Blk wh _ _ _ from by rw [hw]; exact HB0.out.alloc _)
          have HKh : Hid (Keep w wh) := by rw [hw]; exact Lib.hid (keep_trans HKg.out (keep_new _ _))
          rw [← hw]
          have hle3 : w.heap.size ≤ wg.heap.size := HKg.out.size
          clear hst hw HKg
          generalize wg.heap.size = b24 at *
          have rx : wh.cell? ⟨b, off + n, none⟩ = some (.bool true) := keep_cell HKh.out HXW.out
          go_upto_region 28 with fail
          clear rx HB1
          obtain ⟨wi, hst, hb6, hg6⟩ := run_store_blk (P := Tryd.prog) d3.toList HB0.out (by rw [Array.length_toList, Array.length_toList, hz0s, hz3]) HA3.out.o
          have HB0 := Lib.hid hb6
          have HKi : Hid (Keep w wi) := Lib.hid (HKh.out.grown hg6 HKh.out.size (fun q hq => by injection hq with hq; omega))
          clear hb6 hg6
          go_upto_region 29 with ((with_reducible refine load_arr b24 d3 (Eq.trans ?_ rfl) HB3.out _ Tryd.underlying31 rfl hi3 ?_); rfl)
          clear hst HB3 HKh hle3
          have hU1 := HU.out.1; have hU2 := HU.out.2
          have r0 : wi.cell? ⟨b8, 0, none⟩ = some (iv 3) := (HB0.out.cell 0).trans (by rw [HA3.out.l]; simp [PeR.cells, stP])
          go_wp2
          go_roundw
          case rel => exact ⟨n + 1, 3, U, d3, by omega, by omega, by go_num, rfl, congrArg (Value.int .i64) (by have := HT.out; omega), Lib.hid ⟨by omega, by omega⟩, HA3, HB0, HKi⟩
          case measure => simp [intOf]; omega
      · have hk4 : (k : Int) < 3 := by omega
        have hk5 : ¬ (k : Int) = 3 := by omega
        have HKK : Hid ((0 : Int) ≤ k ∧ (k : Int) < 3) := Lib.hid ⟨by omega, by omega⟩
        cases x
        · go_upto_region 13 with (first | ((with_reducible refine load_arr b8 ds (Eq.trans ?_ rfl) HB0.out _ Tryd.underlying31 rfl hi0 ?_); rfl) | (go_at_call 10; refine (AK.out ds _ (stP g k U) ({ stP g k (t + 3) with asked := true }) true t HA0.out rfl HTA.out (st_ask HKK.out HUB.out)).mono ?_; rintro e wa ⟨d1, rfl, hdA, k⟩; replace HB0 := Lib.hid (HB0.out.keep k); have HKa := Lib.hid (keep_trans HK0.out k); have hst := pst_new HZ.out hdA wa; have hn1 := hdA.n; have hz1 := hdA.z; have hi1 := hdA.i; have HA1 := Lib.hid hdA; clear k hdA))
          have HNE0 : Hid (b8 ≠ wa.heap.size) := Lib.hid (Nat.ne_of_lt HB0.out.lt)
          obtain ⟨wb, hw⟩ : ∃ y, y = wa.alloc (.cells d1 31) := ⟨_, rfl⟩
          have HB1 : Hid (Blk wb wa.heap.size 31 d1.toList) := by rw [hw]; exact Lib.hid (Blk.new wa _ d1.toList)
          replace HB0 := Lib.hid (show Blk wb _ _ _ from by rw [hw]; exact HB0.out.alloc _)
          have HKb : Hid (Keep w wb) := by rw [hw]; exact Lib.hid (keep_trans HKa.out (keep_new _ _))
          rw [← hw]
          have hle1 : w.heap.size ≤ wa.heap.size := HKa.out.size
          clear hst hw HKa
          generalize wa.heap.size = b17 at *
          have HNE := HNE0
          clear HNE0
          go_upto_region 15 with fail
          go_upto_region 16 with (first | ((with_reducible refine load_arr b17 d1 (Eq.trans ?_ rfl) HB1.out _ Tryd.underlying31 rfl hi1 ?_); rfl) | (go_at_call 11; refine (TK.out d1 _ ({ stP g k (t + 3) with asked := true }) ({ stP g k (t + 3) with asked := true }) false (t + 3) HA1.out rfl (st_early HKK.out HTB.out)).mono ?_; rintro e wc ⟨d2, rfl, hdA, k⟩; replace HB0 := Lib.hid (HB0.out.keep k); replace HB1 := Lib.hid (HB1.out.keep k); have HKc := Lib.hid (keep_trans HKb.out k); have hst := pst_new HZ.out hdA wc; have hn2 := hdA.n; have hz2 := hdA.z; have hi2 := hdA.i; have HA2 := Lib.hid hdA; clear k hdA))
          obtain ⟨wd, hw⟩ : ∃ y, y = wc.alloc (.cells d2 31) := ⟨_, rfl⟩
          have HB2 : Hid (Blk wd wc.heap.size 31 d2.toList) := by rw [hw]; exact Lib.hid (Blk.new wc _ d2.toList)
          replace HB0 := Lib.hid (show Blk wd _ _ _ from by rw [hw]; exact HB0.out.alloc _)
          replace HB1 := Lib.hid (show Blk wd _ _ _ from by rw [hw]; exact HB1.out.alloc _)
          have HKd : Hid (Keep w wd) := by rw [hw]; exact Lib.hid (keep_trans HKc.out (keep_new _ _))
          rw [← hw]
          have hle2 : w.heap.size ≤ wc.heap.size := HKc.out.size
          clear hst hw HKc
          generalize wc.heap.size = b19 at *
          have r2 : wd.cell? ⟨b19, 0, none⟩ = some (iv 2) := (HB2.out.cell 0).trans (by rw [HA2.out.l]; simp [PeR.cells, stP, hk5])
          have r1 : wd.cell? ⟨b17, 0, none⟩ = some (iv 2) := (HB1.out.cell 0).trans (by rw [HA1.out.l]; simp [PeR.cells, stP, hk5])
          go_upto_region 18 with fail
          clear r1 r2 HB2 HA2 hi2 hn2 hz2 hle2
          have rx : wd.cell? ⟨b, off + n, none⟩ = some (.bool false) := keep_cell HKd.out HXW.out
          go_upto_region 23 with fail
          clear rx
          go_upto_region 24 with (first | ((with_reducible refine load_arr b17 d1 (Eq.trans ?_ rfl) HB1.out _ Tryd.underlying31 rfl hi1 ?_); rfl) | (go_at_call 11; refine (TK.out d1 _ ({ stP g k (t + 3) with asked := true }) (stP g (k + 1) (t + 3)) true (t + 4) HA1.out rfl (st_late HKK.out HTB.out HLT.out)).mono ?_; rintro e wg ⟨d3, rfl, hdA, k⟩; replace HB0 := Lib.hid (HB0.out.keep k); have HKg := Lib.hid (keep_trans HKd.out k); have hst := pst_new HZ.out hdA wg; have hn3 := hdA.n; have hz3 := hdA.z; have hi3 := hdA.i; have HA3 := Lib.hid hdA; clear k hdA))
          obtain ⟨wh, hw⟩ : ∃ y, y = wg.alloc (.cells d3 31) := ⟨_, rfl⟩
          have HB3 : Hid (Blk wh wg.heap.size 31 d3.toList) := by rw [hw]; exact Lib.hid (Blk.new wg _ d3.toList)
          replace HB0 := Lib.hid (show Blk wh _ _ _ from by rw [hw]; exact HB0.out.alloc _)
          have HKh : Hid (Keep w wh) := by rw [hw]; exact Lib.hid (keep_trans HKg.out (keep_new _ _))
          rw [← hw]
          have hle3 : w.heap.size ≤ wg.heap.size := HKg.out.size
          clear hst hw HKg
          generalize wg.heap.size = b24 at *
          have rx : wh.cell? ⟨b, off + n, none⟩ = some (.bool false) := keep_cell HKh.out HXW.out
          go_upto_region 28 with fail
          clear rx HB1
          obtain ⟨wi, hst, hb6, hg6⟩ := run_store_blk (P := Tryd.prog) d3.toList HB0.out (by rw [Array.length_toList, Array.length_toList, hz0s, hz3]) HA3.out.o
          have HB0 := Lib.hid hb6
          have HKi : Hid (Keep w wi) := Lib.hid (HKh.out.grown hg6 HKh.out.size (fun q hq => by injection hq with hq; omega))
          clear hb6 hg6
          go_upto_region 29 with ((with_reducible refine load_arr b24 d3 (Eq.trans ?_ rfl) HB3.out _ Tryd.underlying31 rfl hi3 ?_); rfl)
          clear hst HB3 HKh hle3
          by_cases hk2 : k = 2
          · subst hk2
            have r0 : wi.cell? ⟨b8, 0, none⟩ = some (iv 3) := (HB0.out.cell 0).trans (by rw [HA3.out.l]; simp [PeR.cells, stP])
            go_wp2
            go_roundw
            case rel => exact ⟨n + 1, 3, t + 3, d3, by omega, by omega, by go_num, rfl, congrArg (Value.int .i64) (by have := HT.out; omega), Lib.hid ⟨by omega, by omega⟩, HA3, HB0, HKi⟩
            case measure => simp [intOf]; omega
          · have hk6 : ¬ (k : Int) + 1 = 3 := by omega
            have hk7 : ((k : Int) + 1 == 3) = false := by rw [beq_eq_false_iff_ne]; exact hk6
            have r0 : wi.cell? ⟨b8, 0, none⟩ = some (iv 2) := (HB0.out.cell 0).trans (by rw [HA3.out.l]; simp [PeR.cells, stP, hk6])
            go_wp2
            go_roundw
            case rel => exact ⟨n + 1, k + 1, t + 3, d3, by omega, by omega, by go_num, by go_num, congrArg (Value.int .i64) (by have := HT.out; omega), Lib.hid ⟨by omega, by omega⟩, (by have q := HA3; rwa [show ((k : Int) + 1) = ((k + 1 : Nat) : Int) from by omega] at q), HB0, HKi⟩
            case measure => simp [intOf]; omega
        · go_upto_region 13 with (first | ((with_reducible refine load_arr b8 ds (Eq.trans ?_ rfl) HB0.out _ Tryd.underlying31 rfl hi0 ?_); rfl) | (go_at_call 10; refine (AK.out ds _ (stP g k U) ({ stP g k (t + 3) with asked := true }) true t HA0.out rfl HTA.out (st_ask HKK.out HUB.out)).mono ?_; rintro e wa ⟨d1, rfl, hdA, k⟩; replace HB0 := Lib.hid (HB0.out.keep k); have HKa := Lib.hid (keep_trans HK0.out k); have hst := pst_new HZ.out hdA wa; have hn1 := hdA.n; have hz1 := hdA.z; have hi1 := hdA.i; have HA1 := Lib.hid hdA; clear k hdA))
          have HNE0 : Hid (b8 ≠ wa.heap.size) := Lib.hid (Nat.ne_of_lt HB0.out.lt)
          obtain ⟨wb, hw⟩ : ∃ y, y = wa.alloc (.cells d1 31) := ⟨_, rfl⟩
          have HB1 : Hid (Blk wb wa.heap.size 31 d1.toList) := by rw [hw]; exact Lib.hid (Blk.new wa _ d1.toList)
          replace HB0 := Lib.hid (show Blk wb _ _ _ from by rw [hw]; exact HB0.out.alloc _)
          have HKb : Hid (Keep w wb) := by rw [hw]; exact Lib.hid (keep_trans HKa.out (keep_new _ _))
          rw [← hw]
          have hle1 : w.heap.size ≤ wa.heap.size := HKa.out.size
          clear hst hw HKa
          generalize wa.heap.size = b17 at *
          have HNE := HNE0
          clear HNE0
          go_upto_region 15 with fail
          go_upto_region 16 with (first | ((with_reducible refine load_arr b17 d1 (Eq.trans ?_ rfl) HB1.out _ Tryd.underlying31 rfl hi1 ?_); rfl) | (go_at_call 11; refine (TK.out d1 _ ({ stP g k (t + 3) with asked := true }) ({ stP g k (t + 3) with asked := true }) false (t + 3) HA1.out rfl (st_early HKK.out HTB.out)).mono ?_; rintro e wc ⟨d2, rfl, hdA, k⟩; replace HB0 := Lib.hid (HB0.out.keep k); replace HB1 := Lib.hid (HB1.out.keep k); have HKc := Lib.hid (keep_trans HKb.out k); have hst := pst_new HZ.out hdA wc; have hn2 := hdA.n; have hz2 := hdA.z; have hi2 := hdA.i; have HA2 := Lib.hid hdA; clear k hdA))
          obtain ⟨wd, hw⟩ : ∃ y, y = wc.alloc (.cells d2 31) := ⟨_, rfl⟩
          have HB2 : Hid (Blk wd wc.heap.size 31 d2.toList) := by rw [hw]; exact Lib.hid (Blk.new wc _ d2.toList)
          replace HB0 := Lib.hid (show Blk wd _ _ _ from by rw [hw]; exact HB0.out.alloc _)
          replace HB1 := Lib.hid (show Blk wd _ _ _ from by rw [hw]; exact HB1.out.alloc _)
          have HKd : Hid (Keep w wd) := by rw [hw]; exact Lib.hid (keep_trans HKc.out (keep_new _ _))
          rw [← hw]
          have hle2 : w.heap.size ≤ wc.heap.size := HKc.out.size
          clear hst hw HKc
          generalize wc.heap.size = b19 at *
          have r2 : wd.cell? ⟨b19, 0, none⟩ = some (iv 2) := (HB2.out.cell 0).trans (by rw [HA2.out.l]; simp [PeR.cells, stP, hk5])
          have r1 : wd.cell? ⟨b17, 0, none⟩ = some (iv 2) := (HB1.out.cell 0).trans (by rw [HA1.out.l]; simp [PeR.cells, stP, hk5])
          go_upto_region 18 with fail
          clear r1 r2 HB2 HA2 hi2 hn2 hz2 hle2
          have rx : wd.cell? ⟨b, off + n, none⟩ = some (.bool true) := keep_cell HKd.out HXW.out
          go_upto_region 20 with fail
          clear rx
          go_upto_region 21 with (first | ((with_reducible refine load_arr b17 d1 (Eq.trans ?_ rfl) HB1.out _ Tryd.underlying31 rfl hi1 ?_); rfl) | ((with_reducible refine list_bldg [(0, .int .i64 5)] k5 (Eq.trans ?_ rfl) B5.out (Eq.trans ?_ rfl) ?_); rfl; rfl) | (go_at_call 8; refine (H5.out d1 _ (k : Int) (t + 3) HKK.out HTB.out HA1.out).mono ?_; rintro e we ⟨d5, Az, nz, rfl, hdA, k⟩; replace HB0 := Lib.hid (HB0.out.keep k); replace HB1 := Lib.hid (HB1.out.keep k); have HKe := Lib.hid (keep_trans HKd.out k); have hst := pst_new HZ.out hdA we; have hn5 := hdA.n; have hz5 := hdA.z; have hi5 := hdA.i; have HA5 := Lib.hid hdA; clear k hdA))
          obtain ⟨wf, hw⟩ : ∃ y, y = we.alloc (.cells d5 31) := ⟨_, rfl⟩
          have HB5 : Hid (Blk wf we.heap.size 31 d5.toList) := by rw [hw]; exact Lib.hid (Blk.new we _ d5.toList)
          replace HB0 := Lib.hid (show Blk wf _ _ _ from by rw [hw]; exact HB0.out.alloc _)
          replace HB1 := Lib.hid (show Blk wf _ _ _ from by rw [hw]; exact HB1.out.alloc _)
          have HKf : Hid (Keep w wf) := by rw [hw]; exact Lib.hid (keep_trans HKe.out (keep_new _ _))
          rw [← hw]
          have hle5 : w.heap.size ≤ we.heap.size := HKe.out.size
          clear hst hw HKe
          generalize we.heap.size = b21 at *
          obtain ⟨wf2, hst, hb6, hg6⟩ := run_store_blk (P := Tryd.prog) d5.toList HB1.out (by rw [Array.length_toList, Array.length_toList, hz1, hz5]) HA5.out.o
          have hne := HNE.out
          replace HB0 := Lib.hid (HB0.out.grown hg6 (fun q => hne (Option.some.inj q).symm))
          have HB1 := Lib.hid hb6
          have HKf2 : Hid (Keep w wf2) := Lib.hid (HKf.out.grown hg6 HKf.out.size (fun q hq => by injection hq with hq; omega))
          clear hb6 hg6 hne
          go_upto_region 22 with ((with_reducible refine load_arr b21 d5 (Eq.trans ?_ rfl) HB5.out _ Tryd.underlying31 rfl hi5 ?_); rfl)
          clear hst HB5 HKf hle5
          have rx : wf2.cell? ⟨b, off + n, none⟩ = some (.bool true) := keep_cell HKf2.out HXW.out
          go_upto_region 23 with fail
          clear rx
          go_upto_region 24 with (first | ((with_reducible refine load_arr b17 d5 (Eq.trans ?_ rfl) HB1.out _ Tryd.underlying31 rfl hi5 ?_); rfl) | (go_at_call 11; refine (TK.out d5 _ (stP g 0 (t + 3)) (stP g 0 (t + 3)) false (t + 4) HA5.out rfl (st_tick H03.out HTB.out)).mono ?_; rintro e wg ⟨d3, rfl, hdA, k⟩; replace HB0 := Lib.hid (HB0.out.keep k); have HKg := Lib.hid (keep_trans HKf2.out k); have hst := pst_new HZ.out hdA wg; have hn3 := hdA.n; have hz3 := hdA.z; have hi3 := hdA.i; have HA3 := Lib.hid hdA; clear k hdA))
          obtain ⟨wh, hw⟩ : ∃ y, y = wg.alloc (.cells d3 31) := ⟨_, rfl⟩
          have HB3 : Hid (Blk wh wg.heap.size 31 d3.toList) := by rw [hw]; exact Lib.hid (Blk.new wg _ d3.toList)
          replace HB0 := Lib.hid (show Blk wh _ _ _ from by rw [hw]; exact HB0.out.alloc _)
          have HKh : Hid (Keep w wh) := by rw [hw]; exact Lib.hid (keep_trans HKg.out (keep_new _ _))
          rw [← hw]
          have hle3 : w.heap.size ≤ wg.heap.size := HKg.out.size
          clear hst hw HKg
          generalize wg.heap.size = b24 at *
          have rx : wh.cell? ⟨b, off + n, none⟩ = some (.bool true) := keep_cell HKh.out HXW.out
          go_upto_region 28 with fail
          clear rx HB1
          obtain ⟨wi, hst, hb6, hg6⟩ := run_store_blk (P := Tryd.prog) d3.toList HB0.out (by rw [Array.length_toList, Array.length_toList, hz0s, hz3]) HA3.out.o
          have HB0 := Lib.hid hb6
          have HKi : Hid (Keep w wi) := Lib.hid (HKh.out.grown hg6 HKh.out.size (fun q hq => by injection hq with hq; omega))
          clear hb6 hg6
          go_upto_region 29 with ((with_reducible refine load_arr b24 d3 (Eq.trans ?_ rfl) HB3.out _ Tryd.underlying31 rfl hi3 ?_); rfl)
          clear hst HB3 HKh hle3
          have r0 : wi.cell? ⟨b8, 0, none⟩ = some (iv 2) := (HB0.out.cell 0).trans (by rw [HA3.out.l]; simp [PeR.cells, stP])
          go_wp2
          go_roundw
          case rel => exact ⟨n + 1, 0, t + 3, d3, by omega, by omega, by go_num, rfl, congrArg (Value.int .i64) (by have := HT.out; omega), Lib.hid ⟨by omega, by omega⟩, HA3, HB0, HKi⟩
          case measure => simp [intOf]; omega
    · have hlt2 : ¬ (n : Int) < N := by omega
      clear ROW
      have hks : (0 : Int) ≤ k ∧ (k : Int) ≤ 3 := ⟨by omega, by omega⟩
      have hsn : saneP (stP g k U) = true := by
        have q := st_sane (g := g) hks (U := U) ⟨HU.out.1, by have := HU.out.2; omega⟩
        have e1 : (0 : Int) ≤ (if (k : Int) = 3 then 3 else 2) ∧ (if (k : Int) = 3 then 3 else 2) ≤ (3 : Int) := by split <;> omega
        have f1 : fsaneB 99 = true := rfl
        have u1 : ¬ (1099511627776 : Int) < U := by have := HU.out.2; omega
        simp only [saneP, stP, peZ, e1, hks, HU.out.1, u1, f1]
        simp
      have HSN := Lib.hid hsn
      clear hsn hks
      have RG : Hid (wr.rangeAt b8 0 ds.toList) := Lib.hid (range_of HB0.out 0 ds.toList (by simp [List.take_of_length_le]))
      go_wp2_with (first | ((with_reducible refine load_partg b8 0 ds (Eq.trans ?_ rfl) RG.out _ Tryd.underlying31 rfl hi0 (Eq.trans ?_ rfl) ?_); rfl; rfl) | (go_at_call 12; refine (SN.out ds _ (stP g k U) HA0.out rfl HSN.out).mono ?_; rintro e wz ⟨rfl, k⟩; have HKz := Lib.hid (keep_trans HK0.out k); clear k))
      exact bodyPost_ret (v := .bool true) (by simp [results, Tryd.results3]) rfl ⟨rfl, HKz.out⟩
end Go.Proofs.YtffpanlpbdnafaaDoor
