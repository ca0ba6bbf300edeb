/- Texts merged by pack.py: Qg, Ql, Qm, Rd, Rfe, Rsn, Rfd, Pf. -/
import Derived.Test.YtffpanlpbdnafaaDoorCx9
import Derived.Test.YtffpanlpbdnafaaDoorCx10
import Derived.Test.YtffpanlpbdnafaaDoorCx2
import Derived.Test.YtffpanlpbdnafaaDoorCx8
import Derived.Shelf.Abstract
import Derived.Test.YtffpanlpbdnafaaDoorCx7
import Derived.Test.YtffpanlpbdnafaaDoorCx4
import Derived.Test.YtffpanlpbdnafaaDoorCx6
/- peer.Handle (printed by gen_qg.py) -/
set_option linter.unusedSimpArgs false
set_option linter.unusedVariables false
namespace Go.Proofs.YtffpanlpbdnafaaDoor
open Go.RowKit
attribute [local go_sem ↓] Go.wp_at_zero Go.wp_at_succ
def hdlP (p : PeR) (m : MsgR) : PeR × List MsgR × Int :=
  if (takenP p).stage = 3 then (takenP p, [], 16)
  else if fitsB m = false then ((takenP p).ban, [], 2)
  else if (takenP p).stage = 0 ∧ m.kind = 0 then ({ takenP p with stage := 1, nonce := m.nonce, height := m.height }, [{ msgZ 0 with proto := 70015, nonce := m.nonce }, msgZ 1], 0)
  else if (takenP p).stage = 1 ∧ m.kind = 1 then ({ takenP p with stage := 2 }, [], 0)
  else if (takenP p).stage = 2 ∧ m.kind = 2 then (takenP p, [{ msgZ 3 with nonce := m.nonce }], 0)
  else if (takenP p).stage = 2 ∧ m.kind = 5 then ({ takenP p with asked := false, misses := 0 }, [], 0)
  else if (takenP p).stage = 2 ∧ m.kind ≠ 0 ∧ m.kind ≠ 1 then (takenP p, [], 0)
  else ((takenP p).ban, [], 15)
theorem ev_guard : Tryd.prog.eqGuardType Tryd.prog.depth 89 = false := by kernel_rfl
theorem ev_stood : Tryd.prog.stoodInHeld 89 = false := by kernel_rfl
theorem ev_struct : Tryd.prog.underlying 89 = some (.struct (Tryd.prog.fieldsOf 89)) := by kernel_rfl
theorem ev_fields : ((Tryd.prog.fieldsOf 89).toList.map fun f => (f.name != "_", f.type, f.offset)) = [(true, 3, 0), (true, 3, 1)] := by kernel_rfl
theorem int_agg (w : World) : (isAgg 3).run Tryd.prog w = .ok false w := by kernel_rfl
theorem part_iv {cs : Array Value} {off : Nat} {v : Value} (h : cs[off]? = some v) (w : World) : (part 3 cs off).run Tryd.prog w = .ok v w := by
  simp only [part, Sem.run_bind, int_agg, Result.andThen_ok, Bool.false_eq_true, if_false, h, Sem.run_pure]
theorem ev_in (a b c d : Int) (w : World) : (Op.equalIn 10000 89 (.agg #[iv a, iv b]) (.agg #[iv c, iv d])).run Tryd.prog w = .ok ((a == c) && ((b == d) && true)) w := by
  rw [show (10000 : Nat) = 9998 + 2 from rfl, run_equalIn_agg w 9999 _ _ _ ev_struct ev_stood, eqF_of Tryd.prog, ev_fields]
  refine eqF_step (part_iv rfl w) (part_iv rfl w) (run_equalIn_int w 9998 _ .i64 .i64 _ _ Tryd.underlying3) (eqF_step (part_iv rfl w) (part_iv rfl w) (run_equalIn_int w 9998 _ .i64 .i64 _ _ Tryd.underlying3) ?_)
  rw [eqF]; rfl
theorem event_eq (a b c d : Int) (w : World) : (Go.binOp .eql 89 (.agg #[iv a, iv b]) (.agg #[iv c, iv d])).run Tryd.prog w = .ok (.bool ((a == c) && ((b == d) && true))) w := by
  rw [run_eql_struct, ev_in]; rfl
theorem ev_t {a b c d : Int} (h : a = c ∧ b = d) : ((a == c) && ((b == d) && true)) = true := by obtain ⟨rfl, rfl⟩ := h; simp
theorem ev_f {a b c d : Int} (h : ¬ (a = c ∧ b = d)) : ((a == c) && ((b == d) && true)) = false := by
  rw [Bool.eq_false_iff]; intro q; apply h; simpa using q
set_option maxRecDepth 100000 in
theorem msgsT : ElT Tryd.prog 32 50 (Value.agg zmsg) 114 336 := ElT.mk' Tryd.underlying32 (by kernel_rfl) zmsg_size (by omega)
theorem pong_built (n : Nat) (h : n < 2 ^ 64) : ∃ ks, MsA { msgZ 3 with nonce := n } ks ∧ Tryd.prog.built 50 [(0, .int .i64 3), (2, u64v n)] = some ks := by
  have ho := msgZ_ok 3 (by omega)
  exact ⟨_, MsA.of (m := { msgZ 3 with nonce := n }) ⟨ho.k, h, ho.s, ho.b, ho.h, ho.l, ho.i, ho.z⟩, by kernel_rfl⟩
theorem hello_built (n : Nat) (h : n < 2 ^ 64) : ∃ ks, MsA { msgZ 0 with proto := 70015, nonce := n } ks ∧ Tryd.prog.built 50 [(0, .int .i64 0), (1, .int .u32 70015), (2, u64v n)] = some ks := by
  have ho := msgZ_ok 0 (by omega)
  exact ⟨_, MsA.of (m := { msgZ 0 with proto := 70015, nonce := n }) ⟨ho.k, h, ho.s, ho.b, ho.h, ho.l, ho.i, ho.z⟩, by kernel_rfl⟩
theorem foldl_setoff (off : Nat) : ∀ (l : List Value) (k : Nat) (acc : Array Value), off + k + l.length ≤ acc.size → (l.zipIdx k).foldl (fun cs x => cs.setIfInBounds (off + x.2) x.1) acc = (acc.toList.take (off + k) ++ l ++ acc.toList.drop (off + k + l.length)).toArray
  | [], k, acc, h => by simp
  | v :: r, k, acc, h => by
    rw [List.zipIdx_cons, List.foldl_cons, foldl_setoff off r (k + 1) _ (by simp at h ⊢; omega)]
    have hk : off + k < acc.size := by simp at h; omega
    congr 1
    rw [Array.toList_setIfInBounds, ← Nat.add_assoc, List.take_succ_eq_append_getElem (by simpa using hk), List.getElem_set_self, List.take_set_of_le (Nat.le_refl _), List.drop_set_of_lt (by omega)]
    have e : off + k + (v :: r).length = off + k + 1 + r.length := by simp; omega
    simp only [e, List.append_assoc, List.singleton_append, List.cons_append, List.nil_append]
theorem fill_step {place : Nat → Option (Nat × Nat)} {acc : Array Value} {i off size : Nat} {v : Value} {rest : List (Nat × Value)} (hp : place i = some (off, size)) (hv : v.cells.size = size) (ho : off + size ≤ acc.size) :
    Instr.fill place acc ((i, v) :: rest) = Instr.fill place (acc.toList.take off ++ v.cells.toList ++ acc.toList.drop (off + size)).toArray rest := by
  rw [Instr.fill, hp]
  simp only []
  rw [if_neg (by simp [hv]; omega)]
  congr 1
  rw [← Array.foldl_toList, Array.toList_zipIdx]
  have := foldl_setoff off v.cells.toList 0 acc (by simp [hv]; omega)
  rw [Nat.add_zero] at this
  rw [show v.cells.toList.length = size from by simpa using hv] at this
  exact this
theorem wp_build2b {P : Program} {t e : TypeId} {zc : Array Value} {size bytes : Nat} (T : ElT P t e (.agg zc) size bytes) {o : Oper} {a : Act} {w : World} {K : Act → World → Prop} {Q : Exit → Act → World → Prop} (x y : Operand) (ho : o.op = .buildSlice t 2 #[(0, x), (1, y)])
    (cs ds : Array Value) (hz : cs.size = size) (hzd : ds.size = size) (hsm : size ≤ 1000) (hx : a.eval x = .agg cs) (hy : a.eval y = .agg ds)
    (h : K (a.put o.dst (.slice (some ⟨w.heap.size, 0, none⟩) 2 2)) (w.alloc (.cells (cs.toList ++ ds.toList).toArray e))) : o.wp P a w K Q := by
  obtain ⟨i, hi, hiz, his, _⟩ := T.info
  have hzc : zc.size = size := T.zs
  have hp := T.pos
  refine wp_buildSlice t e 2 _ ho (cs.toList ++ ds.toList).toArray i (.agg zc) T.und hi hiz (by rw [his]; omega) (by rw [his]; omega) ?_ h
  have hc : (Value.agg cs).cells = cs := rfl
  have hd : (Value.agg ds).cells = ds := rfl
  have hcl : cs.toList.length = size := by simpa using hz
  have hdl : ds.toList.length = size := by simpa using hzd
  simp only [List.map_toArray, List.map_cons, List.map_nil, hx, hy, his]
  rw [fill_step (off := 0 * size) (size := size) rfl (by rw [hc, hz]) (by simp; omega)]
  rw [fill_step (off := 1 * size) (size := size) rfl (by rw [hd, hzd]) (by simp [hc, hz]; omega)]
  rw [Instr.fill]
  congr 2
  rw [hc, hd, Nat.zero_mul, Nat.one_mul, List.take_zero, List.nil_append]
  rw [List.take_append_of_le_length (by omega), List.take_of_length_le (by omega)]
  have : List.drop (size + size) (cs.toList ++ List.drop (0 + size) ((Array.range (2 * size)).map fun j => (Value.agg zc).cells[j % (Value.agg zc).cells.size]!).toList) = [] := List.drop_eq_nil_of_le (by simp [hz]; omega)
  simp only [] at this ⊢
  rw [this, List.append_nil]
def Hdl (R : PeR × List MsgR × Int) (w : World) (e : Ending) (w' : World) : Prop :=
  ∃ ds A n, e = .returned (.tuple #[.agg ds, .slice A R.2.1.length n, iv R.2.2]) ∧ PeA R.1 ds ∧ R.2.1.length ≤ n ∧ n ≤ 2 ∧ Rd w' A (R.2.1.flatMap MsgR.cells) ∧ Keep w w'
set_option maxRecDepth 100000 in
set_option maxHeartbeats 4000000 in
theorem handle_any (p : PeR) (cs : Array Value) (hA : PeA p cs) (hr : p.rs = []) (m : MsgR) (ms : Array Value) (hM : MsA m ms) (w : World) (hm : m.at_ w) :
    Calls Tryd.prog 8 #[.agg cs, .agg ms] w (Hdl (hdlP p m) w) := by
  have HT : Hid (hdlP p m = _) := Lib.hid (hdlP.eq_1 p m)
  generalize hdlP p m = R at *
  obtain ⟨zs, hz0, hzA⟩ := zpeer_letter
  have FT : Hid (∀ y, Keep w y → Calls Tryd.prog 16 #[.agg ms] y fun e w' => e = .returned (.bool (fitsB m)) ∧ Keep y w') := Lib.hid fun y hy => fits_any m ms hM hm.o y (hm.t.keep hy)
  have TK : Hid (∀ y, Calls Tryd.prog 26 #[.agg cs] y fun e w' => ∃ ds, e = .returned (.agg ds) ∧ PeA (takenP p) ds ∧ Keep y w') := Lib.hid fun y => ptaken_any p cs hA hr y
  have hcn := hA.n; have hcz := hA.z; have hci := hA.i
  have hzn := hzA.n; have hzz := hzA.z
  have HA := Lib.hid hA; have HZ := Lib.hid hzA
  have hmn := hM.n; have hmz := hM.z; have hmi := hM.i
  have HMS := Lib.hid hM
  have HNN := Lib.hid hm.o.n
  clear hA hzA hr hM hm
  generalize takenP p = q at *
  generalize fitsB m = b at *
  go_enter Tryd.func8, Tryd.ntmps8
  go_upto_region 1 with fail
  obtain ⟨w1, hw1⟩ : ∃ w1, w1 = ((w.alloc (.cells cs 31)).alloc (.cells ms 50)).alloc (.cells zs 31) := ⟨_, rfl⟩
  have HB1 : Hid (Blk w1 w.heap.size 31 cs.toList) := by rw [hw1]; exact Lib.hid (((Blk.new w _ cs.toList).alloc _).alloc _)
  have HM1 : Hid (Blk w1 (w.heap.size + 1) 50 ms.toList) := by
    rw [hw1]
    have h2 := Blk.new (w.alloc (.cells cs 31)) 50 ms.toList
    rw [World.size_alloc] at h2
    exact Lib.hid (h2.alloc _)
  have HR1 : Hid (Blk w1 (w.heap.size + 2) 31 zs.toList) := by
    rw [hw1]
    have h2 := Blk.new ((w.alloc (.cells cs 31)).alloc (.cells ms 50)) 31 zs.toList
    rw [World.size_alloc, World.size_alloc] at h2
    exact Lib.hid h2
  have HK1 : Hid (Keep w w1) := by rw [hw1]; exact Lib.hid (keep_trans (keep_trans (keep_new _ _) (keep_new _ _)) (keep_new _ _))
  rw [← hw1]
  clear hw1
  go_wp2_with ((with_reducible refine load_arr w.heap.size cs (Eq.trans ?_ rfl) HB1.out _ Tryd.underlying31 rfl hci ?_); rfl)
  refine (TK.out _).mono ?_
  clear TK
  rintro e w2 ⟨qs, rfl, hqA, k2⟩
  have hqn := hqA.n; have hqz := hqA.z; have hqi := hqA.i
  have HQ := Lib.hid hqA
  have HK2 := Lib.hid (keep_trans HK1.out k2)
  obtain ⟨w3, hst3, hb3, hg3⟩ := run_store_blk (P := Tryd.prog) qs.toList (HB1.out.keep k2) (by rw [Array.length_toList, Array.length_toList, hcz, hqz]) HQ.out.o
  have HB3 : Hid (Blk w3 w.heap.size 31 q.cells) := by rw [← HQ.out.l]; exact Lib.hid hb3
  have HBc3 : Hid (Blk w3 w.heap.size 31 qs.toList) := Lib.hid hb3
  have HM3 : Hid (Blk w3 (w.heap.size + 1) 50 ms.toList) := Lib.hid ((HM1.out.keep k2).grown hg3 (fun e => by injection e with e; omega))
  have HR3 : Hid (Blk w3 (w.heap.size + 2) 31 zs.toList) := Lib.hid ((HR1.out.keep k2).grown hg3 (fun e => by injection e with e; omega))
  have HK3 : Hid (Keep w w3) := Lib.hid (HK2.out.grown hg3 HK2.out.size (fun q hq => by injection hq with hq; omega))
  clear k2 HB1 HR1 HK1 HM1 HK2 hqA hb3 hg3
  go_upto_region 2 with fail
  clear hst3
  have r0 : w3.cell? ⟨w.heap.size, 0, none⟩ = some (iv q.stage) := (HB3.out.cell 0).trans rfl
  by_cases h3 : q.stage = 3
  · have d0 : (q.stage == 3) = true := by rw [h3]; rfl
    have hR : R = (q, [], 16) := by rw [HT.out, if_pos h3]
    clear h3
    obtain ⟨w8, hst8, hb8, hg8⟩ := run_store_blk (P := Tryd.prog) qs.toList HR3.out (by rw [Array.length_toList, Array.length_toList, hzz, HQ.out.z]) HQ.out.o
    have Hb8 := Lib.hid hb8; have Hg8 := Lib.hid hg8
    have hdi8 := HQ.out.i
    have hdn8 := HQ.out.n
    have hdz8 := HQ.out.z
    have HRE := Lib.hid hR
    clear hb8 hg8 hR HT
    go_wp2_with ((with_reducible refine load_arr w.heap.size qs (Eq.trans ?_ rfl) HBc3.out _ Tryd.underlying31 rfl hdi8 ?_); rfl)
    exact bodyPost_ret (v := .tuple #[.agg qs, .slice none 0 0, iv 16]) (results_cell_tmp_tmp Tryd.results8 _ _ (w.heap.size + 2) _ _ _ _ rfl Hb8.out Tryd.underlying31 rfl (by rw [List.size_toArray, Array.length_toList]; exact hdi8)) rfl (by
      rw [HRE.out]
      exact ⟨qs, none, 0, rfl, HQ.out, Nat.le_refl _, Nat.zero_le _, Rd.nil _ _, HK3.out.grown Hg8.out HK3.out.size (fun q hq => by injection hq with hq; omega)⟩)
  have d0 : (q.stage == 3) = false := by rw [beq_eq_false_iff_ne]; exact h3
  have HT2 := Lib.hid (HT.out.trans (if_neg h3))
  clear h3 HT
  go_wp2_with ((with_reducible refine load_arr (w.heap.size + 1) ms (Eq.trans ?_ rfl) HM3.out _ Tryd.underlying50 rfl hmi ?_); rfl)
  refine (FT.out _ HK3.out).mono ?_
  clear FT r0
  rintro e w4 ⟨rfl, k4⟩
  have HBc4 := Lib.hid (HBc3.out.keep k4)
  have HB4 := Lib.hid (HB3.out.keep k4)
  have HM4 : Hid (Blk w4 (w.heap.size + 1) 50 m.cells) := by rw [← HMS.out.l]; exact Lib.hid (HM3.out.keep k4)
  have HR4 := Lib.hid (HR3.out.keep k4)
  have HK4 := Lib.hid (keep_trans HK3.out k4)
  clear k4 HBc3 HB3 HM3 HR3 HK3
  cases b
  · have hR : R = (q.ban, [], 2) := by rw [HT2.out, if_pos rfl]
    have hR0 := hR
    have HRE := Lib.hid hR
    clear hR hR0 HT2
    go_wp2_with ((with_reducible refine load_arr w.heap.size qs (Eq.trans ?_ rfl) HBc4.out _ Tryd.underlying31 rfl hqi ?_); rfl)
    refine (banned_any _ qs HQ.out _).mono ?_
    rintro e w5 ⟨bs, rfl, hbA, k5⟩
    have hbn := hbA.n; have hbz := hbA.z; have hbi := hbA.i
    have HBA := Lib.hid hbA
    have HK5 := Lib.hid (keep_trans HK4.out k5)
    obtain ⟨w8, hst8, hb8, hg8⟩ := run_store_blk (P := Tryd.prog) bs.toList (HR4.out.keep k5) (by rw [Array.length_toList, Array.length_toList, hzz, hbz]) hbA.o
    have Hb8 := Lib.hid hb8; have Hg8 := Lib.hid hg8
    clear hb8 hg8 hbA k5
    go_wp2
    exact bodyPost_ret (v := .tuple #[.agg bs, .slice none 0 0, iv 2]) (results_cell_tmp_tmp Tryd.results8 _ _ (w.heap.size + 2) _ _ _ _ rfl Hb8.out Tryd.underlying31 rfl (by rw [List.size_toArray, Array.length_toList]; exact hbi)) rfl (by
      rw [HRE.out]
      exact ⟨bs, none, 0, rfl, HBA.out, Nat.le_refl _, Nat.zero_le _, Rd.nil _ _, HK5.out.grown Hg8.out HK5.out.size (fun q hq => by injection hq with hq; omega)⟩)
  have HT := Lib.hid (HT2.out.trans (if_neg (by decide)))
  clear HT2
  have r0 : w4.cell? ⟨w.heap.size, 0, none⟩ = some (iv q.stage) := (HB4.out.cell 0).trans rfl
  have m0 : w4.cell? ⟨w.heap.size + 1, 0, none⟩ = some (iv m.kind) := (HM4.out.cell 0).trans rfl
  have hgd := ev_guard
  by_cases c1 : q.stage = 0 ∧ m.kind = 0
  · have hR : R = ({ q with stage := 1, nonce := m.nonce, height := m.height }, [{ msgZ 0 with proto := 70015, nonce := m.nonce }, msgZ 1], 0) := HT.out.trans (if_pos c1)
    have he1 : ∀ w, (Go.binOp .eql 89 (.agg #[iv q.stage, iv m.kind]) (.agg #[iv 0, iv 0])).run Tryd.prog w = .ok (.bool true) w := fun w => by rw [event_eq, ev_t c1]
    have hi1 : ∀ w, (Op.equalIn 10000 89 (.agg #[iv q.stage, iv m.kind]) (.agg #[iv 0, iv 0])).run Tryd.prog w = .ok true w := fun w => by rw [ev_in, ev_t c1]
    have HC := Lib.hid c1
    clear c1 HT
    have m2 : w4.cell? ⟨w.heap.size + 1, 2, none⟩ = some (u64v m.nonce) := (HM4.out.cell 2).trans rfl
    have m3 : w4.cell? ⟨w.heap.size + 1, 3, none⟩ = some (u32v m.height) := (HM4.out.cell 3).trans rfl
    have HRE := Lib.hid hR
    clear hR
    go_upto_region 8 with fail
    letI iM : G.Mk := ⟨some w.heap.size⟩
    refine G.wp_region_tree (.take [0,1,2,3,4] (.force [5] (.take [6] (.force [7] (.take [8] (.force [9] .done)))))) [] (by kernel_rfl) (by kernel_rfl) (fun wa ka => ?_)
    have hneG : G.Mk.m ≠ some (w.heap.size + 1) := fun q => by have e : w.heap.size = w.heap.size + 1 := Option.some.inj q; omega
    have HBa := Lib.hid (HB4.out.keep ka); have HMa := Lib.hid (HM4.out.keep ka); have HRa := Lib.hid (HR4.out.keep ka); have HKa := Lib.hid (keep_trans HK4.out ka)
    have b2 := G.aftG_cell (keep_cell ka m2) hneG
    have b3 := G.aftG_cell (keep_cell ka m3) hneG
    clear ka HB4 HM4 HR4 HK4 HBc4 m2 m3 m0 r0 hgd he1 hi1
    refine G.mt_take wa (G.Gr.refl _) ?_
    simp only [pick_cons, pick_nil, nth_zero, nth_succ]
    repeat (go_big_quiet_step (fail))
    refine wpQuiet_nil (G.mt_force ?_)
    clear b2 b3 hneG
    simp only [pick_cons, pick_nil, nth_zero, nth_succ]
    refine G.fc_step rfl (fun K hK => ?_)
    obtain ⟨v0, z0⟩ : ∃ v, wa.cell? ⟨w.heap.size, 0, none⟩ = some v := ⟨_, (HBa.out.cell 0).trans rfl⟩
    have y0 := HBa.out.frozen 0
    go_simp
    refine hK _ _ (show G.Gr wa _ from grown_set (grown_refl wa _)) ?_
    clear hK K z0 y0
    obtain ⟨wb0, hwb⟩ : ∃ wb, wb = wa.setCell ⟨w.heap.size, 0, none⟩ (.int .i64 1) := ⟨_, rfl⟩
    have HBb0 : Hid (Blk wb0 w.heap.size 31 (PeR.cells { q with stage := 1 })) := by
      rw [hwb]
      have q := HBa.out.set_ 0 (.int .i64 1)
      exact Lib.hid q
    have HMb0 : Hid (Blk wb0 (w.heap.size + 1) 50 m.cells) := by rw [hwb]; exact Lib.hid (HMa.out.far (by simp) _)
    have HRb0 : Hid (Blk wb0 (w.heap.size + 2) 31 zs.toList) := by rw [hwb]; exact Lib.hid (HRa.out.far (by simp) _)
    have HKb0 : Hid (Keep w wb0) := by rw [hwb]; exact Lib.hid (Below.setCell HKa.out (by simp) _)
    rw [← hwb]
    clear hwb HBa HMa HRa HKa
    refine G.fc_nil (G.mt_take _ (G.Gr.refl _) ?_)
    simp only [pick_cons, pick_nil, nth_zero, nth_succ]
    repeat (go_big_quiet_step (fail))
    refine wpQuiet_nil (G.mt_force ?_)
    simp only [pick_cons, pick_nil, nth_zero, nth_succ]
    refine G.fc_step rfl (fun K hK => ?_)
    obtain ⟨v0, z0⟩ : ∃ v, wb0.cell? ⟨w.heap.size, 1, none⟩ = some v := ⟨_, (HBb0.out.cell 1).trans rfl⟩
    have y0 := HBb0.out.frozen 1
    go_simp
    refine hK _ _ (show G.Gr wb0 _ from grown_set (grown_refl wb0 _)) ?_
    clear hK K z0 y0
    obtain ⟨wb1, hwb⟩ : ∃ wb, wb = wb0.setCell ⟨w.heap.size, 1, none⟩ (u64v m.nonce) := ⟨_, rfl⟩
    have HBb1 : Hid (Blk wb1 w.heap.size 31 (PeR.cells { q with stage := 1, nonce := m.nonce })) := by
      rw [hwb]
      have q := HBb0.out.set_ 1 (u64v m.nonce)
      exact Lib.hid q
    have HMb1 : Hid (Blk wb1 (w.heap.size + 1) 50 m.cells) := by rw [hwb]; exact Lib.hid (HMb0.out.far (by simp) _)
    have HRb1 : Hid (Blk wb1 (w.heap.size + 2) 31 zs.toList) := by rw [hwb]; exact Lib.hid (HRb0.out.far (by simp) _)
    have HKb1 : Hid (Keep w wb1) := by rw [hwb]; exact Lib.hid (Below.setCell HKb0.out (by simp) _)
    rw [← hwb]
    clear hwb HBb0 HMb0 HRb0 HKb0
    refine G.fc_nil (G.mt_take _ (G.Gr.refl _) ?_)
    simp only [pick_cons, pick_nil, nth_zero, nth_succ]
    repeat (go_big_quiet_step (fail))
    refine wpQuiet_nil (G.mt_force ?_)
    simp only [pick_cons, pick_nil, nth_zero, nth_succ]
    refine G.fc_step rfl (fun K hK => ?_)
    obtain ⟨v0, z0⟩ : ∃ v, wb1.cell? ⟨w.heap.size, 2, none⟩ = some v := ⟨_, (HBb1.out.cell 2).trans rfl⟩
    have y0 := HBb1.out.frozen 2
    go_simp
    refine hK _ _ (show G.Gr wb1 _ from grown_set (grown_refl wb1 _)) ?_
    clear hK K z0 y0
    obtain ⟨wb2, hwb⟩ : ∃ wb, wb = wb1.setCell ⟨w.heap.size, 2, none⟩ (u32v m.height) := ⟨_, rfl⟩
    have HBb2 : Hid (Blk wb2 w.heap.size 31 (PeR.cells { q with stage := 1, nonce := m.nonce, height := m.height })) := by
      rw [hwb]
      have q := HBb1.out.set_ 2 (u32v m.height)
      exact Lib.hid q
    have HMb2 : Hid (Blk wb2 (w.heap.size + 1) 50 m.cells) := by rw [hwb]; exact Lib.hid (HMb1.out.far (by simp) _)
    have HRb2 : Hid (Blk wb2 (w.heap.size + 2) 31 zs.toList) := by rw [hwb]; exact Lib.hid (HRb1.out.far (by simp) _)
    have HKb2 : Hid (Keep w wb2) := by rw [hwb]; exact Lib.hid (Below.setCell HKb1.out (by simp) _)
    rw [← hwb]
    clear hwb HBb1 HMb1 HRb1 HKb1
    refine G.fc_nil (G.mt_end ?_)
    clear iM
    obtain ⟨ds, hds⟩ : ∃ ds, PeA { q with stage := 1, nonce := m.nonce, height := m.height } ds := ⟨_, PeA.of _⟩
    have HDS := Lib.hid hds
    have HBx : Hid (Blk wb2 w.heap.size 31 ds.toList) := by rw [HDS.out.l]; exact HBb2
    clear hds HBb2
    have m2 : wb2.cell? ⟨w.heap.size + 1, 2, none⟩ = some (u64v m.nonce) := (HMb2.out.cell 2).trans rfl
    obtain ⟨ys, hyz, hyA⟩ := zmsg_letter
    obtain ⟨ks, hks, hbu⟩ := hello_built m.nonce HNN.out
    obtain ⟨vs, hvs, hbv⟩ : ∃ vs, MsA (msgZ 1) vs ∧ Tryd.prog.built 50 [(0, .int .i64 1)] = some vs := ⟨_, MsA.of (msgZ_ok 1 (by omega)), by kernel_rfl⟩
    have hyn := hyA.n; have hkn := hks.n; have hkz := hks.z; have hyzz := hyA.z; have hki := hks.i; have hvz := hvs.z
    have HKS := Lib.hid hks; have HVS := Lib.hid hvs; have HBu := Lib.hid hbu; have HBv := Lib.hid hbv
    have hst : (storeCells ⟨wb2.heap.size, 0, none⟩ ks.toList 0).run Tryd.prog (wb2.alloc (.cells ys 50)) = .ok () (wb2.alloc (.cells ks 50)) := run_storeCells_new (P := Tryd.prog) wb2 50 ys ks HKS.out.i (hyA.z.trans hkz.symm) (by have := all_oneCell_toArray HKS.out.o; simpa using this)
    clear hks hvs hbu hbv hyA
    go_upto_region 10 with ((with_reducible refine list_bldg [(0, .int .i64 0), (1, .int .u32 70015), (2, u64v m.nonce)] ks (Eq.trans ?_ rfl) HBu.out (Eq.trans ?_ rfl) ?_); rfl; rfl)
    obtain ⟨w5, hw5⟩ : ∃ w5, w5 = wb2.alloc (.cells ks 50) := ⟨_, rfl⟩
    have HH5 : Hid (Blk w5 wb2.heap.size 50 ks.toList) := by rw [hw5]; exact Lib.hid (Blk.new wb2 _ ks.toList)
    have HB5 : Hid (Blk w5 w.heap.size 31 ds.toList) := by rw [hw5]; exact Lib.hid (HBx.out.alloc _)
    have HR5 : Hid (Blk w5 (w.heap.size + 2) 31 zs.toList) := by rw [hw5]; exact Lib.hid (HRb2.out.alloc _)
    have HK5 : Hid (Keep w w5) := by rw [hw5]; exact Lib.hid (keep_trans HKb2.out (keep_new _ _))
    rw [← hw5]
    have hl2 := HRb2.out.lt
    clear hw5 hst HBx HRb2 HKb2 HMb2 m2
    generalize wb2.heap.size = hn at *
    letI iM : G.Mk := ⟨some (w.heap.size + 2)⟩
    refine G.wp_region_tree (.take [0,1,2] (.fork 3 (.force [4] (.take [5,6] .done)) 4 (.force [3] (.take [5,6] .done)))) [] (by kernel_rfl) (by kernel_rfl) (fun wa ka => ?_)
    have hne0 : G.Mk.m ≠ some w.heap.size := fun q => by have e : w.heap.size + 2 = w.heap.size := Option.some.inj q; omega
    have hne1 : G.Mk.m ≠ some hn := fun q => by have e : w.heap.size + 2 = hn := Option.some.inj q; omega
    have HBa := Lib.hid (HB5.out.keep ka); have HHa := Lib.hid (HH5.out.keep ka); have HRa := Lib.hid (HR5.out.keep ka); have HKa := Lib.hid (keep_trans HK5.out ka)
    have hdi := HDS.out.i
    have b2 := hdi
    clear ka HB5 HR5 HK5 HH5
    refine G.mt_take wa (G.Gr.refl _) ?_
    simp only [pick_cons, pick_nil, nth_zero, nth_succ]
    repeat (first
      | ((with_reducible refine G.wpQuiet_load_arrG w.heap.size ds (Eq.trans ?_ rfl) HBa.out hne0 _ Tryd.underlying31 rfl hdi ?_); rfl; simp only [Act.put, Array.set!_eq_setIfInBounds, List.setIfInBounds_toArray, List.set_cons_succ, List.set_cons_zero])
      | ((with_reducible refine G.wpQuiet_load_arrG hn ks (Eq.trans ?_ rfl) HHa.out hne1 _ Tryd.underlying50 rfl hki ?_); rfl; simp only [Act.put, Array.set!_eq_setIfInBounds, List.setIfInBounds_toArray, List.set_cons_succ, List.set_cons_zero])
      | ((with_reducible refine wpQuiet_buildm [(0, .int .i64 1)] vs (Eq.trans ?_ rfl) HBv.out ?_); rfl; simp only [Act.put, Array.set!_eq_setIfInBounds, List.setIfInBounds_toArray, List.set_cons_succ, List.set_cons_zero])
      | go_big_quiet_step (fail))
    refine wpQuiet_nil (G.mt_fork ?_ ?_)
    · simp only [pick_cons, pick_nil, nth_zero, nth_succ]
      refine G.fc_step rfl (fun K hK => ?_)
      refine wp_build2b msgsT _ _ (by rfl) ks vs hkz hvz (by omega) (by rfl) (by rfl) ?_
      refine hK _ _ (G.Gr.of_keep (keep_new _ _)) ?_
      clear hK K
      obtain ⟨wb, hwb⟩ : ∃ wb, wb = wa.alloc (.cells (ks.toList ++ vs.toList).toArray 50) := ⟨_, rfl⟩
      have HRb : Hid (Blk wb (w.heap.size + 2) 31 zs.toList) := by rw [hwb]; exact Lib.hid (HRa.out.alloc _)
      have HNb : Hid (Blk wb wa.heap.size 50 (ks.toList ++ vs.toList)) := by rw [hwb]; exact Lib.hid (Blk.new wa _ ((ks.toList ++ vs.toList)))
      have HKb : Hid (Keep w wb) := by rw [hwb]; exact Lib.hid (keep_trans HKa.out (keep_new _ _))
      have hlt := HRa.out.lt
      have HdI := HDS.out.i
      rw [← hwb]
      clear hwb b2 hne0 hne1 HBa HRa HKa
      obtain ⟨w8, hst8, hb8, hg8⟩ := run_store_blk (P := Tryd.prog) ds.toList HRb.out (by rw [Array.length_toList, Array.length_toList, hzz, HDS.out.z]) HDS.out.o
      have HZ8 := Lib.hid hb8
      have HN8 : Hid (Blk w8 wa.heap.size 50 (ks.toList ++ vs.toList)) := Lib.hid (HNb.out.grown hg8 (fun e => by injection e with e; omega))
      have HK8 : Hid (Keep w w8) := Lib.hid (HKb.out.grown hg8 HKb.out.size (fun q hq => by injection hq with hq; omega))
      clear hb8 HRb HNb HKb
      refine G.fc_nil (G.mt_force ?_)
      simp only [pick_cons, pick_nil, nth_zero, nth_succ]
      refine G.fc_step rfl (fun K hK => ?_)
      have hAz := HDS.out.z; have hAn := HDS.out.n
      go_simp
      refine hK _ _ (show G.Gr wb w8 from hg8) ?_
      clear hK K hst8 hg8
      refine G.fc_nil (G.mt_take _ (G.Gr.refl _) ?_)
      simp only [pick_cons, pick_nil, nth_zero, nth_succ]
      repeat (go_big_quiet_step (fail))
      refine wpQuiet_nil (G.mt_end ?_)
      clear iM
      go_wp2
      exact bodyPost_ret (v := .tuple #[.agg ds, .slice (some ⟨wa.heap.size, 0, none⟩) 2 2, iv 0]) (results_cell_tmp_tmp Tryd.results8 _ _ (w.heap.size + 2) _ _ _ _ rfl HZ8.out Tryd.underlying31 rfl (by rw [List.size_toArray, Array.length_toList]; exact HdI)) rfl (by
        rw [HRE.out]
        exact ⟨ds, _, 2, rfl, HDS.out, Nat.le_refl _, by omega, by have q := HN8.out.rd; rw [HKS.out.l, HVS.out.l] at q; simpa using q, HK8.out⟩)
    · simp only [pick_cons, pick_nil, nth_zero, nth_succ]
      have hlt := HRa.out.lt
      have HdI := HDS.out.i
      obtain ⟨w7, hst8, hb7, hg8⟩ := run_store_blk (P := Tryd.prog) ds.toList HRa.out (by rw [Array.length_toList, Array.length_toList, hzz, HDS.out.z]) HDS.out.o
      have HZ7 := Lib.hid hb7
      have HK7 : Hid (Keep w w7) := Lib.hid (HKa.out.grown hg8 HKa.out.size (fun q hq => by injection hq with hq; omega))
      clear hb7 b2 hne0 hne1
      refine G.fc_step rfl (fun K hK => ?_)
      have hAz := HDS.out.z; have hAn := HDS.out.n
      go_simp
      refine hK _ _ (show G.Gr wa w7 from hg8) ?_
      clear hK K hst8 hg8 HBa HRa HKa
      refine G.fc_nil (G.mt_force ?_)
      simp only [pick_cons, pick_nil, nth_zero, nth_succ]
      refine G.fc_step rfl (fun K hK => ?_)
      refine wp_build2b msgsT _ _ (by rfl) ks vs hkz hvz (by omega) (by rfl) (by rfl) ?_
      refine hK _ _ (G.Gr.of_keep (keep_new _ _)) ?_
      clear hK K
      obtain ⟨w8, hwb⟩ : ∃ wb, wb = w7.alloc (.cells (ks.toList ++ vs.toList).toArray 50) := ⟨_, rfl⟩
      have HZ8 : Hid (Blk w8 (w.heap.size + 2) 31 ds.toList) := by rw [hwb]; exact Lib.hid (HZ7.out.alloc _)
      have HN8 : Hid (Blk w8 w7.heap.size 50 (ks.toList ++ vs.toList)) := by rw [hwb]; exact Lib.hid (Blk.new w7 _ ((ks.toList ++ vs.toList)))
      have HK8 : Hid (Keep w w8) := by rw [hwb]; exact Lib.hid (keep_trans HK7.out (keep_new _ _))
      rw [← hwb]
      clear hwb HZ7 HK7
      simp only [Act.put, Array.set!_eq_setIfInBounds, List.setIfInBounds_toArray, List.set_cons_succ, List.set_cons_zero]
      refine G.fc_nil (G.mt_take _ (G.Gr.refl _) ?_)
      simp only [pick_cons, pick_nil, nth_zero, nth_succ]
      repeat (go_big_quiet_step (fail))
      refine wpQuiet_nil (G.mt_end ?_)
      clear iM
      go_wp2
      exact bodyPost_ret (v := .tuple #[.agg ds, .slice (some ⟨w7.heap.size, 0, none⟩) 2 2, iv 0]) (results_cell_tmp_tmp Tryd.results8 _ _ (w.heap.size + 2) _ _ _ _ rfl HZ8.out Tryd.underlying31 rfl (by rw [List.size_toArray, Array.length_toList]; exact HdI)) rfl (by
        rw [HRE.out]
        exact ⟨ds, _, 2, rfl, HDS.out, Nat.le_refl _, by omega, by have q := HN8.out.rd; rw [HKS.out.l, HVS.out.l] at q; simpa using q, HK8.out⟩)
  have he1 : ∀ w, (Go.binOp .eql 89 (.agg #[iv q.stage, iv m.kind]) (.agg #[iv 0, iv 0])).run Tryd.prog w = .ok (.bool false) w := fun w => by rw [event_eq, ev_f c1]
  have hi1 : ∀ w, (Op.equalIn 10000 89 (.agg #[iv q.stage, iv m.kind]) (.agg #[iv 0, iv 0])).run Tryd.prog w = .ok false w := fun w => by rw [ev_in, ev_f c1]
  have HT1 := Lib.hid (HT.out.trans (if_neg c1))
  clear HT c1
  by_cases c2 : q.stage = 1 ∧ m.kind = 1
  · have hR : R = ({ q with stage := 2 }, [], 0) := HT1.out.trans (if_pos c2)
    have he2 : ∀ w, (Go.binOp .eql 89 (.agg #[iv q.stage, iv m.kind]) (.agg #[iv 1, iv 1])).run Tryd.prog w = .ok (.bool true) w := fun w => by rw [event_eq, ev_t c2]
    have hi2 : ∀ w, (Op.equalIn 10000 89 (.agg #[iv q.stage, iv m.kind]) (.agg #[iv 1, iv 1])).run Tryd.prog w = .ok true w := fun w => by rw [ev_in, ev_t c2]
    have HRE := Lib.hid hR
    have f0 := HB4.out.frozen 0
    clear c2 HT1 hR
    go_upto_region 13 with fail
    obtain ⟨wx, hwx⟩ : ∃ wx, wx = (w4.setCell ⟨w.heap.size, 0, none⟩ (.int .i64 2)) := ⟨_, rfl⟩
    have HX : Blk wx w.heap.size 31 ({ q with stage := 2 }).cells := by rw [hwx]; exact (HB4.out.set_ 0 (.int .i64 2))
    have HRX : Hid (Blk wx (w.heap.size + 2) 31 zs.toList) := by rw [hwx]; exact Lib.hid (HR4.out.far (by simp <;> omega) _)
    have HKX : Hid (Keep w wx) := by rw [hwx]; exact Lib.hid (Below.setCell HK4.out (by simp <;> omega) _)
    rw [← hwx]
    clear hwx
    obtain ⟨ds, hds⟩ : ∃ ds, PeA ({ q with stage := 2 }) ds := ⟨_, PeA.of _⟩
    have HDS := Lib.hid hds
    have HBx : Hid (Blk wx w.heap.size 31 ds.toList) := by rw [HDS.out.l]; exact Lib.hid HX
    clear hds HX HR4 HK4 HB4 HBc4
    obtain ⟨w8, hst8, hb8, hg8⟩ := run_store_blk (P := Tryd.prog) ds.toList HRX.out (by rw [Array.length_toList, Array.length_toList, hzz, HDS.out.z]) HDS.out.o
    have Hb8 := Lib.hid hb8; have Hg8 := Lib.hid hg8
    have hdi8 := HDS.out.i
    have hdn8 := HDS.out.n
    have hdz8 := HDS.out.z
    clear hb8 hg8
    go_wp2_with ((with_reducible refine load_arr w.heap.size ds (Eq.trans ?_ rfl) HBx.out _ Tryd.underlying31 rfl hdi8 ?_); rfl)
    exact bodyPost_ret (v := .tuple #[.agg ds, .slice none 0 0, iv 0]) (results_cell_tmp_tmp Tryd.results8 _ _ (w.heap.size + 2) _ _ _ _ rfl Hb8.out Tryd.underlying31 rfl (by rw [List.size_toArray, Array.length_toList]; exact hdi8)) rfl (by
      rw [HRE.out]
      exact ⟨ds, none, 0, rfl, HDS.out, Nat.le_refl _, Nat.zero_le _, Rd.nil _ _, HKX.out.grown Hg8.out HKX.out.size (fun q hq => by injection hq with hq; omega)⟩)
  have he2 : ∀ w, (Go.binOp .eql 89 (.agg #[iv q.stage, iv m.kind]) (.agg #[iv 1, iv 1])).run Tryd.prog w = .ok (.bool false) w := fun w => by rw [event_eq, ev_f c2]
  have hi2 : ∀ w, (Op.equalIn 10000 89 (.agg #[iv q.stage, iv m.kind]) (.agg #[iv 1, iv 1])).run Tryd.prog w = .ok false w := fun w => by rw [ev_in, ev_f c2]
  have HT2 := Lib.hid (HT1.out.trans (if_neg c2))
  clear HT1 c2
  by_cases c3 : q.stage = 2 ∧ m.kind = 2
  · have hR : R = (q, [{ msgZ 3 with nonce := m.nonce }], 0) := HT2.out.trans (if_pos c3)
    have he3 : ∀ w, (Go.binOp .eql 89 (.agg #[iv q.stage, iv m.kind]) (.agg #[iv 2, iv 2])).run Tryd.prog w = .ok (.bool true) w := fun w => by rw [event_eq, ev_t c3]
    have hi3 : ∀ w, (Op.equalIn 10000 89 (.agg #[iv q.stage, iv m.kind]) (.agg #[iv 2, iv 2])).run Tryd.prog w = .ok true w := fun w => by rw [ev_in, ev_t c3]
    clear c3 HT2
    have HRE := Lib.hid hR
    have m2 : w4.cell? ⟨w.heap.size + 1, 2, none⟩ = some (u64v m.nonce) := (HM4.out.cell 2).trans rfl
    obtain ⟨ks, hks, hbu⟩ := pong_built m.nonce HNN.out
    have hkz := hks.z; have hkn := hks.n; have hki := hks.i
    have HKS := Lib.hid hks; have HBu := Lib.hid hbu
    clear hR hks hbu
    go_upto_region 15 with fail
    letI iM : G.Mk := ⟨some (w.heap.size + 2)⟩
    refine G.wp_region_tree (.take [0,1,2,3] (.fork 4 (.force [5] (.take [6,7] .done)) 5 (.force [4] (.take [6,7] .done)))) [] (by kernel_rfl) (by kernel_rfl) (fun wa ka => ?_)
    have hne0 : G.Mk.m ≠ some w.heap.size := fun q => by have e : w.heap.size + 2 = w.heap.size := Option.some.inj q; omega
    have hne1 : G.Mk.m ≠ some (w.heap.size + 1) := fun q => by have e : w.heap.size + 2 = w.heap.size + 1 := Option.some.inj q; omega
    have HBa := Lib.hid (HBc4.out.keep ka); have HRa := Lib.hid (HR4.out.keep ka); have HKa := Lib.hid (keep_trans HK4.out ka)
    have b2 := G.aftG_cell (keep_cell ka m2) hne1
    have RGa : Hid (wa.rangeAt w.heap.size 0 qs.toList) := Lib.hid (range_of HBa.out 0 qs.toList (by simp [List.take_of_length_le]))
    clear ka HB4 HM4 HR4 HK4 HBc4 m2 m0 r0 hgd he1 hi1 he2 hi2 he3 hi3 hne1
    refine G.mt_take wa (G.Gr.refl _) ?_
    simp only [pick_cons, pick_nil, nth_zero, nth_succ]
    repeat (first
      | ((with_reducible refine G.wpQuiet_load_arrG w.heap.size qs (Eq.trans ?_ rfl) HBa.out hne0 _ Tryd.underlying31 rfl hqi ?_); rfl; simp only [Act.put, Array.set!_eq_setIfInBounds, List.setIfInBounds_toArray, List.set_cons_succ, List.set_cons_zero])
      | ((with_reducible refine wpQuiet_buildm [(0, .int .i64 3), (2, u64v m.nonce)] ks (Eq.trans ?_ rfl) HBu.out ?_); rfl; simp only [Act.put, Array.set!_eq_setIfInBounds, List.setIfInBounds_toArray, List.set_cons_succ, List.set_cons_zero])
      | go_big_quiet_step (fail))
    refine wpQuiet_nil (G.mt_fork ?_ ?_)
    · simp only [pick_cons, pick_nil, nth_zero, nth_succ]
      refine G.fc_step rfl (fun K hK => ?_)
      refine wp_build1b msgsT _ (by rfl) ks hkz (by omega) (by rfl) ?_
      refine hK _ _ (G.Gr.of_keep (keep_new _ _)) ?_
      clear hK K
      obtain ⟨wb, hwb⟩ : ∃ wb, wb = wa.alloc (.cells ks 50) := ⟨_, rfl⟩
      have HRb : Hid (Blk wb (w.heap.size + 2) 31 zs.toList) := by rw [hwb]; exact Lib.hid (HRa.out.alloc _)
      have HNb : Hid (Blk wb wa.heap.size 50 ks.toList) := by rw [hwb]; exact Lib.hid (Blk.new wa _ (ks.toList))
      have HKb : Hid (Keep w wb) := by rw [hwb]; exact Lib.hid (keep_trans HKa.out (keep_new _ _))
      have hlt := HRa.out.lt
      have HdI := HQ.out.i
      rw [← hwb]
      clear hwb b2 hne0 RGa HBa HRa HKa
      obtain ⟨w8, hst8, hb8, hg8⟩ := run_store_blk (P := Tryd.prog) qs.toList HRb.out (by rw [Array.length_toList, Array.length_toList, hzz, HQ.out.z]) HQ.out.o
      have HZ8 := Lib.hid hb8
      have HN8 : Hid (Blk w8 wa.heap.size 50 ks.toList) := Lib.hid (HNb.out.grown hg8 (fun e => by injection e with e; omega))
      have HK8 : Hid (Keep w w8) := Lib.hid (HKb.out.grown hg8 HKb.out.size (fun q hq => by injection hq with hq; omega))
      clear hb8 HRb HNb HKb
      refine G.fc_nil (G.mt_force ?_)
      simp only [pick_cons, pick_nil, nth_zero, nth_succ]
      refine G.fc_step rfl (fun K hK => ?_)
      have hAz := HQ.out.z; have hAn := HQ.out.n
      go_simp
      refine hK _ _ (show G.Gr wb w8 from hg8) ?_
      clear hK K hst8 hg8
      refine G.fc_nil (G.mt_take _ (G.Gr.refl _) ?_)
      simp only [pick_cons, pick_nil, nth_zero, nth_succ]
      repeat (go_big_quiet_step (fail))
      refine wpQuiet_nil (G.mt_end ?_)
      clear iM
      go_wp2
      exact bodyPost_ret (v := .tuple #[.agg qs, .slice (some ⟨wa.heap.size, 0, none⟩) 1 1, iv 0]) (results_cell_tmp_tmp Tryd.results8 _ _ (w.heap.size + 2) _ _ _ _ rfl HZ8.out Tryd.underlying31 rfl (by rw [List.size_toArray, Array.length_toList]; exact HdI)) rfl (by
        rw [HRE.out]
        exact ⟨qs, _, 1, rfl, HQ.out, Nat.le_refl _, by omega, by have q := HN8.out.rd; rw [HKS.out.l] at q; simpa using q, HK8.out⟩)
    · simp only [pick_cons, pick_nil, nth_zero, nth_succ]
      have hlt := HRa.out.lt
      have HdI := HQ.out.i
      obtain ⟨w7, hst8, hb7, hg8⟩ := run_store_blk (P := Tryd.prog) qs.toList HRa.out (by rw [Array.length_toList, Array.length_toList, hzz, HQ.out.z]) HQ.out.o
      have HZ7 := Lib.hid hb7
      have HK7 : Hid (Keep w w7) := Lib.hid (HKa.out.grown hg8 HKa.out.size (fun q hq => by injection hq with hq; omega))
      clear hb7 b2 hne0 RGa
      refine G.fc_step rfl (fun K hK => ?_)
      have hAz := HQ.out.z; have hAn := HQ.out.n
      go_simp
      refine hK _ _ (show G.Gr wa w7 from hg8) ?_
      clear hK K hst8 hg8 HBa HRa HKa
      refine G.fc_nil (G.mt_force ?_)
      simp only [pick_cons, pick_nil, nth_zero, nth_succ]
      refine G.fc_step rfl (fun K hK => ?_)
      refine wp_build1b msgsT _ (by rfl) ks hkz (by omega) (by rfl) ?_
      refine hK _ _ (G.Gr.of_keep (keep_new _ _)) ?_
      clear hK K
      obtain ⟨w8, hwb⟩ : ∃ wb, wb = w7.alloc (.cells ks 50) := ⟨_, rfl⟩
      have HZ8 : Hid (Blk w8 (w.heap.size + 2) 31 qs.toList) := by rw [hwb]; exact Lib.hid (HZ7.out.alloc _)
      have HN8 : Hid (Blk w8 w7.heap.size 50 ks.toList) := by rw [hwb]; exact Lib.hid (Blk.new w7 _ (ks.toList))
      have HK8 : Hid (Keep w w8) := by rw [hwb]; exact Lib.hid (keep_trans HK7.out (keep_new _ _))
      rw [← hwb]
      clear hwb HZ7 HK7
      simp only [Act.put, Array.set!_eq_setIfInBounds, List.setIfInBounds_toArray, List.set_cons_succ, List.set_cons_zero]
      refine G.fc_nil (G.mt_take _ (G.Gr.refl _) ?_)
      simp only [pick_cons, pick_nil, nth_zero, nth_succ]
      repeat (go_big_quiet_step (fail))
      refine wpQuiet_nil (G.mt_end ?_)
      clear iM
      go_wp2
      exact bodyPost_ret (v := .tuple #[.agg qs, .slice (some ⟨w7.heap.size, 0, none⟩) 1 1, iv 0]) (results_cell_tmp_tmp Tryd.results8 _ _ (w.heap.size + 2) _ _ _ _ rfl HZ8.out Tryd.underlying31 rfl (by rw [List.size_toArray, Array.length_toList]; exact HdI)) rfl (by
        rw [HRE.out]
        exact ⟨qs, _, 1, rfl, HQ.out, Nat.le_refl _, by omega, by have q := HN8.out.rd; rw [HKS.out.l] at q; simpa using q, HK8.out⟩)
  have he3 : ∀ w, (Go.binOp .eql 89 (.agg #[iv q.stage, iv m.kind]) (.agg #[iv 2, iv 2])).run Tryd.prog w = .ok (.bool false) w := fun w => by rw [event_eq, ev_f c3]
  have hi3 : ∀ w, (Op.equalIn 10000 89 (.agg #[iv q.stage, iv m.kind]) (.agg #[iv 2, iv 2])).run Tryd.prog w = .ok false w := fun w => by rw [ev_in, ev_f c3]
  have HT3 := Lib.hid (HT2.out.trans (if_neg c3))
  clear HT2 c3
  by_cases c4 : q.stage = 2 ∧ m.kind = 5
  · have hR : R = ({ q with asked := false, misses := 0 }, [], 0) := HT3.out.trans (if_pos c4)
    have he4 : ∀ w, (Go.binOp .eql 89 (.agg #[iv q.stage, iv m.kind]) (.agg #[iv 2, iv 5])).run Tryd.prog w = .ok (.bool true) w := fun w => by rw [event_eq, ev_t c4]
    have hi4 : ∀ w, (Op.equalIn 10000 89 (.agg #[iv q.stage, iv m.kind]) (.agg #[iv 2, iv 5])).run Tryd.prog w = .ok true w := fun w => by rw [ev_in, ev_t c4]
    have HRE := Lib.hid hR
    have f3 := HB4.out.frozen 3
    have f5 := HB4.out.frozen 5
    have r3 : w4.cell? ⟨w.heap.size, 3, none⟩ = some (.bool q.asked) := (HB4.out.cell 3).trans rfl
    have r5 : w4.cell? ⟨w.heap.size, 5, none⟩ = some (iv q.misses) := (HB4.out.cell 5).trans rfl
    clear c4 HT3 hR
    go_upto_region 18 with fail
    obtain ⟨wx, hwx⟩ : ∃ wx, wx = ((w4.setCell ⟨w.heap.size, 3, none⟩ (.bool false)).setCell ⟨w.heap.size, 5, none⟩ (.int .i64 0)) := ⟨_, rfl⟩
    have HX : Blk wx w.heap.size 31 ({ q with asked := false, misses := 0 }).cells := by rw [hwx]; exact ((HB4.out.set_ 3 (.bool false)).set_ 5 (.int .i64 0))
    have HRX : Hid (Blk wx (w.heap.size + 2) 31 zs.toList) := by rw [hwx]; exact Lib.hid ((HR4.out.far (by simp <;> omega) _).far (by simp <;> omega) _)
    have HKX : Hid (Keep w wx) := by rw [hwx]; exact Lib.hid (Below.setCell (Below.setCell HK4.out (by simp <;> omega) _) (by simp <;> omega) _)
    rw [← hwx]
    clear hwx r3 r5 f3 f5
    obtain ⟨ds, hds⟩ : ∃ ds, PeA ({ q with asked := false, misses := 0 }) ds := ⟨_, PeA.of _⟩
    have HDS := Lib.hid hds
    have HBx : Hid (Blk wx w.heap.size 31 ds.toList) := by rw [HDS.out.l]; exact Lib.hid HX
    clear hds HX HR4 HK4 HB4 HBc4
    obtain ⟨w8, hst8, hb8, hg8⟩ := run_store_blk (P := Tryd.prog) ds.toList HRX.out (by rw [Array.length_toList, Array.length_toList, hzz, HDS.out.z]) HDS.out.o
    have Hb8 := Lib.hid hb8; have Hg8 := Lib.hid hg8
    have hdi8 := HDS.out.i
    have hdn8 := HDS.out.n
    have hdz8 := HDS.out.z
    clear hb8 hg8
    go_wp2_with ((with_reducible refine load_arr w.heap.size ds (Eq.trans ?_ rfl) HBx.out _ Tryd.underlying31 rfl hdi8 ?_); rfl)
    exact bodyPost_ret (v := .tuple #[.agg ds, .slice none 0 0, iv 0]) (results_cell_tmp_tmp Tryd.results8 _ _ (w.heap.size + 2) _ _ _ _ rfl Hb8.out Tryd.underlying31 rfl (by rw [List.size_toArray, Array.length_toList]; exact hdi8)) rfl (by
      rw [HRE.out]
      exact ⟨ds, none, 0, rfl, HDS.out, Nat.le_refl _, Nat.zero_le _, Rd.nil _ _, HKX.out.grown Hg8.out HKX.out.size (fun q hq => by injection hq with hq; omega)⟩)
  have he4 : ∀ w, (Go.binOp .eql 89 (.agg #[iv q.stage, iv m.kind]) (.agg #[iv 2, iv 5])).run Tryd.prog w = .ok (.bool false) w := fun w => by rw [event_eq, ev_f c4]
  have hi4 : ∀ w, (Op.equalIn 10000 89 (.agg #[iv q.stage, iv m.kind]) (.agg #[iv 2, iv 5])).run Tryd.prog w = .ok false w := fun w => by rw [ev_in, ev_f c4]
  have HT4 := Lib.hid (HT3.out.trans (if_neg c4))
  clear HT3 c4
  by_cases h5 : q.stage = 2
  · have d5 : (q.stage == 2) = true := by rw [h5]; rfl
    by_cases h6 : m.kind = 0
    · have d6 : (m.kind != 0) = false := by rw [h6]; rfl
      have hR : R = (q.ban, [], 15) := HT4.out.trans (if_neg (fun h => h.2.1 h6))
      clear h5 h6
      have hR0 := hR
      have HRE := Lib.hid hR
      clear hR hR0 HT4
      go_wp2_with ((with_reducible refine load_arr w.heap.size qs (Eq.trans ?_ rfl) HBc4.out _ Tryd.underlying31 rfl hqi ?_); rfl)
      refine (banned_any _ qs HQ.out _).mono ?_
      rintro e w5 ⟨bs, rfl, hbA, k5⟩
      have hbn := hbA.n; have hbz := hbA.z; have hbi := hbA.i
      have HBA := Lib.hid hbA
      have HK5 := Lib.hid (keep_trans HK4.out k5)
      obtain ⟨w8, hst8, hb8, hg8⟩ := run_store_blk (P := Tryd.prog) bs.toList (HR4.out.keep k5) (by rw [Array.length_toList, Array.length_toList, hzz, hbz]) hbA.o
      have Hb8 := Lib.hid hb8; have Hg8 := Lib.hid hg8
      clear hb8 hg8 hbA k5
      go_wp2
      exact bodyPost_ret (v := .tuple #[.agg bs, .slice none 0 0, iv 15]) (results_cell_tmp_tmp Tryd.results8 _ _ (w.heap.size + 2) _ _ _ _ rfl Hb8.out Tryd.underlying31 rfl (by rw [List.size_toArray, Array.length_toList]; exact hbi)) rfl (by
        rw [HRE.out]
        exact ⟨bs, none, 0, rfl, HBA.out, Nat.le_refl _, Nat.zero_le _, Rd.nil _ _, HK5.out.grown Hg8.out HK5.out.size (fun q hq => by injection hq with hq; omega)⟩)
    · have d6 : (m.kind != 0) = true := by simpa [bne_iff_ne] using h6
      by_cases h7 : m.kind = 1
      · have d7 : (m.kind != 1) = false := by rw [h7]; rfl
        have hR : R = (q.ban, [], 15) := HT4.out.trans (if_neg (fun h => h.2.2 h7))
        clear h5 h6 h7
        have hR0 := hR
        have HRE := Lib.hid hR
        clear hR hR0 HT4
        go_wp2_with ((with_reducible refine load_arr w.heap.size qs (Eq.trans ?_ rfl) HBc4.out _ Tryd.underlying31 rfl hqi ?_); rfl)
        refine (banned_any _ qs HQ.out _).mono ?_
        rintro e w5 ⟨bs, rfl, hbA, k5⟩
        have hbn := hbA.n; have hbz := hbA.z; have hbi := hbA.i
        have HBA := Lib.hid hbA
        have HK5 := Lib.hid (keep_trans HK4.out k5)
        obtain ⟨w8, hst8, hb8, hg8⟩ := run_store_blk (P := Tryd.prog) bs.toList (HR4.out.keep k5) (by rw [Array.length_toList, Array.length_toList, hzz, hbz]) hbA.o
        have Hb8 := Lib.hid hb8; have Hg8 := Lib.hid hg8
        clear hb8 hg8 hbA k5
        go_wp2
        exact bodyPost_ret (v := .tuple #[.agg bs, .slice none 0 0, iv 15]) (results_cell_tmp_tmp Tryd.results8 _ _ (w.heap.size + 2) _ _ _ _ rfl Hb8.out Tryd.underlying31 rfl (by rw [List.size_toArray, Array.length_toList]; exact hbi)) rfl (by
          rw [HRE.out]
          exact ⟨bs, none, 0, rfl, HBA.out, Nat.le_refl _, Nat.zero_le _, Rd.nil _ _, HK5.out.grown Hg8.out HK5.out.size (fun q hq => by injection hq with hq; omega)⟩)
      · have d7 : (m.kind != 1) = true := by simpa [bne_iff_ne] using h7
        have hR : R = (q, [], 0) := HT4.out.trans (if_pos ⟨h5, h6, h7⟩)
        clear h5 h6 h7
        obtain ⟨w8, hst8, hb8, hg8⟩ := run_store_blk (P := Tryd.prog) qs.toList HR4.out (by rw [Array.length_toList, Array.length_toList, hzz, HQ.out.z]) HQ.out.o
        have Hb8 := Lib.hid hb8; have Hg8 := Lib.hid hg8
        have hdi8 := HQ.out.i
        have hdn8 := HQ.out.n
        have hdz8 := HQ.out.z
        have HRE := Lib.hid hR
        clear hb8 hg8 hR HT4
        go_wp2_with ((with_reducible refine load_arr w.heap.size qs (Eq.trans ?_ rfl) HBc4.out _ Tryd.underlying31 rfl hdi8 ?_); rfl)
        exact bodyPost_ret (v := .tuple #[.agg qs, .slice none 0 0, iv 0]) (results_cell_tmp_tmp Tryd.results8 _ _ (w.heap.size + 2) _ _ _ _ rfl Hb8.out Tryd.underlying31 rfl (by rw [List.size_toArray, Array.length_toList]; exact hdi8)) rfl (by
          rw [HRE.out]
          exact ⟨qs, none, 0, rfl, HQ.out, Nat.le_refl _, Nat.zero_le _, Rd.nil _ _, HK4.out.grown Hg8.out HK4.out.size (fun q hq => by injection hq with hq; omega)⟩)
  · have d5 : (q.stage == 2) = false := by rw [beq_eq_false_iff_ne]; exact h5
    have hR : R = (q.ban, [], 15) := HT4.out.trans (if_neg (fun h => h5 h.1))
    clear h5
    have hR0 := hR
    have HRE := Lib.hid hR
    clear hR hR0 HT4
    go_wp2_with ((with_reducible refine load_arr w.heap.size qs (Eq.trans ?_ rfl) HBc4.out _ Tryd.underlying31 rfl hqi ?_); rfl)
    refine (banned_any _ qs HQ.out _).mono ?_
    rintro e w5 ⟨bs, rfl, hbA, k5⟩
    have hbn := hbA.n; have hbz := hbA.z; have hbi := hbA.i
    have HBA := Lib.hid hbA
    have HK5 := Lib.hid (keep_trans HK4.out k5)
    obtain ⟨w8, hst8, hb8, hg8⟩ := run_store_blk (P := Tryd.prog) bs.toList (HR4.out.keep k5) (by rw [Array.length_toList, Array.length_toList, hzz, hbz]) hbA.o
    have Hb8 := Lib.hid hb8; have Hg8 := Lib.hid hg8
    clear hb8 hg8 hbA k5
    go_wp2
    exact bodyPost_ret (v := .tuple #[.agg bs, .slice none 0 0, iv 15]) (results_cell_tmp_tmp Tryd.results8 _ _ (w.heap.size + 2) _ _ _ _ rfl Hb8.out Tryd.underlying31 rfl (by rw [List.size_toArray, Array.length_toList]; exact hbi)) rfl (by
      rw [HRE.out]
      exact ⟨bs, none, 0, rfl, HBA.out, Nat.le_refl _, Nat.zero_le _, Rd.nil _ _, HK5.out.grown Hg8.out HK5.out.size (fun q hq => by injection hq with hq; omega)⟩)
end Go.Proofs.YtffpanlpbdnafaaDoor

/- frame.Sane, peer.Sane, taken, Judge of any peer (printed by gen_ql.py) -/
set_option linter.unusedSimpArgs false
set_option linter.unusedVariables false
namespace Go.Proofs.YtffpanlpbdnafaaDoor
open Go.RowKit
attribute [local go_sem ↓] Go.wp_at_zero Go.wp_at_succ
structure PeR.at_ (p : PeR) (w : World) : Prop where
  r : Rd w p.rA (p.rs.map u8v)
  c : p.rs.length ≤ p.rc ∧ p.rc ≤ maxLen
  b : p.rs.length ≤ 1000000000
theorem PeR.at_.keep {p : PeR} {w w' : World} (h : p.at_ w) (k : Keep w w') : p.at_ w' := ⟨h.r.keep k, h.c, h.b⟩
end Go.Proofs.YtffpanlpbdnafaaDoor

/- Judge of any peer; Feed, Send, Ask of one that is banned; the law's side (printed by gen_qm.py) -/
set_option linter.unusedSimpArgs false
set_option linter.unusedVariables false
namespace Go.Proofs.YtffpanlpbdnafaaDoor
open Go.RowKit
attribute [local go_sem ↓] Go.wp_at_zero Go.wp_at_succ
theorem bnd_bnd (n : Int) : bndF (bndF n) = bndF n := by unfold bndF; omega
end Go.Proofs.YtffpanlpbdnafaaDoor

/- frame.Feed of a stream of which nothing is left (printed by gen_rd.py) -/
set_option linter.unusedSimpArgs false
set_option linter.unusedVariables false
namespace Go.Proofs.YtffpanlpbdnafaaDoor
open Go.RowKit
attribute [local go_sem] Oper.semAt_some
attribute [local go_sem ↓] Go.wp_at_zero Go.wp_at_succ
theorem KX.keep {B : Nat} {X : Nat → Prop} {A C : World} (h : Keep A C) : KX B X A C := ⟨h.os, h.tape, h.output, h.size, fun k _ h2 _ => h.block k h2⟩
theorem KX.grown {B : Nat} {X : Nat → Prop} {A C : World} {row : Option Nat} (h : A.grownBy C row) (hr : ∀ r, row = some r → B ≤ r ∨ X r) : KX B X A C := ⟨h.os, h.tape, h.output, h.size, fun k h1 h2 h3 => h.block k h2 (fun e => by
  rcases hr k e.symm with q | q
  · omega
  · exact h3 q)⟩
theorem own_ge {w : World} {base : Nat} {e : TypeId} {size : Nat} {v : Value} {n : Nat} {xs : List Value} (h : w.ownsRow base e size v n xs) : ∀ r, v.ownBlock = some r → base ≤ r ∧ ∃ o : Obj, w.heap[r]? = some o ∧ o.isCells = true := by
  intro r hr
  rcases h.2 with ⟨rfl, _⟩ | ⟨g, cap, cur, rfl, hb, hg, _⟩
  · cases hr
  · have e : g = r := by simpa [Value.ownBlock] using hr
    subst e
    exact ⟨hb, _, hg, rfl⟩
theorem grown_setc (w : World) (g o : Nat) (u : Value) : w.grownBy (w.setCell ⟨g, o, none⟩ u) (some g) := ⟨rfl, rfl, rfl, by rw [World.size_setCell]; exact Nat.le_refl _, fun k _ hk => Below.heap_setCell _ _ _ k (fun e => hk (by rw [e]))⟩
theorem msgT : ElT Tryd.prog 101 71 (.agg #[.string ⟨#[]⟩, .slice none 0 0]) 2 40 := ElT.mk' Tryd.underlying101 (by kernel_rfl) rfl (by omega)
theorem build_msg (v0 v1 : Value) (y : World) : (Instr.buildSlice 101 1 #[(0, .agg #[v0, v1])]).run Tryd.prog y = .ok (.slice (some ⟨y.heap.size, 0, none⟩) 1 1) (y.alloc (.cells #[v0, v1] 71)) := by
  obtain ⟨i, hi, hiz, his, _⟩ := msgT.info
  refine run_buildSlice y 101 71 1 _ #[v0, v1] i _ msgT.und hi hiz (by rw [his]; decide) (by rw [his]; decide) ?_
  rw [his]
  rw [fill_step (off := 0 * 2) (size := 2) rfl rfl (by simp)]
  rw [Instr.fill]
  simp [Value.cells]
theorem own_far {w : World} {B : Nat} {e : TypeId} {size : Nat} {v : Value} {n : Nat} {xs : List Value} (h : w.ownsRow B e size v n xs) {p : Addr} (hp : p.block < B) (u : Value) : (w.setCell p u).ownsRow B e size v n xs := by
  refine ⟨h.1, ?_⟩
  rcases h.2 with h1 | ⟨g, cap, cur, rfl, hb, hg, h4⟩
  · exact .inl h1
  · exact .inr ⟨g, cap, cur, rfl, hb, (Below.heap_setCell _ _ _ g (by omega)).trans hg, h4⟩
theorem rdx_far {w : World} {B n : Nat} {row : Option Nat} {A : Option Addr} {xs : List Value} (h : RdX row w A xs) (hf : FreshA B A n) (hn : n = 0 → xs = []) {p : Addr} (hp : p.block < B) (u : Value) : RdX row (w.setCell p u) A xs := by
  rcases hf with h0 | ⟨b, off, rfl, hb⟩
  · rw [hn h0]; exact .inl rfl
  · exact h.setCell' u (fun b' off' e => by cases e; omega)
theorem nil_of {p : List UInt8} (h : p.length = 0) : p.map u8v = [] := by rw [List.eq_nil_of_length_eq_zero h]; rfl
theorem wpListIn_appR {F : Fence} {n : Nat} {P : Program} {w : World} {ops : Array Oper} {rest : List Oper} {o : Oper} {a : Act} {Q : Exit → Act → World → Prop}
    (hg : o.guard = none) (s x : Operand) (t : TypeId) (hop : o.op = Op.call { callee := Callee.builtin Builtin.append, args := #[s, x], argTypes := #[t, t] }) (v u v' : Value) (w' : World)
    (hs : a.eval s = v) (hx : a.eval x = u) (hrun : (Builtin.append_ #[t, t] o.type #[v, u]).run P w = .ok v' w') (h : wpListIn F n P ops Q rest (a.put o.dst v') w') : wpListIn F n P ops Q (o :: rest) a w := by
  refine wpListIn_plain hg fun K hK' => ?_
  unfold Oper.wpIn
  refine ⟨?_, ?_⟩
  · simp [Oper.about, hop, resolve, Target.leads, Sem.run_pure]
  · rw [Oper.semAt_plain F _ _ (by rw [hop]; intro c hc'; cases hc')]
    simp [execOp, hop, resolve, invoke, builtin, hs, hx, hrun, Result.andThen]
    exact hK' _ _ h
theorem cns_len (l : List Ev) : 24 * l.length ≤ cnsE l := by
  induction l with
  | nil => exact Nat.le_refl _
  | cons y l ih => rw [cnsE_cons, List.length_cons]; omega
theorem okR_le (l : List EvR) : (okR l).length ≤ l.length := List.length_filter_le ..
theorem rdx_grownq {w w' : World} {B n q : Nat} {row : Option Nat} {A : Option Addr} {xs : List Value} (h : RdX row w A xs) (hf : FreshA B A n) (hn : n = 0 → xs = []) (hg : w.grownBy w' (some q)) (hq : q < B) : RdX row w' A xs := by
  rcases hf with h0 | ⟨b, off, rfl, hb⟩
  · rw [hn h0]; exact .inl rfl
  · rcases h with h1 | ⟨b', off', e, h2, h3⟩
    · exact .inl h1
    · cases e
      exact .inr ⟨b, off, rfl, h2, fun j hj => grown_cell hg (h3 j hj) (fun e => by injection e with e; omega)⟩
theorem own_grownq {w w' : World} {B : Nat} {e : TypeId} {size : Nat} {v : Value} {n q : Nat} {xs : List Value} (h : w.ownsRow B e size v n xs) (hg : w.grownBy w' (some q)) (hq : q < B) : w'.ownsRow B e size v n xs := by
  refine ⟨h.1, ?_⟩
  rcases h.2 with h1 | ⟨g, cap, cur, rfl, hb, hgg, h4⟩
  · exact .inl h1
  · exact .inr ⟨g, cap, cur, rfl, hb, (hg.block g (Array.getElem?_eq_some_iff.1 hgg).1 (fun e => by injection e with e; omega)).trans hgg, h4⟩
theorem keep_putObj {w w' : World} (h : Keep w w') {D : Nat} (o : Obj) (hD : w.heap.size ≤ D) : Keep w (w'.putObj D o) :=
  ⟨h.os, h.tape, h.output, by rw [World.putObj_size]; exact h.size, fun k hk => (World.putObj_heap_other (by omega)).trans (h.block k hk)⟩
theorem okR_snoc0 {pre : List EvR} {x : EvR} (h : x.e = 0) : okR (pre ++ [x]) = okR pre ++ [x] := by simp [okR, h]
theorem okR_snoc1 {pre : List EvR} {x : EvR} (h : x.e ≠ 0) : okR (pre ++ [x]) = okR pre := by simp [okR, h]
theorem okE_map (pre : List EvR) : okE (pre.map EvR.ev) = (okR pre).map EvR.ev := by
  unfold okE okR
  rw [List.filter_map]
  rfl
theorem rst_snoc0 {cl : List UInt8} {pre : List EvR} {x : EvR} (h : x.e = 0) : rstE cl (pre ++ [x]) = (rstE cl pre).drop (24 + x.p.length) := by
  unfold rstE
  rw [okE_map, okE_map, okR_snoc0 h, List.map_append, cnsE_app, List.drop_drop]
  congr 1
theorem rst_snoc1 {cl : List UInt8} {pre : List EvR} {x : EvR} (h : x.e ≠ 0) : rstE cl (pre ++ [x]) = rstE cl pre := by
  unfold rstE
  rw [okE_map, okE_map, okR_snoc1 h]
theorem out_snoc {cl : List UInt8} {pre : List EvR} {x : EvR} : outE cl ((pre ++ [x]).map EvR.ev) = if x.e = 0 then ([], 0) else if x.e = 1 then (rstE cl pre, 0) else ([], x.e) := by
  have e : (pre ++ [x]).map EvR.ev = pre.map EvR.ev ++ [x.ev] := by simp
  unfold outE
  rw [e, List.getLast?_concat]
  show (if x.e = 0 then _ else if x.e = 1 then _ else _) = _
  by_cases h0 : x.e = 0
  · rw [if_pos h0, if_pos h0]
  · rw [if_neg h0, if_neg h0]
    by_cases h1 : x.e = 1
    · rw [if_pos h1, if_pos h1]
      have := rst_snoc1 (cl := cl) (pre := pre) h0
      unfold rstE at this ⊢
      rw [← this, e]
    · rw [if_neg h1, if_neg h1]; rfl
theorem out_zero {cl : List UInt8} {pre : List EvR} (h : ∀ y ∈ pre.map EvR.ev, y.2 = 0) : outE cl (pre.map EvR.ev) = ([], 0) := by
  unfold outE
  cases hl : (pre.map EvR.ev).getLast? with
  | none => rfl
  | some y =>
    have := h y (List.mem_of_getLast? hl)
    show (if y.2 = 0 then _ else _) = _
    rw [if_pos this]
set_option maxRecDepth 100000 in
set_option maxHeartbeats 8000000 in
theorem ffeed_nil (g : UInt32) (n : Int) (A : Option Addr) (c : Nat) (bs : Array Value) (hA : BuA (bufL g n A 0 c 0) bs) (hn : n = bndF n) (C : Option Addr) (cl : List UInt8) (M cc : Nat) (w : World) (hM : cl.length = M) (hb : M ≤ 1000000000) (hc : M ≤ cc ∧ cc ≤ maxLen) (hr : Rd w C (cl.map u8v)) (hS : ShaOk w) :
    Calls Tryd.prog 37 #[.agg bs, .slice C M cc] w fun e w' => ∃ (ds : Array Value) (L : Option Addr) (lc : Nat) (xs : List EvR) (RA : Option Addr) (rc : Nat), e = .returned (.tuple #[.agg ds, .slice L (okR xs).length lc]) ∧ xs.map EvR.ev = evs g n cl ∧ BuA (bufL g n RA (outE cl (evs g n cl)).1.length rc (outE cl (evs g n cl)).2) ds ∧
      ((outE cl (evs g n cl)).1.length ≤ rc ∧ rc ≤ maxLen ∧ Rd w' RA ((outE cl (evs g n cl)).1.map u8v)) ∧ Rd w' L ((okR xs).flatMap EvR.mcells) ∧ (∀ x ∈ okR xs, x.at_ w') ∧ Keep w w' := by
  have FS : Hid (∀ y, Calls Tryd.prog 29 #[.agg bs] y fun e w' => e = .returned (.bool true) ∧ Keep y w') := Lib.hid fun y => by
    have q := fsane_nil g n A c 0 bs hA y
    rwa [show fsaneB n = true from decide_eq_true hn] at q
  have FN : Hid (∀ y, Calls Tryd.prog 28 #[u32v g, iv n] y fun e w' => ∃ ks, e = .returned (.agg ks) ∧ BuA (bufL g n none 0 0 0) ks ∧ Keep y w') := Lib.hid fun y => by
    have q := fnew_any g n y
    rwa [← hn] at q
  have MK : Hid (∀ y, Calls Tryd.prog 55 #[u32v g, iv n, .slice C M cc] y fun e w' => e = .returned (.func (.func 68) #[] #[.pointer (some ⟨y.heap.size, 0, none⟩), .pointer (some ⟨y.heap.size + 1, 0, none⟩), .pointer (some ⟨y.heap.size + 2, 0, none⟩)]) ∧
      (Blk w' y.heap.size 22 [u32v g] ∧ Blk w' (y.heap.size + 1) 3 [iv n] ∧ Blk w' (y.heap.size + 2) 26 [.slice C M cc]) ∧ w'.heap.size = y.heap.size + 3 ∧ Keep y w') := Lib.hid fun y => maker_any g n C M cc y
  have KSO : ∀ ks : Array Value, (∀ v ∈ ks.toList, v.oneCell' = true) → (ks.all fun v => v.oneCell') = true := fun ks h => by have q := all_oneCell_toArray h; simpa using q
  obtain ⟨zs, hz0, hzA⟩ := zbuf_letter
  have hzn := hzA.n; have hzz := hzA.z
  have hbn := hA.n; have hbz := hA.z; have hbi := hA.i
  have HZ := Lib.hid hzA; have HBA := Lib.hid hA
  have HM := Lib.hid hM; have HMB := Lib.hid hb; have HC := Lib.hid hc; have HR := Lib.hid hr; have HS := Lib.hid hS
  clear hA hzA hn hM hb hc hr hS
  refine (callsIn_wide (n := 1)).1 (callsIn_of_wp_marks Tryd.func37 rfl trivial (wpIn_wide.2 ?_))
  simp only [Tryd.ntmps37, List.size_toArray, List.length_cons, List.length_nil, Nat.reduceAdd, Nat.reduceSub, Array.replicate_succ, Array.replicate_zero, List.push_toArray, List.append_toArray, List.nil_append, List.cons_append]
  go_upto_region 1 with fail
  obtain ⟨w1, hw1⟩ : ∃ w1, w1 = (w.alloc (.cells bs 29)).alloc (.cells zs 29) := ⟨_, rfl⟩
  have H2 : Hid (Blk w1 w.heap.size 29 bs.toList) := by rw [hw1]; exact Lib.hid ((Blk.new w _ bs.toList).alloc _)
  have H4 : Hid (Blk w1 (w.heap.size + 1) 29 zs.toList) := by
    rw [hw1]
    have h2 := Blk.new (w.alloc (.cells bs 29)) 29 zs.toList
    rw [World.size_alloc] at h2
    exact Lib.hid h2
  have HK1 : Hid (Keep w w1) := by rw [hw1]; exact Lib.hid (keep_trans (keep_new _ _) (keep_new _ _))
  rw [← hw1]
  clear hw1
  go_upto_region 3 with (first | ((with_reducible refine load_arr w.heap.size bs (Eq.trans ?_ rfl) H2.out _ Tryd.underlying29 rfl hbi ?_); rfl) | (go_at_call 29; refine (FS.out _).mono ?_; rintro e w2 ⟨rfl, k⟩; replace H2 := Lib.hid (H2.out.keep k); replace H4 := Lib.hid (H4.out.keep k); have HK2 := Lib.hid (keep_trans HK1.out k); clear k))
  replace H2 : Hid (Blk w2 w.heap.size 29 (bufL g n A 0 c 0)) := by rw [← HBA.out.l]; exact H2
  have r0 : w2.cell? ⟨w.heap.size, 0, none⟩ = some (u32v g) := (H2.out.cell 0).trans rfl
  have r1 : w2.cell? ⟨w.heap.size, 1, none⟩ = some (iv n) := (H2.out.cell 1).trans rfl
  have r2 : w2.cell? ⟨w.heap.size, 2, none⟩ = some (.slice A 0 c) := (H2.out.cell 2).trans rfl
  have r3 : w2.cell? ⟨w.heap.size, 3, none⟩ = some (iv 0) := (H2.out.cell 3).trans rfl
  go_upto_region 6 with fail
  obtain ⟨w3, hw3⟩ : ∃ y, y = w2.alloc (.cells #[.slice C M cc] 26) := ⟨_, rfl⟩
  have hk3 : Keep w2 w3 := by rw [hw3]; exact keep_new _ _
  have H6 : Hid (Blk w3 w2.heap.size 26 [.slice C M cc]) := by rw [hw3]; exact Lib.hid (Blk.new w2 _ [.slice C M cc])
  rw [← hw3]
  clear hw3
  replace r0 := keep_cell hk3 r0; replace r1 := keep_cell hk3 r1; replace r2 := keep_cell hk3 r2
  have hb4 : w.heap.size + 1 < w2.heap.size := H4.out.lt
  replace H4 := Lib.hid (H4.out.keep hk3)
  have HK3 := Lib.hid (keep_trans HK2.out hk3)
  clear hk3 r3 HK1 HK2 H2 FS
  generalize w2.heap.size = b6 at *
  go_upto_region 11 with (first | (go_at_call 28; refine (FN.out _).mono ?_; rintro e w4 ⟨ks, rfl, hkA, k⟩; replace H6 := Lib.hid (H6.out.keep k); replace H4 := Lib.hid (H4.out.keep k); have HK4 := Lib.hid (keep_trans HK3.out k); replace r0 := keep_cell k r0; replace r1 := keep_cell k r1; have hkn := hkA.n; have hkz := hkA.z; have HKA := Lib.hid hkA; have hst : (storeCells ⟨w4.heap.size, 0, none⟩ ks.toList 0).run Tryd.prog (w4.alloc (.cells zs 29)) = .ok () (w4.alloc (.cells ks 29)) := run_storeCells_new (P := Tryd.prog) w4 29 zs ks hkA.i (hzz.trans hkA.z.symm) (KSO _ hkA.o); clear k hkA))
  obtain ⟨w5, hw5⟩ : ∃ y, y = w4.alloc (.cells ks 29) := ⟨_, rfl⟩
  have hk5 : Keep w4 w5 := by rw [hw5]; exact keep_new _ _
  have H7 : Hid (Blk w5 w4.heap.size 29 (bufL g n none 0 0 0)) := by rw [hw5, ← HKA.out.l]; exact Lib.hid (Blk.new w4 _ ks.toList)
  rw [← hw5]
  clear hw5
  replace r0 := keep_cell hk5 r0; replace r1 := keep_cell hk5 r1
  have hb6 : b6 < w4.heap.size := H6.out.lt
  replace H4 := Lib.hid (H4.out.keep hk5)
  replace H6 := Lib.hid (H6.out.keep hk5)
  have HK5 := Lib.hid (keep_trans HK4.out hk5)
  clear hk5 HK3 HK4 FN hst r2
  generalize w4.heap.size = b7 at *
  go_upto_region 12 with fail
  obtain ⟨w6, hw6⟩ : ∃ y, y = w5.alloc (.cells #[.slice none 0 0] 101) := ⟨_, rfl⟩
  have hk6 : Keep w5 w6 := by rw [hw6]; exact keep_new _ _
  have H8 : Hid (Blk w6 w5.heap.size 101 [.slice none 0 0]) := by rw [hw6]; exact Lib.hid (Blk.new w5 _ [.slice none 0 0])
  rw [← hw6]
  clear hw6
  replace r0 := keep_cell hk6 r0; replace r1 := keep_cell hk6 r1
  have hb7 : b7 < w5.heap.size := H7.out.lt
  replace H4 := Lib.hid (H4.out.keep hk6)
  replace H6 := Lib.hid (H6.out.keep hk6)
  replace H7 := Lib.hid (H7.out.keep hk6)
  have HK6 := Lib.hid (keep_trans HK5.out hk6)
  have hb8 : w5.heap.size < w6.heap.size := H8.out.lt
  clear hk6 HK5
  generalize w5.heap.size = b8 at *
  have r6 : w6.cell? ⟨b6, 0, none⟩ = some (.slice C M cc) := (H6.out.cell 0).trans rfl
  go_wp2_with (go_at_call 55; refine (MK.out _).mono ?_; rintro e w7 ⟨rfl, ⟨k1, k2, k3⟩, k4, k⟩)
  have hlt7 := k4
  have HG := Lib.hid k1; have HMo := Lib.hid k2; have HBb := Lib.hid k3
  replace H4 := Lib.hid (H4.out.keep k)
  replace H6 := Lib.hid (H6.out.keep k)
  replace H7 := Lib.hid (H7.out.keep k)
  replace H8 := Lib.hid (H8.out.keep k)
  have HK7 := Lib.hid (keep_trans HK6.out k)
  clear k k1 k2 k3 k4 r0 r1 r6 HK6 MK
  obtain ⟨gb, hgb⟩ : ∃ gb, gb = w6.heap.size := ⟨_, rfl⟩
  rw [← hgb] at HG HMo HBb hlt7 hb8
  rw [← hgb]
  clear hgb
  have hlt8 : gb + 3 ≤ w7.heap.size := by omega
  clear hlt7
  have hkw : ∀ y, KX w7.heap.size (fun k => (k = b6 ∨ k = b7 ∨ k = b8) ∨ k = gb + 2) w7 y → Keep w y := fun y hy =>
    ⟨hy.os.trans HK7.out.os, hy.tape.trans HK7.out.tape, hy.output.trans HK7.out.output, Nat.le_trans HK7.out.size hy.size, fun k hk => (hy.block k (Nat.lt_of_lt_of_le hk HK7.out.size) (Nat.lt_of_lt_of_le hk HK7.out.size) (fun q => by omega)).trans (HK7.out.block k hk)⟩
  refine wp_rangeFuncM (α := EvR) (gf := 68) (lb := #[.pointer (some ⟨gb, 0, none⟩), .pointer (some ⟨gb + 1, 0, none⟩), .pointer (some ⟨gb + 2, 0, none⟩)]) rfl (enters_of Tryd.func68 (by kernel_rfl) rfl) EvR.vals (fun _ => rfl)
    (fun pre x wr W => EvR.at_ x W ∧ FreshA wr.heap.size x.P x.p.length ∧ ∃ post, pre.map EvR.ev ++ x.ev :: post = evs g n cl) (fun xs => xs.map EvR.ev = evs g n cl) (gb + 2) (fun k => k = b6 ∨ k = b7 ∨ k = b8) (FdI g n cl w7.heap.size b6 b7 b8 (gb + 2) w7) ?hseq ?hGi ?hI ?h0 ?hround ?hdone
  case hseq =>
    intro l J W1 hk hJ0 hJG hY
    refine msgs_any g n cl l w7.heap.size gb (gb + 1) (gb + 2) (fun k => k = b6 ∨ k = b7 ∨ k = b8) w7 J W1 hJG hY C cc (by have := HM.out; have := HMB.out; omega) (by rw [HM.out]; exact HC.out) ?_ ?_ ⟨by omega, by omega, by omega⟩ ⟨by omega, by omega, by omega⟩ ⟨by omega, by omega⟩ ⟨hk.os, hk.tape, hk.output, hk.size, fun k _ h2 _ => hk.block k h2⟩ (HG.out.keep hk) (HMo.out.keep hk) (by rw [HM.out]; exact HBb.out.keep hk) hJ0
    · intro y hy
      exact HR.out.keep (hkw y hy)
    · intro y hy
      exact HS.out.keep (hkw y hy)
  case hGi => exact fun pre P1 P2 h hg => FdI.stp (by omega) ⟨by omega, by omega, by omega⟩ h ⟨some (gb + 2), hg.1, fun r e => Or.inl (by cases e; rfl)⟩
  case hI => exact fun pre P1 P2 row h hg hr => FdI.stp (by omega) ⟨by omega, by omega, by omega⟩ h ⟨row, hg, fun r e => Or.inr (hr r e)⟩
  case h0 =>
    have e0 : rstE cl [] = cl := rfl
    unfold FdI
    rw [e0]
    refine ⟨C, cc, none, 0, none, 0, KX.refl _ _ _, ⟨by rw [HM.out]; exact HC.out, by rw [HM.out]; exact H6.out, fun y hy => HR.out.keep (hkw y hy)⟩, ⟨H8.out, ⟨rfl, .inl ⟨rfl, rfl⟩⟩⟩, fun x hx => (by cases hx), H7.out, ⟨Nat.le_refl _, Nat.zero_le _⟩, .inl rfl, Or.inl rfl⟩
  case hround =>
    clear hkw
    rintro l pre x wr W hl hi hkw ⟨hx, hf, post, hp⟩
    obtain ⟨A', c', L, lc, RA, rc, h1, ⟨h2, h3, h4⟩, ⟨h5, h6⟩, h7, h8, h9, h10, h11⟩ := hi
    obtain ⟨e0, e1, e2, e3, e4⟩ := evL_at g n _ cl (pre.map EvR.ev) x.ev post hp
    have hrst : rstE cl pre = cl.drop (cnsE (pre.map EvR.ev)) := by unfold rstE; rw [okE_all e0]
    rw [← hrst] at e3
    clear hrst
    rw [out_zero e0] at h8 h9 h10 h11
    have hlen : (okR pre).length ≤ 50000000 := by
      have q1 := cns_len (pre.map EvR.ev)
      have q2 := okR_le pre
      have q3 := HM.out; have q4 := HMB.out
      rw [List.length_map] at q1
      omega
    have hrowlt : ∀ r, (Value.slice L (okR pre).length lc).ownBlock = some r → r < wr.heap.size := fun r e => by
      obtain ⟨o, ho, _⟩ := (own_ge h6 r e).2
      exact (Array.getElem?_eq_some_iff.1 ho).1
    have hBr : w7.heap.size ≤ wr.heap.size := h1.size
    have hfB : FreshA w7.heap.size x.P x.p.length := hf.mono hBr
    have hkx1 : KX w7.heap.size (fun k => (k = b6 ∨ k = b7 ∨ k = b8) ∨ k = gb + 2) w7 W := h1.trans (KX.keep hkw)
    replace h3 := h3.keep hkw; replace h5 := h5.keep hkw; replace h8 := h8.keep hkw
    replace h6 := own_keep h6 hkw
    have h7' : ∀ y ∈ okR pre, (y.p.length ≤ y.pc ∧ y.pc ≤ maxLen) ∧ RdX (Value.slice L (okR pre).length lc).ownBlock W y.P (y.p.map u8v) ∧ FreshA w7.heap.size y.P y.p.length := fun y hy => ⟨(h7 y hy).1, (h7 y hy).2.1.keep hkw, (h7 y hy).2.2⟩
    clear h7 h1 hp e1 e2 e4
    have hz : ∀ t : Array Value, (#[53, 54].zip x.vals).foldl (fun t (p, v) => t.setIfInBounds p v) t = (t.setIfInBounds 53 (.agg #[.string (str x.c), .slice x.P x.p.length x.pc])).setIfInBounds 54 (iv x.e) := fun t => by simp [EvR.vals]
    rw [hz]
    simp only [List.setIfInBounds_toArray, List.set_cons_succ, List.set_cons_zero]
    clear hz
    have hWB : w7.heap.size ≤ W.heap.size := Nat.le_trans hBr hkw.size
    have hlW : ∀ (o : Obj), (W.alloc o).heap[l]? = W.heap[l]? ∨ True := fun _ => Or.inr trivial
    clear hlW
    gi_wp2
    obtain ⟨Wa, hWa⟩ : ∃ y, y = W.alloc (.cells #[.string (str x.c), .slice x.P x.p.length x.pc] 71) := ⟨_, rfl⟩
    have hka : Keep W Wa := by rw [hWa]; exact keep_new _ _
    have hm : Blk Wa W.heap.size 71 [.string (str x.c), .slice x.P x.p.length x.pc] := by rw [hWa]; exact Blk.new W _ [.string (str x.c), .slice x.P x.p.length x.pc]
    have hkf : KeepsFrom w7.heap.size W Wa := by rw [hWa]; exact (KeepsOthers.alloc _ _).from _
    rw [← hWa]
    clear hWa
    refine ⟨hkf, KX.keep hka, fun st xr hlr => ?_⟩
    clear hkf
    have hst : Stp w7.heap.size (gb + 2) Wa (Wa.putObj l (.loop st)) := ⟨some l, grownBy_putObj' _ _ _, fun r e => by cases e; exact Or.inr ⟨hl, _, hlr, rfl⟩⟩
    have hmB : gb + 2 < W.heap.size := by omega
    replace h3 := hst.Blk (h3.keep hka) (show b6 ≠ gb + 2 by omega)
    replace h5 := hst.Blk (h5.keep hka) (show b8 ≠ gb + 2 by omega)
    replace h8 := hst.Blk (h8.keep hka) (show b7 ≠ gb + 2 by omega)
    replace h6 := hst.own (by omega) (own_keep h6 hka)
    replace hm := hst.Blk hm (by omega)
    have h7 : ∀ y ∈ okR pre, (y.p.length ≤ y.pc ∧ y.pc ≤ maxLen) ∧ RdX (Value.slice L (okR pre).length lc).ownBlock (Wa.putObj l (.loop st)) y.P (y.p.map u8v) ∧ FreshA w7.heap.size y.P y.p.length := fun y hy => ⟨(h7' y hy).1, hst.rdx (by omega) ((h7' y hy).2.1.keep hka) (h7' y hy).2.2 (fun e => by rw [List.eq_nil_of_length_eq_zero e]; rfl), (h7' y hy).2.2⟩
    have hkx2 := hst.kx (X := fun k => (k = b6 ∨ k = b7 ∨ k = b8) ∨ k = gb + 2) (Or.inr rfl) (hkx1.trans (KX.keep hka))
    have hxr : Rd W x.P (x.p.map u8v) := hx.2.2
    have hxX : ∀ row : Option Nat, (∀ r, row = some r → r < wr.heap.size) → RdX row (Wa.putObj l (.loop st)) x.P (x.p.map u8v) := fun row hrow => by
      refine hst.rdx (by omega) ?_ hfB (fun e => by rw [List.eq_nil_of_length_eq_zero e]; rfl)
      exact RdX.of_fresh (base := wr.heap.size) (n := x.p.length) ((hxr.keep hka)) hf (by simp) hrow
    have hWb : w7.heap.size ≤ (Wa.putObj l (.loop st)).heap.size := by rw [World.putObj_size]; exact Nat.le_trans hWB hka.size
    obtain ⟨bm, hbm⟩ : ∃ bm, bm = W.heap.size := ⟨_, rfl⟩
    rw [← hbm] at hm hmB
    rw [← hbm]
    have hbmB : w7.heap.size ≤ bm := by omega
    have hbmW : wr.heap.size ≤ bm := by have := hkw.size; omega
    clear hbm h7' hkx1 hst hka hlr hxr
    generalize Wa.putObj l (.loop st) = Wb at *
    have H3 := Lib.hid h3; have H5 := Lib.hid h5; have H6' := Lib.hid h6; have H7' := Lib.hid h7; have H8' := Lib.hid h8; have HM' := Lib.hid hm; have HKX := Lib.hid hkx2; have HXX := Lib.hid hxX
    clear h3 h5 h6 h7 h8 hm hkx2 hxX
    have c3 : Wb.cell? ⟨b6, 0, none⟩ = some (.slice A' (rstE cl pre).length c') := (H3.out.cell 0).trans rfl
    have c5 : Wb.cell? ⟨b8, 0, none⟩ = some (.slice L (okR pre).length lc) := (H5.out.cell 0).trans rfl
    have cm0 : Wb.cell? ⟨bm, 0, none⟩ = some (.string (str x.c)) := (HM'.out.cell 0).trans rfl
    have cm1 : Wb.cell? ⟨bm, 1, none⟩ = some (.slice x.P x.p.length x.pc) := (HM'.out.cell 1).trans rfl
    have f3 := H3.out.frozen 0; have f5 := H5.out.frozen 0; have f8 := H8'.out.frozen 3; have f82 := H8'.out.frozen 2
    have c83 : Wb.cell? ⟨b7, 3, none⟩ = some (iv 0) := (H8'.out.cell 3).trans rfl
    have c82 : Wb.cell? ⟨b7, 2, none⟩ = some (.slice RA 0 rc) := (H8'.out.cell 2).trans rfl
    by_cases hx0 : x.e = 0
    · have d0 : (x.e == 0) = true := by rw [hx0]; rfl
      have HX0 := Lib.hid hx0
      obtain ⟨k, hk⟩ : ∃ k, (okR pre).length = k := ⟨_, rfl⟩
      have hfit : 24 + x.p.length ≤ (rstE cl pre).length := e3 hx0
      have hzl : (rstE cl pre).length ≤ 1000000000 := by
        have := HM.out; have := HMB.out
        unfold rstE
        rw [List.length_drop]; omega
      have hbd := build_msg (.string (str x.c)) (.slice x.P x.p.length x.pc)
      obtain ⟨v', Wd, hrun, hown, hgrow, halt⟩ := Rd.run_append msgT (Wb.alloc (.cells #[.string (str x.c), .slice x.P x.p.length x.pc] 71)) w7.heap.size 101 (.slice L (okR pre).length lc) (okR pre).length ((okR pre).flatMap EvR.mcells) (own_keep H6'.out (keep_new _ _)) (some ⟨Wb.heap.size, 0, none⟩) 1 1 x.mcells rfl (Blk.new Wb 71 x.mcells).rd (by intro u hu; simp only [EvR.mcells, List.mem_cons, List.not_mem_nil, or_false] at hu; rcases hu with rfl | rfl <;> rfl) (by omega) (by show _ ≤ 9223372036854775807; omega) (by rw [World.size_alloc]; omega)
      obtain ⟨L2, lc2, rfl, hl2, hl3, hL2⟩ := own_form hown
      have hgr : ∀ r, (Value.slice L (okR pre).length lc).ownBlock = some r → w7.heap.size ≤ r := fun r e => (own_ge H6'.out r e).1
      have B5d : Blk Wd b8 101 [.slice L (okR pre).length lc] := (H5.out.alloc _).grown hgrow (fun e => by have := hgr _ e; omega)
      have B3d : Blk Wd b6 26 [.slice A' (rstE cl pre).length c'] := (H3.out.alloc _).grown hgrow (fun e => by have := hgr _ e; omega)
      have B7d : Blk Wd b7 29 (bufL g n RA 0 rc 0) := (H8'.out.alloc _).grown hgrow (fun e => by have := hgr _ e; omega)
      have hbmne : (Value.slice L (okR pre).length lc).ownBlock ≠ some bm := fun e => by have := hrowlt _ e; omega
      have Bmd : Blk Wd bm 71 [.string (str x.c), .slice x.P x.p.length x.pc] := (HM'.out.alloc _).grown hgrow hbmne
      have hc5 : Wd.cell? ⟨b8, 0, none⟩ = some (.slice L (okR pre).length lc) := (B5d.cell 0).trans rfl
      have hf5 := B5d.frozen 0
      have B3e := B3d.far (p := ⟨b8, 0, none⟩) (show b6 ≠ b8 by omega) (.slice L2 ((okR pre).length + 1) lc2)
      have Bme := Bmd.far (p := ⟨b8, 0, none⟩) (show bm ≠ b8 by omega) (.slice L2 ((okR pre).length + 1) lc2)
      have ce3 : (Wd.setCell ⟨b8, 0, none⟩ (.slice L2 ((okR pre).length + 1) lc2)).cell? ⟨b6, 0, none⟩ = some (.slice A' (rstE cl pre).length c') := (B3e.cell 0).trans rfl
      have cem : (Wd.setCell ⟨b8, 0, none⟩ (.slice L2 ((okR pre).length + 1) lc2)).cell? ⟨bm, 1, none⟩ = some (.slice x.P x.p.length x.pc) := (Bme.cell 1).trans rfl
      have fe3 := B3e.frozen 0
      obtain ⟨A2, hA2⟩ : ∃ A2, A2 = (if c' = 24 + x.p.length then A' else A'.map (·.add ((24 + x.p.length) * 1))) := ⟨_, rfl⟩
      have hsl : ∀ y, (Instr.slice 26 (.slice A' (rstE cl pre).length c') (some (.int .i64 (24 + (x.p.length : Int)))) none none).run Tryd.prog y = .ok (.slice A2 ((rstE cl pre).length - (24 + x.p.length)) (c' - (24 + x.p.length))) y := fun y => by
        have q := slice_rest A' (rstE cl pre).length c' (24 + x.p.length) hfit h2.1 y
        rw [← hA2] at q
        rw [show (24 + (x.p.length : Int)) = ((24 + x.p.length : Nat) : Int) from by omega]
        exact q
      have hpl : x.p.length ≤ 1000000000 := by omega
      have HGR := Lib.hid hgrow; have HOWN := Lib.hid hown; have HFT := Lib.hid hfit; have HA2 := Lib.hid hA2; have HALT := Lib.hid halt; have HL23 := Lib.hid (show (okR pre).length + 1 ≤ lc2 ∧ lc2 ≤ maxLen from ⟨hl2, hl3⟩)
      have D3 := Lib.hid B3e; have D7 := Lib.hid B7d; have D5 := Lib.hid B5d
      clear hx0 hzl hgrow hown hfit hA2 halt hgr B5d B3d B7d Bmd B3e Bme hl2 hl3 hL2 hbmne hk
      gi_wp2_with (gi_at_builtin; refine wpListIn_appR rfl _ _ _ rfl _ _ _ _ rfl rfl hrun ?_)
      have hgr := HGR.out
      have hro := own_keep H6'.out (keep_new Wb (.cells #[.string (str x.c), .slice x.P x.p.length x.pc] 71))
      have hk1 : KeepsOthers Wb Wd := (KeepsOthers.alloc _ _).trans (KeepsOthers.of_grownBy hgr (fun j o e ho => by
        obtain ⟨o', h1, h2⟩ := (own_ge hro j e).2
        rw [ho] at h1; cases h1; exact h2))
      have hkd : ∀ X : Nat → Prop, KX w7.heap.size X Wb Wd := fun X => (KX.keep (keep_new _ _)).trans (KX.grown hgr (fun r e => Or.inl (own_ge hro r e).1))
      refine ⟨(hk1.trans ((KeepsOthers.setCell _ _ _).trans (KeepsOthers.setCell _ _ _))).from _, (hkd _).trans ((KX.grown (grown_setc _ _ _ _) (fun r e => by cases e; exact Or.inr (Or.inr (Or.inr rfl)))).trans (KX.grown (grown_setc _ _ _ _) (fun r e => by cases e; exact Or.inr (Or.inl rfl)))), ?_⟩
      unfold FdI
      rw [rst_snoc0 HX0.out, okR_snoc0 HX0.out, out_snoc, if_pos HX0.out, List.length_append, List.length_singleton, List.flatMap_append, List.length_drop]
      have hmv : ∀ (y : EvR), RdX (Value.slice L (okR pre).length lc).ownBlock Wb y.P (y.p.map u8v) → FreshA w7.heap.size y.P y.p.length → RdX (Value.slice L2 ((okR pre).length + 1) lc2).ownBlock ((Wd.setCell ⟨b8, 0, none⟩ (.slice L2 ((okR pre).length + 1) lc2)).setCell ⟨b6, 0, none⟩ (.slice A2 ((rstE cl pre).length - (24 + x.p.length)) (c' - (24 + x.p.length)))) y.P (y.p.map u8v) := fun y q2 q3 => by
        have q4 := (q2.keep (keep_new Wb (.cells #[.string (str x.c), .slice x.P x.p.length x.pc] 71))).grown hgr HALT.out
        exact rdx_far (rdx_far q4 q3 nil_of (p := ⟨b8, 0, none⟩) (show b8 < _ by omega) _) q3 nil_of (p := ⟨b6, 0, none⟩) (show b6 < _ by omega) _
      refine ⟨A2, c' - (24 + x.p.length), L2, lc2, RA, rc, HKX.out.trans ((hkd _).trans ((KX.grown (grown_setc _ _ _ _) (fun r e => by cases e; exact Or.inr (Or.inl (Or.inr (Or.inr rfl))))).trans (KX.grown (grown_setc _ _ _ _) (fun r e => by cases e; exact Or.inr (Or.inl (Or.inl rfl)))))), ⟨⟨by have := h2.1; omega, Nat.le_trans (Nat.sub_le _ _) h2.2⟩, D3.out.set_ 0 _, fun y hy => ?_⟩, ⟨(D5.out.set_ 0 _).far (p := ⟨b6, 0, none⟩) (show b8 ≠ b6 by omega) _, ?_⟩, fun y hy => ?_, (D7.out.far (p := ⟨b8, 0, none⟩) (show b7 ≠ b8 by omega) _).far (p := ⟨b6, 0, none⟩) (show b7 ≠ b6 by omega) _, h9, .inl rfl, Or.inl rfl⟩
      · have q := (h4 y hy).drop (k := 24 + x.p.length) (cap := c') (by rw [List.length_map]; exact HFT.out) (by rw [List.length_map]; exact h2.1)
        rw [← HA2.out, ← List.map_drop] at q
        exact q
      · have q := own_far (own_far HOWN.out (p := ⟨b8, 0, none⟩) (show b8 < _ by omega) (.slice L2 ((okR pre).length + 1) lc2)) (p := ⟨b6, 0, none⟩) (show b6 < _ by omega) (.slice A2 ((rstE cl pre).length - (24 + x.p.length)) (c' - (24 + x.p.length)))
        simpa using q
      · rcases List.mem_append.1 hy with hy | hy
        · obtain ⟨q1, q2, q3⟩ := H7'.out y hy
          exact ⟨q1, hmv y q2 q3, q3⟩
        · obtain rfl := List.mem_singleton.1 hy
          exact ⟨⟨hx.1, hx.2.1⟩, hmv _ (HXX.out _ hrowlt) hfB, hfB⟩
    by_cases hx1 : x.e = 1
    · have d0 : (x.e == 0) = false := by rw [hx1]; rfl
      have d1 : (x.e == 1) = true := by rw [hx1]; rfl
      have HX0 := Lib.hid hx0; have HX1 := Lib.hid hx1
      have HRP : Hid (Rd Wb A' ((rstE cl pre).map u8v)) := Lib.hid (h4 Wb HKX.out)
      have hzl : (rstE cl pre).length ≤ 1000000000 := by
        have := HM.out; have := HMB.out
        unfold rstE
        rw [List.length_drop]; omega
      have CL : Hid (Calls Tryd.prog 45 #[.slice A' (rstE cl pre).length c'] Wb fun e w' => ∃ P pc, e = .returned (.slice P (rstE cl pre).length pc) ∧ ((rstE cl pre).length ≤ pc ∧ pc ≤ maxLen) ∧ Rd w' P ((rstE cl pre).map u8v) ∧ FreshA Wb.heap.size P (rstE cl pre).length ∧ Keep Wb w') := Lib.hid (by
        refine (clone_any A' (rstE cl pre) c' Wb (by omega) HRP.out).mono ?_
        rintro e w' ⟨v, q1, q2, q3⟩
        obtain ⟨P, pc, rfl, q4, q5, q6⟩ := own_form q2
        exact ⟨P, pc, q1, ⟨q4, q5⟩, q6, own_fresh q2, q3⟩)
      have HZL := Lib.hid hzl
      clear hx0 hx1 hzl
      gi_wp2_with (refine ⟨trivial, rfl, ?_⟩; gi_at_call 45; refine (CallsIn.inRound l (callsIn_wide.2 CL.out)).mono ?_; rintro e Wc ⟨P2, pc2, rfl, hp1, hp2, hp3, kc⟩; have HP1 := Lib.hid hp1; have HP2 := Lib.hid hp2; have HP3 := Lib.hid hp3; have HKC := Lib.hid kc; replace c82 := keep_cell kc c82; replace f82 := (H8'.out.keep kc).frozen 2; clear hp1 hp2 hp3 kc)
      have hkc := HKC.out
      have hBc : w7.heap.size ≤ Wb.heap.size := hWb
      have hko : KeepsOthers Wb Wc := ⟨hkc.size, fun k o h _ => (hkc.block k (Array.getElem?_eq_some_iff.1 h).1).trans h⟩
      refine ⟨(hko.trans (KeepsOthers.setCell _ _ _)).from _, (KX.keep hkc).trans (KX.grown (grown_setc _ _ _ _) (fun r e => by cases e; exact Or.inr (Or.inr (Or.inl rfl)))), ?_⟩
      unfold FdI
      rw [rst_snoc1 HX0.out, okR_snoc1 HX0.out, out_snoc, if_neg HX0.out, if_pos HX1.out]
      refine ⟨A', c', L, lc, P2, pc2, (HKX.out.trans (KX.keep hkc)).trans (KX.grown (grown_setc _ _ _ _) (fun r e => by cases e; exact Or.inr (Or.inl (Or.inr (Or.inl rfl))))), ⟨h2, (H3.out.keep hkc).far (p := ⟨b7, 2, none⟩) (show b6 ≠ b7 by omega) _, h4⟩, ⟨(H5.out.keep hkc).far (p := ⟨b7, 2, none⟩) (show b8 ≠ b7 by omega) _, own_far (own_keep H6'.out hkc) (p := ⟨b7, 2, none⟩) (show b7 < _ by omega) _⟩, fun y hy => ?_, (H8'.out.keep hkc).set_ 2 _, HP1.out, ?_, HP3.out.mono hBc⟩
      · obtain ⟨q1, q2, q3⟩ := H7'.out y hy
        exact ⟨q1, rdx_far (q2.keep hkc) q3 nil_of (p := ⟨b7, 2, none⟩) (show b7 < _ by omega) _, q3⟩
      · exact rdx_far (RdX.of_fresh (row := none) HP2.out (HP3.out.mono hBc) (by simp) (fun k e => by cases e)) (HP3.out.mono hBc) nil_of (p := ⟨b7, 2, none⟩) (show b7 < _ by omega) _
    · have d0 : (x.e == 0) = false := by rw [beq_eq_false_iff_ne]; exact hx0
      have d1 : (x.e == 1) = false := by rw [beq_eq_false_iff_ne]; exact hx1
      have HX0 := Lib.hid hx0; have HX1 := Lib.hid hx1
      clear hx0 hx1
      gi_wp2
      refine ⟨(KeepsOthers.setCell _ _ _).from _, KX.grown (grown_setc _ _ _ _) (fun r e => by cases e; exact Or.inr (Or.inr (Or.inl rfl))), ?_⟩
      unfold FdI
      rw [rst_snoc1 HX0.out, okR_snoc1 HX0.out, out_snoc, if_neg HX0.out, if_neg HX1.out]
      refine ⟨A', c', L, lc, RA, rc, HKX.out.trans (KX.grown (grown_setc _ _ _ _) (fun r e => by cases e; exact Or.inr (Or.inl (Or.inr (Or.inl rfl))))), ⟨h2, H3.out.far (p := ⟨b7, 3, none⟩) (show b6 ≠ b7 by omega) _, h4⟩, ⟨H5.out.far (p := ⟨b7, 3, none⟩) (show b8 ≠ b7 by omega) _, own_far H6'.out (p := ⟨b7, 3, none⟩) (show b7 < _ by omega) _⟩, fun y hy => ?_, H8'.out.set_ 3 _, ⟨Nat.zero_le _, h9.2⟩, .inl rfl, Or.inl rfl⟩
      obtain ⟨q1, q2, q3⟩ := H7'.out y hy
      exact ⟨q1, rdx_far q2 q3 nil_of (p := ⟨b7, 3, none⟩) (show b7 < _ by omega) _, q3⟩
  case hdone =>
    rintro D xs W hD hxs hi hKD
    have hi0 := hi
    obtain ⟨A', c', L, lc, RA, rc, h1, ⟨h2, h3, h4⟩, ⟨h5, h6⟩, h7, h8, h9, h10, h11⟩ := hi
    rw [hxs] at h8 h9 h10 h11
    have hkW : Keep w W := hkw W h1
    have h4' : Blk W (w.heap.size + 1) 29 zs.toList := (h1.block _ (by have := H4.out.lt; omega) H4.out.lt (fun q => by omega)).trans H4.out
    generalize hO : outE cl (evs g n cl) = O at *
    obtain ⟨ks2, hk2⟩ : ∃ ks2, BuA (bufL g n RA O.1.length rc O.2) ks2 := ⟨_, BuA.of ..⟩
    go_upto_region 22 with fail
    have hkn := hk2.n; have hkz := hk2.z; have hki := hk2.i
    have HKS := Lib.hid hk2; have HKW := Lib.hid hkW; have H4' := Lib.hid h4'; have H5' := Lib.hid h5; have H6'' := Lib.hid h6; have H7'' := Lib.hid h7
    have H8'' : Hid (Blk W b7 29 ks2.toList) := by rw [hk2.l]; exact Lib.hid h8
    have H9' := Lib.hid h9; have H10' := Lib.hid h10; have H11' := Lib.hid h11; have HXS := Lib.hid hxs; have HKD := Lib.hid hKD; have HOO := Lib.hid hO
    clear hk2 hkW h4' h5 h6 h7 h8 h9 h10 h11 hxs hKD hO h1 h2 h3 h4 hi0 hkw
    letI iM : G.Mk := ⟨some (w.heap.size + 1)⟩
    refine G.wp_region_tree (.take [0,1] (.force [2] (.take [3] .done))) [] (by kernel_rfl) (by kernel_rfl) (fun wa ka => ?_)
    have hne7 : G.Mk.m ≠ some b7 := fun q => by have e : w.heap.size + 1 = b7 := Option.some.inj q; omega
    have hne8 : G.Mk.m ≠ some b8 := fun q => by have e : w.heap.size + 1 = b8 := Option.some.inj q; omega
    have B8 := G.aftG_cell (keep_cell ka (show W.cell? ⟨b8, 0, none⟩ = some (.slice L (okR xs).length lc) from (H5'.out.cell 0).trans rfl)) hne8
    have B7 := Lib.hid (H8''.out.keep ka)
    have B4 := Lib.hid (H4'.out.keep ka)
    have KA := Lib.hid ka
    clear ka
    refine G.mt_take wa (G.Gr.refl _) ?_
    simp only [pick_cons, pick_nil, nth_zero, nth_succ]
    repeat (first | ((with_reducible refine G.wpQuiet_load_arrG b7 ks2 (Eq.trans ?_ rfl) B7.out hne7 _ Tryd.underlying29 rfl hki ?_); rfl; simp only [Act.put, Array.set!_eq_setIfInBounds, List.setIfInBounds_toArray, List.set_cons_succ, List.set_cons_zero]) | go_big_quiet_step (fail))
    clear B8 hne7 hne8
    obtain ⟨w8, hst8, hb8', hg8⟩ := run_store_blk (P := Tryd.prog) ks2.toList B4.out (by rw [Array.length_toList, Array.length_toList, hzz, hkz]) HKS.out.o
    have HB8 := Lib.hid hb8'
    refine wpQuiet_nil (G.mt_force ?_)
    simp only [pick_cons, pick_nil, nth_zero, nth_succ]
    refine G.fc_step rfl (fun K hK => ?_)
    go_simp
    refine hK _ _ (show G.Gr wa w8 from hg8) ?_
    have HG8 := Lib.hid hg8
    clear hK K hst8 hg8 hb8'
    refine G.fc_nil (G.mt_take _ (G.Gr.refl _) ?_)
    simp only [pick_cons, pick_nil, nth_zero, nth_succ]
    repeat (go_big_quiet_step (fail))
    refine wpQuiet_nil (G.mt_end ?_)
    clear iM
    go_wp2
    have hq : w.heap.size + 1 < w7.heap.size := by omega
    have hDq : w.heap.size + 1 ≠ D := by omega
    have hK8 : w8.heap[D]? = some (.deferred (some [])) := (HG8.out.block D (by have := (Array.getElem?_eq_some_iff.1 HKD.out).1; have := KA.out.size; omega) (fun e => by injection e with e; omega)).trans ((KA.out.block D (Array.getElem?_eq_some_iff.1 HKD.out).1).trans HKD.out)
    have hstp : Stp w7.heap.size (gb + 2) w8 (w8.putObj D (.deferred none)) := ⟨some D, grownBy_putObj' _ _ _, fun r e => by cases e; exact Or.inr ⟨hD, _, hK8, rfl⟩⟩
    have hB9 : Blk (w8.putObj D (.deferred none)) (w.heap.size + 1) 29 ks2.toList := (World.putObj_heap_other hDq).trans HB8.out
    have hmv : ∀ (row : Option Nat) (P : Option Addr) (l : List UInt8), RdX row W P (l.map u8v) → FreshA w7.heap.size P l.length → Rd (w8.putObj D (.deferred none)) P (l.map u8v) := fun row P l q1 q2 =>
      (hstp.rdx (by omega) (rdx_grownq (q1.keep KA.out) q2 nil_of HG8.out hq) q2 nil_of).rd
    refine ⟨by simp, .inl ⟨D, _, rfl, run_takeDeferred hK8, ?_⟩⟩
    refine ⟨.tuple #[.agg ks2, .slice L (okR xs).length lc], results_cell_tmp_row Tryd.results37 _ _ (w.heap.size + 1) _ _ _ _ rfl hB9 Tryd.underlying29 rfl (by rw [List.size_toArray, Array.length_toList]; exact hki), ks2, L, lc, xs, RA, rc, rfl, HXS.out, ?_⟩
    rw [HOO.out]
    refine ⟨HKS.out, ⟨H9'.out.1, H9'.out.2, hmv _ _ _ H10'.out H11'.out⟩, own_rd (hstp.own (by omega) (own_grownq (own_keep H6''.out KA.out) HG8.out hq)), fun x hx => ?_, keep_putObj ((keep_trans HKW.out KA.out).grown HG8.out (keep_trans HKW.out KA.out).size (fun r hr => by injection hr with hr; omega)) _ (by omega)⟩
    obtain ⟨q1, q2, q3⟩ := H7''.out x hx
    exact ⟨q1.1, q1.2, hmv _ _ _ q2 q3⟩
end Go.Proofs.YtffpanlpbdnafaaDoor

/- What a peer is fed, plainly; messages in a row that is appended to. -/
set_option linter.unusedSimpArgs false
set_option linter.unusedVariables false
namespace Go.Proofs.YtffpanlpbdnafaaDoor
open Go.RowKit
def feedL : List (List UInt8 × List UInt8) → List MsgR × Int
  | [] => ([], 0)
  | x :: l => if (kindN x.1).2 = true then if (wgetN x.1 x.2).2 = 0 then ((wgetN x.1 x.2).1 :: (feedL l).1, (feedL l).2) else ([], (wgetN x.1 x.2).2) else feedL l
def PeR.pl (p : PeR) : PeR := { p with rA := none, rc := 0 }
def feedO (q : PeR) (O : List UInt8 × Int) (F : List MsgR × Int) : PeR × List MsgR × Int :=
  if F.2 = 0 then
    if O.2 = 0 then ({ q with rA := none, rs := O.1, rc := 0, bad := O.2 }, F.1, 0)
    else (PeR.ban { q with rA := none, rs := O.1, rc := 0, bad := O.2 }, F.1, O.2)
  else (PeR.ban { q with rA := none, rs := O.1, rc := 0, bad := O.2 }, F.1, F.2)
def feedP (q : PeR) (cl : List UInt8) : PeR × List MsgR × Int := feedO q (outE cl (evs q.magic q.cap cl)) (feedL ((okE (evs q.magic q.cap cl)).map Prod.fst))
def FeedQ (R : PeR × List MsgR × Int) (w : World) (e : Ending) (w' : World) : Prop := ∃ (ds : Array Value) (z : PeR) (L : Option Addr) (lc : Nat) (ms : List MsgR),
  e = .returned (.tuple #[.agg ds, .slice L ms.length lc, iv R.2.2]) ∧ PeA z ds ∧ z.at_ w' ∧ z.pl = R.1 ∧ ms.map MsgR.pl = R.2.1 ∧ (ms.length ≤ lc ∧ lc ≤ maxLen) ∧ Rd w' L (ms.flatMap MsgR.cells) ∧ (∀ m ∈ ms, m.at_ w') ∧ Keep w w'
def FI (X : List EvR) (F : List MsgR × Int) (ms : List MsgR) (k : Nat) : Prop := ms.map MsgR.pl ++ (feedL ((X.drop k).map fun x => (x.c, x.p))).1 = F.1 ∧ (feedL ((X.drop k).map fun x => (x.c, x.p))).2 = F.2
section
variable {X : List EvR} {F : List MsgR × Int} {ms : List MsgR} {k : Nat}
theorem FI.start (h : feedL (X.map fun x => (x.c, x.p)) = F) : FI X F [] 0 := by unfold FI; rw [List.drop_zero, h]; exact ⟨rfl, rfl⟩
theorem FI.fin (h : FI X F ms X.length) : ms.map MsgR.pl = F.1 ∧ F.2 = 0 := by
  unfold FI at h
  rw [List.drop_length] at h
  exact ⟨by simpa [feedL] using h.1, h.2.symm⟩
theorem FI.skip (h : FI X F ms k) (hk : k < X.length) (h0 : (kindN X[k].c).2 = false) : FI X F ms (k + 1) := by
  unfold FI at h ⊢
  rw [List.drop_eq_getElem_cons hk, List.map_cons, feedL, if_neg (by rw [h0]; decide)] at h
  exact h
theorem FI.next (h : FI X F ms k) (hk : k < X.length) (h0 : (kindN X[k].c).2 = true) (h1 : (wgetN X[k].c X[k].p).2 = 0) (m : MsgR) (hm : m.pl = (wgetN X[k].c X[k].p).1) : FI X F (ms ++ [m]) (k + 1) := by
  unfold FI at h ⊢
  rw [List.drop_eq_getElem_cons hk, List.map_cons, feedL, if_pos h0, if_pos h1] at h
  rw [List.map_append, List.append_assoc]
  refine ⟨?_, h.2⟩
  rw [← h.1, List.map_cons, hm]
  rfl
theorem FI.stop (h : FI X F ms k) (hk : k < X.length) (h0 : (kindN X[k].c).2 = true) (h1 : (wgetN X[k].c X[k].p).2 ≠ 0) : ms.map MsgR.pl = F.1 ∧ F.2 = (wgetN X[k].c X[k].p).2 := by
  unfold FI at h
  rw [List.drop_eq_getElem_cons hk, List.map_cons, feedL, if_pos h0, if_neg h1] at h
  exact ⟨by simpa using h.1, h.2.symm⟩
end
def AtM (B : Nat) (w : World) (v : Value) (ms : List MsgR) : Prop := ∀ W : World, (∀ k, B ≤ k → k < w.heap.size → v.ownBlock ≠ some k → W.heap[k]? = w.heap[k]?) → ∀ q ∈ ms, q.at_ W
theorem AtM.more {B : Nat} {wr w4 w5 : World} {v v' : Value} {qs : List MsgR} {q : MsgR} {n size : Nat} {e : TypeId} {xs : List Value} (h : AtM B wr v qs) (own : wr.ownsRow B e size v n xs) (hB : B ≤ wr.heap.size) (hk : Keep wr w4) (hg : w4.grownBy w5 v.ownBlock)
    (hv : v'.ownBlock = v.ownBlock ∨ v'.ownBlock = some w4.heap.size) (hm : ∀ W, MidF (fun _ => True) wr w4 W → q.at_ W) : AtM B w5 v' (qs ++ [q]) := by
  intro W hW
  have g4 : ∀ k, B ≤ k → k < w4.heap.size → v.ownBlock ≠ some k → W.heap[k]? = w4.heap[k]? := fun k h1 h2 h3 =>
    (hW k h1 (Nat.lt_of_lt_of_le h2 hg.size) (by
      rcases hv with e | e
      · rw [e]; exact h3
      · rw [e]; intro q; cases q; omega)).trans (hg.block k h2 (Ne.symm h3))
  intro x hx
  rcases List.mem_append.1 hx with hx | hx
  · exact h W (fun k h1 h2 h3 => (g4 k h1 (Nat.lt_of_lt_of_le h2 hk.size) h3).trans (hk.block k h2)) x hx
  · obtain rfl : x = q := by simpa using hx
    exact hm W ⟨trivial, fun k h1 h2 => g4 k (Nat.le_trans hB h1) h2 (fun e => by have := (own.lt k e).2; omega)⟩
theorem AtM.keep {B : Nat} {w w' : World} {v : Value} {ms : List MsgR} (h : AtM B w v ms) (k : Keep w w') : AtM B w' v ms := fun W hW => h W (fun j h1 h2 h3 => (hW j h1 (Nat.lt_of_lt_of_le h2 k.size) h3).trans (k.block j h2))
theorem evs_cns (g : UInt32) (n : Int) (cl : List UInt8) : cnsE (okE (evs g n cl)) ≤ cl.length := by
  rcases List.eq_nil_or_concat (evs g n cl) with h | ⟨pre, x, h⟩
  · rw [h]; exact Nat.zero_le _
  · rw [List.concat_eq_append] at h
    obtain ⟨h1, h2, -, h4, -⟩ := evL_at g n _ cl pre x [] h.symm
    rw [h]
    have e : okE (pre ++ [x]) = okE pre ++ okE [x] := List.filter_append ..
    rw [e, okE_all h1, cnsE_app]
    by_cases hx : x.2 = 0
    · have h5 := h4 hx
      rw [List.length_drop] at h5
      have e2 : okE [x] = [x] := okE_all (fun y hy => by rw [List.mem_singleton.1 hy]; exact hx)
      rw [e2, cnsE_cons]
      show _ + (_ + 0) ≤ _
      omega
    · have e2 : okE [x] = [] := by simp [okE, hx]
      rw [e2]
      exact h2
theorem cns_mem {l : List Ev} {y : Ev} (h : y ∈ l) : y.1.2.length ≤ cnsE l := by
  induction l with
  | nil => cases h
  | cons x l ih =>
    rw [cnsE_cons]
    rcases List.mem_cons.1 h with rfl | h
    · omega
    · have := ih h; omega
theorem outE_le (cl : List UInt8) (l : List Ev) : (outE cl l).1.length ≤ cl.length := by
  unfold outE
  cases l.getLast? with
  | none => exact Nat.zero_le _
  | some y =>
    show (if y.2 = 0 then _ else if y.2 = 1 then _ else _ : List UInt8 × Int).1.length ≤ _
    by_cases h0 : y.2 = 0
    · rw [if_pos h0]; exact Nat.zero_le _
    · rw [if_neg h0]
      by_cases h1 : y.2 = 1
      · rw [if_pos h1]; show (cl.drop _).length ≤ _; rw [List.length_drop]; omega
      · rw [if_neg h1]; exact Nat.zero_le _
theorem taken_nil {p : PeR} (h : p.rs = []) : (takenP p).rs = [] := by
  unfold takenP
  by_cases hs : saneP p = true
  · rw [if_pos hs]; exact h
  · rw [if_neg hs]; rfl
theorem taken_cap (p : PeR) : (takenP p).cap = bndF (takenP p).cap := by
  unfold takenP
  by_cases hs : saneP p = true
  · rw [if_pos hs]
    simp only [saneP, fsaneB, Bool.and_eq_true, decide_eq_true_eq] at hs
    exact hs.2
  · rw [if_neg hs]
    show bndF p.cap = bndF (bndF p.cap)
    rw [bnd_bnd]
end Go.Proofs.YtffpanlpbdnafaaDoor

/- peer.Send of one that is not banned and of which nothing is left (printed by gen_rs.py) -/
set_option linter.unusedSimpArgs false
set_option linter.unusedVariables false
namespace Go.Proofs.YtffpanlpbdnafaaDoor
open Go.RowKit
attribute [local go_sem ↓] Go.wp_at_zero Go.wp_at_succ
theorem name_cmd : ∀ k : Fin 11, cmdB (nameL ((k.val : Nat) : Int)) = true := by decide
theorem fits_kindS {m : MsgR} (h : fitsB m = true) : 0 ≤ m.kind ∧ m.kind < 11 := by
  unfold fitsB at h
  have q := of_decide_eq_true h
  exact ⟨q.1, q.2.1⟩
theorem fits_cmd {m : MsgR} (h : fitsB m = true) : cmdB (nameL m.kind) = true := by
  obtain ⟨h1, h2⟩ := fits_kindS h
  have q := name_cmd ⟨m.kind.toNat, by omega⟩
  have e : ((m.kind.toNat : Nat) : Int) = m.kind := by omega
  simp only [e] at q
  exact q
set_option maxRecDepth 100000 in
set_option maxHeartbeats 8000000 in
theorem send_ok (p : PeR) (cs : Array Value) (hA : PeA p cs) (hr : p.rs = []) (hst3 : (takenP p).stage ≠ 3) (m : MsgR) (ms : Array Value) (hM : MsA m ms) (w : World) (hm : m.at_ w) (hS : ShaOk w) (hpl : (putL m).length ≤ 4000000) (hf : fitsB m = true) :
    Calls Tryd.prog 14 #[.agg cs, .agg ms] w fun e w' => ∃ v, e = .returned (.tuple #[v, iv 0]) ∧ w'.ownsRow w.heap.size 5 1 v (24 + (putL m).length) ((putF (takenP p).magic (nameL m.kind) (putL m)).map u8v) ∧ Keep w w' := by
  have TK : Hid (∀ y, Calls Tryd.prog 26 #[.agg cs] y fun e w' => ∃ ds, e = .returned (.agg ds) ∧ PeA (takenP p) ds ∧ Keep y w') := Lib.hid fun y => ptaken_any p cs hA hr y
  have NM : Hid (∀ y, Calls Tryd.prog 21 #[.int .i64 m.kind] y fun e w' => e = .returned (.string (str (nameL m.kind))) ∧ Keep y w') := Lib.hid fun y => name_any m.kind y
  have PU : Hid (∀ y, Keep w y → Calls Tryd.prog 31 #[.agg ms] y fun e w' => ∃ v, e = .returned (.tuple #[v, iv 0]) ∧ w'.ownsRow y.heap.size 5 1 v (putL m).length ((putL m).map u8v) ∧ Keep y w') := Lib.hid fun y hy => by
    have q := put_any m ms hM y (hm.keep hy)
    rw [if_pos hf] at q
    exact q
  have FP : Hid (fitsB m = true → ∀ y A c, Keep w y → (putL m).length ≤ c → c ≤ maxLen → Rd y A ((putL m).map u8v) → Calls Tryd.prog 32 #[u32v (takenP p).magic, .agg #[.string (str (nameL m.kind)), .slice A (putL m).length c]] y fun e w' => ∃ v, e = .returned (.tuple #[v, iv 0]) ∧ w'.ownsRow y.heap.size 5 1 v (24 + (putL m).length) ((putF (takenP p).magic (nameL m.kind) (putL m)).map u8v) ∧ Keep y w') := Lib.hid fun hf y A c hy h1 h2 h3 =>
    fput_any (takenP p).magic (nameL m.kind) (putL m) A (putL m).length c y rfl ⟨h1, h2⟩ hpl (fits_cmd hf) h3 (hS.keep hy)
  have hcn := hA.n; have hcz := hA.z; have hci := hA.i
  have hmn := hM.n; have hmz := hM.z; have hmi := hM.i
  have HA := Lib.hid hA; have HMS := Lib.hid hM
  have HST := Lib.hid hst3
  have HF := Lib.hid hf
  clear hA hr hst3 hM hm hS hpl hf
  generalize takenP p = q at *
  generalize putF q.magic (nameL m.kind) (putL m) = FB at *
  go_enter Tryd.func14, Tryd.ntmps14
  go_upto_region 1 with fail
  obtain ⟨w1, hw1⟩ : ∃ w1, w1 = (w.alloc (.cells cs 31)).alloc (.cells ms 50) := ⟨_, rfl⟩
  have HB1 : Hid (Blk w1 w.heap.size 31 cs.toList) := by rw [hw1]; exact Lib.hid ((Blk.new w _ cs.toList).alloc _)
  have HM1 : Hid (Blk w1 (w.heap.size + 1) 50 ms.toList) := by
    rw [hw1]
    have h2 := Blk.new (w.alloc (.cells cs 31)) 50 ms.toList
    rw [World.size_alloc] at h2
    exact Lib.hid h2
  have HK1 : Hid (Keep w w1) := by rw [hw1]; exact Lib.hid (keep_trans (keep_new _ _) (keep_new _ _))
  rw [← hw1]
  clear hw1
  go_wp2_with ((with_reducible refine load_arr w.heap.size cs (Eq.trans ?_ rfl) HB1.out _ Tryd.underlying31 rfl hci ?_); rfl)
  refine (TK.out _).mono ?_
  clear TK
  rintro e w2 ⟨qs, rfl, hqA, k2⟩
  have hqn := hqA.n; have hqz := hqA.z; have hqi := hqA.i
  have HQ := Lib.hid hqA
  have HK2 := Lib.hid (keep_trans HK1.out k2)
  obtain ⟨w3, hst3, hb3, hg3⟩ := run_store_blk (P := Tryd.prog) qs.toList (HB1.out.keep k2) (by rw [Array.length_toList, Array.length_toList, hcz, hqz]) HQ.out.o
  have HB3 : Hid (Blk w3 w.heap.size 31 q.cells) := by rw [← HQ.out.l]; exact Lib.hid hb3
  have HM3 : Hid (Blk w3 (w.heap.size + 1) 50 ms.toList) := Lib.hid ((HM1.out.keep k2).grown hg3 (fun e => by injection e with e; omega))
  have HK3 : Hid (Keep w w3) := Lib.hid (HK2.out.grown hg3 HK2.out.size (fun q hq => by injection hq with hq; omega))
  clear k2 HB1 HK1 HK2 hqA hb3 hg3 HM1
  go_upto_region 2 with fail
  clear hst3
  have r0 : w3.cell? ⟨w.heap.size, 0, none⟩ = some (iv q.stage) := (HB3.out.cell 0).trans rfl
  have d0 : (q.stage == 3) = false := by rw [beq_eq_false_iff_ne]; exact HST.out
  go_upto_region 5 with (first | ((with_reducible refine load_arr (w.heap.size + 1) ms (Eq.trans ?_ rfl) HM3.out _ Tryd.underlying50 rfl hmi ?_); rfl) | (go_at_call 31; refine (PU.out _ HK3.out).mono ?_; rintro e w4 ⟨v4, rfl, ow4, k4⟩; have OW4 := Lib.hid ow4; have HK4 := Lib.hid (keep_trans HK3.out k4); have HB4 := Lib.hid (HB3.out.keep k4); have HM4 := Lib.hid (HM3.out.keep k4); clear ow4 k4))
  clear r0 d0 PU HB3 HM3 HK3
  obtain ⟨A4, c4, rfl, hc4, hm4, hr4⟩ := own_form OW4.out
  have HC4 := Lib.hid hc4; have HM4' := Lib.hid hm4; have HR4 := Lib.hid hr4
  clear hc4 hm4 hr4 OW4
  go_upto_region 7 with fail
  refine wp_region_tree (.take [0,1,2,3,4,6] (.force [5] (.take [7] (.force [8] (.take [9,10,11,12] .done))))) [] (by kernel_rfl) (by kernel_rfl) (fun y0 hk => ?_)
  have HK5 := Lib.hid (keep_trans HK4.out hk)
  have r6 := aft_cell (show y0.cell? ⟨w.heap.size, 6, none⟩ = some (u32v q.magic) from ((HB4.out.keep hk).cell 6).trans rfl)
  have m0 := aft_cell (show y0.cell? ⟨w.heap.size + 1, 0, none⟩ = some (iv m.kind) from ((HM4.out.keep hk).cell 0).trans (by rw [HMS.out.l]; rfl))
  have HR5 := Lib.hid (HR4.out.keep hk)
  clear hk HB4 HM4 HK4 HR4
  refine mt_take y0 (Below.refl _ _) ?_
  simp only [pick_cons, pick_nil, nth_zero, nth_succ]
  repeat (go_big_quiet_step (fail))
  clear r6 m0
  refine wpQuiet_nil (mt_force ?_)
  simp only [pick_cons, pick_nil, nth_zero, nth_succ]
  refine fc_step rfl (fun K hK => ?_)
  go_simp
  (with_reducible refine (NM.out _).mono ?_)
  rintro e y1 ⟨rfl, hk⟩
  refine hK _ _ hk ?_
  clear hK K NM
  have HK6 := Lib.hid (keep_trans HK5.out hk); have HR6 := Lib.hid (HR5.out.keep hk)
  clear hk HK5 HR5
  refine fc_nil (mt_take y1 (Below.refl _ _) ?_)
  simp only [pick_cons, pick_nil, nth_zero, nth_succ]
  repeat (go_big_quiet_step (fail))
  refine wpQuiet_nil (mt_force ?_)
  simp only [pick_cons, pick_nil, nth_zero, nth_succ]
  refine fc_step rfl (fun K hK => ?_)
  go_simp
  (with_reducible refine (FP.out HF.out y1 A4 c4 HK6.out HC4.out HM4'.out HR6.out).mono ?_)
  rintro e y2 ⟨v2, rfl, ow2, hk⟩
  refine hK _ _ hk ?_
  clear hK K FP
  have OW2 := Lib.hid (own_base ow2 HK6.out.size)
  have HK7 := Lib.hid (keep_trans HK6.out hk)
  clear hk ow2 HK6 HR6
  refine fc_nil (mt_take y2 (Below.refl _ _) ?_)
  simp only [pick_cons, pick_nil, nth_zero, nth_succ]
  repeat (go_big_quiet_step (fail))
  refine wpQuiet_nil (mt_end ?_)
  go_wp2
  exact bodyPost_ret (v := .tuple #[v2, iv 0]) (by simp [results, Tryd.results14]) rfl ⟨_, rfl, OW2.out, HK7.out⟩
set_option maxRecDepth 100000 in
set_option maxHeartbeats 8000000 in
theorem send_no (p : PeR) (cs : Array Value) (hA : PeA p cs) (hr : p.rs = []) (hst3 : (takenP p).stage ≠ 3) (m : MsgR) (ms : Array Value) (hM : MsA m ms) (w : World) (hm : m.at_ w) (hS : ShaOk w) (hpl : (putL m).length ≤ 4000000) (hf : fitsB m = false) :
    Calls Tryd.prog 14 #[.agg cs, .agg ms] w fun e w' => e = .returned (.tuple #[.slice none 0 0, iv 2]) ∧ Keep w w' := by
  have TK : Hid (∀ y, Calls Tryd.prog 26 #[.agg cs] y fun e w' => ∃ ds, e = .returned (.agg ds) ∧ PeA (takenP p) ds ∧ Keep y w') := Lib.hid fun y => ptaken_any p cs hA hr y
  have NM : Hid (∀ y, Calls Tryd.prog 21 #[.int .i64 m.kind] y fun e w' => e = .returned (.string (str (nameL m.kind))) ∧ Keep y w') := Lib.hid fun y => name_any m.kind y
  have PU : Hid (∀ y, Keep w y → Calls Tryd.prog 31 #[.agg ms] y fun e w' => ∃ v, e = .returned (.tuple #[v, iv 2]) ∧ w'.ownsRow y.heap.size 5 1 v (putL m).length ((putL m).map u8v) ∧ Keep y w') := Lib.hid fun y hy => by
    have q := put_any m ms hM y (hm.keep hy)
    rw [if_neg (by rw [hf]; decide)] at q
    exact q
  have FP : Hid (fitsB m = true → ∀ y A c, Keep w y → (putL m).length ≤ c → c ≤ maxLen → Rd y A ((putL m).map u8v) → Calls Tryd.prog 32 #[u32v (takenP p).magic, .agg #[.string (str (nameL m.kind)), .slice A (putL m).length c]] y fun e w' => ∃ v, e = .returned (.tuple #[v, iv 0]) ∧ w'.ownsRow y.heap.size 5 1 v (24 + (putL m).length) ((putF (takenP p).magic (nameL m.kind) (putL m)).map u8v) ∧ Keep y w') := Lib.hid fun hf y A c hy h1 h2 h3 =>
    fput_any (takenP p).magic (nameL m.kind) (putL m) A (putL m).length c y rfl ⟨h1, h2⟩ hpl (fits_cmd hf) h3 (hS.keep hy)
  have hcn := hA.n; have hcz := hA.z; have hci := hA.i
  have hmn := hM.n; have hmz := hM.z; have hmi := hM.i
  have HA := Lib.hid hA; have HMS := Lib.hid hM
  have HST := Lib.hid hst3
  clear hA hr hst3 hM hm hS hpl hf FP NM
  generalize takenP p = q at *
  go_enter Tryd.func14, Tryd.ntmps14
  go_upto_region 1 with fail
  obtain ⟨w1, hw1⟩ : ∃ w1, w1 = (w.alloc (.cells cs 31)).alloc (.cells ms 50) := ⟨_, rfl⟩
  have HB1 : Hid (Blk w1 w.heap.size 31 cs.toList) := by rw [hw1]; exact Lib.hid ((Blk.new w _ cs.toList).alloc _)
  have HM1 : Hid (Blk w1 (w.heap.size + 1) 50 ms.toList) := by
    rw [hw1]
    have h2 := Blk.new (w.alloc (.cells cs 31)) 50 ms.toList
    rw [World.size_alloc] at h2
    exact Lib.hid h2
  have HK1 : Hid (Keep w w1) := by rw [hw1]; exact Lib.hid (keep_trans (keep_new _ _) (keep_new _ _))
  rw [← hw1]
  clear hw1
  go_wp2_with ((with_reducible refine load_arr w.heap.size cs (Eq.trans ?_ rfl) HB1.out _ Tryd.underlying31 rfl hci ?_); rfl)
  refine (TK.out _).mono ?_
  clear TK
  rintro e w2 ⟨qs, rfl, hqA, k2⟩
  have hqn := hqA.n; have hqz := hqA.z; have hqi := hqA.i
  have HQ := Lib.hid hqA
  have HK2 := Lib.hid (keep_trans HK1.out k2)
  obtain ⟨w3, hst3, hb3, hg3⟩ := run_store_blk (P := Tryd.prog) qs.toList (HB1.out.keep k2) (by rw [Array.length_toList, Array.length_toList, hcz, hqz]) HQ.out.o
  have HB3 : Hid (Blk w3 w.heap.size 31 q.cells) := by rw [← HQ.out.l]; exact Lib.hid hb3
  have HM3 : Hid (Blk w3 (w.heap.size + 1) 50 ms.toList) := Lib.hid ((HM1.out.keep k2).grown hg3 (fun e => by injection e with e; omega))
  have HK3 : Hid (Keep w w3) := Lib.hid (HK2.out.grown hg3 HK2.out.size (fun q hq => by injection hq with hq; omega))
  clear k2 HB1 HK1 HK2 hqA hb3 hg3 HM1
  go_upto_region 2 with fail
  clear hst3
  have r0 : w3.cell? ⟨w.heap.size, 0, none⟩ = some (iv q.stage) := (HB3.out.cell 0).trans rfl
  have d0 : (q.stage == 3) = false := by rw [beq_eq_false_iff_ne]; exact HST.out
  go_upto_region 5 with (first | ((with_reducible refine load_arr (w.heap.size + 1) ms (Eq.trans ?_ rfl) HM3.out _ Tryd.underlying50 rfl hmi ?_); rfl) | (go_at_call 31; refine (PU.out _ HK3.out).mono ?_; rintro e w4 ⟨v4, rfl, ow4, k4⟩; have OW4 := Lib.hid ow4; have HK4 := Lib.hid (keep_trans HK3.out k4); have HB4 := Lib.hid (HB3.out.keep k4); have HM4 := Lib.hid (HM3.out.keep k4); clear ow4 k4))
  clear r0 d0 PU HB3 HM3 HK3
  go_wp2
  exact bodyPost_ret (v := .tuple #[.slice none 0 0, iv 2]) (by simp [results, Tryd.results14]) rfl ⟨rfl, HK4.out⟩
end Go.Proofs.YtffpanlpbdnafaaDoor

/- peer.Feed of one that is not banned, of which nothing is left and that is not bad (printed by gen_rfd.py) -/
set_option linter.unusedSimpArgs false
set_option linter.unusedVariables false
namespace Go.Proofs.YtffpanlpbdnafaaDoor
open Go.RowKit
attribute [local go_sem ↓] Go.wp_at_zero Go.wp_at_succ
theorem mcells_at {w : World} {A : Option Addr} {X : List EvR} (hr : Rd w A (X.flatMap EvR.mcells)) {k : Nat} (h : k < X.length) : ∃ b off, A = some ⟨b, off, none⟩ ∧ w.rangeAt b (off + k * 2) [.string (str X[k].c), .slice X[k].P X[k].p.length X[k].pc] := by
  have hl : (X.flatMap EvR.mcells).length = X.length * 2 := flatMap_len EvR.mcells 2 (fun _ => rfl) X
  rcases hr with h0 | ⟨b, off, rfl, hc⟩
  · rw [h0] at hl; simp at hl; omega
  · refine ⟨b, off, rfl, fun j v hv => ?_⟩
    have hj : j < 2 := (List.getElem?_eq_some_iff.1 hv).1
    have q := hc (k * 2 + j) (by omega)
    rw [← Nat.add_assoc] at q
    rw [q]
    have e := flatMap_get EvR.mcells 2 (fun _ => rfl) X k j h hj
    have e2 : (X.flatMap EvR.mcells)[k * 2 + j]? = some ((X.flatMap EvR.mcells)[k * 2 + j]'(by omega)) := List.getElem?_eq_getElem _
    rw [← e2]
    exact (e.trans (show (EvR.mcells X[k])[j]? = some v from hv))
theorem run_store_partP {P : Program} {w : World} {g : Nat} {t : TypeId} {all : List Value} (off : Nat) (cs : List Value) (hb : Blk w g t all) (hl : off + cs.length ≤ all.length) (h1 : ∀ v ∈ cs, v.oneCell' = true) :
    ∃ w', (storeCells ⟨g, off, none⟩ cs 0).run P w = .ok () w' ∧ Blk w' g t (splice all off cs) ∧ w.grownBy w' (some g) := by
  have hrun := run_storeCells_at P g off t cs 0 all.toArray w hb (by simpa using hl) h1
  simp only [Nat.add_zero, List.toList_toArray] at hrun
  refine ⟨_, hrun, ?_, rfl, rfl, rfl, by simp [World.setRow], fun k _ hne => setRow_other w g k _ (fun e => hne (by rw [e]))⟩
  have h := setRow_heap w g all.toArray (all.take off ++ cs ++ all.drop (off + cs.length)).toArray t (0, 0) hb
  unfold Blk splice
  rw [← List.append_assoc]
  exact h
theorem pe_no8 (q : PeR) : ∀ v ∈ q.cells, ∀ x : UInt8, v ≠ u8v x := by
  intro v hv x e
  unfold PeR.cells at hv
  simp only [List.mem_cons, List.not_mem_nil, or_false] at hv
  rcases hv with rfl | rfl | rfl | rfl | rfl | rfl | rfl | rfl | rfl | rfl <;> cases e
theorem pe_nos (q : PeR) : ∀ v ∈ q.cells, ∀ s, v ≠ Value.string s := by
  intro v hv x e
  unfold PeR.cells at hv
  simp only [List.mem_cons, List.not_mem_nil, or_false] at hv
  rcases hv with rfl | rfl | rfl | rfl | rfl | rfl | rfl | rfl | rfl | rfl <;> cases e
theorem rd_far_of {w w' : World} {g : Nat} {t : TypeId} {l xs : List Value} {P : Option Addr} (h : Rd w P xs) (hb : Blk w g t l) (hx : ∀ v ∈ l, xs[0]? ≠ some v) (hg : w.grownBy w' (some g)) : Rd w' P xs := by
  by_cases h0 : xs = []
  · exact .inl h0
  rcases h with h1 | ⟨b, off, rfl, hc⟩
  · exact .inl h1
  have hp := List.length_pos_iff.2 h0
  refine .inr ⟨b, off, rfl, fun j hj => grown_cell hg (hc j hj) (fun e => ?_)⟩
  injection e with e
  subst e
  have q := hc 0 hp
  rw [Nat.add_zero, hb.cell] at q
  exact hx _ (List.mem_of_getElem? q) (List.getElem?_eq_getElem hp)
theorem rd8_far {w w' : World} {g : Nat} {t : TypeId} {q : PeR} {l : List UInt8} {P : Option Addr} (h : Rd w P (l.map u8v)) (hb : Blk w g t q.cells) (hg : w.grownBy w' (some g)) : Rd w' P (l.map u8v) :=
  rd_far_of h hb (fun v hv e => by
    rw [List.getElem?_map] at e
    obtain ⟨x, hx, e2⟩ := Option.map_eq_some_iff.1 e
    exact pe_no8 q v hv x e2.symm) hg
theorem rdm_far {w w' : World} {g : Nat} {t : TypeId} {q : PeR} {X : List EvR} {P : Option Addr} (h : Rd w P (X.flatMap EvR.mcells)) (hb : Blk w g t q.cells) (hg : w.grownBy w' (some g)) : Rd w' P (X.flatMap EvR.mcells) :=
  rd_far_of h hb (fun v hv e => by
    cases X with
    | nil => simp at e
    | cons x X =>
      simp only [List.flatMap_cons, EvR.mcells, List.cons_append, List.getElem?_cons_zero, Option.some.injEq] at e
      exact pe_nos q v hv _ e.symm) hg
set_option maxRecDepth 100000 in
set_option maxHeartbeats 8000000 in
theorem pfeed_any (p : PeR) (cs : Array Value) (hA : PeA p cs) (hr : p.rs = []) (hst3 : (takenP p).stage ≠ 3) (hbd : (takenP p).bad = 0) (C : Option Addr) (cl : List UInt8) (M cc : Nat) (w : World) (hM : cl.length = M) (hb : M ≤ 1000000000) (hc : M ≤ cc ∧ cc ≤ maxLen) (hrd : Rd w C (cl.map u8v)) (hS : ShaOk w) :
    Calls Tryd.prog 17 #[.agg cs, .slice C M cc] w (FeedQ (feedP (takenP p) cl) w) := by
  obtain ⟨zs, hz0, hzA⟩ := zpeer_letter
  obtain ⟨zb, hy0, hyA⟩ := zbuf_letter
  obtain ⟨zm, hm0, hmz, hmn, hmo⟩ := zfmsg_letter
  obtain ⟨zg, hg0, hgA⟩ := zmsg_letter
  have hzn := hzA.n; have hzz := hzA.z; have hyn := hyA.n; have hyz := hyA.z; have hgn := hgA.n; have hgz := hgA.z
  have HGZ := Lib.hid hgA
  have TK : Hid (∀ y, Calls Tryd.prog 26 #[.agg cs] y fun e w' => ∃ ds, e = .returned (.agg ds) ∧ PeA (takenP p) ds ∧ Keep y w') := Lib.hid fun y => ptaken_any p cs hA hr y
  have hq0 := taken_nil hr
  have hq1 := taken_cap p
  have FF : Hid (∀ y, Keep w y → ∀ bs, BuA (bufL (takenP p).magic (takenP p).cap (takenP p).rA 0 (takenP p).rc 0) bs → Calls Tryd.prog 37 #[.agg bs, .slice C M cc] y fun e w' => ∃ (ds : Array Value) (L : Option Addr) (lc : Nat) (X : List EvR) (RA : Option Addr) (rc : Nat), e = .returned (.tuple #[.agg ds, .slice L X.length lc]) ∧ BuA (bufL (takenP p).magic (takenP p).cap RA (outE cl (evs (takenP p).magic (takenP p).cap cl)).1.length rc (outE cl (evs (takenP p).magic (takenP p).cap cl)).2) ds ∧ ((outE cl (evs (takenP p).magic (takenP p).cap cl)).1.length ≤ rc ∧ rc ≤ maxLen ∧ Rd w' RA ((outE cl (evs (takenP p).magic (takenP p).cap cl)).1.map u8v)) ∧ Rd w' L (X.flatMap EvR.mcells) ∧ ((∀ x ∈ X, x.at_ w' ∧ x.p.length ≤ 1000000000) ∧ X.length ≤ 1000000000) ∧ feedL (X.map fun x => (x.c, x.p)) = feedL ((okE (evs (takenP p).magic (takenP p).cap cl)).map Prod.fst) ∧ Keep y w') := Lib.hid fun y hy bs hB => by
    refine (ffeed_nil _ _ _ _ bs hB hq1 C cl M cc y hM hb hc (hrd.keep hy) (hS.keep hy)).mono ?_
    rintro e w' ⟨ds, L, lc, xs, RA, rc, rfl, e2, h3, h4, h5, h6, h7⟩
    have hE : okE (evs (takenP p).magic (takenP p).cap cl) = (okR xs).map EvR.ev := by rw [← e2, okE_map]
    have hcn := evs_cns (takenP p).magic (takenP p).cap cl
    refine ⟨ds, L, lc, okR xs, RA, rc, rfl, h3, h4, h5, ⟨fun x hx => ⟨h6 x hx, ?_⟩, ?_⟩, ?_, h7⟩
    · have q := cns_mem (l := okE (evs (takenP p).magic (takenP p).cap cl)) (y := x.ev) (by rw [hE]; exact List.mem_map_of_mem hx)
      have q2 : x.p.length ≤ cnsE (okE (evs (takenP p).magic (takenP p).cap cl)) := q
      omega
    · have q := cns_len (okE (evs (takenP p).magic (takenP p).cap cl))
      rw [hE, List.length_map, ← hE] at q
      omega
    · rw [hE, List.map_map]
      rfl
  have HOL : Hid ((outE cl (evs (takenP p).magic (takenP p).cap cl)).1.length ≤ 1000000000) := Lib.hid (by have := outE_le cl (evs (takenP p).magic (takenP p).cap cl); omega)
  have HR0 : Hid (feedP (takenP p) cl = feedO (takenP p) (outE cl (evs (takenP p).magic (takenP p).cap cl)) (feedL ((okE (evs (takenP p).magic (takenP p).cap cl)).map Prod.fst))) := Lib.hid rfl
  have GT : Hid (∀ y (x : EvR), x.at_ y → x.p.length ≤ 1000000000 → Calls Tryd.prog 39 #[.string (str x.c), .slice x.P x.p.length x.pc] y fun e w' => ∃ (m : MsgR) (gs : Array Value), e = .returned (.tuple #[.agg gs, iv (wgetN x.c x.p).2]) ∧ MsA m gs ∧ gs.toList = m.cells ∧ m.pl = (wgetN x.c x.p).1 ∧ (∀ W, MidF (fun _ => True) y w' W → m.at_ W) ∧ Keep y w') := Lib.hid fun y x hx hl => (get_anyF x.c x.P x.p x.pc y hl hx.1 hx.2.1 hx.2.2).mono fun e w' ⟨m, h1, h2, h3, h4⟩ => ⟨m, _, h1, MsA.of (h3 w' ⟨trivial, fun _ _ _ => rfl⟩).o, rfl, h2, h3, h4⟩
  have KD : Hid (∀ s y, Calls Tryd.prog 38 #[.string (str s)] y fun e w' => e = .returned (.tuple #[iv (kindN s).1, .bool (kindN s).2]) ∧ Keep y w') := Lib.hid fun s y => kind_any s y
  have BNN : Hid (∀ (z : PeR) (ks : Array Value), PeA z ks → ∀ y, Calls Tryd.prog 27 #[.agg ks] y fun e w' => ∃ ds, e = .returned (.agg ds) ∧ PeA z.ban ds ∧ Keep y w') := Lib.hid fun z ks h y => banned_any z ks h y
  have hcn := hA.n; have hcz := hA.z; have hci := hA.i
  have HST := Lib.hid hst3; have HBD := Lib.hid hbd; have HQ0 := Lib.hid hq0
  have HZ := Lib.hid hzA; have HY := Lib.hid hyA
  clear hA hr hst3 hbd hM hb hc hrd hS hq0 hq1 hzA hyA hgA
  generalize feedP (takenP p) cl = R at *
  generalize outE cl (evs (takenP p).magic (takenP p).cap cl) = O at *
  generalize feedL ((okE (evs (takenP p).magic (takenP p).cap cl)).map Prod.fst) = F at *
  generalize takenP p = q at *
  obtain ⟨o1, o2⟩ := O
  simp only at FF HOL
  unfold FeedQ
  go_enter Tryd.func17, Tryd.ntmps17
  go_upto_region 1 with fail
  obtain ⟨w1, hw1⟩ : ∃ w1, w1 = (w.alloc (.cells cs 31)).alloc (.cells zs 31) := ⟨_, rfl⟩
  have HB1 : Hid (Blk w1 w.heap.size 31 cs.toList) := by rw [hw1]; exact Lib.hid ((Blk.new w _ cs.toList).alloc _)
  have HR1 : Hid (Blk w1 (w.heap.size + 1) 31 zs.toList) := by
    rw [hw1]
    have h2 := Blk.new (w.alloc (.cells cs 31)) 31 zs.toList
    rw [World.size_alloc] at h2
    exact Lib.hid h2
  have HK1 : Hid (Keep w w1) := by rw [hw1]; exact Lib.hid (keep_trans (keep_new _ _) (keep_new _ _))
  rw [← hw1]
  clear hw1
  go_wp2_with ((with_reducible refine load_arr w.heap.size cs (Eq.trans ?_ rfl) HB1.out _ Tryd.underlying31 rfl hci ?_); rfl)
  refine (TK.out _).mono ?_
  clear TK
  rintro e w2 ⟨qs, rfl, hqA, k2⟩
  have hqn := hqA.n; have hqz := hqA.z; have hqi := hqA.i
  have HQ := Lib.hid hqA
  have HK2 := Lib.hid (keep_trans HK1.out k2)
  obtain ⟨w3, hst3, hb3, hg3⟩ := run_store_blk (P := Tryd.prog) qs.toList (HB1.out.keep k2) (by rw [Array.length_toList, Array.length_toList, hcz, hqz]) HQ.out.o
  have HB3 : Hid (Blk w3 w.heap.size 31 q.cells) := by rw [← HQ.out.l]; exact Lib.hid hb3
  have HR3 : Hid (Blk w3 (w.heap.size + 1) 31 zs.toList) := Lib.hid ((HR1.out.keep k2).grown hg3 (fun e => by injection e with e; omega))
  have HK3 : Hid (Keep w w3) := Lib.hid (HK2.out.grown hg3 HK2.out.size (fun q hq => by injection hq with hq; omega))
  clear k2 HB1 HK1 HK2 hqA hb3 hg3 HR1
  go_upto_region 2 with fail
  clear hst3
  have r0 : w3.cell? ⟨w.heap.size, 0, none⟩ = some (iv q.stage) := (HB3.out.cell 0).trans rfl
  have d0 : (q.stage == 3) = false := by rw [beq_eq_false_iff_ne]; exact HST.out
  obtain ⟨bs, hbA, hbl⟩ : ∃ bs, BuA (bufL q.magic q.cap q.rA 0 q.rc 0) bs ∧ bs.toList = bufL q.magic q.cap q.rA 0 q.rc 0 := ⟨_, BuA.of .., rfl⟩
  have RB : Hid (w3.rangeAt w.heap.size 6 bs.toList) := Lib.hid (range_of HB3.out 6 bs.toList (by rw [hbl]; unfold PeR.cells; rw [HQ0.out, HBD.out]; rfl))
  have hbi := hbA.i; have hbn := hbA.n
  have FF1 := Lib.hid (FF.out w3 HK3.out bs hbA)
  clear hbA hbl FF
  go_upto_region 5 with (first | ((with_reducible refine load_partg w.heap.size 6 bs (Eq.trans ?_ rfl) RB.out _ Tryd.underlying29 rfl hbi rfl ?_); rfl) | (go_at_call 37; refine FF1.out.mono ?_; rintro e w4 ⟨ds, L, lc, X, RA, rc, rfl, hdA, hrest, hrow, hX, hFX, k4⟩; have hdz := hdA.z; have hdn := hdA.n; have hdi := hdA.i; have HD := Lib.hid hdA; have HRS := Lib.hid hrest; have HRW := Lib.hid hrow; have HX := Lib.hid hX; have HFX := Lib.hid hFX; have HB4 := Lib.hid (HB3.out.keep k4); have HR4 := Lib.hid (HR3.out.keep k4); have HK4 := Lib.hid (keep_trans HK3.out k4); have hst := run_storeCells_new (P := Tryd.prog) w4 29 zb ds hdi (hyz.trans hdz.symm) (by have := all_oneCell_toArray HD.out.o; simpa using this); clear hdA hrest hrow hX hFX k4))
  clear r0 d0 RB FF1 HB3 HR3 HK3 hbi hbn
  obtain ⟨w5, hw5⟩ : ∃ y, y = w4.alloc (.cells ds 29) := ⟨_, rfl⟩
  have HD5 : Hid (Blk w5 w4.heap.size 29 ds.toList) := by rw [hw5]; exact Lib.hid (Blk.new w4 _ ds.toList)
  have HB5 : Hid (Blk w5 w.heap.size 31 q.cells) := by rw [hw5]; exact Lib.hid (HB4.out.alloc _)
  have HR5 : Hid (Blk w5 (w.heap.size + 1) 31 zs.toList) := by rw [hw5]; exact Lib.hid (HR4.out.alloc _)
  have HK45 : Hid (Keep w4 w5) := by rw [hw5]; exact Lib.hid (keep_new _ _)
  rw [← hw5]
  have hle4 := HR4.out.lt
  clear hst hw5 HB4 HR4
  obtain ⟨z, hz⟩ : ∃ z : PeR, z = { q with rA := RA, rs := o1, rc := rc, bad := o2 } := ⟨_, rfl⟩
  have HZE := Lib.hid hz
  have hsp : splice q.cells 6 ds.toList = z.cells := by rw [HD.out.l, hz]; rfl
  obtain ⟨w6, hst6, hb6, hg6⟩ := run_store_partP (P := Tryd.prog) 6 ds.toList HB5.out (by rw [Array.length_toList, hdz]; exact Nat.le_refl _) HD.out.o
  have HR6 : Hid (Blk w6 (w.heap.size + 1) 31 zs.toList) := Lib.hid (HR5.out.grown hg6 (fun e => by injection e with e; omega))
  have HD6 : Hid (Blk w6 w4.heap.size 29 ds.toList) := Lib.hid (HD5.out.grown hg6 (fun e => by injection e with e; omega))
  have HK6 : Hid (Keep w w6) := Lib.hid ((keep_trans HK4.out HK45.out).grown hg6 (keep_trans HK4.out HK45.out).size (fun q hq => by injection hq with hq; omega))
  have HRE6 : Hid (Rd w6 RA (o1.map u8v)) := Lib.hid (rd8_far (HRS.out.2.2.keep HK45.out) HB5.out hg6)
  have HRW6 : Hid (Rd w6 L (X.flatMap EvR.mcells)) := Lib.hid (rdm_far (HRW.out.keep HK45.out) HB5.out hg6)
  have HX6 : Hid (∀ x ∈ X, x.at_ w6 ∧ x.p.length ≤ 1000000000) := Lib.hid fun x hx => ⟨⟨(HX.out.1 x hx).1.1, (HX.out.1 x hx).1.2.1, rd8_far ((HX.out.1 x hx).1.2.2.keep HK45.out) HB5.out hg6⟩, (HX.out.1 x hx).2⟩
  have HZAT : Hid (o1.length ≤ rc ∧ rc ≤ maxLen) := Lib.hid ⟨HRS.out.1, HRS.out.2.1⟩
  obtain ⟨za, hza, hzl⟩ : ∃ za, PeA z za ∧ za.toList = z.cells := ⟨_, PeA.of z, rfl⟩
  have HZA := Lib.hid hza
  have hzan := hza.n; have hzaz := hza.z; have hzai := hza.i
  have HB6 : Hid (Blk w6 w.heap.size 31 za.toList) := by rw [hzl, ← hsp]; exact Lib.hid hb6
  obtain ⟨n, hn⟩ : ∃ n, X.length = n := ⟨_, rfl⟩
  have hnb : n ≤ 1000000000 := by rw [← hn]; exact HX.out.2
  have HN := Lib.hid hn
  have HF0 : Hid (FI X F [] 0) := Lib.hid (FI.start HFX.out)
  clear hsp hb6 HB5 HR5 HRS HRW HX hza hzl HK4 HK45 hg6 HFX
  go_upto_region 6 with ((with_reducible refine load_arr w4.heap.size ds (Eq.trans ?_ rfl) HD5.out _ Tryd.underlying29 rfl hdi ?_); rfl)
  clear hst6 HD5
  try simp only [hn]
  clear hn
  have Own0 : Hid (w6.ownsRow w6.heap.size 50 114 (.slice none 0 0) 0 []) := Lib.hid (World.ownsRow_nil _ _ _ _)
  have A0 : Hid (AtM w6.heap.size w6 (.slice none 0 0) []) := Lib.hid (fun W _ q hq => by cases hq)
  have K0 : Hid (Keep w6 w6) := Lib.hid (Below.refl _ _)
  go_wp2_with fail
  go_loopw [9, 33] (fun lv i wr => ∃ (k : Nat) (ms : List MsgR), k ≤ n ∧ i = .int .i64 k ∧ Hid (ms.length ≤ k) ∧ Hid (wr.ownsRow w6.heap.size 50 114 lv ms.length (ms.flatMap MsgR.cells)) ∧ Hid (AtM w6.heap.size wr lv ms) ∧ Hid (Keep w6 wr) ∧ Hid (FI X F ms k)) (fun _ i _ => n - (intOf i).toNat)
  case atStart => exact ⟨0, [], Nat.zero_le _, rfl, Lib.hid (Nat.zero_le _), Own0, A0, K0, HF0⟩
  case round =>
    obtain ⟨k, ms, hk, rfl, HML, Own1, AT1, KR, FI1⟩ := hrel
    clear Own0 K0 A0 HF0
    by_cases hlt : k < n
    · have d1 : (k : Int) < n := by omega
      have hkl : k < X.length := by rw [HN.out]; exact hlt
      obtain ⟨b, off, hL, hrg⟩ := mcells_at (HRW6.out.keep KR.out) hkl
      have hx := HX6.out X[k] (List.getElem_mem hkl)
      have GX : Hid (∀ y, Keep wr y → Calls Tryd.prog 39 #[.string (str X[k].c), .slice X[k].P X[k].p.length X[k].pc] y fun e w' => ∃ (m : MsgR) (gs : Array Value), e = .returned (.tuple #[.agg gs, iv (wgetN X[k].c X[k].p).2]) ∧ MsA m gs ∧ gs.toList = m.cells ∧ m.pl = (wgetN X[k].c X[k].p).1 ∧ (∀ W, MidF (fun _ => True) y w' W → m.at_ W) ∧ Keep y w') := Lib.hid fun y hy => GT.out y X[k] ⟨hx.1.1, hx.1.2.1, hx.1.2.2.keep (keep_trans KR.out hy)⟩ hx.2
      have KX := Lib.hid (KD.out X[k].c)
      have S0 := Lib.hid (FI1.out.skip hkl)
      have S1 := Lib.hid (FI1.out.next hkl)
      have S2 := Lib.hid (FI1.out.stop hkl)
      subst hL
      obtain ⟨xv, hxv⟩ : ∃ xv : Array Value, xv = #[.string (str X[k].c), .slice X[k].P X[k].p.length X[k].pc] := ⟨_, rfl⟩
      have RX : Hid (wr.rangeAt b (off + k * 2) xv.toList) := Lib.hid (by rw [hxv]; exact hrg)
      have HXL : Hid (xv.toList = [.string (str X[k].c), .slice X[k].P X[k].p.length X[k].pc]) := Lib.hid (by rw [hxv])
      have hxz : xv.size = 2 := by rw [hxv]; rfl
      have hxn : ¬ xv = #[] := by rw [hxv]; intro e; cases e
      have hxi : (Tryd.prog.info? 71).map (·.size) = some xv.size := by rw [hxz]; exact fmsg_info
      have hst := run_storeCells_new (P := Tryd.prog) wr 71 zm xv hxi (hmz.trans hxz.symm) (by rw [hxv]; have q0 : (Value.string (str X[k].c)).oneCell' = true := rfl; have q1 : (Value.slice X[k].P X[k].p.length X[k].pc).oneCell' = true := rfl; simp [q0, q1])
      clear hxv hrg hx FI1 KD GT
      generalize X[k] = x at *
      generalize wgetN x.c x.p = G at *
      generalize kindN x.c = kn at *
      generalize x.p.length = xl at *
      obtain ⟨kk, ok⟩ := kn
      obtain ⟨gm, er⟩ := G
      simp only at GX KX S0 S1 S2
      go_upto_region 10 with ((with_reducible refine load_partg b (off + k * 2) xv (Eq.trans ?_ rfl) RX.out _ Tryd.underlying71 rfl hxi rfl ?_); rfl)
      obtain ⟨wa, hwa⟩ : ∃ y, y = wr.alloc (.cells xv 71) := ⟨_, rfl⟩
      have HXA : Hid (Blk wa wr.heap.size 71 [.string (str x.c), .slice x.P xl x.pc]) := by rw [hwa, ← HXL.out]; exact Lib.hid (Blk.new wr _ xv.toList)
      have HKa : Hid (Keep wr wa) := by rw [hwa]; exact Lib.hid (keep_new _ _)
      rw [← hwa]
      clear hst hwa RX HXL
      have c0 : wa.cell? ⟨wr.heap.size, 0, none⟩ = some (.string (str x.c)) := (HXA.out.cell 0).trans rfl
      go_upto_region 11 with (go_at_call 38; refine (KX.out _).mono ?_; rintro e wb ⟨rfl, kb⟩; have HXB := Lib.hid (HXA.out.keep kb); have HKb := Lib.hid (keep_trans HKa.out kb); clear kb)
      clear c0 KX HXA HKa
      cases ok with
      | false =>
        have FI2 := Lib.hid (S0.out rfl)
        have Own2 := Lib.hid (own_keep Own1.out HKb.out)
        have AT2 := Lib.hid (AT1.out.keep HKb.out)
        have KR2 := Lib.hid (keep_trans KR.out HKb.out)
        have HML2 : Hid (ms.length ≤ k + 1) := Lib.hid (Nat.le_trans HML.out (Nat.le_succ _))
        clear S0 S1 S2 GX HXB HKb Own1 AT1 KR HML
        go_wp2
        go_roundw
        case rel => exact ⟨k + 1, ms, by omega, by go_num, HML2, Own2, AT2, KR2, FI2⟩
        case measure => simp [intOf]; omega
      | true =>
        have c0 : wb.cell? ⟨wr.heap.size, 0, none⟩ = some (.string (str x.c)) := (HXB.out.cell 0).trans rfl
        have c1 : wb.cell? ⟨wr.heap.size, 1, none⟩ = some (.slice x.P xl x.pc) := (HXB.out.cell 1).trans rfl
        go_upto_region 13 with (go_at_call 39; refine (GX.out wb HKb.out).mono ?_; rintro e wc ⟨m, gs, rfl, hmA, hml, hmp, hma, kc⟩; have hgsz := hmA.z; have hgsn := hmA.n; have hgsi := hmA.i; have HMA := Lib.hid hmA; have HMLI := Lib.hid hml; have HMP := Lib.hid hmp; have HMAT := Lib.hid hma; have HKC := Lib.hid kc; have hst := run_storeCells_new (P := Tryd.prog) wc 50 zg gs hgsi (hgz.trans hgsz.symm) (by have := all_oneCell_toArray HMA.out.o; simpa using this); clear hmA hml hmp hma kc)
        clear c0 c1 GX HXB
        obtain ⟨wd, hwd⟩ : ∃ y, y = wc.alloc (.cells gs 50) := ⟨_, rfl⟩
        have HGD : Hid (Blk wd wc.heap.size 50 gs.toList) := by rw [hwd]; exact Lib.hid (Blk.new wc _ gs.toList)
        have HKcd : Hid (Keep wc wd) := by rw [hwd]; exact Lib.hid (keep_new _ _)
        rw [← hwd]
        clear hst hwd
        have HKd : Hid (Keep wr wd) := Lib.hid (keep_trans (keep_trans HKb.out HKC.out) HKcd.out)
        have HMD : Hid (∀ W, MidF (fun _ => True) wr wd W → m.at_ W) := Lib.hid fun W hW => HMAT.out W ⟨trivial, fun j h1 h2 => (hW.2 j (Nat.le_trans HKb.out.size h1) (Nat.lt_of_lt_of_le h2 HKcd.out.size)).trans (HKcd.out.block j h2)⟩
        by_cases h0 : er = 0
        · subst h0
          have FI2 := Lib.hid (S1.out (by simp) (by simp) m HMP.out)
          clear S0 S1 S2 HKb HKC HKcd HMAT HMP
          have hmlk := HML.out
          have OwnD := Lib.hid (own_keep Own1.out HKd.out)
          have hwsz := KR.out.size; have hwsd := HKd.out.size
          go_wp2_with (first | ((with_reducible refine load_arr wc.heap.size gs (Eq.trans ?_ rfl) HGD.out _ Tryd.underlying50 rfl hgsi ?_); rfl) | ((with_reducible refine list_build1h msgsT gs hgsz (by omega) (Eq.trans ?_ rfl) ?_); rfl) | (at_builtin; refine wpList_app msgsT (by rfl) _ _ (by rfl) w6.heap.size _ _ _ (by rfl) (OwnD.out.alloc _) _ 1 1 gs.toList (by rfl) (by rw [Array.length_toList, hgsz]) (Rd.new _ _ _) HMA.out.o (by omega) (by unfold maxLen; omega) (by simp; omega) ?_; intro v6 w9 own6 hg9 hat6; have Own6 := Lib.hid own6; have HG9 := Lib.hid hg9; have HAT6 := Lib.hid hat6; clear own6 hg9 hat6))
          have KE : Keep wr (wd.alloc (.cells gs 50)) := keep_trans HKd.out (keep_new _ _)
          have AT6 : Hid (AtM w6.heap.size w9 v6 (ms ++ [m])) := Lib.hid (AT1.out.more Own1.out KR.out.size KE HG9.out HAT6.out (fun W hW => HMD.out W ⟨trivial, fun j h1 h2 => (hW.2 j h1 (Nat.lt_of_lt_of_le h2 (keep_new wd _).size)).trans ((keep_new wd _).block j h2)⟩))
          have KR6 : Hid (Keep w6 w9) := Lib.hid (by
            have k5 : Keep w6 (wd.alloc (.cells gs 50)) := keep_trans KR.out KE
            exact keep_grown k5 k5.size HG9.out (OwnD.out.alloc _))
          have Own9 : Hid (w9.ownsRow w6.heap.size 50 114 v6 (ms ++ [m]).length ((ms ++ [m]).flatMap MsgR.cells)) := Lib.hid (own_eq Own6.out (by simp) (by rw [HMLI.out]; simp))
          have HML9 : Hid ((ms ++ [m]).length ≤ k + 1) := Lib.hid (by simp; omega)
          clear KE
          go_roundw
          case rel => exact ⟨k + 1, ms ++ [m], by omega, by go_num, HML9, Own9, AT6, KR6, FI2⟩
          case measure => simp [intOf]; omega
        · have d2 : (er != 0) = true := by rw [bne_iff_ne]; exact h0
          have hS := S2.out (by simp) h0
          have HS2 := Lib.hid hS
          have HKW := Lib.hid (keep_trans KR.out HKd.out)
          have HBd := Lib.hid (HB6.out.keep HKW.out)
          have HRd := Lib.hid (HR6.out.keep HKW.out)
          have ATd := Lib.hid (AT1.out.keep HKd.out)
          have Ownd := Lib.hid (own_keep Own1.out HKd.out)
          have HER := Lib.hid h0
          clear hS S0 S1 S2 h0 HKb HKC HKcd HMAT HMP HMD HMA HMLI AT1 Own1
          obtain ⟨A2, c2, rfl, hf1, hf2, hf3⟩ := own_form Ownd.out
          have HFC := Lib.hid (show ms.length ≤ c2 ∧ c2 ≤ maxLen from ⟨hf1, hf2⟩)
          clear hf1 hf2 hf3
          go_wp2_with ((with_reducible refine load_arr w.heap.size za (Eq.trans ?_ rfl) HBd.out _ Tryd.underlying31 rfl hzai ?_); rfl)
          refine (BNN.out z za HZA.out _).mono ?_
          rintro e w7 ⟨ks, rfl, hkA, k7⟩
          have hkn := hkA.n; have hkz := hkA.z; have hki := hkA.i
          have HKS := Lib.hid hkA
          have HK7 := Lib.hid (keep_trans HKW.out k7)
          obtain ⟨w8, hst8, hb8, hg8⟩ := run_store_blk (P := Tryd.prog) ks.toList (HRd.out.keep k7) (by rw [Array.length_toList, Array.length_toList, hzz, hkz]) hkA.o
          have Hb8 := Lib.hid hb8; have Hg8 := Lib.hid hg8
          have Ow8 := Lib.hid (own_grownq (own_keep Ownd.out k7) hg8 HR6.out.lt)
          have AT8 : Hid (∀ m ∈ ms, m.at_ w8) := Lib.hid (ATd.out w8 fun j h1 h2 h3 => (hg8.block j (Nat.lt_of_lt_of_le h2 k7.size) (fun e => by have := HR6.out.lt; injection e with e; omega)).trans (k7.block j h2))
          clear hb8 hg8 hkA k7
          go_wp2
          exact bodyPost_ret (v := .tuple #[.agg ks, .slice A2 ms.length c2, iv er]) (results_cell_tmp_tmp Tryd.results17 _ _ (w.heap.size + 1) _ _ _ _ rfl Hb8.out Tryd.underlying31 rfl (by rw [List.size_toArray, Array.length_toList]; exact hki)) rfl (by
            rw [HR0.out]
            unfold feedO
            rw [if_neg (by rw [HS2.out.2]; exact HER.out)]
            refine ⟨ks, z.ban, A2, c2, ms, by rw [HS2.out.2], HKS.out, ⟨Rd.nil _ _, ⟨Nat.le_refl _, Nat.zero_le _⟩, Nat.zero_le _⟩, by rw [HZE.out]; rfl, HS2.out.1, HFC.out, own_rd Ow8.out, AT8.out, ?_⟩
            have h6 := keep_trans HK6.out HK7.out
            exact h6.grown Hg8.out h6.size (fun q hq => by injection hq with hq; omega))
    · obtain rfl : k = n := by omega
      have d1 : ¬ (k : Int) < k := by omega
      have hFI := FI1.out
      rw [← HN.out] at hFI
      have HFE := Lib.hid hFI.fin
      obtain ⟨A2, c2, rfl, hf1, hf2, hf3⟩ := own_form Own1.out
      have HFC := Lib.hid (show ms.length ≤ c2 ∧ c2 ≤ maxLen from ⟨hf1, hf2⟩)
      clear hFI FI1 hf1 hf2 hf3 GT KD HRW6 HX6
      have HBr := Lib.hid (HB6.out.keep KR.out)
      have HRr := Lib.hid (HR6.out.keep KR.out)
      have HDr := Lib.hid (HD6.out.keep KR.out)
      have rb : wr.cell? ⟨w4.heap.size, 3, none⟩ = some (iv o2) := (HDr.out.cell 3).trans (by rw [HD.out.l]; rfl)
      have hlt6 := HR6.out.lt
      have hkw := KR.out.size
      by_cases ho : o2 = 0
      · have HOE := Lib.hid ho
        have d2 : (o2 != 0) = false := by rw [ho]; rfl
        clear ho
        obtain ⟨w8, hst8, hb8, hg8⟩ := run_store_blk (P := Tryd.prog) za.toList HRr.out (by rw [Array.length_toList, Array.length_toList, hzz, hzaz]) HZA.out.o
        have Hb8 := Lib.hid hb8; have Hg8 := Lib.hid hg8
        have Ow8 := Lib.hid (own_grownq Own1.out hg8 hlt6)
        have AT8 : Hid (∀ m ∈ ms, m.at_ w8) := Lib.hid (AT1.out w8 fun j h1 h2 h3 => hg8.block j h2 (fun e => by injection e with e; omega))
        have HRE8 : Hid (Rd w8 RA (o1.map u8v)) := Lib.hid (rd8_far (HRE6.out.keep KR.out) (show Blk wr (w.heap.size + 1) 31 peZ.cells from by have := HRr.out; rwa [HZ.out.l] at this) hg8)
        clear hb8 hg8
        go_wp2_with ((with_reducible refine load_arr w.heap.size za (Eq.trans ?_ rfl) HBr.out _ Tryd.underlying31 rfl hzai ?_); rfl)
        exact bodyPost_ret (v := .tuple #[.agg za, .slice A2 ms.length c2, iv 0]) (results_cell_tmp_tmp Tryd.results17 _ _ (w.heap.size + 1) _ _ _ _ rfl Hb8.out Tryd.underlying31 rfl (by rw [List.size_toArray, Array.length_toList]; exact hzai)) rfl (by
          rw [HR0.out]
          unfold feedO
          rw [if_pos HFE.out.2, if_pos HOE.out]
          refine ⟨za, z, A2, c2, ms, rfl, HZA.out, ⟨by rw [HZE.out]; exact HRE8.out, by rw [HZE.out]; exact HZAT.out, by rw [HZE.out]; exact HOL.out⟩, by rw [HZE.out]; rfl, HFE.out.1, HFC.out, own_rd Ow8.out, AT8.out, ?_⟩
          have h6 := keep_trans HK6.out KR.out
          exact h6.grown Hg8.out h6.size (fun q hq => by injection hq with hq; omega))
      · have d2 : (o2 != 0) = true := by rw [bne_iff_ne]; exact ho
        have HOE := Lib.hid ho
        clear ho
        go_upto_region 18 with fail
        letI iM : G.Mk := ⟨some (w.heap.size + 1)⟩
        refine G.wp_region_tree (.take [0,2,3,4] (.force [1,5] (.take [6,7] .done))) [] (by kernel_rfl) (by kernel_rfl) (fun wa ka => ?_)
        have hne2 : G.Mk.m ≠ some w.heap.size := fun q => by have e : w.heap.size + 1 = w.heap.size := Option.some.inj q; omega
        have hne7 : G.Mk.m ≠ some w4.heap.size := fun q => by have e : w.heap.size + 1 = w4.heap.size := Option.some.inj q; omega
        have BA := Lib.hid (HBr.out.keep ka)
        have RA' := Lib.hid (HRr.out.keep ka)
        have B7 := G.aftG_cell (keep_cell ka rb) hne7
        have KA := Lib.hid ka
        clear ka
        refine G.mt_take wa (G.Gr.refl _) ?_
        simp only [pick_cons, pick_nil, nth_zero, nth_succ]
        repeat (first | ((with_reducible refine G.wpQuiet_load_arrG w.heap.size za (Eq.trans ?_ rfl) BA.out hne2 _ Tryd.underlying31 rfl hzai ?_); rfl; simp only [Act.put, Array.set!_eq_setIfInBounds, List.setIfInBounds_toArray, List.set_cons_succ, List.set_cons_zero]) | go_big_quiet_step (fail))
        clear B7 hne2 hne7 rb
        refine wpQuiet_nil (G.mt_force ?_)
        simp only [pick_cons, pick_nil, nth_zero, nth_succ]
        refine G.fc_step rfl (fun K hK => ?_)
        go_simp
        refine (BNN.out z za HZA.out _).mono ?_
        rintro e w7 ⟨ks, rfl, hkA, k7⟩
        have hkn := hkA.n; have hkz := hkA.z; have hki := hkA.i
        have HKS := Lib.hid hkA
        have K7 := Lib.hid (keep_trans KA.out k7)
        refine hK _ _ (G.Gr.of_keep k7) ?_
        clear hK K
        obtain ⟨w8, hst8, hb8, hg8⟩ := run_store_blk (P := Tryd.prog) ks.toList (RA'.out.keep k7) (by rw [Array.length_toList, Array.length_toList, hzz, hkz]) HKS.out.o
        have Hb8 := Lib.hid hb8; have Hg8 := Lib.hid hg8
        have Ow8 := Lib.hid (own_grownq (own_keep Own1.out K7.out) hg8 hlt6)
        have AT8 : Hid (∀ m ∈ ms, m.at_ w8) := Lib.hid (AT1.out w8 fun j h1 h2 h3 => (hg8.block j (Nat.lt_of_lt_of_le h2 K7.out.size) (fun e => by injection e with e; omega)).trans (K7.out.block j h2))
        clear k7 hkA hb8
        refine G.fc_step rfl (fun K hK => ?_)
        go_simp
        refine hK _ _ (show G.Gr w7 w8 from hg8) ?_
        clear hK K hst8 hg8
        refine G.fc_nil (G.mt_take _ (G.Gr.refl _) ?_)
        simp only [pick_cons, pick_nil, nth_zero, nth_succ]
        repeat (go_big_quiet_step (fail))
        refine wpQuiet_nil (G.mt_end ?_)
        clear iM
        go_wp2
        exact bodyPost_ret (v := .tuple #[.agg ks, .slice A2 ms.length c2, iv o2]) (results_cell_tmp_tmp Tryd.results17 _ _ (w.heap.size + 1) _ _ _ _ rfl Hb8.out Tryd.underlying31 rfl (by rw [List.size_toArray, Array.length_toList]; exact hki)) rfl (by
          rw [HR0.out]
          unfold feedO
          rw [if_pos HFE.out.2, if_neg HOE.out]
          refine ⟨ks, z.ban, A2, c2, ms, rfl, HKS.out, ⟨Rd.nil _ _, ⟨Nat.le_refl _, Nat.zero_le _⟩, Nat.zero_le _⟩, by rw [HZE.out]; rfl, HFE.out.1, HFC.out, own_rd Ow8.out, AT8.out, ?_⟩
          have h6 := keep_trans HK6.out (keep_trans KR.out K7.out)
          exact h6.grown Hg8.out h6.size (fun q hq => by injection hq with hq; omega))
end Go.Proofs.YtffpanlpbdnafaaDoor

/- Few: has a transaction, a message, few parts? (printed by gen_pf.py) -/
set_option linter.unusedSimpArgs false
set_option linter.unusedVariables false
namespace Go.Proofs.YtffpanlpbdnafaaDoor
open Go.RowKit
attribute [local go_sem ↓] Go.wp_at_zero Go.wp_at_succ
def fewT (t : TxR) : Bool := decide ((∀ x ∈ t.ins, x.sc.length ≤ 300) ∧ (∀ x ∈ t.outs, x.sc.length ≤ 300) ∧ t.ins.length ≤ 20 ∧ t.outs.length ≤ 20)
def fewM (m : MsgR) : Bool := decide (m.hs.length ≤ 40 ∧ m.ls.length ≤ 150 ∧ m.is.length ≤ 100 ∧ m.shs.length ≤ 100 ∧ m.fs.length ≤ 1100) && fewT m.t
set_option maxRecDepth 100000 in
set_option maxHeartbeats 4000000 in
theorem few08_any (t : TxR) (w : World) (h : t.at w) :
    Calls Tryd.prog 30 #[.agg #[u32v t.ver, .slice t.iA t.ins.length t.ic, .slice t.oA t.outs.length t.oc, u32v t.lock]] w fun e w' => e = .returned (.bool (fewT t)) ∧ Keep w w' := by
  have HI : Hid (∀ k (h : k < t.ins.length), ∃ (b off : Nat) (x : InR), t.iA = some ⟨b, off, none⟩ ∧ w.cell? ⟨b, off + k * 35 + 33, none⟩ = some (.slice x.A x.sc.length x.cap) ∧ t.ins[k]? = some x) := Lib.hid fun k hk => by
    have hp := (h.is _ (List.getElem_mem hk)).p
    obtain ⟨b, off, h1, -, h2⟩ := in_at h.i (fun x hx => (h.is x hx).p) hk
    exact ⟨b, off, _, h1, h2 33 _ (by unfold InR.cells; rw [List.getElem?_append_right (by simp [hp])]; simp [hp]), List.getElem?_eq_getElem hk⟩
  have HO : Hid (∀ k (h : k < t.outs.length), ∃ (b off : Nat) (x : OutR), t.oA = some ⟨b, off, none⟩ ∧ w.cell? ⟨b, off + k * 2 + 1, none⟩ = some (.slice x.A x.sc.length x.cap) ∧ t.outs[k]? = some x) := Lib.hid fun k hk => by
    obtain ⟨b, off, h1, -, h2, h3⟩ := out_at h.o hk
    exact ⟨b, off, _, h1, h3, List.getElem?_eq_getElem hk⟩
  have hi9 := h.ic; have ho9 := h.oc
  unfold maxLen at hi9 ho9
  obtain ⟨R, hR⟩ : ∃ R, fewT t = R := ⟨_, rfl⟩
  have HD : Hid (R = true ↔ ((∀ x ∈ t.ins, x.sc.length ≤ 300) ∧ (∀ x ∈ t.outs, x.sc.length ≤ 300) ∧ t.ins.length ≤ 20 ∧ t.outs.length ≤ 20)) := Lib.hid (by rw [← hR]; unfold fewT; rw [decide_eq_true_eq])
  rw [hR]
  obtain ⟨ver, iA, ins, ic, oA, outs, oc, lock⟩ := t
  simp only at *
  clear h hR
  obtain ⟨n, hn⟩ : ∃ n, ins.length = n := ⟨_, rfl⟩
  obtain ⟨m, hm⟩ : ∃ m, outs.length = m := ⟨_, rfl⟩
  rw [hn] at HI hi9 HD ⊢
  rw [hm] at HO ho9 HD ⊢
  have HNN := Lib.hid hn; have HMM := Lib.hid hm
  clear hn hm
  have bad : Hid (∀ P : Prop, ¬ P → (R = true → P) → R = false) := Lib.hid fun P h1 h2 => by
    cases R with
    | false => rfl
    | true => exact absurd (h2 rfl) h1
  go_enter Tryd.func30, Tryd.ntmps30
  go_upto_region 1 with fail
  obtain ⟨w1, hw1⟩ : ∃ w1, w1 = w.alloc (.cells #[u32v ver, .slice iA n ic, .slice oA m oc, u32v lock] 61) := ⟨_, rfl⟩
  have HT1 : Hid (Blk w1 w.heap.size 61 [u32v ver, .slice iA n ic, .slice oA m oc, u32v lock]) := by rw [hw1]; exact Lib.hid (Blk.new w 61 [u32v ver, .slice iA n ic, .slice oA m oc, u32v lock])
  have HK1 : Hid (Keep w w1) := by rw [hw1]; exact Lib.hid (keep_new _ _)
  rw [← hw1]
  clear hw1
  have t1 := HT1.out.cell 1; have t2 := HT1.out.cell 2
  simp only [List.getElem?_cons_succ, List.getElem?_cons_zero] at t1 t2
  generalize w.heap.size = gt at *
  have HI1 : Hid (∀ k (h : k < n), ∃ (b off : Nat) (x : InR), iA = some ⟨b, off, none⟩ ∧ w1.cell? ⟨b, off + k * 35 + 33, none⟩ = some (.slice x.A x.sc.length x.cap) ∧ ins[k]? = some x) := Lib.hid fun k h => by
    obtain ⟨b, off, x, h1, h2, h3⟩ := HI.out k h
    exact ⟨b, off, x, h1, keep_cell HK1.out h2, h3⟩
  have HO1 : Hid (∀ k (h : k < m), ∃ (b off : Nat) (x : OutR), oA = some ⟨b, off, none⟩ ∧ w1.cell? ⟨b, off + k * 2 + 1, none⟩ = some (.slice x.A x.sc.length x.cap) ∧ outs[k]? = some x) := Lib.hid fun k h => by
    obtain ⟨b, off, x, h1, h2, h3⟩ := HO.out k h
    exact ⟨b, off, x, h1, keep_cell HK1.out h2, h3⟩
  clear HI HO HT1
  go_wp2_with fail
  go_loopw [3] (fun x wr => ∃ k : Nat, k ≤ n ∧ x = .int .i64 k ∧ Hid (∀ y ∈ ins.take k, y.sc.length ≤ 300) ∧ Hid (Keep w wr) ∧ wr.cell? ⟨gt, 1, none⟩ = some (.slice iA n ic) ∧ wr.cell? ⟨gt, 2, none⟩ = some (.slice oA m oc) ∧ Hid (∀ k (h : k < n), ∃ (b off : Nat) (x : InR), iA = some ⟨b, off, none⟩ ∧ wr.cell? ⟨b, off + k * 35 + 33, none⟩ = some (.slice x.A x.sc.length x.cap) ∧ ins[k]? = some x) ∧ Hid (∀ k (h : k < m), ∃ (b off : Nat) (x : OutR), oA = some ⟨b, off, none⟩ ∧ wr.cell? ⟨b, off + k * 2 + 1, none⟩ = some (.slice x.A x.sc.length x.cap) ∧ outs[k]? = some x)) (fun x _ => n - (intOf x).toNat)
  case atStart => exact ⟨0, Nat.zero_le _, rfl, Lib.hid (by simp), HK1, t1, t2, HI1, HO1⟩
  case round =>
    clear t1 t2 HI1 HO1 HK1
    obtain ⟨k, hk, rfl, HS, HK1, t1, t2, HI1, HO1⟩ := hrel
    by_cases hlt : k < n
    · obtain ⟨b, off, x, rfl, c33, hget⟩ := HI1.out k hlt
      have d4 : (k : Int) < n := by omega
      have HGE := Lib.hid hget
      clear hget
      by_cases hs : 300 < x.sc.length
      · have hv := bad.out (∀ y ∈ ins, y.sc.length ≤ 300) (fun q => by have := q x (List.mem_of_getElem? HGE.out); omega) fun q => (HD.out.1 q).1
        subst hv
        have d5 : (300 : Int) < x.sc.length := by omega
        clear HD bad
        go_wp2
        exact bodyPost_ret (v := .bool false) (by simp [results, Tryd.results30]) rfl ⟨rfl, HK1.out⟩
      · have d5 : ¬ (300 : Int) < x.sc.length := by omega
        have HS2 : Hid (∀ y ∈ ins.take (k + 1), y.sc.length ≤ 300) := Lib.hid fun y hy => by
          rw [List.take_add_one, HGE.out] at hy
          rcases List.mem_append.1 hy with q | q
          · exact HS.out y q
          · simp at q; subst q; omega
        clear HS bad
        go_wp2
        go_roundw
        case rel => exact ⟨k + 1, by omega, by go_num, HS2, HK1, t1, t2, HI1, HO1⟩
        case measure => simp [intOf]; omega
    · obtain rfl : k = n := by omega
      have d4 : ¬ (k : Int) < k := by omega
      have HSA : Hid (∀ y ∈ ins, y.sc.length ≤ 300) := Lib.hid (by have := HS.out; rwa [List.take_of_length_le (by rw [HNN.out]; omega)] at this)
      clear HS HI1
      go_wp2_with fail
      clear d4
      go_loopw [4] (fun x wr => ∃ j : Nat, j ≤ m ∧ x = .int .i64 j ∧ Hid (∀ y ∈ outs.take j, y.sc.length ≤ 300) ∧ Hid (Keep w wr) ∧ wr.cell? ⟨gt, 1, none⟩ = some (.slice iA k ic) ∧ wr.cell? ⟨gt, 2, none⟩ = some (.slice oA m oc)  ∧ Hid (∀ k (h : k < m), ∃ (b off : Nat) (x : OutR), oA = some ⟨b, off, none⟩ ∧ wr.cell? ⟨b, off + k * 2 + 1, none⟩ = some (.slice x.A x.sc.length x.cap) ∧ outs[k]? = some x)) (fun x _ => m - (intOf x).toNat)
      case atStart => exact ⟨0, Nat.zero_le _, rfl, Lib.hid (by simp), HK1, t1, t2, HO1⟩
      case round =>
        clear t1 t2
        obtain ⟨j, hj, rfl, HS, HKr, t1, t2, HO2⟩ := hrel
        clear HO1
        by_cases hlt2 : j < m
        · obtain ⟨b, off, x, rfl, c1, hget⟩ := HO2.out j hlt2
          have d4 : (j : Int) < m := by omega
          have HGE := Lib.hid hget
          clear hget
          by_cases hs : 300 < x.sc.length
          · have hv := bad.out (∀ y ∈ outs, y.sc.length ≤ 300) (fun q => by have := q x (List.mem_of_getElem? HGE.out); omega) fun q => (HD.out.1 q).2.1
            subst hv
            have d5 : (300 : Int) < x.sc.length := by omega
            clear HD bad
            go_wp2
            exact bodyPost_ret (v := .bool false) (by simp [results, Tryd.results30]) rfl ⟨rfl, HKr.out⟩
          · have d5 : ¬ (300 : Int) < x.sc.length := by omega
            have HS2 : Hid (∀ y ∈ outs.take (j + 1), y.sc.length ≤ 300) := Lib.hid fun y hy => by
              rw [List.take_add_one, HGE.out] at hy
              rcases List.mem_append.1 hy with q | q
              · exact HS.out y q
              · simp at q; subst q; omega
            clear HS bad
            go_wp2
            go_roundw
            case rel => exact ⟨j + 1, by omega, by go_num, HS2, HKr, t1, t2, HO2⟩
            case measure => simp [intOf]; omega
        · obtain rfl : j = m := by omega
          have d4 : ¬ (j : Int) < j := by omega
          have HSB : Hid (∀ y ∈ outs, y.sc.length ≤ 300) := Lib.hid (by have := HS.out; rwa [List.take_of_length_le (by rw [HMM.out]; omega)] at this)
          clear HS HO2
          by_cases hn : k ≤ 20
          · have e1 : (k : Int) ≤ 20 := by omega
            by_cases hm : j ≤ 20
            · have e2 : (j : Int) ≤ 20 := by omega
              have hv : R = true := HD.out.2 ⟨HSA.out, HSB.out, hn, hm⟩
              subst hv
              clear HD bad hn hm
              go_wp2
              exact bodyPost_ret (v := .bool true) (by simp [results, Tryd.results30]) rfl ⟨rfl, HKr.out⟩
            · have e2 : ¬ (j : Int) ≤ 20 := by omega
              have hv := bad.out (j ≤ 20) hm fun q => (HD.out.1 q).2.2.2
              subst hv
              clear HD bad hn hm
              go_wp2
              exact bodyPost_ret (v := .bool false) (by simp [results, Tryd.results30]) rfl ⟨rfl, HKr.out⟩
          · have e1 : ¬ (k : Int) ≤ 20 := by omega
            have hv := bad.out (k ≤ 20) hn fun q => (HD.out.1 q).2.2.1
            subst hv
            clear HD bad hn
            go_wp2
            exact bodyPost_ret (v := .bool false) (by simp [results, Tryd.results30]) rfl ⟨rfl, HKr.out⟩
set_option maxRecDepth 100000 in
set_option maxHeartbeats 4000000 in
theorem few09_any (m : MsgR) (cs : Array Value) (hA : MsB m cs) (w : World) (h : m.at_ w) :
    Calls Tryd.prog 13 #[.agg cs] w fun e w' => e = .returned (.bool (fewM m)) ∧ Keep w w' := by
  have hcn := hA.n; have hcz := hA.z; have hci := hA.i
  have HA := Lib.hid hA; have HO := Lib.hid h.o
  have FT : Hid (∀ y, Keep w y → Calls Tryd.prog 30 #[.agg #[u32v m.t.ver, .slice m.t.iA m.t.ins.length m.t.ic, .slice m.t.oA m.t.outs.length m.t.oc, u32v m.t.lock]] y fun e w' => e = .returned (.bool (fewT m.t)) ∧ Keep y w') := Lib.hid fun y hy => few08_any m.t y (h.t.keep hy)
  have HD : Hid (fewM m = (decide (m.hs.length ≤ 40 ∧ m.ls.length ≤ 150 ∧ m.is.length ≤ 100 ∧ m.shs.length ≤ 100 ∧ m.fs.length ≤ 1100) && fewT m.t)) := Lib.hid rfl
  clear hA h
  generalize fewM m = R at *
  generalize fewT m.t = B at *
  go_enter Tryd.func13, Tryd.ntmps13
  go_upto_region 1 with fail
  obtain ⟨w1, hw1⟩ : ∃ w1, w1 = w.alloc (.cells cs 63) := ⟨_, rfl⟩
  have HB1 : Hid (Blk w1 w.heap.size 63 m.cells) := by rw [hw1, ← HA.out.l]; exact Lib.hid (Blk.new w _ cs.toList)
  have HK1 : Hid (Keep w w1) := by rw [hw1]; exact Lib.hid (keep_new _ _)
  rw [← hw1]
  clear hw1
  have c4 : w1.cell? ⟨w.heap.size, 4, none⟩ = some (.slice m.hA m.hs.length m.hc) := (HB1.out.cell 4).trans rfl
  have c5 : w1.cell? ⟨w.heap.size, 5, none⟩ = some (.slice m.lA m.ls.length m.lc) := (HB1.out.cell 5).trans rfl
  have c38 : w1.cell? ⟨w.heap.size, 38, none⟩ = some (.slice m.iA m.is.length m.ic) := (HB1.out.cell 38).trans ((MsgR.tail_get HO.out 0).trans rfl)
  have r108 : w1.cell? ⟨w.heap.size, 108, none⟩ = some (.slice m.sA m.shs.length m.sc) := (HB1.out.cell 108).trans ((MsgR.blk_tail HO.out 1 (by omega)).trans rfl)
  have r109 : w1.cell? ⟨w.heap.size, 109, none⟩ = some (.slice m.fA m.fs.length m.fc) := (HB1.out.cell 109).trans ((MsgR.blk_tail HO.out 2 (by omega)).trans rfl)
  have t0 : w1.cell? ⟨w.heap.size, 110, none⟩ = some (u32v m.t.ver) := (HB1.out.cell 110).trans ((MsgR.tx_get HO.out 0).trans rfl)
  have t1 : w1.cell? ⟨w.heap.size, 111, none⟩ = some (.slice m.t.iA m.t.ins.length m.t.ic) := (HB1.out.cell 111).trans ((MsgR.tx_get HO.out 1).trans rfl)
  have t2 : w1.cell? ⟨w.heap.size, 112, none⟩ = some (.slice m.t.oA m.t.outs.length m.t.oc) := (HB1.out.cell 112).trans ((MsgR.tx_get HO.out 2).trans rfl)
  have t3 : w1.cell? ⟨w.heap.size, 113, none⟩ = some (u32v m.t.lock) := (HB1.out.cell 113).trans ((MsgR.tx_get HO.out 3).trans rfl)
  have bad : Hid (¬ (m.hs.length ≤ 40 ∧ m.ls.length ≤ 150 ∧ m.is.length ≤ 100 ∧ m.shs.length ≤ 100 ∧ m.fs.length ≤ 1100) → R = false) := Lib.hid fun h => by rw [HD.out, decide_eq_false h]; rfl
  by_cases gh : m.hs.length ≤ 40
  case neg =>
    have hv := bad.out (by omega)
    subst hv
    have eh : ¬ ((m.hs.length : Nat) : Int) ≤ 40 := by omega
    clear HD bad gh
    try simp only [List.append_eq, List.cons_append, List.nil_append]
    go_wp2
    exact bodyPost_ret (v := .bool false) (by simp [results, Tryd.results13]) rfl ⟨rfl, HK1.out⟩
  have eh : ((m.hs.length : Nat) : Int) ≤ 40 := by omega
  by_cases gl : m.ls.length ≤ 150
  case neg =>
    have hv := bad.out (by omega)
    subst hv
    have el : ¬ ((m.ls.length : Nat) : Int) ≤ 150 := by omega
    clear HD bad gl
    try simp only [List.append_eq, List.cons_append, List.nil_append]
    go_wp2
    exact bodyPost_ret (v := .bool false) (by simp [results, Tryd.results13]) rfl ⟨rfl, HK1.out⟩
  have el : ((m.ls.length : Nat) : Int) ≤ 150 := by omega
  by_cases gi : m.is.length ≤ 100
  case neg =>
    have hv := bad.out (by omega)
    subst hv
    have ei : ¬ ((m.is.length : Nat) : Int) ≤ 100 := by omega
    clear HD bad gi
    try simp only [List.append_eq, List.cons_append, List.nil_append]
    go_wp2
    exact bodyPost_ret (v := .bool false) (by simp [results, Tryd.results13]) rfl ⟨rfl, HK1.out⟩
  have ei : ((m.is.length : Nat) : Int) ≤ 100 := by omega
  by_cases gs : m.shs.length ≤ 100
  case neg =>
    have hv := bad.out (by omega)
    subst hv
    have es : ¬ ((m.shs.length : Nat) : Int) ≤ 100 := by omega
    clear HD bad gs
    try simp only [List.append_eq, List.cons_append, List.nil_append]
    go_wp2
    exact bodyPost_ret (v := .bool false) (by simp [results, Tryd.results13]) rfl ⟨rfl, HK1.out⟩
  have es : ((m.shs.length : Nat) : Int) ≤ 100 := by omega
  by_cases gf : m.fs.length ≤ 1100
  case neg =>
    have hv := bad.out (by omega)
    subst hv
    have ef : ¬ ((m.fs.length : Nat) : Int) ≤ 1100 := by omega
    clear HD bad gf
    try simp only [List.append_eq, List.cons_append, List.nil_append]
    go_wp2
    exact bodyPost_ret (v := .bool false) (by simp [results, Tryd.results13]) rfl ⟨rfl, HK1.out⟩
  have ef : ((m.fs.length : Nat) : Int) ≤ 1100 := by omega
  have hv : R = B := by rw [HD.out, decide_eq_true ⟨gh, gl, gi, gs, gf⟩]; rfl
  subst hv
  clear HD bad gh gl gi gs gf
  try simp only [List.append_eq, List.cons_append, List.nil_append]
  go_wp2_with (go_at_call 30; refine (FT.out _ HK1.out).mono ?_; rintro e w2 ⟨rfl, k2⟩; have HK2 := Lib.hid (keep_trans HK1.out k2); clear k2)
  exact bodyPost_ret (v := .bool R) (by simp [results, Tryd.results13]) rfl ⟨rfl, HK2.out⟩
end Go.Proofs.YtffpanlpbdnafaaDoor
