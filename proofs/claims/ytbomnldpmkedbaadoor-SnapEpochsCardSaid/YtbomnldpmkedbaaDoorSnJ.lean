/- The operations that write a log anew: the walk. -/
import Derived.Test.YtbomnldpmkedbaaDoorSnI
set_option linter.unusedSimpArgs false
set_option linter.unusedVariables false
namespace Go.Proofs.YtbomnldpmkedbaaDoor
open Go.RowKit
attribute [local go_sem ↓] Go.wp_at_zero Go.wp_at_succ

theorem recsP_len (at_ : Int) : ∀ (hs : List Hd) (k : Nat) (last : List UInt8), (recsP at_ k last hs).length = hs.length
  | [], _, _ => rfl
  | x :: hs, k, last => by rw [recsP, List.length_cons, recsP_len at_ hs, List.length_cons]

theorem take_rec (last : List UInt8) (ls : Array Value) (seq : Int) (x : Hd) (A : Option Addr) (c : Nat) (y : World) (RB RS : List UInt8) (hB : recB last seq x = RB) (hS1 : recSum last seq x = RS) (hls : HashA last ls) (hll : last.length = 32) (hx : x.ok) (hr : Rd y A (RB.map u8v)) (h1 : 128 ≤ c) (h2 : c ≤ maxLen) (hS : ShaOk y) :
    Calls Tryd.prog 53 #[.agg ls, .int .i64 seq, .slice A 128 c] y fun e w' => ∃ hv' sv, e = .returned (.tuple #[.agg hv', .agg sv, .bool true]) ∧ HdA x hv' ∧ HashA RS sv ∧ Keep y w' := by
  have e := takeD_rec last seq hx
  have hl : RB.length = 128 := by rw [← hB]; exact recB_len last seq hx
  rw [hB, hS1] at e
  have h := take_any last ls seq A RB c y hls hll hr (by omega) h2 hS
  rw [hl] at h
  generalize takeD last seq RB = T at e h
  subst e
  exact h

theorem own_cap {w : World} {base : Nat} {e : TypeId} {size : Nat} {A : Option Addr} {n m c : Nat} {xs : List Value} (h : w.ownsRow base e size (.slice A m c) n xs) : n ≤ c ∧ c ≤ maxLen := by
  obtain ⟨A', c', h1, h2, h3, _⟩ := own_form h
  injection h1 with _ _ h4
  subst h4
  exact ⟨h2, h3⟩
set_option maxRecDepth 100000 in
set_option maxHeartbeats 8000000 in
theorem operations_w (A : Option Addr) (b : List UInt8) (c : Nat) (PA : Option Addr) (ws : List WriteR) (pc : Nat) (base : Int) (room : Nat) (n : Int) (last : List UInt8) (hl : last.length = 32) (ep : Int) (ss : Array Value) (Ak : Option Addr) (gl : List Hd) (ck : Nat) (w : World)
    (h : DOk w A b c PA ws pc) (hS : ShaOk w) (hss : StA (stCells (.slice A b.length c) (.slice PA ws.length pc) base room n last ep) ss) (hrm : room ≤ 1024) (hep : 0 ≤ ep ∧ ep ≤ 2147483646) (hgl : gl.length ≤ 1024) (hk : Rd w Ak (gl.flatMap Hd.cells)) (hgo : ∀ x ∈ gl, x.ok) :
    Calls Tryd.prog 35 #[.agg ss, .slice Ak gl.length ck] w fun e w' => ∃ (Af : Option Addr) (cf : Nat) (ops : List OpR), e = .returned (.slice Af ops.length cf) ∧
      ops.map OpR.pl = opsP (begS (1 - (lookB (bytesQ b (ws.map WriteR.pl))).2.1) room) room gl (if (lookB (bytesQ b (ws.map WriteR.pl))).2.2 = 0 then 1 else 0) ep (1 - (lookB (bytesQ b (ws.map WriteR.pl))).2.1) ∧
      (ops.length ≤ cf ∧ cf ≤ maxLen ∧ ∀ W, Fr w.heap.size (fun _ => False) w' W → Rd W Af (ops.map OpR.val) ∧ ∀ x ∈ ops, x.ok W) ∧ Keep w w' := by
  have O1 : Hid (∀ y, Keep w y → Calls Tryd.prog 37 #[.agg ss] y fun e w' => e = .returned (.int .i64 (1 - (lookB (bytesQ b (ws.map WriteR.pl))).2.1)) ∧ Keep y w') := fun y hy => other_w A b c PA ws pc base room n last hl ep ss y (h.keep hy) (hS.keep hy) hss
  have L1 : Hid (∀ y, Keep w y → Calls Tryd.prog 17 #[DV A b.length c PA ws.length pc] y fun e w' => e = .returned (.int .i64 (lookB (bytesQ b (ws.map WriteR.pl))).2.2) ∧ Keep y w') := fun y hy => by
    have h1 := slot_any A b c PA ws pc y (h.keep hy) (hS.keep hy)
    rw [bytesD_Q] at h1; exact h1
  have hT := look_told (bytesQ b (ws.map WriteR.pl))
  generalize lookB (bytesQ b (ws.map WriteR.pl)) = L at *
  obtain ⟨le, lr, sl⟩ := L
  have hor : 1 - lr = 0 ∨ 1 - lr = 1 := by rcases hT.r with e | e <;> (simp only at e; omega)
  have hsl : sl = -1 ∨ sl = 0 ∨ sl = 1 := hT.s
  have hat := begS_rng hor hrm
  have E1 : Hid (∀ w', Calls Tryd.prog 32 #[.int .i64 (1 - lr), .int .i64 (room : Int)] w' fun e w'' => e = .returned (.int .i64 (begS (1 - lr) room)) ∧ Keep w' w'') := fun w' => (begin_any (1 - lr) room w' (by omega) (by omega)).mono fun e w'' ⟨h1, h2⟩ => ⟨h1, by rw [h2]; exact Below.refl _ _⟩
  have S1 : Hid (∀ y, Keep w y → Calls Tryd.prog 10 #[.int .i64 (ep + 1), .int .i64 (1 - lr)] y fun e w' => ∃ A c, e = .returned (.slice A 64 c) ∧ w'.ownsRow y.heap.size 5 1 (.slice A 64 c) 64 ((supB (ep + 1) (1 - lr)).map u8v) ∧ Keep y w') := fun y hy => super_any _ _ y (hS.keep hy)
  have hSl : Hid ((supB (ep + 1) (1 - lr)).length = 64) := supB_len _ _
  have HOP : Hid (∀ at_ sb orr, begS (1 - lr) room = at_ → supB (ep + 1) (1 - lr) = sb → 1 - lr = orr → opsP (begS (1 - lr) room) room gl (if sl = 0 then 1 else 0) ep (1 - lr) = .sync :: (zerP at_ (4 * room) ++ (recsP at_ 0 z32 gl ++ [.sync, .lay ((if sl = 0 then 1 else 0) * 2) sb, .sync]))) := fun at_ sb orr e1 e2 e3 => by subst e1 e2 e3; rfl
  have HOP2 := Lib.hid (HOP.out _ _ _ rfl rfl rfl)
  simp only at O1 L1 ⊢
  generalize opsP (begS (1 - lr) room) room gl (if sl = 0 then 1 else 0) ep (1 - lr) = OP at *
  generalize supB (ep + 1) (1 - lr) = SB at *
  generalize begS (1 - lr) room = at_ at *
  generalize 1 - lr = orr at *
  clear HOP hT
  have hsz := hss.z; have hsn := hss.n; have hsi := hss.i
  have Hss := Lib.hid hss; have HS := Lib.hid hS; have Hk := Lib.hid hk; have Hgo := Lib.hid hgo; have Hl := Lib.hid hl
  have hbc : b.length ≤ c ∧ c ≤ 9223372036854775807 := by have := h.bc; have := h.cm; unfold maxLen at *; omega
  clear hss hS hk hgo h hl hor
  generalize hbl : b.length = bl at *
  clear hbl
  generalize ws.length = wl at *
  go_enter Tryd.func35, Tryd.ntmps35
  go_upto_region 1 with fail
  have HB1 : Hid (Blk (w.alloc (.cells ss 38)) w.heap.size 38 ss.toList) := Blk.new w _ ss.toList
  have HK1 : Hid (Keep w (w.alloc (.cells ss 38))) := keep_new _ _
  have hz11 : w.heap.size < (w.alloc (.cells ss 38)).heap.size := HB1.out.lt
  generalize w.alloc (.cells ss 38) = w1 at *
  refine wp_region_tree (.take [0,2,3,4] (.force [1,5] (.take [6] .done))) [] (by kernel_rfl) (by kernel_rfl) (fun y0 q0' => ?_)
  have HK2 := Lib.hid (keep_trans HK1.out q0'); have HB2 := Lib.hid (HB1.out.keep q0')
  have hz12 : w1.heap.size ≤ y0.heap.size := q0'.size
  clear q0' HB1
  have HB2' : Hid (Blk y0 w.heap.size 38 (stCells (.slice A bl c) (.slice PA wl pc) base room n last ep)) := by rw [← Hss.out.l]; exact HB2.out
  obtain ⟨c0, c1, c2, c3, c4, c5⟩ := st_d Hl.out HB2'.out
  have a3 := aft_cell c3
  refine mt_take y0 (Below.refl _ _) ?_
  simp only [pick_cons, pick_nil, nth_zero, nth_succ]
  (with_reducible refine wpQuiet_load_arr w.heap.size ss (Eq.trans ?_ rfl) HB2.out _ Tryd.underlying38 rfl hsi ?_)
  rfl
  simp only [Act.put, Array.set!_eq_setIfInBounds, List.setIfInBounds_toArray, List.set_cons_succ, List.set_cons_zero]
  repeat (go_big_quiet_step (fail))
  clear a3
  refine wpQuiet_nil (mt_force ?_)
  simp only [pick_cons, pick_nil, nth_zero, nth_succ]
  refine fc_step rfl (fun K hK => ?_)
  go_simp
  (with_reducible refine (O1.out y0 HK2.out).mono ?_)
  rintro e y1 ⟨rfl, hk⟩
  refine hK _ _ hk ?_
  clear hK K
  have k1 := hk
  clear hk
  refine fc_step rfl (fun K hK => ?_)
  go_simp
  (with_reducible refine (E1.out y1).mono ?_)
  rintro e y2 ⟨rfl, hk⟩
  refine hK _ _ hk ?_
  clear hK K
  have K02 := Lib.hid (keep_trans k1 hk)
  clear k1 hk
  refine fc_nil (mt_take y2 (Below.refl _ _) ?_)
  simp only [pick_cons, pick_nil, nth_zero, nth_succ]
  repeat (go_big_quiet_step (fail))
  refine wpQuiet_nil (mt_end ?_)
  have HK3 := Lib.hid (keep_trans HK2.out K02.out)
  have HB3 := Lib.hid (HB2.out.keep K02.out)
  have hz23 : y0.heap.size ≤ y2.heap.size := K02.out.size
  clear c0 c1 c2 c3 c4 c5 HB2 HB2' K02
  go_upto_region 3 with fail
  obtain ⟨w3, hw3⟩ : ∃ w3, w3 = y2.alloc (.cells #[.func (.func 50) #[] #[]] 101) := ⟨_, rfl⟩
  have HI3 : Hid (OpsI w w3 (fun _ => False) (some ⟨y2.heap.size, 0, none⟩) 1 [.sync]) := by
    refine ⟨?_, fun W hW x hx => by rw [List.mem_singleton.1 hx]; trivial, ?_⟩
    · rw [hw3]; exact World.ownsRow_lit y2 (base := w.heap.size) (e := 101) (size := 1) #[.func (.func 50) #[] #[]] 1 HK3.out.size (by unfold maxLen; omega) rfl
    · rw [hw3]; exact keep_trans HK3.out (keep_new _ _)
  have HB4 : Hid (Blk w3 w.heap.size 38 ss.toList) := by rw [hw3]; exact HB3.out.alloc _
  have hz34 : y2.heap.size < w3.heap.size := by rw [hw3]; simp
  rw [← hw3]
  clear hw3 HB3
  obtain ⟨w4, hmk, hb4, k4, hsz4⟩ := make_blk 32 32 32 32 rfl rfl (by omega) (by omega) w3
  have HZ4 := Lib.hid hb4
  have HI4 := Lib.hid (HI3.out.kept k4)
  have HB5 := Lib.hid (HB4.out.keep k4)
  have hz45 : w3.heap.size < w4.heap.size := hb4.lt
  clear hb4 k4 hsz4 HI3 HB4
  have hoY : ∀ q, (q = w.heap.size ∨ q = w3.heap.size) → (Value.slice (some ⟨y2.heap.size, 0, none⟩) 1 1).ownBlock ≠ some q := fun q e e2 => by
    have e3 : y2.heap.size = q := Option.some.inj e2
    omega
  have HoY := Lib.hid hoY
  clear hoY
  generalize hZb : w3.heap.size = Zb at *
  have hZ1 : Zb ≤ w3.heap.size := Nat.le_of_eq hZb.symm
  clear hZb
  obtain ⟨d0, d1, d2, d3, d4, d5⟩ := st_d Hl.out (show Blk w4 w.heap.size 38 (stCells (.slice A bl c) (.slice PA wl pc) base room n last ep) by rw [← Hss.out.l]; exact HB5.out)
  clear d0 d1 d2 d4 d5
  generalize y2.heap.size = Yb at *
  go_upto_region 4 with fail
  clear hmk
  go_wp2_with fail
  go_loopw [6, 29] (fun v i wr => ∃ (k : Nat) (Al : Option Addr) (cl : Nat) (ops : List OpR), k ≤ 4 * room ∧ i = .int .i64 k ∧ v = .slice Al ops.length cl ∧ Hid (ops.map OpR.pl = .sync :: zerP at_ k) ∧ Hid (OpsI w wr (fun _ => False) Al cl ops) ∧
      Hid (∀ q, (q = w.heap.size ∨ q = Zb) → (Value.slice Al ops.length cl).ownBlock ≠ some q) ∧ Hid (Blk wr w.heap.size 38 ss.toList) ∧ Hid (Blk wr Zb 5 (z32.map u8v))) (fun _ i _ => 4 * room - (intOf i).toNat)
  case atStart => exact ⟨0, some ⟨Yb, 0, none⟩, 1, [.sync], Nat.zero_le _, rfl, rfl, rfl, HI4, HoY, HB5, HZ4⟩
  case round =>
    obtain ⟨k, Al, cl, ops, hk, rfl, rfl, HP, HI, HN, HB, HZ⟩ := hrel
    have hol : ops.length = 1 + k := by
      have h1 := congrArg List.length HP.out
      rw [List.length_map, List.length_cons] at h1
      unfold zerP at h1
      rw [List.length_map, List.length_range] at h1
      omega
    have hol1 : ops.length ≤ 4097 := by omega
    have Hol := Lib.hid hol
    have hZr : Zb < wr.heap.size := HZ.out.lt
    clear hol HI4 HoY HB5 HZ4 d3
    by_cases hlt : k < 4 * room
    · have hlt' : (k : Int) < 4 * (room : Int) := by omega
      have P1 : Calls Tryd.prog 51 #[.int .i64 (at_ + k), .slice (some ⟨Zb, 0, none⟩) 32 32] wr fun e w' => ∃ p q, e = .returned (.func (.func 67) #[] #[.pointer (some ⟨p, 0, none⟩), .pointer (some ⟨q, 0, none⟩)]) ∧ (OpR.put p q (at_ + k) (some ⟨Zb, 0, none⟩) z32 32).ok w' ∧ wr.heap.size ≤ p ∧ wr.heap.size ≤ q ∧ Keep wr w' :=
        put_make (at_ + k) (some ⟨Zb, 0, none⟩) z32 32 wr HZ.out.rd rfl (by omega)
      go_wp2_with fail
      refine P1.mono ?_
      clear P1
      rintro e w5 ⟨p, q, rfl, hok, hp, hq, k5⟩
      have HI5 := Lib.hid (HI.out.kept (keep_trans k5 (keep_new w5 (.cells #[.func (.func 67) #[] #[.pointer (some ⟨p, 0, none⟩), .pointer (some ⟨q, 0, none⟩)]] 101))))
      have HZ5 := Lib.hid ((HZ.out.keep k5).alloc (.cells #[.func (.func 67) #[] #[.pointer (some ⟨p, 0, none⟩), .pointer (some ⟨q, 0, none⟩)]] 101))
      have HB5 := Lib.hid ((HB.out.keep k5).alloc (.cells #[.func (.func 67) #[] #[.pointer (some ⟨p, 0, none⟩), .pointer (some ⟨q, 0, none⟩)]] 101))
      have Hok5 := Lib.hid (OpR.ok_keep hok (keep_new w5 (.cells #[.func (.func 67) #[] #[.pointer (some ⟨p, 0, none⟩), .pointer (some ⟨q, 0, none⟩)]] 101)))
      have HV5 : Hid (Blk (w5.alloc (.cells #[.func (.func 67) #[] #[.pointer (some ⟨p, 0, none⟩), .pointer (some ⟨q, 0, none⟩)]] 101)) w5.heap.size 101 [(OpR.put p q (at_ + k) (some ⟨Zb, 0, none⟩) z32 32).val]) := Blk.new w5 _ [(OpR.put p q (at_ + k) (some ⟨Zb, 0, none⟩) z32 32).val]
      have hz5 : wr.heap.size ≤ w5.heap.size := k5.size
      have hHr : w.heap.size < wr.heap.size := HB.out.lt
      have HoL : Hid (∀ q, (Value.slice Al ops.length cl).ownBlock = some q → q < wr.heap.size) := fun q e => (HI.out.own.lt q e).2
      clear hok k5 HI HB HZ
      have hbs : w.heap.size ≤ (w5.alloc (.cells #[.func (.func 67) #[] #[.pointer (some ⟨p, 0, none⟩), .pointer (some ⟨q, 0, none⟩)]] 101)).heap.size := by simp; omega
      go_wp2_with (at_builtin; refine wpList_app opT (by rfl) _ _ (by rfl) w.heap.size _ ops.length _ (by rfl) HI5.out.own _ 1 1 [(OpR.put p q (at_ + k) (some ⟨Zb, 0, none⟩) z32 32).val] (by rfl) (by rfl) HV5.out.rd (ops_one [_]) (by omega) (by unfold maxLen; omega) hbs ?_; intro v7 w7 own7 hg7 hat7; have Own7 := Lib.hid own7; have Hg7 := Lib.hid hg7; have Hat7 := Lib.hid hat7; clear own7 hg7 hat7)
      have hx : ∀ W, Fr w.heap.size (fun q => (Value.slice Al ops.length cl).ownBlock = some q ∨ False) (w5.alloc (.cells #[.func (.func 67) #[] #[.pointer (some ⟨p, 0, none⟩), .pointer (some ⟨q, 0, none⟩)]] 101)) W → ∀ x ∈ [OpR.put p q (at_ + k) (some ⟨Zb, 0, none⟩) z32 32], x.ok W := fun W hW x hx => by
        rw [List.mem_singleton.1 hx]
        have hnp : ¬ ((Value.slice Al ops.length cl).ownBlock = some p ∨ False) := fun e => e.elim (fun e => by have := HoL.out p e; omega) id
        have hnq : ¬ ((Value.slice Al ops.length cl).ownBlock = some q ∨ False) := fun e => e.elim (fun e => by have := HoL.out q e; omega) id
        have hbz : Blk W Zb 5 (z32.map u8v) := (hW Zb (by omega) (by have := HZ5.out.lt; omega) (fun e => e.elim (fun e => HN.out Zb (.inr rfl) e) id)).trans HZ5.out
        exact ⟨Hok5.out.1.fr ⟨by omega, hnp⟩ ⟨by omega, hnq⟩ hW hbz.rd, rfl⟩
      obtain ⟨A7, c7, rfl, hI7, hat⟩ := HI5.out.app [OpR.put p q (at_ + k) (some ⟨Zb, 0, none⟩) z32 32] hx Own7.out Hg7.out Hat7.out
      have HI7 := Lib.hid hI7; have Hat := Lib.hid hat
      clear hx hI7 hat
      have hlen : (ops ++ [OpR.put p q (at_ + k) (some ⟨Zb, 0, none⟩) z32 32]).length = ops.length + 1 := by rw [List.length_append]; rfl
      have HN7 : Hid (∀ q', (q' = w.heap.size ∨ q' = Zb) → (Value.slice A7 (ops ++ [OpR.put p q (at_ + k) (some ⟨Zb, 0, none⟩) z32 32]).length c7).ownBlock ≠ some q') := fun q' e e2 => by
        rcases Hat.out with h1 | h1
        · exact HN.out q' e (h1.symm.trans e2)
        · have e3 := Option.some.inj (h1.symm.trans e2)
          rw [World.size_alloc] at e3
          omega
      have HB7 := Lib.hid (HB5.out.grown Hg7.out (HN.out _ (.inl rfl)))
      have HZ7 := Lib.hid (HZ5.out.grown Hg7.out (HN.out _ (.inr rfl)))
      rw [show Value.slice A7 (ops ++ [OpR.put p q (at_ + k) (some ⟨Zb, 0, none⟩) z32 32]).length c7 = Value.slice A7 (ops.length + 1) c7 by rw [hlen]]
      clear HI5 HB5 HZ5 HV5 Hok5 Own7 Hg7 Hat7
      go_wp2
      go_roundw
      case rel => exact ⟨k + 1, A7, c7, ops ++ [OpR.put p q (at_ + k) (some ⟨Zb, 0, none⟩) z32 32], by omega, by go_num, by rw [hlen], by rw [List.map_append, HP.out, zerP_succ]; rfl, HI7, HN7, HB7, HZ7⟩
      case measure => simp [intOf]; omega
    · have hkr : k = 4 * room := by omega
      have HP2 : Hid (ops.map OpR.pl = .sync :: zerP at_ (4 * room)) := by rw [HP.out, hkr]; exact rfl
      have hnlt : ¬ ((k : Int) < 4 * (room : Int)) := by omega
      clear hkr HP
      obtain ⟨zs, hz1, hz2, hz3, hz4⟩ := zhash_letter
      obtain ⟨zh, hh1, hh2, hh3, _⟩ := zhead_letter
      go_upto_region 10 with fail
      obtain ⟨wL, hwL⟩ : ∃ wL, wL = wr.alloc (.cells zs 34) := ⟨_, rfl⟩
      have HLB : Hid (Blk wL wr.heap.size 34 zs.toList) := by rw [hwL]; exact Blk.new wr _ zs.toList
      have kL : Keep wr wL := by rw [hwL]; exact keep_new _ _
      rw [← hwL]
      clear hwL
      have hIL : OpsI w wL (fun q => q = wr.heap.size) Al cl ops := by
        have h1 := HI.out.kept kL
        refine ⟨h1.own, fun W hW => HI.out.ok W (fun q g1 g2 g3 => ?_), h1.keep⟩
        have g3' : ¬ (Value.slice Al ops.length cl).ownBlock = some q := fun e => g3 (.inl e)
        exact (hW q g1 (Nat.lt_of_lt_of_le g2 kL.size) (fun e => e.elim g3' (fun e => by omega))).trans (kL.block q g2)
      have HIL := Lib.hid hIL
      have HBL := Lib.hid (HB.out.keep kL)
      have HNL : Hid (∀ q, (q = w.heap.size ∨ q = wr.heap.size) → (Value.slice Al ops.length cl).ownBlock ≠ some q) := fun q e e2 => by
        rcases e with e | e
        · exact HN.out q (.inl e) e2
        · have := (HI.out.own.lt q e2).2
          omega
      have hLr : wr.heap.size < wL.heap.size := HLB.out.lt
      have hHr : w.heap.size < wr.heap.size := HB.out.lt
      have HLA : Hid (HashA (lastL 0 z32 (gl.take 0)) zs) := by
        obtain ⟨zz, q1, q2⟩ := zhash_A
        have h2 : (.agg zz : Value) = .agg zs := by
          have e1 := q2 w; have e2 := hz2 w
          rw [e1] at e2
          injection e2
        injection h2 with h2
        rw [← h2]; exact q1
      clear HI HB HN HZ hIL kL hnlt hz4
      have HP3 : Hid (ops.map OpR.pl = .sync :: (zerP at_ (4 * room) ++ recsP at_ 0 z32 (gl.take 0))) := by
        have e : zerP at_ (4 * room) ++ recsP at_ 0 z32 (gl.take 0) = zerP at_ (4 * room) := by rw [List.take_zero, recsP, List.append_nil]
        rw [e]; exact HP2
      clear HP2
      generalize hLBe : wr.heap.size = LB at *
      clear hLBe
      go_wp2_with fail
      go_loopw [6, 43] (fun v i wx => ∃ (j : Nat) (Al : Option Addr) (cl : Nat) (ops : List OpR) (ls : Array Value), j ≤ gl.length ∧ i = .int .i64 j ∧ v = .slice Al ops.length cl ∧ Hid (ops.map OpR.pl = .sync :: (zerP at_ (4 * room) ++ recsP at_ 0 z32 (gl.take j))) ∧ Hid (OpsI w wx (fun q => q = LB) Al cl ops) ∧
          Hid (∀ q, (q = w.heap.size ∨ q = LB) → (Value.slice Al ops.length cl).ownBlock ≠ some q) ∧ Hid (Blk wx w.heap.size 38 ss.toList) ∧ Hid (Blk wx LB 34 ls.toList) ∧ Hid (HashA (lastL 0 z32 (gl.take j)) ls)) (fun _ i _ => gl.length - (intOf i).toNat)
      case atStart => exact ⟨0, Al, cl, ops, zs, Nat.zero_le _, rfl, rfl, HP3, HIL, HNL, HBL, HLB, HLA⟩
      case round =>
        obtain ⟨j, A2, c2, ops2, ls, hj, rfl, rfl, HP, HI, HN, HB, HL, HA⟩ := hrel
        have hol2 : ops2.length = 1 + (4 * room + j) := by
          have h1 := congrArg List.length HP.out
          rw [List.length_map, List.length_cons, List.length_append, recsP_len, List.length_take, Nat.min_eq_left hj] at h1
          unfold zerP at h1
          rw [List.length_map, List.length_range] at h1
          omega
        have hol3 : ops2.length ≤ 6000 := by omega
        have hLx : LB < wr.heap.size := HL.out.lt
        have hHx : w.heap.size < wr.heap.size := HB.out.lt
        have hls := HA.out.z; have hln := HA.out.n; have hli := HA.out.i
        clear hol2 HP3 HIL HNL HBL HLB HLA
        by_cases hlt2 : j < gl.length
        · obtain ⟨hb', off, rfl, hbb, F⟩ := Hd.at_ Hk.out Hgo.out hlt2
          have hx := Hgo.out _ (List.getElem_mem hlt2)
          have hst1 : recsP at_ 0 z32 (gl.take (j + 1)) = recsP at_ 0 z32 (gl.take j) ++ [.lay (at_ + 4 * (j : Int)) (recB (lastL 0 z32 (gl.take j)) j gl[j])] := by
            rw [List.take_succ_eq_append_getElem hlt2, recsP_snoc, List.length_take, Nat.min_eq_left (by omega), Nat.zero_add]
          have hst2 : lastL 0 z32 (gl.take (j + 1)) = recSum (lastL 0 z32 (gl.take j)) j gl[j] := by
            rw [List.take_succ_eq_append_getElem hlt2, lastL_snoc, List.length_take, Nat.min_eq_left (by omega), Nat.zero_add]
          have hlk : (lastL 0 z32 (gl.take j)).length = 32 := lastL_len _ 0 z32 rfl
          obtain ⟨x, hxe⟩ : ∃ x, gl[j] = x := ⟨_, rfl⟩
          rw [hxe] at F hx hst1 hst2
          obtain ⟨hv, hhv⟩ : ∃ hv, HdA x hv := ⟨_, HdA.of hx⟩
          have hvz := hhv.z; have hvn := hhv.n; have hvi := hhv.i
          have R1 : Hid (∀ y, Keep w y → Calls Tryd.prog 52 #[.agg ls, .int .i64 j, .agg hv] y fun e w' => ∃ A c, e = .returned (.slice A 128 c) ∧ w'.ownsRow y.heap.size 5 1 (.slice A 128 c) 128 ((recB (lastL 0 z32 (gl.take j)) j x).map u8v) ∧ Keep y w') := fun y hy => rec_any _ ls j x hv y HA.out hlk hx hhv (HS.out.keep hy)
          have hRl : Hid ((recB (lastL 0 z32 (gl.take j)) j x).length = 128) := recB_len _ _ hx
          have T1 : Hid (∀ y A c, Keep w y → Rd y A ((recB (lastL 0 z32 (gl.take j)) j x).map u8v) → 128 ≤ c → c ≤ maxLen → Calls Tryd.prog 53 #[.agg ls, .int .i64 j, .slice A 128 c] y fun e w' => ∃ hv' sv, e = .returned (.tuple #[.agg hv', .agg sv, .bool true]) ∧ HdA x hv' ∧ HashA (recSum (lastL 0 z32 (gl.take j)) j x) sv ∧ Keep y w') := fun y A c hy hr h1 h2 =>
            take_rec _ ls j x A c y _ _ rfl rfl HA.out hlk hx hr h1 h2 (HS.out.keep hy)
          have Hhv := Lib.hid hhv; have Hst1 := Lib.hid hst1; have Hst2 := Lib.hid hst2; have Hx := Lib.hid hx
          have HF : Hid (∀ W, Keep w W → W.rangeAt hb' (off + j * 68) hv.toList) := fun W hW => by rw [Hhv.out.l]; exact F W hW
          clear hst1 hst2 hhv hx hxe F hlk
          generalize recB (lastL 0 z32 (gl.take j)) j x = RB at *
          generalize recSum (lastL 0 z32 (gl.take j)) j x = RS at *
          have hrg := Lib.hid (HF.out wr HI.out.keep)
          have hsth : (storeCells ⟨wr.heap.size, 0, none⟩ hv.toList 0).run Tryd.prog (wr.alloc (.cells zh 65)) = .ok () (wr.alloc (.cells hv 65)) := run_storeCells_new (P := Tryd.prog) wr 65 zh hv hvi (hh1.trans hvz.symm) (by have := all_oneCell_toArray Hhv.out.o; rwa [Array.toArray_toList] at this)
          go_upto_region 13 with ((with_reducible refine load_part hb' (off + j * 68) hv (Eq.trans ?_ rfl) hrg.out _ Tryd.underlying65 rfl hvi ?_); rfl)
          clear hsth
          obtain ⟨wH, hwH⟩ : ∃ wH, wH = wr.alloc (.cells hv 65) := ⟨_, rfl⟩
          have HXh : Hid (Blk wH wr.heap.size 65 hv.toList) := by rw [hwH]; exact Blk.new wr _ hv.toList
          have kH : Keep wr wH := by rw [hwH]; exact keep_new _ _
          rw [← hwH]
          clear hwH
          have HIH := Lib.hid (HI.out.kept kH); have HBH := Lib.hid (HB.out.keep kH); have HLH := Lib.hid (HL.out.keep kH)
          have HoL : Hid (∀ q, (Value.slice A2 ops2.length c2).ownBlock = some q → q < wr.heap.size) := fun q e => (HI.out.own.lt q e).2
          have hrH : wr.heap.size < wH.heap.size := HXh.out.lt
          clear kH HI HB HL hrg
          generalize hXe : wr.heap.size = XH at *
          clear hXe
          go_wp2_with (first
            | ((with_reducible refine load_arr LB ls (Eq.trans ?_ rfl) HLH.out (.array 32 5) hash_under (arr_row _ _) hli ?_); rfl)
            | ((with_reducible refine load_arr XH hv (Eq.trans ?_ rfl) HXh.out _ Tryd.underlying65 rfl hvi ?_); rfl))
          refine (R1.out wH HIH.out.keep).mono ?_
          rintro e w5 ⟨A5, c5, rfl, own5, k5⟩
          obtain ⟨A5', c5', hv5, hc5, hm5, hr5⟩ := own_form own5
          obtain ⟨rfl, rfl⟩ : A5 = A5' ∧ c5 = c5' := by injection hv5 with h1 h2 h3; exact ⟨h1, h3⟩
          have Own5 := Lib.hid own5; have Hr5 := Lib.hid hr5
          have HI5 := Lib.hid (HIH.out.kept k5); have HB5 := Lib.hid (HBH.out.keep k5); have HL5 := Lib.hid (HLH.out.keep k5)
          have h5H : wH.heap.size ≤ w5.heap.size := k5.size
          clear hv5 hr5 own5 k5 HIH HBH HLH R1
          go_wp2_with ((with_reducible refine load_arr LB ls (Eq.trans ?_ rfl) HL5.out (.array 32 5) hash_under (arr_row _ _) hli ?_); rfl)
          refine (T1.out w5 A5 c5 HI5.out.keep Hr5.out hc5 hm5).mono ?_
          rintro e w6 ⟨hv6, sv, rfl, hhv6, hsv, k6⟩
          have h6z := hhv6.z; have h6n := hhv6.n; have h6i := hhv6.i; have hsz6 := hsv.z; have hsn6 := hsv.n; have hsi6 := hsv.i
          have Hsv := Lib.hid hsv; have H6 := Lib.hid hhv6
          have Own6 := Lib.hid (own_keep Own5.out k6)
          have HI6 := Lib.hid (HI5.out.kept k6); have HB6 := Lib.hid (HB5.out.keep k6); have HL6 := Lib.hid (HL5.out.keep k6)
          have h65 : w5.heap.size ≤ w6.heap.size := k6.size
          obtain ⟨wa, wb, hsta, hstb, hba, hbb, kb⟩ := two_boxesS w6 zh zs hv6 sv (hh1.trans h6z.symm) (hz1.trans hsz6.symm) H6.out.o Hsv.out.o
          have Hbb := Lib.hid hbb
          have Own7 := Lib.hid (own_keep Own6.out kb)
          have HI7 := Lib.hid (HI6.out.kept kb); have HB7 := Lib.hid (HB6.out.keep kb); have HL7 := Lib.hid (HL6.out.keep kb)
          have h76 : w6.heap.size < wb.heap.size := hba.lt
          clear hhv6 hsv k6 hba hbb kb T1 HI5 HB5 HL5 Own5 Hr5 HI6 HB6 HL6 Own6 HXh
          go_upto_region 15 with fail
          clear hsta hstb
          generalize hY6 : w6.heap.size = Y6 at *
          clear hY6
          have hLs : ls.size = sv.size := hls.trans hsz6.symm
          obtain ⟨wc, hstc, hbc', hgc⟩ := run_store_blk (P := Tryd.prog) sv.toList HL7.out (by rw [Array.length_toList, Array.length_toList]; exact hLs) Hsv.out.o
          have HLc := Lib.hid hbc'; have Hgc := Lib.hid hgc
          have h5b : wH.heap.size ≤ wb.heap.size := by omega
          have Own8 : Hid (wc.ownsRow wH.heap.size 5 1 (.slice A5 128 c5) 128 (RB.map u8v)) := Own7.out.kept hgc (.inr (fun e => by have h1 := (Own7.out.lt _ e).1; omega))
          have HI8 : Hid (OpsI w wc (fun q => q = LB) A2 c2 ops2) := by
            refine ⟨HI7.out.own.kept hgc (.inr (fun e => HN.out LB (.inr rfl) e)), fun W hW => HI7.out.ok W (fun q g1 g2 g3 => ?_), HI7.out.keep.grown hgc HI7.out.keep.size (fun q hq => by injection hq with hq; omega)⟩
            exact (hW q g1 (Nat.lt_of_lt_of_le g2 hgc.size) g3).trans (hgc.block q g2 (fun e => g3 (.inr (Option.some.inj e))))
          have HB8 := Lib.hid (HB7.out.grown hgc (fun e => by have e2 : LB = w.heap.size := Option.some.inj e; omega))
          have h8b : wb.heap.size ≤ wc.heap.size := hgc.size
          clear hbc' hgc HI7 HB7 HL7 Own7
          have P1 : Calls Tryd.prog 54 #[.int .i64 (at_ + 4 * (j : Int)), .slice A5 128 c5] wc fun e w' => ∃ p q, e = .returned (.func (.func 69) #[] #[.pointer (some ⟨p, 0, none⟩), .pointer (some ⟨q, 0, none⟩)]) ∧ (OpR.lay p q (at_ + 4 * (j : Int)) A5 RB c5).ok w' ∧ wc.heap.size ≤ p ∧ wc.heap.size ≤ q ∧ Keep wc w' := by
            have h := lay_make (at_ + 4 * (j : Int)) A5 RB c5 wc (own_rd Own8.out) (by rw [hRl.out]; omega) (by omega)
            rw [hRl.out] at h
            exact h
          go_wp2_with ((with_reducible refine load_arr (Y6 + 1) sv (Eq.trans ?_ rfl) Hbb.out (.array 32 5) hash_under (arr_row _ _) hsi6 ?_); rfl)
          refine P1.mono ?_
          clear P1 hstc
          rintro e w9 ⟨p, q, rfl, hok, hp, hq, k9⟩
          have HI9 := Lib.hid (HI8.out.kept (keep_trans k9 (keep_new w9 (.cells #[.func (.func 69) #[] #[.pointer (some ⟨p, 0, none⟩), .pointer (some ⟨q, 0, none⟩)]] 101))))
          have HB9 := Lib.hid ((HB8.out.keep k9).alloc (.cells #[.func (.func 69) #[] #[.pointer (some ⟨p, 0, none⟩), .pointer (some ⟨q, 0, none⟩)]] 101))
          have HL9 := Lib.hid ((HLc.out.keep k9).alloc (.cells #[.func (.func 69) #[] #[.pointer (some ⟨p, 0, none⟩), .pointer (some ⟨q, 0, none⟩)]] 101))
          have Own9 := Lib.hid (own_keep Own8.out (keep_trans k9 (keep_new w9 (.cells #[.func (.func 69) #[] #[.pointer (some ⟨p, 0, none⟩), .pointer (some ⟨q, 0, none⟩)]] 101))))
          have Hok9 := Lib.hid (OpR.ok_keep hok (keep_new w9 (.cells #[.func (.func 69) #[] #[.pointer (some ⟨p, 0, none⟩), .pointer (some ⟨q, 0, none⟩)]] 101)))
          have HV9 : Hid (Blk (w9.alloc (.cells #[.func (.func 69) #[] #[.pointer (some ⟨p, 0, none⟩), .pointer (some ⟨q, 0, none⟩)]] 101)) w9.heap.size 101 [(OpR.lay p q (at_ + 4 * (j : Int)) A5 RB c5).val]) := Blk.new w9 _ [(OpR.lay p q (at_ + 4 * (j : Int)) A5 RB c5).val]
          have h9c : wc.heap.size ≤ w9.heap.size := k9.size
          clear hok k9 HI8 HB8 HLc Own8
          have hbs : w.heap.size ≤ (w9.alloc (.cells #[.func (.func 69) #[] #[.pointer (some ⟨p, 0, none⟩), .pointer (some ⟨q, 0, none⟩)]] 101)).heap.size := by simp; omega
          go_wp2_with (at_builtin; refine wpList_app opT (by rfl) _ _ (by rfl) w.heap.size _ ops2.length _ (by rfl) HI9.out.own _ 1 1 [(OpR.lay p q (at_ + 4 * (j : Int)) A5 RB c5).val] (by rfl) (by rfl) HV9.out.rd (ops_one [_]) (by omega) (by unfold maxLen; omega) hbs ?_; intro v7 w7 own7 hg7 hat7; have OwnA := Lib.hid own7; have HgA := Lib.hid hg7; have HatA := Lib.hid hat7; clear own7 hg7 hat7)
          have hx : ∀ W, Fr w.heap.size (fun q => (Value.slice A2 ops2.length c2).ownBlock = some q ∨ q = LB) (w9.alloc (.cells #[.func (.func 69) #[] #[.pointer (some ⟨p, 0, none⟩), .pointer (some ⟨q, 0, none⟩)]] 101)) W → ∀ x ∈ [OpR.lay p q (at_ + 4 * (j : Int)) A5 RB c5], x.ok W := fun W hW x hx => by
            rw [List.mem_singleton.1 hx]
            have hnp : ¬ ((Value.slice A2 ops2.length c2).ownBlock = some p ∨ p = LB) := fun e => e.elim (fun e => by have := HoL.out p e; omega) (fun e => by omega)
            have hnq : ¬ ((Value.slice A2 ops2.length c2).ownBlock = some q ∨ q = LB) := fun e => e.elim (fun e => by have := HoL.out q e; omega) (fun e => by omega)
            have hr9 := own_rd (own_fr (own_lowH Own9.out (show w.heap.size ≤ wH.heap.size by omega)) hW (fun k e e2 => by
              have h1 := (Own9.out.lt k e).1
              exact e2.elim (fun e => by have := HoL.out k e; omega) (fun e => by omega)))
            exact Hok9.out.fr ⟨by omega, hnp⟩ ⟨by omega, hnq⟩ hW hr9
          obtain ⟨A7, c7, rfl, hI7, hat⟩ := HI9.out.app [OpR.lay p q (at_ + 4 * (j : Int)) A5 RB c5] hx OwnA.out HgA.out HatA.out
          have HI7 := Lib.hid hI7; have Hat := Lib.hid hat
          clear hx hI7 hat
          have hlen : (ops2 ++ [OpR.lay p q (at_ + 4 * (j : Int)) A5 RB c5]).length = ops2.length + 1 := by rw [List.length_append]; rfl
          have HN7 : Hid (∀ q', (q' = w.heap.size ∨ q' = LB) → (Value.slice A7 (ops2 ++ [OpR.lay p q (at_ + 4 * (j : Int)) A5 RB c5]).length c7).ownBlock ≠ some q') := fun q' e e2 => by
            rcases Hat.out with h1 | h1
            · exact HN.out q' e (h1.symm.trans e2)
            · have e3 := Option.some.inj (h1.symm.trans e2)
              rw [World.size_alloc] at e3
              omega
          have HB7 := Lib.hid (HB9.out.grown HgA.out (HN.out _ (.inl rfl)))
          have HL7 := Lib.hid (HL9.out.grown HgA.out (HN.out _ (.inr rfl)))
          have HP7 : Hid ((ops2 ++ [OpR.lay p q (at_ + 4 * (j : Int)) A5 RB c5]).map OpR.pl = .sync :: (zerP at_ (4 * room) ++ recsP at_ 0 z32 (gl.take (j + 1)))) := by
            rw [List.map_append, HP.out, Hst1.out, List.cons_append, List.append_assoc]; exact rfl
          have HA7 : Hid (HashA (lastL 0 z32 (gl.take (j + 1))) sv) := by rw [Hst2.out]; exact Hsv
          rw [show Value.slice A7 (ops2 ++ [OpR.lay p q (at_ + 4 * (j : Int)) A5 RB c5]).length c7 = Value.slice A7 (ops2.length + 1) c7 by rw [hlen]]
          clear HI9 HB9 HL9 HV9 Hok9 OwnA HgA HatA Own9 Hbb
          go_wp2
          go_roundw
          case rel => exact ⟨j + 1, A7, c7, ops2 ++ [OpR.lay p q (at_ + 4 * (j : Int)) A5 RB c5], sv, by omega, by go_num, by rw [hlen], HP7, HI7, HN7, HB7, HL7, HA7⟩
          case measure => simp [intOf]; omega
        · have hjl : j = gl.length := by omega
          have HPP : Hid (ops2.map OpR.pl = .sync :: (zerP at_ (4 * room) ++ recsP at_ 0 z32 gl)) := by
            have h1 := HP.out
            rw [hjl, List.take_length] at h1
            exact h1
          have hnl : ¬ ((j : Int) < (gl.length : Int)) := by omega
          clear hjl HP HA HL
          have HB' : Hid (Blk wr w.heap.size 38 (stCells (.slice A bl c) (.slice PA wl pc) base room n last ep)) := by rw [← Hss.out.l]; exact HB.out
          obtain ⟨d0, d1, d2, d3, d4, d5⟩ := st_d Hl.out HB'.out
          clear d2 d3 d4 d5
          go_wp2_with fail
          refine (L1.out wr HI.out.keep).mono ?_
          rintro e w5 ⟨rfl, k5⟩
          have HI5 := Lib.hid (HI.out.kept k5); have HB5 := Lib.hid (HB.out.keep k5); have HB5' := Lib.hid (HB'.out.keep k5)
          have hz5 : wr.heap.size ≤ w5.heap.size := k5.size
          clear d0 d1 k5 HI HB HB'
          go_upto_if 76 with fail
          go_cut [16] (fun s wx => ∃ slot : Int, s = .int .i64 slot ∧ Hid (slot = if sl = 0 then 1 else 0) ∧ (0 ≤ slot ∧ slot ≤ 1) ∧ wx = w5)
          case first =>
            by_cases hs0 : sl = 0
            · have hd : (sl == 0) = true := by simp [hs0]
              have he : Hid ((1 : Int) = if sl = 0 then 1 else 0) := by rw [if_pos hs0]; exact rfl
              clear hs0 hsl
              go_wp2
              go_meet
              exact ⟨1, rfl, he, by omega, rfl⟩
            · have hd : (sl == 0) = false := by simp [hs0]
              have he : Hid ((0 : Int) = if sl = 0 then 1 else 0) := by rw [if_neg hs0]; exact rfl
              clear hs0 hsl
              go_wp2
              go_meet
              exact ⟨0, rfl, he, by omega, rfl⟩
          case rest =>
            obtain ⟨slot, rfl, Hslot, hslot, rfl⟩ := hcut
            go_upto_region 22 with fail
            refine wp_region_tree (.take [0,1,2,3,4,5,6] (.force [7,8,9,10] .done)) [11,12] (by kernel_rfl) (by kernel_rfl) (fun y0 q0' => ?_)
            have HI6 := Lib.hid (HI5.out.kept q0'); have HB6 := Lib.hid (HB5.out.keep q0'); have HB6' := Lib.hid (HB5'.out.keep q0')
            have hz6 : wc.heap.size ≤ y0.heap.size := q0'.size
            have HoL : Hid (∀ q, (Value.slice A2 ops2.length c2).ownBlock = some q → q < y0.heap.size) := fun q e => (HI6.out.own.lt q e).2
            clear q0' HI5 HB5 HB5'
            obtain ⟨d0, d1, d2, d3, d4, d5⟩ := st_d Hl.out HB6'.out
            have a5 := aft_cell d5
            obtain ⟨hep1, hep2⟩ := hep
            obtain ⟨hs1, hs2⟩ := hslot
            refine mt_take y0 (Below.refl _ _) ?_
            simp only [pick_cons, pick_nil, nth_zero, nth_succ]
            iterate 6 (go_big_quiet_step (fail))
            (with_reducible refine wpQuiet_load_arr w.heap.size ss (Eq.trans ?_ rfl) HB6.out _ Tryd.underlying38 rfl hsi ?_)
            rfl
            simp only [Act.put, Array.set!_eq_setIfInBounds, List.setIfInBounds_toArray, List.set_cons_succ, List.set_cons_zero]
            clear a5 d0 d1 d2 d3 d4 d5
            refine wpQuiet_nil (mt_force ?_)
            simp only [pick_cons, pick_nil, nth_zero, nth_succ]
            refine fc_step rfl (fun K hK => ?_)
            go_simp
            (with_reducible refine (O1.out y0 HI6.out.keep).mono ?_)
            rintro e y1 ⟨rfl, hk⟩
            refine hK _ _ hk ?_
            clear hK K
            have HI7 := Lib.hid (HI6.out.kept hk)
            have hz7 : y0.heap.size ≤ y1.heap.size := hk.size
            clear hk HI6 HB6 HB6'
            refine fc_step rfl (fun K hK => ?_)
            go_simp
            (with_reducible refine (S1.out y1 HI7.out.keep).mono ?_)
            rintro e y2 ⟨A8, c8, rfl, own8, hk⟩
            refine hK _ _ hk ?_
            clear hK K
            have HI8 := Lib.hid (HI7.out.kept hk); have Own8 := Lib.hid own8
            have hz8 : y1.heap.size ≤ y2.heap.size := hk.size
            have P1 : Calls Tryd.prog 54 #[.int .i64 (slot * 2), .slice A8 64 c8] y2 fun e w' => ∃ p q, e = .returned (.func (.func 69) #[] #[.pointer (some ⟨p, 0, none⟩), .pointer (some ⟨q, 0, none⟩)]) ∧ (OpR.lay p q (slot * 2) A8 SB c8).ok w' ∧ y2.heap.size ≤ p ∧ y2.heap.size ≤ q ∧ Keep y2 w' := by
              have h := lay_make (slot * 2) A8 SB c8 y2 (own_rd own8) (by rw [hSl.out]; omega) (by omega)
              rw [hSl.out] at h
              exact h
            clear hk own8 HI7
            refine fc_step rfl (fun K hK => ?_)
            go_simp
            (with_reducible refine P1.mono ?_)
            rintro e y3 ⟨p, q, rfl, hok, hp, hq, hk⟩
            refine hK _ _ hk ?_
            clear hK K P1
            have HI9 := Lib.hid (HI8.out.kept hk); have Own9 := Lib.hid (own_keep Own8.out hk); have Hok := Lib.hid hok
            have hz9 : y2.heap.size ≤ y3.heap.size := hk.size
            clear hk hok HI8 Own8
            refine fc_step rfl (fun K hK => ?_)
            go_simp
            refine hK _ _ (keep_new _ _) ?_
            clear hK K
            obtain ⟨y4, hy4⟩ : ∃ y4, y4 = y3.alloc (.cells #[.func (.func 50) #[] #[], .func (.func 69) #[] #[.pointer (some ⟨p, 0, none⟩), .pointer (some ⟨q, 0, none⟩)], .func (.func 50) #[] #[]] 101) := ⟨_, rfl⟩
            have hk4 : Keep y3 y4 := by rw [hy4]; exact keep_new _ _
            have HV4 : Hid (Blk y4 y3.heap.size 101 ([OpR.sync, OpR.lay p q (slot * 2) A8 SB c8, OpR.sync].map OpR.val)) := by rw [hy4]; exact Blk.new y3 _ ([OpR.sync, OpR.lay p q (slot * 2) A8 SB c8, OpR.sync].map OpR.val)
            rw [← hy4]
            clear hy4
            have HI10 := Lib.hid (HI9.out.kept hk4); have Own10 := Lib.hid (own_keep Own9.out hk4); have Hok10 : Hid ((OpR.lay p q (slot * 2) A8 SB c8).ok y4) := OpR.ok_keep Hok.out hk4
            have hz10 : y3.heap.size ≤ y4.heap.size := hk4.size
            clear hk4 HI9 Own9 Hok
            generalize y3.heap.size = V3 at *
            refine fc_nil (mt_end ?_)
            refine wpList_app opT (by rfl) _ _ (by rfl) w.heap.size _ ops2.length _ (by rfl) HI10.out.own _ 3 3 ([OpR.sync, OpR.lay p q (slot * 2) A8 SB c8, OpR.sync].map OpR.val) (by rfl) (by rfl) HV4.out.rd (ops_one _) (by omega) (by unfold maxLen; omega) HI10.out.keep.size ?_
            intro v7 w7 own7 hg7 hat7
            simp only [Act.put, Array.set!_eq_setIfInBounds, List.setIfInBounds_toArray, List.set_cons_succ, List.set_cons_zero]
            have hx : ∀ W, Fr w.heap.size (fun q => (Value.slice A2 ops2.length c2).ownBlock = some q ∨ q = LB) y4 W → ∀ x ∈ [OpR.sync, OpR.lay p q (slot * 2) A8 SB c8, OpR.sync], x.ok W := fun W hW x hx => by
              have hnp : ¬ ((Value.slice A2 ops2.length c2).ownBlock = some p ∨ p = LB) := fun e => e.elim (fun e => by have := HoL.out p e; omega) (fun e => by omega)
              have hnq : ¬ ((Value.slice A2 ops2.length c2).ownBlock = some q ∨ q = LB) := fun e => e.elim (fun e => by have := HoL.out q e; omega) (fun e => by omega)
              have hr9 := own_rd (own_fr (own_lowH Own10.out (show w.heap.size ≤ y1.heap.size by omega)) hW (fun k e e2 => by
                have h1 := (Own10.out.lt k e).1
                exact e2.elim (fun e => by have := HoL.out k e; omega) (fun e => by omega)))
              rcases List.mem_cons.1 hx with rfl | hx
              · trivial
              rcases List.mem_cons.1 hx with rfl | hx
              · exact Hok10.out.fr ⟨by omega, hnp⟩ ⟨by omega, hnq⟩ hW hr9
              · rw [List.mem_singleton.1 hx]; trivial
            obtain ⟨A7, c7, rfl, hI7, hat⟩ := HI10.out.app [OpR.sync, OpR.lay p q (slot * 2) A8 SB c8, OpR.sync] hx own7 hg7 hat7
            have HI7 := Lib.hid hI7
            have HPL : Hid ((ops2 ++ [OpR.sync, OpR.lay p q (slot * 2) A8 SB c8, OpR.sync]).map OpR.pl = OP) := by
              rw [HOP2.out, ← Hslot.out, List.map_append, HPP.out, List.cons_append, List.append_assoc]; exact rfl
            clear hx hI7 hat own7 hg7 hat7 HI10 Own10 Hok10 HV4
            generalize hops : ops2 ++ [OpR.sync, OpR.lay p q (slot * 2) A8 SB c8, OpR.sync] = opsF at *
            clear hops
            go_wp2
            go_ret
            exact ⟨A7, c7, opsF, rfl, HPL.out, ⟨(own_cap HI7.out.own).1, (own_cap HI7.out.own).2, fun W hW => ⟨own_rd (own_fr HI7.out.own hW (fun _ _ h => h)), HI7.out.ok W (fun k h1 h2 h3 => hW k h1 h2 id)⟩⟩, HI7.out.keep⟩
end Go.Proofs.YtbomnldpmkedbaaDoor
