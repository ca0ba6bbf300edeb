/- A journal opened. -/
import Derived.Test.YtielojlhdnimgaaDoorJrnE
import Derived.Test.YtielojlhdnimgaaDoorDskG
set_option linter.unusedSimpArgs false
set_option linter.unusedVariables false
namespace Go.Proofs.YtielojlhdnimgaaDoor
open Go.RowKit
attribute [local go_sem ↓] Go.wp_at_zero Go.wp_at_succ

theorem bytes_foldH (nb : Nat) : ∀ (ws : List WriteR) (b : List UInt8), b.length = nb → (∀ x ∈ ws, x.ok nb = true) → (ws.foldl layW b).length = nb
  | [], b, h, _ => h
  | x :: ws, b, h, hx => by
    rw [List.foldl_cons]
    exact bytes_foldH nb ws _ ((len_layW b x (by rw [h]; exact hx x (List.mem_cons_self ..))).trans h) (fun y hy => hx y (List.mem_cons_of_mem _ hy))
theorem bytesD_lenH (b : List UInt8) (ws : List WriteR) : (bytesD b ws).length = (tkB b ws).length := bytes_foldH _ _ _ rfl (ok_of_sane (tk_sane b ws))
/-- The records from here on. -/
def opL (bn : Nat) (room : Int) (bs : List UInt8) : Nat → Nat → List UInt8 → List Hd → Nat × List UInt8 × List Hd
  | 0, k, last, hs => (k, last, hs)
  | f + 1, k, last, hs => if (nxD bn room k last bs).1 then opL bn room bs f (k + 1) (nxD bn room k last bs).2.2 (hs ++ [(nxD bn room k last bs).2.1]) else (k, last, hs)
/-- What opening finds on these bytes. -/
def openL (base room : Int) (bs : List UInt8) : Nat × List UInt8 × List Hd :=
  if base < 0 ∨ ((bs.length / 32 : Nat) : Int) < base then (0, z32, []) else opL base.toNat room bs 1025 0 z32 []
/-- A log's cells. -/
def lgCells (d0 d1 : Value) (base room n : Int) (last : List UInt8) : List Value := [d0, d1, .int .i64 base, .int .i64 room, .int .i64 n] ++ last.map u8v
theorem rd_lg {d0 d1 bs hv : Value} {base room n : Int} {last : List UInt8} : rdCells d0 d1 base room n last bs hv = lgCells d0 d1 base room n last ++ [bs, hv] := by
  unfold rdCells lgCells; rw [List.append_assoc]
theorem lg_len {d0 d1 : Value} {base room n : Int} {last : List UInt8} (hl : last.length = 32) : (lgCells d0 d1 base room n last).length = 37 := by simp [lgCells, hl]
theorem nx_lt {bn : Nat} {room : Int} {k : Nat} {last bs : List UInt8} (h : (nxD bn room k last bs).1 = true) : k < 1024 := by
  unfold nxD at h
  split at h
  · rename_i h1
    have : roomN room ≤ 1024 := by unfold roomN; omega
    omega
  · cases h
theorem one_rd (d0 d1 bs hv : Value) (base room n : Int) (last : List UInt8) (h0 : d0.oneCell' = true) (h1 : d1.oneCell' = true) (h2 : bs.oneCell' = true) (h3 : hv.oneCell' = true) : ∀ v ∈ rdCells d0 d1 base room n last bs hv, v.oneCell' = true := by
  intro v hv'
  unfold rdCells at hv'
  simp only [List.mem_append, List.mem_cons, List.not_mem_nil, or_false] at hv'
  rcases hv' with (rfl | rfl | rfl | rfl | rfl) | hv' | rfl | rfl <;> first | assumption | rfl | exact one_w8 _ _ hv'
theorem one_lg (d0 d1 : Value) (base room n : Int) (last : List UInt8) (h0 : d0.oneCell' = true) (h1 : d1.oneCell' = true) : ∀ v ∈ lgCells d0 d1 base room n last, v.oneCell' = true := by
  intro v hv'
  unfold lgCells at hv'
  simp only [List.mem_append, List.mem_cons, List.not_mem_nil, or_false] at hv'
  rcases hv' with (rfl | rfl | rfl | rfl | rfl) | hv' <;> first | assumption | rfl | exact one_w8 _ _ hv'
theorem rdx_none {w : World} {row : Option Nat} {A : Option Addr} {xs : List Value} (h : RdX row w A xs) : RdX none w A xs := by
  rcases h with h | ⟨b, off, e, _, hc⟩
  · exact .inl h
  · exact .inr ⟨b, off, e, (fun e => by cases e), hc⟩
theorem wpQuiet_load_partG [MM : _root_.Go.Proofs.YtielojlhdnimgaaDoor.G.Mk] {P : Program} {w0 : World} {ops : Array Oper} {rest : List Oper} {a : Act} {Q : Act → Prop} {x : Operand} {dst : Option Tmp} {ty ty' : TypeId} {pos : String} {af : Array Edge}
    (g off : Nat) (cs : Array Value) (hx : a.eval x = .pointer (some ⟨g, off, none⟩)) (hr : w0.rangeAt g off cs.toList) (hne : MM.m ≠ some g) (d : TypeDesc) (hu : P.underlying ty = some d) (hd : d.isRow = true) (hi : (P.info? ty).map (·.size) = some cs.size)
    (h : wpQuiet P ops (fun w' => ∃ x, w' = _root_.Go.Proofs.YtielojlhdnimgaaDoor.G.aftG w0 x) Q rest (a.put dst (.agg cs))) :
    wpQuiet P ops (fun w' => ∃ x, w' = _root_.Go.Proofs.YtielojlhdnimgaaDoor.G.aftG w0 x) Q ({ dst := dst, op := .load ty x, type := ty', pos := pos, after := af, guard := none } :: rest) a := by
  refine BigFrame.wpQuiet_want (by simp [Region.wanted]) fun K hK => ⟨.agg cs, fun w hw => ?_, hK _ h⟩
  obtain ⟨y, rfl⟩ := hw
  unfold Oper.quietAt execOp
  have hl := run_loadVar_mid (P := P) (_root_.Go.Proofs.YtielojlhdnimgaaDoor.G.aftG w0 y) g off ty cs.toList d (fun j v hv => grown_cell (_root_.Go.Proofs.YtielojlhdnimgaaDoor.G.aftG_keep w0 y) (hr j v hv) hne) hu hd (by simpa using hi)
  simp only [hx, Instr.loadAt, Instr.sureAddr, Sem.run_bind, Sem.run_pure, Result.andThen_ok, hl, Array.toArray_toList]
  exact ⟨rfl, rfl⟩
/-- What a walk has to know of a log as a value. -/
structure LgA (l : List Value) (cs : Array Value) : Prop where
  l : cs.toList = l
  z : cs.size = 37
  i : (Tryd.prog.info? 35).map (·.size) = some cs.size
  n : ¬ cs = #[]

set_option maxRecDepth 100000 in
set_option maxHeartbeats 6000000 in
theorem open_any (A : Option Addr) (b : List UInt8) (c : Nat) (PA : Option Addr) (ws : List WriteR) (pc : Nat) (base room : Int) (w : World) (h : DOk w A b c PA ws pc) (hS : ShaOk w) (hb1 : -9223372036854775808 ≤ base ∧ base ≤ 9223372036854775807) :
    Calls Tryd.prog 16 #[DV A b.length c PA ws.length pc, .int .i64 base, .int .i64 room] w fun e w' => ∃ cs hv, e = .returned (.tuple #[.agg cs, hv]) ∧
      cs.toList = lgCells (.slice A b.length c) (.slice PA ws.length pc) base room ((openL base room (bytesD b ws)).1 : Nat) (openL base room (bytesD b ws)).2.1 ∧
      w'.ownsRow w.heap.size 44 68 hv (openL base room (bytesD b ws)).2.2.length ((openL base room (bytesD b ws)).2.2.flatMap Hd.cells) ∧ Keep w w' := by
  have hlb : (bytesD b ws).length ≤ 131072 := by
    have h1 := sane_len (tk_sane b ws)
    have h2 : (bytesD b ws).length = (tkB b ws).length := bytesD_lenH b ws
    omega
  have B1 : Hid (∀ w', Keep w w' → Calls Tryd.prog 23 #[DV A b.length c PA ws.length pc] w' fun e w'' => ∃ v, e = .returned v ∧ w''.ownsRow w'.heap.size 5 1 v (bytesD b ws).length ((bytesD b ws).map u8v) ∧ Keep w' w'') := fun w' hk => bytes_any A b c PA ws pc w' (h.keep hk)
  have hbc := h.bc; have hcm := h.cm; have hpl := h.pl; have hpm := h.pm
  unfold maxLen at hcm hpm
  have HS := Lib.hid hS
  clear h hS
  generalize bytesD b ws = bs at *
  obtain ⟨OP, hOP⟩ : ∃ OP, openL base room bs = OP := ⟨_, rfl⟩
  rw [hOP]
  have HOP := Lib.hid hOP; clear hOP
  generalize b.length = bl at *
  generalize ws.length = wl at *
  go_enter Tryd.func16, Tryd.ntmps16
  go_upto_region 1 with fail
  obtain ⟨w1, hw1⟩ : ∃ w1, w1 = (w.alloc (.cells #[.slice A bl c, .slice PA wl pc] 31)).alloc (.cells #[.slice none 0 0, .slice none 0 0, .int .i64 0, .int .i64 0, .int .i64 0, .int .u8 0, .int .u8 0, .int .u8 0, .int .u8 0, .int .u8 0, .int .u8 0, .int .u8 0, .int .u8 0, .int .u8 0, .int .u8 0, .int .u8 0, .int .u8 0, .int .u8 0, .int .u8 0, .int .u8 0, .int .u8 0, .int .u8 0, .int .u8 0, .int .u8 0, .int .u8 0, .int .u8 0, .int .u8 0, .int .u8 0, .int .u8 0, .int .u8 0, .int .u8 0, .int .u8 0, .int .u8 0, .int .u8 0, .int .u8 0, .int .u8 0, .int .u8 0] 35) := ⟨_, rfl⟩
  have HD1 : Hid (Blk w1 w.heap.size 31 [.slice A bl c, .slice PA wl pc]) := by rw [hw1]; exact (Blk.new w _ [.slice A bl c, .slice PA wl pc]).alloc _
  have HR1 : Hid (Blk w1 (w.heap.size + 1) 35 (lgCells (.slice none 0 0) (.slice none 0 0) 0 0 0 z32)) := by
    rw [hw1]
    have h1 := Blk.new (w.alloc (.cells #[.slice A bl c, .slice PA wl pc] 31)) 35 (lgCells (.slice none 0 0) (.slice none 0 0) 0 0 0 z32)
    rw [World.size_alloc] at h1
    exact h1
  have HK1 : Hid (Keep w w1) := by rw [hw1]; exact keep_trans (keep_new _ _) (keep_new _ _)
  have hz1 : w.heap.size + 2 = w1.heap.size := by rw [hw1]; simp
  rw [← hw1]
  clear hw1
  have hz2 : w.heap.size + 2 ≤ w1.heap.size := by omega
  clear hz1
  have e0 := HD1.out.cell 0; have e1 := HD1.out.cell 1
  simp only [List.getElem?_cons_zero, List.getElem?_cons_succ] at e0 e1
  go_cut [8] (fun p wx => ∃ G A2 c2, p = .pointer (some ⟨G, 0, none⟩) ∧ w1.heap.size ≤ G ∧ Hid (Blk wx G 79 (rdCells (.slice A bl c) (.slice PA wl pc) base room 0 z32 (.slice A2 bs.length c2) (.slice none 0 0))) ∧ Hid (RdX (some G) wx A2 (bs.map u8v)) ∧ bs.length ≤ c2 ∧ c2 ≤ 9223372036854775807 ∧ Keep w1 wx)
  case first =>
    refine wp_region_tree (.take [0,1,2,3,4] (.fork 5 (.take [6] (.force [7] .done)) 7 (.force [5] (.take [6] .done)))) [8] (by kernel_rfl) (by kernel_rfl) (fun w2 k2 => ?_)
    have a0 := aft_cell (keep_cell k2 e0); have a1 := aft_cell (keep_cell k2 e1)
    refine mt_take w2 (Below.refl _ _) ?_
    simp only [pick_cons, pick_nil, nth_zero, nth_succ]
    repeat (go_big_quiet_step (fail))
    refine wpQuiet_nil ?_
    clear a0 a1
    refine mt_fork ?_ ?_
    · simp only [pick_cons, pick_nil, nth_zero, nth_succ]
      refine fc_step rfl (fun K hK => ?_)
      go_simp
      (with_reducible refine (B1.out _ (keep_trans HK1.out k2)).mono ?_)
      rintro e w3 ⟨v3, rfl, own3, hk⟩
      refine hK _ _ hk ?_
      clear hK K
      obtain ⟨A2, c2, rfl, hc2, hm2, hr2⟩ := own_form own3
      have Hr2 := Lib.hid hr2
      unfold maxLen at hm2
      have k3 := Lib.hid (keep_trans k2 hk)
      clear own3 hr2 hk
      refine fc_nil (mt_take w3 (Below.refl _ _) ?_)
      simp only [pick_cons, pick_nil, nth_zero, nth_succ]
      repeat (go_big_quiet_step (fail))
      refine wpQuiet_nil (mt_force ?_)
      simp only [pick_cons, pick_nil, nth_zero, nth_succ]
      refine fc_step rfl (fun K hK => ?_)
      go_simp
      refine hK _ _ (keep_new _ _) ?_
      clear hK K
      obtain ⟨w4, hw4⟩ : ∃ w4, w4 = w3.alloc (.cells #[.slice none 0 0, .slice none 0 0, .int .i64 0, .int .i64 0, .int .i64 0, .int .u8 0, .int .u8 0, .int .u8 0, .int .u8 0, .int .u8 0, .int .u8 0, .int .u8 0, .int .u8 0, .int .u8 0, .int .u8 0, .int .u8 0, .int .u8 0, .int .u8 0, .int .u8 0, .int .u8 0, .int .u8 0, .int .u8 0, .int .u8 0, .int .u8 0, .int .u8 0, .int .u8 0, .int .u8 0, .int .u8 0, .int .u8 0, .int .u8 0, .int .u8 0, .int .u8 0, .int .u8 0, .int .u8 0, .int .u8 0, .int .u8 0, .int .u8 0, .slice none 0 0, .slice none 0 0] 79) := ⟨_, rfl⟩
      have hb4 : Blk w4 w3.heap.size 79 (rdCells (.slice none 0 0) (.slice none 0 0) 0 0 0 z32 (.slice none 0 0) (.slice none 0 0)) := by rw [hw4]; exact Blk.new w3 _ (rdCells (.slice none 0 0) (.slice none 0 0) 0 0 0 z32 (.slice none 0 0) (.slice none 0 0))
      have k34 : Hid (Keep w3 w4) := by rw [hw4]; exact keep_new _ _
      have hz3 : w1.heap.size ≤ w3.heap.size := k3.out.size
      rw [← hw4]
      clear hw4
      obtain ⟨cs, hcs⟩ : ∃ cs : Array Value, (#[.slice A bl c, .slice PA wl pc, .int .i64 base, .int .i64 room, .int .i64 0, .int .u8 0, .int .u8 0, .int .u8 0, .int .u8 0, .int .u8 0, .int .u8 0, .int .u8 0, .int .u8 0, .int .u8 0, .int .u8 0, .int .u8 0, .int .u8 0, .int .u8 0, .int .u8 0, .int .u8 0, .int .u8 0, .int .u8 0, .int .u8 0, .int .u8 0, .int .u8 0, .int .u8 0, .int .u8 0, .int .u8 0, .int .u8 0, .int .u8 0, .int .u8 0, .int .u8 0, .int .u8 0, .int .u8 0, .int .u8 0, .int .u8 0, .int .u8 0, .slice A2 bs.length c2, .slice none 0 0] : Array Value) = cs := ⟨_, rfl⟩
      have hcl : Hid (cs.toList = rdCells (.slice A bl c) (.slice PA wl pc) base room 0 z32 (.slice A2 bs.length c2) (.slice none 0 0)) := by rw [← hcs]; rfl
      have hcz : cs.size = 39 := by rw [← hcs]; rfl
      have hcn : ¬ cs = #[] := by intro h; rw [h] at hcz; simp at hcz
      have hco : Hid (∀ v ∈ cs.toList, v.oneCell' = true) := by rw [hcl.out]; exact one_rd _ _ _ _ _ _ _ _ (by rfl) (by rfl) (by rfl) (by rfl)
      rw [hcs]
      clear hcs
      obtain ⟨w5, hst, hb5, hg5⟩ := run_store_blk (P := Tryd.prog) cs.toList hb4 (by rw [rdCells_len rfl, Array.length_toList, hcz]) hco.out
      have Hb5 := Lib.hid hb5; have Hg5 := Lib.hid hg5
      have hlt3 := hb4.lt
      have HX : Hid (RdX (some w3.heap.size) w4 A2 (bs.map u8v)) := (RdX.of_old Hr2.out (fun k hk => by injection hk with hk; omega)).keep k34.out
      clear hb4 hb5 hg5
      refine fc_nil (mt_end ?_)
      go_wp2
      go_meet
      refine ⟨w3.heap.size, A2, c2, rfl, hz3, by rw [← hcl.out]; exact Hb5.out, HX.out.grown Hg5.out (.inl rfl), hc2, by omega, (keep_trans k3.out k34.out).grown Hg5.out (keep_trans k3.out k34.out).size (fun q hq => by injection hq with hq; omega)⟩
    · simp only [pick_cons, pick_nil, nth_zero, nth_succ]
      refine fc_step rfl (fun K hK => ?_)
      go_simp
      refine hK _ _ (keep_new _ _) ?_
      clear hK K
      obtain ⟨w3, hw3⟩ : ∃ w3, w3 = w2.alloc (.cells #[.slice none 0 0, .slice none 0 0, .int .i64 0, .int .i64 0, .int .i64 0, .int .u8 0, .int .u8 0, .int .u8 0, .int .u8 0, .int .u8 0, .int .u8 0, .int .u8 0, .int .u8 0, .int .u8 0, .int .u8 0, .int .u8 0, .int .u8 0, .int .u8 0, .int .u8 0, .int .u8 0, .int .u8 0, .int .u8 0, .int .u8 0, .int .u8 0, .int .u8 0, .int .u8 0, .int .u8 0, .int .u8 0, .int .u8 0, .int .u8 0, .int .u8 0, .int .u8 0, .int .u8 0, .int .u8 0, .int .u8 0, .int .u8 0, .int .u8 0, .slice none 0 0, .slice none 0 0] 79) := ⟨_, rfl⟩
      have hb3 : Hid (Blk w3 w2.heap.size 79 (rdCells (.slice none 0 0) (.slice none 0 0) 0 0 0 z32 (.slice none 0 0) (.slice none 0 0))) := by rw [hw3]; exact Blk.new w2 _ (rdCells (.slice none 0 0) (.slice none 0 0) 0 0 0 z32 (.slice none 0 0) (.slice none 0 0))
      have k23 : Hid (Keep w2 w3) := by rw [hw3]; exact keep_new _ _
      have hz3 : w1.heap.size ≤ w2.heap.size := k2.size
      have hlt3 : w2.heap.size < w3.heap.size := hb3.out.lt
      rw [← hw3]
      clear hw3
      generalize w2.heap.size = G at hb3 hz3 hlt3 ⊢
      refine fc_nil (mt_force ?_)
      simp only [pick_cons, pick_nil, nth_zero, nth_succ]
      refine fc_step rfl (fun K hK => ?_)
      go_simp
      (with_reducible refine (B1.out _ (keep_trans HK1.out (keep_trans k2 k23.out))).mono ?_)
      rintro e w4 ⟨v4, rfl, own4, hk⟩
      refine hK _ _ hk ?_
      clear hK K
      obtain ⟨A2, c2, rfl, hc2, hm2, hr2⟩ := own_form own4
      have HX : Hid (RdX (some G) w4 A2 (bs.map u8v)) := RdX.of_own own4 (fun k hk => by injection hk with hk; omega)
      unfold maxLen at hm2
      have k4 := Lib.hid (keep_trans (keep_trans k2 k23.out) hk)
      have hb4 := Lib.hid (hb3.out.keep hk)
      clear own4 hr2 hk
      refine fc_nil (mt_take w4 (Below.refl _ _) ?_)
      simp only [pick_cons, pick_nil, nth_zero, nth_succ]
      repeat (go_big_quiet_step (fail))
      refine wpQuiet_nil (mt_end ?_)
      obtain ⟨cs, hcs⟩ : ∃ cs : Array Value, (#[.slice A bl c, .slice PA wl pc, .int .i64 base, .int .i64 room, .int .i64 0, .int .u8 0, .int .u8 0, .int .u8 0, .int .u8 0, .int .u8 0, .int .u8 0, .int .u8 0, .int .u8 0, .int .u8 0, .int .u8 0, .int .u8 0, .int .u8 0, .int .u8 0, .int .u8 0, .int .u8 0, .int .u8 0, .int .u8 0, .int .u8 0, .int .u8 0, .int .u8 0, .int .u8 0, .int .u8 0, .int .u8 0, .int .u8 0, .int .u8 0, .int .u8 0, .int .u8 0, .int .u8 0, .int .u8 0, .int .u8 0, .int .u8 0, .int .u8 0, .slice A2 bs.length c2, .slice none 0 0] : Array Value) = cs := ⟨_, rfl⟩
      have hcl : Hid (cs.toList = rdCells (.slice A bl c) (.slice PA wl pc) base room 0 z32 (.slice A2 bs.length c2) (.slice none 0 0)) := by rw [← hcs]; rfl
      have hcz : cs.size = 39 := by rw [← hcs]; rfl
      have hcn : ¬ cs = #[] := by intro h; rw [h] at hcz; simp at hcz
      have hco : Hid (∀ v ∈ cs.toList, v.oneCell' = true) := by rw [hcl.out]; exact one_rd _ _ _ _ _ _ _ _ (by rfl) (by rfl) (by rfl) (by rfl)
      rw [hcs]
      clear hcs
      obtain ⟨w5, hst, hb5, hg5⟩ := run_store_blk (P := Tryd.prog) cs.toList hb4.out (by rw [rdCells_len rfl, Array.length_toList, hcz]) hco.out
      have Hb5 := Lib.hid hb5; have Hg5 := Lib.hid hg5
      clear hb5 hg5
      go_wp2
      go_meet
      refine ⟨G, A2, c2, rfl, hz3, by rw [← hcl.out]; exact Hb5.out, HX.out.grown Hg5.out (.inl rfl), hc2, by omega, k4.out.grown Hg5.out k4.out.size (fun q hq => by injection hq with hq; omega)⟩
  case rest =>
    obtain ⟨G, A2, c2, rfl, hzG, HB, HX, hc2, hm2, kc⟩ := hcut
    have d2 := (HB.out.cell 37).trans (rdCells_37 (by rfl))
    by_cases p1 : base < 0
    · have HOPx : OP = (0, z32, []) := by rw [← HOP.out]; exact if_pos (.inl p1)
      obtain ⟨ls, hls⟩ : ∃ ls : Array Value, ls.toList = lgCells (.slice A bl c) (.slice PA wl pc) base room 0 z32 := ⟨_, rfl⟩
      have hlz : ls.size = 37 := by rw [← Array.length_toList, hls]; exact lg_len rfl
      have hln : ¬ ls = #[] := by intro h; rw [h] at hlz; simp at hlz
      have hli : (Tryd.prog.info? 35).map (·.size) = some ls.size := by rw [hlz]; kernel_rfl
      have hrg : wc.rangeAt G 0 ls.toList := range_of HB.out 0 ls.toList (by rw [hls, lg_len rfl, List.drop_zero, rd_lg, List.take_left' (lg_len rfl)])
      have HRc : Hid (Blk wc (w.heap.size + 1) 35 (lgCells (.slice none 0 0) (.slice none 0 0) 0 0 0 z32)) := HR1.out.keep kc
      obtain ⟨w8, hst, hb8, hg8⟩ := run_store_blk (P := Tryd.prog) ls.toList HRc.out (by rw [lg_len rfl, Array.length_toList, hlz]) (by rw [hls]; exact one_lg _ _ _ _ _ _ (by rfl) (by rfl))
      have Hb8 := Lib.hid hb8; have Hg8 := Lib.hid hg8; have Hls := Lib.hid hls; have Hrg := Lib.hid hrg
      clear hb8 hg8 hls hrg
      go_upto_region 3 with fail
      go_wp2_with ((with_reducible refine load_part G 0 ls (Eq.trans ?_ rfl) Hrg.out _ Tryd.underlying35 rfl hli ?_); rfl)
      have hb8 := Hb8.out
      have hkc : Keep w wc := keep_trans HK1.out kc
      (try rw [HOPx])
      exact bodyPost_ret (v := .tuple #[.agg ls, .slice none 0 0]) (results_cell_tmp_row Tryd.results16 _ _ (w.heap.size + 1) _ _ _ _ rfl hb8 Tryd.underlying35 rfl (by rw [List.size_toArray, Array.length_toList]; exact hli)) rfl ⟨ls, _, rfl, Hls.out, World.ownsRow_nil _ _ _ _, hkc.grown Hg8.out hkc.size (fun q hq => by injection hq with hq; omega)⟩
    · by_cases p2 : ((bs.length / 32 : Nat) : Int) < base
      · have HOPx : OP = (0, z32, []) := by rw [← HOP.out]; exact if_pos (.inr p2)
        obtain ⟨ls, hls⟩ : ∃ ls : Array Value, ls.toList = lgCells (.slice A bl c) (.slice PA wl pc) base room 0 z32 := ⟨_, rfl⟩
        have hlz : ls.size = 37 := by rw [← Array.length_toList, hls]; exact lg_len rfl
        have hln : ¬ ls = #[] := by intro h; rw [h] at hlz; simp at hlz
        have hli : (Tryd.prog.info? 35).map (·.size) = some ls.size := by rw [hlz]; kernel_rfl
        have hrg : wc.rangeAt G 0 ls.toList := range_of HB.out 0 ls.toList (by rw [hls, lg_len rfl, List.drop_zero, rd_lg, List.take_left' (lg_len rfl)])
        have HRc : Hid (Blk wc (w.heap.size + 1) 35 (lgCells (.slice none 0 0) (.slice none 0 0) 0 0 0 z32)) := HR1.out.keep kc
        obtain ⟨w8, hst, hb8, hg8⟩ := run_store_blk (P := Tryd.prog) ls.toList HRc.out (by rw [lg_len rfl, Array.length_toList, hlz]) (by rw [hls]; exact one_lg _ _ _ _ _ _ (by rfl) (by rfl))
        have Hb8 := Lib.hid hb8; have Hg8 := Lib.hid hg8; have Hls := Lib.hid hls; have Hrg := Lib.hid hrg
        clear hb8 hg8 hls hrg
        go_upto_region 3 with fail
        go_wp2_with ((with_reducible refine load_part G 0 ls (Eq.trans ?_ rfl) Hrg.out _ Tryd.underlying35 rfl hli ?_); rfl)
        have hb8 := Hb8.out
        have hkc : Keep w wc := keep_trans HK1.out kc
        (try rw [HOPx])
        exact bodyPost_ret (v := .tuple #[.agg ls, .slice none 0 0]) (results_cell_tmp_row Tryd.results16 _ _ (w.heap.size + 1) _ _ _ _ rfl hb8 Tryd.underlying35 rfl (by rw [List.size_toArray, Array.length_toList]; exact hli)) rfl ⟨ls, _, rfl, Hls.out, World.ownsRow_nil _ _ _ _, hkc.grown Hg8.out hkc.size (fun q hq => by injection hq with hq; omega)⟩
      · obtain ⟨bn, hbn⟩ : ∃ bn : Nat, base = bn := ⟨base.toNat, by omega⟩
        subst hbn
        have HOP2 : Hid (opL bn room bs 1025 0 z32 [] = OP) := by
          rw [← HOP.out]; exact (if_neg (by omega)).symm
        have hbn5 : bn ≤ 5000 := by omega
        go_upto_region 4 with fail
        have HKc := Lib.hid kc
        have HS1 := Lib.hid (HS.out.keep HK1.out)
        clear d2 kc
        go_loopw [] (fun wr => ∃ (k : Nat) (last : List UInt8) (hv : Value) (hs : List Hd), k ≤ 1024 ∧ last.length = 32 ∧ hs.length = k ∧ Hid (RSt w1 wr G (.slice A bl c) (.slice PA wl pc) bn room k last A2 bs c2 hv hs) ∧ Hid (opL bn room bs (1025 - k) k last hs = OP)) (fun wr => match wr.cell? ⟨G, 4, none⟩ with | some (.int _ n) => 1024 - n.toNat | _ => 0)
        case atStart =>
          exact ⟨0, z32, .slice none 0 0, [], by omega, rfl, rfl, ⟨HKc.out, hzG, HB.out, World.ownsRow_nil _ _ _ _, (fun e => by cases e), HX.out, rdx_none HX.out⟩, HOP2⟩
        case round =>
          obtain ⟨k, last, hv, hs, hk, hll, hhs, HSt, HO⟩ := hrel
          have C4 := Lib.hid (HSt.out.cells hll).2.2.1
          have Hhs := Lib.hid hhs
          have hhs2 : hs.length ≤ 2000 := by omega
          clear hhs
          go_wp2_with fail
          refine (next_any w1 wr G _ _ bn room k last A2 bs c2 hv hs HSt.out hll hbn5 hk (by omega) hc2 (by unfold maxLen; omega) hhs2 HS1.out).mono ?_
          rintro e w2 ⟨rfl, hF, hT⟩
          have HOs : Hid (∀ NX, nxD bn room k last bs = NX → (NX.1 = true → k < 1024 ∧ opL bn room bs (1025 - (k + 1)) (k + 1) NX.2.2 (hs ++ [NX.2.1]) = OP) ∧ (NX.1 = false → (k, last, hs) = OP)) := fun NX e => by
            subst e
            have h1 : 1025 - k = (1024 - k) + 1 := by omega
            have h2 := HO.out
            rw [h1, opL] at h2
            refine ⟨fun e => ⟨nx_lt e, ?_⟩, fun e => ?_⟩
            · rw [if_pos e] at h2
              rw [show 1025 - (k + 1) = 1024 - k by omega]; exact h2
            · rw [if_neg (by rw [e]; exact Bool.false_ne_true)] at h2; exact h2
          obtain ⟨NX, hNX⟩ : ∃ NX, nxD bn room k last bs = NX := ⟨_, rfl⟩
          have HN := Lib.hid (HOs.out NX hNX)
          rw [hNX] at hF hT ⊢
          clear hNX HOs
          obtain ⟨b9, H9, S9⟩ := NX
          cases b9 with
          | true =>
            obtain ⟨hv', hst', hok', hsl'⟩ := hT rfl
            have HSt' := Lib.hid hst'
            have hlt : k < 1024 := (HN.out.1 rfl).1
            have HO3 := Lib.hid (HN.out.1 rfl).2
            clear hF hT hst' hok'
            go_wp2
            go_roundw
            case rel => exact ⟨k + 1, S9, hv', hs ++ [H9], by omega, hsl', by rw [List.length_append, Hhs.out]; rfl, HSt', HO3⟩
            case measure =>
              have c4' := (HSt'.out.cells hsl').2.2.1
              rw [c4', C4.out]
              simp; omega
          | false =>
            obtain ⟨hv', hst'⟩ := hF rfl
            have HSt' := Lib.hid hst'
            have HE : Hid (OP = (k, last, hs)) := (HN.out.2 rfl).symm
            clear hF hT hst'
            obtain ⟨ls, hls⟩ : ∃ ls : Array Value, ls.toList = lgCells (.slice A bl c) (.slice PA wl pc) bn room k last := ⟨_, rfl⟩
            have hlz : ls.size = 37 := by rw [← Array.length_toList, hls]; exact lg_len hll
            have hln : ¬ ls = #[] := by intro h; rw [h] at hlz; simp at hlz
            have hli : (Tryd.prog.info? 35).map (·.size) = some ls.size := by rw [hlz]; kernel_rfl
            have Hls := Lib.hid hls
            have HR2 : Hid (Blk w2 (w.heap.size + 1) 35 (lgCells (.slice none 0 0) (.slice none 0 0) 0 0 0 z32)) := HR1.out.keep HSt'.out.kp
            have hrg : Hid (w2.rangeAt G 0 ls.toList) := range_of HSt'.out.blk 0 ls.toList (by rw [hls, lg_len hll, List.drop_zero, rd_lg, List.take_left' (lg_len hll)])
            have c38 := (HSt'.out.cells hll).2.2.2.2
            obtain ⟨Ah, ch, rfl, hch, hmh, hrh⟩ := own_form HSt'.out.own
            clear hls hrh hch hmh
            go_upto_region 5 with fail
            letI iM : _root_.Go.Proofs.YtielojlhdnimgaaDoor.G.Mk := ⟨some (w.heap.size + 1)⟩
            refine _root_.Go.Proofs.YtielojlhdnimgaaDoor.G.wp_region_tree (.take [0,1,2,3] (.force [4] .done)) [5] (by kernel_rfl) (by kernel_rfl) (fun w5 k5 => ?_)
            have hneG : _root_.Go.Proofs.YtielojlhdnimgaaDoor.G.Mk.m ≠ some G := fun e => by have e2 : w.heap.size + 1 = G := Option.some.inj e; omega
            have b38 := _root_.Go.Proofs.YtielojlhdnimgaaDoor.G.aftG_cell (keep_cell k5 c38) hneG
            have hrg5 : Hid (w5.rangeAt G 0 ls.toList) := fun j v hv => keep_cell k5 (hrg.out j v hv)
            have HK5 := Lib.hid (keep_trans HSt'.out.kp k5)
            have Own5 := Lib.hid (own_keep HSt'.out.own k5)
            obtain ⟨w8, hst, hb8, hg8⟩ := run_store_blk (P := Tryd.prog) ls.toList (HR2.out.keep k5) (by rw [lg_len rfl, Array.length_toList, hlz]) (by rw [Hls.out]; exact one_lg _ _ _ _ _ _ (by rfl) (by rfl))
            have Hb8 := Lib.hid hb8; have Hg8 := Lib.hid hg8
            clear hb8 hg8 k5 c38
            refine _root_.Go.Proofs.YtielojlhdnimgaaDoor.G.mt_take w5 (_root_.Go.Proofs.YtielojlhdnimgaaDoor.G.Gr.refl _) ?_
            simp only [pick_cons, pick_nil, nth_zero, nth_succ]
            go_big_quiet_step (fail)
            (with_reducible refine wpQuiet_load_partG G 0 ls (Eq.trans ?_ rfl) hrg5.out hneG _ Tryd.underlying35 rfl hli ?_)
            rfl
            simp only [Act.put, Array.set!_eq_setIfInBounds, List.setIfInBounds_toArray, List.set_cons_succ, List.set_cons_zero]
            repeat (go_big_quiet_step (fail))
            refine wpQuiet_nil (_root_.Go.Proofs.YtielojlhdnimgaaDoor.G.mt_force ?_)
            simp only [pick_cons, pick_nil, nth_zero, nth_succ]
            refine _root_.Go.Proofs.YtielojlhdnimgaaDoor.G.fc_step rfl (fun K hK => ?_)
            go_simp
            refine hK _ _ (show _root_.Go.Proofs.YtielojlhdnimgaaDoor.G.Gr w5 w8 from Hg8.out) ?_
            clear hK K
            refine _root_.Go.Proofs.YtielojlhdnimgaaDoor.G.fc_nil (_root_.Go.Proofs.YtielojlhdnimgaaDoor.G.mt_end ?_)
            clear b38 hneG
            clear iM
            go_wp2
            have hb8 := Hb8.out
            have hkc : Keep w w5 := keep_trans HK1.out HK5.out
            rw [HE.out]
            refine bodyPost_ret (v := .tuple #[.agg ls, .slice Ah hs.length ch]) (results_cell_tmp_row Tryd.results16 _ _ (w.heap.size + 1) _ _ _ _ rfl hb8 Tryd.underlying35 rfl (by rw [List.size_toArray, Array.length_toList]; exact hli)) rfl ⟨ls, _, rfl, Hls.out, ?_, hkc.grown Hg8.out hkc.size (fun q hq => by injection hq with hq; omega)⟩
            exact own_lowH (Own5.out.kept Hg8.out (.inr (fun e => by have h1 := (Own5.out.lt _ e).1; omega))) (by omega)
end Go.Proofs.YtielojlhdnimgaaDoor
