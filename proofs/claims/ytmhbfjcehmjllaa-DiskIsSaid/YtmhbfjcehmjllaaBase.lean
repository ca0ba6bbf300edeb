/- Words for memory that every walk of this seat uses: a slice that reads as a list of cells, a step from world to world that leaves what was there, appends onto a row of the call's own. -/
import Derived.WalkKit
import Derived.WalkSpells
import Derived.WalkLawsBesides
import Derived.BigQuiet
import Derived.Deep.AppendLies
import Derived.Maps.AppendAt
import Derived.Laws.CopyOwn
import Derived.Lib.Hide
set_option linter.unusedSimpArgs false
set_option linter.unusedVariables false
namespace Go.Proofs.Ytmhbfjcehmjllaa
open Go.RowKit

theorem add_lit0 (b off j : Nat) : (⟨b, off, none⟩ : Addr).add j = ⟨b, off + j, none⟩ := by
  unfold Addr.add; split <;> simp_all

/-- The cells xs lie at A (nothing is said of A where there are none). -/
def Rd (w : World) (A : Option Addr) (xs : List Value) : Prop :=
  xs = [] ∨ ∃ b off, A = some ⟨b, off, none⟩ ∧ ∀ j (h : j < xs.length), w.cell? ⟨b, off + j, none⟩ = some xs[j]

theorem cell_lt {w : World} {b o : Nat} {v : Value} (h : w.cell? ⟨b, o, none⟩ = some v) : b < w.heap.size := World.block_lt_of_cell? w _ h

/-- From w to w' nothing that was there has turned, but for block g. -/
abbrev Keep (w w' : World) : Prop := Below w.heap.size w w'

section
variable {w w' : World} {A : Option Addr} {xs ys : List Value}
theorem Rd.nil (w : World) (A : Option Addr) : Rd w A [] := .inl rfl

theorem Rd.at (h : Rd w A xs) {k : Nat} (hk : k < xs.length) : ∃ b off, A = some ⟨b, off, none⟩ ∧ b < w.heap.size ∧ ∀ j (h : j < xs.length), w.cell? ⟨b, off + j, none⟩ = some xs[j] := by
  rcases h with rfl | ⟨b, off, rfl, hc⟩
  · simp at hk
  · exact ⟨b, off, rfl, cell_lt (hc k hk), hc⟩

theorem Rd.mono (h : Rd w A xs) (hk : ∀ b o v, w.cell? ⟨b, o, none⟩ = some v → w'.cell? ⟨b, o, none⟩ = some v) : Rd w' A xs := by
  rcases h with rfl | ⟨b, off, rfl, hc⟩
  · exact .inl rfl
  · exact .inr ⟨b, off, rfl, fun j hj => hk _ _ _ (hc j hj)⟩

theorem Rd.keep (h : Rd w A xs) (hb : Keep w w') : Rd w' A xs :=
  h.mono fun b o v hv => by rw [hb.cell (p := ⟨b, o, none⟩) (cell_lt hv)]; exact hv

/-- The cells of an old slice, asked for in a later world. -/
theorem Rd.at2 (h : Rd w A xs) (hb : Keep w w') {k : Nat} (hk : k < xs.length) :
    ∃ b off, A = some ⟨b, off, none⟩ ∧ b < w.heap.size ∧ (∀ j (h : j < xs.length), w'.cell? ⟨b, off + j, none⟩ = some xs[j]) ∧
      (∀ w2, Keep w w2 → ∀ j (h : j < xs.length), w2.cell? ⟨b, off + j, none⟩ = some xs[j]) := by
  obtain ⟨b, off, rfl, hlt, hc⟩ := h.at hk
  exact ⟨b, off, rfl, hlt, fun j hj => (hb.cell (p := ⟨b, off + j, none⟩) hlt).trans (hc j hj), fun w2 h2 j hj => (h2.cell (p := ⟨b, off + j, none⟩) hlt).trans (hc j hj)⟩

/-- Behind an append onto a row of the call's own. -/
theorem keep_grown {w wr w1 : World} {base : Nat} {e : TypeId} {size : Nat} {v : Value} {n : Nat} {xs : List Value} (hk : Below base w wr) (hs : base ≤ wr.heap.size) (hg : wr.grownBy w1 v.ownBlock)
    (hown : wr.ownsRow base e size v n xs) : Below base w w1 := hk.grown hg hs fun k hk => (hown.lt k hk).1

theorem keep_cell {w w' : World} (hk : Keep w w') {b o : Nat} {v : Value} (h : w.cell? ⟨b, o, none⟩ = some v) : w'.cell? ⟨b, o, none⟩ = some v :=
  (hk.cell (p := ⟨b, o, none⟩) (cell_lt h)).trans h
theorem keep_frozen {w w' : World} (hk : Keep w w') {b o : Nat} (hb : b < w.heap.size) (h : w.frozen? ⟨b, o, none⟩ = false) : w'.frozen? ⟨b, o, none⟩ = false :=
  (hk.frozen (p := ⟨b, o, none⟩) hb).trans h
theorem keep_trans {a b c : World} (h : Keep a b) (k : Keep b c) : Keep a c := h.trans (k.mono h.size)

theorem box_cell (w : World) (cs : Array Value) (t : TypeId) (j : Nat) : (w.alloc (.cells cs t)).cell? ⟨w.heap.size, j, none⟩ = cs[j]? :=
  cell_of_row _ _ _ _ _ (0, 0) (heap_alloc_new w _)
theorem keep_box {w w2 : World} {cs : Array Value} {t : TypeId} (hk : Keep (w.alloc (.cells cs t)) w2) (j : Nat) (v : Value) (hv : cs[j]? = some v) : w2.cell? ⟨w.heap.size, j, none⟩ = some v :=
  keep_cell hk ((box_cell w cs t j).trans hv)
theorem own_keep {w w' : World} {base : Nat} {e : TypeId} {size : Nat} {v : Value} {n : Nat} {xs : List Value} (h : w.ownsRow base e size v n xs) (hk : Keep w w') : w'.ownsRow base e size v n xs :=
  h.kept ⟨hk.os, hk.tape, hk.output, hk.size, fun k hl _ => hk.block k hl⟩ (row := none) (by cases hv : v.ownBlock <;> simp)

theorem grown_cell {w w' : World} {row : Option Nat} (hg : w.grownBy w' row) {b o : Nat} {v : Value} (h : w.cell? ⟨b, o, none⟩ = some v) (hne : row ≠ some b) : w'.cell? ⟨b, o, none⟩ = some v :=
  (hg.cell_far _ (cell_lt h) (Ne.symm hne)).trans h
/-- The row that a value owns is none of the blocks that came behind. -/
theorem own_ne {w : World} {base : Nat} {e : TypeId} {size : Nat} {v : Value} {n : Nat} {xs : List Value} (h : w.ownsRow base e size v n xs) {b : Nat} (hb : w.heap.size ≤ b) : v.ownBlock ≠ some b :=
  fun e => by have := (h.lt b e).2; omega

theorem own_eq {w : World} {base : Nat} {e : TypeId} {size : Nat} {v : Value} {n n' : Nat} {xs xs' : List Value} (h : w.ownsRow base e size v n xs) (hn : n = n') (hx : xs = xs') : w.ownsRow base e size v n' xs' := hn ▸ hx ▸ h

theorem own_form {w : World} {base : Nat} {e : TypeId} {size : Nat} {v : Value} {n : Nat} {xs : List Value} (h : w.ownsRow base e size v n xs) :
    ∃ A c, v = .slice A n c ∧ n ≤ c ∧ c ≤ maxLen ∧ Rd w A xs := by
  rcases h.2 with ⟨rfl, rfl⟩ | ⟨g, cap, cur, rfl, hb, hg, h1, h2, h3, h4⟩
  · exact ⟨none, 0, rfl, Nat.le_refl _, Nat.zero_le _, .inl (List.eq_nil_of_length_eq_zero (by simpa using h.1))⟩
  · refine ⟨_, cap, rfl, h1, h2, .inr ⟨g, 0, rfl, fun j hj => ?_⟩⟩
    have := h.cells (g := g) rfl j _ (List.getElem?_eq_getElem hj)
    rwa [add_lit0] at this

theorem Rd.drewN (h : Rd w A xs) (n : Nat) : Rd (w.drewN n) A xs := h
theorem Rd.drew (h : Rd w A xs) : Rd w.drew A xs := h
theorem Rd.alloc (h : Rd w A xs) (o : Obj) : Rd (w.alloc o) A xs := h.keep ((Below.refl _ _).alloc (Nat.le_refl _) o)
end

theorem ret_int {k : IntKind} {a b : Int} (h : a = b) : Ending.returned (.int k a) = .returned (.int k b) := by rw [h]
theorem ret_bool {a b : Bool} (h : a = b) : Ending.returned (.bool a) = .returned (.bool b) := by rw [h]
theorem byte_i64 (x : UInt8) : IntKind.i64.wrap x.toNat = x.toNat := IntWalk.i64_in _ (by have := x.toNat_lt; omega)
theorem byte_w64 (x : UInt8) : wrap64 x.toNat = x.toNat := IntWalk.wrap64_in _ (by have := x.toNat_lt; omega)
attribute [go_sem] byte_i64 byte_w64
abbrev u8v (x : UInt8) : Value := .int .u8 x.toNat
abbrev u32v (x : UInt32) : Value := .int .u32 x.toNat
abbrev iv (n : Int) : Value := .int .i64 n
abbrev u64v (n : Nat) : Value := .int .u64 n

theorem flatMap_len {α β : Type} (f : α → List β) (size : Nat) (hf : ∀ a, (f a).length = size) (l : List α) : (l.flatMap f).length = l.length * size := by
  induction l with
  | nil => simp
  | cons a l ih => simp [hf, ih, Nat.add_mul]; omega

theorem flatMap_get {α β : Type} (f : α → List β) (size : Nat) (hf : ∀ a, (f a).length = size) (l : List α) (i j : Nat) (hi : i < l.length) (hj : j < size) :
    (l.flatMap f)[i * size + j]? = (f l[i])[j]? := by
  induction l generalizing i with
  | nil => simp at hi
  | cons a l ih =>
    cases i with
    | zero => simp [List.getElem?_append_left (show j < (f a).length by rw [hf]; exact hj)]
    | succ i =>
      have h := ih i (by simpa using hi)
      simp only [List.flatMap_cons, List.getElem_cons_succ]
      rw [List.getElem?_append_right (by rw [hf, Nat.succ_mul]; omega), hf, show (i + 1) * size + j - size = i * size + j from by rw [Nat.succ_mul]; omega]
      exact h

theorem flatMap_len' {α β : Type} (f : α → List β) (size : Nat) (l : List α) (hf : ∀ a ∈ l, (f a).length = size) : (l.flatMap f).length = l.length * size := by
  induction l with
  | nil => simp
  | cons a l ih =>
    have := ih fun b hb => hf b (by simp [hb])
    simp [hf a (by simp), Nat.add_mul]; simp at this; omega
theorem flatMap_get' {α β : Type} (f : α → List β) (size : Nat) (l : List α) (hf : ∀ a ∈ l, (f a).length = size) (i j : Nat) (hi : i < l.length) (hj : j < size) :
    (l.flatMap f)[i * size + j]? = (f l[i])[j]? := by
  induction l generalizing i with
  | nil => simp at hi
  | cons a l ih =>
    have ha := hf a (by simp)
    cases i with
    | zero => simp [List.getElem?_append_left (show j < (f a).length by rw [ha]; exact hj)]
    | succ i =>
      have h := ih (fun b hb => hf b (by simp [hb])) i (by simpa using hi)
      simp only [List.flatMap_cons, List.getElem_cons_succ]
      rw [List.getElem?_append_right (by rw [ha, Nat.succ_mul]; omega), ha, show (i + 1) * size + j - size = i * size + j from by rw [Nat.succ_mul]; omega]
      exact h
theorem add_add' (a : Addr) (i j : Nat) : (a.add i).add j = a.add (i + j) := by
  unfold Addr.add
  by_cases hi : i = 0 <;> by_cases hj : j = 0 <;> simp [hi, hj, Nat.add_assoc]

/-- Cell j of element i of a slice of structs. -/
theorem Rd.field {α : Type} {w : World} {b off size : Nat} {f : α → List Value} (hf : ∀ a, (f a).length = size) {l : List α}
    (h : ∀ j (h : j < (l.flatMap f).length), w.cell? ⟨b, off + j, none⟩ = some (l.flatMap f)[j]) (i j : Nat) (hi : i < l.length) (hj : j < size) :
    w.cell? ⟨b, off + i * size + j, none⟩ = (f l[i])[j]? := by
  have hl := flatMap_len f size hf l
  have hlt : i * size + j < (l.flatMap f).length := by
    rw [hl]
    calc i * size + j < i * size + size := by omega
      _ = (i + 1) * size := by rw [Nat.succ_mul]
      _ ≤ l.length * size := Nat.mul_le_mul_right _ hi
  have := h (i * size + j) hlt
  rw [Nat.add_assoc, this, ← flatMap_get f size hf l i j hi hj, List.getElem?_eq_getElem hlt]

/-- What the program says of a slice type t with elements e: their zero value, their cells and their bytes. -/
structure ElT (P : Program) (t e : TypeId) (z : Value) (size bytes : Nat) : Prop where
  und : P.underlying t = some (.slice e)
  info : ∃ i, P.info? e = some i ∧ i.zero = some z ∧ i.size = size ∧ i.bytes = bytes
  zs : z.cells.size = size
  pos : 0 < size

theorem ElT.mk' {P : Program} {t e : TypeId} {z : Value} {size bytes : Nat} (h1 : P.underlying t = some (.slice e)) (h2 : (P.info? e).map (fun i => (i.zero, i.size, i.bytes)) = some (some z, size, bytes))
    (h3 : z.cells.size = size) (h4 : 0 < size) : ElT P t e z size bytes := by
  obtain ⟨i, hi, a, b, c⟩ := info_parts h2
  exact ⟨h1, ⟨i, hi, a, b, c⟩, h3, h4⟩

section
variable {P : Program} {t e : TypeId} {z : Value} {size bytes : Nat}

theorem Rd.run_append (T : ElT P t e z size bytes) (w : World) (base : Nat) (ty : TypeId) (v : Value) (n : Nat) (xs : List Value) (hown : w.ownsRow base e size v n xs)
    (A : Option Addr) (m c : Nat) (news : List Value) (hl : news.length = m * size) (hr : Rd w A news) (h1 : ∀ u ∈ news, u.oneCell' = true)
    (hb : (n + m) * bytes ≤ 140737488355328) (h63 : n + m ≤ maxLen) (hbase : base ≤ w.heap.size) :
    ∃ v' w', (Builtin.append_ #[t, t] ty #[v, .slice A m c]).run P w = .ok v' w' ∧ w'.ownsRow base e size v' (n + m) (xs ++ news) ∧ w.grownBy w' v.ownBlock ∧
      (v'.ownBlock = v.ownBlock ∨ v'.ownBlock = some w.heap.size) := by
  obtain ⟨i, hi, hz, hsz, hby⟩ := T.info
  by_cases hm : m = 0
  · subst hm
    obtain rfl : news = [] := List.eq_nil_of_length_eq_zero (by simpa using hl)
    refine ⟨v, w, ?_, by simpa using hown, World.grownBy.refl w _, .inl rfl⟩
    rcases hown.2 with ⟨rfl, rfl⟩ | ⟨g, cap, cur, rfl, _, _, hnc, _⟩ <;> cases A <;>
      simp [Builtin.append_, run_underlying T.und, sizeOf, typeInfo, Builtin.lenOf, Builtin.firstCells, loadCells, loadCellsFrom, storeCells, *]
  · have hpos : 0 < m * size := Nat.mul_pos (by omega) T.pos
    rcases hr with rfl | ⟨b, off, rfl, hc⟩
    · simp at hl; omega
    · obtain ⟨v', w', hrun, h2, h3, _, h5⟩ := run_append_own_at (P := P) w base t ty e i z size bytes T.und hi hz hsz hby T.zs T.pos v n xs hown ⟨b, off, none⟩ m c news hl
        (fun j u hu => by
          obtain ⟨hj, rfl⟩ := List.getElem?_eq_some_iff.1 hu
          rw [add_lit0]; exact hc j hj) h1 h63 hb hbase
      exact ⟨v', w', hrun, h2, h3, h5⟩

theorem wp_app (T : ElT P t e z size bytes) {w : World} {o : Oper} {a : Act} {K : Act → World → Prop} {Q : Exit → Act → World → Prop} (s x : Operand)
    (ho : o.op = .call { callee := .builtin .append, args := #[s, x], argTypes := #[t, t] }) (base : Nat)
    (v : Value) (n : Nat) (xs : List Value) (hs : a.eval s = v) (hown : w.ownsRow base e size v n xs)
    (A : Option Addr) (m c : Nat) (news : List Value) (hx : a.eval x = .slice A m c) (hl : news.length = m * size) (hr : Rd w A news) (h1 : ∀ u ∈ news, u.oneCell' = true)
    (hb : (n + m) * bytes ≤ 140737488355328) (h63 : n + m ≤ maxLen) (hbase : base ≤ w.heap.size)
    (h : ∀ v' w', w'.ownsRow base e size v' (n + m) (xs ++ news) → w.grownBy w' v.ownBlock → (v'.ownBlock = v.ownBlock ∨ v'.ownBlock = some w.heap.size) → K (a.put o.dst v') w') : o.wp P a w K Q := by
  obtain ⟨v', w', hrun, h2, h3, h4⟩ := Rd.run_append T w base o.type v n xs hown A m c news hl hr h1 hb h63 hbase
  unfold Oper.wp execOp
  simp only [ho, resolve, invoke, builtin, Sem.run_bind, Sem.run_pure, Result.andThen_ok, List.map_toArray, List.map_cons, List.map_nil, hs, hx, hrun]
  exact h v' w' h2 h3 h4

theorem wpList_app (T : ElT P t e z size bytes) {w : World} {ops : Array Oper} {rest : List Oper} {o : Oper} {a : Act} {Q : Exit → Act → World → Prop} (hgd : o.guard = none) (s x : Operand)
    (ho : o.op = .call { callee := .builtin .append, args := #[s, x], argTypes := #[t, t] }) (base : Nat)
    (v : Value) (n : Nat) (xs : List Value) (hs : a.eval s = v) (hown : w.ownsRow base e size v n xs)
    (A : Option Addr) (m c : Nat) (news : List Value) (hx : a.eval x = .slice A m c) (hl : news.length = m * size) (hr : Rd w A news) (h1 : ∀ u ∈ news, u.oneCell' = true)
    (hb : (n + m) * bytes ≤ 140737488355328) (h63 : n + m ≤ maxLen) (hbase : base ≤ w.heap.size)
    (h : ∀ v' w', w'.ownsRow base e size v' (n + m) (xs ++ news) → w.grownBy w' v.ownBlock → (v'.ownBlock = v.ownBlock ∨ v'.ownBlock = some w.heap.size) → wpList P ops Q rest (a.put o.dst v') w') : wpList P ops Q (o :: rest) a w :=
  wpList_plain hgd fun _ hK => wp_app T s x ho base v n xs hs hown A m c news hx hl hr h1 hb h63 hbase fun v' w' h2 h3 h4 => hK _ _ (h v' w' h2 h3 h4)

theorem step_app (T : ElT P t e z size bytes) {w : World} {ops : Array Oper} {o : Oper} {a : Act} {K : Act → World → Prop} {Q : Exit → Act → World → Prop} {E : Prop} (hgd : o.guard = none) (s x : Operand)
    (ho : o.op = .call { callee := .builtin .append, args := #[s, x], argTypes := #[t, t] }) (base : Nat)
    (v : Value) (n : Nat) (xs : List Value) (hs : a.eval s = v) (hown : w.ownsRow base e size v n xs)
    (A : Option Addr) (m c : Nat) (news : List Value) (hx : a.eval x = .slice A m c) (hl : news.length = m * size) (hr : Rd w A news) (h1 : ∀ u ∈ news, u.oneCell' = true)
    (hb : (n + m) * bytes ≤ 140737488355328) (h63 : n + m ≤ maxLen) (hbase : base ≤ w.heap.size)
    (h : ∀ v' w', w'.ownsRow base e size v' (n + m) (xs ++ news) → w.grownBy w' v.ownBlock → (v'.ownBlock = v.ownBlock ∨ v'.ownBlock = some w.heap.size) → K (a.put o.dst v') w') :
    if Region.wanted o (yielded ops a.tmps) = true then Oper.wp P o a w K Q else E := by
  have hw : Region.wanted o (yielded ops a.tmps) = true := by simp [Region.wanted, hgd]
  rw [if_pos hw]
  exact wp_app T s x ho base v n xs hs hown A m c news hx hl hr h1 hb h63 hbase h
end

/-- The block that was just made, read. -/
theorem Rd.new (w : World) (cs : List Value) (t : TypeId) : Rd (w.alloc (.cells cs.toArray t)) (some ⟨w.heap.size, 0, none⟩) cs := by
  refine .inr ⟨_, _, rfl, fun j hj => ?_⟩
  rw [cell_of_row _ _ _ _ _ (0, 0) (heap_alloc_new w _)]
  simp

theorem getD_app {α : Type} {l : List α} {k : Nat} (h : l.length ≤ k) : l.drop k = [] := List.drop_eq_nil_of_le h

section
variable {P : Program} {t e : TypeId} {z : Value} {bytes : Nat}
theorem wp_cpy (T : ElT P t e z 1 bytes) {w : World} {o : Oper} {a : Act} {K : Act → World → Prop} {Q : Exit → Act → World → Prop} (d x : Operand)
    (ho : o.op = .call { callee := .builtin .copy, args := #[d, x], argTypes := #[t, t] }) (g off dLen dCap : Nat) (hd : a.eval d = .slice (some ⟨g, off, none⟩) dLen dCap)
    (A : Option Addr) (n c : Nat) (xs : List Value) (hx : a.eval x = .slice A n c) (hn : xs.length = n) (hr : Rd w A xs) (h1 : ∀ u ∈ xs, u.oneCell' = true)
    (cur : List Value) (t' : TypeId) (hg : w.heap[g]? = some (.cells cur.toArray t' (0, 0))) (hfit : off + min n dLen ≤ cur.length)
    (h : ∀ w', Hid (w'.heap[g]? = some (.cells (splice cur off (xs.take dLen)).toArray t' (0, 0))) → w.grownBy w' (some g) → K (a.put o.dst (.int .i64 (min n dLen : Nat))) w') : o.wp P a w K Q := by
  have hsz : (P.info? e).map (·.size) = some 1 := by obtain ⟨i, hi, _, h2, _⟩ := T.info; simp [hi, h2]
  have hl : (xs.take dLen).length = min n dLen := by simp [hn, Nat.min_comm]
  by_cases h0 : min n dLen = 0
  · have hrun := run_copy_none (P := P) w t t o.type e (some ⟨g, off, none⟩) A dLen dCap n c T.und hsz h0
    unfold Oper.wp
    simp [execOp, ho, resolve, invoke, builtin, hd, hx, hrun, Result.andThen]
    have hk := h w (show _ = _ by
      have : xs.take dLen = [] := List.eq_nil_of_length_eq_zero (by omega)
      simpa [this, splice] using hg) (World.grownBy.refl w _)
    rw [h0] at hk
    exact hk
  · rcases hr with rfl | ⟨b, o2, rfl, hc⟩
    · simp at hn; omega
    · have hrun := run_copy_row (P := P) w t t o.type e g off dLen dCap ⟨b, o2, none⟩ n c cur.toArray t' (xs.take dLen) T.und hsz hg hl (fun j v hv => by
        obtain ⟨hj, rfl⟩ := List.getElem?_eq_some_iff.1 hv
        rw [add_lit0, hc j (by simp at hj; omega)]; simp) (by rw [hl]; simpa using hfit) (fun v hv => h1 v (List.mem_of_mem_take hv))
      unfold Oper.wp
      simp only [execOp, ho, resolve, invoke, builtin, Sem.run_bind, Sem.run_pure, Result.andThen_ok, List.map_toArray, List.map_cons, List.map_nil, hd, hx, hrun, Oper.upon]
      rw [hl]
      refine h _ ?_ ⟨rfl, rfl, rfl, by simp [World.setRow], fun k _ hne => setRow_other w g k _ (fun e => hne (by rw [e]))⟩
      have hs : splice cur off (xs.take dLen) = cur.take off ++ xs.take dLen ++ cur.drop (off + min n dLen) := by rw [splice, hl, List.append_assoc]
      rw [hs]
      exact setRow_heap w g cur.toArray _ t' (0, 0) hg

theorem wpList_cpy (T : ElT P t e z 1 bytes) {w : World} {ops : Array Oper} {rest : List Oper} {o : Oper} {a : Act} {Q : Exit → Act → World → Prop} (hgd : o.guard = none) (d x : Operand)
    (ho : o.op = .call { callee := .builtin .copy, args := #[d, x], argTypes := #[t, t] }) (g off dLen dCap : Nat) (hd : a.eval d = .slice (some ⟨g, off, none⟩) dLen dCap)
    (A : Option Addr) (n c : Nat) (xs : List Value) (hx : a.eval x = .slice A n c) (hn : xs.length = n) (hr : Rd w A xs) (h1 : ∀ u ∈ xs, u.oneCell' = true)
    (cur : List Value) (t' : TypeId) (hg : w.heap[g]? = some (.cells cur.toArray t' (0, 0))) (hfit : off + min n dLen ≤ cur.length)
    (h : ∀ w', Hid (w'.heap[g]? = some (.cells (splice cur off (xs.take dLen)).toArray t' (0, 0))) → w.grownBy w' (some g) → wpList P ops Q rest (a.put o.dst (.int .i64 (min n dLen : Nat))) w') : wpList P ops Q (o :: rest) a w :=
  wpList_plain hgd fun _ hK => wp_cpy T d x ho g off dLen dCap hd A n c xs hx hn hr h1 cur t' hg hfit fun w' h2 h3 => hK _ _ (h w' h2 h3)

theorem step_cpy (T : ElT P t e z 1 bytes) {w : World} {ops : Array Oper} {o : Oper} {a : Act} {K : Act → World → Prop} {Q : Exit → Act → World → Prop} {E : Prop} (hgd : o.guard = none) (d x : Operand)
    (ho : o.op = .call { callee := .builtin .copy, args := #[d, x], argTypes := #[t, t] }) (g off dLen dCap : Nat) (hd : a.eval d = .slice (some ⟨g, off, none⟩) dLen dCap)
    (A : Option Addr) (n c : Nat) (xs : List Value) (hx : a.eval x = .slice A n c) (hn : xs.length = n) (hr : Rd w A xs) (h1 : ∀ u ∈ xs, u.oneCell' = true)
    (cur : List Value) (t' : TypeId) (hg : w.heap[g]? = some (.cells cur.toArray t' (0, 0))) (hfit : off + min n dLen ≤ cur.length)
    (h : ∀ w', Hid (w'.heap[g]? = some (.cells (splice cur off (xs.take dLen)).toArray t' (0, 0))) → w.grownBy w' (some g) → K (a.put o.dst (.int .i64 (min n dLen : Nat))) w') :
    if Region.wanted o (yielded ops a.tmps) = true then Oper.wp P o a w K Q else E := by
  have hw : Region.wanted o (yielded ops a.tmps) = true := by simp [Region.wanted, hgd]
  rw [if_pos hw]
  exact wp_cpy T d x ho g off dLen dCap hd A n c xs hx hn hr h1 cur t' hg hfit h
end

theorem wp_cpyN {P : Program} {t e : TypeId} {z : Value} {size bytes : Nat} (T : ElT P t e z size bytes) {w : World} {o : Oper} {a : Act} {K : Act → World → Prop} {Q : Exit → Act → World → Prop} (d x : Operand)
    (ho : o.op = .call { callee := .builtin .copy, args := #[d, x], argTypes := #[t, t] }) (g off dLen dCap : Nat) (hd : a.eval d = .slice (some ⟨g, off, none⟩) dLen dCap)
    (A : Option Addr) (n c : Nat) (xs : List Value) (hx : a.eval x = .slice A n c) (hn : xs.length = n * size) (hr : Rd w A xs) (h1 : ∀ u ∈ xs, u.oneCell' = true)
    (cur : List Value) (t' : TypeId) (hg : w.heap[g]? = some (.cells cur.toArray t' (0, 0))) (hfit : off + min n dLen * size ≤ cur.length)
    (h : ∀ w', Hid (w'.heap[g]? = some (.cells (splice cur off (xs.take (min n dLen * size))).toArray t' (0, 0))) → w.grownBy w' (some g) → K (a.put o.dst (.int .i64 (min n dLen : Nat))) w') : o.wp P a w K Q := by
  obtain ⟨i, hi, _, hsz, _⟩ := T.info
  have hle : min n dLen * size ≤ n * size := Nat.mul_le_mul_right _ (Nat.min_le_left _ _)
  have hl : (xs.take (min n dLen * size)).length = min n dLen * size := by rw [List.length_take, hn]; omega
  have hmin : Nat.min n dLen = min n dLen := rfl
  unfold Oper.wp
  simp only [execOp, ho, resolve, invoke, builtin, Sem.run_bind, Sem.run_pure, Result.andThen_ok, List.map_toArray, List.map_cons, List.map_nil, hd, hx, Oper.upon]
  rcases hr with rfl | ⟨b, o2, rfl, hc⟩
  · have h0 : n = 0 := by
      have : n * size = 0 := by simpa using hn.symm
      rcases Nat.mul_eq_zero.1 this with h | h
      · exact h
      · have := T.pos; omega
    subst h0
    have hrun : (Builtin.copy_ #[t, t] o.type #[.slice (some ⟨g, off, none⟩) dLen dCap, .slice A 0 c]).run P w = .ok (goInt 0) w := by
      cases A <;> simp [Builtin.copy_, run_underlying T.und, Builtin.lenOf, Builtin.firstCells, sizeOf, typeInfo, hi, loadCells, loadCellsFrom, storeCells]
    rw [hrun]
    have hk := h w (show _ = _ by simpa [splice] using hg) (World.grownBy.refl w _)
    rw [Nat.zero_min] at hk
    exact hk
  · have hf := run_firstCells_some (P := P) w size (min n dLen) ⟨b, o2, none⟩ n c (xs.take (min n dLen * size)) hl (fun j v hv => by
      obtain ⟨hj, rfl⟩ := List.getElem?_eq_some_iff.1 hv
      rw [add_lit0, hc j (by simp at hj; omega)]; simp)
    have hst := run_storeCells_at P g off t' (xs.take (min n dLen * size)) 0 cur.toArray w hg (by rw [hl]; simpa using hfit) (fun v hv => h1 v (List.mem_of_mem_take hv))
    have hrun : (Builtin.copy_ #[t, t] o.type #[.slice (some ⟨g, off, none⟩) dLen dCap, .slice (some ⟨b, o2, none⟩) n c]).run P w =
        .ok (goInt ((min n dLen : Nat) : Int)) (w.setRow g (cur.take off ++ xs.take (min n dLen * size) ++ cur.drop (off + (xs.take (min n dLen * size)).length)).toArray) := by
      simp only [Nat.add_zero, List.toList_toArray] at hst
      simp [Builtin.copy_, run_underlying T.und, Builtin.lenOf, sizeOf, typeInfo, hi, hsz, hmin, hf, hst]
    rw [hrun]
    refine h (w.setRow g (cur.take off ++ xs.take (min n dLen * size) ++ cur.drop (off + (xs.take (min n dLen * size)).length)).toArray) ?_ ⟨rfl, rfl, rfl, by simp [World.setRow], fun k _ hne => setRow_other w g k _ (fun e => hne (by rw [e]))⟩
    have hs : splice cur off (xs.take (min n dLen * size)) = cur.take off ++ xs.take (min n dLen * size) ++ cur.drop (off + (xs.take (min n dLen * size)).length) := by rw [splice, List.append_assoc]
    rw [hs]
    exact setRow_heap w g cur.toArray _ t' (0, 0) hg
theorem wpL_cpyN {P : Program} {t e : TypeId} {z : Value} {size bytes : Nat} (T : ElT P t e z size bytes) {w : World} {ops : Array Oper} {rest : List Oper} {a : Act} {Q : Exit → Act → World → Prop} {d x : Operand} {dst : Option Tmp} {ty : TypeId} {pos : String} {af : Array Edge}
    (g off dLen dCap : Nat) (hd : a.eval d = .slice (some ⟨g, off, none⟩) dLen dCap)
    (A : Option Addr) (n c : Nat) (xs : List Value) (hx : a.eval x = .slice A n c) (hn : xs.length = n * size) (hr : Rd w A xs) (h1 : ∀ u ∈ xs, u.oneCell' = true)
    (cur : List Value) (t' : TypeId) (hg : w.heap[g]? = some (.cells cur.toArray t' (0, 0))) (hfit : off + min n dLen * size ≤ cur.length)
    (h : ∀ w', Hid (w'.heap[g]? = some (.cells (splice cur off (xs.take (min n dLen * size))).toArray t' (0, 0))) → w.grownBy w' (some g) → wpList P ops Q rest (a.put dst (.int .i64 (min n dLen : Nat))) w') :
    wpList P ops Q ({ dst := dst, op := .call { callee := .builtin .copy, args := #[d, x], argTypes := #[t, t] }, type := ty, pos := pos, after := af, guard := none } :: rest) a w :=
  wpList_plain rfl fun _ hK => wp_cpyN T d x rfl g off dLen dCap hd A n c xs hx hn hr h1 cur t' hg hfit fun w' h2 h3 => hK _ _ (h w' h2 h3)
/-- A made row, its head filled. -/
theorem own_fill {w : World} {base : Nat} {e : TypeId} {size g n c : Nat} {cur xs : List Value} (hg : w.heap[g]? = some (.cells (splice cur 0 xs).toArray e (0, 0))) (hb : base ≤ g) (hx : xs.length = n * size) (hc : cur.length = c * size)
    (hn : n ≤ c) (hm : c ≤ maxLen) : w.ownsRow base e size (.slice (some ⟨g, 0, none⟩) n c) n xs := by
  have hle : n * size ≤ c * size := Nat.mul_le_mul_right _ hn
  refine ⟨hx, .inr ⟨g, c, _, rfl, hb, hg, hn, hm, by simp [length_splice cur 0 xs (by omega), hc], ?_⟩⟩
  simp [splice, ← hx]

/-- The same two steps where the operation stands written out: they fail at once at another operation. -/
theorem stp_cpy {P : Program} {t e : TypeId} {z : Value} {bytes : Nat} (T : ElT P t e z 1 bytes) {w : World} {ops : Array Oper} {a : Act} {K : Act → World → Prop} {Q : Exit → Act → World → Prop} {E : Prop} {d x : Operand} {dst : Option Tmp} {ty : TypeId} {pos : String} {af : Array Edge}
    (g off dLen dCap : Nat) (hd : a.eval d = .slice (some ⟨g, off, none⟩) dLen dCap)
    (A : Option Addr) (n c : Nat) (xs : List Value) (hx : a.eval x = .slice A n c) (hn : xs.length = n) (hr : Rd w A xs) (h1 : ∀ u ∈ xs, u.oneCell' = true)
    (cur : List Value) (t' : TypeId) (hg : w.heap[g]? = some (.cells cur.toArray t' (0, 0))) (hfit : off + min n dLen ≤ cur.length)
    (h : ∀ w', Hid (w'.heap[g]? = some (.cells (splice cur off (xs.take dLen)).toArray t' (0, 0))) → w.grownBy w' (some g) → K (a.put dst (.int .i64 (min n dLen : Nat))) w') :
    if Region.wanted { dst := dst, op := .call { callee := .builtin .copy, args := #[d, x], argTypes := #[t, t] }, type := ty, pos := pos, after := af, guard := none } (yielded ops a.tmps) = true then
      Oper.wp P { dst := dst, op := .call { callee := .builtin .copy, args := #[d, x], argTypes := #[t, t] }, type := ty, pos := pos, after := af, guard := none } a w K Q else E :=
  step_cpy T rfl d x rfl g off dLen dCap hd A n c xs hx hn hr h1 cur t' hg hfit h
theorem stp_app {P : Program} {t e : TypeId} {z : Value} {size bytes : Nat} (T : ElT P t e z size bytes) {w : World} {ops : Array Oper} {a : Act} {K : Act → World → Prop} {Q : Exit → Act → World → Prop} {E : Prop} {s x : Operand} {dst : Option Tmp} {ty : TypeId} {pos : String} {af : Array Edge}
    (base : Nat) (v : Value) (n : Nat) (xs : List Value) (hs : a.eval s = v) (hown : w.ownsRow base e size v n xs)
    (A : Option Addr) (m c : Nat) (news : List Value) (hx : a.eval x = .slice A m c) (hl : news.length = m * size) (hr : Rd w A news) (h1 : ∀ u ∈ news, u.oneCell' = true)
    (hb : (n + m) * bytes ≤ 140737488355328) (h63 : n + m ≤ maxLen) (hbase : base ≤ w.heap.size)
    (h : ∀ v' w', w'.ownsRow base e size v' (n + m) (xs ++ news) → w.grownBy w' v.ownBlock → (v'.ownBlock = v.ownBlock ∨ v'.ownBlock = some w.heap.size) → K (a.put dst v') w') :
    if Region.wanted { dst := dst, op := .call { callee := .builtin .append, args := #[s, x], argTypes := #[t, t] }, type := ty, pos := pos, after := af, guard := none } (yielded ops a.tmps) = true then
      Oper.wp P { dst := dst, op := .call { callee := .builtin .append, args := #[s, x], argTypes := #[t, t] }, type := ty, pos := pos, after := af, guard := none } a w K Q else E :=
  step_app T rfl s x rfl base v n xs hs hown A m c news hx hl hr h1 hb h63 hbase h

/-- A part of a slice. -/
theorem Rd.drop {w : World} {A : Option Addr} {xs : List Value} (h : Rd w A xs) {k cap : Nat} (hk : k ≤ xs.length) (hc : xs.length ≤ cap) : Rd w (if cap = k then A else A.map (·.add (k * 1))) (xs.drop k) := by
  by_cases h0 : k = xs.length
  · subst h0; exact .inl (by simp)
  · rcases h with rfl | ⟨b, off, rfl, hcell⟩
    · simp at hk h0; omega
    · rw [if_neg (by omega)]
      refine .inr ⟨b, off + k, by simp [add_lit0], fun j hj => ?_⟩
      simp at hj
      rw [Nat.add_assoc, hcell (k + j) (by omega)]; simp
theorem Rd.dropN {w : World} {A : Option Addr} {xs : List Value} (h : Rd w A xs) {k : Nat} (hk : k ≤ xs.length) : Rd w (A.map (·.add k)) (xs.drop k) := by
  have h2 := h.drop (k := k) (cap := xs.length + k + 1) hk (by omega)
  rw [if_neg (by omega), Nat.mul_one] at h2
  exact h2
theorem drop_min {α : Type} (l : List α) (k : Nat) : l.drop (min l.length k) = l.drop k := by
  rcases Nat.le_total l.length k with h | h
  · rw [Nat.min_eq_left h, List.drop_length, List.drop_eq_nil_of_le h]
  · rw [Nat.min_eq_right h]
theorem Rd.take {w : World} {A : Option Addr} {xs : List Value} (h : Rd w A xs) (k : Nat) : Rd w A (xs.take k) := by
  rcases h with rfl | ⟨b, off, rfl, hcell⟩
  · exact .inl (by simp)
  · exact .inr ⟨b, off, rfl, fun j hj => by simp at hj; rw [hcell j (by omega)]; simp⟩
theorem own_rd {w : World} {base : Nat} {e : TypeId} {size : Nat} {A : Option Addr} {n m c : Nat} {xs : List Value} (h : w.ownsRow base e size (.slice A m c) n xs) : Rd w A xs := by
  obtain ⟨A', c', h1, _, _, h2⟩ := own_form h
  injection h1 with h1
  rw [h1]; exact h2

/-- What lies at A lies in a block from 'base' on. -/
def FreshA (base : Nat) (A : Option Addr) (n : Nat) : Prop := n = 0 ∨ ∃ b off, A = some ⟨b, off, none⟩ ∧ base ≤ b
theorem own_fresh {w : World} {base : Nat} {e : TypeId} {size : Nat} {A : Option Addr} {n m c : Nat} {xs : List Value} (h : w.ownsRow base e size (.slice A m c) n xs) : FreshA base A n := by
  rcases h.2 with ⟨_, h0⟩ | ⟨g, cap, cur, hv, hb, _⟩
  · exact .inl h0
  · injection hv with hA
    exact .inr ⟨g, 0, hA, hb⟩
theorem FreshA.mono {b b' : Nat} {A : Option Addr} {n : Nat} (h : FreshA b A n) (hb : b' ≤ b) : FreshA b' A n := h.imp id fun ⟨x, o, h1, h2⟩ => ⟨x, o, h1, by omega⟩

/-- The cells xs lie at A, outside the block 'row' (which is being appended to). -/
def RdX (row : Option Nat) (w : World) (A : Option Addr) (xs : List Value) : Prop :=
  xs = [] ∨ ∃ b off, A = some ⟨b, off, none⟩ ∧ row ≠ some b ∧ ∀ j (h : j < xs.length), w.cell? ⟨b, off + j, none⟩ = some xs[j]
section
variable {w w' : World} {row row' : Option Nat} {A : Option Addr} {xs : List Value}
theorem RdX.rd (h : RdX row w A xs) : Rd w A xs := h.imp id fun ⟨b, off, h1, _, h3⟩ => ⟨b, off, h1, h3⟩
theorem RdX.keep (h : RdX row w A xs) (hk : Keep w w') : RdX row w' A xs :=
  h.imp id fun ⟨b, off, h1, h2, h3⟩ => ⟨b, off, h1, h2, fun j hj => keep_cell hk (h3 j hj)⟩
theorem RdX.grown (h : RdX row w A xs) (hg : w.grownBy w' row) (hr : row' = row ∨ row' = some w.heap.size) : RdX row' w' A xs := by
  rcases h with rfl | ⟨b, off, rfl, h2, h3⟩
  · exact .inl rfl
  · by_cases h0 : xs = []
    · exact .inl h0
    · have hp : 0 < xs.length := List.length_pos_iff.2 h0
      have hb := cell_lt (h3 0 hp)
      refine .inr ⟨b, off, rfl, ?_, fun j hj => grown_cell hg (h3 j hj) h2⟩
      rcases hr with rfl | rfl
      · exact h2
      · intro e; injection e with e; omega
theorem RdX.of_own {base : Nat} {e : TypeId} {size n m c : Nat} (h : w.ownsRow base e size (.slice A m c) n xs) (hr : ∀ k, row = some k → k < base) : RdX row w A xs := by
  rcases own_rd h with h0 | ⟨b, off, rfl, h3⟩
  · exact .inl h0
  · refine .inr ⟨b, off, rfl, fun e => ?_, h3⟩
    have := (h.lt b rfl).1
    have := hr b e
    omega
theorem RdX.of_fresh {base n : Nat} (h : Rd w A xs) (hf : FreshA base A n) (hn : n = xs.length) (hr : ∀ k, row = some k → k < base) : RdX row w A xs := by
  rcases hf with h0 | ⟨b, off, rfl, hb⟩
  · exact .inl (List.eq_nil_of_length_eq_zero (by omega))
  · rcases h with h | ⟨b', off', h1, h3⟩
    · exact .inl h
    · injection h1 with h1; injection h1 with h1 h2; subst h1 h2
      exact .inr ⟨b, off, rfl, fun e => by have := hr b e; omega, h3⟩
theorem RdX.of_old (h : Rd w A xs) (hr : ∀ k, row = some k → w.heap.size ≤ k) : RdX row w A xs := by
  by_cases h0 : xs = []
  · exact .inl h0
  · rcases h with h | ⟨b, off, rfl, h3⟩
    · exact .inl h
    · exact .inr ⟨b, off, rfl, fun e => by have := cell_lt (h3 0 (List.length_pos_iff.2 h0)); have := hr b e; omega, h3⟩
theorem RdX.setCell (h : RdX row w A xs) {p : Addr} (u : Value) (hp : row = some p.block) : RdX row (w.setCell p u) A xs :=
  h.imp id fun ⟨b, off, h1, h2, h3⟩ => ⟨b, off, h1, h2, fun j hj => (World.cell?_setCell_other w p _ u (fun e => h2 (by rw [hp, e]))).trans (h3 j hj)⟩
theorem RdX.setCell' (h : RdX row w A xs) {p : Addr} (u : Value) (hp : ∀ b off, A = some ⟨b, off, none⟩ → p.block ≠ b) : RdX row (w.setCell p u) A xs :=
  h.imp id fun ⟨b, off, h1, h2, h3⟩ => ⟨b, off, h1, h2, fun j hj => (World.cell?_setCell_other w p _ u (fun e => hp b off h1 (by rw [e]))).trans (h3 j hj)⟩
end

/-- Block g is just these cells. -/
def Blk (w : World) (g : Nat) (t : TypeId) (cs : List Value) : Prop := w.heap[g]? = some (.cells cs.toArray t (0, 0))
section
variable {w w' : World} {g : Nat} {t : TypeId} {cs : List Value}
theorem Blk.lt (h : Blk w g t cs) : g < w.heap.size := (Array.getElem?_eq_some_iff.1 h).1
theorem Blk.cell (h : Blk w g t cs) (i : Nat) : w.cell? ⟨g, i, none⟩ = cs[i]? := by rw [cell_of_row w g i _ t (0, 0) h]; simp
theorem Blk.frozen (h : Blk w g t cs) (i : Nat) : w.frozen? ⟨g, i, none⟩ = false := by unfold Blk at h; simp [World.frozen?, h]
theorem Blk.new (w : World) (t : TypeId) (cs : List Value) : Blk (w.alloc (.cells cs.toArray t)) w.heap.size t cs := heap_alloc_new w _
theorem Blk.drew (h : Blk w g t cs) : Blk w.drew g t cs := h
theorem Blk.keep (h : Blk w g t cs) (hk : Keep w w') : Blk w' g t cs := (hk.block g h.lt).trans h
theorem Blk.alloc (h : Blk w g t cs) (o : Obj) : Blk (w.alloc o) g t cs := (Below.heap_alloc w o g h.lt).trans h
theorem Blk.grown {row : Option Nat} (h : Blk w g t cs) (hg : w.grownBy w' row) (hne : row ≠ some g) : Blk w' g t cs := (hg.block g h.lt (Ne.symm hne)).trans h
theorem Blk.far (h : Blk w g t cs) {p : Addr} (hp : g ≠ p.block) (u : Value) : Blk (w.setCell p u) g t cs := (Below.heap_setCell w p u g hp).trans h
theorem Blk.set_ (h : Blk w g t cs) (i : Nat) (u : Value) : Blk (w.setCell ⟨g, i, none⟩ u) g t (cs.set i u) := by
  unfold Blk at h ⊢
  simp [World.setCell, Array.getElem?_modify, h]
theorem Blk.rd (h : Blk w g t cs) : Rd w (some ⟨g, 0, none⟩) cs := .inr ⟨g, 0, rfl, fun j hj => by rw [h.cell]; simp [hj]⟩
end

theorem i64_or (a b : UInt8) : bits .or .i64 (a.toNat : Int) ((b.toNat : Int) * 256) = ((a.toNat + 256 * b.toNat : Nat) : Int) := by
  have ha := a.toNat_lt
  have hb := b.toNat_lt
  have e : ((b.toNat : Int) * 256) = ((b.toNat * 256 : Nat) : Int) := by omega
  rw [e]
  have of : ∀ x : Nat, x < 9223372036854775808 → (BitVec.ofInt 64 (x : Int)).toNat = x := fun x hx => by
    rw [BitVec.ofInt_natCast, BitVec.toNat_ofNat]; exact Nat.mod_eq_of_lt (by omega)
  show IntKind.i64.wrap ((BitVec.ofInt 64 (a.toNat : Int) ||| BitVec.ofInt 64 ((b.toNat * 256 : Nat) : Int)).toNat : Int) = _
  rw [BitVec.toNat_or, of _ (by omega), of _ (by omega)]
  have h := Nat.two_pow_add_eq_or_of_lt (i := 8) (b := a.toNat) (by omega) b.toNat
  have e2 : a.toNat ||| b.toNat * 256 = a.toNat + 256 * b.toNat := by rw [Nat.or_comm, Nat.mul_comm]; simp only [Nat.reducePow] at h; omega
  rw [e2, IntKind.wrap_i64]
  omega

theorem ElT.make {P : Program} {t e : TypeId} {z : Value} {size bytes : Nat} (T : ElT P t e z size bytes) (n c : Nat) (hnc : n ≤ c) (hb : bytes * c ≤ 281474976710656) (h63 : c ≤ 9223372036854775807) (w : World) :
    (Instr.makeSlice t (.int .i64 (n : Int)) (.int .i64 (c : Int))).run P w = .ok (.slice (some ⟨w.heap.size, 0, none⟩) n c) (w.alloc (.cells (madeCells z.cells (c * size)) e)) := by
  obtain ⟨i, hi, hz, h1, h2⟩ := T.info
  have hb' : (i.bytes : Int) * (c : Int) ≤ 281474976710656 := by
    have h : ((i.bytes * c : Nat) : Int) ≤ 281474976710656 := by rw [h2]; omega
    rwa [Int.natCast_mul] at h
  have hr := run_make (P := P) w t e i z T.und hi hz .i64 .i64 n c (by omega) (by omega) hb' (by omega)
  simp only [Int.toNat_natCast] at hr
  rw [hr, h1]

theorem run_eql_slice_nil {P : Program} (w : World) {t e : TypeId} (a : Option Addr) (n c : Nat) (ht : P.underlying t = some (.slice e)) :
    (binOp .eql t (.slice a n c) (.slice none 0 0)).run P w = .ok (.bool a.isNone) w := by
  have h : ∀ d : Nat, (Op.equalIn (d + 1) t (.slice a n c) (.slice none 0 0)).run P w = .ok a.isNone w := fun d => by
    cases a <;> simp [Op.equalIn, run_underlying ht]
  simp only [binOp]
  simp [Op.equal, Op.maxDepth, h 9999]

theorem own_cur {w : World} {base : Nat} {e : TypeId} {g n c : Nat} {xs : List Value} (h : w.ownsRow base e 1 (.slice (some ⟨g, 0, none⟩) n c) n xs) :
    ∃ cur : List Value, w.heap[g]? = some (.cells cur.toArray e (0, 0)) ∧ n ≤ cur.length ∧ base ≤ g := by
  rcases h.2 with ⟨h0, _⟩ | ⟨g', cap, cur', hv, hb, hg, hnc, hcm, hcs, htake⟩
  · cases h0
  · injection hv with h1 _ h3
    injection h1 with h1; injection h1 with h1
    subst h1 h3
    exact ⟨cur'.toList, by simpa using hg, by simp; omega, hb⟩

/-- Behind a copy into a row of the call's own. -/
theorem own_splice {w w' : World} {base : Nat} {e : TypeId} {g n c : Nat} {xs : List Value} (h : w.ownsRow base e 1 (.slice (some ⟨g, 0, none⟩) n c) n xs) {off : Nat} {ys : List Value} (hfit : off + ys.length ≤ n)
    {cur : List Value} (hcur : w.heap[g]? = some (.cells cur.toArray e (0, 0))) (hw : w'.heap[g]? = some (.cells (splice cur off ys).toArray e (0, 0))) : w'.ownsRow base e 1 (.slice (some ⟨g, 0, none⟩) n c) n (splice xs off ys) := by
  rcases h.2 with ⟨h0, _⟩ | ⟨g', cap, cur', hv, hb, hg, hnc, hcm, hcs, htake⟩
  · cases h0
  · injection hv with h1 _ h3
    injection h1 with h1; injection h1 with h1
    subst h1 h3
    rw [hg] at hcur
    injection hcur with hcur; injection hcur with hcur
    subst hcur
    have hxl : xs.length = n := by simpa using h.1
    have hcl : cur.length = c := by simpa using hcs
    simp only [List.toList_toArray, Nat.mul_one] at htake
    refine ⟨by rw [length_splice _ _ _ (by omega), hxl]; simp, .inr ⟨g, c, _, rfl, hb, hw, hnc, hcm, by simp [length_splice _ _ _ (show off + ys.length ≤ cur.length by omega), hcl], ?_⟩⟩
    simp only [List.toList_toArray, Nat.mul_one]
    rw [← htake]
    unfold splice
    rw [List.take_append, List.take_append, List.take_take, List.drop_take, List.take_take]
    simp only [List.length_take, hcl]
    rw [Nat.min_eq_left (show off ≤ c by omega), Nat.min_eq_right (show off ≤ n by omega), Nat.min_eq_left (show off ≤ n by omega), List.take_of_length_le (show ys.length ≤ n - off by omega)]
    congr 3
    omega

theorem own_base {w : World} {b b' : Nat} {e : TypeId} {size : Nat} {v : Value} {n : Nat} {xs : List Value} (h : w.ownsRow b e size v n xs) (hb : b' ≤ b) : w.ownsRow b' e size v n xs :=
  ⟨h.1, h.2.imp id fun ⟨g, cap, cur, h1, h2, rest⟩ => ⟨g, cap, cur, h1, Nat.le_trans hb h2, rest⟩⟩
theorem own_zero (w : World) (e : TypeId) (size : Nat) : (w.alloc (.cells #[] e)).ownsRow w.heap.size e size (.slice (some ⟨w.heap.size, 0, none⟩) 0 0) 0 [] :=
  World.ownsRow_made w #[] 0 (Nat.le_refl _) (Nat.zero_le _) (by simp)

theorem Rd.sub {w : World} {b off : Nat} {xs : List Value} (h : Rd w (some ⟨b, off, none⟩) xs) (k m : Nat) (hk : k + m ≤ xs.length) : Rd w (some ⟨b, off + k, none⟩) ((xs.drop k).take m) := by
  have h1 := (h.dropN (k := k) (by omega)).take m
  rwa [Option.map_some, add_lit0] at h1
theorem Rd.far {w : World} {g off : Nat} {xs : List Value} (h : Rd w (some ⟨g, off, none⟩) xs) {p : Addr} (hp : p.block ≠ g) (u : Value) : Rd (w.setCell p u) (some ⟨g, off, none⟩) xs := by
  rcases h with h | ⟨b, o, e, hc⟩
  · exact .inl h
  · injection e with e; injection e with e1 e2; subst e1 e2
    exact .inr ⟨g, off, rfl, fun j hj => (World.cell?_setCell_other w p _ u (fun e => hp (by rw [e]))).trans (hc j hj)⟩
/-- W: F holds of it, and what came between w and w' is there as it was. -/
def MidF (F : World → Prop) (w w' W : World) : Prop := F W ∧ ∀ k, w.heap.size ≤ k → k < w'.heap.size → W.heap[k]? = w'.heap[k]?
/-- W: what was there in w0, and what came between w and w', is there as it was. -/
def Mid (w0 w w' W : World) : Prop := MidF (fun W => Keep w0 W) w w' W
theorem Mid.of_keep {w0 w w' W : World} (h0 : Keep w0 w') (h : Keep w' W) : Mid w0 w w' W := ⟨keep_trans h0 h, fun k _ h2 => h.block k h2⟩
theorem Rd.mid {F : World → Prop} {w w' W : World} {b off : Nat} {xs : List Value} (h : Rd w' (some ⟨b, off, none⟩) xs) (hb : w.heap.size ≤ b) (hm : MidF F w w' W) : Rd W (some ⟨b, off, none⟩) xs := by
  by_cases h0 : xs = []
  · exact .inl h0
  · rcases h with h | ⟨b', o', e, hc⟩
    · exact .inl h
    · injection e with e; injection e with e1 e2; subst e1 e2
      exact .inr ⟨b, off, rfl, fun j hj => (World.cell?_of_block (w := w') (hm.2 b hb (cell_lt (hc 0 (List.length_pos_iff.2 h0))))).trans (hc j hj)⟩
theorem own_mid {F : World → Prop} {w w' W : World} {base : Nat} {e : TypeId} {size : Nat} {A : Option Addr} {n m c : Nat} {xs : List Value} (h : w'.ownsRow base e size (.slice A m c) n xs) (hb : w.heap.size ≤ base) (hm : MidF F w w' W) : Rd W A xs := by
  rcases own_rd h with h0 | ⟨b, off, rfl, hc⟩
  · exact .inl h0
  · exact Rd.mid (.inr ⟨b, off, rfl, hc⟩) (by have := (h.lt b rfl).1; omega) hm

/-- The text of a slice of bytes. -/
def str (l : List UInt8) : ByteArray := ⟨l.toArray⟩
theorem str_inj {a b : List UInt8} (h : str a = str b) : a = b := by
  have := congrArg (fun s : ByteArray => s.data.toList) h
  simpa [str] using this

theorem str_beq (a b : List UInt8) : (str a == str b) = decide (a = b) := by
  have h : (str a == str b) = ((str a).data == (str b).data) := rfl
  rw [h]
  show (a.toArray == b.toArray) = _
  by_cases hab : a = b
  · subst hab; simp
  · simp [hab]
theorem str_bne (a b : List UInt8) : (str a != str b) = !decide (a = b) := by
  show (!(str a == str b)) = _; rw [str_beq]
theorem str_ne_t {a b : List UInt8} (h : a ≠ b) : (str a != str b) = true := by rw [str_bne]; simp [h]
theorem str_ne_f {a b : List UInt8} (h : a = b) : (str a != str b) = false := by rw [str_bne]; simp [h]
theorem str_eq_t {a b : List UInt8} (h : a = b) : (str a == str b) = true := by rw [str_beq]; simp [h]
theorem str_eq_f {a b : List UInt8} (h : a ≠ b) : (str a == str b) = false := by rw [str_beq]; simp [h]

theorem below_drewN {B : Nat} {a w : World} (h : Below B a w) (n : Nat) : Below B a (w.drewN n) := ⟨h.os, h.tape, h.output, h.size, h.block⟩
theorem str_toList (l : List UInt8) : (str l).toList = l := by
  rw [ByteArray.toList_eq]; rfl
attribute [go_sem] str_toList

theorem run_bytes_str {P : Program} {w : World} {src dst e : TypeId} (hs : P.underlying src = some (.slice e)) (he : P.underlying e = some (.int .u8)) (hd : P.underlying dst = some .string)
    {A : Option Addr} {l : List UInt8} (c : Nat) (hr : Rd w A (l.map u8v)) : (convert src dst (.slice A l.length c)).run P w = .ok (.string (str l)) w := by
  rcases hr with h | ⟨b, off, rfl, hc⟩
  · obtain rfl : l = [] := by simpa using h
    rw [run_convert_bytes_string w src dst e _ _ c hs he hd]
    cases A <;> simp [Conv.bytesToString, loadCells, loadCellsFrom] <;> rfl
  · rw [run_convert_bytes_arg w src e hs he b off l.length c (l.map fun x => (x.toNat : Int)) (by simp) (fun i hi => by
      rw [hc i (by simpa using hi)]; simp [hi]) dst hd]
    congr 2
    simp only [strOfNums, str, List.map_map]
    congr 2
    exact List.map_id'' (fun x => by simp) l
end Go.Proofs.Ytmhbfjcehmjllaa
