import Derived.Test.YteoilddiilegmaaDoorClkA
set_option linter.unusedSimpArgs false
set_option linter.unusedVariables false
namespace Go.Proofs.YteoilddiilegmaaDoor
open Go.RowKit
attribute [local go_sem ↓] Go.wp_at_zero Go.wp_at_succ

theorem splice_getE {α : Type} {b d : List α} {o k : Nat} (hk : k < b.length) (ho : o + d.length ≤ b.length) : (splice b o d)[k]? = if o ≤ k ∧ k < o + d.length then d[k - o]? else b[k]? := by
  unfold splice
  by_cases h1 : k < o
  · rw [if_neg (by omega), List.getElem?_append_left (by simp; omega), List.getElem?_take, if_pos h1]
  · by_cases h2 : k < o + d.length
    · rw [if_pos ⟨by omega, h2⟩, List.getElem?_append_right (by simp; omega), List.getElem?_append_left (by simp; omega)]
      congr 1; simp; omega
    · rw [if_neg (by omega), List.getElem?_append_right (by simp; omega), List.getElem?_append_right (by simp; omega), List.getElem?_drop]
      congr 1; simp; omega
theorem ins_get {α : Type} (L : List α) (i k : Nat) (t : α) (hi : i ≤ L.length) : (L.take i ++ t :: L.drop i)[k]? = if k < i then L[k]? else if k = i then some t else L[k - 1]? := by
  by_cases h1 : k < i
  · rw [if_pos h1, List.getElem?_append_left (by simp; omega), List.getElem?_take, if_pos h1]
  · rw [if_neg h1, List.getElem?_append_right (by simp; omega), List.length_take, Nat.min_eq_left hi]
    by_cases h2 : k = i
    · rw [if_pos h2, show k - i = 0 by omega]; rfl
    · rw [if_neg h2, show k - i = (k - i - 1) + 1 by omega, List.getElem?_cons_succ, List.getElem?_drop]
      congr 1; omega
/-- In place: what stands from i on is shifted up, t is laid at i. -/
theorem ins_place {α : Type} (cur L : List α) (i : Nat) (t : α) (hL : cur.take L.length = L) (hi : i < L.length) (hc : L.length + 1 ≤ cur.length) :
    (splice (splice cur (i + 1) (L.drop i)) i [t]).take (L.length + 1) = L.take i ++ t :: L.drop i := by
  have hl : (splice cur (i + 1) (L.drop i)).length = cur.length := by rw [length_splice]; simp; omega
  have hg : ∀ k, k < L.length → cur[k]? = L[k]? := fun k hk => by rw [← hL, List.getElem?_take, if_pos hk]
  apply List.ext_getElem?
  intro k
  rw [ins_get _ _ _ _ (by omega), List.getElem?_take]
  by_cases hk : k < L.length + 1
  · rw [if_pos hk, splice_getE (by omega) (by rw [hl]; simp; omega), splice_getE (by omega) (by simp; omega)]
    by_cases h1 : k < i
    · rw [if_neg (by simp; omega), if_neg (by simp; omega), if_pos h1, hg k (by omega)]
    · by_cases h2 : k = i
      · subst h2; rw [if_pos (by simp), if_neg h1, if_pos rfl, Nat.sub_self]; rfl
      · rw [if_neg (by simp; omega), if_pos (by simp; omega), if_neg h1, if_neg h2, List.getElem?_drop]
        congr 1; omega
  · rw [if_neg hk, if_neg (by omega), if_neg (by omega), List.getElem?_eq_none (by omega)]
/-- In a new row. -/
theorem ins_new {α : Type} (cur L : List α) (i : Nat) (t : α) (hL : cur.take i = L.take i) (hi : i < L.length) (hc : L.length + 1 ≤ cur.length) :
    (splice (splice cur i [t]) (i + 1) (L.drop i)).take (L.length + 1) = L.take i ++ t :: L.drop i := by
  have hl : (splice cur i [t]).length = cur.length := by rw [length_splice]; simp; omega
  have hg : ∀ k, k < i → cur[k]? = L[k]? := fun k hk => by
    have := congrArg (fun l => l[k]?) hL
    simp only [List.getElem?_take, if_pos hk] at this
    exact this
  apply List.ext_getElem?
  intro k
  rw [ins_get _ _ _ _ (by omega), List.getElem?_take]
  by_cases hk : k < L.length + 1
  · rw [if_pos hk, splice_getE (by omega) (by rw [hl]; simp; omega), splice_getE (by omega) (by simp; omega)]
    by_cases h1 : k < i
    · rw [if_neg (by simp; omega), if_neg (by simp; omega), if_pos h1, hg k h1]
    · by_cases h2 : k = i
      · subst h2; rw [if_neg (by simp; omega), if_pos (by simp), if_neg h1, if_pos rfl, Nat.sub_self]; rfl
      · rw [if_pos (by simp; omega), if_neg h1, if_neg h2, List.getElem?_drop]
        congr 1; omega
  · rw [if_neg hk, if_neg (by omega), if_neg (by omega), List.getElem?_eq_none (by omega)]

theorem own_full {w : World} {base : Nat} {e : TypeId} {g n c : Nat} {xs : List Value} (h : w.ownsRow base e 1 (.slice (some ⟨g, 0, none⟩) n c) n xs) :
    ∃ cur : List Value, w.heap[g]? = some (.cells cur.toArray e (0, 0)) ∧ cur.length = c ∧ n ≤ c ∧ c ≤ maxLen ∧ cur.take n = xs ∧ base ≤ g := by
  rcases h.2 with ⟨h0, _⟩ | ⟨g', cap, cur', hv, hb, hg, hnc, hcm, hcs, htake⟩
  · cases h0
  · injection hv with h1 _ h3
    injection h1 with h1; injection h1 with h1
    subst h1 h3
    exact ⟨cur'.toList, by simpa using hg, by simpa using hcs, hnc, hcm, by simpa using htake, hb⟩
theorem own_of {w : World} {base : Nat} {e : TypeId} {g n c : Nat} {cur xs : List Value} (hg : w.heap[g]? = some (.cells cur.toArray e (0, 0))) (hb : base ≤ g) (hc : cur.length = c) (hn : n ≤ c) (hm : c ≤ maxLen) (ht : cur.take n = xs) : w.ownsRow base e 1 (.slice (some ⟨g, 0, none⟩) n c) n xs := by
  refine ⟨by rw [← ht]; simp; omega, .inr ⟨g, c, _, rfl, hb, hg, hn, hm, by simpa using hc, by simpa using ht⟩⟩

/-- A copy of just those cells that are copied. -/
theorem wpList_cpy2 {P : Program} {t e : TypeId} {z : Value} {bytes : Nat} (T : ElT P t e z 1 bytes) {w : World} {ops : Array Oper} {rest : List Oper} {o : Oper} {a : Act} {Q : Exit → Act → World → Prop} (hgd : o.guard = none) (d x : Operand)
    (ho : o.op = .call { callee := .builtin .copy, args := #[d, x], argTypes := #[t, t] }) (g off dLen dCap : Nat) (hd : a.eval d = .slice (some ⟨g, off, none⟩) dLen dCap)
    (b o2 n c : Nat) (hx : a.eval x = .slice (some ⟨b, o2, none⟩) n c) (xs : List Value) (hl : xs.length = min n dLen) (hr : Rd w (some ⟨b, o2, none⟩) xs) (h1 : ∀ u ∈ xs, u.oneCell' = true)
    (cur : List Value) (t' : TypeId) (hg : w.heap[g]? = some (.cells cur.toArray t' (0, 0))) (hfit : off + xs.length ≤ cur.length)
    (h : ∀ w', Hid (w'.heap[g]? = some (.cells (splice cur off xs).toArray t' (0, 0))) → w.grownBy w' (some g) → wpList P ops Q rest (a.put o.dst (.int .i64 (xs.length : Nat))) w') : wpList P ops Q (o :: rest) a w := by
  refine wpList_plain hgd fun K hK => ?_
  have hsz : (P.info? e).map (·.size) = some 1 := by obtain ⟨i, hi, _, h2, _⟩ := T.info; simp [hi, h2]
  by_cases h0 : xs.length = 0
  · obtain rfl : xs = [] := List.eq_nil_of_length_eq_zero h0
    have hrun := run_copy_none (P := P) w t t o.type e (some ⟨g, off, none⟩) (some ⟨b, o2, none⟩) dLen dCap n c T.und hsz (by have := hl.symm; simpa using this)
    unfold Oper.wp
    simp [execOp, ho, resolve, invoke, builtin, hd, hx, hrun, Result.andThen]
    have hk := h w (show _ = _ by simpa [splice] using hg) (World.grownBy.refl w _)
    exact hK _ _ hk
  · have hrun := run_copy_row (P := P) w t t o.type e g off dLen dCap ⟨b, o2, none⟩ n c cur.toArray t' xs T.und hsz hg hl (fun j v hv => by
      obtain ⟨hj, rfl⟩ := List.getElem?_eq_some_iff.1 hv
      rcases hr with h | ⟨b', o', e', hc⟩
      · rw [h] at h0; simp at h0
      · injection e' with e'; injection e' with e1 e2; subst e1 e2
        rw [add_lit0]; exact hc j hj) (by simpa using hfit) h1
    unfold Oper.wp
    simp only [execOp, ho, resolve, invoke, builtin, Sem.run_bind, Sem.run_pure, Result.andThen_ok, List.map_toArray, List.map_cons, List.map_nil, hd, hx, hrun, Oper.upon]
    refine hK _ _ (h _ ?_ ⟨rfl, rfl, rfl, by simp [World.setRow], fun k _ hne => setRow_other w g k _ (fun e => hne (by rw [e]))⟩)
    have hs : splice cur off xs = cur.take off ++ xs ++ cur.drop (off + xs.length) := by rw [splice, List.append_assoc]
    rw [hs]
    exact setRow_heap w g cur.toArray _ t' (0, 0) hg

theorem grown_keep {w w' : World} {row : Option Nat} (h : Keep w w') : w.grownBy w' row := ⟨h.os, h.tape, h.output, h.size, fun k hk _ => h.block k hk⟩
theorem grown_trans {a b c : World} {row : Option Nat} (h : a.grownBy b row) (g : b.grownBy c row) : a.grownBy c row :=
  ⟨g.os.trans h.os, g.tape.trans h.tape, g.output.trans h.output, Nat.le_trans h.size g.size, fun k hk hne => (g.block k (Nat.lt_of_lt_of_le hk h.size) hne).trans (h.block k hk hne)⟩

def Ins (base : Nat) (v : Value) (ys : List UInt32) (w : World) (e : Ending) (w' : World) : Prop :=
  ∃ v', e = .returned v' ∧ w'.ownsRow base 22 1 v' ys.length (ys.map u32v) ∧ w.grownBy w' v.ownBlock ∧ (v'.ownBlock = v.ownBlock ∨ v'.ownBlock = some w.heap.size)
theorem ins_len (xs : List UInt32) (i : Nat) (t : UInt32) (hi : i ≤ xs.length) : (xs.take i ++ t :: xs.drop i).length = xs.length + 1 := by simp; omega

set_option maxRecDepth 100000 in
set_option maxHeartbeats 2000000 in
theorem insert_end (base : Nat) (v : Value) (xs : List UInt32) (t : UInt32) (G : Nat) (w : World) (hown : w.ownsRow base 22 1 v xs.length (xs.map u32v)) (hl : xs.length ≤ 100000) (hG : Blk w G 22 [u32v t]) (hb : base ≤ w.heap.size) :
    Calls Tryd.prog 46 #[v, .int .i64 xs.length, .slice (some ⟨G, 0, none⟩) 1 1] w (Ins base v (xs.take xs.length ++ t :: xs.drop xs.length) w) := by
  have e0 : xs.take xs.length ++ t :: xs.drop xs.length = xs ++ [t] := by simp
  rw [e0]
  clear e0
  have Hown := Lib.hid hown
  obtain ⟨A, c, rfl, hc, hm, hrd⟩ := own_form hown
  have Hrd := Lib.hid hG.rd
  unfold maxLen at hm
  clear hown hrd hG
  have hcA : A = none → xs.length = 0 ∧ c = 0 := fun h => by
    rcases Hown.out.2 with ⟨h1, _⟩ | ⟨g, cap, cur, h1, _⟩
    · injection h1 with _ h2 h3; exact ⟨h2, h3⟩
    · rw [h] at h1; injection h1 with h1; cases h1
  cases A with
  | none =>
    obtain ⟨h1, rfl⟩ := hcA rfl
    obtain rfl : xs = [] := List.eq_nil_of_length_eq_zero h1
    clear hcA h1
    go_enter Tryd.func46, Tryd.ntmps46
    go_wp2_with (at_builtin; refine wpList_app wordT (by rfl) _ _ (by rfl) base _ 0 _ (by rfl) Hown.out _ 1 1 [u32v t] (by rfl) (by rfl) Hrd.out (by simp [Value.oneCell']) (by omega) (by unfold maxLen; omega) hb ?_; intro v2 w2 own2 hg2 hat2; have Own2 := Lib.hid own2; clear own2)
    go_ret
    exact ⟨_, rfl, by simpa using Own2.out, hg2, hat2⟩
  | some a =>
    obtain ⟨g, cap, hga, hgb, hgl⟩ : ∃ g cap, (Value.slice (some a) xs.length c) = .slice (some ⟨g, 0, none⟩) xs.length cap ∧ base ≤ g ∧ g < w.heap.size := by
      rcases Hown.out.2 with ⟨h1, _⟩ | ⟨g, cap, cur, h1, h2, h3, _⟩
      · cases h1
      · exact ⟨g, cap, h1, h2, (Array.getElem?_eq_some_iff.1 h3).1⟩
    injection hga with hga _ hgc
    injection hga with hga
    subst hga hgc
    clear hcA
    by_cases hcn : c = xs.length
    · subst hcn
      go_enter Tryd.func46, Tryd.ntmps46
      go_wp2_with (at_builtin; refine wpList_app wordT (by rfl) _ _ (by rfl) base _ xs.length _ (by rfl) Hown.out _ 1 1 [u32v t] (by rfl) (by rfl) Hrd.out (by simp [Value.oneCell']) (by omega) (by unfold maxLen; omega) hb ?_; intro v2 w2 own2 hg2 hat2; have Own2 := Lib.hid own2; clear own2)
      go_ret
      exact ⟨_, rfl, by simpa using Own2.out, hg2, hat2⟩
    · go_enter Tryd.func46, Tryd.ntmps46
      go_wp2_with (at_builtin; refine wpList_app wordT (by rfl) _ _ (by rfl) base _ xs.length _ (by rfl) Hown.out _ 1 1 [u32v t] (by rfl) (by rfl) Hrd.out (by simp [Value.oneCell']) (by omega) (by unfold maxLen; omega) hb ?_; intro v2 w2 own2 hg2 hat2; have Own2 := Lib.hid own2; clear own2)
      go_ret
      exact ⟨_, rfl, by simpa using Own2.out, hg2, hat2⟩

set_option maxRecDepth 100000 in
set_option maxHeartbeats 2000000 in
theorem insert_place (base g cap : Nat) (xs : List UInt32) (i : Nat) (t : UInt32) (G : Nat) (w : World) (hown : w.ownsRow base 22 1 (.slice (some ⟨g, 0, none⟩) xs.length cap) xs.length (xs.map u32v)) (hi : i < xs.length) (hl : xs.length ≤ 100000) (hG : Blk w G 22 [u32v t]) (hGg : G ≠ g) (hb : base ≤ w.heap.size)
    (hroom : xs.length + 1 ≤ cap) :
    Calls Tryd.prog 46 #[.slice (some ⟨g, 0, none⟩) xs.length cap, .int .i64 i, .slice (some ⟨G, 0, none⟩) 1 1] w (Ins base (.slice (some ⟨g, 0, none⟩) xs.length cap) (xs.take i ++ t :: xs.drop i) w) := by
  obtain ⟨cur, hcur, hcl, hnc, hm, hct, hbg⟩ := own_full hown
  have hov : ∀ lb cb, (callFunc 57 #[.slice (some ⟨G, 0, none⟩) 1 1, .slice (some ⟨g, i + 1, none⟩) lb cb]).run Tryd.prog w = .ok (.value (.bool false)) w := fun lb cb => by
    rw [run_callFunc_extern Tryd.func57 (by kernel_rfl) (by kernel_rfl) (by kernel_rfl) (e := Extern.SlicesOverlaps.overlaps #[41, 41] #[4]) (by kernel_rfl),
      Lib.run_overlaps_apart w 41 4 22 Tryd.underlying41 1 (fun w => by kernel_rfl) ⟨G, 0, none⟩ ⟨g, i + 1, none⟩ 1 1 lb cb hGg 22 22 1 cap (by unfold Blk at hG; simp [World.shape?, hG]) (by simp [World.shape?, hcur, hcl]) (by omega) (hG.frozen 0) (hG.frozen 1)]
    rfl
  have Hcur := Lib.hid hcur; have Hct := Lib.hid hct; have Hcl := Lib.hid hcl
  have hgl : g < w.heap.size := (Array.getElem?_eq_some_iff.1 hcur).1
  clear hcur hct hcl hown
  unfold maxLen at hm
  have hz2 : ((i : Int) == (xs.length : Int)) = false := by simp; omega
  have hz3 : (xs.length : Int) + 1 ≤ (cap : Int) := by omega
  have hi' : (i : Int) < (xs.length : Int) := by omega
  have hc1 : cap ≠ i := by omega
  have hc2 : cap ≠ i + 1 := by omega
  go_enter Tryd.func46, Tryd.ntmps46
  go_wp2_with (simp only [hov])
  refine wp_region_tree (.take [0,1,2,3,4,5,6,7] .done) [8] (by kernel_rfl) (by kernel_rfl) (fun w1 k1 => ?_)
  refine mt_take w1 (Below.refl _ _) ?_
  simp only [pick_cons, pick_nil, nth_zero, nth_succ]
  repeat (go_big_quiet_step (fail))
  refine wpQuiet_nil (mt_end ?_)
  have hmapd : ((xs.map u32v).drop i).length = xs.length - i := by simp
  have hrd1 : Rd w1 (some ⟨g, i, none⟩) ((xs.map u32v).drop i) := by
    have hb1 : Blk w1 g 22 cur := (show Blk w g 22 cur from Hcur.out).keep k1
    have h1 := hb1.rd.sub i (xs.length - i) (by rw [Hcl.out]; omega)
    rw [Nat.zero_add] at h1
    have e : (cur.drop i).take (xs.length - i) = (xs.map u32v).drop i := by rw [← Hct.out, List.drop_take]
    rwa [e] at h1
  have hG1 : Blk w1 G 22 [u32v t] := hG.keep k1
  have Hmd := Lib.hid hmapd; have Hrd1 := Lib.hid hrd1; have HG1 := Lib.hid hG1
  have Hcur1 : Hid (w1.heap[g]? = some (.cells cur.toArray 22 (0, 0))) := (k1.block g hgl).trans Hcur.out
  clear hmapd hrd1 hG1 hG
  go_wp2_with (first
    | (refine wpList_cpy2 wordT (by rfl) _ _ (by rfl) g (i + 1) _ _ (by rfl) g i _ _ (by rfl) ((xs.map u32v).drop i) (by rw [Hmd.out]; omega) Hrd1.out (fun u hu => one_words xs u (List.mem_of_mem_drop hu)) cur 22 Hcur1.out (by rw [Hmd.out, Hcl.out]; omega) ?_; intro w2 hcur2 hg2)
    | (refine wpList_cpy2 wordT (by rfl) _ _ (by rfl) g i _ _ (by rfl) G 0 1 1 (by rfl) [u32v t] (by simp; omega) (HG1.out.grown hg2 (fun h => hGg (by injection h with h; exact h.symm))).rd (by simp [Value.oneCell']) _ 22 hcur2.out (by rw [length_splice _ _ _ (by rw [Hmd.out, Hcl.out]; omega), Hcl.out]; simp; omega) ?_; intro w3 hcur3 hg3))
  go_ret
  refine ⟨_, rfl, ?_, grown_trans (grown_trans (grown_keep k1) hg2) hg3, .inl rfl⟩
  rw [ins_len xs i t (by omega)]
  refine own_of hcur3.out hbg ?_ hroom (by unfold maxLen; omega) ?_
  · rw [length_splice, length_splice, Hcl.out]
    · rw [Hmd.out, Hcl.out]; omega
    · rw [length_splice _ _ _ (by rw [Hmd.out, Hcl.out]; omega), Hcl.out]; simp; omega
  · have h1 := ins_place cur (xs.map u32v) i (u32v t) (by rw [List.length_map]; exact Hct.out) (by simpa using hi) (by rw [List.length_map, Hcl.out]; exact hroom)
    rw [List.length_map] at h1
    rw [h1, List.map_append, List.map_cons, List.map_take, List.map_drop]

set_option maxRecDepth 100000 in
set_option maxHeartbeats 2000000 in
theorem insert_new (base g cap : Nat) (xs : List UInt32) (i : Nat) (t : UInt32) (G : Nat) (w : World) (hown : w.ownsRow base 22 1 (.slice (some ⟨g, 0, none⟩) xs.length cap) xs.length (xs.map u32v)) (hi : i < xs.length) (hl : xs.length ≤ 100000) (hG : Blk w G 22 [u32v t]) (hb : base ≤ w.heap.size)
    (hroom : cap < xs.length + 1) :
    Calls Tryd.prog 46 #[.slice (some ⟨g, 0, none⟩) xs.length cap, .int .i64 i, .slice (some ⟨G, 0, none⟩) 1 1] w (Ins base (.slice (some ⟨g, 0, none⟩) xs.length cap) (xs.take i ++ t :: xs.drop i) w) := by
  obtain ⟨cur, hcur, hcl, hnc, hm, hct, hbg⟩ := own_full hown
  have hgl : g < w.heap.size := (Array.getElem?_eq_some_iff.1 hcur).1
  have hGl : G < w.heap.size := hG.lt
  obtain ⟨i0, hi0, hz0, hzs, hzb⟩ := wordT.info
  have hrd : Rd w (some ⟨g, 0, none⟩) (xs.map u32v) := own_rd hown
  have hold : (Builtin.firstCells i0.size i (.slice (some ⟨g, 0, none⟩) i cap)).run Tryd.prog w.drew = .ok ((xs.map u32v).take i).toArray w.drew := by
    rw [hzs]
    exact run_firstCells_some w.drew 1 i ⟨g, 0, none⟩ i cap ((xs.map u32v).take i) (by simp; omega) (fun j v hj => by
      obtain ⟨hj2, rfl⟩ := List.getElem?_eq_some_iff.1 hj
      rcases hrd.take i with h | ⟨b', o', e', hc⟩
      · rw [h] at hj2; simp at hj2
      · injection e' with e'; injection e' with e1 e2; subst e1 e2
        rw [add_lit0]; exact hc j hj2)
  obtain ⟨Gc, hGc⟩ : ∃ Gc, Gc = grownCap w (xs.length + 1) cap 22 := ⟨_, rfl⟩
  obtain ⟨row, hrow⟩ : ∃ row : List Value, row = (((xs.map u32v).take i).toArray ++ Builtin.zeroCells (Value.int .u32 0).cells (xs.length + 1 - i) ++ Builtin.zeroCells (Value.int .u32 0).cells (Gc - (xs.length + 1))).toList := ⟨_, rfl⟩
  have hrz : ∀ ty, (Builtin.append_ #[41, 3] ty #[.slice (some ⟨g, 0, none⟩) i cap, .int .i64 ((xs.length : Int) + 1 - (i : Int))]).run Tryd.prog w =
      .ok (.slice (some ⟨w.heap.size, 0, none⟩) (xs.length + 1) Gc) (w.drew.alloc (.cells row.toArray 22)) := fun ty => by
    have h := Lib.run_append_grow_zeros w 41 3 ty 22 i0 _ .i64 .i64 Tryd.underlying41 Tryd.underlying3 hi0 hz0 (some ⟨g, 0, none⟩) i cap ((xs.map u32v).take i) hold (xs.length + 1 - i) (by omega) (by omega) (by omega) (by omega) (by rw [hzb]; omega) (by rw [hzb]; exact growslice_fits (by omega) (by omega))
    rw [show i + (xs.length + 1 - i) = xs.length + 1 by omega, ← hGc] at h
    rw [show (xs.length : Int) + 1 - (i : Int) = ((xs.length + 1 - i : Nat) : Int) by omega, h, hrow, Array.toArray_toList]
  have hGn : xs.length + 1 ≤ Gc := by rw [hGc]; exact grownCap_ge w _ _ _
  have hG63 : Gc ≤ 9223372036854775807 := by
    have := grownCap_le_maxLen w (xs.length + 1) cap 22 (by unfold maxLen; omega)
    rw [← hGc] at this
    unfold maxLen at this
    omega
  have hrl : row.length = Gc := by rw [hrow]; simp [Builtin.zeroCells, Value.cells]; omega
  have hrt : row.take i = (xs.map u32v).take i := by
    rw [hrow, Array.toList_append, Array.toList_append, List.append_assoc, List.take_append_of_le_length (by simp; omega)]
    rw [List.toList_toArray, List.take_take, Nat.min_self]
  obtain ⟨w1, hw1⟩ : ∃ w1, w1 = w.drew.alloc (.cells row.toArray 22) := ⟨_, rfl⟩
  rw [← hw1] at hrz
  have k1 : Keep w w1 := by rw [hw1]; exact ((Below.refl _ _).drew).alloc (Nat.le_refl _) _
  obtain ⟨g1, hg1⟩ : ∃ g1, g1 = w.heap.size := ⟨_, rfl⟩
  have hcur1 : w1.heap[g1]? = some (.cells row.toArray 22 (0, 0)) := by rw [hw1, hg1]; exact heap_alloc_new w.drew _
  have Hcur1 := Lib.hid hcur1; have Hrl := Lib.hid hrl; have Hrt := Lib.hid hrt; have Hg1 := Lib.hid hg1
  rw [← hg1] at hrz
  have hmapd : ((xs.map u32v).drop i).length = xs.length - i := by simp
  have hrd1 : Rd w1 (some ⟨g, i, none⟩) ((xs.map u32v).drop i) := by
    have h1 := ((hrd.keep k1).sub i (xs.length - i) (by simp; omega))
    rw [Nat.zero_add, List.take_of_length_le (by rw [hmapd]; omega)] at h1
    exact h1
  have HG1 := Lib.hid (hG.keep k1)
  have Hmd := Lib.hid hmapd; have Hrd1 := Lib.hid hrd1
  have hgg : g ≠ g1 := by omega
  have hGg : G ≠ g1 := by omega
  clear hmapd hrd1 hG hcur hcl hct hold hrow hGc hw1 hcur1 hrl hrt hg1 hrd hown
  unfold maxLen at hm
  have hz2 : ((i : Int) == (xs.length : Int)) = false := by simp; omega
  have hz3 : (cap : Int) < (xs.length : Int) + 1 := by omega
  have hi' : (i : Int) < (xs.length : Int) := by omega
  have hc1 : cap ≠ i := by omega
  have hc2 : Gc ≠ i := by omega
  have hc3 : Gc ≠ i + 1 := by omega
  go_enter Tryd.func46, Tryd.ntmps46
  go_wp2_with (first
    | (at_builtin; refine Lib.wpList_append_run _ rfl _ _ _ _ rfl _ _ rfl rfl _ _ (hrz _) ?_)
    | (refine wpList_cpy2 wordT (by rfl) _ _ (by rfl) g1 i _ _ (by rfl) G 0 1 1 (by rfl) [u32v t] (by simp; omega) HG1.out.rd (by simp [Value.oneCell']) row 22 Hcur1.out (by rw [Hrl.out]; simp; omega) ?_; intro w2 hcur2 hg2))
  simp only [List.length_cons, List.length_nil, Act.put, Array.set!_eq_setIfInBounds, List.setIfInBounds_toArray, List.set_cons_succ, List.set_cons_zero]
  refine wp_region_tree (.take [0,1,2,3,4,5,6,7] .done) [8] (by kernel_rfl) (by kernel_rfl) (fun w3 k3 => ?_)
  refine mt_take w3 (Below.refl _ _) ?_
  simp only [pick_cons, pick_nil, nth_zero, nth_succ]
  repeat (go_big_quiet_step (fail))
  refine wpQuiet_nil (mt_end ?_)
  have hcur3 : Hid (w3.heap[g1]? = some (.cells (splice row i [u32v t]).toArray 22 (0, 0))) := (k3.block g1 (Array.getElem?_eq_some_iff.1 hcur2.out).1).trans hcur2.out
  have Hrd3 : Hid (Rd w3 (some ⟨g, i, none⟩) ((xs.map u32v).drop i)) := by
    refine Rd.keep ?_ k3
    rcases Hrd1.out with h | ⟨b', o', e', hc⟩
    · exact .inl h
    · injection e' with e'; injection e' with e1 e2; subst e1 e2
      exact .inr ⟨_, _, rfl, fun j hj => grown_cell hg2 (hc j hj) (fun e => hgg (by injection e with e; exact e.symm))⟩
  go_wp2_with (refine wpList_cpy2 wordT (by rfl) _ _ (by rfl) g1 (i + 1) _ _ (by rfl) g i _ _ (by rfl) ((xs.map u32v).drop i) (by rw [Hmd.out]; omega) Hrd3.out (fun u hu => one_words xs u (List.mem_of_mem_drop hu)) _ 22 hcur3.out (by rw [length_splice _ _ _ (by rw [Hrl.out]; simp; omega), Hrl.out, Hmd.out]; omega) ?_; intro w4 hcur4 hg4)
  go_ret
  refine ⟨_, rfl, ?_, ?_, .inr (by rw [Hg1.out]; rfl)⟩
  · rw [ins_len xs i t (by omega)]
    refine own_of hcur4.out (by rw [Hg1.out]; exact hb) ?_ hGn (by unfold maxLen; omega) ?_
    · rw [length_splice, length_splice, Hrl.out]
      · rw [Hrl.out]; simp; omega
      · rw [length_splice _ _ _ (by rw [Hrl.out]; simp; omega), Hrl.out, Hmd.out]; omega
    · have h1 := ins_new row (xs.map u32v) i (u32v t) Hrt.out (by simpa using hi) (by rw [List.length_map, Hrl.out]; exact hGn)
      rw [List.length_map] at h1
      rw [h1, List.map_append, List.map_cons, List.map_take, List.map_drop]
  · have e : ∀ a b : World, a.grownBy b (some g1) → w.heap.size ≤ a.heap.size → Keep w a → Keep w b := fun a b h hs hk => hk.grown h hs (fun k hk2 => by injection hk2 with hk2; have := Hg1.out; omega)
    have k2 := e _ _ hg2 k1.size k1
    have k3' := keep_trans k2 k3
    exact grown_keep (e _ _ hg4 k3'.size k3')

theorem insert_any (base : Nat) (v : Value) (xs : List UInt32) (i : Nat) (t : UInt32) (G : Nat) (w : World) (hown : w.ownsRow base 22 1 v xs.length (xs.map u32v)) (hi : i ≤ xs.length) (hl : xs.length ≤ 100000) (hG : Blk w G 22 [u32v t]) (hGv : v.ownBlock ≠ some G) (hb : base ≤ w.heap.size) :
    Calls Tryd.prog 46 #[v, .int .i64 i, .slice (some ⟨G, 0, none⟩) 1 1] w (Ins base v (xs.take i ++ t :: xs.drop i) w) := by
  by_cases h : i = xs.length
  · subst h; exact insert_end base v xs t G w hown hl hG hb
  · obtain ⟨g, cap, rfl, hgb, hgl⟩ := hown.form (by omega)
    by_cases hr : xs.length + 1 ≤ cap
    · exact insert_place base g cap xs i t G w hown (by omega) hl hG (fun e => hGv (by rw [e]; rfl)) hb hr
    · exact insert_new base g cap xs i t G w hown (by omega) hl hG hb (by omega)
end Go.Proofs.YteoilddiilegmaaDoor
