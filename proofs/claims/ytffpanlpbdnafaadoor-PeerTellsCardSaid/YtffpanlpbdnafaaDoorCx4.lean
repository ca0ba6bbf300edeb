/- Texts merged by pack.py: Vq, Vr, Ve, Vf, Hdr, Vg, Vh, Vs. -/
import Derived.Test.YtffpanlpbdnafaaDoorCx3
import Derived.Deep.CutBlock
import Derived.Test.YtffpanlpbdnafaaDoorCx2
/- tx.Get. (printed by gen_vq.py) -/
set_option linter.unusedSimpArgs false
set_option linter.unusedVariables false
namespace Go.Proofs.YtffpanlpbdnafaaDoor
open Go.RowKit
attribute [local go_sem ↓] Go.wp_at_zero Go.wp_at_succ
def Tgd (R : TxR × Nat × Int) (w : World) (e : Ending) (w' : World) : Prop := ∃ t : TxR, e = .returned (.tuple #[.agg t.cells.toArray, iv R.2.1, iv R.2.2]) ∧ t.pl = R.1 ∧ (t.at w' ∧ ∀ W, MidF (fun _ => True) w w' W → t.at W) ∧ t.ins.length ≤ 1000 ∧ t.outs.length ≤ 1000 ∧ Keep w w'
theorem InR.set32 (x : InR) (h : x.prev.length = 32) (v : UInt32) : x.cells.set 32 (u32v v) = InR.cells { x with ix := v } := by
  unfold InR.cells; rw [List.set_append_right _ _ (by simp [h])]; simp [h]
theorem InR.set33 (x : InR) (h : x.prev.length = 32) (A : Option Addr) (s : List UInt8) (c : Nat) : x.cells.set 33 (.slice A s.length c) = InR.cells { x with A := A, sc := s, cap := c } := by
  unfold InR.cells; rw [List.set_append_right _ _ (by simp [h])]; simp [h]
theorem InR.set34 (x : InR) (h : x.prev.length = 32) (v : UInt32) : x.cells.set 34 (u32v v) = InR.cells { x with seq := v } := by
  unfold InR.cells; rw [List.set_append_right _ _ (by simp [h])]; simp [h]
theorem InR.cell32 (x : InR) (h : x.prev.length = 32) : x.cells[32]? = some (u32v x.ix) ∧ x.cells[33]? = some (.slice x.A x.sc.length x.cap) ∧ x.cells[34]? = some (u32v x.seq) := by
  unfold InR.cells
  refine ⟨?_, ?_, ?_⟩ <;> (rw [List.getElem?_append_right (by simp [h])]; simp [h])
theorem pad_splice {b : List UInt8} {p : SP} : splice (InR.cells ⟨z32, 0, none, [], 0, 0⟩) 0 (((tkB b 32 p).map u8v).take 32) = InR.cells ⟨padH (tkB b 32 p), 0, none, [], 0, 0⟩ := by
  rcases tkB_len b 32 p with q | q
  · have h2 : ((tkB b 32 p).map u8v).length = 32 := by rw [List.length_map, q]
    rw [List.take_of_length_le (by omega)]
    unfold splice InR.cells padH
    rw [List.take_zero, List.nil_append, h2, Nat.zero_add, q]
    rw [show z32.drop 32 = [] from rfl, List.append_nil, List.drop_append_of_le_length (by decide), show (z32.map u8v).drop 32 = [] from rfl, List.nil_append]
  · rw [q]; rfl
theorem KeepB.gr {S : Nat} {w w' : World} (k : KeepB S w w') : w.grownBy w' (some S) := ⟨k.1, k.2.1, k.2.2.1, k.2.2.2.1, fun j hj hn => k.2.2.2.2 j hj fun e => hn (by rw [e])⟩
theorem KeepB.new {S g : Nat} {w w1 w2 : World} (h : KeepB S w w1) (hg : w1.grownBy w2 (some g)) (hn : w.heap.size ≤ g) : KeepB S w w2 :=
  KeepX.grown h hg fun j hj q => by cases q; omega
theorem KeepB.blk {S g : Nat} {w w' : World} {t : TypeId} {cs : List Value} (k : KeepB S w w') (h : Blk w g t cs) (hn : g ≠ S) : Blk w' g t cs := h.kx k hn
theorem tgetS_eq (b : List UInt8) : tgetS b = (⟨UInt32.ofNat (nmV b 4 (0, 0)), none, (insS b (ctV b 1000 (tkP b 4 (0, 0))) (cntE (ctV b 1000 (tkP b 4 (0, 0))) (ctP b 1000 (tkP b 4 (0, 0))))).1, 0, none,
    (outsS b (ctV b 1000 (insS b (ctV b 1000 (tkP b 4 (0, 0))) (cntE (ctV b 1000 (tkP b 4 (0, 0))) (ctP b 1000 (tkP b 4 (0, 0))))).2) (ctP b 1000 (insS b (ctV b 1000 (tkP b 4 (0, 0))) (cntE (ctV b 1000 (tkP b 4 (0, 0))) (ctP b 1000 (tkP b 4 (0, 0))))).2)).1, 0,
    UInt32.ofNat (nmV b 4 (outsS b (ctV b 1000 (insS b (ctV b 1000 (tkP b 4 (0, 0))) (cntE (ctV b 1000 (tkP b 4 (0, 0))) (ctP b 1000 (tkP b 4 (0, 0))))).2) (ctP b 1000 (insS b (ctV b 1000 (tkP b 4 (0, 0))) (cntE (ctV b 1000 (tkP b 4 (0, 0))) (ctP b 1000 (tkP b 4 (0, 0))))).2)).2)⟩,
    tkP b 4 (outsS b (ctV b 1000 (insS b (ctV b 1000 (tkP b 4 (0, 0))) (cntE (ctV b 1000 (tkP b 4 (0, 0))) (ctP b 1000 (tkP b 4 (0, 0))))).2) (ctP b 1000 (insS b (ctV b 1000 (tkP b 4 (0, 0))) (cntE (ctV b 1000 (tkP b 4 (0, 0))) (ctP b 1000 (tkP b 4 (0, 0))))).2)).2) := rfl
theorem GSt.tx {S T D r : Nat} {w0 w w' : World} {src : List Value} {ver lock : UInt32} {iA oA : Option Addr} {ic oc : Nat} {ds : List InR} {es : List OutR} (h : GSt S T D w0 w src ver (.slice iA ds.length ic) ds (.slice oA es.length oc) es)
    (hz : Blk w r 48 [.int .u32 0, .slice none 0 0, .slice none 0 0, .int .u32 0]) (hr : r < D) (k : KeepX (fun k => k = T ∨ k = r) w w') (hi : ds.length ≤ ic ∧ ic ≤ maxLen) (ho : es.length ≤ oc ∧ oc ≤ maxLen) :
    TxR.at ⟨ver, iA, ds, ic, oA, es, oc, lock⟩ w' ∧ ∀ W, MidF (fun _ => True) w0 w' W → TxR.at ⟨ver, iA, ds, ic, oA, es, oc, lock⟩ W := by
  have o1 := own_kx h.oi k (fun g q e => by have := (h.iS g q).1; have := h.st.2.2.1; omega)
  have o2 := own_kx h.oo k (fun g q e => by have := (h.oS g q).1; have := h.st.2.2.1; omega)
  have hY : ∀ g, g < w.heap.size → (g = T ∨ g = r) → GX S T D (.slice iA ds.length ic) (.slice oA es.length oc) g := fun g _ q => q.elim (fun q => .inr (.inl q)) (fun q => .inr (.inr (.inr (.inr (by omega)))))
  have hX : ∀ g, g < w.heap.size → g < w0.heap.size → GX S T D (.slice iA ds.length ic) (.slice oA es.length oc) g := fun g _ q => .inr (.inr (.inr (.inr (by have := h.st.2.2.2; omega))))
  have hM : ∀ W, MidF (fun _ => True) w0 w' W → TxR.at ⟨ver, iA, ds, ic, oA, es, oc, lock⟩ W := fun W hm =>
    ⟨own_mid o1 (by have := h.st.2.2.2; omega) hm, own_mid o2 (by have := h.st.2.2.2; omega) hm, hi, ho, fun x hx => ⟨(h.is x hx).1, (h.is x hx).2.1, ((h.is x hx).2.2.kx k hY hX).mid hm⟩, fun x hx => ⟨(h.os x hx).1, (h.os x hx).2.1, ((h.os x hx).2.2.kx k hY hX).mid hm⟩⟩
  exact ⟨hM w' ⟨trivial, fun _ _ _ => rfl⟩, hM⟩
theorem results_cell_tmp_tmp {P : Program} {fn : Func} {p u v : Tmp} {ty : TypeId} (h : fn.results = #[.cell p ty, .tmp u, .tmp v]) (tmps : Array Value) (w : World) (g : Nat) (t : TypeId) (cs : Array Value) (fr : Nat × Nat) (d : TypeDesc)
    (hp : tmps.getD p undef = .pointer (some ⟨g, 0, none⟩)) (hg : w.heap[g]? = some (.cells cs t fr)) (hu : P.underlying ty = some d) (hd : (match d with | .struct _ | .array _ _ => true | _ => false) = true) (hi : (P.info? ty).map (·.size) = some cs.size) :
    (results fn tmps).run P w = .ok (.tuple #[.agg cs, tmps.getD u undef, tmps.getD v undef]) w := by
  have hp' : tmps[p]?.getD undef = .pointer (some ⟨g, 0, none⟩) := by simpa using hp
  simp [results, h, hp', asAddr, run_loadVar_row w g t ty cs fr d hg hu hd hi]
theorem txZ_at (w : World) : txZ.at w := ⟨Rd.nil _ _, Rd.nil _ _, ⟨Nat.le_refl _, Nat.zero_le _⟩, ⟨Nat.le_refl _, Nat.zero_le _⟩, (fun x q => by cases q), fun x q => by cases q⟩
theorem tx_info : (Tryd.prog.info? 48).map (·.size) = some 4 := by kernel_rfl
theorem KeepX.wide {X Y : Nat → Prop} {a b : World} (h : KeepX X a b) (hY : ∀ k, X k → Y k) : KeepX Y a b := ⟨h.1, h.2.1, h.2.2.1, h.2.2.2.1, fun k hk hn => h.2.2.2.2 k hk fun q => hn (hY k q)⟩
set_option maxRecDepth 100000 in
set_option maxHeartbeats 8000000 in
theorem tget_any (A : Option Addr) (b : List UInt8) (c : Nat) (w : World) (hl : b.length ≤ 1000000000) (hc : b.length ≤ c) (hcm : c ≤ maxLen) (hr : Rd w A (b.map u8v)) :
    Calls Tryd.prog 75 #[.slice A b.length c] w (Tgd (tgetN b) w) := by
  obtain ⟨ver, hver⟩ : ∃ v : UInt32, v = UInt32.ofNat (nmV b 4 (0, 0)) := ⟨_, rfl⟩
  have HRB := Lib.hid hr
  have hl0 : (tkP b 4 (0, 0)).1 ≤ b.length := tkP_le (Nat.zero_le _)
  obtain ⟨L, hL⟩ : ∃ L, b.length = L := ⟨_, rfl⟩
  have HLL := Lib.hid hL
  -- the reader's functions, at a world in which the reader lies at S
  have NUM : Hid (∀ (PB S m : Nat) (p : SP) (y : World), Keep w y → w.heap.size ≤ S → y.cell? ⟨PB, 0, none⟩ = some (.pointer (some ⟨S, 0, none⟩)) → Blk y S 187 (srcL A L c p) → p.1 ≤ L → m ≤ 8 → 0 < m →
      Calls Tryd.prog 89 #[iv m, .pointer (some ⟨PB, 0, none⟩)] y (Red S 187 (srcL A L c (tkP b m p)) (u64v (nmV b m p)) y)) := Lib.hid fun PB S m p y hy hS h1 h2 h3 h4 h5 => by
    rw [← hL] at h2 h3 ⊢
    exact snum_any PB S _ A b c m p y h1 h2 h3 hc hl hcm h4 h5 (RdX.of_old (hr) (fun k q => by cases q; exact hS) |>.keep hy)
  have CNT : Hid (∀ (S : Nat) (p : SP) (y : World), Keep w y → w.heap.size ≤ S → Blk y S 187 (srcL A L c p) → p.1 ≤ L →
      Calls Tryd.prog 91 #[.pointer (some ⟨S, 0, none⟩), u64v 1000] y (Red S 187 (srcL A L c (ctP b 1000 p)) (iv (ctV b 1000 p)) y)) := Lib.hid fun S p y hy hS h2 h3 => by
    rw [← hL] at h2 h3 ⊢
    exact scount_any S _ A b c 1000 (by omega) p y h2 h3 hc hl hcm (RdX.of_old (hr) (fun k q => by cases q; exact hS) |>.keep hy)
  have SCR : Hid (∀ (S : Nat) (p : SP) (y : World), Keep w y → w.heap.size ≤ S → Blk y S 187 (srcL A L c p) → p.1 ≤ L →
      Calls Tryd.prog 92 #[.pointer (some ⟨S, 0, none⟩)] y (Scd S 187 (srcL A L c (scP b p)) (scV b p) y)) := Lib.hid fun S p y hy hS h2 h3 => by
    rw [← hL] at h2 h3 ⊢
    exact sscript_any S _ A b c p y h2 h3 hc hl hcm (RdX.of_old (hr) (fun k q => by cases q; exact hS) |>.keep hy)
  have TAK : Hid (∀ (S : Nat) (p : SP) (y : World), Keep w y → w.heap.size ≤ S → Blk y S 187 (srcL A L c p) → p.1 ≤ L →
      Calls Tryd.prog 90 #[.pointer (some ⟨S, 0, none⟩), iv 32] y (Tkd S 187 (srcL A L c (tkP b 32 p)) (tkB b 32 p) y)) := Lib.hid fun S p y hy hS h2 h3 => by
    rw [← hL] at h2 h3 ⊢
    exact stake_any S _ A b c 32 p y h2 h3 hc hl hcm (by omega) (by omega) (RdX.of_old (hr) (fun k q => by cases q; exact hS) |>.keep hy)
  have HRR : Hid (tgetN b = if (tgetS b).2.2 = 0 then ((tgetS b).1, (tgetS b).2.1, 0) else (txZ, 0, (tgetS b).2.2)) := Lib.hid rfl
  rw [tgetS_eq, ← hver] at HRR
  generalize tgetN b = R at *
  have HVER := Lib.hid hver
  rw [hL] at hl0 hl hc ⊢
  clear hr hver hL
  go_enter Tryd.func75, Tryd.ntmps75
  go_upto_region 4 with fail
  obtain ⟨w0, hw0⟩ : ∃ w0, w0 = (((w.alloc (.cells #[.int .u32 0, .slice none 0 0, .slice none 0 0, .int .u32 0] 48)).alloc (.cells #[.slice A L c, .int .i64 0, .int .i64 0] 187)).alloc (.cells #[.pointer (some ⟨w.heap.size + 1, 0, none⟩)] 185)).alloc (.cells #[.int .u32 0, .slice none 0 0, .slice none 0 0, .int .u32 0] 48) := ⟨_, rfl⟩
  have HZ0 : Hid (Blk w0 w.heap.size 48 [.int .u32 0, .slice none 0 0, .slice none 0 0, .int .u32 0]) := by rw [hw0]; exact Lib.hid ((((Blk.new w 48 [.int .u32 0, .slice none 0 0, .slice none 0 0, .int .u32 0]).alloc _).alloc _).alloc _)
  have HS0 : Hid (Blk w0 (w.heap.size + 1) 187 [.slice A L c, .int .i64 0, .int .i64 0]) := by
    rw [hw0]
    have q := Blk.new (w.alloc (.cells #[.int .u32 0, .slice none 0 0, .slice none 0 0, .int .u32 0] 48)) 187 [.slice A L c, .int .i64 0, .int .i64 0]
    rw [World.size_alloc] at q
    exact Lib.hid ((q.alloc _).alloc _)
  have HP0 : Hid (Blk w0 (w.heap.size + 1 + 1) 185 [.pointer (some ⟨w.heap.size + 1, 0, none⟩)]) := by
    rw [hw0]
    have q := Blk.new ((w.alloc (.cells #[.int .u32 0, .slice none 0 0, .slice none 0 0, .int .u32 0] 48)).alloc (.cells #[.slice A L c, .int .i64 0, .int .i64 0] 187)) 185 [.pointer (some ⟨w.heap.size + 1, 0, none⟩)]
    rw [World.size_alloc, World.size_alloc] at q
    exact Lib.hid (q.alloc _)
  have HT0 : Hid (Blk w0 (w.heap.size + 1 + 1 + 1) 48 [.int .u32 0, .slice none 0 0, .slice none 0 0, .int .u32 0]) := by
    rw [hw0]
    have q := Blk.new (((w.alloc (.cells #[.int .u32 0, .slice none 0 0, .slice none 0 0, .int .u32 0] 48)).alloc (.cells #[.slice A L c, .int .i64 0, .int .i64 0] 187)).alloc (.cells #[.pointer (some ⟨w.heap.size + 1, 0, none⟩)] 185)) 48 [.int .u32 0, .slice none 0 0, .slice none 0 0, .int .u32 0]
    rw [World.size_alloc, World.size_alloc, World.size_alloc] at q
    exact Lib.hid q
  have HK0 : Hid (Keep w w0) := by rw [hw0]; exact Lib.hid (keep_trans (keep_trans (keep_trans (keep_new _ _) (keep_new _ _)) (keep_new _ _)) (keep_new _ _))
  have hsz0 : w.heap.size + 1 + 1 + 1 < w0.heap.size := HT0.out.lt
  rw [← hw0]
  clear hw0
  obtain ⟨r, hr⟩ : ∃ r, w.heap.size = r := ⟨_, rfl⟩
  obtain ⟨S, hS⟩ : ∃ S, r + 1 = S := ⟨_, rfl⟩
  obtain ⟨PB, hPB⟩ : ∃ PB, S + 1 = PB := ⟨_, rfl⟩
  obtain ⟨T, hT⟩ : ∃ T, PB + 1 = T := ⟨_, rfl⟩
  have HRW : Hid (w.heap.size = r) := Lib.hid hr
  rw [hr, hS] at HS0; rw [hr, hS, hPB] at HP0; rw [hr, hS, hPB, hT] at HT0 hsz0; rw [hr] at HZ0
  simp only [hr, hS, hPB, hT]
  have l1 : r < S := by omega
  have l2 : S < PB := by omega
  have l3 : PB < T := by omega
  have HWS : Hid (w.heap.size ≤ S) := Lib.hid (by omega)
  clear hr hS hPB hT
  have G0 : Hid (GSt S T w0.heap.size w0 w0 (srcL A L c (0, 0)) 0 (.slice none 0 0) [] (.slice none 0 0) []) := Lib.hid ⟨HS0.out, HT0.out, World.ownsRow_nil _ _ _ _, World.ownsRow_nil _ _ _ _, (fun g q => by cases q), (fun x hx => by cases hx), (fun x hx => by cases hx), KeepX.of (Below.refl _ _), by omega, by omega, by omega, rfl⟩
  clear HS0 HT0
  obtain ⟨V0, hV0⟩ : ∃ V, nmV b 4 (0, 0) = V := ⟨_, rfl⟩
  have hvv : (V0 : Int) % 4294967296 = (ver.toNat : Int) := by rw [HVER.out, hV0, UInt32.toNat_ofNat']; omega
  have hvw : IntKind.u32.wrap (V0 : Int) = (ver.toNat : Int) := by rw [IntKind.wrap_u32]; exact hvv
  have N0 := NUM.out PB S 4 (0, 0) w0 HK0.out HWS.out (HP0.out.cell 0) G0.out.hs (Nat.zero_le _) (by omega) (by omega)
  rw [hV0] at N0
  have N0 := Lib.hid N0
  clear hV0 HVER
  obtain ⟨p1, hp1⟩ : ∃ p, tkP b 4 (0, 0) = p := ⟨_, rfl⟩
  rw [hp1] at hl0 HRR N0
  clear hp1
  have KW : Hid (∀ y src ver vi ds vo es, GSt S T w0.heap.size w0 y src ver vi ds vo es → Keep w y) := Lib.hid fun y src ver vi ds vo es h => h.kx.keep HK0.out (fun j q => by have := HWS.out; rcases q with q | q <;> omega)
  have PBC : Hid (∀ y src ver vi ds vo es, GSt S T w0.heap.size w0 y src ver vi ds vo es → y.cell? ⟨PB, 0, none⟩ = some (.pointer (some ⟨S, 0, none⟩))) := Lib.hid fun y src ver vi ds vo es h => h.far (HP0.out.cell 0) (by omega) (by omega)
  go_upto_region 5 with (go_at_call 89; refine N0.out.mono ?_; rintro e w1 ⟨rfl, hb1, hk1⟩; have G1 := Lib.hid (G0.out.read hb1 hk1); have t0 := G1.out.ht.cell 0; have f0 := G1.out.ht.frozen 0; try simp only [List.getElem?_cons_zero] at t0; clear hb1 hk1)
  obtain ⟨w2, hw2⟩ : ∃ w2, w2 = w1.setCell ⟨T, 0, none⟩ (.int .u32 ver.toNat) := ⟨_, rfl⟩
  have G2 : Hid (GSt S T w0.heap.size w0 w2 (srcL A L c p1) ver (.slice none 0 0) [] (.slice none 0 0) []) := by rw [hw2]; exact Lib.hid (G1.out.vers ver)
  rw [← hw2]
  clear hw2 G0 G1 t0 f0 N0 hvv hvw
  have pb := PBC.out _ _ _ _ _ _ _ G2.out
  have C2 := Lib.hid (CNT.out S p1 w2 (KW.out _ _ _ _ _ _ _ G2.out) HWS.out G2.out.hs hl0)
  obtain ⟨n, hn⟩ : ∃ n, ctV b 1000 p1 = n := ⟨_, rfl⟩
  obtain ⟨p2, hp2⟩ : ∃ p, ctP b 1000 p1 = p := ⟨_, rfl⟩
  have hn1000 : n ≤ 1000 := by rw [← hn]; exact ctV_le _ _ _
  have hl2 : p2.1 ≤ L := by rw [← hp2, ← HLL.out]; exact ctP_le (by rw [HLL.out]; exact hl0)
  rw [hn, hp2] at C2 HRR
  clear hn hp2
  go_upto_region 6 with (go_at_call 91; refine C2.out.mono ?_; rintro e w3 ⟨rfl, hb3, hk3⟩; have G3 := Lib.hid (G2.out.read hb3 hk3); clear hb3 hk3)
  clear pb C2 G2
  obtain ⟨a2, e2⟩ := p2
  obtain ⟨p3, hp3⟩ : ∃ p, cntE n (a2, e2) = p := ⟨_, rfl⟩
  have hl3 : p3.1 ≤ L := by rw [← hp3]; unfold cntE; split <;> exact hl2
  rw [hp3] at HRR
  have HP3 := Lib.hid hp3
  clear hp3 hl0 hl2
  obtain ⟨Q, hQ⟩ : ∃ Q, decide (e2 = 0 ∧ n = 0) = Q := ⟨_, rfl⟩
  have HQ := Lib.hid hQ
  clear hQ
  go_cut [8, 32] (fun v q wx => v = .int .i64 n ∧ q = .bool Q ∧ wx = w3)
  case first =>
    have pb := PBC.out _ _ _ _ _ _ _ G3.out
    have s2 := G3.out.hs.cell 2
    try simp only [List.getElem?_cons_succ, List.getElem?_cons_zero] at s2
    have hq := HQ.out
    by_cases q0 : e2 = 0
    · have d1 : (e2 == 0) = true := by rw [q0]; rfl
      by_cases qn : n = 0
      · have d2 : ((n : Int) == 0) = true := by rw [qn]; rfl
        rw [decide_eq_true (show e2 = 0 ∧ n = 0 from ⟨q0, qn⟩)] at hq
        subst hq
        clear q0 qn HQ HP3
        go_wp2_with fail
        go_meet
        exact ⟨rfl, rfl, rfl⟩
      · have d2 : ((n : Int) == 0) = false := by rw [beq_eq_false_iff_ne]; omega
        rw [decide_eq_false (show ¬ (e2 = 0 ∧ n = 0) from fun q => qn q.2)] at hq
        subst hq
        clear q0 qn HQ HP3
        go_wp2_with fail
        go_meet
        exact ⟨rfl, rfl, rfl⟩
    · have d1 : (e2 == 0) = false := by rw [beq_eq_false_iff_ne]; exact q0
      rw [decide_eq_false (show ¬ (e2 = 0 ∧ n = 0) from fun q => q0 q.1)] at hq
      subst hq
      clear q0 HQ HP3
      go_wp2_with fail
      go_meet
      exact ⟨rfl, rfl, rfl⟩
  case rest =>
  obtain ⟨rfl, rfl, rfl⟩ := hcut
  go_upto_if 32 with fail
  go_cut [8] (fun v wx => v = .int .i64 n ∧ Hid (GSt S T w0.heap.size w0 wx (srcL A L c p3) ver (.slice none 0 0) [] (.slice none 0 0) []))
  case first =>
    have pb := PBC.out _ _ _ _ _ _ _ G3.out
    have f2 := G3.out.hs.frozen 2; have s2 := G3.out.hs.cell 2
    try simp only [List.getElem?_cons_succ, List.getElem?_cons_zero] at s2
    have hp3 := HP3.out
    unfold cntE at hp3
    simp only at hp3
    cases Q with
    | true =>
      rw [if_pos (of_decide_eq_true HQ.out)] at hp3
      subst hp3
      have HZ : Hid (GSt S T w0.heap.size w0 (wc.setCell ⟨S, 2, none⟩ (.int .i64 2)) (srcL A L c (a2, 2)) ver (.slice none 0 0) [] (.slice none 0 0) []) := Lib.hid (G3.out.read (G3.out.hs.set_ 2 _) (KeepB.set (KeepX.of (Below.refl _ _)) 2 _))
      clear HP3 HQ
      go_wp2_with fail
      go_meet
      exact ⟨rfl, HZ⟩
    | false =>
      rw [if_neg (of_decide_eq_false HQ.out)] at hp3
      subst hp3
      clear HP3 HQ
      go_wp2_with fail
      go_meet
      exact ⟨rfl, G3⟩
  case rest =>
    obtain ⟨rfl, G4⟩ := hcut
    clear HP3 G3
    have HI0 : Hid (insS b n p3 = (([] : List InR).map InR.pl ++ (insS b (n - 0) p3).1, (insS b (n - 0) p3).2)) := Lib.hid (by simp)
    obtain ⟨zs, hz1, hz2, hz3, hzA⟩ := zin_letter
    have HZA := Lib.hid hzA
    clear hzA
    go_upto_block 0 with fail
    go_cut [8] (fun v wx => v = .int .i64 n ∧ ∃ (vi : Value) (ds : List InR), Hid (GSt S T w0.heap.size w0 wx (srcL A L c (insS b n p3).2) ver vi ds (.slice none 0 0) []) ∧ Hid (ds.map InR.pl = (insS b n p3).1) ∧ ds.length ≤ 1000)
    case first =>
      go_wp2_with fail
      go_loopw [9] (fun x wr => ∃ (i : Nat) (p : SP) (vi : Value) (ds : List InR), i ≤ n ∧ x = .int .i64 i ∧ ds.length = i ∧ p.1 ≤ L ∧ Hid (GSt S T w0.heap.size w0 wr (srcL A L c p) ver vi ds (.slice none 0 0) []) ∧ Hid (insS b n p3 = (ds.map InR.pl ++ (insS b (n - i) p).1, (insS b (n - i) p).2))) (fun x _ => n - (intOf x).toNat)
      case atStart => exact ⟨0, p3, .slice none 0 0, [], Nat.zero_le _, rfl, rfl, hl3, G4, HI0⟩
      case round =>
        obtain ⟨i, p, vi, ds, hi, rfl, hdl, hpl, Gr, HIr⟩ := hrel
        obtain ⟨a, e0⟩ := p
        have HDL := Lib.hid hdl
        have pb := PBC.out _ _ _ _ _ _ _ Gr.out
        have s2 := Gr.out.hs.cell 2
        try simp only [List.getElem?_cons_succ, List.getElem?_cons_zero] at s2
        clear hdl
        by_cases hlt : i < n
        case neg =>
          obtain rfl : i = n := by omega
          have d1 : ¬ (i : Int) < i := by omega
          have hE := HIr.out
          rw [Nat.sub_self] at hE
          have HE : Hid (insS b i p3 = (ds.map InR.pl, (a, e0))) := Lib.hid (by rw [hE]; simp [insS])
          clear hE HIr
          go_wp2_with fail
          go_meet
          exact ⟨rfl, vi, ds, by rw [HE.out]; exact Gr, Lib.hid (by rw [HE.out]), by rw [HDL.out]; omega⟩
        by_cases h0 : e0 = 0
        case neg =>
          have d1 : (i : Int) < n := by omega
          have d2 : (e0 == 0) = false := by rw [beq_eq_false_iff_ne]; exact h0
          have HE : Hid (insS b n p3 = (ds.map InR.pl, (a, e0))) := Lib.hid (by rw [HIr.out, insS_err b _ h0]; simp)
          clear HIr h0
          go_wp2_with fail
          go_meet
          exact ⟨rfl, vi, ds, by rw [HE.out]; exact Gr, Lib.hid (by rw [HE.out]), by rw [HDL.out]; omega⟩
        subst h0
        have d1 : (i : Int) < n := by omega
        have HIn : Hid (insS b n p3 = ((ds ++ [(inS b (a, 0)).1]).map InR.pl ++ (insS b (n - (i + 1)) (inS b (a, 0)).2).1, (insS b (n - (i + 1)) (inS b (a, 0)).2).2)) := Lib.hid (by
          rw [HIr.out, show n - i = (n - (i + 1)) + 1 by omega]
          show _ = _
          rw [insS, if_pos rfl]
          simp [InR.pl, inS])
        have KR := Lib.hid (KW.out _ _ _ _ _ _ _ Gr.out)
        have PBR := Lib.hid pb
        have KRB : Hid (∀ y, KeepB S wr y → Keep w y) := Lib.hid fun y k => k.keep KR.out fun j q => by have := HWS.out; omega
        have PRB : Hid (∀ y, KeepB S wr y → y.cell? ⟨PB, 0, none⟩ = some (.pointer (some ⟨S, 0, none⟩))) := Lib.hid fun y k => k.cell PBR.out (by omega)
        clear HIr PBR
        go_upto_region 12 with fail
        obtain ⟨w5, hw5⟩ : ∃ w5, w5 = wr.alloc (.cells zs 127) := ⟨_, rfl⟩
        have HX5 : Hid (Blk w5 wr.heap.size 127 (InR.cells ⟨z32, 0, none, [], 0, 0⟩)) := by rw [hw5, ← HZA.out.l]; exact Lib.hid (Blk.new wr 127 zs.toList)
        have HK5 : Hid (KeepB S wr w5) := by rw [hw5]; exact Lib.hid (KeepX.of (keep_new _ _))
        have HS5 : Hid (Blk w5 S 187 (srcL A L c (a, 0))) := by rw [hw5]; exact Lib.hid (Gr.out.hs.alloc _)
        have KR5 : Hid (Keep w w5) := by rw [hw5]; exact Lib.hid (keep_trans KR.out (keep_new _ _))
        have pb5 : w5.cell? ⟨PB, 0, none⟩ = some (.pointer (some ⟨S, 0, none⟩)) := by rw [hw5]; exact keep_cell (keep_new _ _) pb
        have HPB5 := Lib.hid pb5
        have hgS : wr.heap.size ≠ S := by have := Gr.out.hs.lt; omega
        have hszw : w.heap.size ≤ wr.heap.size := KR.out.size
        rw [← hw5]
        clear hw5 pb pb5 s2 KR
        obtain ⟨gi, hgi⟩ : ∃ g, wr.heap.size = g := ⟨_, rfl⟩
        have HGI := Lib.hid hgi
        rw [hgi] at HX5 hgS hszw
        simp only [hgi]
        clear hgi
        letI iM : G.Mk := ⟨some S⟩
        refine G.wp_region_tree (.take [0,1,2] (.force [3] .done)) [4] (by kernel_rfl) (by kernel_rfl) (fun w6 k6 => ?_)
        have HX6 := Lib.hid (HX5.out.keep k6); have HK6 : Hid (KeepB S wr w6) := Lib.hid (HK5.out.trans (KeepX.of k6) fun _ _ q => q); have HS6 := Lib.hid (HS5.out.keep k6); have KR6 := Lib.hid (keep_trans KR5.out k6)
        have hneP : G.Mk.m ≠ some PB := fun q => by have e : S = PB := Option.some.inj q; omega
        have b1 := G.aftG_cell (keep_cell k6 HPB5.out) hneP
        clear k6 HX5 HK5 HS5 KR5 HPB5
        refine G.mt_take w6 (G.Gr.refl _) ?_
        simp only [pick_cons, pick_nil, nth_zero, nth_succ]
        repeat (go_big_quiet_step (fail))
        refine wpQuiet_nil (G.mt_force ?_)
        clear b1 hneP
        simp only [pick_cons, pick_nil, nth_zero, nth_succ]
        refine G.fc_step rfl (fun K hK => ?_)
        go_simp
        (with_reducible refine (TAK.out S (a, 0) w6 KR6.out HWS.out HS6.out hpl).mono ?_)
        rintro e w7 ⟨A7, c7, rfl, hr7, hb7, hk7⟩
        refine hK _ _ hk7.gr ?_
        clear hK K
        have HX7 := Lib.hid (hk7.blk HX6.out hgS); have HK7 : Hid (KeepB S wr w7) := Lib.hid (HK6.out.trans hk7 fun _ _ q => q); have HS7 := Lib.hid hb7; have HR7 := Lib.hid hr7
        clear hr7 hb7 hk7 HX6 HK6 HS6
        refine G.fc_nil (G.mt_end ?_)
        clear iM
        refine wpList_cpy byteT (by rfl) _ _ (by rfl) gi 0 32 32 (by rfl) A7 (tkB b 32 (a, 0)).length c7 ((tkB b 32 (a, 0)).map u8v) (by rfl) (by rw [List.length_map]) HR7.out.rd (one_bytes _) (InR.cells ⟨z32, 0, none, [], 0, 0⟩) _ HX7.out (by rw [InR.len rfl]; rcases tkB_len b 32 (a, 0) with q | q <;> rw [q] <;> simp) ?_
        intro w8 hw8 hg8
        simp only [Act.put, Array.set!_eq_setIfInBounds, List.setIfInBounds_toArray, List.set_cons_succ, List.set_cons_zero]
        have HX8 : Hid (Blk w8 gi 127 (InR.cells ⟨padH (tkB b 32 (a, 0)), 0, none, [], 0, 0⟩)) := Lib.hid (by have q := hw8.out; rw [pad_splice] at q; exact q)
        have HS8 := Lib.hid (HS7.out.grown hg8 (fun q => hgS (Option.some.inj q)))
        have hgr : wr.heap.size ≤ gi := Nat.le_of_eq HGI.out
        have HK8 := Lib.hid (HK7.out.new hg8 hgr)
        have hpd : (padH (tkB b 32 (a, 0))).length = 32 := padH_len
        clear hw8 hg8 HX7 HS7 HK7 HR7 KR6
        obtain ⟨PV, hPV⟩ : ∃ l, padH (tkB b 32 (a, 0)) = l := ⟨_, rfl⟩
        obtain ⟨q1, hq1⟩ : ∃ p, tkP b 32 (a, 0) = p := ⟨_, rfl⟩
        have hq1l : q1.1 ≤ L := by rw [← hq1, ← HLL.out]; exact tkP_le (by rw [HLL.out]; exact hpl)
        rw [hPV] at HX8 hpd
        rw [hq1] at HS8
        have HPV := Lib.hid hPV; have HQ1 := Lib.hid hq1
        clear hPV hq1
        -- the index
        obtain ⟨ix, hix⟩ : ∃ v : UInt32, v = UInt32.ofNat (nmV b 4 q1) := ⟨_, rfl⟩
        obtain ⟨V1, hV1⟩ : ∃ V, nmV b 4 q1 = V := ⟨_, rfl⟩
        have hvv : (V1 : Int) % 4294967296 = (ix.toNat : Int) := by rw [hix, hV1, UInt32.toNat_ofNat']; omega
        have hvw : IntKind.u32.wrap (V1 : Int) = (ix.toNat : Int) := by rw [IntKind.wrap_u32]; exact hvv
        have N1 := NUM.out PB S 4 q1 w8 (KRB.out _ HK8.out) HWS.out (PRB.out _ HK8.out) HS8.out hq1l (by omega) (by omega)
        obtain ⟨q2, hq2⟩ : ∃ p, tkP b 4 q1 = p := ⟨_, rfl⟩
        have hq2l : q2.1 ≤ L := by rw [← hq2, ← HLL.out]; exact tkP_le (by rw [HLL.out]; exact hq1l)
        rw [hV1, hq2] at N1
        have N1 := Lib.hid N1
        have HIX := Lib.hid hix; have HQ2 := Lib.hid hq2
        clear hix hV1 hq2
        go_upto_region 14 with (go_at_call 89; refine N1.out.mono ?_; rintro e w9 ⟨rfl, hb9, hk9⟩; have HX9 := Lib.hid (hk9.blk HX8.out hgS); have HK9 : Hid (KeepB S wr w9) := Lib.hid (HK8.out.trans hk9 fun _ _ q => q); have HS9 := Lib.hid hb9; have x32 := HX9.out.cell 32; have f32 := HX9.out.frozen 32; rw [(InR.cell32 _ hpd).1] at x32; clear hb9 hk9)
        obtain ⟨w10, hw10⟩ : ∃ w10, w10 = w9.setCell ⟨gi, 32, none⟩ (.int .u32 ix.toNat) := ⟨_, rfl⟩
        have HX10 : Hid (Blk w10 gi 127 (InR.cells ⟨PV, ix, none, [], 0, 0⟩)) := by rw [hw10]; exact Lib.hid (by have q := HX9.out.set_ 32 (u32v ix); rw [InR.set32 _ hpd] at q; exact q)
        have HS10 : Hid (Blk w10 S 187 (srcL A L c q2)) := by rw [hw10]; exact Lib.hid (HS9.out.far (fun q => hgS q.symm) _)
        have HK10 : Hid (KeepB S wr w10) := by rw [hw10]; exact Lib.hid (HK9.out.new (grown_set (grown_refl w9 _)) hgr)
        rw [← hw10]
        clear hw10 x32 f32 HX8 HS8 HK8 HX9 HS9 HK9 N1 hvv hvw
        -- the script
        have S1 := SCR.out S q2 w10 (KRB.out _ HK10.out) HWS.out HS10.out hq2l
        have hsl := scV_le b q2
        obtain ⟨sc, hsc⟩ : ∃ s, scV b q2 = s := ⟨_, rfl⟩
        obtain ⟨q3, hq3⟩ : ∃ p, scP b q2 = p := ⟨_, rfl⟩
        have hq3l : q3.1 ≤ L := by rw [← hq3, ← HLL.out]; exact scP_le (by rw [HLL.out]; exact hq2l)
        rw [hsc] at S1 hsl
        rw [hq3] at S1
        have S1 := Lib.hid S1
        have HSC := Lib.hid hsc; have HQ3 := Lib.hid hq3
        have pb := PRB.out _ HK10.out
        have hg10 := HX10.out.lt
        clear hsc hq3
        go_upto_region 15 with (go_at_call 92; refine S1.out.mono ?_; rintro e w11 ⟨v11, rfl, hown11, hb11, hk11⟩; obtain ⟨Av, cv, rfl, hcv1, hcv2, -⟩ := own_form hown11; have HX11 := Lib.hid (hk11.blk HX10.out hgS); have HK11 : Hid (KeepB S wr w11) := Lib.hid (HK10.out.trans hk11 fun _ _ q => q); have HS11 := Lib.hid hb11; have OW11 := Lib.hid hown11; have x33 := HX11.out.cell 33; have f33 := HX11.out.frozen 33; rw [(InR.cell32 _ hpd).2.1] at x33; clear hb11 hk11 hown11)
        obtain ⟨w12, hw12⟩ : ∃ w12, w12 = w11.setCell ⟨gi, 33, none⟩ (.slice Av sc.length cv) := ⟨_, rfl⟩
        have HX12 : Hid (Blk w12 gi 127 (InR.cells ⟨PV, ix, Av, sc, cv, 0⟩)) := by rw [hw12]; exact Lib.hid (by have q := HX11.out.set_ 33 (.slice Av sc.length cv); rw [InR.set33 _ hpd] at q; exact q)
        have HS12 : Hid (Blk w12 S 187 (srcL A L c q3)) := by rw [hw12]; exact Lib.hid (HS11.out.far (fun q => hgS q.symm) _)
        have HK12 : Hid (KeepB S wr w12) := by rw [hw12]; exact Lib.hid (HK11.out.new (grown_set (grown_refl w11 _)) hgr)
        have OW12 : Hid (w12.ownsRow w10.heap.size 5 1 (.slice Av sc.length cv) sc.length (sc.map u8v)) := by rw [hw12]; exact Lib.hid (ownsRow_setCell_below OW11.out (a := ⟨gi, 33, none⟩) hg10 _)
        rw [← hw12]
        clear hw12 x33 f33 HX10 HS10 HK10 HX11 HS11 HK11 OW11 S1 pb
        obtain ⟨B10, hB10⟩ : ∃ k, w10.heap.size = k := ⟨_, rfl⟩
        rw [hB10] at OW12 hg10
        clear hB10
        -- the sequence
        obtain ⟨sq, hsq⟩ : ∃ v : UInt32, v = UInt32.ofNat (nmV b 4 q3) := ⟨_, rfl⟩
        obtain ⟨V1, hV1⟩ : ∃ V, nmV b 4 q3 = V := ⟨_, rfl⟩
        have hvv : (V1 : Int) % 4294967296 = (sq.toNat : Int) := by rw [hsq, hV1, UInt32.toNat_ofNat']; omega
        have hvw : IntKind.u32.wrap (V1 : Int) = (sq.toNat : Int) := by rw [IntKind.wrap_u32]; exact hvv
        have N1 := NUM.out PB S 4 q3 w12 (KRB.out _ HK12.out) HWS.out (PRB.out _ HK12.out) HS12.out hq3l (by omega) (by omega)
        obtain ⟨q4, hq4⟩ : ∃ p, tkP b 4 q3 = p := ⟨_, rfl⟩
        have hq4l : q4.1 ≤ L := by rw [← hq4, ← HLL.out]; exact tkP_le (by rw [HLL.out]; exact hq3l)
        rw [hV1, hq4] at N1
        have N1 := Lib.hid N1
        have HSQ := Lib.hid hsq; have HQ4 := Lib.hid hq4
        clear hsq hV1 hq4
        go_upto_region 16 with (go_at_call 89; refine N1.out.mono ?_; rintro e w13 ⟨rfl, hb13, hk13⟩; have HX13 := Lib.hid (hk13.blk HX12.out hgS); have HK13 : Hid (KeepB S wr w13) := Lib.hid (HK12.out.trans hk13 fun _ _ q => q); have HS13 := Lib.hid hb13; have OW13 := Lib.hid (own_kx OW12.out hk13 (fun g q e => by have := (OW12.out.lt g q).1; have := Gr.out.hs.lt; omega)); have x34 := HX13.out.cell 34; have f34 := HX13.out.frozen 34; rw [(InR.cell32 _ hpd).2.2] at x34; clear hb13 hk13)
        obtain ⟨w14, hw14⟩ : ∃ w14, w14 = w13.setCell ⟨gi, 34, none⟩ (.int .u32 sq.toNat) := ⟨_, rfl⟩
        have HX14 : Hid (Blk w14 gi 127 (InR.cells ⟨PV, ix, Av, sc, cv, sq⟩)) := by rw [hw14]; exact Lib.hid (by have q := HX13.out.set_ 34 (u32v sq); rw [InR.set34 _ hpd] at q; exact q)
        have HS14 : Hid (Blk w14 S 187 (srcL A L c q4)) := by rw [hw14]; exact Lib.hid (HS13.out.far (fun q => hgS q.symm) _)
        have HK14 : Hid (KeepB S wr w14) := by rw [hw14]; exact Lib.hid (HK13.out.new (grown_set (grown_refl w13 _)) hgr)
        have OW14 : Hid (w14.ownsRow B10 5 1 (.slice Av sc.length cv) sc.length (sc.map u8v)) := by rw [hw14]; exact Lib.hid (ownsRow_setCell_below OW13.out (a := ⟨gi, 34, none⟩) hg10 _)
        rw [← hw14]
        clear hw14 x34 f34 HX12 HS12 HK12 HX13 HS13 HK13 OW12 OW13 N1 hvv hvw
        have G14 := Lib.hid (Gr.out.read HS14.out HK14.out)
        obtain ⟨x4, hx4⟩ : ∃ x : InR, (⟨PV, ix, Av, sc, cv, sq⟩ : InR) = x := ⟨_, rfl⟩
        have HX4 : Hid (x4.pl = (inS b (a, 0)).1 ∧ (inS b (a, 0)).2 = q4) := Lib.hid (by
          rw [← hx4]
          unfold inS InR.pl
          simp only [HQ1.out, HQ2.out, HQ3.out, HQ4.out, HPV.out, HIX.out, HSC.out, HSQ.out, and_self])
        obtain ⟨xs, hxs⟩ : ∃ xs, InA x4 xs := ⟨_, InA.of (by rw [← hx4]; exact hpd)⟩
        rw [hx4, ← hxs.l] at HX14
        have hxz := hxs.z; have hxn := hxs.n; have hxi := hxs.i
        have HXO := Lib.hid hxs.o
        have HXC : Hid (x4.prev.length = 32 ∧ (x4.sc.length ≤ x4.cap ∧ x4.cap ≤ maxLen) ∧ RdN (GX S T w0.heap.size vi (.slice none 0 0)) w14 x4.A (x4.sc.map u8v)) := Lib.hid (by
          rw [← hx4]
          refine ⟨hpd, ⟨hcv1, hcv2⟩, RdN.of_own OW14.out fun g hg q => ?_⟩
          have hz1 := Gr.out.hs.lt; have hz2 := Gr.out.ht.lt; have hz3 := HGI.out
          have hz4 := Gr.out.size
          rcases q with q | q | q | q | q
          · omega
          · omega
          · have := (Gr.out.iS g q).2; omega
          · cases q
          · omega)
        have HXL := Lib.hid hxs.l
        clear hx4 hxs HPV HQ1 HQ2 HQ3 HQ4 HIX HSC HSQ OW14 HS14 hcv1 hcv2 hsl
        have RX : Hid (w14.rangeAt gi 0 xs.toList) := Lib.hid (range_of HX14.out 0 xs.toList (by simp [List.take_of_length_le]))
        have t1 := G14.out.ht.cell 1
        try simp only [List.getElem?_cons_succ, List.getElem?_cons_zero] at t1
        have hsz14 := G14.out.size
        obtain ⟨Avi, cvi, rfl, -, -, -⟩ := own_form G14.out.oi
        have hdl1 : ds.length ≤ 1000 := by have := HDL.out; omega
        go_wp2_with (first
          | ((with_reducible refine load_partg gi 0 xs (Eq.trans ?_ rfl) RX.out _ Tryd.underlying127 rfl hxi rfl ?_); rfl)
          | ((with_reducible refine list_build1h inT xs hxz (by omega) (Eq.trans ?_ rfl) ?_); rfl)
          | (at_builtin; refine wpList_app inT (by rfl) _ _ (by rfl) w0.heap.size _ ds.length _ (by rfl) (G14.out.oi.alloc _) _ 1 1 xs.toList (by rfl) (by rw [Array.length_toList, hxz]) (by simpa using Rd.new w14 xs.toList 127) HXO.out (by omega) (by unfold maxLen; omega) (by simp; omega) ?_; intro v15 w15 own15 hg15 hat15; obtain ⟨Aw, cw, rfl, -, -, -⟩ := own_form own15; have HT15 := (G14.out.ht.alloc (.cells xs 127)).grown hg15 (fun q => absurd (G14.out.iS T q).1 (by have := G14.out.st.2.2.1; omega)); have t15 := HT15.cell 1; have f15 := HT15.frozen 1; simp only [List.getElem?_cons_succ, List.getElem?_cons_zero] at t15; have Own15 := Lib.hid own15; have Gg15 := Lib.hid hg15; have At15 := Lib.hid hat15; clear own15 hg15 hat15 HT15))
        have GN : Hid (GSt S T w0.heap.size w0 (w15.setCell ⟨T, 1, none⟩ (.slice Aw (ds.length + 1) cw)) (srcL A L c q4) ver (.slice Aw (ds.length + 1) cw) (ds ++ [x4]) (.slice none 0 0) []) := Lib.hid (by
          have o2 := Own15.out
          rw [HXL.out] at o2
          exact (G14.out.keep (keep_new _ _)).inp o2 Gg15.out (At15.out.imp id fun e => ⟨_, e, Nat.le_refl _⟩) ⟨HXC.out.1, HXC.out.2.1, HXC.out.2.2.kx (Y := fun _ => False) (KeepX.of (keep_new _ _)) (fun _ _ q => q.elim) (fun _ _ q => q)⟩)
        have HIe : Hid (insS b n p3 = ((ds ++ [x4]).map InR.pl ++ (insS b (n - (i + 1)) q4).1, (insS b (n - (i + 1)) q4).2)) := Lib.hid (by
          rw [HIn.out, HX4.out.2]
          have e : InR.pl (inS b (a, 0)).1 = x4.pl := by rw [HX4.out.1]; rfl
          simp [e])
        clear Own15 Gg15 At15 HXC HXL HXO t15 f15 t1 RX HIn HX4
        go_roundw
        case rel => exact ⟨i + 1, q4, _, ds ++ [x4], by omega, by go_num, by rw [List.length_append, HDL.out]; rfl, hq4l, GN, HIe⟩
        case measure => simp [intOf]; omega
    case rest =>
      obtain ⟨rfl, vi, ds, G5, HDS, hdl⟩ := hcut
      have hI5 : (insS b n p3).2.1 ≤ L := by rw [← HLL.out]; exact insS_le n (by rw [HLL.out]; exact hl3)
      clear G4 HI0
      generalize insS b n p3 = IR at *
      obtain ⟨is, p5⟩ := IR
      simp only at G5 HDS hI5 HRR
      have pb := PBC.out _ _ _ _ _ _ _ G5.out
      have C2 := Lib.hid (CNT.out S p5 wc (KW.out _ _ _ _ _ _ _ G5.out) HWS.out G5.out.hs hI5)
      obtain ⟨m, hm⟩ : ∃ m, ctV b 1000 p5 = m := ⟨_, rfl⟩
      obtain ⟨p6, hp6⟩ : ∃ p, ctP b 1000 p5 = p := ⟨_, rfl⟩
      have hm1000 : m ≤ 1000 := by rw [← hm]; exact ctV_le _ _ _
      have hl6 : p6.1 ≤ L := by rw [← hp6, ← HLL.out]; exact ctP_le (by rw [HLL.out]; exact hI5)
      rw [hm, hp6] at C2 HRR
      clear hm hp6
      go_upto_region 18 with (go_at_call 91; refine C2.out.mono ?_; rintro e w3 ⟨rfl, hb3, hk3⟩; have G6 := Lib.hid (G5.out.read hb3 hk3); clear hb3 hk3)
      clear pb C2 G5
      have HO0 : Hid (outsS b m p6 = (([] : List OutR).map OutR.pl ++ (outsS b (m - 0) p6).1, (outsS b (m - 0) p6).2)) := Lib.hid (by simp)
      have HDLI := Lib.hid hdl
      go_upto_block 2 with fail
      go_cut [11] (fun v wx => v = .int .i64 m ∧ ∃ (vo : Value) (es : List OutR), Hid (GSt S T w0.heap.size w0 wx (srcL A L c (outsS b m p6).2) ver vi ds vo es) ∧ Hid (es.map OutR.pl = (outsS b m p6).1) ∧ es.length ≤ 1000)
      case first =>
        go_wp2_with fail
        go_loopw [12] (fun x wr => ∃ (i : Nat) (p : SP) (vo : Value) (es : List OutR), i ≤ m ∧ x = .int .i64 i ∧ es.length = i ∧ p.1 ≤ L ∧ Hid (GSt S T w0.heap.size w0 wr (srcL A L c p) ver vi ds vo es) ∧ Hid (outsS b m p6 = (es.map OutR.pl ++ (outsS b (m - i) p).1, (outsS b (m - i) p).2))) (fun x _ => m - (intOf x).toNat)
        case atStart => exact ⟨0, p6, .slice none 0 0, [], Nat.zero_le _, rfl, rfl, hl6, G6, HO0⟩
        case round =>
          obtain ⟨i, p, vo, es, hi, rfl, hdl2, hpl, Gr, HIr⟩ := hrel
          obtain ⟨a, e0⟩ := p
          have HDL := Lib.hid hdl2
          have pb := PBC.out _ _ _ _ _ _ _ Gr.out
          have s2 := Gr.out.hs.cell 2
          try simp only [List.getElem?_cons_succ, List.getElem?_cons_zero] at s2
          clear hdl2
          by_cases hlt : i < m
          case neg =>
            obtain rfl : i = m := by omega
            have d1 : ¬ (i : Int) < i := by omega
            have hE := HIr.out
            rw [Nat.sub_self] at hE
            have HE : Hid (outsS b i p6 = (es.map OutR.pl, (a, e0))) := Lib.hid (by rw [hE]; simp [outsS])
            clear hE HIr
            go_wp2_with fail
            go_meet
            exact ⟨rfl, vo, es, by rw [HE.out]; exact Gr, Lib.hid (by rw [HE.out]), by rw [HDL.out]; omega⟩
          by_cases h0 : e0 = 0
          case neg =>
            have d1 : (i : Int) < m := by omega
            have d2 : (e0 == 0) = false := by rw [beq_eq_false_iff_ne]; exact h0
            have HE : Hid (outsS b m p6 = (es.map OutR.pl, (a, e0))) := Lib.hid (by rw [HIr.out, outsS_err b _ h0]; simp)
            clear HIr h0
            go_wp2_with fail
            go_meet
            exact ⟨rfl, vo, es, by rw [HE.out]; exact Gr, Lib.hid (by rw [HE.out]), by rw [HDL.out]; omega⟩
          subst h0
          have d1 : (i : Int) < m := by omega
          have HIn : Hid (outsS b m p6 = ((es ++ [(outS b (a, 0)).1]).map OutR.pl ++ (outsS b (m - (i + 1)) (outS b (a, 0)).2).1, (outsS b (m - (i + 1)) (outS b (a, 0)).2).2)) := Lib.hid (by
            rw [HIr.out, show m - i = (m - (i + 1)) + 1 by omega]
            show _ = _
            rw [outsS, if_pos rfl]
            simp [OutR.pl, outS])
          have KR := Lib.hid (KW.out _ _ _ _ _ _ _ Gr.out)
          have PBR := Lib.hid pb
          have KRB : Hid (∀ y, KeepB S wr y → Keep w y) := Lib.hid fun y k => k.keep KR.out fun j q => by have := HWS.out; omega
          have PRB : Hid (∀ y, KeepB S wr y → y.cell? ⟨PB, 0, none⟩ = some (.pointer (some ⟨S, 0, none⟩))) := Lib.hid fun y k => k.cell PBR.out (by omega)
          clear HIr PBR
          go_upto_region 22 with fail
          obtain ⟨w5, hw5⟩ : ∃ w5, w5 = wr.alloc (.cells #[.int .u64 0, .slice none 0 0] 128) := ⟨_, rfl⟩
          have HX5 : Hid (Blk w5 wr.heap.size 128 [.int .u64 0, .slice none 0 0]) := by rw [hw5]; exact Lib.hid (Blk.new wr 128 [.int .u64 0, .slice none 0 0])
          have HK5 : Hid (KeepB S wr w5) := by rw [hw5]; exact Lib.hid (KeepX.of (keep_new _ _))
          have HS5 : Hid (Blk w5 S 187 (srcL A L c (a, 0))) := by rw [hw5]; exact Lib.hid (Gr.out.hs.alloc _)
          have hgS : wr.heap.size ≠ S := by have := Gr.out.hs.lt; omega
          rw [← hw5]
          clear hw5 pb s2 KR
          obtain ⟨gi, hgi⟩ : ∃ g, wr.heap.size = g := ⟨_, rfl⟩
          have HGI := Lib.hid hgi
          have hgr : wr.heap.size ≤ gi := Nat.le_of_eq hgi
          rw [hgi] at HX5 hgS
          simp only [hgi]
          clear hgi
          -- the value
          obtain ⟨V1, hV1⟩ : ∃ V, nmV b 8 (a, 0) = V := ⟨_, rfl⟩
          have hV64 : V1 < 2 ^ 64 := by rw [← hV1]; exact numN_lt8 _ _
          have N1 := NUM.out PB S 8 (a, 0) w5 (KRB.out _ HK5.out) HWS.out (PRB.out _ HK5.out) HS5.out hpl (by omega) (by omega)
          obtain ⟨q2, hq2⟩ : ∃ p, tkP b 8 (a, 0) = p := ⟨_, rfl⟩
          have hq2l : q2.1 ≤ L := by rw [← hq2, ← HLL.out]; exact tkP_le (by rw [HLL.out]; exact hpl)
          rw [hV1, hq2] at N1
          have N1 := Lib.hid N1
          have HV1 := Lib.hid hV1; have HQ2 := Lib.hid hq2
          clear hV1 hq2
          go_upto_region 23 with (go_at_call 89; refine N1.out.mono ?_; rintro e w9 ⟨rfl, hb9, hk9⟩; have HX9 := Lib.hid (hk9.blk HX5.out hgS); have HK9 : Hid (KeepB S wr w9) := Lib.hid (HK5.out.trans hk9 fun _ _ q => q); have HS9 := Lib.hid hb9; have x32 := HX9.out.cell 0; have f32 := HX9.out.frozen 0; try simp only [List.getElem?_cons_zero] at x32; clear hb9 hk9)
          obtain ⟨w10, hw10⟩ : ∃ w10, w10 = w9.setCell ⟨gi, 0, none⟩ (.int .u64 V1) := ⟨_, rfl⟩
          have HX10 : Hid (Blk w10 gi 128 [.int .u64 V1, .slice none 0 0]) := by rw [hw10]; exact Lib.hid (HX9.out.set_ 0 _)
          have HS10 : Hid (Blk w10 S 187 (srcL A L c q2)) := by rw [hw10]; exact Lib.hid (HS9.out.far (fun q => hgS q.symm) _)
          have HK10 : Hid (KeepB S wr w10) := by rw [hw10]; exact Lib.hid (HK9.out.new (grown_set (grown_refl w9 _)) hgr)
          rw [← hw10]
          clear hw10 x32 f32 HX5 HS5 HK5 HX9 HS9 HK9 N1
          -- the script
          have S1 := SCR.out S q2 w10 (KRB.out _ HK10.out) HWS.out HS10.out hq2l
          obtain ⟨sc, hsc⟩ : ∃ s, scV b q2 = s := ⟨_, rfl⟩
          obtain ⟨q3, hq3⟩ : ∃ p, scP b q2 = p := ⟨_, rfl⟩
          have hq3l : q3.1 ≤ L := by rw [← hq3, ← HLL.out]; exact scP_le (by rw [HLL.out]; exact hq2l)
          rw [hsc, hq3] at S1
          have S1 := Lib.hid S1
          have HSC := Lib.hid hsc; have HQ3 := Lib.hid hq3
          have pb := PRB.out _ HK10.out
          have hg10 := HX10.out.lt
          clear hsc hq3
          go_upto_region 24 with (go_at_call 92; refine S1.out.mono ?_; rintro e w11 ⟨v11, rfl, hown11, hb11, hk11⟩; obtain ⟨Av, cv, rfl, hcv1, hcv2, -⟩ := own_form hown11; have HX11 := Lib.hid (hk11.blk HX10.out hgS); have HK11 : Hid (KeepB S wr w11) := Lib.hid (HK10.out.trans hk11 fun _ _ q => q); have HS11 := Lib.hid hb11; have OW11 := Lib.hid hown11; have x33 := HX11.out.cell 1; have f33 := HX11.out.frozen 1; try simp only [List.getElem?_cons_succ, List.getElem?_cons_zero] at x33; clear hb11 hk11 hown11)
          obtain ⟨w14, hw14⟩ : ∃ w14, w14 = w11.setCell ⟨gi, 1, none⟩ (.slice Av sc.length cv) := ⟨_, rfl⟩
          have HX14 : Hid (Blk w14 gi 128 [.int .u64 V1, .slice Av sc.length cv]) := by rw [hw14]; exact Lib.hid (HX11.out.set_ 1 _)
          have HS14 : Hid (Blk w14 S 187 (srcL A L c q3)) := by rw [hw14]; exact Lib.hid (HS11.out.far (fun q => hgS q.symm) _)
          have HK14 : Hid (KeepB S wr w14) := by rw [hw14]; exact Lib.hid (HK11.out.new (grown_set (grown_refl w11 _)) hgr)
          have OW14 : Hid (w14.ownsRow w10.heap.size 5 1 (.slice Av sc.length cv) sc.length (sc.map u8v)) := by rw [hw14]; exact Lib.hid (ownsRow_setCell_below OW11.out (a := ⟨gi, 1, none⟩) hg10 _)
          rw [← hw14]
          clear hw14 x33 f33 HX10 HS10 HK10 HX11 HS11 HK11 OW11 S1 pb
          obtain ⟨B10, hB10⟩ : ∃ k, w10.heap.size = k := ⟨_, rfl⟩
          rw [hB10] at OW14 hg10
          clear hB10
          have G14 := Lib.hid (Gr.out.read HS14.out HK14.out)
          obtain ⟨x4, hx4⟩ : ∃ x : OutR, (⟨V1, Av, sc, cv⟩ : OutR) = x := ⟨_, rfl⟩
          have HX4 : Hid (x4.pl = (outS b (a, 0)).1 ∧ (outS b (a, 0)).2 = q3) := Lib.hid (by
            rw [← hx4]
            unfold outS OutR.pl
            simp only [HQ2.out, HQ3.out, HV1.out, HSC.out, and_self])
          have HXC : Hid (x4.val < 2 ^ 64 ∧ (x4.sc.length ≤ x4.cap ∧ x4.cap ≤ maxLen) ∧ RdN (GX S T w0.heap.size vi vo) w14 x4.A (x4.sc.map u8v)) := Lib.hid (by
            rw [← hx4]
            refine ⟨hV64, ⟨hcv1, hcv2⟩, RdN.of_own OW14.out fun g hg q => ?_⟩
            have hz1 := Gr.out.hs.lt; have hz2 := Gr.out.ht.lt; have hz3 := HGI.out
            have hz4 := Gr.out.size
            rcases q with q | q | q | q | q
            · omega
            · omega
            · have := (Gr.out.iS g q).2; omega
            · have := (Gr.out.oS g q).2; omega
            · omega)
          have HXL : Hid ([.int .u64 V1, .slice Av sc.length cv] = x4.cells) := Lib.hid (by rw [← hx4]; rfl)
          clear hx4 HQ2 HQ3 HV1 HSC OW14 HS14 hcv1 hcv2
          have x0 := HX14.out.cell 0; have x1 := HX14.out.cell 1
          have t1 := G14.out.ht.cell 2
          try simp only [List.getElem?_cons_succ, List.getElem?_cons_zero] at t1 x0 x1
          have hsz14 := G14.out.size
          obtain ⟨Avi, cvi, rfl, -, -, -⟩ := own_form G14.out.oo
          have hdl1 : es.length ≤ 1000 := by have := HDL.out; omega
          go_wp2_with (at_builtin; refine wpList_app outT (by rfl) _ _ (by rfl) w0.heap.size _ es.length _ (by rfl) (G14.out.oo.alloc _) _ 1 1 [.int .u64 V1, .slice Av sc.length cv] (by rfl) (by rfl) (Rd.new _ _ _) (by simp [Value.oneCell']) (by omega) (by unfold maxLen; omega) (by simp; omega) ?_; intro v15 w15 own15 hg15 hat15; obtain ⟨Aw, cw, rfl, -, -, -⟩ := own_form own15; have HT15 := (G14.out.ht.alloc (.cells #[.int .u64 V1, .slice Av sc.length cv] 128)).grown hg15 (fun q => absurd (G14.out.oS T q).1 (by have := G14.out.st.2.2.1; omega)); have t15 := HT15.cell 2; have f15 := HT15.frozen 2; simp only [List.getElem?_cons_succ, List.getElem?_cons_zero] at t15; have Own15 := Lib.hid own15; have Gg15 := Lib.hid hg15; have At15 := Lib.hid hat15; clear own15 hg15 hat15 HT15)
          have GN : Hid (GSt S T w0.heap.size w0 (w15.setCell ⟨T, 2, none⟩ (.slice Aw (es.length + 1) cw)) (srcL A L c q3) ver vi ds (.slice Aw (es.length + 1) cw) (es ++ [x4])) := Lib.hid (by
            have o2 := Own15.out
            rw [HXL.out] at o2
            exact (G14.out.keep (keep_new _ _)).outp o2 Gg15.out (At15.out.imp id fun e => ⟨_, e, Nat.le_refl _⟩) ⟨HXC.out.1, HXC.out.2.1, HXC.out.2.2.kx (Y := fun _ => False) (KeepX.of (keep_new _ _)) (fun _ _ q => q.elim) (fun _ _ q => q)⟩)
          have HIe : Hid (outsS b m p6 = ((es ++ [x4]).map OutR.pl ++ (outsS b (m - (i + 1)) q3).1, (outsS b (m - (i + 1)) q3).2)) := Lib.hid (by
            rw [HIn.out, HX4.out.2]
            have e : OutR.pl (outS b (a, 0)).1 = x4.pl := by rw [HX4.out.1]; rfl
            simp [e])
          clear Own15 Gg15 At15 HXC HXL t15 f15 t1 x0 x1 HIn HX4
          go_roundw
          case rel => exact ⟨i + 1, q3, _, es ++ [x4], by omega, by go_num, by rw [List.length_append, HDL.out]; rfl, hq3l, GN, HIe⟩
          case measure => simp [intOf]; omega
      case rest =>
        obtain ⟨rfl, vo, es, G7, HES, hel⟩ := hcut
        clear HO0 G6
        have hO7 : (outsS b m p6).2.1 ≤ L := by rw [← HLL.out]; exact outsS_le m (by rw [HLL.out]; exact hl6)
        generalize outsS b m p6 = OR at *
        obtain ⟨os, p7⟩ := OR
        simp only at G7 HES hO7 HRR
        obtain ⟨V7, hV7⟩ : ∃ V, nmV b 4 p7 = V := ⟨_, rfl⟩
        obtain ⟨lock, hlk⟩ : ∃ v : UInt32, v = UInt32.ofNat V7 := ⟨_, rfl⟩
        have hvv : (V7 : Int) % 4294967296 = (lock.toNat : Int) := by rw [hlk, UInt32.toNat_ofNat']; omega
        have hvw : IntKind.u32.wrap (V7 : Int) = (lock.toNat : Int) := by rw [IntKind.wrap_u32]; exact hvv
        have N7 := NUM.out PB S 4 p7 _ (KW.out _ _ _ _ _ _ _ G7.out) HWS.out (PBC.out _ _ _ _ _ _ _ G7.out) G7.out.hs hO7 (by omega) (by omega)
        obtain ⟨p8, hp8⟩ : ∃ p, tkP b 4 p7 = p := ⟨_, rfl⟩
        rw [hV7, hp8] at N7 HRR
        rw [← hlk] at HRR
        have N7 := Lib.hid N7
        have pb := PBC.out _ _ _ _ _ _ _ G7.out
        clear hp8 hlk hV7
        go_upto_region 26 with (go_at_call 89; refine N7.out.mono ?_; rintro e w1 ⟨rfl, hb1, hk1⟩; have G8 := Lib.hid (G7.out.read hb1 hk1); have t3 := G8.out.ht.cell 3; have f3 := G8.out.ht.frozen 3; try simp only [List.getElem?_cons_succ, List.getElem?_cons_zero] at t3; clear hb1 hk1)
        obtain ⟨iA, ic, rfl, hic1, hic2, -⟩ := own_form G8.out.oi
        obtain ⟨oA, oc, rfl, hoc1, hoc2, -⟩ := own_form G8.out.oo
        obtain ⟨w9, hw9⟩ : ∃ w9, w9 = w1.setCell ⟨T, 3, none⟩ (.int .u32 lock.toNat) := ⟨_, rfl⟩
        have HT9 : Hid (Blk w9 T 48 [u32v ver, .slice iA ds.length ic, .slice oA es.length oc, u32v lock]) := by rw [hw9]; exact Lib.hid (G8.out.ht.set_ 3 _)
        have HS9 : Hid (Blk w9 S 187 (srcL A L c p8)) := by rw [hw9]; exact Lib.hid (G8.out.hs.far (by simp <;> omega) _)
        have HZ8 : Hid (Blk w1 r 48 [.int .u32 0, .slice none 0 0, .slice none 0 0, .int .u32 0]) := Lib.hid (HZ0.out.kx G8.out.kx (by rintro (q | q) <;> omega))
        have HZ9 : Hid (Blk w9 r 48 [.int .u32 0, .slice none 0 0, .slice none 0 0, .int .u32 0]) := by rw [hw9]; exact Lib.hid (HZ8.out.far (by simp <;> omega) _)
        have HK9 : Hid (KeepX (fun k => k = T ∨ k = r) w1 w9) := by rw [hw9]; exact Lib.hid ((KeepB.set (KeepX.of (Below.refl _ _)) 3 _ : KeepX (fun k => k = T) _ _).wide fun _ q => .inl q)
        have HPB : Hid (w9.cell? ⟨PB, 0, none⟩ = some (.pointer (some ⟨S, 0, none⟩))) := Lib.hid (HK9.out.cell (PBC.out _ _ _ _ _ _ _ G8.out) (by rintro (q | q) <;> omega))
        have HK1 : Hid (Keep w w1) := Lib.hid (KW.out _ _ _ _ _ _ _ G8.out)
        rw [← hw9]
        clear hw9 t3 f3 pb N7 NUM CNT SCR TAK KW PBC HZ0 hvv hvw
        obtain ⟨a8, e8⟩ := p8
        have pb := HPB.out
        have s1 := HS9.out.cell 1; have s2 := HS9.out.cell 2
        try simp only [List.getElem?_cons_succ, List.getElem?_cons_zero] at s1 s2
        have hrT : r ≠ T := by omega
        have hrS : r ≠ S := by omega
        have hrP : r ≠ PB := by omega
        by_cases h8 : e8 = 0
        · subst h8
          have d1 : ((0 : Int) != 0) = false := rfl
          have hR := HRR.out
          rw [if_pos rfl] at hR
          simp only at hR
          obtain ⟨R1, R2, R3⟩ := R
          obtain ⟨hR1, hR2, hR3⟩ : R1 = ⟨ver, none, is, 0, none, os, 0, lock⟩ ∧ R2 = a8 ∧ R3 = 0 := by cases hR; exact ⟨rfl, rfl, rfl⟩
          subst hR2 hR3
          have HR1 := Lib.hid hR1
          clear hR hR1 HRR
          go_upto_region 28 with fail
          letI iM : G.Mk := ⟨some r⟩
          refine G.wp_region_tree (.take [0,1,2,3,4] (.force [5] (.take [6,7] .done))) [] (by kernel_rfl) (by kernel_rfl) (fun wa ka => ?_)
          have hneT : G.Mk.m ≠ some T := fun q => hrT (Option.some.inj q)
          have hneS : G.Mk.m ≠ some S := fun q => hrS (Option.some.inj q)
          have hneP : G.Mk.m ≠ some PB := fun q => hrP (Option.some.inj q)
          have HTa := Lib.hid (HT9.out.keep ka); have HSa := Lib.hid (HS9.out.keep ka); have HZa := Lib.hid (HZ9.out.keep ka)
          have HKa : Hid (KeepX (fun k => k = T ∨ k = r) w1 wa) := Lib.hid (HK9.out.trans (KeepX.of ka) fun _ _ q => q)
          have b0 := G.aftG_cell (keep_cell ka HPB.out) hneP
          have b1 := G.aftG_cell (HSa.out.cell 1) hneS
          have b2 := G.aftG_cell (HTa.out.cell 0) hneT; have b3 := G.aftG_cell (HTa.out.cell 1) hneT; have b4 := G.aftG_cell (HTa.out.cell 2) hneT; have b5 := G.aftG_cell (HTa.out.cell 3) hneT
          clear ka HT9 HS9 HZ9 HK9 HPB pb s1 s2
          refine G.mt_take wa (G.Gr.refl _) ?_
          simp only [pick_cons, pick_nil, nth_zero, nth_succ]
          repeat (go_big_quiet_step (fail))
          refine wpQuiet_nil (G.mt_force ?_)
          clear b0 b1 b2 b3 b4 b5 hneT hneS hneP
          simp only [pick_cons, pick_nil, nth_zero, nth_succ]
          refine G.fc_step rfl (fun K hK => ?_)
          have z0 := HZa.out.cell 0; have z1 := HZa.out.cell 1; have z2 := HZa.out.cell 2; have z3 := HZa.out.cell 3
          have y0 := HZa.out.frozen 0; have y1 := HZa.out.frozen 1; have y2 := HZa.out.frozen 2; have y3 := HZa.out.frozen 3
          simp only [List.getElem?_cons_succ, List.getElem?_cons_zero] at z0 z1 z2 z3
          go_simp
          refine hK _ _ (show G.Gr wa _ from grown_set (grown_set (grown_set (grown_set (grown_refl wa _))))) ?_
          clear hK K z0 z1 z2 z3 y0 y1 y2 y3
          obtain ⟨wb, hwb⟩ : ∃ wb, wb = (((wa.setCell ⟨r, 0, none⟩ (u32v ver)).setCell ⟨r, 1, none⟩ (.slice iA ds.length ic)).setCell ⟨r, 2, none⟩ (.slice oA es.length oc)).setCell ⟨r, 3, none⟩ (u32v lock) := ⟨_, rfl⟩
          have HBB : Hid (Blk wb r 48 [u32v ver, .slice iA ds.length ic, .slice oA es.length oc, u32v lock]) := by rw [hwb]; exact Lib.hid ((((HZa.out.set_ 0 _).set_ 1 _).set_ 2 _).set_ 3 _)
          have HGB : Hid (wa.grownBy wb (some r)) := by rw [hwb]; exact Lib.hid (grown_set (grown_set (grown_set (grown_set (grown_refl wa _)))))
          rw [← hwb]
          clear hwb
          refine G.fc_nil (G.mt_take _ (G.Gr.refl _) ?_)
          simp only [pick_cons, pick_nil, nth_zero, nth_succ]
          repeat (go_big_quiet_step (fail))
          refine wpQuiet_nil (G.mt_end ?_)
          clear iM
          go_wp2_with fail
          have HKb : Hid (KeepX (fun k => k = T ∨ k = r) w1 wb) := Lib.hid (HKa.out.grown HGB.out fun j _ q => by cases q; exact .inr rfl)
          exact bodyPost_ret (v := .tuple #[.agg #[u32v ver, .slice iA ds.length ic, .slice oA es.length oc, u32v lock], iv R2, iv 0]) (results_cell_tmp_tmp Tryd.results75 _ _ r _ _ _ _ rfl HBB.out Tryd.underlying48 rfl tx_info) rfl
            ⟨⟨ver, iA, ds, ic, oA, es, oc, lock⟩, rfl, by rw [HR1.out]; unfold TxR.pl; simp only [HES.out, HDS.out], ⟨(G8.out.tx HZ8.out (by omega) HKb.out ⟨hic1, hic2⟩ ⟨hoc1, hoc2⟩).1, fun W hm => (G8.out.tx HZ8.out (by omega) HKb.out ⟨hic1, hic2⟩ ⟨hoc1, hoc2⟩).2 W ⟨trivial, fun k h1 h2 => hm.2 k (by have := HWS.out; have := HRW.out; have := G8.out.st; omega) h2⟩⟩, HDLI.out, hel, HKb.out.keep HK1.out (fun j q => by have := HWS.out; have := HRW.out; rcases q with q | q <;> omega)⟩
        · have d1 : (e8 != 0) = true := by rw [bne_iff_ne]; exact h8
          have hR := HRR.out
          rw [if_neg h8] at hR
          subst hR
          clear HRR h8
          go_upto_region 27 with fail
          letI iM : G.Mk := ⟨some r⟩
          refine G.wp_region_tree (.take [0,1,2,3,4] (.force [5] (.take [6,7] .done))) [] (by kernel_rfl) (by kernel_rfl) (fun wa ka => ?_)
          have hneS : G.Mk.m ≠ some S := fun q => hrS (Option.some.inj q)
          have hneP : G.Mk.m ≠ some PB := fun q => hrP (Option.some.inj q)
          have HSa := Lib.hid (HS9.out.keep ka); have HZa := Lib.hid (HZ9.out.keep ka)
          have HKa : Hid (KeepX (fun k => k = T ∨ k = r) w1 wa) := Lib.hid (HK9.out.trans (KeepX.of ka) fun _ _ q => q)
          have b0 := G.aftG_cell (keep_cell ka HPB.out) hneP
          have b1 := G.aftG_cell (HSa.out.cell 2) hneS
          clear ka HT9 HS9 HZ9 HK9 HPB pb s1 s2
          refine G.mt_take wa (G.Gr.refl _) ?_
          simp only [pick_cons, pick_nil, nth_zero, nth_succ]
          repeat (go_big_quiet_step (fail))
          refine wpQuiet_nil (G.mt_force ?_)
          clear b0 b1 hneS hneP
          simp only [pick_cons, pick_nil, nth_zero, nth_succ]
          refine G.fc_step rfl (fun K hK => ?_)
          have z0 := HZa.out.cell 0; have z1 := HZa.out.cell 1; have z2 := HZa.out.cell 2; have z3 := HZa.out.cell 3
          have y0 := HZa.out.frozen 0; have y1 := HZa.out.frozen 1; have y2 := HZa.out.frozen 2; have y3 := HZa.out.frozen 3
          simp only [List.getElem?_cons_succ, List.getElem?_cons_zero] at z0 z1 z2 z3
          go_simp
          refine hK _ _ (show G.Gr wa _ from grown_set (grown_set (grown_set (grown_set (grown_refl wa _))))) ?_
          clear hK K z0 z1 z2 z3 y0 y1 y2 y3
          obtain ⟨wb, hwb⟩ : ∃ wb, wb = (((wa.setCell ⟨r, 0, none⟩ (.int .u32 0)).setCell ⟨r, 1, none⟩ (.slice none 0 0)).setCell ⟨r, 2, none⟩ (.slice none 0 0)).setCell ⟨r, 3, none⟩ (.int .u32 0) := ⟨_, rfl⟩
          have HBB : Hid (Blk wb r 48 [.int .u32 0, .slice none 0 0, .slice none 0 0, .int .u32 0]) := by rw [hwb]; exact Lib.hid ((((HZa.out.set_ 0 _).set_ 1 _).set_ 2 _).set_ 3 _)
          have HGB : Hid (wa.grownBy wb (some r)) := by rw [hwb]; exact Lib.hid (grown_set (grown_set (grown_set (grown_set (grown_refl wa _)))))
          rw [← hwb]
          clear hwb
          refine G.fc_nil (G.mt_take _ (G.Gr.refl _) ?_)
          simp only [pick_cons, pick_nil, nth_zero, nth_succ]
          repeat (go_big_quiet_step (fail))
          refine wpQuiet_nil (G.mt_end ?_)
          clear iM
          go_wp2_with fail
          have HKb : Hid (KeepX (fun k => k = T ∨ k = r) w1 wb) := Lib.hid (HKa.out.grown HGB.out fun j _ q => by cases q; exact .inr rfl)
          exact bodyPost_ret (v := .tuple #[.agg #[.int .u32 0, .slice none 0 0, .slice none 0 0, .int .u32 0], iv 0, iv e8]) (results_cell_tmp_tmp Tryd.results75 _ _ r _ _ _ _ rfl HBB.out Tryd.underlying48 rfl tx_info) rfl
            ⟨txZ, rfl, rfl, ⟨txZ_at _, fun W _ => txZ_at W⟩, Nat.zero_le _, Nat.zero_le _, HKb.out.keep HK1.out (fun j q => by have := HWS.out; have := HRW.out; rcases q with q | q <;> omega)⟩
end Go.Proofs.YtffpanlpbdnafaaDoor

/- wire.Name and wire.Kind. (printed by gen_vr.py) -/
set_option linter.unusedSimpArgs false
set_option linter.unusedVariables false
namespace Go.Proofs.YtffpanlpbdnafaaDoor
open Go.RowKit
attribute [local go_sem ↓] Go.wp_at_zero Go.wp_at_succ
def nameL (k : Int) : List UInt8 :=
  if k = 0 then [118, 101, 114, 115, 105, 111, 110] else if k = 1 then [118, 101, 114, 97, 99, 107] else if k = 2 then [112, 105, 110, 103] else if k = 3 then [112, 111, 110, 103] else if k = 4 then [103, 101, 116, 104, 101, 97, 100, 101, 114, 115] else if k = 5 then [104, 101, 97, 100, 101, 114, 115] else if k = 6 then [105, 110, 118] else if k = 7 then [103, 101, 116, 100, 97, 116, 97] else if k = 8 then [110, 111, 116, 102, 111, 117, 110, 100] else if k = 9 then [109, 101, 114, 107, 108, 101, 98, 108, 111, 99, 107] else if k = 10 then [116, 120] else []
def kindF (s : List UInt8) : Nat → Nat → Nat × Bool
  | 0, _ => (0, false)
  | f + 1, k => if nameL k = s then (k, true) else kindF s f (k + 1)
def kindN (s : List UInt8) : Nat × Bool := kindF s 11 0
theorem nameL_out {k : Int} (h : ¬ (0 ≤ k ∧ k < 11)) : nameL k = [] := by
  unfold nameL
  repeat rw [if_neg (by omega)]
theorem nameL_in : ∀ k : Fin 11, nameL ((k.val : Nat) : Int) ≠ [] := by decide
theorem nameL_inj : ∀ k j : Fin 11, nameL ((k.val : Nat) : Int) = nameL ((j.val : Nat) : Int) → k = j := by decide
theorem nameL_ne {k : Int} (h : 0 ≤ k ∧ k < 11) : nameL k ≠ [] := by
  have q := nameL_in ⟨k.toNat, by omega⟩
  rwa [show ((k.toNat : Nat) : Int) = k from by omega] at q
theorem nameL_eq {k j : Int} (h : 0 ≤ k ∧ k < 11) : nameL k = nameL j ↔ k = j := by
  refine ⟨fun e => ?_, fun e => by rw [e]⟩
  by_cases hj : 0 ≤ j ∧ j < 11
  · have q := nameL_inj ⟨k.toNat, by omega⟩ ⟨j.toNat, by omega⟩ (by
      show nameL ((k.toNat : Nat) : Int) = nameL ((j.toNat : Nat) : Int)
      rw [show ((k.toNat : Nat) : Int) = k from by omega, show ((j.toNat : Nat) : Int) = j from by omega]; exact e)
    have := Fin.val_eq_of_eq q
    simp only at this
    omega
  · rw [nameL_out hj] at e
    exact absurd e (nameL_ne h)
theorem kindF_spec (s : List UInt8) : ∀ (f k : Nat), (kindF s f k).2 = true → nameL ((kindF s f k).1 : Int) = s ∧ k ≤ (kindF s f k).1 ∧ (kindF s f k).1 < k + f
  | 0, k, h => by cases h
  | f + 1, k, h => by
    unfold kindF at h ⊢
    split
    · rename_i e; exact ⟨e, Nat.le_refl _, by simp only; omega⟩
    · rename_i e
      rw [if_neg e] at h
      have := kindF_spec s f (k + 1) h
      exact ⟨this.1, by omega, by omega⟩
theorem kindF_none (s : List UInt8) : ∀ (f k : Nat), (kindF s f k).2 = false → (kindF s f k).1 = 0 ∧ ∀ j : Nat, k ≤ j → j < k + f → nameL (j : Int) ≠ s
  | 0, k, h => ⟨rfl, fun j h1 h2 => by omega⟩
  | f + 1, k, h => by
    unfold kindF at h ⊢
    split
    · rename_i e; rw [if_pos e] at h; cases h
    · rename_i e
      rw [if_neg e] at h
      have := kindF_none s f (k + 1) h
      refine ⟨this.1, fun j h1 h2 => ?_⟩
      rcases Nat.eq_or_lt_of_le h1 with rfl | q
      · exact e
      · exact this.2 j q (by omega)
theorem kindN_spec {s : List UInt8} (h : (kindN s).2 = true) : nameL ((kindN s).1 : Int) = s ∧ (kindN s).1 < 11 := by
  have := kindF_spec s 11 0 h
  exact ⟨this.1, by have := this.2.2; unfold kindN; omega⟩
theorem kindN_none {s : List UInt8} (h : (kindN s).2 = false) : (kindN s).1 = 0 ∧ ∀ j : Nat, j < 11 → nameL (j : Int) ≠ s := by
  have := kindF_none s 11 0 h
  exact ⟨this.1, fun j hj => this.2 j (Nat.zero_le _) (by omega)⟩
theorem kindN_name (k : Int) : kindN (nameL k) = if 0 ≤ k ∧ k < 11 then (k.toNat, true) else (0, false) := by
  cases h : (kindN (nameL k)).2 with
  | true =>
    have q := kindN_spec h
    have hk : 0 ≤ k ∧ k < 11 := by
      refine Classical.byContradiction fun hn => ?_
      rw [nameL_out hn] at q
      exact nameL_ne ⟨by omega, by omega⟩ q.1
    rw [if_pos hk]
    have e := (nameL_eq hk).1 q.1.symm
    exact Prod.ext (by simp only; omega) h
  | false =>
    have q := kindN_none h
    have hk : ¬ (0 ≤ k ∧ k < 11) := fun hk => q.2 k.toNat (by omega) (by rw [show ((k.toNat : Nat) : Int) = k from by omega])
    rw [if_neg hk]
    exact Prod.ext q.1 h
set_option maxRecDepth 100000 in
set_option maxHeartbeats 4000000 in
theorem name_any (k : Int) (w : World) : Calls Tryd.prog 21 #[.int .i64 k] w fun e w' => e = .returned (.string (str (nameL k))) ∧ Keep w w' := by
  by_cases h0 : k = 0
  · subst h0
    go_enter Tryd.func21, Tryd.ntmps21
    go_wp2
    exact bodyPost_ret (v := .string (str (nameL 0))) (by simp [results, Tryd.results21]; rfl) rfl ⟨rfl, Below.refl _ _⟩
  by_cases h1 : k = 1
  · subst h1
    go_enter Tryd.func21, Tryd.ntmps21
    go_wp2
    exact bodyPost_ret (v := .string (str (nameL 1))) (by simp [results, Tryd.results21]; rfl) rfl ⟨rfl, Below.refl _ _⟩
  by_cases h2 : k = 2
  · subst h2
    go_enter Tryd.func21, Tryd.ntmps21
    go_wp2
    exact bodyPost_ret (v := .string (str (nameL 2))) (by simp [results, Tryd.results21]; rfl) rfl ⟨rfl, Below.refl _ _⟩
  by_cases h3 : k = 3
  · subst h3
    go_enter Tryd.func21, Tryd.ntmps21
    go_wp2
    exact bodyPost_ret (v := .string (str (nameL 3))) (by simp [results, Tryd.results21]; rfl) rfl ⟨rfl, Below.refl _ _⟩
  by_cases h4 : k = 4
  · subst h4
    go_enter Tryd.func21, Tryd.ntmps21
    go_wp2
    exact bodyPost_ret (v := .string (str (nameL 4))) (by simp [results, Tryd.results21]; rfl) rfl ⟨rfl, Below.refl _ _⟩
  by_cases h5 : k = 5
  · subst h5
    go_enter Tryd.func21, Tryd.ntmps21
    go_wp2
    exact bodyPost_ret (v := .string (str (nameL 5))) (by simp [results, Tryd.results21]; rfl) rfl ⟨rfl, Below.refl _ _⟩
  by_cases h6 : k = 6
  · subst h6
    go_enter Tryd.func21, Tryd.ntmps21
    go_wp2
    exact bodyPost_ret (v := .string (str (nameL 6))) (by simp [results, Tryd.results21]; rfl) rfl ⟨rfl, Below.refl _ _⟩
  by_cases h7 : k = 7
  · subst h7
    go_enter Tryd.func21, Tryd.ntmps21
    go_wp2
    exact bodyPost_ret (v := .string (str (nameL 7))) (by simp [results, Tryd.results21]; rfl) rfl ⟨rfl, Below.refl _ _⟩
  by_cases h8 : k = 8
  · subst h8
    go_enter Tryd.func21, Tryd.ntmps21
    go_wp2
    exact bodyPost_ret (v := .string (str (nameL 8))) (by simp [results, Tryd.results21]; rfl) rfl ⟨rfl, Below.refl _ _⟩
  by_cases h9 : k = 9
  · subst h9
    go_enter Tryd.func21, Tryd.ntmps21
    go_wp2
    exact bodyPost_ret (v := .string (str (nameL 9))) (by simp [results, Tryd.results21]; rfl) rfl ⟨rfl, Below.refl _ _⟩
  by_cases h10 : k = 10
  · subst h10
    go_enter Tryd.func21, Tryd.ntmps21
    go_wp2
    exact bodyPost_ret (v := .string (str (nameL 10))) (by simp [results, Tryd.results21]; rfl) rfl ⟨rfl, Below.refl _ _⟩
  have d0 : (k == 0) = false := by rw [beq_eq_false_iff_ne]; exact h0
  have d1 : (k == 1) = false := by rw [beq_eq_false_iff_ne]; exact h1
  have d2 : (k == 2) = false := by rw [beq_eq_false_iff_ne]; exact h2
  have d3 : (k == 3) = false := by rw [beq_eq_false_iff_ne]; exact h3
  have d4 : (k == 4) = false := by rw [beq_eq_false_iff_ne]; exact h4
  have d5 : (k == 5) = false := by rw [beq_eq_false_iff_ne]; exact h5
  have d6 : (k == 6) = false := by rw [beq_eq_false_iff_ne]; exact h6
  have d7 : (k == 7) = false := by rw [beq_eq_false_iff_ne]; exact h7
  have d8 : (k == 8) = false := by rw [beq_eq_false_iff_ne]; exact h8
  have d9 : (k == 9) = false := by rw [beq_eq_false_iff_ne]; exact h9
  have d10 : (k == 10) = false := by rw [beq_eq_false_iff_ne]; exact h10
  have hn : nameL k = [] := nameL_out (by omega)
  rw [hn]
  clear h0 h1 h2 h3 h4 h5 h6 h7 h8 h9 h10 hn
  go_enter Tryd.func21, Tryd.ntmps21
  go_wp2
  exact bodyPost_ret (v := .string (str [])) (by simp [results, Tryd.results21]; rfl) rfl ⟨rfl, Below.refl _ _⟩
set_option maxRecDepth 100000 in
set_option maxHeartbeats 4000000 in
theorem kind_any (s : List UInt8) (w : World) : Calls Tryd.prog 38 #[.string (str s)] w fun e w' => e = .returned (.tuple #[iv (kindN s).1, .bool (kindN s).2]) ∧ Keep w w' := by
  obtain ⟨R, hR⟩ : ∃ R, kindN s = R := ⟨_, rfl⟩
  have HR : Hid (kindF s (11 - 0) 0 = R) := Lib.hid hR
  have S1 : Hid (∀ f k, nameL ((k : Nat) : Int) = s → kindF s (f + 1) k = (k, true)) := Lib.hid fun f k h => by rw [kindF, if_pos h]
  have S2 : Hid (∀ f k, nameL ((k : Nat) : Int) ≠ s → kindF s (f + 1) k = kindF s f (k + 1)) := Lib.hid fun f k h => by rw [kindF, if_neg h]
  have S3 : Hid (∀ k, kindF s 0 k = (0, false)) := Lib.hid fun k => rfl
  have NM := Lib.hid fun (k : Int) (y : World) => name_any k y
  rw [hR]
  clear hR
  go_enter Tryd.func38, Tryd.ntmps38
  go_wp2_with fail
  go_loopw [5] (fun i wr => ∃ k : Nat, k ≤ 11 ∧ i = .int .i64 k ∧ Hid (kindF s (11 - k) k = R) ∧ Hid (Keep w wr)) (fun i _ => 11 - (intOf i).toNat)
  case atStart => exact ⟨0, Nat.zero_le _, rfl, HR, Lib.hid (Below.refl _ _)⟩
  case round =>
    obtain ⟨k, hk, rfl, HRk, HK⟩ := hrel
    by_cases hlt : k < 11
    · have d1 : (k : Int) < 11 := by omega
      have hr := HRk.out
      rw [show 11 - k = (11 - (k + 1)) + 1 by omega] at hr
      have N1 := Lib.hid fun (y : World) => name_any (k : Int) y
      clear HRk HR NM
      by_cases he : nameL (k : Int) = s
      · rw [S1.out _ _ he] at hr
        subst hr
        rw [he] at N1
        have d2 : (str s == str s) = true := str_eq_t rfl
        clear he
        go_wp2_with (go_at_call 21; refine (N1.out _).mono ?_; rintro e w1 ⟨rfl, k1⟩; have HK1 := Lib.hid (keep_trans HK.out k1); clear k1)
        exact bodyPost_ret (v := .tuple #[iv k, .bool true]) (by simp [results, Tryd.results38]) rfl ⟨rfl, HK1.out⟩
      · rw [S2.out _ _ he] at hr
        have HR2 := Lib.hid hr
        have d2 : (str (nameL (k : Int)) == str s) = false := str_eq_f he
        have d3 : (nameL (k : Int) == s) = false := by rw [beq_eq_false_iff_ne]; exact he
        clear he hr
        generalize nameL (k : Int) = nk at *
        go_wp2_with (go_at_call 21; refine (N1.out _).mono ?_; rintro e w1 ⟨rfl, k1⟩; have HK1 := Lib.hid (keep_trans HK.out k1); clear k1)
        go_roundw
        case rel => exact ⟨k + 1, by omega, by go_num, HR2, HK1⟩
        case measure => simp [intOf]; omega
    · obtain rfl : k = 11 := by omega
      have d1 : ¬ ((11 : Nat) : Int) < 11 := by omega
      have hr := HRk.out
      rw [show 11 - 11 = 0 from rfl, S3.out] at hr
      subst hr
      clear HRk HR
      go_wp2_with fail
      exact bodyPost_ret (v := .tuple #[iv 0, .bool false]) (by simp [results, Tryd.results38]) rfl ⟨rfl, HK.out⟩
end Go.Proofs.YtffpanlpbdnafaaDoor

/- wire.takeHashes. (printed by gen_ve1.py) -/
set_option linter.unusedSimpArgs false
set_option linter.unusedVariables false
namespace Go.Proofs.YtffpanlpbdnafaaDoor
open Go.RowKit
attribute [local go_sem ↓] Go.wp_at_zero Go.wp_at_succ
def hshs (b : List UInt8) (at_ n : Nat) : List (List UInt8) := (List.range n).map fun i => (b.drop (at_ + i * 32)).take 32
theorem hshs_succ (b : List UInt8) (at_ n : Nat) : hshs b at_ (n + 1) = hshs b at_ n ++ [(b.drop (at_ + n * 32)).take 32] := by
  unfold hshs; rw [List.range_succ, List.map_append]; rfl
theorem hshs_len (b : List UInt8) (at_ n : Nat) : (hshs b at_ n).length = n := by simp [hshs]
def thsN (b : List UInt8) (most : Nat) : List (List UInt8) × Nat × Int :=
  if (bndN b most).2.2 = 0 then if b.length < (bndN b most).2.1 + (bndN b most).1 * 32 then ([], 0, 1) else (hshs b (bndN b most).2.1 (bndN b most).1, (bndN b most).2.1 + (bndN b most).1 * 32, 0) else ([], 0, (bndN b most).2.2)
theorem run_s2a {P : Program} {arr e : TypeId} {n m c : Nat} {A : Option Addr} (hu : P.underlying arr = some (.array n e)) (hn : n ≤ m) (w : World) : (Instr.arrayAt arr (.slice A m c)).run P w = .ok (.pointer A) w := by
  have hlt : ¬ m < n := by omega
  simp [Instr.arrayAt, run_underlying hu, hlt]
theorem rd_hash {w : World} {A : Option Addr} {b : List UInt8} (hr : Rd w A (b.map u8v)) {k : Nat} (h : k + 32 ≤ b.length) {cs : Array Value} (hcs : HashA ((b.drop k).take 32) cs) :
    ∃ g off, A = some ⟨g, off, none⟩ ∧ w.rangeAt g (off + k) cs.toList := by
  obtain ⟨g, off, h1, h2, h3⟩ := hr.at (k := k) (by simp; omega)
  refine ⟨g, off, h1, fun j v hv => ?_⟩
  rw [hcs.l] at hv
  have hj : j < 32 := by have := (List.getElem?_eq_some_iff.1 hv).1; simp at this; omega
  rw [Nat.add_assoc, h3 (k + j) (by simp; omega)]
  rw [List.getElem?_map, List.getElem?_take_of_lt hj, List.getElem?_drop, List.getElem?_eq_getElem (show k + j < b.length by omega)] at hv
  rw [List.getElem_map]
  exact hv
set_option maxRecDepth 100000 in
set_option maxHeartbeats 4000000 in
theorem ths_any (A : Option Addr) (b : List UInt8) (c most : Nat) (w : World) (hl : b.length ≤ 1000000000) (hc : b.length ≤ c) (hcm : c ≤ maxLen) (hm : most ≤ 1000000) (hr : Rd w A (b.map u8v)) :
    Calls Tryd.prog 70 #[.slice A b.length c, u64v most] w fun e w' => ∃ v, e = .returned (.tuple #[v, iv (thsN b most).2.1, iv (thsN b most).2.2]) ∧ w'.ownsRow w.heap.size 39 32 v (thsN b most).1.length (hsL (thsN b most).1) ∧ Keep w w' := by
  have G1 : Hid (Calls Tryd.prog 87 #[.slice A b.length c, u64v most] w fun e w' => e = .returned (.tuple #[iv (bndN b most).1, iv (bndN b most).2.1, iv (bndN b most).2.2]) ∧ Keep w w') := Lib.hid (bnd_any A b c most w (by omega) hr)
  have HRG := Lib.hid (bnd_rng b most)
  have HB : Hid (∀ R, thsN b most = R → R = if (bndN b most).2.2 = 0 then if b.length < (bndN b most).2.1 + (bndN b most).1 * 32 then ([], 0, 1) else (hshs b (bndN b most).2.1 (bndN b most).1, (bndN b most).2.1 + (bndN b most).1 * 32, 0) else ([], 0, (bndN b most).2.2)) := Lib.hid fun R h => by subst h; rfl
  replace HB := Lib.hid (HB.out _ rfl)
  have RB := Lib.hid hr
  clear hr
  generalize thsN b most = R at *
  generalize bndN b most = G at *
  obtain ⟨n, k, e0⟩ := G
  obtain ⟨L, hL⟩ : ∃ L, b.length = L := ⟨_, rfl⟩
  have HLL := Lib.hid hL
  rw [hL] at HB G1 HRG hl hc ⊢
  clear hL
  unfold maxLen at hcm
  simp only at G1 HB HRG
  go_enter Tryd.func70, Tryd.ntmps70
  go_wp2_with fail
  refine G1.out.mono ?_
  clear G1
  rintro e w1 ⟨rfl, k1⟩
  have HK1 := Lib.hid k1
  clear k1
  have hv := HB.out
  by_cases h0 : e0 = 0
  case neg =>
    rw [if_neg h0] at hv
    subst hv
    have d1 : (e0 != 0) = true := by rw [bne_iff_ne]; exact h0
    clear HB HRG
    go_wp2
    exact bodyPost_ret (v := .tuple #[.slice none 0 0, iv 0, iv e0]) (by simp [results, Tryd.results70]) rfl ⟨_, rfl, World.ownsRow_nil _ _ _ _, HK1.out⟩
  subst h0
  rw [if_pos rfl] at hv
  obtain ⟨q1, q2, q3, q4⟩ := HRG.out rfl
  have hw1 : IntKind.i64.wrap ((n : Int) * 32) = (n : Int) * 32 := IntWalk.i64_in _ (by omega)
  have hw2 : IntKind.i64.wrap ((k : Int) + (n : Int) * 32) = (k : Int) + (n : Int) * 32 := IntWalk.i64_in _ (by omega)
  by_cases h1 : L < k + n * 32
  · rw [if_pos h1] at hv
    subst hv
    have d1 : (L : Int) < (k : Int) + (n : Int) * 32 := by omega
    clear HB h1 HRG
    go_wp2
    exact bodyPost_ret (v := .tuple #[.slice none 0 0, iv 0, iv 1]) (by simp [results, Tryd.results70]) rfl ⟨_, rfl, World.ownsRow_nil _ _ _ _, HK1.out⟩
  rw [if_neg h1] at hv
  have HV := Lib.hid hv
  have d1 : ¬ (L : Int) < (k : Int) + (n : Int) * 32 := by omega
  clear hv HB HRG
  go_wp2_with fail
  clear d1
  go_loopw [11, 12] (fun v x wr => ∃ i : Nat, i ≤ n ∧ x = .int .i64 ((k + i * 32 : Nat) : Int) ∧ Hid (wr.ownsRow w.heap.size 39 32 v i (hsL (hshs b k i))) ∧ Hid (Keep w wr)) (fun _ x _ => k + n * 32 - (intOf x).toNat)
  case atStart => exact ⟨0, Nat.zero_le _, by simp, Lib.hid (World.ownsRow_nil _ _ _ _), HK1⟩
  case round =>
    obtain ⟨i, hi, rfl, Own1, HKr⟩ := hrel
    have e1 : ((k + i * 32 : Nat) : Int) = (k : Int) + (i : Int) * 32 := by omega
    by_cases hlt : i < n
    · have hxl : ((b.drop (k + i * 32)).take 32).length = 32 := by rw [List.length_take, List.length_drop, HLL.out]; omega
      obtain ⟨ds, hds⟩ : ∃ ds, HashA ((b.drop (k + i * 32)).take 32) ds := ⟨_, HashA.of hxl⟩
      obtain ⟨g, off, rfl, hrg⟩ := rd_hash (RB.out.keep HKr.out) (k := k + i * 32) (by rw [HLL.out]; omega) hds
      have HSN : Hid (hsL (hshs b k (i + 1)) = hsL (hshs b k i) ++ ds.toList) := Lib.hid (by rw [hshs_succ, hsL_snoc, hds.l])
      obtain ⟨a, ha⟩ : ∃ a, k + i * 32 = a := ⟨_, rfl⟩
      rw [ha] at hrg ⊢
      have HRD := Lib.hid hrg
      have hdz := hds.z; have hdn := hds.n; have hdi := hds.i
      have Hds := Lib.hid hds
      have d2 : (a : Int) < (k : Int) + (n : Int) * 32 := by omega
      have hw3 : IntKind.i64.wrap ((a : Int) + 32) = (a : Int) + 32 := IntWalk.i64_in _ (by omega)
      have hs1 := HKr.out.size
      have hsa := run_s2a (P := Tryd.prog) (c := c - a) (A := some ⟨g, off + a, none⟩) hash_under (Nat.le_refl 32)
      clear hxl hrg hds e1
      go_upto_region 10 with (first
        | ((with_reducible refine load_partg g (off + a) ds (Eq.trans ?_ rfl) HRD.out _ Tryd.underlying39 rfl hdi rfl ?_); rfl)
        | ((with_reducible refine list_build1h hashTb ds hdz (by omega) (Eq.trans ?_ rfl) ?_); rfl)
        | (at_builtin; refine wpList_app hashTb (by rfl) _ _ (by rfl) w.heap.size _ i _ (by rfl) (Own1.out.alloc _) _ 1 1 ds.toList (by rfl) (by rw [Array.length_toList, hdz]) (by simpa using Rd.new wr ds.toList 39) Hds.out.o (by omega) (by unfold maxLen; omega) (by simp; omega) ?_; intro v3 w3 own3 hg3 hat3; have k3 := keep_grown (keep_trans HKr.out (keep_new _ _)) (by simp; omega) hg3 (Own1.out.alloc _); rw [← HSN.out] at own3))
      have Own2 := Lib.hid own3; have HK2 := Lib.hid k3
      clear own3 k3 hg3 hat3 hsa HRD Own1 HKr
      go_wp2
      go_roundw
      case rel => exact ⟨i + 1, by omega, by go_num, Own2, HK2⟩
      case measure => simp [intOf]; omega
    · obtain rfl : i = n := by omega
      have d2 : ¬ ((k + i * 32 : Nat) : Int) < (k : Int) + (i : Int) * 32 := by omega
      have hv := HV.out
      subst hv
      clear HV
      obtain ⟨Ao, co, rfl, -, -, -⟩ := own_form Own1.out
      go_wp2
      exact bodyPost_ret (v := .tuple #[.slice Ao i co, iv ((k : Int) + (i : Int) * 32), iv 0]) (by simp [results, Tryd.results70]) rfl ⟨_, by simp, own_eq Own1.out (hshs_len b k i).symm rfl, HKr.out⟩
end Go.Proofs.YtffpanlpbdnafaaDoor

/- wire.takeItems. (printed by gen_vf.py) -/
set_option linter.unusedSimpArgs false
set_option linter.unusedVariables false
namespace Go.Proofs.YtffpanlpbdnafaaDoor
open Go.RowKit
attribute [local go_sem ↓] Go.wp_at_zero Go.wp_at_succ
structure Itm where
  ty : UInt32
  h : List UInt8
def Itm.ok (x : Itm) : Prop := x.h.length = 32
def Itm.cells (x : Itm) : List Value := u32v x.ty :: x.h.map u8v
theorem Itm.len {x : Itm} (h : x.ok) : x.cells.length = 33 := by unfold Itm.ok at h; simp [Itm.cells, h]
theorem item_info : (Tryd.prog.info? 98).map (·.size) = some 33 := by kernel_rfl
structure ItA (x : Itm) (cs : Array Value) : Prop where
  l : cs.toList = x.cells
  z : cs.size = 33
  i : (Tryd.prog.info? 98).map (·.size) = some cs.size
  n : ¬ cs = #[]
  o : ∀ v ∈ cs.toList, v.oneCell' = true
theorem Itm.one (x : Itm) : ∀ u ∈ x.cells, u.oneCell' = true := by
  intro u hu
  rcases List.mem_cons.1 hu with rfl | hu
  · rfl
  · obtain ⟨y, _, rfl⟩ := List.mem_map.1 hu; rfl
theorem ItA.of {x : Itm} (h : x.ok) : ItA x x.cells.toArray := by
  have hz : x.cells.toArray.size = 33 := by simpa using Itm.len h
  exact ⟨rfl, hz, by rw [hz]; exact item_info, fun e => by rw [e] at hz; simp at hz, by simpa using x.one⟩
noncomputable def zitem : Array Value := match (Tryd.prog.info? 98).bind (·.zero) with | some (.agg c) => c | _ => #[]
theorem zitem_size : zitem.size = 33 := by kernel_rfl
theorem zitem_zero (w : World) : (zeroValue 98).run Tryd.prog w = .ok (.agg zitem) w := by kernel_rfl
theorem zitem_letter : ∃ zs : Array Value, zs.size = 33 ∧ (∀ w, (zeroValue 98).run Tryd.prog w = .ok (.agg zs) w) ∧ ¬ zs = #[] :=
  ⟨zitem, zitem_size, zitem_zero, fun h => by have := zitem_size; rw [h] at this; cases this⟩
set_option maxRecDepth 100000 in
theorem itemT : ElT Tryd.prog 40 98 (Value.agg zitem) 33 36 := ElT.mk' Tryd.underlying40 (by kernel_rfl) zitem_size (by omega)
theorem item_built (t : UInt32) (l : List UInt8) (ds : Array Value) (hl : l.length = 32) (hd : HashA l ds) : Tryd.prog.built 98 [(0, u32v t), (1, .agg ds)] = some (Itm.cells ⟨t, l⟩).toArray := by
  obtain rfl := hd.e
  obtain ⟨a0, a1, a2, a3, a4, a5, a6, a7, a8, a9, b0, b1, b2, b3, b4, b5, b6, b7, b8, b9, c0, c1, c2, c3, c4, c5, c6, c7, c8, c9, d0, d1, rfl⟩ := list32b hl
  show _ = _
  kernel_rfl
def itmOf (b : List UInt8) (a : Nat) : Itm := ⟨UInt32.ofNat (numN (b.drop a) 4), (b.drop (a + 4)).take 32⟩
def itms (b : List UInt8) (at_ n : Nat) : List Itm := (List.range n).map fun i => itmOf b (at_ + i * 36)
theorem itms_succ (b : List UInt8) (at_ n : Nat) : itms b at_ (n + 1) = itms b at_ n ++ [itmOf b (at_ + n * 36)] := by
  unfold itms; rw [List.range_succ, List.map_append]; rfl
theorem itms_len (b : List UInt8) (at_ n : Nat) : (itms b at_ n).length = n := by simp [itms]
def titN (b : List UInt8) : List Itm × Nat × Int :=
  if (bndN b 50000).2.2 = 0 then if b.length < (bndN b 50000).2.1 + (bndN b 50000).1 * 36 then ([], 0, 1) else (itms b (bndN b 50000).2.1 (bndN b 50000).1, (bndN b 50000).2.1 + (bndN b 50000).1 * 36, 0) else ([], 0, (bndN b 50000).2.2)
set_option maxRecDepth 100000 in
set_option maxHeartbeats 4000000 in
theorem tit_any (A : Option Addr) (b : List UInt8) (c : Nat) (w : World) (hl : b.length ≤ 1000000000) (hc : b.length ≤ c) (hcm : c ≤ maxLen) (hr : Rd w A (b.map u8v)) :
    Calls Tryd.prog 71 #[.slice A b.length c] w fun e w' => ∃ v, e = .returned (.tuple #[v, iv (titN b).2.1, iv (titN b).2.2]) ∧ w'.ownsRow w.heap.size 98 33 v (titN b).1.length ((titN b).1.flatMap Itm.cells) ∧ Keep w w' := by
  have G1 : Hid (Calls Tryd.prog 87 #[.slice A b.length c, u64v 50000] w fun e w' => e = .returned (.tuple #[iv (bndN b 50000).1, iv (bndN b 50000).2.1, iv (bndN b 50000).2.2]) ∧ Keep w w') := Lib.hid (bnd_any A b c 50000 w (by omega) hr)
  have HRG := Lib.hid (bnd_rng b 50000)
  have HB : Hid (∀ R, titN b = R → R = if (bndN b 50000).2.2 = 0 then if b.length < (bndN b 50000).2.1 + (bndN b 50000).1 * 36 then ([], 0, 1) else (itms b (bndN b 50000).2.1 (bndN b 50000).1, (bndN b 50000).2.1 + (bndN b 50000).1 * 36, 0) else ([], 0, (bndN b 50000).2.2)) := Lib.hid fun R h => by subst h; rfl
  replace HB := Lib.hid (HB.out _ rfl)
  have RB := Lib.hid hr
  have TK : Hid (∀ y A' m c' a, Keep w y → (b.drop a).length = m → 4 ≤ m → m ≤ 1000000000 → Rd y A' ((b.drop a).map u8v) → Calls Tryd.prog 69 #[.slice A' m c', iv 4] y fun e w' => e = .returned (.tuple #[u64v (numN (b.drop a) 4), iv 0]) ∧ y = w') := Lib.hid fun y A' m c' a hy h1 h2 h3 h4 => by
    subst h1
    have := taken_any A' (b.drop a) c' 4 y (by omega) (by omega) h4
    rw [if_neg (by omega), if_neg (by omega)] at this
    exact this
  clear hr
  generalize titN b = R at *
  generalize bndN b 50000 = G at *
  obtain ⟨n, k, e0⟩ := G
  obtain ⟨L, hL⟩ : ∃ L, b.length = L := ⟨_, rfl⟩
  have HLL := Lib.hid hL
  rw [hL] at HB G1 HRG hl hc ⊢
  clear hL
  unfold maxLen at hcm
  simp only at G1 HB HRG
  go_enter Tryd.func71, Tryd.ntmps71
  go_wp2_with fail
  refine G1.out.mono ?_
  clear G1
  rintro e w1 ⟨rfl, k1⟩
  have HK1 := Lib.hid k1
  clear k1
  have hv := HB.out
  by_cases h0 : e0 = 0
  case neg =>
    rw [if_neg h0] at hv
    subst hv
    have d1 : (e0 != 0) = true := by rw [bne_iff_ne]; exact h0
    clear HB HRG
    go_wp2
    exact bodyPost_ret (v := .tuple #[.slice none 0 0, iv 0, iv e0]) (by simp [results, Tryd.results71]) rfl ⟨_, rfl, World.ownsRow_nil _ _ _ _, HK1.out⟩
  subst h0
  rw [if_pos rfl] at hv
  obtain ⟨q1, q2, q3, q4⟩ := HRG.out rfl
  have hw1 : IntKind.i64.wrap ((n : Int) * 36) = (n : Int) * 36 := IntWalk.i64_in _ (by omega)
  have hw2 : IntKind.i64.wrap ((k : Int) + (n : Int) * 36) = (k : Int) + (n : Int) * 36 := IntWalk.i64_in _ (by omega)
  by_cases h1 : L < k + n * 36
  · rw [if_pos h1] at hv
    subst hv
    have d1 : (L : Int) < (k : Int) + (n : Int) * 36 := by omega
    clear HB h1 HRG
    go_wp2
    exact bodyPost_ret (v := .tuple #[.slice none 0 0, iv 0, iv 1]) (by simp [results, Tryd.results71]) rfl ⟨_, rfl, World.ownsRow_nil _ _ _ _, HK1.out⟩
  rw [if_neg h1] at hv
  have HV := Lib.hid hv
  have d1 : ¬ (L : Int) < (k : Int) + (n : Int) * 36 := by omega
  clear hv HB HRG
  go_wp2_with fail
  clear d1
  go_loopw [9, 10] (fun v x wr => ∃ i : Nat, i ≤ n ∧ x = .int .i64 ((k + i * 36 : Nat) : Int) ∧ Hid (wr.ownsRow w.heap.size 98 33 v i ((itms b k i).flatMap Itm.cells)) ∧ Hid (Keep w wr)) (fun _ x _ => k + n * 36 - (intOf x).toNat)
  case atStart => exact ⟨0, Nat.zero_le _, by simp, Lib.hid (World.ownsRow_nil _ _ _ _), HK1⟩
  case round =>
    obtain ⟨i, hi, rfl, Own1, HKr⟩ := hrel
    by_cases hlt : i < n
    · have hxl : ((b.drop (k + i * 36 + 4)).take 32).length = 32 := by rw [List.length_take, List.length_drop, HLL.out]; omega
      obtain ⟨ds, hds⟩ : ∃ ds, HashA ((b.drop (k + i * 36 + 4)).take 32) ds := ⟨_, HashA.of hxl⟩
      obtain ⟨g, off, rfl, hrg⟩ := rd_hash (RB.out.keep HKr.out) (k := k + i * 36 + 4) (by rw [HLL.out]; omega) hds
      have hbu := item_built (UInt32.ofNat (numN (b.drop (k + i * 36)) 4)) _ ds hxl hds
      obtain ⟨es, hes⟩ : ∃ es, ItA (itmOf b (k + i * 36)) es ∧ (Itm.cells ⟨UInt32.ofNat (numN (b.drop (k + i * 36)) 4), (b.drop (k + i * 36 + 4)).take 32⟩).toArray = es := ⟨_, ItA.of (show (itmOf b (k + i * 36)).ok from hxl), rfl⟩
      rw [hes.2] at hbu
      have HSN : Hid ((itms b k (i + 1)).flatMap Itm.cells = (itms b k i).flatMap Itm.cells ++ es.toList) := Lib.hid (by rw [itms_succ, List.flatMap_append, hes.1.l]; simp)
      obtain ⟨a, ha⟩ : ∃ a, k + i * 36 = a := ⟨_, rfl⟩
      rw [ha] at hrg hbu ⊢
      have RBA : Hid (Rd wr (some ⟨g, off + a, none⟩) ((b.drop a).map u8v)) := Lib.hid (by have := (RB.out.keep HKr.out).dropN (k := a) (by rw [List.length_map, HLL.out]; omega); rw [Option.map_some, add_lit0] at this; rw [List.map_drop]; exact this)
      have HDL : Hid ((b.drop a).length = L - a) := Lib.hid (by rw [List.length_drop, HLL.out])
      have T2 := Lib.hid fun y A' m c' => TK.out y A' m c' a
      have hn4 := numN_lt (b.drop a) 4
      generalize numN (b.drop a) 4 = N4 at *
      obtain ⟨t, ht⟩ : ∃ t : UInt32, t = UInt32.ofNat N4 := ⟨_, rfl⟩
      have htn : (N4 : Int) = (t.toNat : Int) := by rw [ht, UInt32.toNat_ofNat']; omega
      have hw5 : IntKind.u32.wrap (N4 : Int) = (t.toNat : Int) := by rw [IntKind.wrap_u32, htn]; have := t.toNat_lt; omega
      have hw6 : (N4 : Int) % 4294967296 = (t.toNat : Int) := by rw [htn]; have := t.toNat_lt; omega
      rw [← ht] at hbu
      have HRD : Hid (wr.rangeAt g (off + (a + 4)) ds.toList) := Lib.hid hrg
      have hdz := hds.z; have hdn := hds.n; have hdi := hds.i
      have Hds := Lib.hid hds; have Hes := Lib.hid hes.1
      have hez := hes.1.z; have hen := hes.1.n; have hei := hes.1.i
      have d2 : (a : Int) < (k : Int) + (n : Int) * 36 := by omega
      have hw3 : IntKind.i64.wrap ((a : Int) + 36) = (a : Int) + 36 := IntWalk.i64_in _ (by omega)
      have hw4 : IntKind.i64.wrap ((a : Int) + 4) = (a : Int) + 4 := IntWalk.i64_in _ (by omega)
      have hs1 := HKr.out.size
      have hsa := run_s2a (P := Tryd.prog) (c := c - (a + 4)) (A := some ⟨g, off + (a + 4), none⟩) hash_under (Nat.le_refl 32)
      have Hbu := Lib.hid hbu
      clear hxl hrg hds hes ht hbu htn TK
      go_wp2_with fail
      (with_reducible refine (T2.out _ _ _ _ HKr.out HDL.out (by omega) (by omega) ?_).mono ?_)
      · exact RBA.out
      rintro e w2 ⟨rfl, rfl⟩
      clear T2 RBA HDL
      go_upto_region 10 with (first
        | ((with_reducible refine load_partg g (off + (a + 4)) ds (Eq.trans ?_ rfl) HRD.out _ Tryd.underlying39 rfl hdi rfl ?_); rfl)
        | ((with_reducible refine list_bldg [(0, u32v t), (1, .agg ds)] es (Eq.trans ?_ rfl) Hbu.out (Eq.trans ?_ rfl) ?_); rfl; rfl)
        | ((with_reducible refine list_build1h itemT es hez (by omega) (Eq.trans ?_ rfl) ?_); rfl)
        | (at_builtin; refine wpList_app itemT (by rfl) _ _ (by rfl) w.heap.size _ i _ (by rfl) (Own1.out.alloc _) _ 1 1 es.toList (by rfl) (by rw [Array.length_toList, hez]) (by simpa using Rd.new wr es.toList 98) Hes.out.o (by omega) (by unfold maxLen; omega) (by simp; omega) ?_; intro v3 w3 own3 hg3 hat3; have k3 := keep_grown (keep_trans HKr.out (keep_new _ _)) (by simp; omega) hg3 (Own1.out.alloc _); rw [← HSN.out] at own3))
      have Own2 := Lib.hid own3; have HK2 := Lib.hid k3
      clear own3 k3 hg3 hat3 hsa HRD Own1 HKr
      go_wp2
      go_roundw
      case rel => exact ⟨i + 1, by omega, by go_num, Own2, HK2⟩
      case measure => simp [intOf]; omega
    · obtain rfl : i = n := by omega
      have d2 : ¬ ((k + i * 36 : Nat) : Int) < (k : Int) + (i : Int) * 36 := by omega
      have hv := HV.out
      subst hv
      clear HV TK
      obtain ⟨Ao, co, rfl, -, -, -⟩ := own_form Own1.out
      go_wp2
      exact bodyPost_ret (v := .tuple #[.slice Ao i co, iv ((k : Int) + (i : Int) * 36), iv 0]) (by simp [results, Tryd.results71]) rfl ⟨_, by simp, own_eq Own1.out (itms_len b k i).symm rfl, HKr.out⟩
end Go.Proofs.YtffpanlpbdnafaaDoor

/- A header's bytes: Put, Get. -/
set_option linter.unusedSimpArgs false
set_option linter.unusedVariables false
namespace Go.Proofs.YtffpanlpbdnafaaDoor
open Go.RowKit
attribute [local go_sem ↓] Go.wp_at_zero Go.wp_at_succ
set_option maxRecDepth 100000 in
set_option maxHeartbeats 1000000 in
theorem hput_any (h : Hd) (cs : Array Value) (w : World) (hk : h.ok) (hcs : HdA h cs) :
    Calls Tryd.prog 65 #[.agg cs] w fun e w' => ∃ A, e = .returned (.slice A 80 80) ∧ Rd w' A ((hputL h).map u8v) ∧ Keep w w' := by
  have hpl := hputL_len hk
  have A1 : Hid (∀ w', Calls Tryd.prog 83 #[.agg cs] w' fun e w'' => e = .returned (.agg ((hputL h).map u8v).toArray) ∧ Keep w' w'') := fun w' => array_any h cs w' hk hcs
  generalize hputL h = p at *
  obtain ⟨ps, hps⟩ : ∃ ps : Array Value, ps.toList = p.map u8v := ⟨(p.map u8v).toArray, rfl⟩
  have hpz : ps.size = 80 := by rw [← Array.length_toList, hps, List.length_map, hpl]
  have hpn : ¬ ps = #[] := by intro h; rw [h] at hpz; simp at hpz
  have hpi : (Tryd.prog.info? 177).map (·.size) = some ps.size := by rw [hpz]; kernel_rfl
  rw [show (p.map u8v).toArray = ps by rw [← hps, Array.toArray_toList]] at A1
  obtain ⟨zs, hz1, hz2, hz3⟩ := z80_letter
  have hst : ∀ ww : World, (storeCells ⟨ww.heap.size, 0, none⟩ ps.toList 0).run Tryd.prog (ww.alloc (.cells zs 177)) = .ok () (ww.alloc (.cells ps 177)) := fun ww =>
    run_storeCells_new (P := Tryd.prog) ww 177 zs ps hpi (hz1.trans hpz.symm) (by have := all_oneCell_toArray (show ∀ v ∈ ps.toList, v.oneCell' = true by rw [hps]; exact one_w8 _); rwa [Array.toArray_toList] at this)
  have Hps := Lib.hid hps
  have hcz := hcs.z; have hcn := hcs.n; have hci := hcs.i
  clear hps hpi hcs hpl
  go_enter Tryd.func65, Tryd.ntmps65
  have Hbx : Hid (Blk (w.alloc (.cells cs 42)) w.heap.size 42 cs.toList) := Blk.new w _ cs.toList
  go_upto_region 1 with fail
  go_wp2_with ((with_reducible refine load_arr w.heap.size cs (Eq.trans ?_ rfl) Hbx.out _ Tryd.underlying42 rfl hci ?_); rfl)
  refine (A1.out _).mono ?_
  rintro e w1 ⟨rfl, k1⟩
  have kw1 := keep_trans (keep_new w _) k1
  go_wp2
  go_ret
  refine ⟨_, rfl, ?_, keep_trans kw1 (keep_new _ _)⟩
  rw [← Hps.out]
  exact (show Blk _ w1.heap.size 177 ps.toList from Blk.new w1 _ ps.toList).rd
theorem or_add (k : Nat) (hk : k < 4) (n y : Int) (h0 : 0 ≤ n) (h1 : n < 2 ^ (8 * k)) (h2 : 0 ≤ y) (h3 : y < 256) : bits .or .u32 n (y * 2 ^ (8 * k) % 4294967296) = n + y * 2 ^ (8 * k) := by
  rcases (show k = 0 ∨ k = 1 ∨ k = 2 ∨ k = 3 by omega) with rfl | rfl | rfl | rfl
  · obtain rfl : n = 0 := by simp at h1; omega
    have e := u32_or 0 (y * 2 ^ (8 * 0) % 4294967296) (by omega) (by omega) (by omega) (by omega)
    rw [e]; simp; omega
  · simp only [show (8 * 1 : Nat) = 8 from rfl, show ((2 : Int) ^ 8) = 256 from rfl] at *
    rw [u32_or8 _ _ h0 h1 (by omega) (by omega) (by omega)]; omega
  · simp only [show (8 * 2 : Nat) = 16 from rfl, show ((2 : Int) ^ 16) = 65536 from rfl] at *
    rw [u32_or16 _ _ h0 h1 (by omega) (by omega) (by omega)]; omega
  · simp only [show (8 * 3 : Nat) = 24 from rfl, show ((2 : Int) ^ 24) = 16777216 from rfl] at *
    rw [u32_or24 _ _ h0 h1 (by omega) (by omega) (by omega)]; omega
def numE (b : List UInt8) : Nat → Int
  | 0 => 0
  | k + 1 => numE b k + (b.getD k 0).toNat * 2 ^ (8 * k)
theorem numE_rng (b : List UInt8) (k : Nat) : 0 ≤ numE b k ∧ numE b k < 2 ^ (8 * k) := by
  induction k with
  | zero => simp [numE]
  | succ k ih =>
    have hy := (b.getD k 0).toNat_lt
    have hp : (0 : Int) < 2 ^ (8 * k) := Int.pow_pos (by omega)
    have e : (2 : Int) ^ (8 * (k + 1)) = 256 * 2 ^ (8 * k) := by rw [Nat.mul_succ, Int.pow_add]; omega
    rw [numE, e]
    have h1 : ((b.getD k 0).toNat : Int) * 2 ^ (8 * k) ≤ 255 * 2 ^ (8 * k) := Int.mul_le_mul_of_nonneg_right (by omega) (by omega)
    have h2 : (0 : Int) ≤ ((b.getD k 0).toNat : Int) * 2 ^ (8 * k) := Int.mul_nonneg (by omega) (by omega)
    omega
def num32 (b : List UInt8) : UInt32 := w32 (numE b 4)
set_option maxRecDepth 100000 in
set_option maxHeartbeats 1000000 in
theorem number_any (A : Option Addr) (b : List UInt8) (n c : Nat) (w : World) (hn : n = b.length) (hl : 4 ≤ b.length) (hr : Rd w A (b.map u8v)) :
    Calls Tryd.prog 88 #[.slice A n c] w fun e w' => e = .returned (u32v (num32 b)) ∧ w = w' := by
  obtain ⟨g, off, rfl, hg, hc⟩ := hr.at (k := 0) (by simp; omega)
  have hn4 : 4 ≤ n := by omega
  clear hn
  go_enter Tryd.func88, Tryd.ntmps88
  go_wp2_with fail
  go_loopw [3, 5] (fun v i wr => ∃ k : Nat, k ≤ 4 ∧ i = .int .i64 k ∧ v = .int .u32 (numE b k) ∧ w = wr) (fun _ i _ => 4 - (intOf i).toNat)
  case atStart => exact ⟨0, by omega, rfl, rfl, rfl⟩
  case round =>
    obtain ⟨k, hk, rfl, rfl, rfl⟩ := hrel
    by_cases hlt : k < 4
    · obtain ⟨y, hy⟩ : ∃ y, b[k]? = some y := ⟨_, List.getElem?_eq_getElem (by omega)⟩
      have c0 := hc k (by simp; omega)
      rw [show (b.map u8v)[k]'(by simp; omega) = u8v y by
        obtain ⟨_, h⟩ := List.getElem?_eq_some_iff.1 hy
        simp [h]] at c0
      have hy2 := y.toNat_lt
      have hr1 := numE_rng b k
      have hor := or_add k hlt (numE b k) y.toNat hr1.1 hr1.2 (by omega) (by omega)
      have Hne := Lib.hid (show numE b (k + 1) = numE b k + y.toNat * 2 ^ (8 * k) by rw [numE, getD_of hy])
      generalize numE b k = e at *
      clear hy hr1 hc hr
      go_wp2
      go_roundw
      case rel => exact ⟨k + 1, by omega, by go_num, by rw [Hne.out], by trivial⟩
      case measure => simp [intOf]; omega
    · have Hk := Lib.hid (show k = 4 by omega)
      have hr1 := numE_rng b 4
      go_wp2
      go_ret
      refine ⟨?_, rfl⟩
      rw [Hk.out]
      exact ret_int (w32_of hr1.1 (by have := hr1.2; omega))
end Go.Proofs.YtffpanlpbdnafaaDoor
namespace Go.Proofs.YtffpanlpbdnafaaDoor
open Go.RowKit
attribute [local go_sem ↓] Go.wp_at_zero Go.wp_at_succ
def hgetL (b : List UInt8) : Hd := ⟨num32 b, (b.drop 4).take 32, (b.drop 36).take 32, num32 (b.drop 68), num32 (b.drop 72), num32 (b.drop 76)⟩
theorem hgetL_ok {b : List UInt8} (hb : b.length = 80) : (hgetL b).ok := by
  unfold hgetL Hd.ok; simp [hb]
theorem head_set (a t b n : UInt32) : ((((Hd.cells ⟨0, z32, z32, 0, 0, 0⟩).set 0 (u32v a)).set 65 (u32v t)).set 66 (u32v b)).set 67 (u32v n) = Hd.cells ⟨a, z32, z32, t, b, n⟩ := by kernel_rfl
set_option maxRecDepth 100000 in
set_option maxHeartbeats 3000000 in
theorem hget_any (A : Option Addr) (b : List UInt8) (c : Nat) (w : World) (hb : b.length = 80) (hc : 80 ≤ c) (hcm : c ≤ maxLen) (hr : Rd w A (b.map u8v)) :
    Calls Tryd.prog 73 #[.slice A 80 c] w fun e w' => ∃ cs, e = .returned (.tuple #[.agg cs, .int .i64 0]) ∧ HdA (hgetL b) cs ∧ Keep w w' := by
  obtain ⟨g, off, rfl, hg, _⟩ := hr.at (k := 0) (by simp; omega)
  unfold maxLen at hcm
  obtain ⟨zs, hz1, hz2, hz3, hz4⟩ := zhead_letter
  obtain ⟨bs, hbs⟩ : ∃ bs : Array Value, bs.toList = (Hd.cells ⟨num32 b, z32, z32, num32 (b.drop 68), num32 (b.drop 72), num32 (b.drop 76)⟩) := ⟨_, rfl⟩
  have hset : (((zs.toList.set 0 (u32v (num32 b))).set 65 (u32v (num32 (b.drop 68)))).set 66 (u32v (num32 (b.drop 72)))).set 67 (u32v (num32 (b.drop 76))) = bs.toList := by rw [hz4, hbs, head_set]
  have hbz : bs.size = 68 := by rw [← Array.length_toList, hbs]; exact Hd.len ⟨rfl, rfl⟩
  have hbn : ¬ bs = #[] := by intro h; rw [h] at hbz; simp at hbz
  have Hst : Hid (∀ ww : World, (storeCells ⟨ww.heap.size, 0, none⟩ ((((zs.toList.set 0 (u32v (num32 b))).set 65 (u32v (num32 (b.drop 68)))).set 66 (u32v (num32 (b.drop 72)))).set 67 (u32v (num32 (b.drop 76)))) 0).run Tryd.prog (ww.alloc (.cells zs 42)) = .ok () (ww.alloc (.cells bs 42))) := fun ww => by
    rw [hset]
    exact run_storeCells_new (P := Tryd.prog) ww 42 zs bs (by rw [hbz]; kernel_rfl) (hz1.trans hbz.symm) (by have := all_oneCell_toArray (show ∀ v ∈ bs.toList, v.oneCell' = true by rw [hbs]; exact Hd.one _); rwa [Array.toArray_toList] at this)
  have hsub : ∀ (w' : World), Keep w w' → ∀ k, k ≤ 80 → Rd w' (some ⟨g, off + k, none⟩) ((b.drop k).map u8v) := fun w' h k hk => by
    have h1 := (hr.keep h).sub k (80 - k) (by simp [hb]; omega)
    rw [List.take_of_length_le (by simp [hb])] at h1
    rwa [List.map_drop]
  have N1 : Hid (∀ w', Keep w w' → Calls Tryd.prog 88 #[.slice (some ⟨g, off, none⟩) 80 c] w' fun e w'' => e = .returned (u32v (num32 b)) ∧ w' = w'') := fun w' h => number_any _ b 80 c w' hb.symm (by omega) (hr.keep h)
  have N4 : Hid (∀ w', Keep w w' → Calls Tryd.prog 88 #[.slice (some ⟨g, off + 68, none⟩) 12 (c - 68)] w' fun e w'' => e = .returned (u32v (num32 (b.drop 68))) ∧ w' = w'') := fun w' h => number_any _ (b.drop 68) 12 _ w' (by simp [hb]) (by simp [hb]) (hsub w' h 68 (by omega))
  have N7 : Hid (∀ w', Keep w w' → Calls Tryd.prog 88 #[.slice (some ⟨g, off + 72, none⟩) 8 (c - 72)] w' fun e w'' => e = .returned (u32v (num32 (b.drop 72))) ∧ w' = w'') := fun w' h => number_any _ (b.drop 72) 8 _ w' (by simp [hb]) (by simp [hb]) (hsub w' h 72 (by omega))
  have N10 : Hid (∀ w', Keep w w' → Calls Tryd.prog 88 #[.slice (some ⟨g, off + 76, none⟩) 4 (c - 76)] w' fun e w'' => e = .returned (u32v (num32 (b.drop 76))) ∧ w' = w'') := fun w' h => number_any _ (b.drop 76) 4 _ w' (by simp [hb]) (by simp [hb]) (hsub w' h 76 (by omega))
  have HS1 : Hid (∀ w', Keep w w' → Rd w' (some ⟨g, off + 4, none⟩) (((b.drop 4).take 32).map u8v)) := fun w' h => by
    have h1 := (hr.keep h).sub 4 32 (by simp [hb])
    rwa [← List.map_drop, ← List.map_take] at h1
  have HS2 : Hid (∀ w', Keep w w' → Rd w' (some ⟨g, off + 36, none⟩) (((b.drop 36).take 32).map u8v)) := fun w' h => by
    have h1 := (hr.keep h).sub 36 32 (by simp [hb])
    rwa [← List.map_drop, ← List.map_take] at h1
  have Hbs := Lib.hid hbs; have Hb := Lib.hid hb
  have ht1 : Hid (((b.drop 4).take 32).length = 32) := by simp [Hid, hb]
  have ht2 : Hid (((b.drop 36).take 32).length = 32) := by simp [Hid, hb]
  have HG : Hid (hgetL b = ⟨num32 b, (b.drop 4).take 32, (b.drop 36).take 32, num32 (b.drop 68), num32 (b.drop 72), num32 (b.drop 76)⟩) := rfl
  generalize hgetL b = H at HG ⊢
  generalize num32 b = na at *
  generalize num32 (b.drop 68) = nt at *
  generalize num32 (b.drop 72) = nb at *
  generalize num32 (b.drop 76) = nn at *
  generalize (b.drop 4).take 32 = p1 at *
  generalize (b.drop 36).take 32 = p2 at *
  clear hbs hb hsub hr hset hz4
  go_enter Tryd.func73, Tryd.ntmps73
  go_upto_region 5 with fail
  have HR1 : Hid (Blk (w.alloc (.cells zs 42)) w.heap.size 42 zs.toList) := Blk.new w _ zs.toList
  have kw1 := keep_new w (.cells zs 42)
  have hz0 : w.heap.size < (w.alloc (.cells zs 42)).heap.size := by simp
  generalize w.alloc (.cells zs 42) = w1 at HR1 kw1 hz0 ⊢
  go_cut [4] (fun p wx => ∃ w9 : World, p = .pointer (some ⟨w9.heap.size, 0, none⟩) ∧ Blk wx w9.heap.size 42 bs.toList ∧ Keep w1 wx ∧ w1.heap.size ≤ w9.heap.size)
  case first =>
    refine wp_region_tree (.take [0,2,3,5,6,8,9] (.fork 1 (.fork 4 (.fork 7 (.fork 10 (.take [11] (.force [12] .done)) 12 (.force [10] (.take [11] .done))) 12 (.force [7,10] (.take [11] .done))) 12 (.force [4,7,10] (.take [11] .done))) 12 (.force [1,4,7,10] (.take [11] .done)))) [13] (by kernel_rfl) (by kernel_rfl) (fun w9 k9 => ?_)
    have k8 := k9
    replace k9 := keep_trans kw1 k9
    refine mt_take w9 (Below.refl _ _) ?_
    simp only [pick_cons, pick_nil, nth_zero, nth_succ]
    repeat (go_big_quiet_step (fail))
    refine wpQuiet_nil ?_
    refine mt_fork ?_ ?_
    · simp only [pick_cons, pick_nil, nth_zero, nth_succ]
      refine fc_step rfl (fun K hK => ?_)
      go_simp
      (with_reducible refine (N1.out _ k9).mono ?_)
      rintro e wX ⟨rfl, rfl⟩
      refine hK _ _ (Below.refl _ _) ?_
      clear hK K
      refine fc_nil ?_
      refine mt_fork ?_ ?_
      · simp only [pick_cons, pick_nil, nth_zero, nth_succ]
        refine fc_step rfl (fun K hK => ?_)
        go_simp
        (with_reducible refine (N4.out _ k9).mono ?_)
        rintro e wX ⟨rfl, rfl⟩
        refine hK _ _ (Below.refl _ _) ?_
        clear hK K
        refine fc_nil ?_
        refine mt_fork ?_ ?_
        · simp only [pick_cons, pick_nil, nth_zero, nth_succ]
          refine fc_step rfl (fun K hK => ?_)
          go_simp
          (with_reducible refine (N7.out _ k9).mono ?_)
          rintro e wX ⟨rfl, rfl⟩
          refine hK _ _ (Below.refl _ _) ?_
          clear hK K
          refine fc_nil ?_
          refine mt_fork ?_ ?_
          · simp only [pick_cons, pick_nil, nth_zero, nth_succ]
            refine fc_step rfl (fun K hK => ?_)
            go_simp
            (with_reducible refine (N10.out _ k9).mono ?_)
            rintro e wX ⟨rfl, rfl⟩
            refine hK _ _ (Below.refl _ _) ?_
            clear hK K
            refine fc_nil ?_
            refine mt_take w9 (Below.refl _ _) ?_
            simp only [pick_cons, pick_nil, nth_zero, nth_succ]
            repeat (go_big_quiet_step (fail))
            refine wpQuiet_nil ?_
            refine mt_force ?_
            simp only [pick_cons, pick_nil, nth_zero, nth_succ]
            refine fc_step rfl (fun K hK => ?_)
            go_simp
            refine hK _ _ (keep_new _ _) ?_
            clear hK K
            refine fc_nil ?_
            refine mt_end ?_
            have hst := Hst.out w9
            go_wp2
            go_meet
            exact ⟨w9, rfl, Blk.new w9 _ bs.toList, keep_trans k8 (keep_new _ _), k8.size⟩
          · simp only [pick_cons, pick_nil, nth_zero, nth_succ]
            refine fc_step rfl (fun K hK => ?_)
            go_simp
            refine hK _ _ (keep_new _ _) ?_
            clear hK K
            refine fc_nil ?_
            refine mt_force ?_
            simp only [pick_cons, pick_nil, nth_zero, nth_succ]
            refine fc_step rfl (fun K hK => ?_)
            go_simp
            (with_reducible refine (N10.out _ (keep_trans k9 (keep_new _ _))).mono ?_)
            rintro e wX ⟨rfl, rfl⟩
            refine hK _ _ (Below.refl _ _) ?_
            clear hK K
            refine fc_nil ?_
            refine mt_take (w9.alloc (.cells zs 42)) (Below.refl _ _) ?_
            simp only [pick_cons, pick_nil, nth_zero, nth_succ]
            repeat (go_big_quiet_step (fail))
            refine wpQuiet_nil ?_
            refine mt_end ?_
            have hst := Hst.out w9
            go_wp2
            go_meet
            exact ⟨w9, rfl, Blk.new w9 _ bs.toList, keep_trans k8 (keep_new _ _), k8.size⟩
        · simp only [pick_cons, pick_nil, nth_zero, nth_succ]
          refine fc_step rfl (fun K hK => ?_)
          go_simp
          refine hK _ _ (keep_new _ _) ?_
          clear hK K
          refine fc_nil ?_
          refine mt_force ?_
          simp only [pick_cons, pick_nil, nth_zero, nth_succ]
          refine fc_step rfl (fun K hK => ?_)
          go_simp
          (with_reducible refine (N7.out _ (keep_trans k9 (keep_new _ _))).mono ?_)
          rintro e wX ⟨rfl, rfl⟩
          refine hK _ _ (Below.refl _ _) ?_
          clear hK K
          refine fc_step rfl (fun K hK => ?_)
          go_simp
          (with_reducible refine (N10.out _ (keep_trans k9 (keep_new _ _))).mono ?_)
          rintro e wX ⟨rfl, rfl⟩
          refine hK _ _ (Below.refl _ _) ?_
          clear hK K
          refine fc_nil ?_
          refine mt_take (w9.alloc (.cells zs 42)) (Below.refl _ _) ?_
          simp only [pick_cons, pick_nil, nth_zero, nth_succ]
          repeat (go_big_quiet_step (fail))
          refine wpQuiet_nil ?_
          refine mt_end ?_
          have hst := Hst.out w9
          go_wp2
          go_meet
          exact ⟨w9, rfl, Blk.new w9 _ bs.toList, keep_trans k8 (keep_new _ _), k8.size⟩
      · simp only [pick_cons, pick_nil, nth_zero, nth_succ]
        refine fc_step rfl (fun K hK => ?_)
        go_simp
        refine hK _ _ (keep_new _ _) ?_
        clear hK K
        refine fc_nil ?_
        refine mt_force ?_
        simp only [pick_cons, pick_nil, nth_zero, nth_succ]
        refine fc_step rfl (fun K hK => ?_)
        go_simp
        (with_reducible refine (N4.out _ (keep_trans k9 (keep_new _ _))).mono ?_)
        rintro e wX ⟨rfl, rfl⟩
        refine hK _ _ (Below.refl _ _) ?_
        clear hK K
        refine fc_step rfl (fun K hK => ?_)
        go_simp
        (with_reducible refine (N7.out _ (keep_trans k9 (keep_new _ _))).mono ?_)
        rintro e wX ⟨rfl, rfl⟩
        refine hK _ _ (Below.refl _ _) ?_
        clear hK K
        refine fc_step rfl (fun K hK => ?_)
        go_simp
        (with_reducible refine (N10.out _ (keep_trans k9 (keep_new _ _))).mono ?_)
        rintro e wX ⟨rfl, rfl⟩
        refine hK _ _ (Below.refl _ _) ?_
        clear hK K
        refine fc_nil ?_
        refine mt_take (w9.alloc (.cells zs 42)) (Below.refl _ _) ?_
        simp only [pick_cons, pick_nil, nth_zero, nth_succ]
        repeat (go_big_quiet_step (fail))
        refine wpQuiet_nil ?_
        refine mt_end ?_
        have hst := Hst.out w9
        go_wp2
        go_meet
        exact ⟨w9, rfl, Blk.new w9 _ bs.toList, keep_trans k8 (keep_new _ _), k8.size⟩
    · simp only [pick_cons, pick_nil, nth_zero, nth_succ]
      refine fc_step rfl (fun K hK => ?_)
      go_simp
      refine hK _ _ (keep_new _ _) ?_
      clear hK K
      refine fc_nil ?_
      refine mt_force ?_
      simp only [pick_cons, pick_nil, nth_zero, nth_succ]
      refine fc_step rfl (fun K hK => ?_)
      go_simp
      (with_reducible refine (N1.out _ (keep_trans k9 (keep_new _ _))).mono ?_)
      rintro e wX ⟨rfl, rfl⟩
      refine hK _ _ (Below.refl _ _) ?_
      clear hK K
      refine fc_step rfl (fun K hK => ?_)
      go_simp
      (with_reducible refine (N4.out _ (keep_trans k9 (keep_new _ _))).mono ?_)
      rintro e wX ⟨rfl, rfl⟩
      refine hK _ _ (Below.refl _ _) ?_
      clear hK K
      refine fc_step rfl (fun K hK => ?_)
      go_simp
      (with_reducible refine (N7.out _ (keep_trans k9 (keep_new _ _))).mono ?_)
      rintro e wX ⟨rfl, rfl⟩
      refine hK _ _ (Below.refl _ _) ?_
      clear hK K
      refine fc_step rfl (fun K hK => ?_)
      go_simp
      (with_reducible refine (N10.out _ (keep_trans k9 (keep_new _ _))).mono ?_)
      rintro e wX ⟨rfl, rfl⟩
      refine hK _ _ (Below.refl _ _) ?_
      clear hK K
      refine fc_nil ?_
      refine mt_take (w9.alloc (.cells zs 42)) (Below.refl _ _) ?_
      simp only [pick_cons, pick_nil, nth_zero, nth_succ]
      repeat (go_big_quiet_step (fail))
      refine wpQuiet_nil ?_
      refine mt_end ?_
      have hst := Hst.out w9
      go_wp2
      go_meet
      exact ⟨w9, rfl, Blk.new w9 _ bs.toList, keep_trans k8 (keep_new _ _), k8.size⟩
  case rest =>
    obtain ⟨w9, rfl, hb9, k9, hz9⟩ := hcut
    have HB1 := Lib.hid hb9; have HR1' := Lib.hid (HR1.out.keep k9); have HK1 := Lib.hid k9
    generalize w9.heap.size = G at HB1 hz9 ⊢
    clear hb9 k9 HR1
    have HR1 := HR1'
    have Hbl : Hid (bs.toList.length = 68) := (Array.length_toList).trans hbz
    clear HR1' N1 N4 N7 N10 Hst
    go_upto_region 6 with fail
    refine wp_region_tree (.take [0,1,2,3] .done) [4] (by kernel_rfl) (by kernel_rfl) (fun v2 k2 => ?_)
    have b2 := Lib.hid (HB1.out.keep k2); have r2 := Lib.hid (HR1.out.keep k2); have q2 := Lib.hid (keep_trans HK1.out k2)
    refine mt_take v2 (Below.refl _ _) ?_
    simp only [pick_cons, pick_nil, nth_zero, nth_succ]
    repeat (go_big_quiet_step (fail))
    refine wpQuiet_nil (mt_end ?_)
    refine wpList_cpy byteW (by rfl) _ _ (by rfl) G 1 32 32 (by rfl) (some ⟨g, off + 4, none⟩) 32 (c - 4) (p1.map u8v) (by rfl) (by rw [List.length_map]; exact ht1) (HS1.out v2 (keep_trans kw1 q2.out)) (one_w8 _) bs.toList _ b2.out (by rw [Array.length_toList, hbz]; omega) ?_
    intro w2 ho2 hg2
    simp only [Act.put, Array.set!_eq_setIfInBounds, List.setIfInBounds_toArray, List.set_cons_succ, List.set_cons_zero]
    have HB2 : Hid (Blk w2 G 42 (splice bs.toList 1 (p1.map u8v))) := by
      have h := ho2.out
      rwa [List.take_of_length_le (by rw [List.length_map]; have : p1.length = 32 := ht1; omega)] at h
    have HR2 := Lib.hid (r2.out.grown hg2 (fun e => by injection e with e; omega))
    have HK2 : Hid (Keep w1 w2) := q2.out.grown hg2 q2.out.size (fun q hq => by injection hq with hq; omega)
    clear ho2 hg2 b2 r2 q2 k2 HB1 HR1 HK1
    have Hl2 : Hid ((splice bs.toList 1 (p1.map u8v)).length = 68) := (length_splice _ _ _ (by rw [Hbl.out, List.length_map]; have : p1.length = 32 := ht1; omega)).trans Hbl.out
    generalize hx2 : splice bs.toList 1 (p1.map u8v) = x2 at HB2 Hl2
    have Hx2 := Lib.hid hx2; clear hx2
    go_upto_region 7 with fail
    refine wp_region_tree (.take [0,1,2,3] .done) [4] (by kernel_rfl) (by kernel_rfl) (fun v3 k3 => ?_)
    have b3 := Lib.hid (HB2.out.keep k3); have r3 := Lib.hid (HR2.out.keep k3); have q3 := Lib.hid (keep_trans HK2.out k3)
    refine mt_take v3 (Below.refl _ _) ?_
    simp only [pick_cons, pick_nil, nth_zero, nth_succ]
    repeat (go_big_quiet_step (fail))
    refine wpQuiet_nil (mt_end ?_)
    refine wpList_cpy byteW (by rfl) _ _ (by rfl) G 33 32 32 (by rfl) (some ⟨g, off + 36, none⟩) 32 (c - 36) (p2.map u8v) (by rfl) (by rw [List.length_map]; exact ht2) (HS2.out v3 (keep_trans kw1 q3.out)) (one_w8 _) x2 _ b3.out (by rw [Hl2.out]; omega) ?_
    intro w3 ho3 hg3
    simp only [Act.put, Array.set!_eq_setIfInBounds, List.setIfInBounds_toArray, List.set_cons_succ, List.set_cons_zero]
    have HB3 : Hid (Blk w3 G 42 (splice x2 33 (p2.map u8v))) := by
      have h := ho3.out
      rwa [List.take_of_length_le (by rw [List.length_map]; have : p2.length = 32 := ht2; omega)] at h
    have HR3 := Lib.hid (r3.out.grown hg3 (fun e => by injection e with e; omega))
    have HK3 : Hid (Keep w1 w3) := q3.out.grown hg3 q3.out.size (fun q hq => by injection hq with hq; omega)
    clear ho3 hg3 b3 r3 q3 k3 HB2 HR2 HK2
    have hfin : splice x2 33 (p2.map u8v) = H.cells := by
      rw [← Hx2.out, Hbs.out, HG.out]
      have e1 : Hd.cells ⟨na, z32, z32, nt, nb, nn⟩ = [u32v na] ++ (z32.map u8v ++ (z32.map u8v ++ [u32v nt, u32v nb, u32v nn])) := rfl
      rw [e1, splice_mid [u32v na] _ _ (p1.map u8v) 1 rfl (by rw [List.length_map, List.length_map]; exact Eq.symm ht1), ← List.append_assoc,
        splice_mid ([u32v na] ++ p1.map u8v) _ _ (p2.map u8v) 33 (by have : p1.length = 32 := ht1; simp [this]) (by rw [List.length_map, List.length_map]; exact Eq.symm ht2)]
      simp [Hd.cells]
    have hok : H.ok := by rw [HG.out]; exact ⟨ht1, ht2⟩
    rw [hfin] at HB3
    clear hfin Hx2
    obtain ⟨cs, hcs⟩ : ∃ cs, HdA H cs := ⟨_, HdA.of hok⟩
    have hcz := hcs.z; have hcn := hcs.n; have hci := hcs.i
    have HB4 : Hid (Blk w3 G 42 cs.toList) := by rw [hcs.l]; exact HB3.out
    obtain ⟨w8, hst, hb8, hg8⟩ := run_store_blk (P := Tryd.prog) cs.toList HR3.out (by simp [hz1, hcz]) hcs.o
    have Hb8 := Lib.hid hb8; have Hg8 := Lib.hid hg8; have Hcs := Lib.hid hcs
    clear hb8 hg8 hcs hok
    go_upto_region 8 with fail
    go_wp2_with ((with_reducible refine load_arr G cs (Eq.trans ?_ rfl) HB4.out _ Tryd.underlying42 rfl hci ?_); rfl)
    have hb8 := Hb8.out
    have hk8 : Keep w w3 := keep_trans kw1 HK3.out
    exact bodyPost_ret (v := .tuple #[.agg cs, .int .i64 0]) (results_cell_tmp_row Tryd.results73 _ _ w.heap.size _ _ _ _ rfl hb8 Tryd.underlying42 rfl (by rw [List.size_toArray, Array.length_toList]; exact hci)) rfl ⟨cs, rfl, Hcs.out, hk8.grown Hg8.out hk8.size (fun q hq => by injection hq with hq; omega)⟩
end Go.Proofs.YtffpanlpbdnafaaDoor

/- header.Get of too few bytes, PutAll, GetAll. (printed by gen_vg.py) -/
set_option linter.unusedSimpArgs false
set_option linter.unusedVariables false
namespace Go.Proofs.YtffpanlpbdnafaaDoor
open Go.RowKit
attribute [local go_sem ↓] Go.wp_at_zero Go.wp_at_succ
theorem zhead_HdA : HdA ⟨0, z32, z32, 0, 0, 0⟩ zhead := by
  have h := HdA.of (h := ⟨0, z32, z32, 0, 0, 0⟩) ⟨rfl, rfl⟩
  rwa [← zhead_list, Array.toArray_toList] at h
theorem zhead_built : Tryd.prog.built 42 [] = some zhead := by kernel_rfl
theorem zheadB_letter : ∃ zs : Array Value, HdA ⟨0, z32, z32, 0, 0, 0⟩ zs ∧ (∀ w, (zeroValue 42).run Tryd.prog w = .ok (.agg zs) w) ∧ Tryd.prog.built 42 [] = some zs :=
  ⟨zhead, zhead_HdA, zhead_zero, zhead_built⟩
def hpa (l : List Hd) : List UInt8 := l.flatMap fun h => hputL h ++ [0]
def hpall (l : List Hd) : List UInt8 := cptL l.length ++ hpa l
theorem hpa_len (l : List Hd) (hk : ∀ h ∈ l, h.ok) : (hpa l).length = l.length * 81 := by
  unfold hpa
  exact flatMap_len' _ 81 l fun h hh => by rw [List.length_append, hputL_len (hk h hh)]; rfl
set_option maxRecDepth 100000 in
set_option maxHeartbeats 4000000 in
theorem hpall_any (A : Option Addr) (l : List Hd) (c : Nat) (w : World) (hl : l.length ≤ 2000) (hk : ∀ h ∈ l, h.ok) (hr : Rd w A (l.flatMap Hd.cells)) :
    Calls Tryd.prog 66 #[.slice A l.length c] w fun e w' => ∃ v, e = .returned (.tuple #[v, iv 0]) ∧ w'.ownsRow w.heap.size 5 1 v (hpall l).length ((hpall l).map u8v) ∧ Keep w w' := by
  have C1 : Hid (∀ y, Calls Tryd.prog 82 #[.slice none 0 0, u64v l.length] y fun e w' => ∃ v, e = .returned v ∧ w'.ownsRow y.heap.size 5 1 v (sizN l.length) ((cptL l.length).map u8v) ∧ Keep y w') := Lib.hid fun y => cput_any l.length (by omega) y
  have hs := siz_le l.length
  have HLEN : Hid ((hpall l).length = sizN l.length + l.length * 81) := Lib.hid (by unfold hpall; rw [List.length_append, cpt_len, hpa_len l hk])
  have HAT : Hid (∀ k (h : k < l.length), ∃ (x : Hd) (xs : Array Value), x.ok ∧ HdA x xs ∧ (l.take (k + 1)) = l.take k ++ [x] ∧ ∃ b off, A = some ⟨b, off, none⟩ ∧ w.rangeAt b (off + k * 68) xs.toList) := Lib.hid fun k h => by
    obtain ⟨b, off, h1, -, h2⟩ := heads_at hr hk h
    have hx := HdA.of (hk _ (List.getElem_mem h))
    exact ⟨l[k], _, hk _ (List.getElem_mem h), hx, List.take_succ_eq_append_getElem h, b, off, h1, by rw [hx.l]; exact h2⟩
  have HFN : Hid ((cptL l.length ++ hpa (l.take l.length)) = hpall l) := Lib.hid (by rw [List.take_length]; rfl)
  have H0 : Hid (∀ C : List UInt8, C ++ hpa (l.take 0) = C) := Lib.hid fun C => by simp [hpa]
  have H1 : Hid (∀ (C : List UInt8) k x, l.take (k + 1) = l.take k ++ [x] → C ++ hpa (l.take (k + 1)) = (C ++ hpa (l.take k)) ++ (hputL x ++ [0])) := Lib.hid fun C k x h => by rw [h]; simp [hpa]
  clear hr hk
  generalize hpall l = R at *
  generalize cptL l.length = C at *
  generalize sizN l.length = s at *
  obtain ⟨n, hn⟩ : ∃ n, l.length = n := ⟨_, rfl⟩
  rw [hn] at C1 HLEN HAT HFN hl ⊢
  clear hn
  have d1 : ¬ (2000 : Int) < n := by omega
  have hw : IntKind.u64.wrap (n : Int) = n := by rw [IntKind.wrap_u64]; omega
  obtain ⟨zs, hz1, hz2, hz3, hz4⟩ := zhead_letter
  clear hz4
  go_enter Tryd.func66, Tryd.ntmps66
  go_wp2_with fail
  refine (C1.out _).mono ?_
  clear C1
  rintro e w1 ⟨v1, rfl, hown, k1⟩
  have Own0 : Hid (w1.ownsRow w.heap.size 5 1 v1 (s + 0 * 81) ((C ++ hpa (l.take 0)).map u8v)) := Lib.hid (own_eq hown (by omega) (by rw [H0.out]))
  have HK1 := Lib.hid k1
  clear k1 hown H0
  go_wp2_with fail
  clear d1 hw
  go_loopw [4, 16] (fun v x wr => ∃ k : Nat, k ≤ n ∧ x = .int .i64 k ∧ Hid (wr.ownsRow w.heap.size 5 1 v (s + k * 81) ((C ++ hpa (l.take k)).map u8v)) ∧ Hid (Keep w wr)) (fun _ x _ => n - (intOf x).toNat)
  case atStart => exact ⟨0, Nat.zero_le _, rfl, Own0, HK1⟩
  case round =>
    obtain ⟨k, hk, rfl, Own1, HKr⟩ := hrel
    by_cases hlt : k < n
    · obtain ⟨x, xs, hxo, hxs, htk, b, off, rfl, hrg⟩ := HAT.out k hlt
      have HH1 := Lib.hid (H1.out C k x htk)
      have P1 : Hid (∀ y, Calls Tryd.prog 65 #[.agg xs] y fun e w' => ∃ A, e = .returned (.slice A 80 80) ∧ Rd w' A ((hputL x).map u8v) ∧ Keep y w') := Lib.hid fun y => hput_any x xs y hxo hxs
      have HPL := Lib.hid (hputL_len hxo)
      have hxz := hxs.z; have hxn := hxs.n; have hxi := hxs.i
      have RX : Hid (wr.rangeAt b (off + k * 68) xs.toList) := Lib.hid fun j v hv => keep_cell HKr.out (hrg j v hv)
      have hst : (storeCells ⟨wr.heap.size, 0, none⟩ xs.toList 0).run Tryd.prog (wr.alloc (.cells zs 42)) = .ok () (wr.alloc (.cells xs 42)) := run_storeCells_new (P := Tryd.prog) wr 42 zs xs hxi (hz1.trans hxz.symm) (by have := all_oneCell_toArray hxs.o; rwa [Array.toArray_toList] at this)
      have d2 : (k : Int) < n := by omega
      clear hxo hxs htk hrg HAT H1
      obtain ⟨Av, cv, rfl, -, -, -⟩ := own_form Own1.out
      go_upto_region 7 with ((with_reducible refine load_partg b (off + k * 68) xs (Eq.trans ?_ rfl) RX.out _ Tryd.underlying42 rfl hxi rfl ?_); rfl)
      obtain ⟨w2, hw2⟩ : ∃ w2, w2 = wr.alloc (.cells xs 42) := ⟨_, rfl⟩
      have HB2 : Hid (Blk w2 wr.heap.size 42 xs.toList) := by rw [hw2]; exact Lib.hid (Blk.new wr 42 xs.toList)
      have HK2 : Hid (Keep w w2) := by rw [hw2]; exact Lib.hid (keep_trans HKr.out (keep_new _ _))
      have Own2 : Hid (w2.ownsRow w.heap.size 5 1 (.slice Av (s + k * 81) cv) (s + k * 81) ((C ++ hpa (l.take k)).map u8v)) := by rw [hw2]; exact Lib.hid (Own1.out.alloc _)
      rw [← hw2]
      clear hw2 hst RX HKr Own1
      generalize wr.heap.size = gb at *
      have RB : Hid (w2.rangeAt gb 0 xs.toList) := Lib.hid (range_of HB2.out 0 xs.toList (by simp [List.take_of_length_le]))
      clear HB2
      go_wp2_with ((with_reducible refine load_partg gb 0 xs (Eq.trans ?_ rfl) RB.out _ Tryd.underlying42 rfl hxi rfl ?_); rfl)
      refine (P1.out _).mono ?_
      clear P1 RB
      rintro e w3 ⟨Ap, rfl, hrp, k3⟩
      have HK3 := Lib.hid (keep_trans HK2.out k3)
      have Own3 := Lib.hid (own_keep Own2.out k3)
      have RP := Lib.hid hrp
      clear k3 hrp HK2 Own2
      go_upto_region 8 with (at_builtin; refine wpList_app byteT (by rfl) _ _ (by rfl) w.heap.size _ (s + k * 81) _ (by rfl) Own3.out _ 80 80 ((hputL x).map u8v) (by rfl) (by rw [List.length_map, HPL.out]) RP.out (one_bytes _) (by omega) (by unfold maxLen; omega) (by have := HK3.out.size; omega) ?_; intro v4 w4 own4 hg4 hat4; have Own4 := Lib.hid own4; have HK4 := Lib.hid (keep_grown HK3.out (by have := HK3.out.size; omega) hg4 Own3.out); clear own4 hg4 hat4 Own3 HK3)
      go_wp2_with (at_builtin; refine wpList_app byteT (by rfl) _ _ (by rfl) w.heap.size _ (s + k * 81 + 80) _ (by rfl) (Own4.out.alloc _) _ 1 1 [.int .u8 0] (by rfl) (by rfl) (Rd.new _ _ _) (by simp [Value.oneCell']) (by omega) (by unfold maxLen; omega) (by have := HK4.out.size; simp; omega) ?_; intro v5 w5 own5 hg5 hat5; have Own5 := Lib.hid own5; have HK5 := Lib.hid (keep_grown (HK4.out.alloc (HK4.out.size) _) (by have := HK4.out.size; simp; omega) hg5 (Own4.out.alloc _)); clear own5 hg5 hat5 Own4 HK4)
      go_roundw
      case rel => exact ⟨k + 1, by omega, by go_num, Lib.hid (own_eq Own5.out (by omega) (by rw [HH1.out]; simp)), HK5⟩
      case measure => simp [intOf]; omega
    · obtain rfl : k = n := by omega
      have d2 : ¬ (k : Int) < k := by omega
      obtain ⟨Ao, co, rfl, -, -, -⟩ := own_form Own1.out
      go_wp2
      exact bodyPost_ret (v := .tuple #[.slice Ao (s + k * 81) co, iv 0]) (by simp [results, Tryd.results66]) rfl ⟨_, rfl, own_eq Own1.out HLEN.out.symm (by rw [HFN.out]), HKr.out⟩
end Go.Proofs.YtffpanlpbdnafaaDoor

/- header.GetAll. (printed by gen_vh.py) -/
set_option linter.unusedSimpArgs false
set_option linter.unusedVariables false
namespace Go.Proofs.YtffpanlpbdnafaaDoor
open Go.RowKit
attribute [local go_sem ↓] Go.wp_at_zero Go.wp_at_succ
def hgal (b : List UInt8) : Nat → Nat → List Hd × Int
  | 0, a => if b.length ≤ a then ([], 0) else ([], 2)
  | n + 1, a => if b.length ≤ a + 80 then ([], 1) else if b.getD (a + 80) 0 = 0 then
      if (hgal b n (a + 81)).2 = 0 then (hgetL ((b.drop a).take 80) :: (hgal b n (a + 81)).1, 0) else ([], (hgal b n (a + 81)).2)
    else ([], 2)
def hgall (b : List UInt8) : List Hd × Int := if (bndN b 2000).2.2 = 0 then hgal b (bndN b 2000).1 (bndN b 2000).2.1 else ([], (bndN b 2000).2.2)
def hgalW (ds : List Hd) (r : List Hd × Int) : List Hd × Int := if r.2 = 0 then (ds ++ r.1, 0) else ([], r.2)
theorem hgalW_nil (r : List Hd × Int) (h : r.2 = 0 ∨ r.1 = []) : hgalW [] r = r := by
  unfold hgalW
  split
  · rename_i q; rw [List.nil_append, ← q]
  · rename_i q
    rcases h with h | h
    · exact absurd h q
    · rw [← h]
theorem hgal_e (b : List UInt8) : ∀ n a, (hgal b n a).2 = 0 ∨ (hgal b n a).1 = []
  | 0, a => by unfold hgal; split <;> simp
  | n + 1, a => by unfold hgal; split; · exact .inr rfl
                   · split
                     · split
                       · exact .inl rfl
                       · exact .inr rfl
                     · exact .inr rfl
theorem hgalW_step (b : List UInt8) (ds : List Hd) (n a : Nat) (h1 : ¬ b.length ≤ a + 80) (h2 : b.getD (a + 80) 0 = 0) : hgalW ds (hgal b (n + 1) a) = hgalW (ds ++ [hgetL ((b.drop a).take 80)]) (hgal b n (a + 81)) := by
  rw [hgal, if_neg h1, if_pos h2]
  unfold hgalW
  by_cases h : (hgal b n (a + 81)).2 = 0
  · rw [if_pos h, if_pos rfl, if_pos h]; simp
  · rw [if_neg h, if_neg h, if_neg h]
theorem hgalW_short (b : List UInt8) (ds : List Hd) (n a : Nat) (h1 : b.length ≤ a + 80) : hgalW ds (hgal b (n + 1) a) = ([], 1) := by
  rw [hgal, if_pos h1]; rfl
theorem hgalW_form (b : List UInt8) (ds : List Hd) (n a : Nat) (h1 : ¬ b.length ≤ a + 80) (h2 : b.getD (a + 80) 0 ≠ 0) : hgalW ds (hgal b (n + 1) a) = ([], 2) := by
  rw [hgal, if_neg h1, if_neg h2]; rfl
theorem hgalW_end (b : List UInt8) (ds : List Hd) (a : Nat) : hgalW ds (hgal b 0 a) = if b.length ≤ a then (ds, 0) else ([], 2) := by
  unfold hgal
  split
  · unfold hgalW; rw [if_pos rfl, List.append_nil]
  · rfl
set_option maxRecDepth 100000 in
set_option maxHeartbeats 8000000 in
theorem hgall_any (A : Option Addr) (b : List UInt8) (c : Nat) (w : World) (hl : b.length ≤ 1000000000) (hc : b.length ≤ c) (hcm : c ≤ maxLen) (hr : Rd w A (b.map u8v)) :
    Calls Tryd.prog 74 #[.slice A b.length c] w fun e w' => ∃ v, e = .returned (.tuple #[v, iv (hgall b).2]) ∧ w'.ownsRow w.heap.size 42 68 v (hgall b).1.length ((hgall b).1.flatMap Hd.cells) ∧ Keep w w' := by
  have G1 : Hid (Calls Tryd.prog 87 #[.slice A b.length c, u64v 2000] w fun e w' => e = .returned (.tuple #[iv (bndN b 2000).1, iv (bndN b 2000).2.1, iv (bndN b 2000).2.2]) ∧ Keep w w') := Lib.hid (bnd_any A b c 2000 w (by omega) hr)
  have HRG := Lib.hid (bnd_rng b 2000)
  have HB : Hid (∀ R, hgall b = R → R = if (bndN b 2000).2.2 = 0 then hgalW [] (hgal b (bndN b 2000).1 (bndN b 2000).2.1) else ([], (bndN b 2000).2.2)) := Lib.hid fun R h => by
    subst h; unfold hgall
    rw [hgalW_nil _ (hgal_e _ _ _)]
  replace HB := Lib.hid (HB.out _ rfl)
  have RB := Lib.hid hr
  have HG : Hid (∀ y A' c' a, Keep w y → a + 80 ≤ b.length → 80 ≤ c' → c' ≤ maxLen → Rd y A' ((b.drop a).map u8v) → Calls Tryd.prog 73 #[.slice A' 80 c'] y fun e w' => ∃ cs, e = .returned (.tuple #[.agg cs, .int .i64 0]) ∧ HdA (hgetL ((b.drop a).take 80)) cs ∧ Keep y w') := Lib.hid fun y A' c' a hy h1 h2 h3 h4 => by
    have h5 := h4.take 80
    rw [← List.map_take] at h5
    exact hget_any A' ((b.drop a).take 80) c' y (by rw [List.length_take, List.length_drop]; omega) h2 h3 h5
  have S1 : Hid (∀ ds n a, ¬ b.length ≤ a + 80 → b.getD (a + 80) 0 = 0 → hgalW ds (hgal b (n + 1) a) = hgalW (ds ++ [hgetL ((b.drop a).take 80)]) (hgal b n (a + 81))) := Lib.hid fun ds n a => hgalW_step b ds n a
  have S2 : Hid (∀ ds n a, b.length ≤ a + 80 → hgalW ds (hgal b (n + 1) a) = ([], 1)) := Lib.hid fun ds n a => hgalW_short b ds n a
  have S3 : Hid (∀ ds n a, ¬ b.length ≤ a + 80 → b.getD (a + 80) 0 ≠ 0 → hgalW ds (hgal b (n + 1) a) = ([], 2)) := Lib.hid fun ds n a => hgalW_form b ds n a
  have S4 : Hid (∀ ds a, hgalW ds (hgal b 0 a) = if b.length ≤ a then (ds, 0) else ([], 2)) := Lib.hid fun ds a => hgalW_end b ds a
  clear hr
  generalize hgall b = R at *
  generalize bndN b 2000 = G at *
  obtain ⟨n, k, e0⟩ := G
  obtain ⟨L, hL⟩ : ∃ L, b.length = L := ⟨_, rfl⟩
  have HLL := Lib.hid hL
  rw [hL] at G1 HRG HG S1 S2 S3 S4 hl hc ⊢
  clear hL
  unfold maxLen at hcm
  simp only at G1 HB HRG
  obtain ⟨zs, hz1, hz2, hz3, hz4⟩ := zhead_letter
  clear hz4
  go_enter Tryd.func74, Tryd.ntmps74
  go_wp2_with fail
  refine G1.out.mono ?_
  clear G1
  rintro e w1 ⟨rfl, k1⟩
  have HK1 := Lib.hid k1
  clear k1
  have hv := HB.out
  by_cases h0 : e0 = 0
  case neg =>
    rw [if_neg h0] at hv
    subst hv
    have d1 : (e0 != 0) = true := by rw [bne_iff_ne]; exact h0
    clear HB HRG HG S1 S2 S3 S4
    go_wp2
    exact bodyPost_ret (v := .tuple #[.slice none 0 0, iv e0]) (by simp [results, Tryd.results74]) rfl ⟨_, rfl, World.ownsRow_nil _ _ _ _, HK1.out⟩
  subst h0
  rw [if_pos rfl] at hv
  obtain ⟨q1, q2, q3, q4⟩ := HRG.out rfl
  have HV := Lib.hid hv
  clear hv HB HRG
  obtain ⟨g0, off0, rfl, -, -⟩ := RB.out.at (k := 0) (by rw [List.length_map, HLL.out]; omega)
  have hsub : IntKind.i64.wrap ((L : Int) - k) = (L : Int) - k := IntWalk.i64_in _ (by omega)
  go_upto_region 4 with fail
  go_cut [0] (fun s0 wx => ∃ A', s0 = .slice A' (L - k) (c - k) ∧ Hid (Rd w A' ((b.drop k).map u8v)) ∧ wx = w1)
  case first =>
    go_wp2_with fail
    all_goals go_meet
    all_goals
      first
        | (refine ⟨some ⟨g0, off0 + k, none⟩, rfl, Lib.hid ?_, rfl⟩
           have := RB.out.dropN (k := k) (by rw [List.length_map, HLL.out]; omega)
           rw [Option.map_some, add_lit0] at this
           rw [List.map_drop]; exact this)
        | (refine ⟨some ⟨g0, off0, none⟩, by congr 1; omega, Lib.hid ?_, rfl⟩
           have : b.drop k = [] := List.drop_eq_nil_of_le (by rw [HLL.out]; omega)
           rw [this]; exact Rd.nil _ _)
  case rest =>
    obtain ⟨A1, rfl, RD1, rfl⟩ := hcut
    go_wp2_with fail
    clear hsub
    go_loopw [0, 7, 23] (fun s0 v x wr => ∃ (i a : Nat) (A' : Option Addr) (ds : List Hd), i ≤ n ∧ a ≤ L ∧ x = .int .i64 i ∧ s0 = .slice A' (L - a) (c - a) ∧ ds.length = i ∧ Hid (Rd w A' ((b.drop a).map u8v)) ∧ Hid (wr.ownsRow w.heap.size 42 68 v i (ds.flatMap Hd.cells)) ∧ Hid (R = hgalW ds (hgal b (n - i) a)) ∧ Hid (Keep w wr)) (fun _ _ x _ => n - (intOf x).toNat)
    case atStart => exact ⟨0, k, A1, [], Nat.zero_le _, q3, rfl, rfl, rfl, RD1, Lib.hid (World.ownsRow_nil _ _ _ _), Lib.hid (by rw [Nat.sub_zero]; exact HV.out), HK1⟩
    case round =>
      obtain ⟨i, a, A', ds, hi, ha, rfl, rfl, hdl, RDa, Own1, HRi, HKr⟩ := hrel
      have HDL := Lib.hid hdl
      clear hdl
      by_cases hlt : i < n
      · have d1 : (i : Int) < n := by omega
        have hr := HRi.out
        rw [show n - i = (n - (i + 1)) + 1 by omega] at hr
        by_cases h80 : L ≤ a + 80
        · rw [S2.out _ _ _ h80] at hr
          subst hr
          have d2 : ((L - a : Nat) : Int) ≤ 80 := by omega
          have d3 : L - a ≤ 80 := by omega
          clear HRi S1 S2 S3 S4 HG
          go_wp2
          exact bodyPost_ret (v := .tuple #[.slice none 0 0, iv 1]) (by simp [results, Tryd.results74]) rfl ⟨_, rfl, World.ownsRow_nil _ _ _ _, HKr.out⟩
        obtain ⟨g, off, rfl, hg, hcell⟩ := RDa.out.at (k := 80) (by rw [List.length_map, List.length_drop, HLL.out]; omega)
        have c80 := hcell 80 (by rw [List.length_map, List.length_drop, HLL.out]; omega)
        have h80v : (b.map u8v).drop a = (b.drop a).map u8v := List.map_drop.symm
        obtain ⟨y, hy⟩ : ∃ y, b.getD (a + 80) 0 = y := ⟨_, rfl⟩
        have hcy : wr.cell? ⟨g, off + 80, none⟩ = some (u8v y) := by
          rw [keep_cell HKr.out c80, ← hy]
          simp [List.getD_eq_getElem?_getD, List.getElem?_eq_getElem (show a + 80 < b.length by rw [HLL.out]; omega)]
        have HCY := Lib.hid hcy
        have HY := Lib.hid hy
        have HG2 : Hid (∀ y m c', Keep w y → m = 80 → c' = c - a → Calls Tryd.prog 73 #[.slice (some ⟨g, off, none⟩) m c'] y fun e w' => ∃ cs, e = .returned (.tuple #[.agg cs, .int .i64 0]) ∧ HdA (hgetL ((b.drop a).take 80)) cs ∧ Keep y w') := Lib.hid fun y m c' h1 h3 h4 => by
          subst h3; subst h4
          exact HG.out y _ _ a h1 (by omega) (by omega) (by unfold maxLen; omega) (RDa.out.keep h1)
        have d2 : ¬ ((L - a : Nat) : Int) ≤ 80 := by omega
        have d3 : ¬ (L - a ≤ 80) := by omega
        have d4 : 80 ≤ c - a := by omega
        have HR2 := Lib.hid hr
        clear hr HRi c80 h80v hy hcy hcell HG S2
        go_wp2_with fail
        (with_reducible refine (HG2.out _ _ _ HKr.out rfl rfl).mono ?_)
        clear HG2
        rintro e w2 ⟨cs, rfl, hcs, k2⟩
        have hcz := hcs.z; have hcn := hcs.n; have hci := hcs.i
        have hst : (storeCells ⟨w2.heap.size, 0, none⟩ cs.toList 0).run Tryd.prog (w2.alloc (.cells zs 42)) = .ok () (w2.alloc (.cells cs 42)) := run_storeCells_new (P := Tryd.prog) w2 42 zs cs hci (hz1.trans hcz.symm) (by have := all_oneCell_toArray hcs.o; rwa [Array.toArray_toList] at this)
        have Hcs := Lib.hid hcs
        obtain ⟨Av, cv, rfl, -, -, -⟩ := own_form Own1.out
        have Own2 := Lib.hid (own_keep Own1.out k2)
        have HK2 := Lib.hid (keep_trans HKr.out k2)
        have HRW := Lib.hid k2
        clear hcs k2 Own1 HKr
        go_upto_region 11 with fail
        obtain ⟨w3, hw3⟩ : ∃ w3, w3 = w2.alloc (.cells cs 42) := ⟨_, rfl⟩
        have HB3 : Hid (Blk w3 w2.heap.size 42 cs.toList) := by rw [hw3]; exact Lib.hid (Blk.new w2 42 cs.toList)
        have HK3 : Hid (Keep w w3) := by rw [hw3]; exact Lib.hid (keep_trans HK2.out (keep_new _ _))
        have HR3 : Hid (Keep wr w3) := by rw [hw3]; exact Lib.hid (keep_trans HRW.out (keep_new _ _))
        have Own3 : Hid (w3.ownsRow w.heap.size 42 68 (.slice Av i cv) i (ds.flatMap Hd.cells)) := by rw [hw3]; exact Lib.hid (Own2.out.alloc _)
        rw [← hw3]
        clear hw3 hst HK2 HRW Own2
        generalize w2.heap.size = gb at *
        have c80 := keep_cell HR3.out HCY.out
        have RB : Hid (w3.rangeAt gb 0 cs.toList) := Lib.hid (range_of HB3.out 0 cs.toList (by simp [List.take_of_length_le]))
        clear HB3
        have d5 : ((80 : Nat) : Int) < ((L - a : Nat) : Int) := by omega
        by_cases hy0 : y = 0
        · have d6 : ((y.toNat : Int) != 0) = false := by rw [hy0]; rfl
          have hr := HR2.out
          rw [S1.out _ _ _ h80 (HY.out.trans hy0)] at hr
          have HR4 := Lib.hid hr
          clear hr HR2 S1 S3 hy0 HY
          have hs3 := HK3.out.size
          have RBK := Lib.hid RB.out
          go_upto_region 16 with (first
            | ((with_reducible refine load_partg gb 0 cs (Eq.trans ?_ rfl) RB.out _ Tryd.underlying42 rfl hci rfl ?_); rfl)
            | ((with_reducible refine list_build1h headTb cs hcz (by omega) (Eq.trans ?_ rfl) ?_); rfl)
            | (at_builtin; refine wpList_app headTb (by rfl) _ _ (by rfl) w.heap.size _ i _ (by rfl) (Own3.out.alloc _) _ 1 1 cs.toList (by rfl) (by rw [Array.length_toList, hcz]) (by simpa using Rd.new w3 cs.toList 42) Hcs.out.o (by omega) (by unfold maxLen; omega) (by simp; omega) ?_; intro v4 w4 own4 hg4 hat4; have k4 := keep_grown (HK3.out.alloc HK3.out.size _) (by simp; omega) hg4 (Own3.out.alloc _)))
          have Own4 := Lib.hid own4; have HK4 := Lib.hid k4
          clear own4 k4 hg4 hat4 RB RBK c80 d5 d6 Own3
          have d7 : ((81 : Nat) : Int) ≤ ((L - a : Nat) : Int) := by omega
          have d8 : 81 ≤ L - a := by omega
          have HRD : Hid (Rd w (if c - a = 81 then some ⟨g, off, none⟩ else some ⟨g, off + 81, none⟩) ((b.drop (a + 81)).map u8v)) := Lib.hid (by
            split
            · have : b.drop (a + 81) = [] := List.drop_eq_nil_of_le (by rw [HLL.out]; omega)
              rw [this]; exact Rd.nil _ _
            · have q := RDa.out.dropN (k := 81) (by rw [List.length_map, List.length_drop, HLL.out]; omega)
              rw [Option.map_some, add_lit0, ← List.map_drop, List.drop_drop] at q
              exact q)
          go_wp2
          go_roundw
          case rel => exact ⟨i + 1, a + 81, (if c - a = 81 then some ⟨g, off, none⟩ else some ⟨g, off + 81, none⟩), ds ++ [hgetL ((b.drop a).take 80)], by omega, by omega, by go_num, by rw [Nat.sub_sub, Nat.sub_sub], by rw [List.length_append, HDL.out]; rfl, HRD, Lib.hid (own_eq Own4.out rfl (by rw [List.flatMap_append, Hcs.out.l]; simp)), HR4, HK4⟩
          case measure => simp [intOf]; omega
        · have hyn : y.toNat ≠ 0 := fun q => hy0 (UInt8.toNat_inj.1 (q.trans rfl))
          have d6 : ((y.toNat : Int) != 0) = true := by rw [bne_iff_ne]; omega
          have hr := HR2.out
          rw [S3.out _ _ _ h80 (fun q => hy0 (HY.out.symm.trans q))] at hr
          subst hr
          clear HR2 S1 S3 HY RB
          go_wp2
          exact bodyPost_ret (v := .tuple #[.slice none 0 0, iv 2]) (by simp [results, Tryd.results74]) rfl ⟨_, rfl, World.ownsRow_nil _ _ _ _, HK3.out⟩
      · obtain rfl : i = n := by omega
        have d1 : ¬ (i : Int) < i := by omega
        have hr := HRi.out
        rw [Nat.sub_self, S4.out] at hr
        clear HRi S1 S2 S3 S4 HG
        obtain ⟨Av, cv, rfl, -, -, -⟩ := own_form Own1.out
        by_cases hLa : L ≤ a
        · rw [if_pos hLa] at hr
          subst hr
          have d2 : ¬ (0 : Int) < ((L - a : Nat) : Int) := by omega
          have d3 : ¬ 0 < L - a := by omega
          go_wp2
          exact bodyPost_ret (v := .tuple #[.slice Av i cv, iv 0]) (by simp [results, Tryd.results74]) rfl ⟨_, rfl, own_eq Own1.out HDL.out.symm rfl, HKr.out⟩
        · rw [if_neg hLa] at hr
          subst hr
          have d2 : (0 : Int) < ((L - a : Nat) : Int) := by omega
          have d3 : 0 < L - a := by omega
          go_wp2
          exact bodyPost_ret (v := .tuple #[.slice none 0 0, iv 2]) (by simp [results, Tryd.results74]) rfl ⟨_, rfl, World.ownsRow_nil _ _ _ _, HKr.out⟩
end Go.Proofs.YtffpanlpbdnafaaDoor

/- Messages in memory. -/
set_option linter.unusedSimpArgs false
set_option linter.unusedVariables false
namespace Go.Proofs.YtffpanlpbdnafaaDoor
open Go.RowKit
attribute [local go_sem ↓] Go.wp_at_zero Go.wp_at_succ
theorem run_store_prt {P : Program} {w : World} {g : Nat} {t : TypeId} {all : List Value} (off : Nat) (cs : List Value) (hb : Blk w g t all) (hl : off + cs.length ≤ all.length) (h1 : ∀ v ∈ cs, v.oneCell' = true) :
    ∃ w', (storeCells ⟨g, off, none⟩ cs 0).run P w = .ok () w' ∧ Blk w' g t (splice all off cs) ∧ w.grownBy w' (some g) := by
  have hrun := run_storeCells_at P g off t cs 0 all.toArray w hb (by simpa using hl) h1
  simp only [Nat.add_zero, List.toList_toArray] at hrun
  refine ⟨_, hrun, ?_, rfl, rfl, rfl, by simp [World.setRow], fun k _ hne => setRow_other w g k _ (fun e => hne (by rw [e]))⟩
  have h := setRow_heap w g all.toArray (all.take off ++ cs ++ all.drop (off + cs.length)).toArray t (0, 0) hb
  unfold Blk splice
  rw [← List.append_assoc]
  exact h
structure MsgR where
  kind : Int
  proto : UInt32
  nonce : Nat
  height : UInt32
  hA : Option Addr
  hs : List Hd
  hc : Nat
  lA : Option Addr
  ls : List (List UInt8)
  lc : Nat
  stop : List UInt8
  iA : Option Addr
  is : List Itm
  ic : Nat
  bh : Hd
  total : UInt32
  sA : Option Addr
  shs : List (List UInt8)
  sc : Nat
  fA : Option Addr
  fs : List UInt8
  fc : Nat
  t : TxR
def zHdr : Hd := ⟨0, z32, z32, 0, 0, 0⟩
def msgZ (k : Int) : MsgR := ⟨k, 0, 0, 0, none, [], 0, none, [], 0, z32, none, [], 0, zHdr, 0, none, [], 0, none, [], 0, txZ⟩
namespace MsgR
def blk (m : MsgR) : List Value := m.bh.cells ++ [u32v m.total, .slice m.sA m.shs.length m.sc, .slice m.fA m.fs.length m.fc]
def cells (m : MsgR) : List Value :=
  [.int .i64 m.kind, u32v m.proto, u64v m.nonce, u32v m.height, .slice m.hA m.hs.length m.hc, .slice m.lA m.ls.length m.lc] ++ (m.stop.map u8v ++ (.slice m.iA m.is.length m.ic :: (m.blk ++ m.t.cells)))
structure ok (m : MsgR) : Prop where
  k : -9223372036854775808 ≤ m.kind ∧ m.kind ≤ 9223372036854775807
  n : m.nonce < 2 ^ 64
  s : m.stop.length = 32
  b : m.bh.ok
  h : ∀ x ∈ m.hs, x.ok
  l : ∀ x ∈ m.ls, x.length = 32
  i : ∀ x ∈ m.is, x.ok
  z : ∀ x ∈ m.shs, x.length = 32
structure at_ (m : MsgR) (w : World) : Prop where
  o : m.ok
  h : Rd w m.hA (m.hs.flatMap Hd.cells)
  hc : m.hs.length ≤ m.hc ∧ m.hc ≤ maxLen
  l : Rd w m.lA (hsL m.ls)
  lc : m.ls.length ≤ m.lc ∧ m.lc ≤ maxLen
  i : Rd w m.iA (m.is.flatMap Itm.cells)
  ic : m.is.length ≤ m.ic ∧ m.ic ≤ maxLen
  s : Rd w m.sA (hsL m.shs)
  sc : m.shs.length ≤ m.sc ∧ m.sc ≤ maxLen
  f : Rd w m.fA (m.fs.map u8v)
  fc : m.fs.length ≤ m.fc ∧ m.fc ≤ maxLen
  t : m.t.at w
theorem at_.keep {m : MsgR} {w w' : World} (h : m.at_ w) (k : Keep w w') : m.at_ w' := ⟨h.o, h.h.keep k, h.hc, h.l.keep k, h.lc, h.i.keep k, h.ic, h.s.keep k, h.sc, h.f.keep k, h.fc, h.t.keep k⟩
theorem blk_len {m : MsgR} (h : m.bh.ok) : m.blk.length = 71 := by
  unfold blk; rw [List.length_append, Hd.len h]; rfl
theorem len {m : MsgR} (h : m.ok) : m.cells.length = 114 := by
  unfold cells; simp [h.s, blk_len h.b, TxR.cells]
theorem one (m : MsgR) : ∀ u ∈ m.cells, u.oneCell' = true := by
  intro u hu
  unfold cells blk TxR.cells at hu
  simp only [List.mem_append, List.mem_cons, List.not_mem_nil, or_false, List.mem_map] at hu
  rcases hu with (rfl | rfl | rfl | rfl | rfl | rfl) | ⟨y, _, rfl⟩ | rfl | (hu | rfl | rfl | rfl) | rfl | rfl | rfl | rfl
  all_goals first | rfl | exact Hd.one _ _ hu
end MsgR
theorem msg_info : (Tryd.prog.info? 50).map (·.size) = some 114 := by kernel_rfl
structure MsA (m : MsgR) (cs : Array Value) : Prop where
  l : cs.toList = m.cells
  z : cs.size = 114
  i : (Tryd.prog.info? 50).map (·.size) = some cs.size
  n : ¬ cs = #[]
  o : ∀ v ∈ cs.toList, v.oneCell' = true
theorem MsA.of {m : MsgR} (h : m.ok) : MsA m m.cells.toArray := by
  have hz : m.cells.toArray.size = 114 := by simpa using MsgR.len h
  exact ⟨rfl, hz, by rw [hz]; exact msg_info, fun e => by rw [e] at hz; simp at hz, by simpa using m.one⟩
noncomputable def zmsg : Array Value := match (Tryd.prog.info? 50).bind (·.zero) with | some (.agg c) => c | _ => #[]
theorem zmsg_size : zmsg.size = 114 := by kernel_rfl
theorem zmsg_zero (w : World) : (zeroValue 50).run Tryd.prog w = .ok (.agg zmsg) w := by kernel_rfl
theorem zmsg_list : zmsg.toList = (msgZ 0).cells := by kernel_rfl
theorem msgZ_ok (k : Int) (h : -9223372036854775808 ≤ k ∧ k ≤ 9223372036854775807) : (msgZ k).ok :=
  ⟨h, (by show 0 < 2 ^ 64; omega), rfl, ⟨rfl, rfl⟩, (fun x q => by cases q), (fun x q => by cases q), (fun x q => by cases q), (fun x q => by cases q)⟩
theorem zmsg_letter : ∃ zs : Array Value, (∀ w, (zeroValue 50).run Tryd.prog w = .ok (.agg zs) w) ∧ MsA (msgZ 0) zs :=
  ⟨zmsg, zmsg_zero, by
    have h := MsA.of (msgZ_ok 0 (by omega))
    rwa [← zmsg_list, Array.toArray_toList] at h⟩
noncomputable def zblk : Array Value := match (Tryd.prog.info? 44).bind (·.zero) with | some (.agg c) => c | _ => #[]
theorem zblk_size : zblk.size = 71 := by kernel_rfl
theorem zblk_zero (w : World) : (zeroValue 44).run Tryd.prog w = .ok (.agg zblk) w := by kernel_rfl
theorem zblk_list : zblk.toList = (msgZ 0).blk := by kernel_rfl
theorem zblk_letter : ∃ zs : Array Value, zs.size = 71 ∧ (∀ w, (zeroValue 44).run Tryd.prog w = .ok (.agg zs) w) ∧ ¬ zs = #[] ∧ zs.toList = (msgZ 0).blk ∧ (Tryd.prog.info? 44).map (·.size) = some zs.size :=
  ⟨zblk, zblk_size, zblk_zero, (fun h => by have := zblk_size; rw [h] at this; cases this), zblk_list, by rw [zblk_size]; kernel_rfl⟩
def othersM (m : MsgR) : MsgR :=
  if m.kind = 0 then { m with proto := 0, nonce := 0, height := 0 }
  else if m.kind = 2 ∨ m.kind = 3 then { m with nonce := 0 }
  else if m.kind = 4 then { m with proto := 0, lA := none, ls := [], lc := 0, stop := z32 }
  else if m.kind = 5 then { m with hA := none, hs := [], hc := 0 }
  else if m.kind = 6 ∨ m.kind = 7 ∨ m.kind = 8 then { m with iA := none, is := [], ic := 0 }
  else if m.kind = 9 then { m with bh := zHdr, total := 0, sA := none, shs := [], sc := 0, fA := none, fs := [], fc := 0 }
  else if m.kind = 10 then { m with t := txZ }
  else m
theorem othersM_ok {m : MsgR} (h : m.ok) : (othersM m).ok := by
  obtain ⟨k, n, s, b, hh, l, i, z⟩ := h
  have n0 : 0 < 2 ^ 64 := by omega
  unfold othersM
  repeat' split
  all_goals constructor <;> first | assumption | exact n0 | rfl | exact ⟨rfl, rfl⟩ | (intro x q; cases q)
namespace MsgR
theorem tail_get {m : MsgR} (h : m.ok) (k : Nat) : m.cells[k + 38]? = (.slice m.iA m.is.length m.ic :: (m.blk ++ m.t.cells))[k]? := by
  unfold cells
  rw [List.getElem?_append_right (by simp), List.getElem?_append_right (by simp [h.s] <;> omega)]
  simp [h.s]
theorem tx_get {m : MsgR} (h : m.ok) (k : Nat) : m.cells[k + 110]? = m.t.cells[k]? := by
  rw [show k + 110 = (k + 72) + 38 by omega, tail_get h, List.getElem?_cons_succ, List.getElem?_append_right (by rw [blk_len h.b]; omega), blk_len h.b, show k + 71 - 71 = k by omega]
theorem blk_get {m : MsgR} (h : m.ok) (k : Nat) (hk : k < 71) : m.cells[k + 39]? = m.blk[k]? := by
  rw [show k + 39 = (k + 1) + 38 by omega, tail_get h, List.getElem?_cons_succ, List.getElem?_append_left (by rw [blk_len h.b]; omega)]
theorem set38 {m : MsgR} (h : m.ok) : m.cells.set 38 (.slice none 0 0) = cells { m with iA := none, is := [], ic := 0 } := by
  unfold cells
  rw [List.set_append_right _ _ (by simp), List.set_append_right _ _ (by simp [h.s])]
  simp [h.s, blk]
end MsgR
theorem splice3 {a b c b' : List Value} {n : Nat} (ha : a.length = n) (hb : b'.length = b.length) : splice (a ++ (b ++ c)) n b' = a ++ (b' ++ c) := by
  subst ha
  unfold splice
  rw [List.take_left' rfl, ← List.append_assoc a b c, List.drop_left' (by rw [List.length_append, hb])]
namespace MsgR
def hd6 (m : MsgR) : List Value := [.int .i64 m.kind, u32v m.proto, u64v m.nonce, u32v m.height, .slice m.hA m.hs.length m.hc, .slice m.lA m.ls.length m.lc]
def hd39 (m : MsgR) : List Value := m.hd6 ++ (m.stop.map u8v ++ [.slice m.iA m.is.length m.ic])
theorem hd39_len {m : MsgR} (h : m.stop.length = 32) : m.hd39.length = 39 := by unfold hd39 hd6; simp [h]
theorem cells6 (m : MsgR) : m.cells = m.hd6 ++ (m.stop.map u8v ++ (.slice m.iA m.is.length m.ic :: (m.blk ++ m.t.cells))) := rfl
theorem cells39 (m : MsgR) : m.cells = m.hd39 ++ (m.blk ++ m.t.cells) := by unfold cells hd39 hd6; simp
theorem cells110 (m : MsgR) : m.cells = (m.hd39 ++ m.blk) ++ m.t.cells := by rw [cells39, List.append_assoc]
theorem splice_stop {m : MsgR} (h : m.ok) {l : List UInt8} (hl : l.length = 32) : splice m.cells 6 (l.map u8v) = cells { m with stop := l } := by
  rw [cells6, splice3 (show m.hd6.length = 6 from rfl) (by rw [List.length_map, List.length_map, h.s, hl])]; rfl
theorem splice_blk {m m' : MsgR} (h : m.ok) (h' : m'.bh.ok) : splice m.cells 39 m'.blk = cells { m with bh := m'.bh, total := m'.total, sA := m'.sA, shs := m'.shs, sc := m'.sc, fA := m'.fA, fs := m'.fs, fc := m'.fc } := by
  rw [cells39, splice3 (hd39_len h.s) (by rw [blk_len h.b, blk_len h'])]
  rw [cells39]; rfl
theorem setp (m : MsgR) (h : m.ok) (t : List Value) (k : Nat) (v : Value) : ((m.hd39 ++ m.blk) ++ t).set (k + 110) v = (m.hd39 ++ m.blk) ++ t.set k v := by
  have q : (m.hd39 ++ m.blk).length = 110 := by rw [List.length_append, hd39_len h.s, blk_len h.b]
  rw [List.set_append_right _ _ (by omega), q, show k + 110 - 110 = k by omega]
theorem set_tx {m : MsgR} (h : m.ok) : (((m.cells.set 110 (.int .u32 0)).set 111 (.slice none 0 0)).set 112 (.slice none 0 0)).set 113 (.int .u32 0) = cells { m with t := txZ } := by
  rw [cells110, setp m h _ 0, setp m h _ 1, setp m h _ 2, setp m h _ 3, cells110]; rfl
end MsgR
end Go.Proofs.YtffpanlpbdnafaaDoor
