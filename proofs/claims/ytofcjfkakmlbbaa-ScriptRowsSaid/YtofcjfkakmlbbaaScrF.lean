import Derived.Test.YtofcjfkakmlbbaaScrE
import Derived.Laws.CopyOwn
import Derived.Deep.DeepCutAuto
import Derived.Deep.LoopGhost
import Derived.Deep.Light
import Derived.Deep.RegionLaw
namespace Go.Proofs.Ytofcjfkakmlbbaa
open Go.RowKit
attribute [local go_sem ↓] Go.wp_at_zero Go.wp_at_succ

def getOne (l : List UInt8) : Int × Int × Int × List UInt8 :=
  (((l.getD 0 0).toNat % 10 : Nat), ((l.getD 1 0).toNat : Nat), ((l.getD 2 0).toNat + 256 * (l.getD 3 0).toNat : Nat), (l.drop 6).take ((l.getD 4 0).toNat + 256 * (l.getD 5 0).toNat))
def getRest (l : List UInt8) : List UInt8 := (l.drop 6).drop ((l.getD 4 0).toNat + 256 * (l.getD 5 0).toNat)
def getL : Nat → List UInt8 → List (Int × Int × Int × List UInt8)
  | 0, _ => []
  | f + 1, l => if l = [] then [] else getOne l :: getL f (getRest l)

theorem getL_nil (n : Nat) : getL n [] = [] := by cases n <;> simp [getL]
theorem getL_step (n : Nat) {m : List UInt8} (h : 0 < m.length) : getL (n + 1) m = getOne m :: getL n (getRest m) := by
  have : m ≠ [] := by rintro rfl; simp at h
  simp [getL, this]

theorem head_splice (l : List UInt8) : splice (List.replicate 6 (.int .u8 0)) 0 ((l.map u8v).take 6) =
    [u8v (l.getD 0 0), u8v (l.getD 1 0), u8v (l.getD 2 0), u8v (l.getD 3 0), u8v (l.getD 4 0), u8v (l.getD 5 0)] := by
  match l with
  | [] => rfl
  | [_] => rfl
  | [_, _] => rfl
  | [_, _, _] => rfl
  | [_, _, _, _] => rfl
  | [_, _, _, _, _] => rfl
  | _ :: _ :: _ :: _ :: _ :: _ :: _ => simp [splice]

theorem one_take (l : List UInt8) (k : Nat) : ∀ u ∈ (l.map u8v).take k, u.oneCell' = true := fun u hu => one_bytes l u (List.mem_of_mem_take hu)

def OkX (row : Option Nat) (w : World) (s : StepR) : Prop := RdX row w s.A (s.d.map u8v)

def Get6 (w2 : World) (g : Nat) (m : List UInt8) : Prop := w2.cell? ⟨g, 0, none⟩ = some (u8v (m.getD 0 0)) ∧ w2.cell? ⟨g, 1, none⟩ = some (u8v (m.getD 1 0)) ∧
      w2.cell? ⟨g, 2, none⟩ = some (u8v (m.getD 2 0)) ∧ w2.cell? ⟨g, 3, none⟩ = some (u8v (m.getD 3 0)) ∧ w2.cell? ⟨g, 4, none⟩ = some (u8v (m.getD 4 0)) ∧ w2.cell? ⟨g, 5, none⟩ = some (u8v (m.getD 5 0)) ∧ g < w2.heap.size

theorem get_head {wr w2 : World} {m : List UInt8} {cs : Array Value} {t : TypeId} (hg2 : Hid (w2.heap[wr.heap.size]? = some (.cells (splice [.int .u8 0, .int .u8 0, .int .u8 0, .int .u8 0, .int .u8 0, .int .u8 0] 0 ((m.map u8v).take 6)).toArray t (0, 0))))
    (hk2 : (wr.alloc (.cells cs t)).grownBy w2 (some wr.heap.size)) : Keep wr w2 ∧ Get6 w2 wr.heap.size m := by
  have hz := hk2.size
  simp at hz
  have e := hg2.out
  have e2 := head_splice m
  simp only [List.replicate] at e2
  rw [e2] at e
  have hh : ∀ j, w2.cell? ⟨wr.heap.size, j, none⟩ = ([u8v (m.getD 0 0), u8v (m.getD 1 0), u8v (m.getD 2 0), u8v (m.getD 3 0), u8v (m.getD 4 0), u8v (m.getD 5 0)] : List Value)[j]? := fun j => (cell_of_row _ _ _ _ _ _ e).trans (by simp)
  exact ⟨Below.grown ((Below.refl _ _).alloc (Nat.le_refl _) _) hk2 (by simp) (fun k hk => by injection hk with hk; omega), hh 0, hh 1, hh 2, hh 3, hh 4, hh 5, by omega⟩

set_option maxRecDepth 100000 in
set_option maxHeartbeats 2000000 in
theorem get_any (A : Option Addr) (l : List UInt8) (cap : Nat) (w : World) (hl : l.length ≤ 100000000) (hc : l.length ≤ cap) (hm : cap ≤ maxLen) (hr : Rd w A (l.map u8v)) :
    Calls Try.prog 15 #[.slice A l.length cap] w fun e w' =>
      ∃ (v : Value) (vs : List StepR), e = .returned v ∧ w'.ownsRow w.heap.size 28 4 v vs.length (vs.flatMap StepR.cells) ∧ Keep w w' ∧ (∀ s ∈ vs, OkX v.ownBlock w' s ∧ s.d.length ≤ s.cap ∧ s.cap ≤ maxLen ∧ FreshA w.heap.size s.A s.d.length) ∧ vs.map StepR.pl = getL 400 l := by
  go_enter Try.func15, Try.ntmps15
  go_wp2
  go_loopw [0, 3] (fun x v wr => ∃ (A' : Option Addr) (m : List UInt8) (c : Nat) (vs : List StepR), x = .slice A' m.length c ∧ m.length ≤ l.length ∧ m.length ≤ c ∧ c ≤ maxLen ∧ Rd w A' (m.map u8v) ∧
      wr.ownsRow w.heap.size 28 4 v vs.length (vs.flatMap StepR.cells) ∧ Keep w wr ∧ (∀ s ∈ vs, OkX v.ownBlock wr s ∧ s.d.length ≤ s.cap ∧ s.cap ≤ maxLen ∧ FreshA w.heap.size s.A s.d.length) ∧ vs.length ≤ 400 ∧ vs.map StepR.pl ++ getL (400 - vs.length) m = getL 400 l)
    (fun x _ _ => match x with | .slice _ n _ => n | _ => 0)
  case atStart => exact ⟨A, l, cap, [], rfl, Nat.le_refl _, hc, hm, hr, World.ownsRow_nil _ _ _ _, Below.refl _ _, by simp, by simp, by simp⟩
  case round =>
    obtain ⟨A', m, c, vs, rfl, hml, hmc, hcm, hrm, hown, hkeep, hok, hvl, heq⟩ := hrel
    have hsz := hkeep.size
    unfold maxLen at hcm
    by_cases hlt : 0 < m.length
    · by_cases hlt2 : vs.length < 400
      · obtain ⟨b, off, rfl, hb, hcell⟩ := hrm.at (k := 0) (by simpa using hlt)
        obtain ⟨A3, c3, rfl, hc3, hc3m, -⟩ := own_form hown
        have Heq := Lib.hid heq; have Hok := Lib.hid hok; have Hcell := Lib.hid (fun j (h : j < (m.map u8v).length) => keep_cell hkeep (hcell j h))
        clear hr hc hm heq hok hcell
        have hrw : Rd wr (some ⟨b, off, none⟩) (m.map u8v) := hrm.keep hkeep
        obtain ⟨r, hr'⟩ : ∃ r, r = m.drop 6 := ⟨_, rfl⟩
        have hrl : r.length = m.length - min m.length 6 := by rw [hr']; simp; omega
        have hrl2 : r.length ≤ m.length := by omega
        have Hrl := Lib.hid hrl; have Hr := Lib.hid hr'; clear hrl hr'
        go_upto_region 4 with fail
        go_cut [0] (fun x wx => ∃ A2 c2, x = .slice A2 r.length c2 ∧ r.length ≤ c2 ∧ c2 ≤ maxLen ∧ Rd w A2 (r.map u8v) ∧ Keep wr wx ∧ Get6 wx wr.heap.size m)
        case first =>
          go_wp2_with (refine wpList_cpy byteT (by rfl) (.tmp 16) (.tmp 17) (by rfl) wr.heap.size 0 6 6 (by rfl) _ m.length c (m.map u8v) (by rfl) (by simp) (hrw.alloc _) (one_bytes _) [.int .u8 0, .int .u8 0, .int .u8 0, .int .u8 0, .int .u8 0, .int .u8 0] 43 (by exact heap_alloc_new _ _) (by simp; omega) ?_; intro w2 hg2 hk2)
          all_goals go_meet
          all_goals (have HE := get_head hg2 hk2; rw [← Hrl.out])
          · exact ⟨_, _, rfl, by rw [Hrl.out]; omega, by unfold maxLen; omega, by rw [List.eq_nil_of_length_eq_zero (show r.length = 0 by rw [Hrl.out]; omega)]; exact Rd.nil _ _, HE.1, HE.2⟩
          · exact ⟨_, _, rfl, by rw [Hrl.out]; omega, by unfold maxLen; omega, by
              have h := hrm.dropN (k := min m.length 6) (by simp; omega)
              rwa [← List.map_drop, drop_min, ← Hr.out, Option.map_some, add_lit0] at h, HE.1, HE.2⟩
        case rest =>
          obtain ⟨wb, rfl⟩ : ∃ wb : World, wb = wc := ⟨_, rfl⟩
          obtain ⟨A2, c2, rfl, hc2, hc2m, hrr, hkc, hsix⟩ := hcut
          unfold maxLen at hc2m
          have Hrr := Lib.hid hrr; clear hrr
          obtain ⟨h0, h1, h2, h3, h4, h5, hz2⟩ := hsix
          have hzc := hkc.size
          generalize hy0 : m.getD 0 0 = y0 at h0; generalize hy1 : m.getD 1 0 = y1 at h1; generalize hy2 : m.getD 2 0 = y2 at h2; generalize hy3 : m.getD 3 0 = y3 at h3; generalize hy4 : m.getD 4 0 = y4 at h4; generalize hy5 : m.getD 5 0 = y5 at h5
          have Hy := Lib.hid (show getOne m = (((y0.toNat % 10 : Nat) : Int), (y1.toNat : Int), ((y2.toNat + 256 * y3.toNat : Nat) : Int), r.take (y4.toNat + 256 * y5.toNat)) ∧ getRest m = r.drop (y4.toNat + 256 * y5.toNat) by
            unfold getOne getRest; rw [hy0, hy1, hy2, hy3, hy4, hy5, Hr.out]; exact ⟨rfl, rfl⟩)
          clear hy0 hy1 hy2 hy3 hy4 hy5
          have b0 := y0.toNat_lt; have b1 := y1.toNat_lt; have b2 := y2.toNat_lt; have b3 := y3.toNat_lt; have b4 := y4.toNat_lt; have b5 := y5.toNat_lt
          have o1 := i64_or y2 y3; have o2 := i64_or y4 y5
          generalize hN : (y2.toNat + 256 * y3.toNat : Nat) = N at o1 Hy
          generalize hE : (y4.toNat + 256 * y5.toNat : Nat) = E at o2 Hy
          have hE1 : E < 65536 := by omega
          have hN1 : N < 65536 := by omega
          clear hN hE
          go_upto_region 6 with fail
          go_cut [6] (fun x wx => x = .int .i64 (min E r.length : Nat) ∧ Blk wx wb.heap.size 28 [.int .i64 ((y0.toNat % 10 : Nat) : Int), .int .i64 y1.toNat, .int .i64 N, .slice none 0 0] ∧ Keep wb wx)
          case first =>
            go_wp2_with fail
            all_goals go_meet
            all_goals exact ⟨by congr 1; omega, Blk.new _ _ _, (Below.refl _ _).alloc (Nat.le_refl _) _⟩
          case rest =>
            obtain ⟨rfl, hblk, hkx⟩ := hcut
            obtain ⟨wa, rfl⟩ : ∃ wa : World, wa = wc := ⟨_, rfl⟩
            have hzx := hkx.size
            have hlx := hblk.lt
            have hkwx : Keep wr wa := keep_trans hkc hkx
            generalize hg : wb.heap.size = g at hblk hlx
            have hgz : w.heap.size ≤ g := by omega
            clear hzx hzc hz2 h0 h1 h2 h3 h4 h5 b0 b1 b2 b3 b4 b5 o1 o2
            have hq : min E r.length ≤ r.length := by omega
            have hqd : (r.take E).length = min E r.length := by simp
            generalize min E r.length = q at hq hqd
            have Hqd := Lib.hid hqd
            have Hqt : Hid (r.take E = r.take q) := by
              rw [← hqd]; simp [Hid]
            have Hdr : Hid (r.drop E = r.drop q) := by
              rw [← hqd]; simp only [List.length_take, Hid]; rcases Nat.le_total E r.length with h | h
              · rw [Nat.min_eq_left h]
              · rw [Nat.min_eq_right h, List.drop_length, List.drop_eq_nil_of_le h]
            clear hqd
            have hb3 := hblk.cell 3
            have hf3 := hblk.frozen 3
            simp only [List.getElem?_cons_zero, List.getElem?_cons_succ] at hb3
            have Hb := Lib.hid hblk; clear hblk
            have hrx : Rd wa A2 (r.map u8v) := Hrr.out.keep (keep_trans hkeep hkwx)
            have Hrx := Lib.hid hrx; clear hrx
            have hq0 : (0 : Int) ≤ (q : Int) := by omega
            have hq1 : (q : Int) ≤ (c2 : Int) := by omega
            go_upto_region 7 with fail
            go_cut [] (fun wx => ∃ A5 c5, q ≤ c5 ∧ c5 ≤ maxLen ∧ Blk wx g 28 [.int .i64 ((y0.toNat % 10 : Nat) : Int), .int .i64 y1.toNat, .int .i64 N, .slice A5 q c5] ∧ RdX (Value.slice A3 vs.length c3).ownBlock wx A5 ((r.take q).map u8v) ∧ Keep wr wx ∧ FreshA w.heap.size A5 q)
            case first =>
              go_region_law
                ((refine step_app byteT (by rfl) _ _ (by rfl) wa.heap.size _ 0 [] (by rfl) (World.ownsRow_nil _ _ _ _) A2 q c2 ((r.map u8v).take q) (by rfl) (by simp; omega) ((Hrx.out.take q).drew) (one_take r q) (by omega) (by unfold maxLen; omega) (by simp) ?_
                  intro v' w1 hown1 hgrow hat
                  have hk1 : Keep wa w1 := (Below.refl _ _).drew.grown hgrow (by simp) (fun k hk => by simp [Value.ownBlock] at hk)
                  have Hb1 := Lib.hid (Hb.out.keep hk1)
                  have d3 := Hb1.out.cell 3
                  have f3 := Hb1.out.frozen 3
                  simp only [List.getElem?_cons_zero, List.getElem?_cons_succ] at d3
                  obtain ⟨A5, c5, rfl, hc5, hm5, hrd5⟩ := own_form hown1
                  clear hrd5))
              all_goals (go_wp2_with fail; go_meet)
              all_goals exact ⟨A5, c5, by omega, hm5, Hb1.out.set_ 3 _, by rw [List.map_take]; exact RdX.of_own (ownsRow_setCell_below hown1 hlx _) (fun b hb => by have := (hown.lt b hb).2; have := hkwx.size; omega), (keep_trans hkwx hk1).setCell (by rw [← hg]; exact hkc.size) _, by have hh := (own_fresh hown1).mono (b' := w.heap.size) (by have := hkwx.size; omega); rwa [Nat.zero_add] at hh⟩
            case rest =>
              obtain ⟨wd, rfl⟩ : ∃ wd : World, wd = wc := ⟨_, rfl⟩
              obtain ⟨A5, c5, hc5, hm5, hbk, hrd5, hkd, hfr5⟩ := hcut
              have Hfr5 := Lib.hid hfr5; clear hfr5
              have e0 := hbk.cell 0; have e1 := hbk.cell 1; have e2 := hbk.cell 2; have e3 := hbk.cell 3
              simp only [List.getElem?_cons_zero, List.getElem?_cons_succ] at e0 e1 e2 e3
              have Hbk := Lib.hid hbk; clear hbk hb3 hf3
              have Hrd5 := Lib.hid hrd5; clear hrd5
              go_upto_region 8 with fail
              go_cut [0] (fun x wx => ∃ A6 c6, x = .slice A6 (r.drop q).length c6 ∧ (r.drop q).length ≤ c6 ∧ c6 ≤ maxLen ∧ Rd w A6 ((r.drop q).map u8v) ∧ wx = wd)
              case first =>
                go_wp2_with fail
                all_goals go_meet
                · exact ⟨_, _, by rw [List.length_drop], by rw [List.length_drop]; omega, by unfold maxLen; omega, by rw [getD_app (show r.length ≤ q by omega)]; exact Rd.nil _ _, rfl⟩
                · exact ⟨_, _, by rw [List.length_drop], by rw [List.length_drop]; omega, by unfold maxLen; omega, by rw [List.map_drop]; exact Hrr.out.dropN (by simpa using hq), rfl⟩
              case rest =>
                obtain ⟨A6, c6, rfl, hc6, hm6, hr6, rfl⟩ := hcut
                have Hr6 := Lib.hid hr6; clear hr6
                have Hon := Lib.hid (own_keep hown hkd)
                have hzd := hkd.size
                go_wp2_with (refine wpList_app stepT (by rfl) (.tmp 57) (.tmp 59) (by rfl) w.heap.size _ vs.length _ (by rfl) (Hon.out.alloc _) _ 1 1 [.int .i64 ((y0.toNat % 10 : Nat) : Int), .int .i64 y1.toNat, .int .i64 N, .slice A5 q c5] (by rfl) (by rfl) (Rd.new _ _ _) (by simp [Value.oneCell']) (by omega) (by unfold maxLen; omega) (by simp; omega) ?_; intro v7 w7 hown7 hg7 hat7)
                go_roundw
                case rel =>
                  have hkw7 : Keep w w7 := keep_grown ((keep_trans hkeep hkd).alloc (by omega) _) (by simp; omega) hg7 (Hon.out.alloc _)
                  have hat : v7.ownBlock = (Value.slice A3 vs.length c3).ownBlock ∨ v7.ownBlock = some (wc.alloc (.cells #[.int .i64 ((y0.toNat % 10 : Nat) : Int), .int .i64 y1.toNat, .int .i64 N, .slice A5 q c5] 28)).heap.size := hat7
                  refine ⟨A6, r.drop q, c6, vs ++ [⟨((y0.toNat % 10 : Nat) : Int), (y1.toNat : Int), (N : Int), A5, c5, r.take q⟩], by rw [List.length_drop], by rw [List.length_drop]; omega, hc6, hm6, Hr6.out, ?_, hkw7, ?_, by simp; omega, ?_⟩
                  · exact own_eq hown7 (by simp) (by simp [StepR.cells, ← Hqd.out])
                  · intro s hs
                    rcases List.mem_append.1 hs with hs | hs
                    · exact ⟨((Hok.out s hs).1.keep (hkd.alloc hzd _)).grown hg7 hat, (Hok.out s hs).2⟩
                    · obtain rfl := List.mem_singleton.1 hs
                      refine ⟨(Hrd5.out.keep ((Below.refl _ _).alloc (Nat.le_refl _) _)).grown hg7 hat, ?_, hm5, by rw [show (r.take q).length = q by rw [List.length_take]; omega]; exact Hfr5.out⟩
                      simp; omega
                  · have h := Heq.out
                    rw [show 400 - vs.length = (400 - (vs.length + 1)) + 1 by omega, getL_step _ hlt] at h
                    rw [← h, List.map_append, List.append_assoc, List.length_append]
                    simp only [List.map_cons, List.map_nil, StepR.pl, List.singleton_append, List.length_singleton, Hy.out.1, Hy.out.2, Hqt.out, Hdr.out]
                case measure => have := Hrl.out; simp; omega
      · have hv4 : vs.length = 400 := by omega
        rw [hv4] at heq
        have Heq := Lib.hid heq; have Hown := Lib.hid hown; have Hok := Lib.hid hok
        obtain ⟨A3, c3, rfl, hc3, hc3m, -⟩ := own_form hown
        clear heq hown hok hv4
        obtain ⟨b, off, rfl, hb, hcell⟩ := hrm.at (k := 0) (by simpa using hlt)
        clear hcell
        go_wp2
        go_ret
        exact ⟨_, vs, rfl, Hown.out, hkeep, Hok.out, by simpa [getL] using Heq.out⟩
    · obtain rfl : m = [] := List.eq_nil_of_length_eq_zero (by omega)
      have Heq := Lib.hid heq; have Hown := Lib.hid hown; have Hok := Lib.hid hok
      obtain ⟨A3, c3, rfl, hc3, hc3m, -⟩ := own_form hown
      clear heq hown hok
      go_wp2
      go_ret
      exact ⟨_, vs, rfl, Hown.out, hkeep, Hok.out, by have := Heq.out; rwa [getL_nil, List.append_nil] at this⟩
end Go.Proofs.Ytofcjfkakmlbbaa
