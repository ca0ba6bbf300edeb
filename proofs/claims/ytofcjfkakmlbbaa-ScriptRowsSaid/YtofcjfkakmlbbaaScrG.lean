import Derived.Test.YtofcjfkakmlbbaaScrF
namespace Go.Proofs.Ytofcjfkakmlbbaa
open Go.RowKit
attribute [local go_sem ↓] Go.wp_at_zero Go.wp_at_succ

theorem at_y {A : Option Addr} {l : List UInt8} {cap : Nat} {w : World} (hl : l.length ≤ 100000000) (hr : Hid (Rd w A (l.map u8v))) (k : Nat) (i : Int) (hi : i = k) : ∀ w', Keep w w' →
    Calls Try.prog 19 #[.slice A l.length cap, .int .i64 i] w' fun e w'' => e = .returned (.int .i64 (l.getD k 0).toNat) ∧ w' = w'' := fun w' hk => by
  subst hi
  have h := at_any A l cap k w' (by omega) (by omega) (hr.out.keep hk)
  rw [Int.toNat_natCast] at h
  exact h

set_option maxRecDepth 100000 in
set_option maxHeartbeats 2000000 in
theorem rget_any (A : Option Addr) (l : List UInt8) (cap : Nat) (w : World) (hl : l.length ≤ 100000000) (hr : Rd w A (l.map u8v)) :
    Calls Try.prog 16 #[.slice A l.length cap] w fun e w' =>
      ∃ (v : Value) (vs : List StepR), e = .returned v ∧ w'.ownsRow w.heap.size 26 4 v vs.length (vs.flatMap StepR.cells) ∧ Keep w w' ∧ (∀ s ∈ vs, OkX v.ownBlock w' s ∧ s.d.length ≤ s.cap ∧ s.cap ≤ maxLen) ∧ vs.map StepR.pl = getL 400 l := by
  go_enter Try.func16, Try.ntmps16
  go_wp2
  go_loopw [3, 4] (fun v i wr => ∃ (j : Nat) (vs : List StepR), i = .int .i64 j ∧ j ≤ l.length + 6 ∧
      wr.ownsRow w.heap.size 26 4 v vs.length (vs.flatMap StepR.cells) ∧ Keep w wr ∧ (∀ s ∈ vs, OkX v.ownBlock wr s ∧ s.d.length ≤ s.cap ∧ s.cap ≤ maxLen) ∧ vs.length ≤ 400 ∧ vs.map StepR.pl ++ getL (400 - vs.length) (l.drop j) = getL 400 l)
    (fun _ i _ => l.length + 6 - (intOf i).toNat)
  case atStart => exact ⟨0, [], rfl, by omega, World.ownsRow_nil _ _ _ _, Below.refl _ _, by simp, by simp, by simp⟩
  case round =>
    obtain ⟨j, vs, rfl, hj, hown, hkeep, hok, hvl, heq⟩ := hrel
    obtain ⟨wo, rfl⟩ : ∃ wo : World, wo = wr := ⟨_, rfl⟩
    have hsz := hkeep.size
    obtain ⟨A3, c3, rfl, hc3, hc3m, -⟩ := own_form hown
    by_cases hlt : j < l.length
    · by_cases hlt2 : vs.length < 400
      · obtain ⟨b, off, rfl, hb, hcell, hcell2⟩ := hr.at2 hkeep (k := j) (by simpa using hlt)
        have hj0 := hcell j (by simpa using hlt)
        simp only [List.getElem_map] at hj0
        have Heq := Lib.hid heq; have Hok := Lib.hid hok; have Hcell2 := Lib.hid hcell2
        have hrw := Lib.hid (hr.keep hkeep)
        clear heq hok hcell hcell2
        generalize hy0 : l[j] = y0 at hj0
        have Hy0 := Lib.hid hy0; clear hy0
        have b0 := y0.toNat_lt
        have j1 : IntKind.i64.wrap ((j : Int) + 1) = (j : Int) + 1 := IntWalk.i64_in _ (by omega)
        have j2 : IntKind.i64.wrap ((j : Int) + 2) = (j : Int) + 2 := IntWalk.i64_in _ (by omega)
        have j3 : IntKind.i64.wrap ((j : Int) + 3) = (j : Int) + 3 := IntWalk.i64_in _ (by omega)
        have j4 : IntKind.i64.wrap ((j : Int) + 4) = (j : Int) + 4 := IntWalk.i64_in _ (by omega)
        have j5 : IntKind.i64.wrap ((j : Int) + 5) = (j : Int) + 5 := IntWalk.i64_in _ (by omega)
        have Hb := Lib.hid (show getOne (l.drop j) = (((y0.toNat % 10 : Nat) : Int), ((l.getD (j + 1) 0).toNat : Int), (((l.getD (j + 2) 0).toNat : Int) + 256 * ((l.getD (j + 3) 0).toNat : Int)), ((l.drop (j + 6)).take ((l.getD (j + 4) 0).toNat + 256 * (l.getD (j + 5) 0).toNat))) ∧
            getRest (l.drop j) = (l.drop (j + 6)).drop ((l.getD (j + 4) 0).toNat + 256 * (l.getD (j + 5) 0).toNat) by
          have hd : ∀ k, (l.drop j).getD k 0 = l.getD (j + k) 0 := fun k => by simp [List.getD]
          unfold getOne getRest
          simp only [hd, List.drop_drop, ← Hy0.out]
          refine ⟨?_, trivial⟩
          simp [hlt])
        have G1 := at_y (cap := cap) hl hrw (j + 1) ((j : Int) + 1) (by omega); have G2 := at_y (cap := cap) hl hrw (j + 2) ((j : Int) + 2) (by omega); have G3 := at_y (cap := cap) hl hrw (j + 3) ((j : Int) + 3) (by omega); have G4 := at_y (cap := cap) hl hrw (j + 4) ((j : Int) + 4) (by omega); have G5 := at_y (cap := cap) hl hrw (j + 5) ((j : Int) + 5) (by omega)
        generalize l.getD (j + 1) 0 = y1 at G1 Hb; generalize l.getD (j + 2) 0 = y2 at G2 Hb; generalize l.getD (j + 3) 0 = y3 at G3 Hb; generalize l.getD (j + 4) 0 = y4 at G4 Hb; generalize l.getD (j + 5) 0 = y5 at G5 Hb
        have K1 := Lib.hid G1; have K2 := Lib.hid G2; have K3 := Lib.hid G3; have K4 := Lib.hid G4; have K5 := Lib.hid G5; clear G1 G2 G3 G4 G5
        have x1 := y1.toNat_lt; have x2 := y2.toNat_lt; have x3 := y3.toNat_lt; have x4 := y4.toNat_lt; have x5 := y5.toNat_lt
        have q3 : IntKind.i64.wrap (256 * (y3.toNat : Int)) = 256 * (y3.toNat : Int) := IntWalk.i64_in _ (by omega)
        have q2 : IntKind.i64.wrap ((y2.toNat : Int) + 256 * (y3.toNat : Int)) = (y2.toNat : Int) + 256 * (y3.toNat : Int) := IntWalk.i64_in _ (by omega)
        have q0 : (y0.toNat : Int).tmod 10 = ((y0.toNat % 10 : Nat) : Int) := rfl
        go_upto_region 4 with fail
        go_cut [5] (fun p wx => p = .pointer (some ⟨wo.heap.size, 0, none⟩) ∧ Blk wx wo.heap.size 26 [.int .i64 ((y0.toNat % 10 : Nat) : Int), .int .i64 y1.toNat, .int .i64 ((y2.toNat : Int) + 256 * (y3.toNat : Int)), .slice none 0 0] ∧ Keep wo wx)
        case first =>
          go_region_held3 (fun w' => w'.cell? ⟨b, off + j, none⟩ = some (u8v y0)) (go_keep)
            (first
              | (go_at_call 19; (with_reducible refine (K1.out _ (by first | exact (Below.refl _ _).drew | exact ((Below.refl _ _).alloc (Nat.le_refl _) _).drew)).mono ?_); rintro e w1 ⟨rfl, rfl⟩)
              | (go_at_call 19; (with_reducible refine (K2.out _ (by first | exact (Below.refl _ _).drew | exact ((Below.refl _ _).alloc (Nat.le_refl _) _).drew)).mono ?_); rintro e w1 ⟨rfl, rfl⟩)
              | (go_at_call 19; (with_reducible refine (K3.out _ (by first | exact (Below.refl _ _).drew | exact ((Below.refl _ _).alloc (Nat.le_refl _) _).drew)).mono ?_); rintro e w1 ⟨rfl, rfl⟩))
          all_goals (go_wp2_with fail; go_meet)
          all_goals exact ⟨rfl, Blk.new _ _ _, ((Below.refl _ _).alloc (Nat.le_refl _) _).drew⟩
        case rest =>
          obtain ⟨wb, rfl⟩ : ∃ wb : World, wb = wc := ⟨_, rfl⟩
          obtain ⟨rfl, hblk, hkb⟩ := hcut
          have hlt3 := hblk.lt
          generalize hg : wo.heap.size = g at hblk hlt3
          have hgz : w.heap.size ≤ g := by omega
          obtain ⟨r, hr3⟩ : ∃ r, r = l.drop (j + 6) := ⟨_, rfl⟩
          have Hr3 := Lib.hid hr3
          have hrl := Lib.hid (show r.length = l.length - (j + 6) by rw [hr3]; simp)
          clear hr3 q0 q2 q3 j1 j2 j3 hj0
          have Hblk := Lib.hid hblk; clear hblk
          go_wp2_with (first
            | (go_at_call 19; (with_reducible refine (K4.out _ hkb).mono ?_); rintro e w1 ⟨rfl, rfl⟩)
            | (go_at_call 19; (with_reducible refine (K5.out _ hkb).mono ?_); rintro e w1 ⟨rfl, rfl⟩))
          go_loopw [4, 7] (fun i k wx => ∃ (q : Nat) (A5 : Option Addr) (c5 : Nat) (p : Nat), i = .int .i64 p ∧ p = j + 6 + q ∧ k = .int .i64 q ∧ q ≤ y4.toNat + 256 * y5.toNat ∧ q ≤ r.length ∧ q ≤ c5 ∧ c5 ≤ maxLen ∧
              Blk wx g 26 [.int .i64 ((y0.toNat % 10 : Nat) : Int), .int .i64 y1.toNat, .int .i64 ((y2.toNat : Int) + 256 * (y3.toNat : Int)), .slice A5 q c5] ∧
              wx.ownsRow wb.heap.size 5 1 (.slice A5 q c5) q ((r.take q).map u8v) ∧ Keep wo wx ∧ wb.heap.size ≤ wx.heap.size)
            (fun _ k _ => r.length - (intOf k).toNat)
          case atStart => exact ⟨0, none, 0, j + 6, by go_num, by omega, rfl, by omega, by omega, Nat.le_refl _, Nat.zero_le _, Hblk.out, World.ownsRow_nil _ _ _ _, hkb, Nat.le_refl _⟩
          case round =>
            obtain ⟨q, A5, c5, p, rfl, hpq, rfl, hqE, hqr, hqc, hc5m, hbx, hown5, hkx, hzx⟩ := hrel
            have e0 := hbx.cell 0; have e1 := hbx.cell 1; have e2 := hbx.cell 2; have e3 := hbx.cell 3; have f3 := hbx.frozen 3
            simp only [List.getElem?_cons_zero, List.getElem?_cons_succ] at e0 e1 e2 e3
            have Hbx := Lib.hid hbx; have Hown5 := Lib.hid hown5
            clear hbx hown5
            unfold maxLen at hc5m
            have hgx := Hbx.out.lt
            have hrl1 := hrl.out
            have Hpq := Lib.hid hpq
            have hpq1 : p ≤ j + 6 + q ∧ j + 6 + q ≤ p := by omega
            obtain ⟨hpq1, hpq2⟩ := hpq1
            clear hpq
            by_cases hq1 : q < y4.toNat + 256 * y5.toNat
            · by_cases hq2 : p < l.length
              · have hcq := Hcell2.out _ (hkeep.trans (hkx.mono hsz)) p (by simpa using hq2)
                simp only [List.getElem_map] at hcq
                generalize hz : l[p] = z at hcq
                have hp0 : (0 : Int) ≤ (p : Int) := by omega
                have hp1 : (p : Int) < (l.length : Int) := by omega
                have Hz := Lib.hid (show (r.take (q + 1)).map u8v = (r.take q).map u8v ++ [u8v z] by
                  rw [List.take_succ_eq_append_getElem (show q < r.length by omega), List.map_append]
                  simp only [Hr3.out, List.getElem_drop, ← Hpq.out, hz, List.map_cons, List.map_nil])
                clear hz hrl1
                go_wp2
                go_upto_region 10 with fail
                go_cut [] (fun wy => ∃ A6 c6, q + 1 ≤ c6 ∧ c6 ≤ maxLen ∧ Blk wy g 26 [.int .i64 ((y0.toNat % 10 : Nat) : Int), .int .i64 y1.toNat, .int .i64 ((y2.toNat : Int) + 256 * (y3.toNat : Int)), .slice A6 (q + 1) c6] ∧
                  wy.ownsRow wb.heap.size 5 1 (.slice A6 (q + 1) c6) (q + 1) ((r.take (q + 1)).map u8v) ∧ Keep wo wy ∧ wb.heap.size ≤ wy.heap.size)
                case first =>
                  go_region_law
                    ((refine step_app byteT (by rfl) _ _ (by rfl) wb.heap.size _ q _ (by rfl) ((Hown5.out.alloc _).drew) _ 1 1 [u8v z] (by rfl) (by rfl) (Rd.new _ _ _).drew (by simp [Value.oneCell']) (by omega) (by unfold maxLen; omega) (by simp; omega) ?_
                      intro v' w1 hown1 hgrow hat
                      have Hb1 := Lib.hid (((Hbx.out.alloc _).drew).grown hgrow (fun e => by have := (Hown5.out.lt g e).1; omega))
                      have d3 := Hb1.out.cell 3
                      have f3' := Hb1.out.frozen 3
                      simp only [List.getElem?_cons_zero, List.getElem?_cons_succ] at d3
                      have hk1 : Keep wo w1 := ((hkx.alloc hkx.size _).drew).grown hgrow (by simp; have := hkx.size; omega) (fun k hk => by have := (Hown5.out.lt k hk).1; omega)
                      have hz1 : wb.heap.size ≤ w1.heap.size := by have := hgrow.size; simp at this; omega
                      have Hown1 := Lib.hid hown1
                      obtain ⟨A6, c6, rfl, hc6, hm6, -⟩ := own_form hown1
                      clear hown1))
                  all_goals (go_wp2_with fail; go_meet)
                  all_goals exact ⟨A6, c6, hc6, hm6, Hb1.out.set_ 3 _, by rw [Hz.out]; exact ownsRow_setCell_below Hown1.out hlt3 _, hk1.setCell (by simp; omega) _, by simp [World.setCell]; omega⟩
                case rest =>
                  obtain ⟨A6, c6, hc6, hm6, hb6, hown6, hk6, hz6⟩ := hcut
                  have Hb6 := Lib.hid hb6; have Hown6 := Lib.hid hown6; clear hb6 hown6
                  go_wp2
                  go_roundw
                  case rel => exact ⟨q + 1, A6, c6, p + 1, by go_num, by have := Hpq.out; omega, by go_num, by omega, by have := hrl.out; omega, hc6, hm6, Hb6.out, Hown6.out, hk6, hz6⟩
                  case measure => have := hrl.out; simp [intOf]; omega
              · have hfin : r.take q = r.take (y4.toNat + 256 * y5.toNat) ∧ r.drop q = r.drop (y4.toNat + 256 * y5.toNat) := by
                  have := hrl.out; rw [List.take_of_length_le (by omega), List.take_of_length_le (by omega), List.drop_eq_nil_of_le (by omega), List.drop_eq_nil_of_le (by omega)]; exact ⟨rfl, rfl⟩
                have Hfin := Lib.hid hfin
                clear hfin
                have Hdp := Lib.hid (show l.drop p = r.drop q by rw [Hr3.out, List.drop_drop, Hpq.out])
                have hzo := hkx.size
                go_wp2_with (refine wpList_app rstepT (by rfl) (.tmp 72) (.tmp 74) (by rfl) w.heap.size _ vs.length _ (by rfl) ((own_keep hown hkx).alloc _) _ 1 1 [.int .i64 ((y0.toNat % 10 : Nat) : Int), .int .i64 y1.toNat, .int .i64 ((y2.toNat : Int) + 256 * (y3.toNat : Int)), .slice A5 q c5] (by rfl) (by rfl) (Rd.new _ _ _) (by simp [Value.oneCell']) (by omega) (by unfold maxLen; omega) (by simp; omega) ?_; intro v7 w7 hown7 hg7 hat7)
                go_roundw
                case rel =>
                  have hkw : Keep w wr := keep_trans hkeep hkx
                  have hkw7 : Keep w w7 := keep_grown (hkw.alloc (by omega) _) (by simp; omega) hg7 ((own_keep hown hkx).alloc _)
                  have hq' : (r.take q).length = q := by simp; omega
                  refine ⟨p, vs ++ [⟨((y0.toNat % 10 : Nat) : Int), (y1.toNat : Int), ((y2.toNat : Int) + 256 * (y3.toNat : Int)), A5, c5, r.take q⟩], rfl, by omega, ?_, hkw7, ?_, by simp; omega, ?_⟩
                  · exact own_eq hown7 (by simp) (by simp only [List.flatMap_append, List.flatMap_cons, List.flatMap_nil, StepR.cells, hq', List.append_nil])
                  · intro s hs
                    rcases List.mem_append.1 hs with hs | hs
                    · exact ⟨((Hok.out s hs).1.keep (hkx.alloc hkx.size _)).grown hg7 hat7, (Hok.out s hs).2⟩
                    · obtain rfl := List.mem_singleton.1 hs
                      have hx5 : RdX (Value.slice A3 vs.length c3).ownBlock wr A5 ((r.take q).map u8v) := RdX.of_own Hown5.out (fun b hb => by have := (hown.lt b hb).2; have := hkb.size; omega)
                      exact ⟨(hx5.keep ((Below.refl _ _).alloc (Nat.le_refl _) _)).grown hg7 hat7, by simp; omega, by unfold maxLen; omega⟩
                  · have h := Heq.out
                    rw [show 400 - vs.length = (400 - (vs.length + 1)) + 1 by omega, getL_step _ (by simp; omega)] at h
                    rw [← h, List.map_append, List.append_assoc, List.length_append]
                    simp only [List.map_cons, List.map_nil, StepR.pl, List.singleton_append, List.length_singleton, Hb.out.1, Hb.out.2, ← Hr3.out, Hfin.out.1, Hdp.out, Hfin.out.2]
                case measure => simp [intOf]; omega
            · have hfin : r.take q = r.take (y4.toNat + 256 * y5.toNat) ∧ r.drop q = r.drop (y4.toNat + 256 * y5.toNat) := by
                rw [show q = y4.toNat + 256 * y5.toNat by omega]; exact ⟨rfl, rfl⟩
              have Hfin := Lib.hid hfin
              clear hfin
              have Hdp := Lib.hid (show l.drop p = r.drop q by rw [Hr3.out, List.drop_drop, Hpq.out])
              have hzo := hkx.size
              go_wp2_with (refine wpList_app rstepT (by rfl) (.tmp 72) (.tmp 74) (by rfl) w.heap.size _ vs.length _ (by rfl) ((own_keep hown hkx).alloc _) _ 1 1 [.int .i64 ((y0.toNat % 10 : Nat) : Int), .int .i64 y1.toNat, .int .i64 ((y2.toNat : Int) + 256 * (y3.toNat : Int)), .slice A5 q c5] (by rfl) (by rfl) (Rd.new _ _ _) (by simp [Value.oneCell']) (by omega) (by unfold maxLen; omega) (by simp; omega) ?_; intro v7 w7 hown7 hg7 hat7)
              go_roundw
              case rel =>
                have hkw : Keep w wr := keep_trans hkeep hkx
                have hkw7 : Keep w w7 := keep_grown (hkw.alloc (by omega) _) (by simp; omega) hg7 ((own_keep hown hkx).alloc _)
                have hq' : (r.take q).length = q := by simp; omega
                refine ⟨p, vs ++ [⟨((y0.toNat % 10 : Nat) : Int), (y1.toNat : Int), ((y2.toNat : Int) + 256 * (y3.toNat : Int)), A5, c5, r.take q⟩], rfl, by omega, ?_, hkw7, ?_, by simp; omega, ?_⟩
                · exact own_eq hown7 (by simp) (by simp only [List.flatMap_append, List.flatMap_cons, List.flatMap_nil, StepR.cells, hq', List.append_nil])
                · intro s hs
                  rcases List.mem_append.1 hs with hs | hs
                  · exact ⟨((Hok.out s hs).1.keep (hkx.alloc hkx.size _)).grown hg7 hat7, (Hok.out s hs).2⟩
                  · obtain rfl := List.mem_singleton.1 hs
                    have hx5 : RdX (Value.slice A3 vs.length c3).ownBlock wr A5 ((r.take q).map u8v) := RdX.of_own Hown5.out (fun b hb => by have := (hown.lt b hb).2; have := hkb.size; omega)
                    exact ⟨(hx5.keep ((Below.refl _ _).alloc (Nat.le_refl _) _)).grown hg7 hat7, by simp; omega, by unfold maxLen; omega⟩
                · have h := Heq.out
                  rw [show 400 - vs.length = (400 - (vs.length + 1)) + 1 by omega, getL_step _ (by simp; omega)] at h
                  rw [← h, List.map_append, List.append_assoc, List.length_append]
                  simp only [List.map_cons, List.map_nil, StepR.pl, List.singleton_append, List.length_singleton, Hb.out.1, Hb.out.2, ← Hr3.out, Hfin.out.1, Hdp.out, Hfin.out.2]
              case measure => simp [intOf]; omega
      · have hv4 : vs.length = 400 := by omega
        rw [hv4] at heq
        have Heq := Lib.hid heq; have Hown := Lib.hid hown; have Hok := Lib.hid hok
        clear heq hown hok hv4
        go_wp2
        go_ret
        exact ⟨_, vs, rfl, Hown.out, hkeep, Hok.out, by simpa [getL] using Heq.out⟩
    · rw [List.drop_eq_nil_of_le (by omega)] at heq
      have Heq := Lib.hid heq; have Hown := Lib.hid hown; have Hok := Lib.hid hok
      clear heq hown hok
      go_wp2
      go_ret
      exact ⟨_, vs, rfl, Hown.out, hkeep, Hok.out, by have := Heq.out; rwa [getL_nil, List.append_nil] at this⟩
end Go.Proofs.Ytofcjfkakmlbbaa
