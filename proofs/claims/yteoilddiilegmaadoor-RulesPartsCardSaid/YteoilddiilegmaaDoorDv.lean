/- math/bits.Div64: the walk. -/
import Derived.Test.YteoilddiilegmaaDoorUH
import Derived.Test.YteoilddiilegmaaDoorUQ
import Derived.Test.YteoilddiilegmaaDoorMl
set_option linter.unusedSimpArgs false
set_option linter.unusedVariables false
namespace Go.Proofs.YteoilddiilegmaaDoor
open Go.RowKit
attribute [local go_sem ↓] Go.wp_at_zero Go.wp_at_succ

theorem norm_y {y : Nat} (h0 : y ≠ 0) (h1 : y < 2 ^ 64) : 2 ^ 63 ≤ y * 2 ^ (64 - lenN y) ∧ y * 2 ^ (64 - lenN y) < 2 ^ 64 := by
  obtain ⟨n, e1, e2, e3⟩ := lenN_pos h0
  have hn : n + 1 ≤ 64 := by rw [← e1]; exact lenN_le h1
  rw [e1]
  constructor
  · have : 2 ^ 63 = 2 ^ n * 2 ^ (64 - (n + 1)) := by rw [← Nat.pow_add]; congr 1; omega
    rw [this]; exact Nat.mul_le_mul_right _ e2
  · have : 2 ^ 64 = 2 ^ (n + 1) * 2 ^ (64 - (n + 1)) := by rw [← Nat.pow_add]; congr 1; omega
    rw [this]; exact Nat.mul_lt_mul_of_pos_right e3 (Nat.two_pow_pos _)

set_option maxRecDepth 100000 in
set_option maxHeartbeats 4000000 in
theorem bits_Div64 (hi lo y : Nat) (hy : hi < y) (h1 : lo < 18446744073709551616) (h2 : y < 18446744073709551616) (w : World) :
    Calls Tryd.prog 66 #[n64 hi, n64 lo, n64 y] w fun e w' => e = .returned (.tuple #[n64 ((hi * 18446744073709551616 + lo) / y), n64 ((hi * 18446744073709551616 + lo) % y)]) ∧ Keep w w' := by
  have y0 : (y : Int) ≠ 0 := by omega
  have y0' : ((y : Int) == 0) = false := by rw [beq_eq_false_iff_ne]; exact y0
  have y0'' : (y == 0) = false := by rw [beq_eq_false_iff_ne]; omega
  have y1 : decide (y ≤ hi) = false := decide_eq_false (by omega)
  by_cases hh : hi = 0
  · subst hh
    rw [Nat.zero_mul, Nat.zero_add]
    go_enter Tryd.func66, Tryd.ntmps66
    have q1 : Int.tdiv (lo : Int) (y : Int) = ((lo / y : Nat) : Int) := rfl
    have q2 : Int.tmod (lo : Int) (y : Int) = ((lo % y : Nat) : Int) := rfl
    have q3 : lo / y < 18446744073709551616 := Nat.lt_of_le_of_lt (Nat.div_le_self _ _) h1
    have q4 : lo % y < 18446744073709551616 := Nat.lt_of_le_of_lt (Nat.mod_le _ _) h1
    have q5 : IntKind.u64.wrap ((lo / y : Nat) : Int) = ((lo / y : Nat) : Int) := Mul64.wrapN _ q3
    generalize lo / y = Q at *
    generalize lo % y = R at *
    go_upto_region 6 with fail
    refine wp_region_aft (by kernel_rfl) (by kernel_rfl) w (Below.refl _ _) ?_
    repeat (go_big_quiet_step (fail))
    refine wpQuiet_nil ?_
    rintro _ ⟨y', rfl⟩
    have j := aft_keep w y'
    generalize aft w y' = wz at j ⊢
    clear q1 q2
    go_wp2
    exact bodyPost_ret (v := .tuple #[n64 Q, n64 R]) (by simp [results, Tryd.results66]) rfl ⟨rfl, j⟩
  · have hh0 : (hi == 0) = false := by rw [beq_eq_false_iff_ne]; exact hh
    have hh1 : ((hi : Int) == 0) = false := by rw [beq_eq_false_iff_ne]; omega
    have hyl : y < 2 ^ 64 := h2
    have hbl : Lib.bitLen (y : Int).toNat = lenN y := by rw [Int.toNat_natCast]; exact bitLen_eq hyl
    have L1 := bits_Lead64 (y : Int) w (by omega) (by omega) (by rw [hbl]; exact lenN_le hyl)
    rw [hbl] at L1
    obtain ⟨n1, n2⟩ := norm_y (by omega) hyl
    obtain ⟨s, hs⟩ : ∃ s, 64 - lenN y = s := ⟨_, rfl⟩
    rw [hs] at L1 n1 n2
    have hs64 : s ≤ 64 := by omega
    have HL := Lib.hid L1
    have hp : 0 < 2 ^ s := Nat.two_pow_pos s
    have hss : 2 ^ s * 2 ^ (64 - s) = 2 ^ 64 := by rw [← Nat.pow_add]; congr 1; omega
    obtain ⟨Y, hY⟩ : ∃ Y, y * 2 ^ s = Y := ⟨_, rfl⟩
    rw [hY] at n1 n2
    have hY64 : Y < 18446744073709551616 := n2
    have hY63 : 9223372036854775808 ≤ Y := n1
    have hhs : hi * 2 ^ s < Y := by rw [← hY]; exact Nat.mul_lt_mul_of_pos_right hy hp
    obtain ⟨H, hH⟩ : ∃ H, hi * 2 ^ s = H := ⟨_, rfl⟩
    obtain ⟨l1, hl1⟩ : ∃ l1, lo / 2 ^ (64 - s) = l1 := ⟨_, rfl⟩
    obtain ⟨l2, hl2⟩ : ∃ l2, lo * 2 ^ s % 18446744073709551616 = l2 := ⟨_, rfl⟩
    have hl1s : l1 < 2 ^ s := by
      rw [← hl1, Nat.div_lt_iff_lt_mul (Nat.two_pow_pos _), hss]; exact h1
    have hlo : lo * 2 ^ s = l1 * 18446744073709551616 + l2 := by
      have e1 : lo * 2 ^ s / 18446744073709551616 = l1 := by
        rw [← hl1, show (18446744073709551616 : Nat) = 2 ^ (64 - s) * 2 ^ s by rw [Nat.mul_comm, hss], Nat.mul_div_mul_right _ _ hp]
      have e2 := Nat.div_add_mod (lo * 2 ^ s) 18446744073709551616
      rw [e1, hl2] at e2
      omega
    have hu : H + l1 < Y := by
      have e3 : (hi + 1) * 2 ^ s ≤ y * 2 ^ s := Nat.mul_le_mul_right _ hy
      rw [Nat.add_mul, Nat.one_mul, hH, hY] at e3
      omega
    have hor : H ||| l1 = H + l1 := by
      rw [← hH, Nat.mul_comm hi, ← Nat.two_pow_add_eq_or_of_lt hl1s]
    have hNs : (hi * 18446744073709551616 + lo) * 2 ^ s = ((H + l1) * 4294967296 + l2 / 4294967296) * 4294967296 + l2 % 4294967296 := by
      rw [Nat.add_mul, hlo, Nat.mul_right_comm, hH]
      omega
    obtain ⟨U, hU⟩ : ∃ U, H + l1 = U := ⟨_, rfl⟩
    rw [hU] at hNs hu hor
    obtain ⟨m1, hm1⟩ : ∃ m1, l2 / 4294967296 = m1 := ⟨_, rfl⟩
    obtain ⟨m0, hm0⟩ : ∃ m0, l2 % 4294967296 = m0 := ⟨_, rfl⟩
    obtain ⟨v1, hv1⟩ : ∃ v1, Y / 4294967296 = v1 := ⟨_, rfl⟩
    obtain ⟨v0, hv0⟩ : ∃ v0, Y % 4294967296 = v0 := ⟨_, rfl⟩
    rw [hm1, hm0] at hNs
    have hl264 : l2 < 18446744073709551616 := by rw [← hl2]; exact Nat.mod_lt _ (by decide)
    have HN := Lib.hid hNs; have HY := Lib.hid hY
    -- the values as the walk shows them
    have f1 : IntKind.u64.wrap ((y : Int) * 2 ^ s) = (Y : Int) := by
      rw [show (y : Int) * 2 ^ s = ((y * 2 ^ s : Nat) : Int) by rw [Int.natCast_mul]; rfl, hY]; exact Mul64.wrapN _ hY64
    have f2 : bits .and .u64 (Y : Int) 4294967295 = (v0 : Int) := by rw [Mul64.maskN Y hY64, hv0]
    have f3 : (Y : Int) / 4294967296 = (v1 : Int) := by rw [Mul64.divN, hv1]
    have f4 : IntKind.u64.wrap ((hi : Int) * 2 ^ s) = (H : Int) := by
      rw [show (hi : Int) * 2 ^ s = ((hi * 2 ^ s : Nat) : Int) by rw [Int.natCast_mul]; rfl, hH]; exact Mul64.wrapN _ (by omega)
    have f5 : bits .or .u64 (H : Int) ((lo : Int) / 2 ^ (64 - s)) = (U : Int) := by
      rw [show (lo : Int) / 2 ^ (64 - s) = ((lo / 2 ^ (64 - s) : Nat) : Int) by rw [Int.natCast_ediv]; rfl, hl1, bits_or_u64_nat _ _ (by omega) (by omega), hor]
    have f6 : IntKind.u64.wrap ((lo : Int) * 2 ^ s) = (l2 : Int) := by
      rw [show (lo : Int) * 2 ^ s = ((lo * 2 ^ s : Nat) : Int) by rw [Int.natCast_mul]; rfl, Mul64.wrapM, hl2]
    have f7 : (l2 : Int) / 4294967296 = (m1 : Int) := by rw [Mul64.divN, hm1]
    have f8 : bits .and .u64 (l2 : Int) 4294967295 = (m0 : Int) := by rw [Mul64.maskN l2 hl264, hm0]
    have b1 : 2147483648 ≤ v1 ∧ v1 < 4294967296 ∧ v0 < 4294967296 ∧ Y = v1 * 4294967296 + v0 ∧ m1 < 4294967296 ∧ m0 < 4294967296 := by omega
    obtain ⟨b1, b2, b3, b4, b5, b6⟩ := b1
    have hUv : U < v1 * 4294967296 + v0 := by rw [← b4]; exact hu
    have D0 := d_start (n := m1) b1 b2 b3 hUv b5
    have B4 := Lib.hid b4
    clear b4
    obtain ⟨q, hq⟩ : ∃ q, U / v1 = q := ⟨_, rfl⟩
    obtain ⟨r, hr⟩ : ∃ r, U % v1 = r := ⟨_, rfl⟩
    rw [hq, hr] at D0
    have f9 : Int.tdiv (U : Int) (v1 : Int) = (q : Int) := by show ((U / v1 : Nat) : Int) = q; rw [hq]
    have f9' : (U : Int) / (v1 : Int) = (q : Int) := by rw [← hq]; rfl
    have f9b : IntKind.u64.wrap (q : Int) = (q : Int) := Mul64.wrapN _ (by have := D0.q2; omega)
    obtain ⟨a, ha⟩ : ∃ a, q * v1 = a := ⟨_, rfl⟩
    have hea : a + r = U := by rw [← ha]; exact D0.e
    have f10 : (q : Int) * (v1 : Int) = (a : Int) := by rw [← ha]; exact Mul64.mulN _ _
    have f11 : IntKind.u64.wrap (a : Int) = (a : Int) := Mul64.wrapN _ (by omega)
    have f12 : IntKind.u64.wrap ((U : Int) - (a : Int)) = (r : Int) := by rw [show (U : Int) - (a : Int) = (r : Int) by omega]; exact Mul64.wrapN _ (by omega)
    have hD0 := Lib.hid D0
    have g1 : ((v1 : Int) == 0) = false := by rw [beq_eq_false_iff_ne]; omega
    have g2 : (v1 : Int) ≠ 0 := by omega
    have hs64' : s < 64 := by
      apply Nat.lt_of_not_le
      intro e
      have : s = 64 := by omega
      rw [this] at hY
      omega
    clear D0 hNs hY hH hl1 hl2 hl1s hlo hor hU hm1 hm0 hv1 hv0 hq hr ha n1 n2 hs hyl hp hss hhs hY63 hh
    go_enter Tryd.func66, Tryd.ntmps66
    go_wp2_with fail
    refine HL.out.mono ?_
    rintro e w2 ⟨rfl, rfl⟩
    go_upto_region 16 with fail
    go_cut [15, 16] (fun sq sr wx => sq = .int .u64 q ∧ sr = .int .u64 r ∧ w2 = wx)
    case first =>
      go_wp2
      go_meet
      exact ⟨rfl, rfl, rfl⟩
    case rest =>
      obtain ⟨rfl, rfl, rfl⟩ := hcut
      refine (by assumption : ∀ a w, Code.wp _ _ _ a w → _) _ _ ?_
      refine wp_seq_k (fun KL hKL => ?_)
      go_cut [15, 16] (fun sq sr wx => ∃ Q R : Nat, sq = .int .u64 Q ∧ sr = .int .u64 R ∧ Hid (Q = (U * 4294967296 + m1) / (v1 * 4294967296 + v0)) ∧ Hid (Keep w2 wx))
      case first =>
        go_wp2_with fail
        go_loopw [15, 16] (fun sq sr wr => ∃ q r : Nat, sq = .int .u64 q ∧ sr = .int .u64 r ∧ Hid (DStep v1 v0 U m1 q r) ∧ Hid (Keep w2 wr)) (fun sq _ _ => (intOf sq).toNat)
        case atStart => exact ⟨q, r, rfl, rfl, hD0, Lib.hid (Below.refl _ _)⟩
        case round =>
          obtain ⟨p, t, rfl, rfl, HD, HK⟩ := hrel
          have hp2 := HD.out.q2; have ht := HD.out.rl
          obtain ⟨b, hb⟩ : ∃ b, p * v0 = b := ⟨_, rfl⟩
          have F1 : (p : Int) * (v0 : Int) = (b : Int) := by rw [← hb]; exact Mul64.mulN _ _
          have F3 : IntKind.u64.wrap (4294967296 * (t : Int) + (m1 : Int)) = 4294967296 * (t : Int) + (m1 : Int) := by rw [IntKind.wrap_u64]; omega
          by_cases hA : p < 4294967296 ∧ b ≤ 4294967296 * t + m1
          · have hex := d_exit (by omega) HD.out (by rw [hb]; exact hA.2)
            have Hex := Lib.hid hex
            obtain ⟨hA1, hA2⟩ := hA
            have F2 : IntKind.u64.wrap (b : Int) = (b : Int) := Mul64.wrapN _ (by omega)
            have d1 : decide (4294967296 ≤ p) = false := decide_eq_false (by omega)
            have d1' : ¬ (4294967296 : Int) ≤ (p : Int) := by omega
            have d2 : ¬ 4294967296 * (t : Int) + (m1 : Int) < (b : Int) := by omega
            clear hex hb HD
            go_wp2
            go_meet
            exact ⟨p, t, rfl, rfl, Hex, HK⟩
          · have hst := d_step (by omega) hUv b5 HD.out (by rw [hb]; exact hA)
            obtain ⟨s1, s2, s3, s4⟩ := hst
            obtain ⟨p', rfl⟩ : ∃ p', p = p' + 1 := ⟨p - 1, by omega⟩
            rw [Nat.add_sub_cancel] at s2 s3 s4
            have F1' : ((p' : Int) + 1) * (v0 : Int) = (b : Int) := F1
            have S2 := Lib.hid s2; have S3 := Lib.hid s3
            clear s2 s3 HD s1
            have hcond : Hid (4294967296 ≤ p' + 1 ∨ (p' + 1 < 4294967296 ∧ 4294967296 * t + m1 < b)) := by
              refine Lib.hid ?_
              by_cases h : p' + 1 < 4294967296
              · exact Or.inr ⟨h, by apply Nat.lt_of_not_le; exact fun e => hA ⟨h, e⟩⟩
              · exact Or.inl (by omega)
            clear hA
            have hbm : p' + 1 < 4294967296 → b < 18446744073709551616 := fun h => by
              rw [← hb]
              have h1 : (p' + 1) * v0 ≤ 4294967295 * 4294967295 := Nat.mul_le_mul (by omega) (by omega)
              omega
            have Hbm := Lib.hid hbm
            clear hbm hb
            go_upto_region 17 with fail
            go_cut [78] (fun v wx => v = .bool true ∧ wr = wx)
            case first =>
              rcases hcond.out with h | ⟨h, h'⟩
              · have d1 : decide (4294967296 ≤ p' + 1) = true := decide_eq_true h
                have d1' : (4294967296 : Int) ≤ (p' : Int) + 1 := by omega
                clear h hcond
                go_wp2
                go_meet
                exact ⟨rfl, rfl⟩
              · have hb64 := Hbm.out h
                have F2 : IntKind.u64.wrap (b : Int) = (b : Int) := Mul64.wrapN _ hb64
                have d1 : decide (4294967296 ≤ p' + 1) = false := decide_eq_false (by omega)
                have d1' : ¬ (4294967296 : Int) ≤ (p' : Int) + 1 := by omega
                have d2 : 4294967296 * (t : Int) + (m1 : Int) < (b : Int) := by omega
                clear h h' hcond
                go_wp2
                go_meet
                exact ⟨rfl, rfl⟩
            case rest =>
              obtain ⟨rfl, rfl⟩ := hcut
              clear F1 F1' F3 hcond
              by_cases hbr : 4294967296 ≤ t + v1
              · have hex := d_break (by omega) b3 S3.out S2.out s4 hbr
                have Hex := Lib.hid hex
                have d3 : decide (4294967296 ≤ t + v1) = true := decide_eq_true hbr
                have d3' : (4294967296 : Int) ≤ (t : Int) + (v1 : Int) := by omega
                clear hex hbr
                go_wp2
                go_meet
                exact ⟨p', t + v1, by go_num, by go_num, Hex, HK⟩
              · have hD' : Hid (DStep v1 v0 U m1 p' (t + v1)) := Lib.hid ⟨S3.out, S2.out, by omega, by omega⟩
                have d3 : decide (4294967296 ≤ t + v1) = false := decide_eq_false hbr
                have d3' : ¬ (4294967296 : Int) ≤ (t : Int) + (v1 : Int) := by omega
                clear hbr
                go_wp2
                go_roundw
                case rel => exact ⟨p', t + v1, by go_num, by go_num, hD', HK⟩
                case measure => simp [intOf]; try omega
      case rest =>
        obtain ⟨Q, R, rfl, rfl, HQ, HK⟩ := hcut
        have hQB : Q < 4294967296 := by rw [HQ.out]; exact d_le hUv b5
        obtain ⟨c, hc⟩ : ∃ c, Q * Y = c := ⟨_, rfl⟩
        have P1 : (Q : Int) * (Y : Int) = (c : Int) := by rw [← hc]; exact Mul64.mulN _ _
        clear f1 f2 f3 f4 f5 f6 f7 f8 f9 f9' f9b f10 f11 f12 hea
        obtain ⟨r1, hr1⟩ : ∃ r1, (U * 4294967296 + m1) % Y = r1 := ⟨_, rfl⟩
        have hY0 : 0 < Y := by omega
        have hQY : Q = (U * 4294967296 + m1) / Y := by rw [HQ.out, B4.out]
        have hcr : c + r1 = U * 4294967296 + m1 := by
          have h1 := Nat.div_add_mod (U * 4294967296 + m1) Y
          rw [← hQY, hr1, Nat.mul_comm, hc] at h1
          exact h1
        have hr1Y : r1 < Y := by rw [← hr1]; exact Nat.mod_lt _ hY0
        have hRv : r1 < v1 * 4294967296 + v0 := by rw [← B4.out]; exact hr1Y
        have g21 : IntKind.u64.wrap (IntKind.u64.wrap (IntKind.u64.wrap ((U : Int) * 4294967296) + (m1 : Int)) - IntKind.u64.wrap (c : Int)) = (r1 : Int) := by
          rw [IntKind.wrap_u64, IntKind.wrap_u64, IntKind.wrap_u64, IntKind.wrap_u64]; omega
        have HR1 := Lib.hid hr1; have HQY := Lib.hid hQY
        have D1 := d_start (n := m0) b1 b2 b3 hRv b6
        obtain ⟨q2, hq2⟩ : ∃ q, r1 / v1 = q := ⟨_, rfl⟩
        obtain ⟨r2, hr2⟩ : ∃ r, r1 % v1 = r := ⟨_, rfl⟩
        rw [hq2, hr2] at D1
        have f9 : Int.tdiv (r1 : Int) (v1 : Int) = (q2 : Int) := by show ((r1 / v1 : Nat) : Int) = q2; rw [hq2]
        have f9' : (r1 : Int) / (v1 : Int) = (q2 : Int) := by rw [← hq2]; rfl
        have f9b : IntKind.u64.wrap (q2 : Int) = (q2 : Int) := Mul64.wrapN _ (by have := D1.q2; omega)
        obtain ⟨a2, ha2⟩ : ∃ a, q2 * v1 = a := ⟨_, rfl⟩
        have hea2 : a2 + r2 = r1 := by rw [← ha2]; exact D1.e
        have f10 : (q2 : Int) * (v1 : Int) = (a2 : Int) := by rw [← ha2]; exact Mul64.mulN _ _
        have f11 : IntKind.u64.wrap (a2 : Int) = (a2 : Int) := Mul64.wrapN _ (by omega)
        have f12 : IntKind.u64.wrap ((r1 : Int) - (a2 : Int)) = (r2 : Int) := by rw [show (r1 : Int) - (a2 : Int) = (r2 : Int) by omega]; exact Mul64.wrapN _ (by omega)
        have hD1 := Lib.hid D1
        clear D1 hq2 hr2 ha2 hcr hQY hr1 hc
        go_upto_region 23 with fail
        go_cut [16, 17, 18] (fun sr su sq wx => sq = .int .u64 q2 ∧ sr = .int .u64 r2 ∧ su = .int .u64 r1 ∧ wc = wx)
        case first =>
          go_wp2
          go_meet
          exact ⟨rfl, rfl, rfl, rfl⟩
        case rest =>
          obtain ⟨rfl, rfl, rfl, rfl⟩ := hcut
          obtain ⟨w3, hw3⟩ : ∃ x : World, x = wc := ⟨_, rfl⟩
          subst hw3
          refine (by assumption : ∀ a w, Code.wp _ _ _ a w → _) _ _ ?_
          refine wp_seq_k (fun KL hKL => ?_)
          go_cut [16, 18] (fun sr sq wx => ∃ Q R : Nat, sq = .int .u64 Q ∧ sr = .int .u64 R ∧ Hid (Q = (r1 * 4294967296 + m0) / (v1 * 4294967296 + v0)) ∧ Hid (Keep w3 wx))
          case first =>
            clear g21 f9 f9' f9b f10 f11 f12 hea2 P1
            go_wp2_with fail
            go_loopw [16, 18] (fun sr sq wr => ∃ q r : Nat, sq = .int .u64 q ∧ sr = .int .u64 r ∧ Hid (DStep v1 v0 r1 m0 q r) ∧ Hid (Keep w3 wr)) (fun _ sq _ => (intOf sq).toNat)
            case atStart => exact ⟨q2, r2, rfl, rfl, hD1, Lib.hid (Below.refl _ _)⟩
            case round =>
            obtain ⟨p, t, rfl, rfl, HD, HK2⟩ := hrel
            have hp2 := HD.out.q2; have ht := HD.out.rl
            obtain ⟨b, hb⟩ : ∃ b, p * v0 = b := ⟨_, rfl⟩
            have F1 : (p : Int) * (v0 : Int) = (b : Int) := by rw [← hb]; exact Mul64.mulN _ _
            have F3 : IntKind.u64.wrap (4294967296 * (t : Int) + (m0 : Int)) = 4294967296 * (t : Int) + (m0 : Int) := by rw [IntKind.wrap_u64]; omega
            by_cases hA : p < 4294967296 ∧ b ≤ 4294967296 * t + m0
            · have hex := d_exit (by omega) HD.out (by rw [hb]; exact hA.2)
              have Hex := Lib.hid hex
              obtain ⟨hA1, hA2⟩ := hA
              have F2 : IntKind.u64.wrap (b : Int) = (b : Int) := Mul64.wrapN _ (by omega)
              have d1 : decide (4294967296 ≤ p) = false := decide_eq_false (by omega)
              have d1' : ¬ (4294967296 : Int) ≤ (p : Int) := by omega
              have d2 : ¬ 4294967296 * (t : Int) + (m0 : Int) < (b : Int) := by omega
              clear hex hb HD
              go_wp2
              go_meet
              exact ⟨p, t, rfl, rfl, Hex, HK2⟩
            · have hst := d_step (by omega) hRv b6 HD.out (by rw [hb]; exact hA)
              obtain ⟨s1, s2, s3, s4⟩ := hst
              obtain ⟨p', rfl⟩ : ∃ p', p = p' + 1 := ⟨p - 1, by omega⟩
              rw [Nat.add_sub_cancel] at s2 s3 s4
              have F1' : ((p' : Int) + 1) * (v0 : Int) = (b : Int) := F1
              have S2 := Lib.hid s2; have S3 := Lib.hid s3
              clear s2 s3 HD s1
              have hcond : Hid (4294967296 ≤ p' + 1 ∨ (p' + 1 < 4294967296 ∧ 4294967296 * t + m0 < b)) := by
                refine Lib.hid ?_
                by_cases h : p' + 1 < 4294967296
                · exact Or.inr ⟨h, by apply Nat.lt_of_not_le; exact fun e => hA ⟨h, e⟩⟩
                · exact Or.inl (by omega)
              clear hA
              have hbm : p' + 1 < 4294967296 → b < 18446744073709551616 := fun h => by
                rw [← hb]
                have h1 : (p' + 1) * v0 ≤ 4294967295 * 4294967295 := Nat.mul_le_mul (by omega) (by omega)
                omega
              have Hbm := Lib.hid hbm
              clear hbm hb
              go_upto_region 24 with fail
              go_cut [113] (fun v wx => v = .bool true ∧ wr = wx)
              case first =>
                rcases hcond.out with h | ⟨h, h'⟩
                · have d1 : decide (4294967296 ≤ p' + 1) = true := decide_eq_true h
                  have d1' : (4294967296 : Int) ≤ (p' : Int) + 1 := by omega
                  clear h hcond
                  go_wp2
                  go_meet
                  exact ⟨rfl, rfl⟩
                · have hb64 := Hbm.out h
                  have F2 : IntKind.u64.wrap (b : Int) = (b : Int) := Mul64.wrapN _ hb64
                  have d1 : decide (4294967296 ≤ p' + 1) = false := decide_eq_false (by omega)
                  have d1' : ¬ (4294967296 : Int) ≤ (p' : Int) + 1 := by omega
                  have d2 : 4294967296 * (t : Int) + (m0 : Int) < (b : Int) := by omega
                  clear h h' hcond
                  go_wp2
                  go_meet
                  exact ⟨rfl, rfl⟩
              case rest =>
                obtain ⟨rfl, rfl⟩ := hcut
                clear F1 F1' F3 hcond
                by_cases hbr : 4294967296 ≤ t + v1
                · have hex := d_break (by omega) b3 S3.out S2.out s4 hbr
                  have Hex := Lib.hid hex
                  have d3 : decide (4294967296 ≤ t + v1) = true := decide_eq_true hbr
                  have d3' : (4294967296 : Int) ≤ (t : Int) + (v1 : Int) := by omega
                  clear hex hbr
                  go_wp2
                  go_meet
                  exact ⟨p', t + v1, by go_num, by go_num, Hex, HK2⟩
                · have hD' : Hid (DStep v1 v0 r1 m0 p' (t + v1)) := Lib.hid ⟨S3.out, S2.out, by omega, by omega⟩
                  have d3 : decide (4294967296 ≤ t + v1) = false := decide_eq_false hbr
                  have d3' : ¬ (4294967296 : Int) ≤ (t : Int) + (v1 : Int) := by omega
                  clear hbr
                  go_wp2
                  go_roundw
                  case rel => exact ⟨p', t + v1, by go_num, by go_num, hD', HK2⟩
                  case measure => simp [intOf]; try omega
          case rest =>
            obtain ⟨Q0, R0, rfl, rfl, HQ0, HK0⟩ := hcut
            clear g21 f9 f9' f9b f10 f11 f12 hea2 P1
            have hQ0B : Q0 < 4294967296 := by rw [HQ0.out]; exact d_le hRv b6
            obtain ⟨r0, hr0⟩ : ∃ r0, (r1 * 4294967296 + m0) % Y = r0 := ⟨_, rfl⟩
            have hQ0Y : Q0 = (r1 * 4294967296 + m0) / Y := by rw [HQ0.out, B4.out]
            obtain ⟨c0, hc0⟩ : ∃ c, Q0 * Y = c := ⟨_, rfl⟩
            have hcr0 : c0 + r0 = r1 * 4294967296 + m0 := by
              have h1 := Nat.div_add_mod (r1 * 4294967296 + m0) Y
              rw [← hQ0Y, hr0, Nat.mul_comm, hc0] at h1
              exact h1
            have hr0Y : r0 < Y := by rw [← hr0]; exact Nat.mod_lt _ hY0
            obtain ⟨z1, z2⟩ := d_all (s := s) (y := y) (by omega) HY.out.symm HN.out HQY.out HR1.out.symm hQ0Y hr0.symm
            obtain ⟨e1, he1⟩ : ∃ e, Q * 4294967296 + Q0 = e := ⟨_, rfl⟩
            obtain ⟨e0, he0⟩ : ∃ e, r0 / 2 ^ s = e := ⟨_, rfl⟩
            rw [he1] at z1
            rw [he0] at z2
            have P2 : (Q0 : Int) * (Y : Int) = (c0 : Int) := by rw [← hc0]; exact Mul64.mulN _ _
            have g28 : IntKind.u64.wrap (IntKind.u64.wrap (IntKind.u64.wrap ((r1 : Int) * 4294967296) + (m0 : Int)) - IntKind.u64.wrap (c0 : Int)) = (r0 : Int) := by
              rw [IntKind.wrap_u64, IntKind.wrap_u64, IntKind.wrap_u64, IntKind.wrap_u64]; omega
            have g29 : (r0 : Int) / 2 ^ s = (e0 : Int) := by rw [← he0, Int.natCast_ediv]; rfl
            have g30 : IntKind.u64.wrap (IntKind.u64.wrap ((Q : Int) * 4294967296) + (Q0 : Int)) = (e1 : Int) := by
              rw [IntKind.wrap_u64, IntKind.wrap_u64]; omega
            have Z1 := Lib.hid z1; have Z2 := Lib.hid z2; have HK3 := Lib.hid (keep_trans HK.out HK0.out)
            clear z1 z2 hr0 hQ0Y hc0 hcr0 he0 he1
            clear hY0 hr0Y hQ0B hQB
            go_wp2
            rw [← Z1.out, ← Z2.out]
            exact bodyPost_ret (v := .tuple #[n64 e1, n64 e0]) (by simp [results, Tryd.results66]) rfl ⟨rfl, HK3.out⟩
end Go.Proofs.YteoilddiilegmaaDoor
