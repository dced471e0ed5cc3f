/- The quotient of two words by one, and what is left: for every word above the upper one. -/
import Derived.Test.YtmbbjoadnapcgaaDoorBits
namespace Go.Proofs.YtmbbjoadnapcgaaDoor
open Go.RowKit

theorem div64_zero (lo y : Nat) (h0 : 0 < y) (h1 : y < 18446744073709551616) (h2 : lo < 18446744073709551616) (w : World) :
    Calls Tryd.prog 40 #[.int .u64 0, .int .u64 lo, .int .u64 y] w fun e w' => e = .returned (.tuple #[.int .u64 ((lo / y : Nat) : Int), .int .u64 ((lo % y : Nat) : Int)]) ∧ ∃ n, w' = w.drewN n := by
  have hy0 : ((y : Int) == 0) = false := beq_eq_false_iff_ne.mpr (by omega)
  have hy1 : decide ((y : Int) ≤ 0) = false := by simp; omega
  go_enter Tryd.func40, Tryd.ntmps40
  go_wp2
  go_quiet (fail)
  go_wp2
  go_ret2
  have e1 : IntKind.u64.wrap ((lo : Int) / (y : Int)) = ((lo / y : Nat) : Int) := by
    have hl := Nat.div_le_self lo y
    rw [← Int.natCast_ediv]
    exact Wd.wrapN _ (by omega)
  exact ⟨ret_two e1 (by omega), _, rfl⟩

/-! the guess of a digit: H is below Y, Y = y1 B + y0, B = 2^32 -/
structure Gs (H u Y y1 y0 Q R : Nat) : Prop where
  sum : Q * y1 + R = H
  ge : (H * 4294967296 + u) / Y ≤ Q
  lt : R < 4294967296

theorem le_div {a b q : Nat} (hb : 0 < b) (h : q * b ≤ a) : q ≤ a / b := (Nat.le_div_iff_mul_le hb).2 h

theorem gs_start {H u Y y1 y0 : Nat} (hY : Y = y1 * 4294967296 + y0) (hu : u < 4294967296) (hy : 0 < y1) (hyl : y1 < 4294967296) : Gs H u Y y1 y0 (H / y1) (H - H / y1 * y1) := by
  have hm := Nat.div_add_mod H y1
  have hl := Nat.mod_lt H hy
  rw [Nat.mul_comm] at hm
  refine ⟨by omega, ?_, by omega⟩
  refine le_div hy ?_
  have h1 := Nat.div_mul_le_self (H * 4294967296 + u) Y
  generalize (H * 4294967296 + u) / Y = q at *
  have h2 : q * Y = q * y1 * 4294967296 + q * y0 := by rw [hY]; grind
  omega

theorem gs_done {H u Y y1 y0 Q R : Nat} (h : Gs H u Y y1 y0 Q R) (hY : Y = y1 * 4294967296 + y0) (h0 : 0 < Y) (ht : Q * y0 ≤ 4294967296 * R + u) : Q = (H * 4294967296 + u) / Y := by
  have h1 : Q ≤ (H * 4294967296 + u) / Y := by
    refine le_div h0 ?_
    have h2 : Q * Y = Q * y1 * 4294967296 + Q * y0 := by rw [hY]; grind
    have := h.sum
    omega
  have := h.ge
  omega

theorem gs_less {H u Y y1 y0 Q R : Nat} (h : Gs H u Y y1 y0 (Q + 1) R) (hY : Y = y1 * 4294967296 + y0) (hH : H < Y) (hu : u < 4294967296) (ht : 4294967296 ≤ Q + 1 ∨ 4294967296 * R + u < (Q + 1) * y0) :
    (H * 4294967296 + u) / Y ≤ Q ∧ Q * y1 + (R + y1) = H := by
  have hs := h.sum
  have e : (Q + 1) * y1 = Q * y1 + y1 := by grind
  refine ⟨?_, by omega⟩
  have hq := Nat.div_mul_le_self (H * 4294967296 + u) Y
  have hge := h.ge
  rcases Nat.lt_or_ge Q ((H * 4294967296 + u) / Y) with hlt | hlt
  · exfalso
    have hq1 : (H * 4294967296 + u) / Y = Q + 1 := by omega
    rw [hq1] at hq
    rcases ht with ht | ht
    · have : 4294967296 * Y ≤ (Q + 1) * Y := Nat.mul_le_mul_right _ ht
      omega
    · have h2 : (Q + 1) * Y = (Q + 1) * y1 * 4294967296 + (Q + 1) * y0 := by rw [hY]; grind
      omega
  · exact hlt

theorem gs_over {H u Y y1 y0 Q R : Nat} (hle : (H * 4294967296 + u) / Y ≤ Q) (hs : Q * y1 + R = H) (hY : Y = y1 * 4294967296 + y0) (h0 : 0 < Y) (hy0 : y0 < 4294967296) (hQ : Q ≤ 4294967296) (hR : 4294967296 ≤ R) : Q = (H * 4294967296 + u) / Y := by
  have h1 : Q ≤ (H * 4294967296 + u) / Y := by
    refine le_div h0 ?_
    have h2 : Q * Y = Q * y1 * 4294967296 + Q * y0 := by rw [hY]; grind
    have h3 : Q * y0 ≤ 4294967296 * y0 := Nat.mul_le_mul_right _ hQ
    omega
  omega

theorem gs_small {H u Y y1 y0 Q R : Nat} (h : Gs H u Y y1 y0 Q R) (hH : H < 18446744073709551616) (hy : 2147483648 ≤ y1) : Q ≤ 8589934592 := by
  have h1 : Q * 2147483648 ≤ Q * y1 := Nat.mul_le_mul_left _ hy
  have := h.sum
  omega
theorem gs_top {H Y y1 y0 Q R : Nat} (hs : Q * y1 + R = H) (hY : Y = y1 * 4294967296 + y0) (hH : H < Y) (hy0 : y0 < 4294967296) (hR : 4294967296 ≤ R) : Q ≤ 4294967296 := by
  have h1 : Q * y1 < 4294967296 * y1 := by omega
  have := Nat.lt_of_mul_lt_mul_right h1
  omega
theorem gs_pos {Q y0 : Nat} (h : 0 < Q * y0) : 1 ≤ Q := by
  rcases Nat.eq_zero_or_pos Q with e | e
  · rw [e, Nat.zero_mul] at h; omega
  · exact e

set_option maxRecDepth 100000 in
set_option maxHeartbeats 4000000 in
theorem div64_core (hi lo y s Y y1 y0 hh H L u1 u0 Q0 R0 q1 U2 Q2 R2 q0 dq dr : Nat) (hi0 : 0 < hi) (h : hi < y) (h1 : y < 18446744073709551616) (hs : s = 64 - Lib.bitLen y) (hs63 : s ≤ 63)
    (hy1b : 2147483648 ≤ y1) (hy1l : y1 < 4294967296) (hy0l : y0 < 4294967296) (u1b : u1 < 4294967296) (u0b : u0 < 4294967296) (hYs : Hid (Y = y1 * 4294967296 + y0)) (hHY : H < Y) (hUY : U2 < Y)
    (e1 : IntKind.u64.wrap ((y : Int) * 2 ^ s) = (Y : Int)) (e2 : (Y : Int) / 4294967296 = (y1 : Int)) (e3 : bits .and .u64 (Y : Int) 4294967295 = (y0 : Int))
    (e4 : IntKind.u64.wrap ((hi : Int) * 2 ^ s) = (hh : Int)) (e5 : bits .or .u64 (hh : Int) ((lo : Int) / 2 ^ (64 - s)) = (H : Int)) (e6 : IntKind.u64.wrap ((lo : Int) * 2 ^ s) = (L : Int))
    (e7 : (L : Int) / 4294967296 = (u1 : Int)) (e8 : bits .and .u64 (L : Int) 4294967295 = (u0 : Int))
    (e9 : IntKind.u64.wrap ((H : Int) / (y1 : Int)) = (Q0 : Int)) (e10 : IntKind.u64.wrap ((H : Int) - IntKind.u64.wrap ((Q0 : Int) * (y1 : Int))) = (R0 : Int)) (g0 : Gs H u1 Y y1 y0 Q0 R0) (hq1 : Hid (q1 = (H * 4294967296 + u1) / Y))
    (e11 : IntKind.u64.wrap (IntKind.u64.wrap (IntKind.u64.wrap ((H : Int) * 4294967296) + (u1 : Int)) - IntKind.u64.wrap ((q1 : Int) * (Y : Int))) = (U2 : Int))
    (e12 : IntKind.u64.wrap ((U2 : Int) / (y1 : Int)) = (Q2 : Int)) (e13 : IntKind.u64.wrap ((U2 : Int) - IntKind.u64.wrap ((Q2 : Int) * (y1 : Int))) = (R2 : Int)) (g2 : Gs U2 u0 Y y1 y0 Q2 R2) (hq0 : Hid (q0 = (U2 * 4294967296 + u0) / Y))
    (hdq : dq < 18446744073709551616) (h14 : Hid (q1 * 4294967296 + q0 = dq)) (e14 : IntKind.u64.wrap (IntKind.u64.wrap ((q1 : Int) * 4294967296) + (q0 : Int)) = (dq : Int))
    (e15 : IntKind.u64.wrap (IntKind.u64.wrap (IntKind.u64.wrap ((U2 : Int) * 4294967296) + (u0 : Int)) - IntKind.u64.wrap ((q0 : Int) * (Y : Int))) / 2 ^ s = (dr : Int)) (w : World) :
    Calls Tryd.prog 40 #[.int .u64 hi, .int .u64 lo, .int .u64 y] w fun e w' => e = .returned (.tuple #[.int .u64 dq, .int .u64 dr]) ∧ ∃ n, w' = w.drewN n := by
  have hy0 : ((y : Int) == 0) = false := beq_eq_false_iff_ne.mpr (by omega)
  have hy1 : decide (y ≤ hi) = false := by simp; omega
  have hh0 : ((hi : Int) == 0) = false := beq_eq_false_iff_ne.mpr (by omega)
  have hY0 : 0 < Y := by omega
  have HS := Lib.hid hs
  clear hs
  go_enter Tryd.func40, Tryd.ntmps40
  go_wp2_with (go_at_call 45; refine (lz64_calls _ _ (by omega) (by omega)).mono ?_; rintro e w' ⟨rfl, rfl⟩; rw [Int.toNat_natCast, ← HS.out])
  go_loopw [15, 16] (fun a b w' => ∃ Q R : Nat, a = .int .u64 Q ∧ b = .int .u64 R ∧ Gs H u1 Y y1 y0 Q R ∧ ∃ n, w' = w.drewN n) (fun _ b _ => 8589934592 - (intOf b).toNat)
  case atStart => exact ⟨Q0, R0, rfl, rfl, g0, 0, rfl⟩
  case round =>
    obtain ⟨Q, R, rfl, rfl, hg, n, rfl⟩ := hrel
    have hRl := hg.lt
    have hQb : Q < 4294967296 → Q * y0 ≤ 4294967295 * 4294967295 := fun hq => Nat.mul_le_mul (by omega) (by omega)
    have hQl : Q ≤ 8589934592 := gs_small hg (by omega) hy1b
    obtain ⟨P, hP⟩ : ∃ P : Nat, P = Q * y0 := ⟨_, rfl⟩
    have HP := Lib.hid hP
    clear hP
    by_cases t1 : Q < 4294967296
    · have e20 : IntKind.u64.wrap ((Q : Int) * (y0 : Int)) = (P : Int) := by
        rw [Wd.mulN, ← HP.out]; exact Wd.wrapN _ (by have := hQb t1; have := HP.out; omega)
      clear hQb
      have d1 : decide (4294967296 ≤ (Q : Int)) = false := decide_eq_false (by omega)
      by_cases t2 : 4294967296 * R + u1 < P
      · have d2 : decide (4294967296 * (R : Int) + (u1 : Int) < (P : Int)) = true := decide_eq_true (by omega)
        have hQ1 : 1 ≤ Q := gs_pos (y0 := y0) (by have := HP.out; omega)
        obtain ⟨Q', hQ'⟩ : ∃ Q', Q = Q' + 1 := ⟨Q - 1, by omega⟩
        have hl := gs_less (hQ' ▸ hg) hYs.out (by omega) u1b (.inr (by have := HP.out; rw [← hQ']; omega))
        have hQQ := Lib.hid hQ'
        clear hQ'
        have e21 : (Q : Int) - 1 = (Q' : Int) := by have := hQQ.out; omega
        by_cases t3 : R + y1 < 4294967296
        · have d3 : decide (4294967296 ≤ (R : Int) + (y1 : Int)) = false := decide_eq_false (by omega)
          go_wp2
          go_roundw
          case rel => exact ⟨Q', R + y1, by go_num, by go_num, ⟨hl.2, hl.1, t3⟩, n, rfl⟩
          case measure => simp [intOf]; omega
        · have d3 : decide (4294967296 ≤ (R : Int) + (y1 : Int)) = true := decide_eq_true (by omega)
          have hq := (gs_over hl.1 hl.2 hYs.out (by omega) hy0l (by have := hQQ.out; omega) (by omega)).trans hq1.out.symm
          subst hq
          go_wp2
          go_loopw [18, 16] (fun a b w' => ∃ Q R : Nat, a = .int .u64 Q ∧ b = .int .u64 R ∧ Gs U2 u0 Y y1 y0 Q R ∧ ∃ n, w' = w.drewN n) (fun _ b _ => 8589934592 - (intOf b).toNat)
          case atStart => exact ⟨Q2, R2, rfl, rfl, g2, n, rfl⟩
          case round =>
            skip
            obtain ⟨Q, R, rfl, rfl, hg, n2, rfl⟩ := hrel
            have hRl := hg.lt
            have hQb : Q < 4294967296 → Q * y0 ≤ 4294967295 * 4294967295 := fun hq => Nat.mul_le_mul (by omega) (by omega)
            have hQl : Q ≤ 8589934592 := gs_small hg (by omega) hy1b
            obtain ⟨P, hP⟩ : ∃ P : Nat, P = Q * y0 := ⟨_, rfl⟩
            have HP := Lib.hid hP
            clear hP
            by_cases t1 : Q < 4294967296
            · have e20 : IntKind.u64.wrap ((Q : Int) * (y0 : Int)) = (P : Int) := by
                rw [Wd.mulN, ← HP.out]; exact Wd.wrapN _ (by have := hQb t1; have := HP.out; omega)
              clear hQb
              have d1 : decide (4294967296 ≤ (Q : Int)) = false := decide_eq_false (by omega)
              by_cases t2 : 4294967296 * R + u0 < P
              · have d2 : decide (4294967296 * (R : Int) + (u0 : Int) < (P : Int)) = true := decide_eq_true (by omega)
                have hQ1 : 1 ≤ Q := gs_pos (y0 := y0) (by have := HP.out; omega)
                obtain ⟨Q', hQ'⟩ : ∃ Q', Q = Q' + 1 := ⟨Q - 1, by omega⟩
                have hl := gs_less (hQ' ▸ hg) hYs.out (by omega) u0b (.inr (by have := HP.out; rw [← hQ']; omega))
                have hQQ := Lib.hid hQ'
                clear hQ'
                have e21 : (Q : Int) - 1 = (Q' : Int) := by have := hQQ.out; omega
                by_cases t3 : R + y1 < 4294967296
                · have d3 : decide (4294967296 ≤ (R : Int) + (y1 : Int)) = false := decide_eq_false (by omega)
                  go_wp2
                  go_roundw
                  case rel => exact ⟨Q', R + y1, by go_num, by go_num, ⟨hl.2, hl.1, t3⟩, n2, rfl⟩
                  case measure => simp [intOf]; omega
                · have d3 : decide (4294967296 ≤ (R : Int) + (y1 : Int)) = true := decide_eq_true (by omega)
                  have hq := (gs_over hl.1 hl.2 hYs.out (by omega) hy0l (by have := hQQ.out; omega) (by omega)).trans hq0.out.symm
                  subst hq
                  go_wp2
                  go_ret2
                  exact ⟨ret_two (by first | rfl | (have := h14.out; omega) | (have := h14.out; rw [IntKind.wrap_u64]; omega)) rfl, _, rfl⟩
              · have d2 : decide (4294967296 * (R : Int) + (u0 : Int) < (P : Int)) = false := decide_eq_false (by omega)
                have hq := (gs_done hg hYs.out (by omega) (by have := HP.out; omega)).trans hq0.out.symm
                subst hq
                go_wp2
                go_ret2
                exact ⟨ret_two (by first | rfl | (have := h14.out; omega) | (have := h14.out; rw [IntKind.wrap_u64]; omega)) rfl, _, rfl⟩
            · clear hQb
              have d1 : decide (4294967296 ≤ (Q : Int)) = true := decide_eq_true (by omega)
              obtain ⟨Q', hQ'⟩ : ∃ Q', Q = Q' + 1 := ⟨Q - 1, by omega⟩
              have hl := gs_less (hQ' ▸ hg) hYs.out (by omega) u0b (.inl (by omega))
              have hQQ := Lib.hid hQ'
              clear hQ'
              have e21 : (Q : Int) - 1 = (Q' : Int) := by have := hQQ.out; omega
              by_cases t3 : R + y1 < 4294967296
              · have d3 : decide (4294967296 ≤ (R : Int) + (y1 : Int)) = false := decide_eq_false (by omega)
                go_wp2
                go_roundw
                case rel => exact ⟨Q', R + y1, by go_num, by go_num, ⟨hl.2, hl.1, t3⟩, n2, rfl⟩
                case measure => simp [intOf]; omega
              · have d3 : decide (4294967296 ≤ (R : Int) + (y1 : Int)) = true := decide_eq_true (by omega)
                have hq := (gs_over hl.1 hl.2 hYs.out (by omega) hy0l (gs_top hl.2 hYs.out (by omega) hy0l (by omega)) (by omega)).trans hq0.out.symm
                subst hq
                go_wp2
                go_ret2
                exact ⟨ret_two (by first | rfl | (have := h14.out; omega) | (have := h14.out; rw [IntKind.wrap_u64]; omega)) rfl, _, rfl⟩
      · have d2 : decide (4294967296 * (R : Int) + (u1 : Int) < (P : Int)) = false := decide_eq_false (by omega)
        have hq := (gs_done hg hYs.out (by omega) (by have := HP.out; omega)).trans hq1.out.symm
        subst hq
        go_wp2
        go_loopw [18, 16] (fun a b w' => ∃ Q R : Nat, a = .int .u64 Q ∧ b = .int .u64 R ∧ Gs U2 u0 Y y1 y0 Q R ∧ ∃ n, w' = w.drewN n) (fun _ b _ => 8589934592 - (intOf b).toNat)
        case atStart => exact ⟨Q2, R2, rfl, rfl, g2, n, rfl⟩
        case round =>
          skip
          obtain ⟨Q, R, rfl, rfl, hg, n2, rfl⟩ := hrel
          have hRl := hg.lt
          have hQb : Q < 4294967296 → Q * y0 ≤ 4294967295 * 4294967295 := fun hq => Nat.mul_le_mul (by omega) (by omega)
          have hQl : Q ≤ 8589934592 := gs_small hg (by omega) hy1b
          obtain ⟨P, hP⟩ : ∃ P : Nat, P = Q * y0 := ⟨_, rfl⟩
          have HP := Lib.hid hP
          clear hP
          by_cases t1 : Q < 4294967296
          · have e20 : IntKind.u64.wrap ((Q : Int) * (y0 : Int)) = (P : Int) := by
              rw [Wd.mulN, ← HP.out]; exact Wd.wrapN _ (by have := hQb t1; have := HP.out; omega)
            clear hQb
            have d1 : decide (4294967296 ≤ (Q : Int)) = false := decide_eq_false (by omega)
            by_cases t2 : 4294967296 * R + u0 < P
            · have d2 : decide (4294967296 * (R : Int) + (u0 : Int) < (P : Int)) = true := decide_eq_true (by omega)
              have hQ1 : 1 ≤ Q := gs_pos (y0 := y0) (by have := HP.out; omega)
              obtain ⟨Q', hQ'⟩ : ∃ Q', Q = Q' + 1 := ⟨Q - 1, by omega⟩
              have hl := gs_less (hQ' ▸ hg) hYs.out (by omega) u0b (.inr (by have := HP.out; rw [← hQ']; omega))
              have hQQ := Lib.hid hQ'
              clear hQ'
              have e21 : (Q : Int) - 1 = (Q' : Int) := by have := hQQ.out; omega
              by_cases t3 : R + y1 < 4294967296
              · have d3 : decide (4294967296 ≤ (R : Int) + (y1 : Int)) = false := decide_eq_false (by omega)
                go_wp2
                go_roundw
                case rel => exact ⟨Q', R + y1, by go_num, by go_num, ⟨hl.2, hl.1, t3⟩, n2, rfl⟩
                case measure => simp [intOf]; omega
              · have d3 : decide (4294967296 ≤ (R : Int) + (y1 : Int)) = true := decide_eq_true (by omega)
                have hq := (gs_over hl.1 hl.2 hYs.out (by omega) hy0l (by have := hQQ.out; omega) (by omega)).trans hq0.out.symm
                subst hq
                go_wp2
                go_ret2
                exact ⟨ret_two (by first | rfl | (have := h14.out; omega) | (have := h14.out; rw [IntKind.wrap_u64]; omega)) rfl, _, rfl⟩
            · have d2 : decide (4294967296 * (R : Int) + (u0 : Int) < (P : Int)) = false := decide_eq_false (by omega)
              have hq := (gs_done hg hYs.out (by omega) (by have := HP.out; omega)).trans hq0.out.symm
              subst hq
              go_wp2
              go_ret2
              exact ⟨ret_two (by first | rfl | (have := h14.out; omega) | (have := h14.out; rw [IntKind.wrap_u64]; omega)) rfl, _, rfl⟩
          · clear hQb
            have d1 : decide (4294967296 ≤ (Q : Int)) = true := decide_eq_true (by omega)
            obtain ⟨Q', hQ'⟩ : ∃ Q', Q = Q' + 1 := ⟨Q - 1, by omega⟩
            have hl := gs_less (hQ' ▸ hg) hYs.out (by omega) u0b (.inl (by omega))
            have hQQ := Lib.hid hQ'
            clear hQ'
            have e21 : (Q : Int) - 1 = (Q' : Int) := by have := hQQ.out; omega
            by_cases t3 : R + y1 < 4294967296
            · have d3 : decide (4294967296 ≤ (R : Int) + (y1 : Int)) = false := decide_eq_false (by omega)
              go_wp2
              go_roundw
              case rel => exact ⟨Q', R + y1, by go_num, by go_num, ⟨hl.2, hl.1, t3⟩, n2, rfl⟩
              case measure => simp [intOf]; omega
            · have d3 : decide (4294967296 ≤ (R : Int) + (y1 : Int)) = true := decide_eq_true (by omega)
              have hq := (gs_over hl.1 hl.2 hYs.out (by omega) hy0l (gs_top hl.2 hYs.out (by omega) hy0l (by omega)) (by omega)).trans hq0.out.symm
              subst hq
              go_wp2
              go_ret2
              exact ⟨ret_two (by first | rfl | (have := h14.out; omega) | (have := h14.out; rw [IntKind.wrap_u64]; omega)) rfl, _, rfl⟩
    · clear hQb
      have d1 : decide (4294967296 ≤ (Q : Int)) = true := decide_eq_true (by omega)
      obtain ⟨Q', hQ'⟩ : ∃ Q', Q = Q' + 1 := ⟨Q - 1, by omega⟩
      have hl := gs_less (hQ' ▸ hg) hYs.out (by omega) u1b (.inl (by omega))
      have hQQ := Lib.hid hQ'
      clear hQ'
      have e21 : (Q : Int) - 1 = (Q' : Int) := by have := hQQ.out; omega
      by_cases t3 : R + y1 < 4294967296
      · have d3 : decide (4294967296 ≤ (R : Int) + (y1 : Int)) = false := decide_eq_false (by omega)
        go_wp2
        go_roundw
        case rel => exact ⟨Q', R + y1, by go_num, by go_num, ⟨hl.2, hl.1, t3⟩, n, rfl⟩
        case measure => simp [intOf]; omega
      · have d3 : decide (4294967296 ≤ (R : Int) + (y1 : Int)) = true := decide_eq_true (by omega)
        have hq := (gs_over hl.1 hl.2 hYs.out (by omega) hy0l (gs_top hl.2 hYs.out (by omega) hy0l (by omega)) (by omega)).trans hq1.out.symm
        subst hq
        go_wp2
        go_loopw [18, 16] (fun a b w' => ∃ Q R : Nat, a = .int .u64 Q ∧ b = .int .u64 R ∧ Gs U2 u0 Y y1 y0 Q R ∧ ∃ n, w' = w.drewN n) (fun _ b _ => 8589934592 - (intOf b).toNat)
        case atStart => exact ⟨Q2, R2, rfl, rfl, g2, n, rfl⟩
        case round =>
          skip
          obtain ⟨Q, R, rfl, rfl, hg, n2, rfl⟩ := hrel
          have hRl := hg.lt
          have hQb : Q < 4294967296 → Q * y0 ≤ 4294967295 * 4294967295 := fun hq => Nat.mul_le_mul (by omega) (by omega)
          have hQl : Q ≤ 8589934592 := gs_small hg (by omega) hy1b
          obtain ⟨P, hP⟩ : ∃ P : Nat, P = Q * y0 := ⟨_, rfl⟩
          have HP := Lib.hid hP
          clear hP
          by_cases t1 : Q < 4294967296
          · have e20 : IntKind.u64.wrap ((Q : Int) * (y0 : Int)) = (P : Int) := by
              rw [Wd.mulN, ← HP.out]; exact Wd.wrapN _ (by have := hQb t1; have := HP.out; omega)
            clear hQb
            have d1 : decide (4294967296 ≤ (Q : Int)) = false := decide_eq_false (by omega)
            by_cases t2 : 4294967296 * R + u0 < P
            · have d2 : decide (4294967296 * (R : Int) + (u0 : Int) < (P : Int)) = true := decide_eq_true (by omega)
              have hQ1 : 1 ≤ Q := gs_pos (y0 := y0) (by have := HP.out; omega)
              obtain ⟨Q', hQ'⟩ : ∃ Q', Q = Q' + 1 := ⟨Q - 1, by omega⟩
              have hl := gs_less (hQ' ▸ hg) hYs.out (by omega) u0b (.inr (by have := HP.out; rw [← hQ']; omega))
              have hQQ := Lib.hid hQ'
              clear hQ'
              have e21 : (Q : Int) - 1 = (Q' : Int) := by have := hQQ.out; omega
              by_cases t3 : R + y1 < 4294967296
              · have d3 : decide (4294967296 ≤ (R : Int) + (y1 : Int)) = false := decide_eq_false (by omega)
                go_wp2
                go_roundw
                case rel => exact ⟨Q', R + y1, by go_num, by go_num, ⟨hl.2, hl.1, t3⟩, n2, rfl⟩
                case measure => simp [intOf]; omega
              · have d3 : decide (4294967296 ≤ (R : Int) + (y1 : Int)) = true := decide_eq_true (by omega)
                have hq := (gs_over hl.1 hl.2 hYs.out (by omega) hy0l (by have := hQQ.out; omega) (by omega)).trans hq0.out.symm
                subst hq
                go_wp2
                go_ret2
                exact ⟨ret_two (by first | rfl | (have := h14.out; omega) | (have := h14.out; rw [IntKind.wrap_u64]; omega)) rfl, _, rfl⟩
            · have d2 : decide (4294967296 * (R : Int) + (u0 : Int) < (P : Int)) = false := decide_eq_false (by omega)
              have hq := (gs_done hg hYs.out (by omega) (by have := HP.out; omega)).trans hq0.out.symm
              subst hq
              go_wp2
              go_ret2
              exact ⟨ret_two (by first | rfl | (have := h14.out; omega) | (have := h14.out; rw [IntKind.wrap_u64]; omega)) rfl, _, rfl⟩
          · clear hQb
            have d1 : decide (4294967296 ≤ (Q : Int)) = true := decide_eq_true (by omega)
            obtain ⟨Q', hQ'⟩ : ∃ Q', Q = Q' + 1 := ⟨Q - 1, by omega⟩
            have hl := gs_less (hQ' ▸ hg) hYs.out (by omega) u0b (.inl (by omega))
            have hQQ := Lib.hid hQ'
            clear hQ'
            have e21 : (Q : Int) - 1 = (Q' : Int) := by have := hQQ.out; omega
            by_cases t3 : R + y1 < 4294967296
            · have d3 : decide (4294967296 ≤ (R : Int) + (y1 : Int)) = false := decide_eq_false (by omega)
              go_wp2
              go_roundw
              case rel => exact ⟨Q', R + y1, by go_num, by go_num, ⟨hl.2, hl.1, t3⟩, n2, rfl⟩
              case measure => simp [intOf]; omega
            · have d3 : decide (4294967296 ≤ (R : Int) + (y1 : Int)) = true := decide_eq_true (by omega)
              have hq := (gs_over hl.1 hl.2 hYs.out (by omega) hy0l (gs_top hl.2 hYs.out (by omega) hy0l (by omega)) (by omega)).trans hq0.out.symm
              subst hq
              go_wp2
              go_ret2
              exact ⟨ret_two (by first | rfl | (have := h14.out; omega) | (have := h14.out; rw [IntKind.wrap_u64]; omega)) rfl, _, rfl⟩

theorem mod_sub {a t u v : Nat} (h : a * 4294967296 + u = t + v) (hv : v < 18446744073709551616) :
    IntKind.u64.wrap (IntKind.u64.wrap (IntKind.u64.wrap ((a : Int) * 4294967296) + (u : Int)) - IntKind.u64.wrap (t : Int)) = (v : Int) := by
  rw [IntKind.wrap_u64, IntKind.wrap_u64, IntKind.wrap_u64, IntKind.wrap_u64]
  omega

theorem quo_wrap {a b : Nat} (h : a < 18446744073709551616) : IntKind.u64.wrap ((a : Int) / (b : Int)) = ((a / b : Nat) : Int) := by
  have hl := Nat.div_le_self a b
  rw [← Int.natCast_ediv]
  exact Wd.wrapN _ (by omega)

theorem left_wrap {a b : Nat} (h : a < 18446744073709551616) : IntKind.u64.wrap ((a : Int) - IntKind.u64.wrap (((a / b : Nat) : Int) * (b : Int))) = ((a - a / b * b : Nat) : Int) := by
  have hl := Nat.div_mul_le_self a b
  rw [Wd.mulN, Wd.wrapN _ (by omega), IntKind.wrap_u64]
  omega

theorem div64_calls (hi lo y : Nat) (h : hi < y) (h1 : y < 18446744073709551616) (h2 : lo < 18446744073709551616) (w : World) :
    Calls Tryd.prog 40 #[.int .u64 hi, .int .u64 lo, .int .u64 y] w fun e w' => e = .returned (.tuple #[.int .u64 (((hi * 18446744073709551616 + lo) / y : Nat) : Int), .int .u64 (((hi * 18446744073709551616 + lo) % y : Nat) : Int)]) ∧ ∃ n, w' = w.drewN n := by
  rcases Nat.eq_zero_or_pos hi with h0 | h0
  · subst h0
    simpa using div64_zero lo y (by omega) h1 h2 w
  · obtain ⟨b1, b2, b3, b4⟩ := bitLen_lo y (by omega) h1
    obtain ⟨k, hk⟩ : ∃ k, k = Lib.bitLen y := ⟨_, rfl⟩
    obtain ⟨s, hs⟩ : ∃ s, s = 64 - Lib.bitLen y := ⟨_, rfl⟩
    obtain ⟨p, hp⟩ : ∃ p, p = 2 ^ s := ⟨_, rfl⟩
    have hp0 : 0 < p := by rw [hp]; exact Nat.two_pow_pos s
    have hpk : 2 ^ (64 - s) * p = 18446744073709551616 := by
      rw [hp, ← Nat.pow_add, Nat.sub_add_cancel (by omega)]
    have hks : 64 - s = k := by omega
    have hYl : y * p < 18446744073709551616 := by
      rw [← hpk, hks, hk]; exact Nat.mul_lt_mul_of_pos_right b2 hp0
    have hYg : 9223372036854775808 ≤ y * p := by
      have e2 : 2 ^ (k - 1) * p = 9223372036854775808 := by
        rw [hp, ← Nat.pow_add, show k - 1 + s = 63 by omega]
      rw [← e2, hk]; exact Nat.mul_le_mul_right _ b1
    obtain ⟨Y, hY⟩ : ∃ Y, Y = y * p := ⟨_, rfl⟩
    obtain ⟨t, ht⟩ : ∃ t, t = lo / 2 ^ (64 - s) := ⟨_, rfl⟩
    have htp : t < p := by
      rw [ht]; exact Nat.div_lt_of_lt_mul (by rw [hpk]; exact h2)
    have hhp : hi * p + p ≤ y * p := by
      have : (hi + 1) * p ≤ y * p := Nat.mul_le_mul_right _ h
      rw [Nat.succ_mul] at this; exact this
    obtain ⟨H, hH⟩ : ∃ H, H = hi * p + t := ⟨_, rfl⟩
    have hHY : H < Y := by omega
    obtain ⟨L, hL⟩ : ∃ L, L = lo * p % 18446744073709551616 := ⟨_, rfl⟩
    have hLl : L < 18446744073709551616 := by rw [hL]; exact Nat.mod_lt _ (by omega)
    have htL : lo * p = t * 18446744073709551616 + L := by
      have e1 : lo * p / 18446744073709551616 = t := by
        rw [← hpk, ht]; exact Nat.mul_div_mul_right _ _ hp0
      have := Nat.div_add_mod (lo * p) 18446744073709551616
      omega
    have hyy := Nat.div_add_mod Y 4294967296
    have q1lt : (H * 4294967296 + L / 4294967296) / Y < 4294967296 := Nat.div_lt_of_lt_mul (by
      have : (H + 1) * 4294967296 ≤ Y * 4294967296 := Nat.mul_le_mul_right _ hHY
      omega)
    have dm1 := Nat.div_add_mod (H * 4294967296 + L / 4294967296) Y
    have ml1 := Nat.mod_lt (H * 4294967296 + L / 4294967296) (show 0 < Y by omega)
    obtain ⟨q1, hq1⟩ : ∃ q1, q1 = (H * 4294967296 + L / 4294967296) / Y := ⟨_, rfl⟩
    obtain ⟨U2, hU2⟩ : ∃ U2, U2 = (H * 4294967296 + L / 4294967296) % Y := ⟨_, rfl⟩
    rw [← hq1, ← hU2, Nat.mul_comm] at dm1
    rw [← hU2] at ml1
    rw [← hq1] at q1lt
    have q0lt : (U2 * 4294967296 + L % 4294967296) / Y < 4294967296 := Nat.div_lt_of_lt_mul (by
      have : (U2 + 1) * 4294967296 ≤ Y * 4294967296 := Nat.mul_le_mul_right _ ml1
      omega)
    have dm0 := Nat.div_add_mod (U2 * 4294967296 + L % 4294967296) Y
    have ml0 := Nat.mod_lt (U2 * 4294967296 + L % 4294967296) (show 0 < Y by omega)
    obtain ⟨q0, hq0⟩ : ∃ q0, q0 = (U2 * 4294967296 + L % 4294967296) / Y := ⟨_, rfl⟩
    obtain ⟨R, hR⟩ : ∃ R, R = (U2 * 4294967296 + L % 4294967296) % Y := ⟨_, rfl⟩
    rw [← hq0, ← hR, Nat.mul_comm] at dm0
    rw [← hR] at ml0
    rw [← hq0] at q0lt
    -- the whole
    have htot : (hi * 18446744073709551616 + lo) * p = ((q1 * 4294967296 + q0) * y) * p + R := by
      have e1 : (hi * 18446744073709551616 + lo) * p = H * 18446744073709551616 + L := by
        rw [Nat.add_mul, htL, hH]; grind
      have e2 : (q1 * 4294967296 + q0) * y * p = q1 * Y * 4294967296 + q0 * Y := by rw [hY]; grind
      rw [e1, e2]
      omega
    have hRd : R / p * p = R := by
      have : p ∣ R := (Nat.dvd_add_right (Nat.dvd_mul_left p _)).1 (htot ▸ Nat.dvd_mul_left p _)
      exact Nat.div_mul_cancel this
    have hdr : hi * 18446744073709551616 + lo = (q1 * 4294967296 + q0) * y + R / p := by
      refine Nat.eq_of_mul_eq_mul_right hp0 ?_
      have e3 := Nat.add_mul ((q1 * 4294967296 + q0) * y) (R / p) p
      rw [e3, hRd, htot]
    have hrl : R / p < y := Nat.div_lt_of_lt_mul (by rw [Nat.mul_comm, ← hY]; exact ml0)
    have hquo : (hi * 18446744073709551616 + lo) / y = q1 * 4294967296 + q0 := by
      rw [hdr, Nat.mul_comm, Nat.mul_add_div (by omega), Nat.div_eq_of_lt hrl, Nat.add_zero]
    have hrem : (hi * 18446744073709551616 + lo) % y = R / p := by
      rw [hdr, Nat.mul_comm, Nat.mul_add_mod, Nat.mod_eq_of_lt hrl]
    rw [hquo, hrem]
    have pI : ((2 : Int) ^ s) = (p : Int) := by rw [hp]; simp
    have oI : bits .or .u64 ((hi * p : Nat) : Int) ((lo : Int) / 2 ^ (64 - s)) = (H : Int) := by
      have e1 : (lo : Int) / 2 ^ (64 - s) = (t : Int) := by
        rw [ht]; simp
      have e3 := Nat.two_pow_add_eq_or_of_lt (b := t) (i := s) (by rw [← hp]; exact htp) hi
      rw [e1, u64_or_nat _ _ (by omega) (by omega), hH]
      rw [← hp, Nat.mul_comm] at e3
      rw [← e3]
    obtain ⟨y1, hy1⟩ : ∃ y1, y1 = Y / 4294967296 := ⟨_, rfl⟩
    obtain ⟨y0, hy0⟩ : ∃ y0, y0 = Y % 4294967296 := ⟨_, rfl⟩
    obtain ⟨u1, hu1⟩ : ∃ u1, u1 = L / 4294967296 := ⟨_, rfl⟩
    obtain ⟨u0, hu0⟩ : ∃ u0, u0 = L % 4294967296 := ⟨_, rfl⟩
    rw [← hu1] at dm1 hq1
    rw [← hu0] at dm0 hq0
    have hYs : Y = y1 * 4294967296 + y0 := by omega
    have f1 : IntKind.u64.wrap ((y : Int) * 2 ^ s) = (Y : Int) := by rw [pI, Wd.mulN, hY]; exact Wd.wrapN _ hYl
    have hhl : hi * p < 18446744073709551616 := by omega
    have f4 : IntKind.u64.wrap ((hi : Int) * 2 ^ s) = ((hi * p : Nat) : Int) := by rw [pI, Wd.mulN]; exact Wd.wrapN _ hhl
    have f6 : IntKind.u64.wrap ((lo : Int) * 2 ^ s) = (L : Int) := by rw [pI, Wd.mulN, hL]; exact Wd.wrapM _
    have hHl : H < 18446744073709551616 := by omega
    have hUl : U2 < 18446744073709551616 := by omega
    have hRl : R < 18446744073709551616 := by omega
    have f9 := quo_wrap (a := H) (b := y1) hHl
    have f10 := left_wrap (a := H) (b := y1) hHl
    have f12 := quo_wrap (a := U2) (b := y1) hUl
    have f13 := left_wrap (a := U2) (b := y1) hUl
    have g1 := gs_start (H := H) (u := u1) (Y := Y) (y1 := y1) (y0 := y0) hYs (by omega) (by omega) (by omega)
    have g2 := gs_start (H := U2) (u := u0) (Y := Y) (y1 := y1) (y0 := y0) hYs (by omega) (by omega) (by omega)
    have f11 : IntKind.u64.wrap (IntKind.u64.wrap (IntKind.u64.wrap ((H : Int) * 4294967296) + (u1 : Int)) - IntKind.u64.wrap ((q1 : Int) * (Y : Int))) = (U2 : Int) := by
      rw [Wd.mulN q1 Y]; exact mod_sub (a := H) (t := q1 * Y) (u := u1) (v := U2) dm1.symm hUl
    have f15 : IntKind.u64.wrap (IntKind.u64.wrap (IntKind.u64.wrap ((U2 : Int) * 4294967296) + (u0 : Int)) - IntKind.u64.wrap ((q0 : Int) * (Y : Int))) / 2 ^ s = ((R / p : Nat) : Int) := by
      rw [Wd.mulN q0 Y, mod_sub (a := U2) (t := q0 * Y) (u := u0) (v := R) dm0.symm hRl, pI, Int.natCast_ediv]
    have f14 : IntKind.u64.wrap (IntKind.u64.wrap ((q1 : Int) * 4294967296) + (q0 : Int)) = ((q1 * 4294967296 + q0 : Nat) : Int) := by
      rw [IntKind.wrap_u64, IntKind.wrap_u64]; omega
    have f2 : (Y : Int) / 4294967296 = (y1 : Int) := by rw [hy1]; exact Wd.divN _
    have f3 : bits .and .u64 (Y : Int) 4294967295 = (y0 : Int) := by rw [hy0]; exact Wd.maskN _ (by omega)
    have f7 : (L : Int) / 4294967296 = (u1 : Int) := by rw [hu1]; exact Wd.divN _
    have f8 : bits .and .u64 (L : Int) 4294967295 = (u0 : Int) := by rw [hu0]; exact Wd.maskN _ hLl
    have hq : q1 * 4294967296 + q0 < 18446744073709551616 := by omega
    exact div64_core hi lo y s Y y1 y0 (hi * p) H L u1 u0 _ _ q1 U2 _ _ q0 (q1 * 4294967296 + q0) (R / p) h0 h h1 hs (by omega) (by omega) (by omega) (by omega) (by omega) (by omega) hYs hHY ml1
      f1 f2 f3 f4 oI f6 f7 f8 f9 f10 g1 hq1 f11 f12 f13 g2 hq0 hq rfl f14 f15 w
end Go.Proofs.YtmbbjoadnapcgaaDoor
