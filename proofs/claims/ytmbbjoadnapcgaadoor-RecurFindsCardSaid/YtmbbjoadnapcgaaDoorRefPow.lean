/- The reference's powers and inverses modulo m: by their contracts. -/
import Derived.Test.YtmbbjoadnapcgaaDoorRef03
namespace Go.Proofs.YtmbbjoadnapcgaaDoor
open Go.RowKit Go.Proofs.YtmbbjoadnapcgaaDoorW.PrintWords VNum

theorem pow_mod (a m : Int) : ∀ k : Nat, (a % m) ^ k % m = a ^ k % m
  | 0 => by rw [Int.pow_zero, Int.pow_zero]
  | k + 1 => by rw [Int.pow_succ, Int.pow_succ, Int.mul_emod, pow_mod a m k, Int.emod_emod_of_dvd _ (Int.dvd_refl m), ← Int.mul_emod]
theorem mul_pow_mod (O a m : Int) (k : Nat) : O * (a % m) ^ k % m = O * a ^ k % m := by rw [Int.mul_emod, pow_mod, ← Int.mul_emod]
theorem mod_mul_mod (O a m : Int) : (O % m) * a % m = O * a % m := by rw [Int.mul_emod, Int.emod_emod_of_dvd _ (Int.dvd_refl m), ← Int.mul_emod]
theorem sq_pow (X : Int) (k : Nat) : (X * X) ^ k = X ^ (2 * k) := by
  rw [Int.pow_mul]
  congr 1
  rw [Int.pow_succ, Int.pow_succ, Int.pow_zero, Int.one_mul]
theorem rpow_even {m O X z : Int} {n : Nat} (h : n % 2 = 0) (hz : O * X ^ n % m = z) : O * (X * X % m) ^ (n / 2) % m = z := by
  have e : 2 * (n / 2) = n := by omega
  rw [mul_pow_mod, sq_pow, e, hz]
theorem rpow_odd {m O X z : Int} {n : Nat} (h : n % 2 = 1) (hz : O * X ^ n % m = z) : (O * X % m) * (X * X % m) ^ (n / 2) % m = z := by
  have e : n = 2 * (n / 2) + 1 := by omega
  rw [mod_mul_mod, mul_pow_mod, sq_pow, ← hz]
  conv => rhs; rw [e]
  rw [Int.pow_succ, Int.mul_assoc, Int.mul_comm X]

set_option maxHeartbeats 2000000 in
theorem rpow_calls (m x : Int) (y : Nat) (w : World) (h1 : 1 ≤ m) (h2 : m < 9223372036854775808) (hx : 0 ≤ x) (hy : (y : Int) < 18446744073709551616) :
    Calls Tryd.prog 34 #[.int .u64 x, .int .u64 y, .int .u64 m] w fun e w' => e = .returned (.int .u64 (x ^ y % m)) ∧ ∃ n, w' = w.drewN n := by
  have hm0 : (m == 0) = false := beq_eq_false_iff_ne.mpr (by omega)
  have HST : Hid ((1 % m) * x ^ y % m = x ^ y % m) := Lib.hid (by rw [mod_mul_mod, Int.one_mul])
  have a0 := Int.emod_nonneg 1 (show m ≠ 0 by omega)
  have a1 := Int.emod_lt_of_pos 1 (show 0 < m by omega)
  go_enter Tryd.func34, Tryd.ntmps34
  go_wp2
  go_loopw [0, 1, 7] (fun v0 v1 v7 W => ∃ (O X : Int) (Y : Nat), v0 = .int .u64 X ∧ v1 = .int .u64 Y ∧ v7 = .int .u64 O ∧ (Y : Int) < 18446744073709551616 ∧ 0 ≤ O ∧ O < m ∧ 0 ≤ X ∧ Hid (O * X ^ Y % m = x ^ y % m) ∧ ∃ n, W = w.drewN n) (fun _ v1 _ _ => (intOf v1).toNat)
  case atStart => exact ⟨1 % m, x, y, rfl, rfl, rfl, hy, a0, a1, hx, HST, 0, rfl⟩
  case round =>
    clear HST a0 a1 hy
    obtain ⟨O, X, Y, rfl, rfl, rfl, hYb, hO, hO1, hX, hz, n, rfl⟩ := hrel
    rcases Nat.eq_zero_or_pos Y with h0 | h0
    · subst h0
      have hf : O = x ^ y % m := by
        have := hz.out
        rw [Int.pow_zero, Int.mul_one, Int.emod_eq_of_lt hO hO1] at this
        exact this
      have HF := Lib.hid hf
      clear hf
      go_wp2
      go_ret
      rw [← HF.out]
      exact ⟨rfl, _, rfl⟩
    · have g2 := rpos_dec h0
      have HDN := Lib.hid (rhalf_cast Y)
      have HMS := Lib.hid (rhalf_ms h0)
      have s0 : 0 ≤ X * X % m := Int.emod_nonneg _ (by omega)
      rcases Nat.mod_two_eq_zero_or_one Y with hp | hp
      · have ho := reven hp
        have HZ := Lib.hid (rpow_even hp hz.out)
        clear hp
        go_wp2_with (go_at_call 23; refine (rmul_calls m X X _ h1 h2 hX hX).mono ?_; rintro e w' ⟨rfl, n2, rfl⟩)
        go_roundw
        case rel => exact ⟨O, X * X % m, Y / 2, rfl, by rw [HDN.out], rfl, rhalf_b hYb, hO, hO1, s0, HZ, _, rfl⟩
        case measure =>
          simp only [intOf]
          exact HMS.out
      · have ho := rodd hp
        have HZ := Lib.hid (rpow_odd hp hz.out)
        have t0 : 0 ≤ O * X % m := Int.emod_nonneg _ (by omega)
        have t1 : O * X % m < m := Int.emod_lt_of_pos _ (by omega)
        clear hp
        go_wp2_with (first
          | (go_at_call 23; with_reducible refine (rmul_calls m O X _ h1 h2 hO hX).mono ?_; rintro e w' ⟨rfl, n2, rfl⟩)
          | (go_at_call 23; with_reducible refine (rmul_calls m X X _ h1 h2 hX hX).mono ?_; rintro e w' ⟨rfl, n3, rfl⟩))
        go_roundw
        case rel => exact ⟨O * X % m, X * X % m, Y / 2, rfl, by rw [HDN.out], rfl, rhalf_b hYb, t0, t1, s0, HZ, _, rfl⟩
        case measure =>
          simp only [intOf]
          exact HMS.out

theorem rinv_calls (p x : Int) (k : Nat) (w : World) (hk : p = (k : Int) + 2) (h2 : p < 9223372036854775808) (hx : 0 ≤ x) :
    Calls Tryd.prog 22 #[.int .u64 x, .int .u64 p] w fun e w' => e = .returned (.int .u64 (x ^ k % p)) ∧ ∃ n, w' = w.drewN n := by
  have e1 : p - 2 = (k : Int) := by omega
  have h1 : 2 ≤ p := by omega
  have C := Lib.hid (rpow_calls p x k w (by omega) h2 hx (by omega))
  clear hk
  go_enter Tryd.func22, Tryd.ntmps22
  go_wp2_with (go_at_call 34; with_reducible refine C.out.mono ?_; rintro e w' ⟨rfl, n2, rfl⟩)
  go_ret
  exact ⟨rfl, _, rfl⟩
end Go.Proofs.YtmbbjoadnapcgaaDoor
