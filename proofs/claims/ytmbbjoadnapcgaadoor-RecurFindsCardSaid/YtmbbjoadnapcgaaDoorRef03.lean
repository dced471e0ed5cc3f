/- The reference's sums, differences, products modulo m: by their contracts. -/
import Derived.Test.YtmbbjoadnapcgaaDoorList
namespace Go.Proofs.YtmbbjoadnapcgaaDoor
open Go.RowKit Go.Proofs.YtmbbjoadnapcgaaDoorW.PrintWords VNum

set_option maxHeartbeats 1000000 in
theorem radd_calls (m x y : Int) (w : World) (h1 : 1 ≤ m) (h2 : m < 9223372036854775808) (hx : 0 ≤ x) (hy : 0 ≤ y) :
    Calls Tryd.prog 33 #[.int .u64 x, .int .u64 y, .int .u64 m] w fun e w' => e = .returned (.int .u64 ((x + y) % m)) ∧ ∃ n, w' = w.drewN n := by
  have hm0 : (m == 0) = false := beq_eq_false_iff_ne.mpr (by omega)
  have a0 := Int.emod_nonneg x (show m ≠ 0 by omega)
  have a1 := Int.emod_lt_of_pos x (show 0 < m by omega)
  have b0 := Int.emod_nonneg y (show m ≠ 0 by omega)
  have b1 := Int.emod_lt_of_pos y (show 0 < m by omega)
  have HE := Lib.hid (Int.add_emod x y m)
  go_enter Tryd.func33, Tryd.ntmps33
  go_wp2
  go_quiet ((first | skip))
  go_wp2
  go_ret
  rw [HE.out]
  exact ⟨rfl, _, rfl⟩

theorem rsub_law {m : Int} (x y : Int) : (x % m + m - y % m) % m = (x - y) % m := by
  have e : x % m + m - y % m = x % m - y % m + m := by omega
  rw [e, Int.add_emod_right, ← Int.sub_emod]

set_option maxHeartbeats 1000000 in
theorem rsub_calls (m x y : Int) (w : World) (h1 : 1 ≤ m) (h2 : m < 9223372036854775808) (hx : 0 ≤ x) (hy : 0 ≤ y) :
    Calls Tryd.prog 21 #[.int .u64 x, .int .u64 y, .int .u64 m] w fun e w' => e = .returned (.int .u64 ((x - y) % m)) ∧ ∃ n, w' = w.drewN n := by
  have hm0 : (m == 0) = false := beq_eq_false_iff_ne.mpr (by omega)
  have a0 := Int.emod_nonneg x (show m ≠ 0 by omega)
  have a1 := Int.emod_lt_of_pos x (show 0 < m by omega)
  have b0 := Int.emod_nonneg y (show m ≠ 0 by omega)
  have b1 := Int.emod_lt_of_pos y (show 0 < m by omega)
  have HE := Lib.hid (rsub_law (m := m) x y)
  go_enter Tryd.func21, Tryd.ntmps21
  go_wp2
  go_quiet ((first | skip))
  go_wp2
  go_ret
  rw [← HE.out]
  exact ⟨rfl, _, rfl⟩

theorem rhalf_cast (n : Nat) : ((n / 2 : Nat) : Int) = (n : Int) / 2 := by omega
theorem rhalf_ms {n : Nat} (h : 0 < n) : ((n : Int) / 2).toNat < (n : Int).toNat := by omega
theorem rhalf_b {n : Nat} (h : (n : Int) < 18446744073709551616) : ((n / 2 : Nat) : Int) < 18446744073709551616 := by omega
theorem rpos_dec {n : Nat} (h : 0 < n) : decide ((0 : Int) < (n : Int)) = true := decide_eq_true (by omega)
theorem rodd {n : Nat} (h : n % 2 = 1) : ((n : Int) % 2 == 1) = true := by
  have : (n : Int) % 2 = 1 := by omega
  rw [this]; rfl
theorem reven {n : Nat} (h : n % 2 = 0) : ((n : Int) % 2 == 1) = false := by
  have : (n : Int) % 2 = 0 := by omega
  rw [this]; rfl
theorem rmul_even {m O X z : Int} {n : Nat} (h : n % 2 = 0) (hz : (O + X * (n : Int)) % m = z) : (O + (X + X) % m * ((n / 2 : Nat) : Int)) % m = z := by
  have e : (n : Int) = 2 * ((n / 2 : Nat) : Int) := by omega
  rw [← hz, Int.add_emod, Int.mul_emod ((X + X) % m), Int.emod_emod_of_dvd _ (Int.dvd_refl m), ← Int.mul_emod, ← Int.add_emod]
  congr 2
  rw [e]
  generalize ((n / 2 : Nat) : Int) = k
  rw [Int.add_mul, ← Int.mul_assoc, Int.mul_comm X 2, Int.mul_assoc, Int.two_mul]
theorem rmul_odd {m O X z : Int} {n : Nat} (h : n % 2 = 1) (hz : (O + X * (n : Int)) % m = z) : ((O + X) % m + (X + X) % m * ((n / 2 : Nat) : Int)) % m = z := by
  have e : (n : Int) = 2 * ((n / 2 : Nat) : Int) + 1 := by omega
  rw [← hz, Int.add_emod, Int.mul_emod ((X + X) % m), Int.emod_emod_of_dvd _ (Int.dvd_refl m), Int.emod_emod_of_dvd _ (Int.dvd_refl m), ← Int.mul_emod, ← Int.add_emod]
  congr 1
  rw [e]
  generalize ((n / 2 : Nat) : Int) = k
  rw [Int.mul_add, Int.mul_one, Int.add_mul, ← Int.mul_assoc, Int.mul_comm X 2, Int.mul_assoc, Int.two_mul]
  omega

set_option maxHeartbeats 2000000 in
theorem rmul_calls (m x y : Int) (w : World) (h1 : 1 ≤ m) (h2 : m < 9223372036854775808) (hx : 0 ≤ x) (hy : 0 ≤ y) :
    Calls Tryd.prog 23 #[.int .u64 x, .int .u64 y, .int .u64 m] w fun e w' => e = .returned (.int .u64 (x * y % m)) ∧ ∃ n, w' = w.drewN n := by
  have hm0 : (m == 0) = false := beq_eq_false_iff_ne.mpr (by omega)
  have a0 := Int.emod_nonneg x (show m ≠ 0 by omega)
  have b0 := Int.emod_nonneg y (show m ≠ 0 by omega)
  have b1 := Int.emod_lt_of_pos y (show 0 < m by omega)
  obtain ⟨Y0, hY⟩ : ∃ Y0 : Nat, y % m = (Y0 : Int) := ⟨(y % m).toNat, by omega⟩
  have HST : Hid ((0 + x % m * (Y0 : Int)) % m = x * y % m) := Lib.hid (by rw [← hY, Int.zero_add, ← Int.mul_emod])
  have hYb : (Y0 : Int) < 18446744073709551616 := by omega
  clear b0 b1
  go_enter Tryd.func23, Tryd.ntmps23
  go_wp2
  go_loopw [0, 1, 7] (fun v0 v1 v7 W => ∃ (O X : Int) (Y : Nat), v0 = .int .u64 X ∧ v1 = .int .u64 Y ∧ v7 = .int .u64 O ∧ (Y : Int) < 18446744073709551616 ∧ 0 ≤ O ∧ O < m ∧ 0 ≤ X ∧ Hid ((O + X * (Y : Int)) % m = x * y % m) ∧ ∃ n, W = w.drewN n) (fun _ v1 _ _ => (intOf v1).toNat)
  case atStart => exact ⟨0, x % m, Y0, rfl, by rw [← hY], rfl, hYb, by omega, by omega, a0, HST, 0, rfl⟩
  case round =>
    clear HST a0 hY hYb
    obtain ⟨O, X, Y, rfl, rfl, rfl, hYb, hO, hO1, hX, hz, n, rfl⟩ := hrel
    rcases Nat.eq_zero_or_pos Y with h0 | h0
    · subst h0
      have hf : O = x * y % m := by
        have := hz.out
        simp only [Int.natCast_zero, Int.mul_zero, Int.add_zero] at this
        rw [Int.emod_eq_of_lt hO hO1] at this
        exact this
      have HF := Lib.hid hf
      clear hf
      go_wp2
      go_ret
      rw [← HF.out]
      exact ⟨rfl, _, rfl⟩
    · have g2 := rpos_dec h0
      have HDN := Lib.hid (rhalf_cast Y)
      have HMS := Lib.hid (rhalf_ms h0)
      have s0 : 0 ≤ (X + X) % m := Int.emod_nonneg _ (by omega)
      rcases Nat.mod_two_eq_zero_or_one Y with hp | hp
      · have ho := reven hp
        have HZ := Lib.hid (rmul_even hp hz.out)
        clear hp
        go_wp2_with (go_at_call 33; refine (radd_calls m X X _ h1 h2 hX hX).mono ?_; rintro e w' ⟨rfl, n2, rfl⟩)
        go_roundw
        case rel => exact ⟨O, (X + X) % m, Y / 2, rfl, by rw [HDN.out], rfl, rhalf_b hYb, hO, hO1, s0, HZ, _, rfl⟩
        case measure =>
          simp only [intOf]
          exact HMS.out
      · have ho := rodd hp
        have HZ := Lib.hid (rmul_odd hp hz.out)
        have t0 : 0 ≤ (O + X) % m := Int.emod_nonneg _ (by omega)
        have t1 : (O + X) % m < m := Int.emod_lt_of_pos _ (by omega)
        clear hp
        go_wp2_with (first
          | (go_at_call 33; with_reducible refine (radd_calls m O X _ h1 h2 hO hX).mono ?_; rintro e w' ⟨rfl, n2, rfl⟩)
          | (go_at_call 33; with_reducible refine (radd_calls m X X _ h1 h2 hX hX).mono ?_; rintro e w' ⟨rfl, n3, rfl⟩))
        go_roundw
        case rel => exact ⟨(O + X) % m, (X + X) % m, Y / 2, rfl, by rw [HDN.out], rfl, rhalf_b hYb, t0, t1, s0, HZ, _, rfl⟩
        case measure =>
          simp only [intOf]
          exact HMS.out
end Go.Proofs.YtmbbjoadnapcgaaDoor
