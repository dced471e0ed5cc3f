/- The words of a field: sum, difference, product, what is left, the inverse; each by its contract. -/
import Derived.Test.YtmbbjoadnapcgaaDoorDiv
import Derived.Below
namespace Go.Proofs.YtmbbjoadnapcgaaDoor
open Go.RowKit

theorem mul64_q (x y : Int) (hx0 : 0 ≤ x) (hy0 : 0 ≤ y) (hx : x < 18446744073709551616) (hy : y < 18446744073709551616) (w : World) :
    Calls Tryd.prog 31 #[.int .u64 x, .int .u64 y] w fun e w' => e = .returned (.tuple #[.int .u64 (x * y / 18446744073709551616), .int .u64 (x * y % 18446744073709551616)]) ∧ ∃ n, w' = w.drewN n := by
  obtain ⟨a, rfl⟩ := Int.eq_ofNat_of_zero_le hx0
  obtain ⟨b, rfl⟩ := Int.eq_ofNat_of_zero_le hy0
  refine (mul64_calls a b (by omega) (by omega) w).mono fun _ _ ⟨he, hw⟩ => ⟨he.trans (ret_two ?_ ?_), 0, hw.symm⟩ <;> simp

theorem rem64_calls (hi lo y : Nat) (h0 : 0 < y) (h1 : y < 18446744073709551616) (h2 : lo < 18446744073709551616) (w : World) :
    Calls Tryd.prog 32 #[.int .u64 hi, .int .u64 lo, .int .u64 y] w fun e w' => e = .returned (.int .u64 (((hi * 18446744073709551616 + lo) % y : Nat) : Int)) ∧ ∃ n, w' = w.drewN n := by
  have hy0 : ((y : Int) == 0) = false := beq_eq_false_iff_ne.mpr (by omega)
  have hml := Nat.mod_lt hi h0
  have hr : Hid ((hi * 18446744073709551616 + lo) % y = (hi % y * 18446744073709551616 + lo) % y) := by
    show _ = _
    rw [Nat.add_mod, Nat.mul_mod, Nat.add_mod (hi % y * _), Nat.mul_mod (hi % y), Nat.mod_mod]
    simp
  obtain ⟨r, hrr⟩ : ∃ r : Nat, hi % y = r := ⟨_, rfl⟩
  have e1 : (hi : Int) % (y : Int) = (r : Int) := by rw [← hrr]; rfl
  rw [hrr] at hml hr
  clear hrr
  go_enter Tryd.func32, Tryd.ntmps32
  go_wp2_with (go_at_call 40; refine (div64_calls _ _ _ hml h1 h2 _).mono ?_; rintro e w' ⟨rfl, n, rfl⟩)
  go_ret
  exact ⟨ret_int (by rw [hr.out]; simp), _, rfl⟩

theorem rem64_q (hi lo y : Int) (h0 : 0 < y) (h1 : y < 18446744073709551616) (hh0 : 0 ≤ hi) (hl0 : 0 ≤ lo) (h2 : lo < 18446744073709551616) (w : World) :
    Calls Tryd.prog 32 #[.int .u64 hi, .int .u64 lo, .int .u64 y] w fun e w' => e = .returned (.int .u64 ((hi * 18446744073709551616 + lo) % y)) ∧ ∃ n, w' = w.drewN n := by
  obtain ⟨a, rfl⟩ := Int.eq_ofNat_of_zero_le hh0
  obtain ⟨b, rfl⟩ := Int.eq_ofNat_of_zero_le hl0
  obtain ⟨c, rfl⟩ := Int.eq_ofNat_of_zero_le (Int.le_of_lt h0)
  refine (rem64_calls a b c (by omega) (by omega) (by omega) w).mono fun _ _ ⟨he, hw⟩ => ⟨he.trans (ret_int ?_), hw⟩
  simp

theorem rem_whole (z y : Int) : (z / 18446744073709551616 * 18446744073709551616 + z % 18446744073709551616) % y = z % y := by
  have := Int.mul_ediv_add_emod z 18446744073709551616
  rw [Int.mul_comm, this]

/-- The product of two words modulo a third. -/
theorem pmul_calls (x y n : Int) (h0 : 0 < n) (h1 : n < 18446744073709551616) (hx0 : 0 ≤ x) (hy0 : 0 ≤ y) (hx : x < 18446744073709551616) (hy : y < 18446744073709551616) (w : World) :
    Calls Tryd.prog 44 #[.int .u64 x, .int .u64 y, .int .u64 n] w fun e w' => e = .returned (.int .u64 (x * y % n)) ∧ ∃ k, w' = w.drewN k := by
  have hz := Int.mul_nonneg hx0 hy0
  have hz1 : 0 ≤ x * y / 18446744073709551616 := by omega
  have hr := rem_whole (x * y) n
  have HR := Lib.hid hr
  clear hr
  go_enter Tryd.func44, Tryd.ntmps44
  go_wp2_with (first
    | (go_at_call 31; refine (mul64_q _ _ hx0 hy0 hx hy _).mono ?_; rintro e w' ⟨rfl, n1, rfl⟩)
    | (go_at_call 32; refine (rem64_q _ _ _ h0 h1 hz1 (by omega) (by omega) _).mono ?_; rintro e w' ⟨rfl, n2, rfl⟩))
  go_ret
  exact ⟨ret_int HR.out, _, rfl⟩

/-- a field of numbers modulo m -/
def FA (w : World) (a : Addr) (m : Int) : Prop := w.cell? a = some (.int .u64 m)
theorem FA.kept {w w' : World} {a : Addr} {m : Int} (h : FA w a m) (hb : Below w.heap.size w w') : FA w' a m := (hb.cell (World.block_lt_of_cell? w _ h)).trans h
theorem FA.drewN {w : World} {a : Addr} {m : Int} (h : FA w a m) (n : Nat) : FA (w.drewN n) a m := h

theorem of_calls (a : Addr) (m x : Int) (w : World) (hm : FA w a m) (h1 : 2 ≤ m) (hx : 0 ≤ x) :
    Calls Tryd.prog 13 #[.pointer (some a), .int .u64 x] w fun e w' => e = .returned (.int .u64 (x % m)) ∧ ∃ n, w' = w.drewN n := by
  unfold FA at hm
  have hm0 : (m == 0) = false := beq_eq_false_iff_ne.mpr (by omega)
  go_enter Tryd.func13, Tryd.ntmps13
  go_wp2
  go_ret
  exact ⟨rfl, 0, rfl⟩

theorem emod_hi {z m : Int} (h : m ≤ z) (h2 : z < m + m) : z % m = z - m := by
  have e : z = (z - m) + m * 1 := by omega
  rw [e, Int.add_mul_emod_self_left, Int.emod_eq_of_lt (by omega) (by omega)]
  omega
theorem emod_lo {z m : Int} (h : z < 0) (h2 : -m ≤ z) : z % m = z + m := by
  have e : z = (z + m) + m * (-1) := by omega
  rw [e, Int.add_mul_emod_self_left, Int.emod_eq_of_lt (by omega) (by omega)]
  omega

theorem add_calls (a : Addr) (m x y : Int) (w : World) (hm : FA w a m) (h1 : 2 ≤ m) (h2 : m < 9223372036854775808) (hx : 0 ≤ x) (hy : 0 ≤ y) :
    Calls Tryd.prog 29 #[.pointer (some a), .int .u64 x, .int .u64 y] w fun e w' => e = .returned (.int .u64 ((x + y) % m)) ∧ ∃ n, w' = w.drewN n := by
  unfold FA at hm
  have hm0 : (m == 0) = false := beq_eq_false_iff_ne.mpr (by omega)
  have b1 := Int.emod_nonneg x (show m ≠ 0 by omega)
  have b2 := Int.emod_lt_of_pos x (show 0 < m by omega)
  have b3 := Int.emod_nonneg y (show m ≠ 0 by omega)
  have b4 := Int.emod_lt_of_pos y (show 0 < m by omega)
  have HF := Lib.hid (Int.add_emod x y m)
  go_enter Tryd.func29, Tryd.ntmps29
  go_wp2
  go_quiet (fail)
  by_cases hc : m ≤ x % m + y % m
  · go_wp2
    go_ret
    exact ⟨ret_int (HF.out.trans (emod_hi hc (by omega))).symm, _, rfl⟩
  · go_wp2
    go_ret
    exact ⟨ret_int (HF.out.trans (Int.emod_eq_of_lt (by omega) (by omega))).symm, _, rfl⟩

theorem sub_calls (a : Addr) (m x y : Int) (w : World) (hm : FA w a m) (h1 : 2 ≤ m) (h2 : m < 9223372036854775808) (hx : 0 ≤ x) (hy : 0 ≤ y) :
    Calls Tryd.prog 18 #[.pointer (some a), .int .u64 x, .int .u64 y] w fun e w' => e = .returned (.int .u64 ((x - y) % m)) ∧ ∃ n, w' = w.drewN n := by
  unfold FA at hm
  have hm0 : (m == 0) = false := beq_eq_false_iff_ne.mpr (by omega)
  have b1 := Int.emod_nonneg x (show m ≠ 0 by omega)
  have b2 := Int.emod_lt_of_pos x (show 0 < m by omega)
  have b3 := Int.emod_nonneg y (show m ≠ 0 by omega)
  have b4 := Int.emod_lt_of_pos y (show 0 < m by omega)
  have HF := Lib.hid (Int.sub_emod x y m)
  go_enter Tryd.func18, Tryd.ntmps18
  go_wp2
  go_quiet (fail)
  by_cases hc : x % m < y % m
  · go_wp2
    go_ret
    exact ⟨ret_int ((HF.out.trans (emod_lo (by omega) (by omega))).trans (by omega)).symm, _, rfl⟩
  · go_wp2
    go_ret
    exact ⟨ret_int (HF.out.trans (Int.emod_eq_of_lt (by omega) (by omega))).symm, _, rfl⟩

theorem mul_calls (a : Addr) (m x y : Int) (w : World) (hm : FA w a m) (h1 : 2 ≤ m) (h2 : m < 9223372036854775808) (hx : 0 ≤ x) (hy : 0 ≤ y) :
    Calls Tryd.prog 16 #[.pointer (some a), .int .u64 x, .int .u64 y] w fun e w' => e = .returned (.int .u64 (x * y % m)) ∧ ∃ n, w' = w.drewN n := by
  unfold FA at hm
  have hm0 : (m == 0) = false := beq_eq_false_iff_ne.mpr (by omega)
  have b1 := Int.emod_nonneg x (show m ≠ 0 by omega)
  have b2 := Int.emod_lt_of_pos x (show 0 < m by omega)
  have b3 := Int.emod_nonneg y (show m ≠ 0 by omega)
  have b4 := Int.emod_lt_of_pos y (show 0 < m by omega)
  have hz := Int.mul_nonneg b1 b3
  have hz1 : 0 ≤ (x % m) * (y % m) / 18446744073709551616 := by omega
  have HF := Lib.hid (Int.mul_emod x y m)
  have HR := Lib.hid (rem_whole ((x % m) * (y % m)) m)
  go_enter Tryd.func16, Tryd.ntmps16
  go_wp2
  go_quiet ((go_at_call 31; exact Calls.quiet_of (mul64_q _ _ b1 b3 (by omega) (by omega) _)))
  go_wp2_with (go_at_call 32; refine (rem64_q _ _ _ (by omega) (by omega) hz1 (by omega) (by omega) _).mono ?_; rintro e w' ⟨rfl, n2, rfl⟩)
  go_ret
  exact ⟨ret_int (by rw [HR.out, ← HF.out]), _, rfl⟩
end Go.Proofs.YtmbbjoadnapcgaaDoor
