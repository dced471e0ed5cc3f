/- What a row of numbers misses of a rule, and a rule that is grown: by their contracts. -/
import Derived.Test.YtmbbjoadnapcgaaDoorList
import Derived.Lib.Slices
namespace Go.Proofs.YtmbbjoadnapcgaaDoor
open Go.RowKit Go.Proofs.YtmbbjoadnapcgaaDoorW.PrintWords VNum

/-- what the number at a place, and what k numbers of a rule take of those ahead, come to -/
def missTo (m : Int) (r row : List Int) (p : Nat) : Nat → Int
  | 0 => rn row p % m
  | k + 1 => (missTo m r row p k + rn r k * rn row (p - 1 - k)) % m

theorem missTo_rng {m : Int} (hm : 0 < m) (r row : List Int) (p : Nat) : ∀ k, 0 ≤ missTo m r row p k ∧ missTo m r row p k < m
  | 0 => ⟨Int.emod_nonneg _ (by omega), Int.emod_lt_of_pos _ hm⟩
  | k + 1 => ⟨Int.emod_nonneg _ (by omega), Int.emod_lt_of_pos _ hm⟩

set_option maxHeartbeats 1000000 in
theorem miss_calls (a : Addr) (m : Int) (A1 A2 : Option Addr) (c1 c2 : Nat) (r row : List Int) (p : Nat) (w : World) (hm : FA w a m) (h1 : 2 ≤ m) (h2 : m < 9223372036854775808)
    (hr : Rc w A1 c1 r) (hrow : Rc w A2 c2 row) (hat : p < row.length) (hra : r.length ≤ p) (ur : U64 r) (urow : U64 row) :
    Calls Tryd.prog 14 #[.pointer (some a), .slice A1 r.length c1, .slice A2 row.length c2, .int .i64 p] w fun e w' => e = .returned (.int .u64 (missTo m r row p r.length)) ∧ ∃ n, w' = w.drewN n := by
  have hmx := hrow.max
  obtain ⟨ad2, rfl, hc0⟩ := hrow.get p hat
  obtain ⟨u0, u1⟩ := urow.rng p
  have HM := Lib.hid hm
  have HR := Lib.hid hr
  have HW := Lib.hid hrow
  have UR := Lib.hid ur
  have UW := Lib.hid urow
  clear hm hr hrow ur urow
  go_enter Tryd.func14, Tryd.ntmps14
  go_wp2_with (go_at_call 13; refine (of_calls a m _ _ (FA.drewN HM.out 0) h1 (by omega)).mono ?_; rintro e w' ⟨rfl, n, rfl⟩)
  go_loopw [9, 10, 19] (fun s _ i w' => ∃ k : Nat, i = .int .i64 k ∧ k ≤ r.length ∧ s = .int .u64 (missTo m r row p k) ∧ ∃ n, w' = w.drewN n) (fun _ _ i _ => r.length - (intOf i).toNat)
  case atStart => exact ⟨0, rfl, by omega, rfl, n, rfl⟩
  case round =>
    clear hc0 u0 u1
    obtain ⟨k, rfl, hk, rfl, n2, rfl⟩ := hrel
    obtain ⟨s0, s1⟩ := missTo_rng (m := m) (by omega) r row p k
    have HS : Hid (missTo m r row p (k + 1) = (missTo m r row p k + rn r k * rn row (p - 1 - k)) % m) := rfl
    by_cases hkr : k < r.length
    · generalize missTo m r row p k = S at *
      obtain ⟨ad1, rfl, hc1⟩ := HR.out.get k hkr
      obtain ⟨j, hj⟩ : ∃ j, j = p - 1 - k := ⟨_, rfl⟩
      have ej : (p : Int) - 1 - (k : Int) = (j : Int) := by omega
      have hjl : j < row.length := by omega
      rw [← hj] at HS
      clear hj
      obtain ⟨ad3, e3, hc2⟩ := HW.out.get j hjl
      obtain rfl : ad2 = ad3 := Option.some.inj e3
      clear e3
      obtain ⟨p0, p1⟩ := UR.out.rng k
      obtain ⟨q0, q1⟩ := UW.out.rng j
      have pq := Int.emod_nonneg (rn r k * rn row j) (show m ≠ 0 by omega)
      have i1 : (k : Int) < (r.length : Int) := by omega
      have i2 : (j : Int) < (row.length : Int) := by omega
      have i3 : (0 : Int) ≤ (k : Int) := by omega
      have i4 : (0 : Int) ≤ (j : Int) := by omega
      go_wp2
      go_quiet ((first
        | (go_at_call 16; exact quiet_more (mul_calls a m _ _ _ (FA.drewN HM.out _) h1 h2 p0 q0))
        | (go_at_call 29; exact quiet_more (add_calls a m _ _ _ (FA.drewN HM.out _) h1 h2 s0 pq))))
      go_wp2
      go_roundw
      case rel => exact ⟨k + 1, by go_num, by omega, by rw [HS.out]; simp, _, rfl⟩
      case measure => simp [intOf]; omega
    · have hkk : k = r.length := by omega
      subst hkk
      go_wp2
      go_ret
      exact ⟨rfl, _, rfl⟩
end Go.Proofs.YtmbbjoadnapcgaaDoor
