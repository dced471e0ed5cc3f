/- The field of a word, made: by its contract. -/
import Derived.Test.YtmbbjoadnapcgaaDoorInv
import Derived.WalkSmall
namespace Go.Proofs.YtmbbjoadnapcgaaDoor
open Go.RowKit

/-- a field at an address, that was made behind world w -/
def NewF (w : World) (a : Addr) (m : Int) (w' : World) : Prop := FA w' a m ∧ Below w.heap.size w w' ∧ w.heap.size ≤ a.block

theorem new_none (m : Int) (w : World) (h : m < 2 ∨ 9223372036854775808 ≤ m) :
    Calls Tryd.prog 28 #[.int .u64 m] w fun e w' => e = .returned (.tuple #[.pointer none, .int .i64 1]) ∧ ∃ n, w' = w.drewN n := by
  by_cases h1 : m < 2
  · have d1 : decide (m < 2) = true := decide_eq_true h1
    go_enter Tryd.func28, Tryd.ntmps28
    go_wp2
    go_ret2
    exact ⟨rfl, 0, rfl⟩
  · have h2 : 9223372036854775808 ≤ m := by omega
    have d1 : decide (m < 2) = false := decide_eq_false h1
    go_enter Tryd.func28, Tryd.ntmps28
    go_wp2
    go_ret2
    exact ⟨rfl, 0, rfl⟩

theorem new_even (m : Int) (w : World) (h1 : 2 ≤ m) (h2 : m < 9223372036854775808) (hb : bits .and .u64 m 1 = 0) :
    Calls Tryd.prog 28 #[.int .u64 m] w fun e w' => ∃ a, e = .returned (.tuple #[.pointer (some a), .int .i64 0]) ∧ NewF w a m w' := by
  have d1 : decide (m < 2) = false := decide_eq_false (by omega)
  go_enter Tryd.func28, Tryd.ntmps28
  go_wp2
  go_ret2
  exact ⟨_, rfl, by simp [FA], (Below.refl _ _).alloc (Nat.le_refl _) _, Nat.le_refl _⟩

theorem new_odd (m : Int) (w : World) (h1 : 2 ≤ m) (h2 : m < 9223372036854775808) (hb : bits .and .u64 m 1 = 1) :
    Calls Tryd.prog 28 #[.int .u64 m] w fun e w' => ∃ a, e = .returned (.tuple #[.pointer (some a), .int .i64 0]) ∧ NewF w a m w' := by
  have d1 : decide (m < 2) = false := decide_eq_false (by omega)
  go_enter Tryd.func28, Tryd.ntmps28
  obtain ⟨o, ho, o0⟩ : ∃ o, (IntKind.u64.wrap (-m)).tmod m = o ∧ 0 ≤ o := by
    refine ⟨_, rfl, ?_⟩
    have e : IntKind.u64.wrap (-m) = 18446744073709551616 - m := by rw [IntKind.wrap_u64]; omega
    rw [e]
    exact Int.tmod_nonneg _ (by omega)
  go_wp2
  go_loop [5, 20] (fun v i => ∃ (k : Nat) (V : Int), k ≤ 5 ∧ i = .int .i64 k ∧ v = .int .u64 V) (fun _ i => 5 - (intOf i).toNat)
  case atStart => exact ⟨0, m, by omega, rfl, rfl⟩
  case round =>
    obtain ⟨k, V, hk, rfl, rfl⟩ := hrel
    by_cases hk5 : k < 5
    · go_wp2
      go_round
      case rel => exact ⟨k + 1, _, by omega, by go_num, rfl⟩
      case measure => simp [intOf]; omega
    · go_wp2_with (go_at_call 16; refine (mul_calls _ m _ _ _ (by simp [FA]) h1 h2 o0 o0).mono ?_; rintro e w' ⟨rfl, n, rfl⟩)
      go_ret2
      refine ⟨_, rfl, ?_, ?_, Nat.le_refl _⟩
      · exact (World.cell?_setCell_other _ _ _ _ (by simp)).trans (by simp)
      · exact (below_drewN ((Below.refl _ _).alloc (Nat.le_refl _) _) _).setCell (Nat.le_refl _) _

theorem new_calls (m : Int) (w : World) (h1 : 2 ≤ m) (h2 : m < 9223372036854775808) :
    Calls Tryd.prog 28 #[.int .u64 m] w fun e w' => ∃ a, e = .returned (.tuple #[.pointer (some a), .int .i64 0]) ∧ NewF w a m w' := by
  have hb := and_one_u64 m (by omega) (by omega)
  rcases (show m % 2 = 0 ∨ m % 2 = 1 by omega) with h | h
  · exact new_even m w h1 h2 (hb.trans h)
  · exact new_odd m w h1 h2 (hb.trans h)
end Go.Proofs.YtmbbjoadnapcgaaDoor
