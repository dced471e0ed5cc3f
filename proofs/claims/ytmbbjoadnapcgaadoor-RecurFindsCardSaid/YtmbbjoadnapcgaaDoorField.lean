/- The field of a prime, for rows: by its contract. -/
import Derived.Test.YtmbbjoadnapcgaaDoorFindF
namespace Go.Proofs.YtmbbjoadnapcgaaDoor
open Go.RowKit Go.Proofs.YtmbbjoadnapcgaaDoorW.PrintWords VNum

theorem Tab.drewN {w : World} (h : Tab w) (n : Nat) : Tab (w.drewN n) := h

theorem isP_two {n : Nat} (h : isP n = true) : 2 ≤ n := by
  unfold isP at h
  by_cases h2 : n < 2
  · rw [if_pos h2] at h; simp at h
  · omega

theorem rfield_none (p : Int) (w : World) (hT : Tab w) (h0 : 0 ≤ p) (h1 : p < 18446744073709551616) (h : 9223372036854775808 ≤ p ∨ isP p.toNat = false) :
    Calls Tryd.prog 12 #[.int .u64 p] w fun e w' => e = .returned (.tuple #[.pointer none, .int .i64 14]) ∧ Below w.heap.size w w' := by
  have HT := Lib.hid hT
  clear hT
  by_cases hb : 9223372036854775808 ≤ p
  · have d0 : decide (9223372036854775808 ≤ p) = true := decide_eq_true hb
    go_enter Tryd.func12, Tryd.ntmps12
    go_wp2
    go_ret2
    exact ⟨rfl, Below.refl _ _⟩
  · have d0 : decide (9223372036854775808 ≤ p) = false := decide_eq_false hb
    have c := is_calls p w HT.out h0 h1
    rw [h.resolve_left hb] at c
    have HC := Lib.hid c
    clear c h
    go_enter Tryd.func12, Tryd.ntmps12
    go_wp2_with (go_at_call 30; refine HC.out.mono ?_; rintro e w' ⟨rfl, hb2⟩)
    go_ret2
    exact ⟨rfl, hb2⟩

theorem rfield_some (p : Int) (w : World) (hT : Tab w) (h0 : 0 ≤ p) (h1 : p < 9223372036854775808) (h : isP p.toNat = true) :
    Calls Tryd.prog 12 #[.int .u64 p] w fun e w' => ∃ a, e = .returned (.tuple #[.pointer (some a), .int .i64 0]) ∧ NewF w a p w' := by
  have h2 : 2 ≤ p := by have := isP_two h; omega
  have d0 : decide (9223372036854775808 ≤ p) = false := decide_eq_false (by omega)
  have c := is_calls p w hT h0 (by omega)
  rw [h] at c
  have HC := Lib.hid c
  clear c h hT
  go_enter Tryd.func12, Tryd.ntmps12
  go_wp2_with (first
    | (go_at_call 30; refine HC.out.mono ?_; rintro e w1 ⟨rfl, hb2⟩)
    | (go_at_call 28; refine (new_calls p _ h2 h1).mono ?_; rintro e w2 ⟨a, rfl, hf, hb3, hsz⟩))
  go_ret2
  exact ⟨a, rfl, hf, hb2.trans (hb3.mono hb2.size), by have := hb2.size; omega⟩
end Go.Proofs.YtmbbjoadnapcgaaDoor
