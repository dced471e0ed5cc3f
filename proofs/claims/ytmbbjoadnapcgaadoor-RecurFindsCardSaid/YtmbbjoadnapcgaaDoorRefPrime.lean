/- The laws' word for the primes that are asked: by its contract. -/
import Derived.Test.YtmbbjoadnapcgaaDoorRefIs
namespace Go.Proofs.YtmbbjoadnapcgaaDoor
open Go.RowKit Go.Proofs.YtmbbjoadnapcgaaDoorW.PrintWords VNum

/-- the primes that the laws ask -/
def Asked (p : Nat) : Prop := p = 998244353 ∨ p = 9223372036854775783 ∨ p = 2305843009213693951 ∨ (p ≤ 100000 ∧ Td p)

set_option maxHeartbeats 1000000 in
theorem rprime_calls (p : Int) (w : World) (h0 : 0 ≤ p) :
    Calls Tryd.prog 6 #[.int .u64 p] w fun e w' => ∃ b : Bool, e = .returned (.bool b) ∧ (b = true ↔ Asked p.toNat) ∧ ∃ m, w' = w.drewN m := by
  by_cases a1 : p = 998244353
  · subst a1
    go_enter Tryd.func6, Tryd.ntmps6
    go_wp2
    go_ret
    exact ⟨true, rfl, ⟨fun _ => Or.inl rfl, fun _ => rfl⟩, 0, rfl⟩
  by_cases a2 : p = 9223372036854775783
  · subst a2
    go_enter Tryd.func6, Tryd.ntmps6
    go_wp2
    go_ret
    exact ⟨true, rfl, ⟨fun _ => Or.inr (Or.inl rfl), fun _ => rfl⟩, 0, rfl⟩
  by_cases a3 : p = 2305843009213693951
  · subst a3
    go_enter Tryd.func6, Tryd.ntmps6
    go_wp2
    go_ret
    exact ⟨true, rfl, ⟨fun _ => Or.inr (Or.inr (Or.inl rfl)), fun _ => rfl⟩, 0, rfl⟩
  have b1 : (p == 998244353) = false := beq_eq_false_iff_ne.mpr a1
  have b2 : (p == 9223372036854775783) = false := beq_eq_false_iff_ne.mpr a2
  have b3 : (p == 2305843009213693951) = false := beq_eq_false_iff_ne.mpr a3
  by_cases a4 : p ≤ 100000
  · obtain ⟨n, rfl⟩ : ∃ n : Nat, p = (n : Int) := ⟨p.toNat, by omega⟩
    have C := Lib.hid (ris_calls n w (by omega))
    have g := decide_eq_true a4
    have HA : Hid (Asked n ↔ Td n) := Lib.hid ⟨fun h => by
      rcases h with h | h | h | h
      · exact absurd (by rw [h]; rfl) a1
      · exact absurd (by rw [h]; rfl) a2
      · exact absurd (by rw [h]; rfl) a3
      · exact h.2, fun h => Or.inr (Or.inr (Or.inr ⟨by omega, h⟩))⟩
    clear a1 a2 a3
    go_enter Tryd.func6, Tryd.ntmps6
    go_wp2_with (go_at_call 19; with_reducible refine C.out.mono ?_; rintro e w' ⟨b, rfl, hb, m, rfl⟩; have HB := Lib.hid hb; clear hb)
    go_ret
    exact ⟨b, rfl, by rw [Int.toNat_natCast, HA.out]; exact HB.out, _, rfl⟩
  · have g := decide_eq_false a4
    have HA : Hid (¬ Asked p.toNat) := Lib.hid (fun h => by
      rcases h with h | h | h | h
      · omega
      · omega
      · omega
      · omega)
    clear a1 a2 a3
    go_enter Tryd.func6, Tryd.ntmps6
    go_wp2
    go_ret
    first
      | exact ⟨false, rfl, ⟨fun h => absurd h (by decide), fun h => absurd h HA.out⟩, 0, rfl⟩
      | exact Or.inl ⟨rfl, ⟨fun h => absurd h (by decide), fun h => absurd h HA.out⟩, 0, rfl⟩
      | exact Or.inl ⟨rfl, HA.out, 0, rfl⟩
end Go.Proofs.YtmbbjoadnapcgaaDoor
