/- The reference's trial by divisors: by its contract. -/
import Derived.Test.YtmbbjoadnapcgaaDoorList
namespace Go.Proofs.YtmbbjoadnapcgaaDoor
open Go.RowKit Go.Proofs.YtmbbjoadnapcgaaDoorW.PrintWords VNum

/-- no number from 2 on whose square is no greater divides it -/
def Td (n : Nat) : Prop := 2 ≤ n ∧ ∀ d, 2 ≤ d → d * d ≤ n → n % d ≠ 0
theorem td_cast {n d : Nat} : ((n : Int) % (d : Int)) = ((n % d : Nat) : Int) := by simp
theorem td_suc (d : Nat) (h : d ≤ 100000) : IntKind.u64.wrap ((d : Int) + 1) = (d : Int) + 1 := IntWalk.u64_in _ (by omega)

set_option maxHeartbeats 1000000 in
theorem ris_calls (n : Nat) (w : World) (hn : n ≤ 100000) :
    Calls Tryd.prog 19 #[.int .u64 n] w fun e w' => ∃ b : Bool, e = .returned (.bool b) ∧ (b = true ↔ Td n) ∧ ∃ m, w' = w.drewN m := by
  by_cases h2 : 2 ≤ n
  · have e1 : decide ((n : Int) < 2) = false := decide_eq_false (by omega)
    have ib : (n : Int) ≤ 100000 := by omega
    go_enter Tryd.func19, Tryd.ntmps19
    go_wp2
    go_loopw [3] (fun v3 W => ∃ d : Nat, v3 = .int .u64 d ∧ 2 ≤ d ∧ d ≤ 400 ∧ Hid (∀ q, 2 ≤ q → q < d → n % q ≠ 0) ∧ ∃ m, W = w.drewN m) (fun v3 _ => 1000 - (intOf v3).toNat)
    case atStart => exact ⟨2, rfl, by omega, by omega, Lib.hid (fun q h1 h3 => by omega), 0, rfl⟩
    case round =>
      obtain ⟨d, rfl, hd, hd4, hall, m, rfl⟩ := hrel
      have hd0 : ((d : Int) == 0) = false := beq_eq_false_iff_ne.mpr (by omega)
      have hsq : d * d ≤ 160000 := Nat.mul_le_mul hd4 hd4
      obtain ⟨s, hs⟩ : ∃ s, s = d * d := ⟨_, rfl⟩
      have es : (d : Int) * (d : Int) = (s : Int) := by rw [hs]; exact (Int.natCast_mul d d).symm
      rw [← hs] at hsq
      have HS := Lib.hid hs
      clear hs
      by_cases hle : s ≤ n
      · have hd5 : d ≤ 316 := by
          rcases Nat.lt_or_ge d 317 with h | h
          · omega
          · have := Nat.mul_le_mul h h
            have := HS.out
            omega
        have g1 : decide ((s : Int) ≤ (n : Int)) = true := decide_eq_true (by omega)
        by_cases hz : n % d = 0
        · have hz2 : (n : Int) % (d : Int) = 0 := by rw [td_cast, hz]; rfl
          have HN : Hid (¬ Td n) := Lib.hid (fun h => h.2 d hd (by rw [← HS.out]; exact hle) hz)
          go_wp2
          go_ret
          exact ⟨false, rfl, ⟨fun h => absurd h (by decide), fun h => absurd h HN.out⟩, _, rfl⟩
        · have hz2 : ((n : Int) % (d : Int) == 0) = false := beq_eq_false_iff_ne.mpr (by rw [td_cast]; omega)
          have HA : Hid (∀ q, 2 ≤ q → q < d + 1 → n % q ≠ 0) := Lib.hid (fun q h1 h3 => by
            rcases Nat.lt_or_ge q d with h | h
            · exact hall.out q h1 h
            · obtain rfl : q = d := by omega
              exact hz)
          have HM : Hid (1000 - ((d : Int) + 1).toNat < 1000 - (d : Int).toNat) := Lib.hid (by omega)
          clear hz
          go_wp2
          go_roundw
          case rel => exact ⟨d + 1, rfl, by omega, by omega, HA, _, rfl⟩
          case measure =>
            simp only [intOf]
            exact HM.out
      · have g1 : decide ((s : Int) ≤ (n : Int)) = false := decide_eq_false (by omega)
        have HT : Hid (Td n) := Lib.hid ⟨h2, fun q hq hqn hz => by
          rcases Nat.lt_or_ge q d with h | h
          · exact hall.out q hq h hz
          · have := Nat.mul_le_mul h h
            have := HS.out
            omega⟩
        go_wp2
        go_ret
        exact ⟨true, rfl, ⟨fun _ => HT.out, fun _ => rfl⟩, _, rfl⟩
  · have e1 : decide ((n : Int) < 2) = true := decide_eq_true (by omega)
    go_enter Tryd.func19, Tryd.ntmps19
    go_wp2
    go_ret
    exact ⟨false, rfl, ⟨fun h => absurd h (by decide), fun h => absurd h.1 h2⟩, 0, rfl⟩
end Go.Proofs.YtmbbjoadnapcgaaDoor
