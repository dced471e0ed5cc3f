/- A row is the same as one that reads alike: by its contract. -/
import Derived.Test.YtmbbjoadnapcgaaDoorAwakeN
namespace Go.Proofs.YtmbbjoadnapcgaaDoor
open Go.RowKit Go.Proofs.YtmbbjoadnapcgaaDoorW.PrintWords VNum

set_option maxHeartbeats 1000000 in
theorem same_calls (A1 A2 : Option Addr) (c1 c2 : Nat) (l : List Int) (w : World) (h1 : Rc w A1 c1 l) (h2 : Rc w A2 c2 l) (hl : l.length ≤ 1000000) :
    Calls Tryd.prog 11 #[.slice A1 l.length c1, .slice A2 l.length c2] w fun e w' => e = .returned (.bool true) ∧ ∃ n, w' = w.drewN n := by
  have H1 := Lib.hid h1
  have H2 := Lib.hid h2
  have ib : (l.length : Int) ≤ 1000000 := by omega
  clear h1 h2 hl
  go_enter Tryd.func11, Tryd.ntmps11
  go_wp2
  go_loopw [5] (fun v5 W => ∃ k : Nat, v5 = .int .i64 k ∧ k ≤ l.length ∧ ∃ n, W = w.drewN n) (fun v5 _ => l.length - (intOf v5).toNat)
  case atStart => exact ⟨0, rfl, by omega, 0, rfl⟩
  case round =>
    obtain ⟨k, rfl, hk, n, rfl⟩ := hrel
    by_cases hkl : k < l.length
    · obtain ⟨ad, rfl, hc1⟩ := H1.out.get k hkl
      obtain ⟨ad2, rfl, hc2⟩ := H2.out.get k hkl
      have HKL : Hid (k + 1 ≤ l.length) := Lib.hid (Nat.succ_le_of_lt hkl)
      have HKM := Lib.hid (ms_suc hkl)
      have i1 : (k : Int) < (l.length : Int) := by omega
      have i3 : (0 : Int) ≤ (k : Int) := by omega
      go_wp2
      go_quiet ((first | skip))
      go_wp2
      go_roundw
      case rel => exact ⟨k + 1, rfl, HKL.out, _, rfl⟩
      case measure =>
        simp only [intOf]
        exact HKM.out
    · have hkk : k = l.length := by omega
      subst hkk
      go_wp2
      go_ret
      exact ⟨rfl, _, rfl⟩
end Go.Proofs.YtmbbjoadnapcgaaDoor
