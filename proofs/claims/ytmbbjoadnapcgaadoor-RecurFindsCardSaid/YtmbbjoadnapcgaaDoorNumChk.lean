/- The test tells the primes up to 100000: each number that it lets by is looked through by trial divisions. -/
import Derived.Test.YtmbbjoadnapcgaaDoorNum
namespace VNum
theorem chk0 : chkFrom 25000 0 = true := by decide +kernel
theorem chk1 : chkFrom 25000 25000 = true := by decide +kernel
theorem chk2 : chkFrom 25000 50000 = true := by decide +kernel
theorem chk3 : chkFrom 25001 75000 = true := by decide +kernel
theorem chk_all (n : Nat) (h : n ≤ 100000) : chk n = true := by
  rcases Nat.lt_or_ge n 25000 with h1 | h1
  · exact chkFrom_at _ _ n chk0 (by omega) (by omega)
  · rcases Nat.lt_or_ge n 50000 with h2 | h2
    · exact chkFrom_at _ _ n chk1 (by omega) (by omega)
    · rcases Nat.lt_or_ge n 75000 with h3 | h3
      · exact chkFrom_at _ _ n chk2 (by omega) (by omega)
      · exact chkFrom_at _ _ n chk3 (by omega) (by omega)
/-- Up to 100000 the test says what is prime. -/
theorem isP_iff {n : Nat} (h : n ≤ 100000) : isP n = true ↔ Pr n :=
  ⟨fun hp => isP_small (by omega) (chk_all n h) hp, fun hp => isP_of hp (by omega)⟩
end VNum
