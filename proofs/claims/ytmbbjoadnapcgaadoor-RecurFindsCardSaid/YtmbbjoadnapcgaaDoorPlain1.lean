/- Plain laws: a number that trial by divisors lets pass is a prime, and so is each that is asked. -/
import Derived.Test.YtmbbjoadnapcgaaDoorRefPrime
import Derived.Test.YtmbbjoadnapcgaaDoorNumChk
namespace Go.Proofs.YtmbbjoadnapcgaaDoor
open VNum

theorem td_iff (n : Nat) : Td n ↔ Pr n := by
  constructor
  · rintro ⟨h2, h⟩
    refine ⟨h2, fun d ⟨e, he⟩ => ?_⟩
    rcases Nat.lt_or_ge d 2 with hd | hd
    · rcases Nat.eq_zero_or_pos d with h0 | h0
      · subst h0; simp at he; omega
      · left; omega
    rcases Nat.lt_or_ge e 2 with h1 | h1
    · rcases Nat.eq_zero_or_pos e with h0 | h0
      · subst h0; simp at he; omega
      · have : e = 1 := by omega
        subst this
        right; omega
    exfalso
    rcases Nat.le_total d e with hde | hde
    · exact h d hd (by rw [he]; exact Nat.mul_le_mul_left d hde) (by rw [he]; exact Nat.mul_mod_right d e)
    · exact h e h1 (by rw [he]; exact Nat.mul_le_mul_right e hde) (by rw [he]; exact Nat.mul_mod_left d e)
  · rintro ⟨h2, h⟩
    refine ⟨h2, fun d hd hdd hz => ?_⟩
    rcases h d (Nat.dvd_of_mod_eq_zero hz) with h1 | h1
    · omega
    · subst h1
      have := Nat.mul_le_mul_left d hd
      omega
theorem asked_pr {n : Nat} (h : Asked n) : Pr n := by
  rcases h with h | h | h | h
  · rw [h]; exact pr_a
  · rw [h]; exact pr_b
  · rw [h]; exact pr_c
  · exact (td_iff n).1 h.2
theorem asked_isP {n : Nat} (h : Asked n) : isP n = true := by
  rcases h with h | h | h | h
  · rw [h]; exact great1
  · rw [h]; exact great2
  · rw [h]; exact great3
  · exact (isP_iff h.1).2 ((td_iff n).1 h.2)
theorem not_asked_isP {n : Nat} (hn : n ≤ 100000) (h : ¬ Asked n) : isP n = false := by
  cases hb : isP n with
  | false => rfl
  | true => exact absurd (Or.inr (Or.inr (Or.inr ⟨hn, (td_iff n).2 ((isP_iff hn).1 hb)⟩))) h
theorem asked_lt {n : Nat} (h : Asked n) : (n : Int) < 9223372036854775808 := by
  rcases h with h | h | h | h <;> omega
end Go.Proofs.YtmbbjoadnapcgaaDoor
