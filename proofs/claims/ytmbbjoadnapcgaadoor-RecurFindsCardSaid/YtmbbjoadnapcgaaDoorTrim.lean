/- A polynomial without coefficients 0 at its end: by its contract. -/
import Derived.Test.YtmbbjoadnapcgaaDoorMore
namespace Go.Proofs.YtmbbjoadnapcgaaDoor
open Go.RowKit Go.Proofs.YtmbbjoadnapcgaaDoorW.PrintWords VNum

/-- how many of the first k coefficients are left when those that are 0 at their end are taken away -/
def trimN (l : List Int) : Nat → Nat
  | 0 => 0
  | k + 1 => if rn l k = 0 then trimN l k else k + 1
def trimF (l : List Int) : List Int := l.take (trimN l l.length)
theorem trimN_le (l : List Int) : ∀ k, trimN l k ≤ k
  | 0 => Nat.le_refl _
  | k + 1 => by
    unfold trimN
    split
    · have := trimN_le l k; omega
    · omega
theorem trimF_len (l : List Int) : (trimF l).length = trimN l l.length := by
  unfold trimF
  rw [List.length_take]
  exact Nat.min_eq_left (trimN_le l _)

theorem Rc.take {w : World} {A : Option Addr} {c : Nat} {l : List Int} (h : Rc w A c l) (n : Nat) (hn : n ≤ l.length) : Rc w A c (l.take n) := by
  have e : (l.take n).length = n := by rw [List.length_take]; exact Nat.min_eq_left hn
  exact ⟨Kd.C_take h.1 hn, by have := h.2; omega⟩

set_option maxHeartbeats 1000000 in
theorem trim_calls (A : Option Addr) (c : Nat) (l : List Int) (w : World) (hr : Rc w A c l) (hl : l.length ≤ 1000000) :
    Calls Tryd.prog 41 #[.slice A l.length c] w fun e w' => ∃ A' c', e = .returned (.slice A' (trimF l).length c') ∧ Rc w' A' c' (trimF l) ∧ ∃ n, w' = w.drewN n := by
  have HR := Lib.hid hr
  have hb : (l.length : Int) ≤ 1000000 := by omega
  have hlc := hr.2
  clear hr hl
  go_enter Tryd.func41, Tryd.ntmps41
  go_wp2
  go_loopw [3] (fun v3 W => ∃ k : Nat, v3 = .int .i64 k ∧ k ≤ l.length ∧ Hid (trimN l l.length = trimN l k) ∧ ∃ n, W = w.drewN n) (fun v3 _ => (intOf v3).toNat)
  case atStart => exact ⟨l.length, rfl, Nat.le_refl _, Lib.hid rfl, 0, rfl⟩
  case round =>
    obtain ⟨k, rfl, hk, ht, n, rfl⟩ := hrel
    rcases Nat.eq_zero_or_pos k with h0 | h0
    · subst h0
      have e0 : (trimF l).length = 0 := by rw [trimF_len, ht.out]; rfl
      have E0 := Lib.hid e0
      clear e0
      go_wp2
      go_ret
      have r := (HR.out.drewN n).take (trimN l l.length) (trimN_le _ _)
      exact ⟨A, c, by rw [E0.out]; rfl, r, _, rfl⟩
    · obtain ⟨j, rfl⟩ : ∃ j, k = j + 1 := ⟨k - 1, by omega⟩
      obtain ⟨ad, rfl, hc⟩ := HR.out.get j (by omega)
      have e1 : ((j + 1 : Nat) : Int) - 1 = (j : Int) := by omega
      have i1 : (j : Int) < (l.length : Int) := by omega
      have i3 : (0 : Int) ≤ (j : Int) := by omega
      have ht2 : Hid (trimN l (j + 1) = if rn l j = 0 then trimN l j else j + 1) := Lib.hid rfl
      by_cases hz : rn l j = 0
      · rw [hz] at hc
        go_wp2
        go_roundw
        case rel => exact ⟨j, rfl, by omega, Lib.hid (by rw [ht.out, ht2.out, if_pos hz]), _, rfl⟩
        case measure => simp only [intOf]; omega
      · have hz2 : (rn l j == 0) = false := beq_eq_false_iff_ne.mpr hz
        go_wp2
        go_ret
        have e0 : (trimF l).length = j + 1 := by rw [trimF_len, ht.out, ht2.out, if_neg hz]
        have r := (HR.out.drewN n).take (trimN l l.length) (trimN_le _ _)
        exact ⟨some ad, c, by rw [e0]; rfl, r, _, rfl⟩
end Go.Proofs.YtmbbjoadnapcgaaDoor
