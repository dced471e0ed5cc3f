/- The inverse of a word, and the field of a word: by their contracts. -/
import Derived.Test.YtmbbjoadnapcgaaDoorWord
namespace Go.Proofs.YtmbbjoadnapcgaaDoor
open Go.RowKit

/-- what the rounds of the inverse come to -/
def invL (m : Int) : Nat → Int → Int → Int → Int → Int × Int
  | 0, r, _, a, _ => (r, a)
  | f + 1, r, s, a, b => if 0 < s then invL m f s (r % s) b ((a - r / s * b) % m) else (r, a)
/-- the inverse, and why there is none -/
def invF (m x : Int) : Int × Int :=
  if x % m = 0 then (0, 10) else
    let p := invL m ((x % m).toNat + 1) m (x % m) 0 1
    if p.1 = 1 then (p.2, 0) else (0, 11)

theorem inv_calls (a : Addr) (m x : Int) (w : World) (hm : FA w a m) (h1 : 2 ≤ m) (h2 : m < 9223372036854775808) (hx : 0 ≤ x) :
    Calls Tryd.prog 15 #[.pointer (some a), .int .u64 x] w fun e w' => e = .returned (.tuple #[.int .u64 (invF m x).1, .int .i64 (invF m x).2]) ∧ ∃ n, w' = w.drewN n := by
  have hm' := hm
  unfold FA at hm
  have HM := Lib.hid hm'
  clear hm'
  have hm0 : (m == 0) = false := beq_eq_false_iff_ne.mpr (by omega)
  have b1 := Int.emod_nonneg x (show m ≠ 0 by omega)
  have b2 := Int.emod_lt_of_pos x (show 0 < m by omega)
  by_cases hx0 : x % m = 0
  · have hf : invF m x = (0, 10) := by unfold invF; rw [if_pos hx0]
    rw [hf]
    have d0 : (x % m == 0) = true := beq_iff_eq.mpr hx0
    clear hx0 hf
    go_enter Tryd.func15, Tryd.ntmps15
    go_wp2
    go_ret2
    exact ⟨rfl, 0, rfl⟩
  · have d0 : (x % m == 0) = false := beq_eq_false_iff_ne.mpr hx0
    obtain ⟨p, hp⟩ : ∃ p, p = invL m ((x % m).toNat + 1) m (x % m) 0 1 := ⟨_, rfl⟩
    have hf : invF m x = if p.1 = 1 then (p.2, 0) else (0, 11) := by unfold invF; rw [if_neg hx0, hp]
    rw [hf]
    have HP := Lib.hid hp.symm
    clear hx0 hf hp
    go_enter Tryd.func15, Tryd.ntmps15
    go_wp2
    go_loopw [6, 7, 8, 9] (fun r s a b w' => ∃ (R S A B : Int) (f : Nat), r = .int .u64 R ∧ s = .int .u64 S ∧ a = .int .u64 A ∧ b = .int .u64 B ∧ 0 ≤ R ∧ R ≤ m ∧ 0 ≤ S ∧ S < m ∧ 0 ≤ A ∧ A < m ∧ 0 ≤ B ∧ B < m ∧ Hid (invL m (f + 1) R S A B = p) ∧ S.toNat ≤ f ∧ ∃ n, w' = w.drewN n) (fun _ s _ _ _ => (intOf s).toNat)
    case atStart => exact ⟨m, x % m, 0, 1, (x % m).toNat, rfl, rfl, rfl, rfl, by omega, by omega, b1, b2, by omega, by omega, by omega, by omega, HP, by omega, 0, rfl⟩
    case round =>
      clear HP
      obtain ⟨R, S, A, B, f, rfl, rfl, rfl, rfl, r0, r1, s0, s1, a0, a1, c0, c1, HP, hf, n, rfl⟩ := hrel
      by_cases hs : 0 < S
      · have ds : decide (0 < S) = true := decide_eq_true hs
        have ds0 : (S == 0) = false := beq_eq_false_iff_ne.mpr (by omega)
        have q0 : 0 ≤ R / S := Int.ediv_nonneg r0 s0
        have q1 : R / S ≤ R := Int.ediv_le_self S r0
        have qs := Int.mul_ediv_add_emod R S
        have qm := Int.emod_nonneg R (show S ≠ 0 by omega)
        have ql := Int.emod_lt_of_pos R hs
        rw [Int.mul_comm] at qs
        have w1 : 0 ≤ R / S * S := Int.mul_nonneg q0 s0
        have w2 : R / S * S ≤ R := by omega
        have HQ := Lib.hid qs
        clear qs
        have hqb : 0 ≤ R / S * B % m := Int.emod_nonneg _ (show m ≠ 0 by omega)
        go_wp2_with (first
          | (go_at_call 16; refine (mul_calls a m _ _ _ (FA.drewN HM.out _) h1 h2 (by omega) (by omega)).mono ?_; rintro e w' ⟨rfl, n1, rfl⟩)
          | (go_at_call 18; refine (sub_calls a m _ _ _ (FA.drewN HM.out _) h1 h2 (by omega) (by omega)).mono ?_; rintro e w' ⟨rfl, n1, rfl⟩))
        go_roundw
        case rel =>
          refine ⟨S, R % S, B, (A - R / S * B) % m, f - 1, rfl, by first | rfl | (have := HQ.out; go_num), rfl, rfl, s0, by omega, qm, by omega, c0, c1, Int.emod_nonneg _ (by omega), Int.emod_lt_of_pos _ (by omega), ?_, by omega, _, rfl⟩
          have e := HP.out
          rw [invL, if_pos hs] at e
          show invL m (f - 1 + 1) _ _ _ _ = _
          rw [Nat.sub_add_cancel (by omega)]
          exact e
        case measure => simp [intOf]; have := HQ.out; omega
      · have ds : decide (0 < S) = false := decide_eq_false hs
        have hr : p = (R, A) := by rw [← HP.out]; unfold invL; rw [if_neg hs]
        clear HP
        subst hr
        by_cases hR : R = 1
        · subst hR
          clear r0 r1
          go_wp2
          go_ret2
          exact ⟨rfl, _, rfl⟩
        · have dr : (R != 1) = true := bne_iff_ne.mpr hR
          have dr2 : (R == 1) = false := beq_eq_false_iff_ne.mpr hR
          have hif : (if R = 1 then (A, 0) else ((0 : Int), (11 : Int))) = (0, 11) := if_neg hR
          have HI := Lib.hid hif
          clear hif
          go_wp2
          go_ret2
          first | exact ⟨rfl, _, rfl⟩ | exact ⟨by rw [HI.out], _, rfl⟩
end Go.Proofs.YtmbbjoadnapcgaaDoor
