/- Whether a word is a prime: the test over all bases, by its contract. -/
import Derived.Test.YtmbbjoadnapcgaaDoorPrime
namespace Go.Proofs.YtmbbjoadnapcgaaDoor
open Go.RowKit VNum

theorem base_at : ∀ k, k < 12 → ∀ w : World, (Instr.index 68 basesV (.int .i64 (k : Nat))).run Tryd.prog w = .ok (.int .u64 ((basesL.getD k 0 : Nat) : Int)) w
  | 0, _, _ => by kernel_rfl
  | 1, _, _ => by kernel_rfl
  | 2, _, _ => by kernel_rfl
  | 3, _, _ => by kernel_rfl
  | 4, _, _ => by kernel_rfl
  | 5, _, _ => by kernel_rfl
  | 6, _, _ => by kernel_rfl
  | 7, _, _ => by kernel_rfl
  | 8, _, _ => by kernel_rfl
  | 9, _, _ => by kernel_rfl
  | 10, _, _ => by kernel_rfl
  | 11, _, _ => by kernel_rfl
  | k + 12, h, _ => by omega
theorem base_drop : ∀ k, k < 12 → basesL.drop k = basesL.getD k 0 :: basesL.drop (k + 1) := by decide
theorem base_rng : ∀ k, k < 12 → 2 ≤ basesL.getD k 0 ∧ basesL.getD k 0 ≤ 37 := by decide

theorem isP_get (n : Nat) (h : 2 ≤ n) : isP n = (smallB n basesL).getD (basesL.all (strongB n)) := by
  unfold isP
  rw [if_neg (by omega)]
  cases smallB n basesL <;> rfl

theorem is_low (n : Int) (w : World) (h1 : n < 2) :
    Calls Tryd.prog 30 #[.int .u64 n] w fun e w' => e = .returned (.bool false) ∧ Below w.heap.size w w' := by
  have d0 : decide (n < 2) = true := decide_eq_true h1
  go_enter Tryd.func30, Tryd.ntmps30
  go_wp2
  go_ret
  exact ⟨rfl, Below.refl _ _⟩

set_option maxHeartbeats 1000000 in
theorem is_high (n : Nat) (w : World) (hT : Tab w) (h1 : 2 ≤ n) (h2 : n < 18446744073709551616) :
    Calls Tryd.prog 30 #[.int .u64 n] w fun e w' => e = .returned (.bool (isP n)) ∧ Below w.heap.size w w' := by
  have d0 : decide ((n : Int) < 2) = false := decide_eq_false (by omega)
  obtain ⟨s, hs⟩ : ∃ s, smallB n basesL = s := ⟨_, rfl⟩
  obtain ⟨R, hR⟩ : ∃ R, R = isP n := ⟨_, rfl⟩
  have hP : R = s.getD (basesL.all (strongB n)) := by rw [hR, ← hs, isP_get n h1]
  rw [← hR]
  clear hR
  have HP := Lib.hid hP
  have HS0 : Hid (smallB n (basesL.drop 0) = s) := by show smallB n (basesL.drop 0) = s; simpa using hs
  have HT := Lib.hid hT
  clear hs hP hT
  obtain ⟨k, hk⟩ : ∃ k, k = n - 1 := ⟨_, rfl⟩
  have e1 : (n : Int) - 1 = (k : Int) := by omega
  obtain ⟨t, ht⟩ : ∃ t, t = tzL 64 k := ⟨_, rfl⟩
  have ht63 : t ≤ 63 := by
    obtain ⟨m, hm, hl⟩ := Lib.ctzFrom_spec 64 k (by omega) (by omega)
    rw [ht, tzL_ctz]; omega
  have HK := Lib.hid hk
  have HTt := Lib.hid ht
  have HE1 := Lib.hid e1
  clear hk ht e1
  go_enter Tryd.func30, Tryd.ntmps30
  go_wp2_with (go_at_call 38; refine (bases_calls _).mono ?_; rintro e w1 ⟨rfl, hb1⟩)
  go_loopw [10] (fun i w' => ∃ j : Nat, i = .int .i64 j ∧ j ≤ 12 ∧ Hid (smallB n (basesL.drop j) = s) ∧ Below w.heap.size w w') (fun i _ => 12 - (intOf i).toNat)
  case atStart => exact ⟨0, rfl, by omega, HS0, hb1⟩
  case round =>
    clear HS0
    obtain ⟨j, rfl, hj, HS, hb⟩ := hrel
    by_cases hj12 : j < 12
    · have hix := base_at j hj12
      have hdr := base_drop j hj12
      have hrg := base_rng j hj12
      obtain ⟨b, hbb⟩ : ∃ b, basesL.getD j 0 = b := ⟨_, rfl⟩
      rw [hbb] at hix hdr hrg
      clear hbb
      obtain ⟨hb2, hb37⟩ := hrg
      have HD := Lib.hid hdr
      clear hdr
      have hbz : ((b : Int) == 0) = false := beq_eq_false_iff_ne.mpr (by omega)
      by_cases hd : n % b = 0
      · have d1 : ((n : Int) % (b : Int) == 0) = true := beq_iff_eq.mpr (by rw [← Int.natCast_emod]; omega)
        have hRR : R = ((n : Int) == (b : Int)) := by
          have hs := HS.out
          rw [HD.out, smallB, if_pos hd] at hs
          rw [HP.out, ← hs]
          show (n == b) = _
          rw [Bool.eq_iff_iff]; simp; omega
        have HRR := Lib.hid hRR
        clear hRR hd
        go_wp2
        go_ret
        exact ⟨by rw [HRR.out]; rfl, hb⟩
      · have d1 : ((n : Int) % (b : Int) == 0) = false := beq_eq_false_iff_ne.mpr (by rw [← Int.natCast_emod]; omega)
        have HN := Lib.hid hd
        clear hd
        go_wp2
        go_roundw
        case rel =>
          refine ⟨j + 1, by go_num, by omega, ?_, hb⟩
          have hs := HS.out
          rw [HD.out, smallB, if_neg HN.out] at hs
          exact hs
        case measure => simp [intOf]; omega
    · have hRR : R = (basesL.drop 0).all (strongB n) := by
        have hs := HS.out
        rw [show j = 12 by omega] at hs
        have : s = none := by rw [← hs]; rfl
        rw [HP.out, this]; rfl
      have HRR := Lib.hid hRR
      clear hRR HS HP
      go_wp2_with (go_at_call 38; refine (bases_calls _).mono ?_; rintro e w1 ⟨rfl, hb2⟩)
      have hb3 : Below w.heap.size w w1 := hb.trans (hb2.mono hb.size)
      clear hb hb2
      go_loopw [22] (fun i w' => ∃ j : Nat, i = .int .i64 j ∧ j ≤ 12 ∧ Hid (R = (basesL.drop j).all (strongB n)) ∧ Below w.heap.size w w') (fun i _ => 12 - (intOf i).toNat)
      case atStart => exact ⟨0, rfl, by omega, HRR, hb3⟩
      case round =>
        clear HRR hb3
        obtain ⟨j2, rfl, hj2, HS, hb⟩ := hrel
        by_cases hj12 : j2 < 12
        · have hix := base_at j2 hj12
          have hdr := base_drop j2 hj12
          have hrg := base_rng j2 hj12
          obtain ⟨b, hbb⟩ : ∃ b, basesL.getD j2 0 = b := ⟨_, rfl⟩
          rw [hbb] at hix hdr hrg
          clear hbb
          obtain ⟨hb2, hb37⟩ := hrg
          have HD := Lib.hid hdr
          clear hdr
          have cs := fun wx (hx : Below w.heap.size w wx) => strong_calls n b k t wx (HT.out.kept hx) h1 h2 (by omega) HK HE1.out HTt ht63
          cases hst : strongB n b with
          | true =>
            rw [hst] at cs
            go_wp2_with (go_at_call 39; refine (cs _ hb).mono ?_; rintro e w1 ⟨rfl, m1, rfl⟩)
            go_roundw
            case rel =>
              refine ⟨j2 + 1, by go_num, by omega, ?_, below_drewN hb _⟩
              have hs := HS.out
              rw [HD.out, List.all_cons, hst, Bool.true_and] at hs
              exact hs
            case measure => simp [intOf]; omega
          | false =>
            rw [hst] at cs
            have hRR : R = false := by
              have hs := HS.out
              rw [HD.out, List.all_cons, hst, Bool.false_and] at hs
              exact hs
            clear HS
            subst hRR
            go_wp2_with (go_at_call 39; refine (cs _ hb).mono ?_; rintro e w1 ⟨rfl, m1, rfl⟩)
            go_ret
            exact ⟨rfl, below_drewN hb _⟩
        · have hRR : R = true := by
            have hs := HS.out
            rw [show j2 = 12 by omega] at hs
            rw [hs]; rfl
          clear HS
          subst hRR
          go_wp2
          go_ret
          exact ⟨rfl, hb⟩

/-- Whether a word is a prime. -/
theorem is_calls (n : Int) (w : World) (hT : Tab w) (h0 : 0 ≤ n) (h2 : n < 18446744073709551616) :
    Calls Tryd.prog 30 #[.int .u64 n] w fun e w' => e = .returned (.bool (isP n.toNat)) ∧ Below w.heap.size w w' := by
  obtain ⟨m, rfl⟩ := Int.eq_ofNat_of_zero_le h0
  rw [Int.toNat_natCast]
  by_cases h : 2 ≤ m
  · exact is_high m w hT h (by omega)
  · refine (is_low m w (by omega)).mono fun _ _ ⟨he, hw⟩ => ⟨he.trans ?_, hw⟩
    unfold isP
    rw [if_pos (by omega)]
end Go.Proofs.YtmbbjoadnapcgaaDoor
