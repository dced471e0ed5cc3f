/- Whether a word is a prime, by its contract: what Miller and Rabin's test answers. -/
import Derived.Test.YtmbbjoadnapcgaaDoorNew
import Derived.Test.YtmbbjoadnapcgaaDoorNum
namespace Go.Proofs.YtmbbjoadnapcgaaDoor
open Go.RowKit VNum

theorem tzL_ctz : ∀ f n, tzL f n = Lib.ctzFrom f n
  | 0, _ => rfl
  | f + 1, n => by simp only [tzL, Lib.ctzFrom, tzL_ctz f]

def basesV : Value := .agg #[.int .u64 2, .int .u64 3, .int .u64 5, .int .u64 7, .int .u64 11, .int .u64 13, .int .u64 17, .int .u64 19, .int .u64 23, .int .u64 29, .int .u64 31, .int .u64 37]

theorem bases_calls (w : World) : Calls Tryd.prog 38 #[] w fun e w' => e = .returned basesV ∧ Below w.heap.size w w' := by
  go_enter Tryd.func38, Tryd.ntmps38
  go_wp2
  exact bodyPost_ret (v := basesV) (by simp [results, Tryd.results38, go_sem, basesV]) rfl ⟨rfl, (Below.refl _ _).alloc (Nat.le_refl _) _⟩

set_option maxHeartbeats 1000000 in
theorem strong_calls (n b k t : Nat) (w : World) (hT : Tab w) (h1 : 2 ≤ n) (h2 : n < 18446744073709551616) (h3 : b < 18446744073709551616) (hk : Hid (k = n - 1)) (e1 : (n : Int) - 1 = (k : Int)) (ht : Hid (t = tzL 64 k)) (ht63 : t ≤ 63) :
    Calls Tryd.prog 39 #[.int .u64 n, .int .u64 b] w fun e w' => e = .returned (.bool (strongB n b)) ∧ ∃ m, w' = w.drewN m := by
  have hn0 : ((n : Int) == 0) = false := beq_eq_false_iff_ne.mpr (by omega)
  have hk0 : Hid (k ≠ 0) := by show k ≠ 0; omega
  have eT : ∀ wx, (wx = w) → Calls Tryd.prog 43 #[.int .u64 k] wx fun e w' => e = .returned (.int .i64 t) ∧ wx = w' := by
    rintro wx rfl
    refine (tz64_calls k (by omega) _ hT).mono fun _ _ ⟨he, hw⟩ => ⟨he.trans ?_, hw⟩
    rw [ht.out, tzL_ctz]
    unfold Lib.ctz
    rw [if_neg hk0.out]
  have hbn := Nat.mod_lt b (show 0 < n by omega)
  obtain ⟨B0, hB0⟩ : ∃ B0, b % n = B0 := ⟨_, rfl⟩
  have e2 : (b : Int) % (n : Int) = (B0 : Int) := by rw [← hB0]; simp
  rw [hB0] at hbn
  have HB := Lib.hid hB0
  clear hB0
  obtain ⟨E0, hE0⟩ : ∃ E0, k / 2 ^ t = E0 := ⟨_, rfl⟩
  have e3 : (k : Int) / 2 ^ t = (E0 : Int) := by rw [← hE0]; simp
  have hEk : E0 ≤ k := by rw [← hE0]; exact Nat.div_le_self _ _
  have HE := Lib.hid hE0
  clear hE0
  obtain ⟨X, hX⟩ : ∃ X, powL n 64 E0 B0 1 = X := ⟨_, rfl⟩
  have HX := Lib.hid hX
  clear hX
  have hS : strongB n b = if X = 1 then true else sqs n t X := by
    unfold strongB
    rw [← hk.out, ← ht.out, HE.out, HB.out, HX.out]
  obtain ⟨S, hSS⟩ : ∃ S, S = strongB n b := ⟨_, rfl⟩
  rw [← hSS]
  rw [← hSS] at hS
  clear hSS
  have HS := Lib.hid hS
  clear hS
  go_enter Tryd.func39, Tryd.ntmps39
  go_wp2_with (go_at_call 43; refine (eT _ rfl).mono ?_; rintro e w' ⟨rfl, rfl⟩)
  go_quiet (fail)
  go_wp2
  go_loopw [6, 7, 8] (fun x b e w' => ∃ (X1 B1 E1 f : Nat), x = .int .u64 X1 ∧ b = .int .u64 B1 ∧ e = .int .u64 E1 ∧ X1 < n ∧ B1 < n ∧ E1 ≤ k ∧ Hid (E1 < 2 ^ f) ∧ Hid (powL n f E1 B1 X1 = X) ∧ ∃ m, w' = w.drewN m) (fun _ _ e _ => (intOf e).toNat)
  case atStart => exact ⟨1, B0, E0, 64, rfl, congrArg _ e2, rfl, by omega, hbn, hEk, by show E0 < 2 ^ 64; omega, HX, _, rfl⟩
  case round =>
    clear HX HE HB e2 e3
    obtain ⟨X1, B1, E1, f, rfl, rfl, rfl, hx, hb, hek, hef, HP, m, rfl⟩ := hrel
    by_cases hE : 0 < E1
    · have d0 : decide (0 < (E1 : Int)) = true := decide_eq_true (by omega)
      have hf : Hid (∃ f', f = f' + 1) := by
        cases f with
        | zero => exact absurd hef.out (by simp; omega)
        | succ f' => exact ⟨f', rfl⟩
      have hand := and_one_u64 (E1 : Int) (by omega) (by omega)
      by_cases hodd : E1 % 2 = 1
      · have e4 : bits .and .u64 (E1 : Int) 1 = 1 := by rw [hand]; omega
        clear hand
        have HO := Lib.hid hodd
        clear hodd
        go_wp2_with (go_at_call 44; refine (pmul_calls _ _ _ (by omega) (by omega) (by omega) (by omega) (by omega) (by omega) _).mono ?_; rintro e w' ⟨rfl, m1, rfl⟩)
        go_roundw
        case rel =>
          obtain ⟨f', rfl⟩ := hf.out
          refine ⟨X1 * B1 % n, B1 * B1 % n, E1 / 2, f', by simp, by simp, by go_num, Nat.mod_lt _ (by omega), Nat.mod_lt _ (by omega), by omega, ?_, ?_, _, rfl⟩
          · have := hef.out; show _ < _; rw [Nat.pow_succ] at this; omega
          · have := HP.out; rw [powL, if_neg (by omega), if_pos HO.out] at this; exact this
        case measure => simp [intOf]; omega
      · have e4 : bits .and .u64 (E1 : Int) 1 = 0 := by rw [hand]; omega
        clear hand
        have HO := Lib.hid hodd
        clear hodd
        go_wp2_with (go_at_call 44; refine (pmul_calls _ _ _ (by omega) (by omega) (by omega) (by omega) (by omega) (by omega) _).mono ?_; rintro e w' ⟨rfl, m1, rfl⟩)
        go_roundw
        case rel =>
          obtain ⟨f', rfl⟩ := hf.out
          refine ⟨X1, B1 * B1 % n, E1 / 2, f', rfl, by simp, by go_num, hx, Nat.mod_lt _ (by omega), by omega, ?_, ?_, _, rfl⟩
          · have := hef.out; show _ < _; rw [Nat.pow_succ] at this; omega
          · have := HP.out; rw [powL, if_neg (by omega), if_neg HO.out] at this; exact this
        case measure => simp [intOf]; omega
    · have d0 : decide (0 < (E1 : Int)) = false := decide_eq_false (by omega)
      have hXX : X1 = X := by
        rw [← HP.out, show E1 = 0 by omega]
        cases f <;> simp [powL]
      clear HP hef hek
      subst hXX
      by_cases hX1 : X1 = 1
      · have hSt : S = true := by rw [HS.out, if_pos hX1]
        clear HS
        subst hSt hX1
        go_wp2
        go_ret
        exact ⟨rfl, _, rfl⟩
      · have hSt : S = sqs n t X1 := by rw [HS.out, if_neg hX1]
        have HS2 := Lib.hid hSt
        clear HS hSt
        have d1 : ((X1 : Int) == 1) = false := beq_eq_false_iff_ne.mpr (by omega)
        go_wp2
        go_loopw [38, 6] (fun i x w' => ∃ (I X2 : Nat), i = .int .i64 I ∧ x = .int .u64 X2 ∧ I ≤ t ∧ X2 < n ∧ Hid (S = sqs n (t - I) X2) ∧ ∃ m, w' = w.drewN m) (fun i _ _ => t - (intOf i).toNat)
        case atStart => exact ⟨0, X1, rfl, rfl, by omega, hx, HS2, _, rfl⟩
        case round =>
          clear HS2 d1 hX1 hx
          obtain ⟨I, X2, rfl, rfl, hI, hx, HS, m, rfl⟩ := hrel
          by_cases hIt : I < t
          · by_cases hXk : X2 = k
            · have hSt : S = true := by
                rw [HS.out, show t - I = (t - I - 1) + 1 by omega, sqs, if_pos (by rw [hXk]; exact hk.out)]
              clear HS
              subst hSt hXk
              go_wp2
              go_ret
              exact ⟨rfl, _, rfl⟩
            · have hSt : S = sqs n (t - (I + 1)) (X2 * X2 % n) := by
                rw [HS.out, show t - I = (t - (I + 1)) + 1 by omega, sqs, if_neg (by rw [← hk.out]; exact hXk)]
              have HS2 := Lib.hid hSt
              clear HS hSt
              have d2 : ((X2 : Int) == (k : Int)) = false := beq_eq_false_iff_ne.mpr (by omega)
              go_wp2_with (go_at_call 44; refine (pmul_calls _ _ _ (by omega) (by omega) (by omega) (by omega) (by omega) (by omega) _).mono ?_; rintro e w' ⟨rfl, m1, rfl⟩)
              go_roundw
              case rel => exact ⟨I + 1, X2 * X2 % n, by go_num, by simp, by omega, Nat.mod_lt _ (by omega), HS2, _, rfl⟩
              case measure => simp [intOf]; omega
          · have hSt : S = false := by rw [HS.out, show t - I = 0 by omega, sqs]
            clear HS
            subst hSt
            go_wp2
            go_ret
            exact ⟨rfl, _, rfl⟩
end Go.Proofs.YtmbbjoadnapcgaaDoor
