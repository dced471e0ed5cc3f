/- The reference's next number and whether a row goes on by a rule: by their contracts. -/
import Derived.Test.YtmbbjoadnapcgaaDoorRefPow
import Derived.Test.YtmbbjoadnapcgaaDoorTrim
namespace Go.Proofs.YtmbbjoadnapcgaaDoor
open Go.RowKit Go.Proofs.YtmbbjoadnapcgaaDoorW.PrintWords VNum

/-- the sum that the number behind a row of n numbers is less -/
def nextTo (m : Int) (r row : List Int) (n : Nat) : Nat → Int
  | 0 => 0
  | k + 1 => (nextTo m r row n k + rn r k * rn row (n - 1 - k)) % m
theorem nextTo_rng {m : Int} (hm : 0 < m) (r row : List Int) (n : Nat) : ∀ k, 0 ≤ nextTo m r row n k ∧ nextTo m r row n k < m
  | 0 => ⟨Int.le_refl _, hm⟩
  | k + 1 => ⟨Int.emod_nonneg _ (by omega), Int.emod_lt_of_pos _ hm⟩

set_option maxHeartbeats 1000000 in
theorem next_calls (m : Int) (A1 A2 : Option Addr) (c1 c2 : Nat) (r row : List Int) (w : World) (h1 : 2 ≤ m) (h2 : m < 9223372036854775808) (hr : Rc w A1 c1 r) (hrow : Rc w A2 c2 row) (hle : r.length ≤ row.length) (hb : row.length ≤ 100000) (ur : U64 r) (urow : U64 row) :
    Calls Tryd.prog 20 #[.slice A1 r.length c1, .slice A2 row.length c2, .int .u64 m] w fun e w' => e = .returned (.int .u64 ((0 - nextTo m r row row.length r.length) % m)) ∧ ∃ n, w' = w.drewN n := by
  have HR := Lib.hid hr
  have HW := Lib.hid hrow
  have UR := Lib.hid ur
  have UW := Lib.hid urow
  have ib : (row.length : Int) ≤ 100000 := by omega
  clear hr hrow ur urow hb
  go_enter Tryd.func20, Tryd.ntmps20
  go_wp2
  go_loopw [7, 8] (fun s i w' => ∃ k : Nat, i = .int .i64 k ∧ k ≤ r.length ∧ s = .int .u64 (nextTo m r row row.length k) ∧ ∃ n, w' = w.drewN n) (fun _ i _ => r.length - (intOf i).toNat)
  case atStart => exact ⟨0, rfl, by omega, rfl, 0, rfl⟩
  case round =>
    obtain ⟨k, rfl, hk, rfl, n2, rfl⟩ := hrel
    obtain ⟨s0, s1⟩ := nextTo_rng (m := m) (by omega) r row row.length k
    have HS : Hid (nextTo m r row row.length (k + 1) = (nextTo m r row row.length k + rn r k * rn row (row.length - 1 - k)) % m) := Lib.hid rfl
    by_cases hkr : k < r.length
    · generalize nextTo m r row row.length k = S at *
      obtain ⟨ad1, rfl, hc1⟩ := HR.out.get k hkr
      obtain ⟨j, hj⟩ : ∃ j, j = row.length - 1 - k := ⟨_, rfl⟩
      have ej : (row.length : Int) - 1 - (k : Int) = (j : Int) := by omega
      have hjl : j < row.length := by omega
      rw [← hj] at HS
      clear hj
      obtain ⟨ad2, rfl, hc2⟩ := HW.out.get j hjl
      obtain ⟨p0, p1⟩ := UR.out.rng k
      obtain ⟨q0, q1⟩ := UW.out.rng j
      have pq := Int.emod_nonneg (rn r k * rn row j) (show m ≠ 0 by omega)
      have HKL : Hid (k + 1 ≤ r.length) := Lib.hid (Nat.succ_le_of_lt hkr)
      have HKM := Lib.hid (ms_suc hkr)
      have i1 : (k : Int) < (r.length : Int) := by omega
      have i2 : (j : Int) < (row.length : Int) := by omega
      have i3 : (0 : Int) ≤ (k : Int) := by omega
      have i4 : (0 : Int) ≤ (j : Int) := by omega
      go_wp2
      go_quiet ((first
        | (go_at_call 23; exact quiet_more (rmul_calls m _ _ _ (by omega) h2 p0 q0))
        | (go_at_call 33; exact quiet_more (radd_calls m _ _ _ (by omega) h2 s0 pq))))
      go_wp2
      go_roundw
      case rel => exact ⟨k + 1, rfl, HKL.out, by rw [HS.out]; simp, _, rfl⟩
      case measure =>
        simp only [intOf]
        exact HKM.out
    · have hkk : k = r.length := by omega
      subst hkk
      go_wp2_with (go_at_call 21; refine (rsub_calls m 0 _ _ (by omega) h2 (by omega) s0).mono ?_; rintro e w' ⟨rfl, n3, rfl⟩)
      go_ret
      exact ⟨by simp, _, rfl⟩

/-- does a row go on by a rule, from place i on, for k numbers -/
def holdsF (m : Int) (r row : List Int) : Bool :=
  (List.range row.length).all fun i => decide (i < r.length) || decide ((0 - nextTo m r row i r.length) % m = rn row i % m)
theorem rn_take (l : List Int) {j n : Nat} (h : j < n) : rn (l.take n) j = rn l j := by
  unfold rn
  rw [List.getD_eq_getElem?_getD, List.getD_eq_getElem?_getD, List.getElem?_take_of_lt h]
theorem nextTo_take (m : Int) (r row : List Int) (n : Nat) (h0 : 0 < n) : ∀ k, nextTo m r (row.take n) n k = nextTo m r row n k
  | 0 => rfl
  | k + 1 => by rw [nextTo, nextTo, nextTo_take m r row n h0 k, rn_take row (by omega)]
theorem holds_true {m : Int} {r row : List Int} (h : ∀ i, r.length ≤ i → i < row.length → (0 - nextTo m r row i r.length) % m = rn row i % m) : holdsF m r row = true := by
  unfold holdsF
  rw [List.all_eq_true]
  intro i hi
  have hi2 := List.mem_range.1 hi
  by_cases hl : i < r.length
  · simp [hl]
  · have := h i (by omega) hi2
    simp [← this]
theorem holds_false {m : Int} {r row : List Int} {i : Nat} (h0 : r.length ≤ i) (h1 : i < row.length) (h : ¬ (0 - nextTo m r row i r.length) % m = rn row i % m) : holdsF m r row = false := by
  unfold holdsF
  rw [List.all_eq_false]
  refine ⟨i, List.mem_range.2 h1, ?_⟩
  have e1 : decide (i < r.length) = false := decide_eq_false (by omega)
  rw [e1, Bool.false_or, decide_eq_false h]
  decide

set_option maxHeartbeats 1000000 in
theorem holds_calls (m : Int) (A1 A2 : Option Addr) (c1 c2 : Nat) (r row : List Int) (w : World) (h1 : 2 ≤ m) (h2 : m < 9223372036854775808) (hr : Rc w A1 c1 r) (hrow : Rc w A2 c2 row) (hrb : r.length ≤ 100000) (hb : row.length ≤ 100000) (ur : U64 r) (urow : U64 row) :
    Calls Tryd.prog 7 #[.slice A1 r.length c1, .slice A2 row.length c2, .int .u64 m] w fun e w' => e = .returned (.bool (holdsF m r row)) ∧ ∃ n, w' = w.drewN n := by
  have HR := Lib.hid hr
  have HW := Lib.hid hrow
  have UR := Lib.hid ur
  have UW := Lib.hid urow
  have hm0 : (m == 0) = false := beq_eq_false_iff_ne.mpr (by omega)
  have ib : (row.length : Int) ≤ 100000 := by omega
  have ir : (r.length : Int) ≤ 100000 := by omega
  have HLB := Lib.hid hb
  have hcap := hrow.2
  clear hr hrow ur urow hb hrb
  go_enter Tryd.func7, Tryd.ntmps7
  go_wp2
  go_loopw [7] (fun i w' => ∃ k : Nat, i = .int .i64 k ∧ r.length ≤ k ∧ (k ≤ row.length ∨ k = r.length) ∧ Hid (∀ i, r.length ≤ i → i < k → (0 - nextTo m r row i r.length) % m = rn row i % m) ∧ ∃ n, w' = w.drewN n) (fun i _ => row.length + r.length - (intOf i).toNat)
  case atStart => exact ⟨r.length, rfl, Nat.le_refl _, Or.inr rfl, Lib.hid (fun i ha hb => by omega), 0, rfl⟩
  case round =>
    obtain ⟨k, rfl, hk, hk2, hall, n2, rfl⟩ := hrel
    by_cases hkr : k < row.length
    · obtain ⟨ad, rfl, hc1⟩ := HW.out.get k hkr
      obtain ⟨u0, u1⟩ := UW.out.rng k
      have ht := HW.out.take k (by omega)
      have hlt : (row.take k).length = k := by rw [List.length_take]; omega
      have ut : U64 (row.take k) := fun x hx => UW.out x (List.mem_of_mem_take hx)
      have hnx := Lib.hid (fun n => next_calls m A1 (some ad) c1 c2 r (row.take k) (w.drewN n) h1 h2 (HR.out.drewN n) (ht.drewN n) (by rw [hlt]; exact hk) (by rw [hlt]; have := HLB.out; omega) UR.out ut)
      rw [hlt] at hnx
      have hte : nextTo m r (row.take k) k r.length = nextTo m r row k r.length := by
        rcases Nat.eq_zero_or_pos k with h0 | h0
        · have hr0 : r.length = 0 := by omega
          rw [hr0]; rfl
        · exact nextTo_take m r row k h0 _
      rw [hte] at hnx
      obtain ⟨nx, hnxe⟩ : ∃ nx, nx = (0 - nextTo m r row k r.length) % m := ⟨_, rfl⟩
      rw [← hnxe] at hnx
      have HNX := Lib.hid hnxe
      have HKL : Hid (k + 1 ≤ row.length) := Lib.hid (Nat.succ_le_of_lt hkr)
      have HKM : Hid (row.length + r.length - ((k : Int) + 1).toNat < row.length + r.length - (k : Int).toNat) := Lib.hid (by omega)
      have i1 : (k : Int) < (row.length : Int) := by omega
      have i3 : (0 : Int) ≤ (k : Int) := by omega
      clear ht hlt ut hte hnxe
      by_cases heq : nx = rn row k % m
      · have ht1 : (nx != rn row k % m) = false := by rw [heq]; simp
        have HE := Lib.hid heq
        clear heq
        go_wp2
        go_quiet ((first | (go_at_call 20; exact quiet_more (hnx.out _))))
        go_wp2
        go_roundw
        case rel =>
          refine ⟨k + 1, rfl, by omega, Or.inl HKL.out, Lib.hid (fun i ha hb => ?_), _, rfl⟩
          rcases Nat.lt_or_ge i k with hi | hi
          · exact hall.out i ha hi
          · obtain rfl : i = k := by omega
            rw [← HNX.out]; exact HE.out
        case measure =>
          simp only [intOf]
          exact HKM.out
      · have ht1 : (nx != rn row k % m) = true := bne_iff_ne.mpr heq
        have HF := Lib.hid (holds_false (m := m) hk hkr (by rw [← HNX.out]; exact heq))
        clear heq
        go_wp2
        go_quiet ((first | (go_at_call 20; exact quiet_more (hnx.out _))))
        go_wp2
        go_ret
        rw [HF.out]
        exact ⟨rfl, _, World.drewN_drewN _ _ _⟩
    · have HT := Lib.hid (holds_true (m := m) (r := r) (row := row) (fun i ha hb => hall.out i ha (by omega)))
      have ik : ¬ (k : Int) < (row.length : Int) := by omega
      go_wp2
      go_ret
      rw [HT.out]
      exact ⟨rfl, _, rfl⟩
end Go.Proofs.YtmbbjoadnapcgaaDoor
