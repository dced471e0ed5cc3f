/- The number of a row at a place, by a rule: by its contract. -/
import Derived.Test.YtmbbjoadnapcgaaDoorChar
namespace Go.Proofs.YtmbbjoadnapcgaaDoor
open Go.RowKit Go.Proofs.YtmbbjoadnapcgaaDoorW.PrintWords VNum

/-- the sum of the first k products -/
def farTo (m : Int) (x row : List Int) : Nat → Int
  | 0 => 0
  | k + 1 => (farTo m x row k + rn x k * rn row k) % m
theorem farTo_rng {m : Int} (hm : 0 < m) (x row : List Int) : ∀ k, 0 ≤ farTo m x row k ∧ farTo m x row k < m
  | 0 => ⟨Int.le_refl _, hm⟩
  | k + 1 => ⟨Int.emod_nonneg _ (by omega), Int.emod_lt_of_pos _ hm⟩
theorem charTo_u64 {m : Int} (hm : 0 < m) (h1 : m < 9223372036854775808) (r : List Int) : ∀ k, U64 (charTo m r k)
  | 0 => by
    rw [charTo]
    exact U64.set (fun x hx => by rw [(List.mem_replicate.1 hx).2]; decide) _ (by decide) (by decide)
  | k + 1 => by
    rw [charTo]
    exact (charTo_u64 hm h1 r k).set _ (Int.emod_nonneg _ (by omega)) (by have := Int.emod_lt_of_pos (rn r k) hm; omega)

set_option maxHeartbeats 4000000 in
set_option maxRecDepth 100000 in
theorem far_calls (p : Int) (A1 A2 : Option Addr) (c1 c2 : Nat) (r row : List Int) (n : Nat) (cc x : List Int) (w : World) (hT : Tab w) (h0 : 0 ≤ p) (h1 : p < 9223372036854775808) (h : isP p.toNat = true) (hr : Rc w A1 c1 r) (hrow : Rc w A2 c2 row) (hle : r.length ≤ row.length) (hl : r.length ≤ 15) (hrl : row.length ≤ 1000) (ur : U64 r) (urow : U64 row) (hn : (n : Int) < 18446744073709551616)
    (hcc : cc = charTo p r r.length) (ha0 : 0 < (normF p [0, 1]).length) (hb0 : 0 < (normF p cc).length) (hp : powF p (normF p cc) 64 n (divF p [1] (normF p cc)).2 (divF p (normF p [0, 1]) (normF p cc)).2 = some x) (hx : x.length ≤ row.length) (ux : U64 x) :
    Calls Tryd.prog 10 #[.int .u64 p, .slice A1 r.length c1, .slice A2 row.length c2, .int .u64 n] w fun e w' => e = .returned (.tuple #[.int .u64 (farTo p x row x.length), .int .i64 0]) ∧ Below w.heap.size w w' := by
  have h2 : 2 ≤ p := by have := isP_two h; omega
  have ucc : U64 cc := by rw [hcc]; exact charTo_u64 (by omega) h1 r _
  have lcc : cc.length ≤ 16 := by rw [hcc, charTo_len]; omega
  have CH := Lib.hid (char_calls p A1 c1 r w hT h0 h1 h hr (by omega) ur)
  rw [← hcc] at CH
  have CN : Hid (∀ W : World, Below w.heap.size w W → Calls Tryd.prog 26 #[.int .u64 p] W fun e w' => ∃ F a, e = .returned (.tuple #[.pointer (some F), .int .i64 0]) ∧ UF w' F a p ∧ Below W.heap.size W w') := Lib.hid (fun W hb => unew_calls p W (hT.kept hb) h0 h1 h)
  have CW : Hid (∀ W : World, Calls Tryd.prog 28 #[.int .u64 p] W fun e w' => ∃ a, e = .returned (.tuple #[.pointer (some a), .int .i64 0]) ∧ FA w' a p ∧ Below W.heap.size W w') := Lib.hid (fun W => (new_calls p W h2 h1).mono (by rintro e w' ⟨a, rfl, f1, f2, _⟩; exact ⟨a, rfl, f1, f2⟩))
  have CP : Hid (∀ (W : World) (F a : Addr) (A3 : Option Addr) (c3 : Nat), UF W F a p → Rc W A3 c3 cc → Calls Tryd.prog 27 #[.pointer (some F), .slice (some ⟨W.heap.size, 0, none⟩) 2 2, .int .u64 n, .slice A3 cc.length c3] (W.alloc (.cells #[.int .u64 0, .int .u64 1] 22)) fun e w' => ∃ A4 c4, e = .returned (.tuple #[.slice A4 x.length c4, .int .i64 0]) ∧ Rc w' A4 c4 x ∧ Below W.heap.size W w') := Lib.hid (fun W F a A3 c3 hF h3 => by
    have hk := below_alloc (Below.refl W.heap.size W) (.cells #[.int .u64 0, .int .u64 1] 22)
    have u01 : U64 [0, 1] := by
      intro y hy
      rcases List.mem_cons.1 hy with rfl | hy
      · decide
      · rw [List.mem_singleton.1 hy]; decide
    refine (powmod_calls F a p _ A3 2 c3 [0, 1] cc n x _ (hF.kept hk) h2 h1 (lit2 W 0 1) (h3.kept hk) (by simp) lcc u01 ucc hn ha0 hb0 hp).mono ?_
    rintro e w' ⟨A4, c4, rfl, hr4, hb4⟩
    exact ⟨A4, c4, rfl, hr4, hk.trans (hb4.mono hk.size)⟩)
  have HW := Lib.hid hrow
  have UW := Lib.hid urow
  have UX := Lib.hid ux
  have e1 : ¬ (row.length : Int) < (r.length : Int) := by omega
  have e2 := decide_eq_false e1
  clear hT h hr hrow ur urow hcc ha0 hb0 hp ucc lcc ux e1 hn
  go_enter Tryd.func10, Tryd.ntmps10
  go_wp2_with (first
    | (go_at_call 25; with_reducible refine CH.out.mono ?_; rintro e w1 ⟨A3, c3, rfl, hr3, hb3⟩; have HR3 := Lib.hid hr3; have HB3 := Lib.hid hb3; clear hr3 hb3)
    | (go_at_call 26; with_reducible refine (CN.out _ HB3.out).mono ?_; rintro e w2 ⟨F, a, rfl, hf4, hb4⟩; have HF4 := Lib.hid hf4; have HB4 := Lib.hid (HB3.out.trans (hb4.mono HB3.out.size)); have HR4 := Lib.hid (HR3.out.kept hb4); clear hf4 hb4)
    | (go_at_call 27; with_reducible refine (CP.out _ F a A3 c3 HF4.out HR4.out).mono ?_; rintro e w3 ⟨A5, c5, rfl, hr5, hb5⟩; have HR5 := Lib.hid hr5; have HB5 := Lib.hid (HB4.out.trans (hb5.mono HB4.out.size)); clear hr5 hb5)
    | (go_at_call 28; with_reducible refine (CW.out _).mono ?_; rintro e w4 ⟨b, rfl, hf6, hb6⟩; have HF6 := Lib.hid hf6; have HB6 := Lib.hid (HB5.out.trans (hb6.mono HB5.out.size)); have HR6 := Lib.hid (HR5.out.kept hb6); clear hf6 hb6))
  have HW6 := Lib.hid (HW.out.kept HB6.out)
  go_loopw [15, 16, 17, 60] (fun v15 _ _ v60 W => ∃ k : Nat, v60 = .int .i64 k ∧ k ≤ x.length ∧ v15 = .int .u64 (farTo p x row k) ∧ ∃ n, W = w4.drewN n) (fun _ _ _ v60 _ => x.length - (intOf v60).toNat)
  case atStart => exact ⟨0, rfl, by omega, rfl, 0, rfl⟩
  case round =>
    clear CH CN CW CP HR5 HB5 HR4 HF4 HB4 HR3 HB3 HW
    obtain ⟨k, rfl, hk, rfl, n2, rfl⟩ := hrel
    obtain ⟨s0, s1⟩ := farTo_rng (m := p) (by omega) x row k
    have HS : Hid (farTo p x row (k + 1) = (farTo p x row k + rn x k * rn row k) % p) := Lib.hid rfl
    by_cases hkl : k < x.length
    · generalize farTo p x row k = S at *
      obtain ⟨ad, rfl, hc1⟩ := HR6.out.get k hkl
      obtain ⟨ad2, rfl, hc2⟩ := HW6.out.get k (by omega)
      obtain ⟨x0, x1⟩ := UX.out.rng k
      obtain ⟨y0, y1⟩ := UW.out.rng k
      have m0 : 0 ≤ rn x k * rn row k % p := Int.emod_nonneg _ (by omega)
      have HKL : Hid (k + 1 ≤ x.length) := Lib.hid (Nat.succ_le_of_lt hkl)
      have HKM := Lib.hid (ms_suc hkl)
      have i1 : (k : Int) < (x.length : Int) := by omega
      have i2 : (k : Int) < (row.length : Int) := by omega
      have i3 : (0 : Int) ≤ (k : Int) := by omega
      go_wp2_with (first
        | (go_at_call 16; refine (mul_calls b p _ _ _ (FA.drewN HF6.out _) h2 h1 x0 y0).mono ?_; rintro e w' ⟨rfl, n3, rfl⟩)
        | (go_at_call 29; refine (add_calls b p _ _ _ (FA.drewN HF6.out _) h2 h1 s0 m0).mono ?_; rintro e w' ⟨rfl, n4, rfl⟩))
      go_roundw
      case rel => exact ⟨k + 1, rfl, HKL.out, by rw [HS.out], _, rfl⟩
      case measure =>
        simp only [intOf]
        exact HKM.out
    · have hkk : k = x.length := by omega
      subst hkk
      go_wp2
      go_ret2
      exact ⟨rfl, below_drewN HB6.out _⟩
end Go.Proofs.YtmbbjoadnapcgaaDoor
