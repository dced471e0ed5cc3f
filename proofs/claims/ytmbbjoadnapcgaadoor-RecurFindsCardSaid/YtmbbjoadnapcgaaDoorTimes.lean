/- The product of two short polynomials, and the same without coefficients 0 at its end: by their contracts. -/
import Derived.Test.YtmbbjoadnapcgaaDoorOne
namespace Go.Proofs.YtmbbjoadnapcgaaDoor
open Go.RowKit Go.Proofs.YtmbbjoadnapcgaaDoorW.PrintWords VNum

set_option maxHeartbeats 1000000 in
set_option maxRecDepth 100000 in
theorem half_short (F a : Addr) (p : Int) (A1 A2 : Option Addr) (c1 c2 : Nat) (la lb : List Int) (w : World) (hF : UF w F a p) (h2 : 2 ≤ p) (h1 : p < 9223372036854775808) (hra : Rc w A1 c1 la) (hrb : Rc w A2 c2 lb) (hla : la.length ≤ 16) (hlb : lb.length ≤ 16) (ula : U64 la) (ulb : U64 lb) :
    Calls Tryd.prog 42 #[.pointer (some F), .slice A1 la.length c1, .slice A2 lb.length c2] w fun e w' => ∃ A' c', e = .returned (.slice A' (oneF p la lb).length c') ∧ Rc w' A' c' (oneF p la lb) ∧ Below w.heap.size w w' := by
  have c := Lib.hid (one_calls F a p A1 A2 c1 c2 la lb w hF h2 h1 hra hrb (by omega) (by omega) ula ulb)
  obtain ⟨M, hM⟩ : ∃ M, M = max la.length lb.length := ⟨_, rfl⟩
  have eM : max (la.length : Int) (lb.length : Int) = (M : Int) := by omega
  have i1 : (M : Int) ≤ 16 := by omega
  have i2 : decide ((M : Int) ≤ 16) = true := decide_eq_true i1
  clear hF hra hrb ula ulb hM
  go_enter Tryd.func42, Tryd.ntmps42
  go_wp2_with (go_at_call 46; refine c.out.mono ?_; rintro e w4 ⟨A5, c5, rfl, hr5, hb5⟩)
  go_ret
  exact ⟨A5, c5, rfl, hr5, hb5⟩

theorem times_short (F a : Addr) (p : Int) (A1 A2 : Option Addr) (c1 c2 : Nat) (la lb : List Int) (w : World) (hF : UF w F a p) (h2 : 2 ≤ p) (h1 : p < 9223372036854775808) (hra : Rc w A1 c1 la) (hrb : Rc w A2 c2 lb) (hla : la.length ≤ 16) (hlb : lb.length ≤ 16) (ula : U64 la) (ulb : U64 lb) :
    Calls Tryd.prog 37 #[.pointer (some F), .slice A1 la.length c1, .slice A2 lb.length c2] w fun e w' => ∃ A' c', e = .returned (.slice A' (trimF (oneF p la lb)).length c') ∧ Rc w' A' c' (trimF (oneF p la lb)) ∧ Below w.heap.size w w' := by
  have c := Lib.hid (half_short F a p A1 A2 c1 c2 la lb w hF h2 h1 hra hrb hla hlb ula ulb)
  have hL : (oneF p la lb).length ≤ 1000000 := by
    unfold oneF
    split
    · simp
    · rw [oneTo_len]; omega
  have HL := Lib.hid hL
  clear hF hra hrb ula ulb hL
  go_enter Tryd.func37, Tryd.ntmps37
  go_wp2_with (first
    | (go_at_call 42; refine c.out.mono ?_; rintro e w4 ⟨A5, c5, rfl, hr5, hb5⟩; have HR5 := Lib.hid hr5; have HB5 := Lib.hid hb5; clear hr5 hb5)
    | (go_at_call 41; refine (trim_calls A5 c5 _ w4 HR5.out HL.out).mono ?_; rintro e w5 ⟨A6, c6, rfl, hr6, n6, rfl⟩))
  go_ret
  exact ⟨A6, c6, rfl, hr6, below_drewN HB5.out _⟩
end Go.Proofs.YtmbbjoadnapcgaaDoor
