/- RecurFinds: the walk, by cases (in work). -/
import Derived.Test.YtmbbjoadnapcgaaDoorAwake
import Derived.Test.YtmbbjoadnapcgaaDoorHolds
import Derived.Test.YtmbbjoadnapcgaaDoorPlain1
namespace Go.Proofs.YtmbbjoadnapcgaaDoor
open Go.RowKit Go.Proofs.YtmbbjoadnapcgaaDoorW.PrintWords VNum

set_option maxHeartbeats 1000000 in
theorem law_long (p : Int) (A : Option Addr) (c : Nat) (row : List Int) (w : World) (hT : Tab w) (hl : 24 < row.length) :
    Calls Tryd.prog 3 #[.int .u64 p, .slice A row.length c] w fun e w' => e = .returned (.bool true) ∧ Below w.heap.size w w' := by
  have C := Lib.hid (awake_calls w hT)
  clear hT
  go_enter Tryd.func3, Tryd.ntmps3
  go_wp2_with (go_at_call 4; with_reducible refine C.out.mono ?_; rintro e w' ⟨rfl, hb⟩)
  go_ret
  exact ⟨rfl, hb⟩

set_option maxHeartbeats 1000000 in
theorem law_none (p : Int) (A : Option Addr) (c : Nat) (row : List Int) (w : World) (hT : Tab w) (hl : row.length ≤ 24) (h0 : 0 ≤ p) (h1 : p < 18446744073709551616) (h : 9223372036854775808 ≤ p ∨ isP p.toNat = false) (hna : ¬ Asked p.toNat) :
    Calls Tryd.prog 3 #[.int .u64 p, .slice A row.length c] w fun e w' => e = .returned (.bool true) ∧ Below w.heap.size w w' := by
  have CF := Lib.hid (find_none p A c row w hT h0 h1 h)
  have CA := Lib.hid (fun W (hb : Below w.heap.size w W) => awake_calls W (hT.kept hb))
  have CP : Hid (∀ W : World, Calls Tryd.prog 6 #[.int .u64 p] W fun e w' => e = .returned (.bool false) ∧ ∃ m, w' = W.drewN m) := Lib.hid (fun W => (rprime_calls p W h0).mono (by
    rintro e w' ⟨b, rfl, hb, hm⟩
    cases b with
    | false => exact ⟨rfl, hm⟩
    | true => exact absurd (hb.1 rfl) hna))
  clear hT h hna
  go_enter Tryd.func3, Tryd.ntmps3
  go_wp2_with (first
    | (go_at_call 5; with_reducible refine CF.out.mono ?_; rintro e w1 ⟨rfl, hb1⟩; have HB1 := Lib.hid hb1; clear hb1)
    | (go_at_call 6; with_reducible refine (CP.out w1).mono ?_; rintro e w2 ⟨rfl, m2, rfl⟩; have HB2 := Lib.hid (below_drewN HB1.out m2))
    | (go_at_call 4; with_reducible refine (CA.out _ HB2.out).mono ?_; rintro e w3 ⟨rfl, hb3⟩; have HB3 := Lib.hid (HB2.out.trans (hb3.mono HB2.out.size)); clear hb3))
  all_goals (go_ret; exact ⟨rfl, HB3.out⟩)

set_option maxHeartbeats 1000000 in
theorem law_other (p : Int) (A : Option Addr) (c : Nat) (row : List Int) (w : World) (hT : Tab w) (hl : row.length ≤ 24) (h0 : 100000 < p) (h1 : p < 9223372036854775808) (h : isP p.toNat = true) (hna : ¬ Asked p.toNat) (hrow : Rc w A c row) (ur : U64 row) :
    Calls Tryd.prog 3 #[.int .u64 p, .slice A row.length c] w fun e w' => e = .returned (.bool true) ∧ Below w.heap.size w w' := by
  have CF := Lib.hid (find_calls p A c row w hT (by omega) h1 h hrow (by omega) ur)
  have CA := Lib.hid (fun W (hb : Below w.heap.size w W) => awake_calls W (hT.kept hb))
  have CP : Hid (∀ W : World, Calls Tryd.prog 6 #[.int .u64 p] W fun e w' => e = .returned (.bool false) ∧ ∃ m, w' = W.drewN m) := Lib.hid (fun W => (rprime_calls p W (by omega)).mono (by
    rintro e w' ⟨b, rfl, hb, hm⟩
    cases b with
    | false => exact ⟨rfl, hm⟩
    | true => exact absurd (hb.1 rfl) hna))
  have g1 : decide (100000 < p) = true := decide_eq_true h0
  have g2 : decide (p < 9223372036854775808) = true := decide_eq_true h1
  clear hT h hna hrow ur
  go_enter Tryd.func3, Tryd.ntmps3
  go_wp2_with (first
    | (go_at_call 5; with_reducible refine CF.out.mono ?_; rintro e w1 ⟨A1, c1, rfl, _, hb1⟩; have HB1 := Lib.hid hb1; clear hb1)
    | (go_at_call 6; with_reducible refine (CP.out w1).mono ?_; rintro e w2 ⟨rfl, m2, rfl⟩; have HB2 := Lib.hid (below_drewN HB1.out m2))
    | (go_at_call 4; with_reducible refine (CA.out _ HB2.out).mono ?_; rintro e w3 ⟨rfl, hb3⟩; have HB3 := Lib.hid (HB2.out.trans (hb3.mono HB2.out.size)); clear hb3))
  go_ret
  exact ⟨rfl, HB3.out⟩
end Go.Proofs.YtmbbjoadnapcgaaDoor
