/- RecurFinds: a prime that is asked, and the whole law, by its contract. -/
import Derived.Test.YtmbbjoadnapcgaaDoorLaw
import Derived.Test.YtmbbjoadnapcgaaDoorSolves
namespace Go.Proofs.YtmbbjoadnapcgaaDoor
open Go.RowKit Go.Proofs.YtmbbjoadnapcgaaDoorW.PrintWords VNum VBm

set_option maxHeartbeats 4000000 in
theorem law_asked (q : Nat) (p : Int) (hpq : p = (q : Int)) (hq : Asked q) (A : Option Addr) (c : Nat) (row : List Int) (w : World) (hT : Tab w) (hl : row.length ≤ 24) (hrow : Rc w A c row) (ur : U64 row) :
    Calls Tryd.prog 3 #[.int .u64 p, .slice A row.length c] w fun e w' => e = .returned (.bool true) ∧ Below w.heap.size w w' := by
  have hpr := asked_pr hq
  have h2 : 2 ≤ p := by have := hpr.1; omega
  have h1 : p < 9223372036854775808 := by have := asked_lt hq; omega
  haveI : NeZero q := ⟨by have := hpr.1; omega⟩
  have hto : p.toNat = q := by omega
  have hok := findTo_ok (m := p) (by omega) row row.length
  have hml := hok.le
  have hmd := hok.now
  have CF := Lib.hid (find_calls p A c row w hT (by omega) h1 (by rw [hto]; exact asked_isP hq) hrow (by omega) ur)
  have HH : Hid (holdsF p (findTo p row row.length).now row = true) := Lib.hid (by subst hpq; exact found_holds hpr row)
  have HLEAST : Hid (∀ n, n < (findTo p row row.length).now.length → ¬ ∃ R : Nat → Fin q, Hd (fr q row) R n row.length) := Lib.hid (fun n hn ⟨R, hR⟩ => by
    subst hpq
    have := found_least hpr row hR
    omega)
  obtain ⟨r, hr⟩ : ∃ r, r = (findTo p row row.length).now := ⟨_, rfl⟩
  rw [← hr] at hml hmd CF HH HLEAST
  have CA := Lib.hid (fun W (hb : Below w.heap.size w W) => awake_calls W (hT.kept hb))
  have CP : Hid (∀ W : World, Calls Tryd.prog 6 #[.int .u64 p] W fun e w' => e = .returned (.bool true) ∧ ∃ m, w' = W.drewN m) := Lib.hid (fun W => (rprime_calls p W (by omega)).mono (by
    rintro e w' ⟨b, rfl, hb, hm⟩
    cases b with
    | true => exact ⟨rfl, hm⟩
    | false => exact absurd (hb.2 (by rw [hto]; exact hq)) (by decide)))
  have CH : Hid (∀ (W : World) (A1 : Option Addr) (c1 : Nat), Rc W A1 c1 r → Below w.heap.size w W → Calls Tryd.prog 7 #[.slice A1 r.length c1, .slice A row.length c, .int .u64 p] W fun e w' => e = .returned (.bool true) ∧ ∃ n, w' = W.drewN n) := Lib.hid (fun W A1 c1 h3 h4 => by
    have := holds_calls p A1 A c1 c r row W h2 h1 h3 (hrow.kept h4) (by omega) (by omega) (hmd.u64 h1) ur
    rw [HH.out] at this
    exact this)
  have CS : Hid (∀ (W : World) (n : Nat), n < r.length → Below w.heap.size w W → Calls Tryd.prog 8 #[.int .i64 n, .slice A row.length c, .int .u64 p] W fun e w' => e = .returned (.bool false) ∧ Below w.heap.size w w') := Lib.hid (fun W n h3 h4 => by
    refine (solves_calls q p hpq hpr h1 n A c row W (hrow.kept h4) hl (by omega) ur).mono ?_
    rintro e w' ⟨b, rfl, hb, hw⟩
    cases b with
    | false => exact ⟨rfl, h4.trans (hw.mono h4.size)⟩
    | true => exact absurd (hb rfl) (HLEAST.out n h3))
  have ib : (row.length : Int) ≤ 24 := by omega
  have il : (r.length : Int) ≤ 24 := by omega
  clear hT hpq hq hpr hto hok hmd hrow ur HH HLEAST hr hml
  go_enter Tryd.func3, Tryd.ntmps3
  go_wp2_with (first
    | (go_at_call 5; with_reducible refine CF.out.mono ?_; rintro e w1 ⟨A1, c1, rfl, hr1, hb1⟩; have HB1 := Lib.hid hb1; have HR1 := Lib.hid hr1; clear hb1 hr1)
    | (go_at_call 6; with_reducible refine (CP.out w1).mono ?_; rintro e w2 ⟨rfl, m2, rfl⟩; have HB2 := Lib.hid (below_drewN HB1.out m2))
    | (go_at_call 7; with_reducible refine (CH.out _ A1 c1 (HR1.out.drewN _) (below_drewN HB1.out _)).mono ?_; rintro e w3 ⟨rfl, m3, rfl⟩; have HB3 := Lib.hid (below_drewN HB2.out m3)))
  go_loopw [7] (fun v7 W => ∃ k : Nat, v7 = .int .i64 k ∧ k ≤ r.length ∧ Hid (Below w.heap.size w W)) (fun v7 _ => r.length - (intOf v7).toNat)
  case atStart => exact ⟨0, rfl, by omega, Lib.hid (below_drewN HB1.out _)⟩
  case round =>
    clear HB3
    obtain ⟨W, rfl⟩ : ∃ W : World, W = wr := ⟨_, rfl⟩
    obtain ⟨k, rfl, hk, hbw⟩ := hrel
    by_cases hkr : k < r.length
    · have HKL : Hid (k + 1 ≤ r.length) := Lib.hid (Nat.succ_le_of_lt hkr)
      have HKM := Lib.hid (ms_suc hkr)
      have kb : k ≤ 20000 := by omega
      have i1 : (k : Int) < (r.length : Int) := by omega
      have cs := Lib.hid (CS.out W k hkr hbw.out)
      go_wp2_with (go_at_call 8; with_reducible refine cs.out.mono ?_; rintro e w4 ⟨rfl, hb4⟩; have HB4 := Lib.hid hb4; clear hb4)
      go_roundw
      case rel => exact ⟨k + 1, by first | rfl | (rw [wr_suc k kb]; rfl), HKL.out, HB4⟩
      case measure =>
        simp only [intOf]
        first | exact HKM.out | (rw [wr_suc k kb]; exact HKM.out)
    · have hkk : k = r.length := by omega
      subst hkk
      have ca := Lib.hid (CA.out W hbw.out)
      go_wp2_with (go_at_call 4; with_reducible refine ca.out.mono ?_; rintro e w4 ⟨rfl, hb4⟩; have HB4 := Lib.hid (hbw.out.trans (hb4.mono hbw.out.size)); clear hb4)
      go_ret
      exact ⟨rfl, HB4.out⟩

/-- The whole law: it returns true, and leaves what was there as it was. -/
theorem law_calls (p : Int) (A : Option Addr) (c : Nat) (row : List Int) (w : World) (hT : Tab w) (h0 : 0 ≤ p) (h1 : p < 18446744073709551616) (hrow : Rc w A c row) (ur : U64 row) :
    Calls Tryd.prog 3 #[.int .u64 p, .slice A row.length c] w fun e w' => e = .returned (.bool true) ∧ Below w.heap.size w w' := by
  by_cases hl : row.length ≤ 24
  · by_cases ha : Asked p.toNat
    · exact law_asked p.toNat p (by omega) ha A c row w hT hl hrow ur
    · by_cases hb : 9223372036854775808 ≤ p
      · exact law_none p A c row w hT hl h0 h1 (Or.inl hb) ha
      · cases hp : isP p.toNat with
        | false => exact law_none p A c row w hT hl h0 h1 (Or.inr hp) ha
        | true =>
          rcases Int.lt_or_le 100000 p with h3 | h3
          · exact law_other p A c row w hT hl h3 (by omega) hp ha hrow ur
          · have := not_asked_isP (n := p.toNat) (by omega) ha
            rw [this] at hp
            exact absurd hp (by decide)
  · exact law_long p A c row w hT (by omega)
end Go.Proofs.YtmbbjoadnapcgaaDoor
