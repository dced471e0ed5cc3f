/- A rule's polynomial: by its contract. -/
import Derived.Test.YtmbbjoadnapcgaaDoorPowMod
namespace Go.Proofs.YtmbbjoadnapcgaaDoor
open Go.RowKit Go.Proofs.YtmbbjoadnapcgaaDoorW.PrintWords VNum

/-- the polynomial, its coefficients of the rule's first k numbers laid -/
def charTo (m : Int) (r : List Int) : Nat → List Int
  | 0 => (List.replicate (r.length + 1) 0).set r.length 1
  | k + 1 => (charTo m r k).set (r.length - 1 - k) (rn r k % m)
theorem charTo_len (m : Int) (r : List Int) : ∀ k, (charTo m r k).length = r.length + 1
  | 0 => by rw [charTo, List.length_set, List.length_replicate]
  | k + 1 => by rw [charTo, List.length_set, charTo_len m r k]

theorem char_start (W : World) (n N : Nat) (hN : N ≤ 1000000) : Ow (W.alloc (.cells ((madeCells #[.int .u64 0] N).setIfInBounds n (.int .u64 1)) 22)) W.heap.size (.slice (some ⟨W.heap.size, 0, none⟩) ((List.replicate N (0 : Int)).set n 1).length N) ((List.replicate N 0).set n 1) := by
  have hl : ((List.replicate N (0 : Int)).set n 1).length = N := by simp
  have h := Ow.of_block (W := W.alloc (.cells ((madeCells #[.int .u64 0] N).setIfInBounds n (.int .u64 1)) 22)) (b := W.heap.size) (g := W.heap.size) (l := (List.replicate N (0 : Int)).set n 1) (cs := (List.replicate N (Value.int .u64 0)).set n (.int .u64 1)) (by rw [madeU, List.setIfInBounds_toArray]; exact heap_alloc_new W _) (by simp [List.map_set]) (Nat.le_refl _) (by rw [hl]; omega)
  rw [hl] at h ⊢
  exact h

set_option maxHeartbeats 4000000 in
set_option maxRecDepth 100000 in
theorem char_calls (p : Int) (A1 : Option Addr) (c1 : Nat) (r : List Int) (w : World) (hT : Tab w) (h0 : 0 ≤ p) (h1 : p < 9223372036854775808) (h : isP p.toNat = true) (hr : Rc w A1 c1 r) (hl : r.length ≤ 100000) (ur : U64 r) :
    Calls Tryd.prog 25 #[.int .u64 p, .slice A1 r.length c1] w fun e w' => ∃ A2 c2, e = .returned (.tuple #[.slice A2 (charTo p r r.length).length c2, .int .i64 0]) ∧ Rc w' A2 c2 (charTo p r r.length) ∧ Below w.heap.size w w' := by
  have h2 : 2 ≤ p := by have := isP_two h; omega
  obtain ⟨N, hN⟩ : ∃ N, N = r.length + 1 := ⟨_, rfl⟩
  have eN : (r.length : Int) + 1 = (N : Int) := by omega
  have HN := Lib.hid hN
  have hmk := print_make (P := Tryd.prog) 50 22 .u64 8 Tryd.underlying50 infoU (by decide) N (by omega)
  have hmc : (madeCells #[Value.int .u64 0] N)[r.length]? = some (.int .u64 0) := by
    have hlt : r.length < N := by have := HN.out; omega
    rw [madeU, List.getElem?_toArray, List.getElem?_replicate, if_pos hlt]
  have HC := Lib.hid (rfield_some p w hT h0 h1 h)
  have HR := Lib.hid hr
  have UR := Lib.hid ur
  have i1 : (r.length : Int) ≤ 100000 := by omega
  have i2 : (r.length : Int) < (N : Int) := by omega
  have i3 : (0 : Int) ≤ (r.length : Int) := by omega
  have HL := Lib.hid hl
  clear hT h hr ur hN hl
  go_enter Tryd.func25, Tryd.ntmps25
  go_wp2_with (go_at_call 12; refine HC.out.mono ?_; rintro e w1 ⟨a, rfl, hf, hb1, hsz⟩; have HF := Lib.hid hf; have HB1 := Lib.hid hb1; clear hf hb1)
  have HM2 : Hid (Ow (w1.alloc (.cells ((madeCells #[.int .u64 0] N).setIfInBounds r.length (.int .u64 1)) 22)) w1.heap.size (.slice (some ⟨w1.heap.size, 0, none⟩) (charTo p r 0).length N) (charTo p r 0)) := Lib.hid (by
    have := char_start w1 r.length N (by have := HN.out; have := HL.out; omega)
    rw [charTo, ← HN.out]
    exact this)
  have HB2 : Hid (Below w1.heap.size w1 (w1.alloc (.cells ((madeCells #[.int .u64 0] N).setIfInBounds r.length (.int .u64 1)) 22))) := Lib.hid (below_alloc (Below.refl _ _) _)
  clear hmc hmk
  go_loopw [9, 10, 29] (fun _ _ v29 W => ∃ (k : Nat) (o : List Int), v29 = .int .i64 k ∧ k ≤ r.length ∧ Hid (o = charTo p r k) ∧ Hid (o.length = N)
      ∧ Hid (Ow W w1.heap.size (.slice (some ⟨w1.heap.size, 0, none⟩) o.length N) o) ∧ Hid (Below w1.heap.size w1 W)) (fun _ _ v29 _ => r.length - (intOf v29).toNat)
  case atStart => exact ⟨0, charTo p r 0, rfl, by omega, Lib.hid rfl, Lib.hid (by rw [charTo_len]; exact HN.out.symm), HM2, HB2⟩
  case round =>
    clear HM2 HB2
    obtain ⟨W, rfl⟩ : ∃ W : World, W = wr := ⟨_, rfl⟩
    obtain ⟨k, o, rfl, hk, ho1, ho2, how, hbw⟩ := hrel
    have HBG : Hid (Below w.heap.size w W) := Lib.hid (HB1.out.trans (hbw.out.mono HB1.out.size))
    by_cases hkl : k < r.length
    · obtain ⟨ad, rfl, hcl⟩ := (HR.out.kept HBG.out).get k hkl
      obtain ⟨q, hq⟩ : ∃ q, q = r.length - 1 - k := ⟨_, rfl⟩
      have HQ := Lib.hid hq
      have eq : (r.length : Int) - 1 - (k : Int) = (q : Int) := by omega
      have hqN : q < N := by have := HN.out; omega
      obtain ⟨hc1, hfz⟩ := how.out.cells q (by rw [ho2.out]; exact hqN)
      obtain ⟨u0, u1⟩ := UR.out.rng k
      have HKL : Hid (k + 1 ≤ r.length) := Lib.hid (Nat.succ_le_of_lt hkl)
      have HKM := Lib.hid (ms_suc hkl)
      have cof := Lib.hid (of_calls a p (rn r k) W (HF.out.kept hbw.out) h2 u0)
      have j1 : (k : Int) < (r.length : Int) := by omega
      have j3 : (0 : Int) ≤ (k : Int) := by omega
      have j4 : (q : Int) < (N : Int) := by omega
      have j5 : (0 : Int) ≤ (q : Int) := by omega
      clear hq
      go_wp2_with (go_at_call 13; with_reducible refine cof.out.mono ?_; rintro e w3 ⟨rfl, n3, rfl⟩)
      go_roundw
      case rel =>
        refine ⟨k + 1, o.set q (rn r k % p), rfl, HKL.out, Lib.hid ?_, Lib.hid ?_, Lib.hid ?_, Lib.hid ?_⟩
        · rw [charTo, ← ho1.out, HQ.out]
        · rw [List.length_set]; exact ho2.out
        · rw [List.length_set]; exact (Ow.store (Ow.drewN how.out _) q _).1
        · exact Below.setCell (p := ⟨w1.heap.size, q, none⟩) (below_drewN hbw.out _) (Nat.le_refl _) _
      case measure =>
        simp only [intOf]
        exact HKM.out
    · have hkk : k = r.length := by omega
      subst hkk
      obtain ⟨A4, c4, e4, r4⟩ := how.out.rc
      injection e4 with e5 _ e6
      subst e5 e6
      have HR4 := Lib.hid r4
      clear r4
      go_wp2
      go_ret2
      rw [← ho1.out]
      exact ⟨_, _, by rw [ho2.out]; rfl, HR4.out, HBG.out⟩
end Go.Proofs.YtmbbjoadnapcgaaDoor
