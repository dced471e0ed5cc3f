/- upoly.Field: the field's cell; a new one; a polynomial brought below the prime: by their contracts. -/
import Derived.Test.YtmbbjoadnapcgaaDoorTrim
namespace Go.Proofs.YtmbbjoadnapcgaaDoor
open Go.RowKit Go.Proofs.YtmbbjoadnapcgaaDoorW.PrintWords VNum

/-- an upoly.Field: its cell holds the word.Field -/
structure UF (w : World) (F a : Addr) (p : Int) : Prop where
  c : w.cell? F = some (.pointer (some a))
  f : FA w a p
theorem UF.kept {w w' : World} {F a : Addr} {p : Int} (h : UF w F a p) (hb : Below w.heap.size w w') : UF w' F a p := ⟨(hb.cell (World.block_lt_of_cell? w _ h.c)).trans h.c, h.f.kept hb⟩
theorem UF.drewN {w : World} {F a : Addr} {p : Int} (h : UF w F a p) (n : Nat) : UF (w.drewN n) F a p := ⟨h.c, h.f⟩

set_option maxHeartbeats 1000000 in
theorem unew_calls (p : Int) (w : World) (hT : Tab w) (h0 : 0 ≤ p) (h1 : p < 9223372036854775808) (h : isP p.toNat = true) :
    Calls Tryd.prog 26 #[.int .u64 p] w fun e w' => ∃ F a, e = .returned (.tuple #[.pointer (some F), .int .i64 0]) ∧ UF w' F a p ∧ Below w.heap.size w w' := by
  have h2 : 2 ≤ p := by have := isP_two h; omega
  have d0 : decide (9223372036854775808 ≤ p) = false := decide_eq_false (by omega)
  have c := is_calls p w hT h0 (by omega)
  rw [h] at c
  have HC := Lib.hid c
  clear c hT h
  go_enter Tryd.func26, Tryd.ntmps26
  go_wp2_with (first
    | (go_at_call 30; refine HC.out.mono ?_; rintro e w1 ⟨rfl, hb1⟩; have HB1 := Lib.hid hb1; clear hb1)
    | (go_at_call 28; refine (new_calls p w1 h2 h1).mono ?_; rintro e w2 ⟨a, rfl, hf⟩; have HF := Lib.hid hf; clear hf))
  go_ret2
  obtain ⟨f1, f2, f3⟩ := HF.out
  have hb2 := HB1.out.trans (f2.mono HB1.out.size)
  exact ⟨⟨w2.heap.size, 0, none⟩, a, rfl, ⟨by simp, f1.kept (below_alloc (Below.refl _ _) _)⟩, hb2.alloc hb2.size _⟩

/-- the first k of a polynomial's coefficients, brought below p -/
def normTo (p : Int) (l : List Int) : Nat → List Int
  | 0 => List.replicate l.length 0
  | k + 1 => (normTo p l k).set k (rn l k % p)
theorem normTo_len (p : Int) (l : List Int) : ∀ k, (normTo p l k).length = l.length
  | 0 => by rw [normTo, List.length_replicate]
  | k + 1 => by rw [normTo, List.length_set, normTo_len p l k]
def normF (p : Int) (l : List Int) : List Int := trimF (normTo p l l.length)

set_option maxHeartbeats 4000000 in
theorem norm_calls (F a : Addr) (p : Int) (A : Option Addr) (c : Nat) (l : List Int) (w : World) (hF : UF w F a p) (h2 : 2 ≤ p) (hr : Rc w A c l) (hl : l.length ≤ 1000000) (ul : U64 l) :
    Calls Tryd.prog 35 #[.pointer (some F), .slice A l.length c] w fun e w' => ∃ A' c', e = .returned (.slice A' (normF p l).length c') ∧ Rc w' A' c' (normF p l) ∧ Below w.heap.size w w' := by
  have hmk := print_make (P := Tryd.prog) 50 22 .u64 8 Tryd.underlying50 infoU (by decide) l.length (by omega)
  have HR := Lib.hid hr
  have HF := Lib.hid hF
  have UL := Lib.hid ul
  have hb : (l.length : Int) ≤ 1000000 := by omega
  have HLB := Lib.hid hl
  have HM : Hid (Ow (w.alloc (.cells (madeCells #[.int .u64 0] l.length) 22)) w.heap.size (.slice (some ⟨w.heap.size, 0, none⟩) l.length l.length) (List.replicate l.length 0)) := Lib.hid (Ow.made w w.heap.size l.length (Nat.le_refl _) (by omega))
  have HB : Hid (Below w.heap.size w (w.alloc (.cells (madeCells #[.int .u64 0] l.length) 22))) := Lib.hid (below_alloc (Below.refl _ _) _)
  clear hr hF ul hl
  go_enter Tryd.func35, Tryd.ntmps35
  go_wp2
  go_loopw [6, 7, 15] (fun _ _ v15 W => ∃ (k : Nat) (o : List Int), v15 = .int .i64 k ∧ k ≤ l.length ∧ Hid (o = normTo p l k) ∧ Hid (o.length = l.length)
      ∧ Hid (Ow W w.heap.size (.slice (some ⟨w.heap.size, 0, none⟩) o.length l.length) o) ∧ Hid (Below w.heap.size w W)) (fun _ _ v15 _ => l.length - (intOf v15).toNat)
  case atStart => exact ⟨0, List.replicate l.length 0, rfl, by omega, Lib.hid rfl, Lib.hid (by simp), by simpa using HM, HB⟩
  case round =>
    clear HM HB hmk
    obtain ⟨W, rfl⟩ : ∃ W : World, W = wr := ⟨_, rfl⟩
    obtain ⟨k, o, rfl, hk, ho1, ho2, how, hbw⟩ := hrel
    by_cases hkl : k < l.length
    · obtain ⟨ad, rfl, hcl⟩ := (HR.out.kept hbw.out).get k hkl
      obtain ⟨hc1, hfz⟩ := how.out.cells k (by have := ho2.out; omega)
      obtain ⟨u0, u1⟩ := UL.out.rng k
      have HKL : Hid (k + 1 ≤ l.length) := Lib.hid (Nat.succ_le_of_lt hkl)
      have HKM := Lib.hid (ms_suc hkl)
      have HUF := Lib.hid (HF.out.kept hbw.out)
      have hfc := HUF.out.c
      have cof := Lib.hid (of_calls a p (rn l k) W HUF.out.f h2 u0)
      have i1 : (k : Int) < (l.length : Int) := by omega
      have i3 : (0 : Int) ≤ (k : Int) := by omega
      go_wp2_with (go_at_call 13; refine cof.out.mono ?_; rintro e w3 ⟨rfl, n3, rfl⟩)
      go_roundw
      case rel =>
        refine ⟨k + 1, o.set k (rn l k % p), rfl, HKL.out, Lib.hid ?_, Lib.hid ?_, Lib.hid ?_, Lib.hid ?_⟩
        · rw [normTo, ← ho1.out]
        · rw [List.length_set]; exact ho2.out
        · rw [List.length_set]; exact (Ow.store (Ow.drewN how.out _) k _).1
        · exact Below.setCell (p := ⟨w.heap.size, k, none⟩) (below_drewN hbw.out _) (Nat.le_refl _) _
      case measure =>
        simp only [intOf]
        exact HKM.out
    · have hkk : k = l.length := by omega
      subst hkk
      have hol := ho2.out
      obtain ⟨A4, c4, e4, r4⟩ := how.out.rc
      injection e4 with e5 _ e6
      subst e5 e6
      have ctr := trim_calls _ _ o W r4 (by rw [hol]; exact HLB.out)
      rw [hol] at ctr
      have CTR := Lib.hid ctr
      clear hol r4 ctr
      go_wp2_with (go_at_call 41; refine CTR.out.mono ?_; rintro e w4 ⟨A5, c5, rfl, hr5, n5, rfl⟩)
      go_ret
      have e9 : normF p l = trimF o := by unfold normF; rw [ho1.out]
      rw [e9]
      exact ⟨A5, c5, rfl, hr5, below_drewN hbw.out _⟩
end Go.Proofs.YtmbbjoadnapcgaaDoor
