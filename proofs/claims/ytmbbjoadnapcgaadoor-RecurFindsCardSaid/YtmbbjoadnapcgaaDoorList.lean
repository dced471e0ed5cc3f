/- Rows of words in memory: what a slice of words reads as; what the call made itself. -/
import Derived.Test.YtmbbjoadnapcgaaDoorIs
import Derived.Test.YtmbbjoadnapcgaaDoorWWords
namespace Go.Proofs.YtmbbjoadnapcgaaDoor
open Go.RowKit Go.Proofs.YtmbbjoadnapcgaaDoorW.PrintWords

/-- a quiet call behind draws that were joined -/
theorem quiet_more {P : Program} {f : FuncId} {args : Array Value} {w : World} {a n : Nat} {v : Value}
    (h : Calls P f args (w.drewN (a + n)) fun e w' => e = .returned v ∧ ∃ m, w' = (w.drewN (a + n)).drewN m) :
    Calls P f args (w.drewN (a + n)) fun e w'' => e = .returned v ∧ ∃ m, w'' = w.drewN (a + m) :=
  h.mono fun _ _ hh => ⟨hh.1, by obtain ⟨m, hm⟩ := hh.2; exact ⟨n + m, by rw [hm, World.drewN_drewN, Nat.add_assoc]⟩⟩

/-- each number is a word -/
def U64 (l : List Int) : Prop := ∀ x ∈ l, 0 ≤ x ∧ x < 18446744073709551616

/-- the number at a place; 0 behind all -/
def rn (l : List Int) (k : Nat) : Int := l.getD k 0
theorem rn_in {l : List Int} {k : Nat} (h : k < l.length) : rn l k = l[k] := by
  unfold rn
  rw [List.getD_eq_getElem?_getD, List.getElem?_eq_getElem h]; rfl
theorem rn_out {l : List Int} {k : Nat} (h : l.length ≤ k) : rn l k = 0 := by
  unfold rn
  rw [List.getD_eq_getElem?_getD, List.getElem?_eq_none h]; rfl
theorem rd_cast (l : List Int) (k : Nat) : rd l (k : Int) = rn l k := by unfold rd rn; rw [Int.toNat_natCast]
theorem U64.rng {l : List Int} (h : U64 l) (k : Nat) : 0 ≤ rn l k ∧ rn l k < 18446744073709551616 := by
  by_cases h0 : k < l.length
  · rw [rn_in h0]; exact h _ (List.getElem_mem _)
  · rw [rn_out (by omega)]
    exact ⟨Int.le_refl _, by decide⟩

/-- a slice of words that is read -/
def Rc (w : World) (A : Option Addr) (c : Nat) (l : List Int) : Prop := (Kd.int .u64).C w A l.length l ∧ l.length ≤ c
/-- a row of words of the call's own -/
def Ow (w : World) (b : Nat) (v : Value) (l : List Int) : Prop := (Kd.int .u64).R 22 w b (fun _ => True) v l

theorem Rc.kept {w w' : World} {A : Option Addr} {c : Nat} {l : List Int} (h : Rc w A c l) (hb : Below w.heap.size w w') : Rc w' A c l := ⟨Kd.C_below h.1 hb, h.2⟩
theorem Rc.drewN {w : World} {A : Option Addr} {c : Nat} {l : List Int} (h : Rc w A c l) (n : Nat) : Rc (w.drewN n) A c l := h
theorem Ow.kept {w w' : World} {b : Nat} {v : Value} {l : List Int} (h : Ow w b v l) (hb : Below w.heap.size w w') : Ow w' b v l := Kd.R_below h hb
theorem Ow.drewN {w : World} {b : Nat} {v : Value} {l : List Int} (h : Ow w b v l) (n : Nat) : Ow (w.drewN n) b v l := Kd.R_drewN h n
theorem Ow.lower {w : World} {b b' : Nat} {v : Value} {l : List Int} (h : Ow w b v l) (hb : b' ≤ b) : Ow w b' v l := Kd.R_lower h hb
theorem Ow.rc {w : World} {b : Nat} {v : Value} {l : List Int} (h : Ow w b v l) : ∃ A c, v = .slice A l.length c ∧ Rc w A c l := by
  obtain ⟨A, c, he, hl, hr⟩ := Kd.R_reads h
  exact ⟨A, c, he, hr, hl⟩
theorem Ow.nil (w : World) (b : Nat) : Ow w b (.slice none 0 0) [] := Kd.R_nil _ _ _ _ _
theorem Rc.nil (w : World) : Rc w none 0 [] := ⟨Kd.C_nil _ _, Nat.le_refl _⟩
theorem Rc.max {w : World} {A : Option Addr} {c : Nat} {l : List Int} (h : Rc w A c l) : l.length ≤ 9223372036854775807 := Kd.C_max h.1
theorem Rc.get {w : World} {A : Option Addr} {c : Nat} {l : List Int} (h : Rc w A c l) (k : Nat) (hk : k < l.length) : ∃ ad, A = some ad ∧ w.cell? (ad.add k) = some (.int .u64 (rn l k)) := by
  have := Kd.at_int h.1 (k : Int) (by omega) (by omega)
  rwa [Int.toNat_natCast, rd_cast] at this

/-- a row that was made whole: its block, and its place -/
theorem Ow.made (W : World) (b m : Nat) (hb : b ≤ W.heap.size) (hm : m ≤ 9223372036854775807) :
    Ow (W.alloc (.cells (madeCells #[.int .u64 0] m) 22)) b (.slice (some ⟨W.heap.size, 0, none⟩) m m) (List.replicate m 0) := by
  have h := own_made W b 22 .u64 m hb hm
  refine Kd.R_of_own (enc := Value.int .u64) ?_ (fun _ _ => trivial)
  simpa [nums, encs] using h

theorem Ow.cells {W : World} {b g cap : Nat} {l : List Int} (h : Ow W b (.slice (some ⟨g, 0, none⟩) l.length cap) l) (k : Nat) (hk : k < l.length) :
    W.cell? ⟨g, k, none⟩ = some (.int .u64 (rn l k)) ∧ W.frozen? ⟨g, k, none⟩ = false := by
  have h2 : W.ownsRow b 22 1 (.slice (some ⟨g, 0, none⟩) l.length cap) l.length (nums .u64 l) := by
    have := Kd.own_of_R (enc := Value.int .u64) h
    simpa [nums, encs] using this
  have := own_at h2 (k : Int) (by omega) (by omega)
  rwa [Int.toNat_natCast, rd_cast] at this

theorem Ow.store {W : World} {b g cap : Nat} {l : List Int} (h : Ow W b (.slice (some ⟨g, 0, none⟩) l.length cap) l) (k : Nat) (x : Int) :
    Ow (W.setCell ⟨g, k, none⟩ (.int .u64 x)) b (.slice (some ⟨g, 0, none⟩) l.length cap) (l.set k x) ∧ W.grownBy (W.setCell ⟨g, k, none⟩ (.int .u64 x)) (some g) := by
  have h2 : W.ownsRow b 22 1 (.slice (some ⟨g, 0, none⟩) l.length cap) l.length (nums .u64 l) := by
    have := Kd.own_of_R (enc := Value.int .u64) h
    simpa [nums, encs] using this
  obtain ⟨h3, h4⟩ := own_store h2 (k : Int) x
  rw [Int.toNat_natCast] at h3 h4
  refine ⟨Kd.R_of_own (enc := Value.int .u64) ?_ (fun _ _ => trivial), h4⟩
  simpa [nums, encs] using h3

/-- what is owned is nil, or begins at the head of a block of the call's own -/
theorem Ow.form {W : World} {b : Nat} {v : Value} {l : List Int} (h : Ow W b v l) (hl : 0 < l.length) : ∃ g cap, v = .slice (some ⟨g, 0, none⟩) l.length cap ∧ b ≤ g ∧ g < W.heap.size := by
  have h2 : W.ownsRow b 22 1 v l.length (nums .u64 l) := by
    have := Kd.own_of_R (enc := Value.int .u64) h
    simpa [nums, encs] using this
  obtain ⟨g, cap, hv, hg, hlt⟩ := h2.form hl
  exact ⟨g, cap, hv, hg, hlt⟩
end Go.Proofs.YtmbbjoadnapcgaaDoor
