/- A rule that is grown: by its contract. -/
import Derived.Test.YtmbbjoadnapcgaaDoorRecur1
import Derived.Laws.CopyOwn
namespace Go.Proofs.YtmbbjoadnapcgaaDoor
open Go.RowKit Go.Proofs.YtmbbjoadnapcgaaDoorW.PrintWords VNum

theorem infoU : (Tryd.prog.info? 22).map (fun i => (i.zero, i.size, i.bytes)) = some (some (.int .u64 0), 1, 8) := by kernel_rfl
theorem infoUs : (Tryd.prog.info? 22).map (·.size) = some 1 := by kernel_rfl

/-- a rule, and 0 behind it -/
def growF (r : List Int) (n : Nat) : List Int := r ++ List.replicate (n - r.length) 0
theorem growF_len (r : List Int) (n : Nat) : (growF r n).length = max n r.length := by simp [growF]; omega

theorem madeU (n : Nat) : (madeCells #[Value.int .u64 0] n) = (List.replicate n (Value.int .u64 0)).toArray := by
  apply Array.ext
  · simp [madeCells]
  · intro i h1 h2; simp [madeCells, Nat.mod_one]

/-- a block that is just these words is a row of the call's own -/
theorem Ow.of_block {W : World} {b g : Nat} {l : List Int} {cs : List Value} (h : W.heap[g]? = some (.cells cs.toArray 22 (0, 0))) (hc : cs = l.map (Value.int .u64)) (hb : b ≤ g) (hm : l.length ≤ 9223372036854775807) :
    Ow W b (.slice (some ⟨g, 0, none⟩) l.length l.length) l := by
  subst hc
  refine Kd.R_of_own (enc := Value.int .u64) ⟨by simp [encs], .inr ⟨g, l.length, _, rfl, hb, h, Nat.le_refl _, by simpa [maxLen] using hm, by simp, by simp [encs, List.take_of_length_le]⟩⟩ (fun _ _ => trivial)

theorem growF_splice (r : List Int) (n N : Nat) (hN : N = max n r.length) : splice (List.replicate N (Value.int .u64 0)) 0 (r.map (Value.int .u64)) = (growF r n).map (Value.int .u64) := by
  have e : N - r.length = n - r.length := by omega
  simp [splice, growF, e]

theorem Rc.srcs {w : World} {A : Option Addr} {c : Nat} {l : List Int} (h : Rc w A c l) (hl : 0 < l.length) : ∃ ad, A = some ad ∧ ∀ j v, (l.map (Value.int .u64))[j]? = some v → w.cell? (ad.add j) = some v := by
  obtain ⟨ad, e, _⟩ := h.get 0 hl
  refine ⟨ad, e, fun j v hj => ?_⟩
  have hjl : j < l.length := by
    rcases Nat.lt_or_ge j l.length with h1 | h1
    · exact h1
    · rw [List.getElem?_eq_none (by simpa using h1)] at hj; cases hj
  obtain ⟨ad2, e2, hc⟩ := h.get j hjl
  rw [e] at e2
  obtain rfl := Option.some.inj e2
  rw [hc, ← hj, List.getElem?_map, List.getElem?_eq_getElem hjl, rn_in hjl]
  rfl

set_option maxHeartbeats 1000000 in
theorem grown_core (A : Option Addr) (c : Nat) (r : List Int) (n N : Nat) (w : World) (hr : Rc w A c r) (hn : n ≤ 1000000) (hl : r.length ≤ 1000000) (hN : Hid (N = max n r.length)) :
    Calls Tryd.prog 17 #[.slice A r.length c, .int .i64 n] w fun e w' => ∃ g, e = .returned (.slice (some ⟨g, 0, none⟩) N N) ∧ w.heap.size ≤ g ∧ Hid (w'.heap[g]? = some (.cells ((growF r n).map (Value.int .u64)).toArray 22 (0, 0))) ∧ Below w.heap.size w w' := by
  have hmk := print_make (P := Tryd.prog) 25 22 .u64 8 Tryd.underlying25 infoU (by decide) N (by have := hN.out; omega)
  have emx : max (n : Int) (r.length : Int) = (N : Int) := by have := hN.out; omega
  have HR := Lib.hid hr
  have hlN : r.length ≤ N := by have := hN.out; omega
  have HS := Lib.hid (growF_splice r n N hN.out)
  have HB : Hid (∀ W : World, (W.alloc (.cells (madeCells #[.int .u64 0] N) 22)).heap[W.heap.size]? = some (.cells (List.replicate N (Value.int .u64 0)).toArray 22 (0, 0))) := fun W => by rw [madeU]; exact heap_alloc_new W _
  clear hr
  go_enter Tryd.func17, Tryd.ntmps17
  go_wp2_with (with_reducible refine wpList_copy_splice rfl (.tmp 11) (.tmp 12) 25 25 rfl 22 Tryd.underlying25 infoUs _ _ _ _ _ _ rfl rfl w.heap.size 0 (List.replicate N (Value.int .u64 0)) 22 (HB.out w) (r.map (Value.int .u64)) ?ha ?hb ?hc ?hd w.heap.size w ?he (Nat.le_refl _) ?hf)
  case ha =>
    have e : Nat.min r.length N = r.length := Nat.min_eq_left hlN
    rw [e]; simp
  case hb =>
    intro h0
    obtain ⟨ad, e, h⟩ := (HR.out.kept (below_alloc (Below.refl _ _) (.cells (madeCells #[.int .u64 0] N) 22))).srcs (by simpa using h0)
    exact ⟨ad, e, fun j v hj => h j _ (by simp [hj])⟩
  case hc => simp; omega
  case hd => simp [Value.oneCell']
  case he => exact below_alloc (Below.refl _ _) _
  case hf =>
    intro w2 hw2 hb2
    go_wp2
    go_ret
    exact ⟨_, rfl, Nat.le_refl _, by have := hw2.out; rw [HS.out] at this; exact this, hb2⟩

/-- A rule that is grown. -/
theorem grown_calls (A : Option Addr) (c : Nat) (r : List Int) (n : Nat) (w : World) (hr : Rc w A c r) (hn : n ≤ 1000000) (hl : r.length ≤ 1000000) :
    Calls Tryd.prog 17 #[.slice A r.length c, .int .i64 n] w fun e w' => ∃ g, e = .returned (.slice (some ⟨g, 0, none⟩) (growF r n).length (growF r n).length) ∧ w.heap.size ≤ g ∧ Ow w' w.heap.size (.slice (some ⟨g, 0, none⟩) (growF r n).length (growF r n).length) (growF r n) ∧ Below w.heap.size w w' := by
  refine (grown_core A c r n (growF r n).length w hr hn hl (growF_len r n)).mono ?_
  rintro e w' ⟨g, he, hg, hc, hb⟩
  exact ⟨g, he, hg, Ow.of_block hc.out rfl hg (by rw [growF_len]; omega), hb⟩
end Go.Proofs.YtmbbjoadnapcgaaDoor
