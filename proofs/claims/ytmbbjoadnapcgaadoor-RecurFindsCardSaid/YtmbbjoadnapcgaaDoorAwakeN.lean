/- The chapter's examples, reckoned: lists of numbers, no program. -/
import Derived.Test.YtmbbjoadnapcgaaDoorFar

namespace Go.Proofs.YtmbbjoadnapcgaaDoor
open Go.RowKit Go.Proofs.YtmbbjoadnapcgaaDoorW.PrintWords VNum

theorem aw_find : (findTo 7 [1, 1, 2, 3, 5, 1] 6).now = [6, 6] := by decide +kernel
theorem aw_more : moreTo 7 [6, 6] (ofTo 7 [1, 1] 2) 3 = [1, 1, 2, 3, 5] := by decide +kernel
theorem aw_char : charTo 7 [6, 6] 2 = [6, 6, 1] := by decide +kernel
theorem aw_norm : normF 7 [6, 6, 1] = [6, 6, 1] := by decide +kernel
theorem aw_norm1 : normF 7 [0, 1] = [0, 1] := by decide +kernel
theorem aw_isP : isP (7 : Int).toNat = true := by decide +kernel
theorem aw_pow : powF 7 [6, 6, 1] 64 1000000 (divF 7 [1] [6, 6, 1]).2 (divF 7 [0, 1] [6, 6, 1]).2 = some [1] := by decide +kernel
theorem aw_far : farTo 7 [1] [1, 1] 1 = 1 := by decide +kernel
theorem u64_dec {l : List Int} (h : l.all (fun x => decide (0 ≤ x) && decide (x < 18446744073709551616)) = true) : U64 l := fun x hx => by
  have := List.all_eq_true.1 h x hx
  simp only [Bool.and_eq_true, decide_eq_true_eq] at this
  exact this
theorem lit (W : World) (l : List Int) (h : l.length ≤ 1000000) : Rc (W.alloc (.cells (l.map (Value.int .u64)).toArray 22)) (some ⟨W.heap.size, 0, none⟩) l.length l := by
  obtain ⟨A, c, e, h⟩ := (Ow.of_block (l := l) (heap_alloc_new W (.cells (l.map (Value.int .u64)).toArray 22)) rfl (Nat.le_refl W.heap.size) (by omega)).rc
  injection e with e1 _ e2
  subst e1 e2
  exact h
end Go.Proofs.YtmbbjoadnapcgaaDoor
