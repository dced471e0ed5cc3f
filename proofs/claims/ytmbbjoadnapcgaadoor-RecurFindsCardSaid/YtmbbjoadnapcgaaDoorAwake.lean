/- The chapter's examples hold: by their contract. -/
import Derived.Test.YtmbbjoadnapcgaaDoorAwakeN
import Derived.Test.YtmbbjoadnapcgaaDoorSame
namespace Go.Proofs.YtmbbjoadnapcgaaDoor
open Go.RowKit Go.Proofs.YtmbbjoadnapcgaaDoorW.PrintWords VNum


/-- the example's rule is found -/
theorem aw_find_calls (W : World) (hT : Tab W) : Calls Tryd.prog 5 #[.int .u64 7, .slice (some ⟨W.heap.size, 0, none⟩) 6 6] (W.alloc (.cells #[.int .u64 1, .int .u64 1, .int .u64 2, .int .u64 3, .int .u64 5, .int .u64 1] 22)) fun e w' => ∃ A c, e = .returned (.tuple #[.slice A 2 c, .int .i64 0]) ∧ Rc w' A c [6, 6] ∧ Below W.heap.size W w' := by
  have hk := below_alloc (Below.refl W.heap.size W) (.cells #[.int .u64 1, .int .u64 1, .int .u64 2, .int .u64 3, .int .u64 5, .int .u64 1] 22)
  have c := find_calls 7 (some ⟨W.heap.size, 0, none⟩) 6 [1, 1, 2, 3, 5, 1] _ (hT.kept hk) (by decide) (by decide) aw_isP (lit W [1, 1, 2, 3, 5, 1] (by decide)) (by decide) (u64_dec (by decide))
  refine c.mono ?_
  rintro e w' ⟨A, c, rfl, hr, hb⟩
  have e1 : (findTo 7 [1, 1, 2, 3, 5, 1] ([1, 1, 2, 3, 5, 1] : List Int).length).now = [6, 6] := aw_find
  rw [e1] at hr ⊢
  exact ⟨A, c, rfl, hr, hk.trans (hb.mono hk.size)⟩

/-- the example's row goes on -/
theorem aw_more_calls (W : World) (hT : Tab W) : Calls Tryd.prog 9 #[.int .u64 7, .slice (some ⟨W.heap.size, 0, none⟩) 2 2, .slice (some ⟨W.heap.size + 1, 0, none⟩) 2 2, .int .i64 3] ((W.alloc (.cells #[.int .u64 6, .int .u64 6] 22)).alloc (.cells #[.int .u64 1, .int .u64 1] 22)) fun e w' => ∃ A c, e = .returned (.tuple #[.slice A 5 c, .int .i64 0]) ∧ Rc w' A c [1, 1, 2, 3, 5] ∧ Below W.heap.size W w' := by
  have hk1 := below_alloc (Below.refl W.heap.size W) (.cells #[.int .u64 6, .int .u64 6] 22)
  have hk2 := below_alloc (Below.refl (W.alloc (.cells #[.int .u64 6, .int .u64 6] 22)).heap.size (W.alloc (.cells #[.int .u64 6, .int .u64 6] 22))) (.cells #[.int .u64 1, .int .u64 1] 22)
  have hk := hk1.trans (hk2.mono hk1.size)
  have hs : (W.alloc (.cells #[.int .u64 6, .int .u64 6] 22)).heap.size = W.heap.size + 1 := by simp
  have l2 := lit2 (W.alloc (.cells #[.int .u64 6, .int .u64 6] 22)) 1 1
  rw [hs] at l2
  have c := more_calls 7 (some ⟨W.heap.size, 0, none⟩) (some ⟨W.heap.size + 1, 0, none⟩) 2 2 [6, 6] [1, 1] 3 _ (hT.kept hk) (by decide) (by decide) aw_isP ((lit2 W 6 6).kept hk2) l2 (by decide) (by decide) (by decide) (by decide) (u64_dec (by decide)) (u64_dec (by decide))
  refine c.mono ?_
  rintro e w' ⟨v, rfl, ho, hb⟩
  have e1 : moreTo 7 [6, 6] (ofTo 7 [1, 1] ([1, 1] : List Int).length) 3 = [1, 1, 2, 3, 5] := aw_more
  rw [e1] at ho
  obtain ⟨A, c, rfl, hr⟩ := ho.rc
  exact ⟨A, c, rfl, hr, hk.trans (hb.mono hk.size)⟩

/-- the example's number far on -/
theorem aw_far_calls (W : World) (hT : Tab W) : Calls Tryd.prog 10 #[.int .u64 7, .slice (some ⟨W.heap.size, 0, none⟩) 2 2, .slice (some ⟨W.heap.size + 1, 0, none⟩) 2 2, .int .u64 1000000] ((W.alloc (.cells #[.int .u64 6, .int .u64 6] 22)).alloc (.cells #[.int .u64 1, .int .u64 1] 22)) fun e w' => e = .returned (.tuple #[.int .u64 1, .int .i64 0]) ∧ Below W.heap.size W w' := by
  have hk1 := below_alloc (Below.refl W.heap.size W) (.cells #[.int .u64 6, .int .u64 6] 22)
  have hk2 := below_alloc (Below.refl (W.alloc (.cells #[.int .u64 6, .int .u64 6] 22)).heap.size (W.alloc (.cells #[.int .u64 6, .int .u64 6] 22))) (.cells #[.int .u64 1, .int .u64 1] 22)
  have hk := hk1.trans (hk2.mono hk1.size)
  have hs : (W.alloc (.cells #[.int .u64 6, .int .u64 6] 22)).heap.size = W.heap.size + 1 := by simp
  have l2 := lit2 (W.alloc (.cells #[.int .u64 6, .int .u64 6] 22)) 1 1
  rw [hs] at l2
  have c := far_calls 7 (some ⟨W.heap.size, 0, none⟩) (some ⟨W.heap.size + 1, 0, none⟩) 2 2 [6, 6] [1, 1] 1000000 [6, 6, 1] [1] _ (hT.kept hk) (by decide) (by decide) aw_isP ((lit2 W 6 6).kept hk2) l2 (by decide) (by decide) (by decide) (u64_dec (by decide)) (u64_dec (by decide)) (by decide) aw_char.symm (by rw [aw_norm1]; decide) (by rw [aw_norm]; decide) (by rw [aw_norm, aw_norm1]; exact aw_pow) (by decide) (u64_dec (by decide))
  refine c.mono ?_
  rintro e w' ⟨rfl, hb⟩
  have e1 : farTo 7 [1] [1, 1] ([1] : List Int).length = 1 := aw_far
  rw [e1]
  exact ⟨rfl, hk.trans (hb.mono hk.size)⟩

theorem aw_same2 (W : World) (A : Option Addr) (c : Nat) (h : Rc W A c [6, 6]) : Calls Tryd.prog 11 #[.slice A 2 c, .slice (some ⟨W.heap.size, 0, none⟩) 2 2] (W.alloc (.cells #[.int .u64 6, .int .u64 6] 22)) fun e w' => e = .returned (.bool true) ∧ Below W.heap.size W w' := by
  have hk := below_alloc (Below.refl W.heap.size W) (.cells #[.int .u64 6, .int .u64 6] 22)
  refine (same_calls A _ c 2 [6, 6] _ (h.kept hk) (lit2 W 6 6) (by decide)).mono ?_
  rintro e w' ⟨rfl, n, rfl⟩
  exact ⟨rfl, below_drewN hk n⟩
theorem aw_same5 (W : World) (A : Option Addr) (c : Nat) (h : Rc W A c [1, 1, 2, 3, 5]) : Calls Tryd.prog 11 #[.slice A 5 c, .slice (some ⟨W.heap.size, 0, none⟩) 5 5] (W.alloc (.cells #[.int .u64 1, .int .u64 1, .int .u64 2, .int .u64 3, .int .u64 5] 22)) fun e w' => e = .returned (.bool true) ∧ Below W.heap.size W w' := by
  have hk := below_alloc (Below.refl W.heap.size W) (.cells #[.int .u64 1, .int .u64 1, .int .u64 2, .int .u64 3, .int .u64 5] 22)
  refine (same_calls A _ c 5 [1, 1, 2, 3, 5] _ (h.kept hk) (lit W [1, 1, 2, 3, 5] (by decide)) (by decide)).mono ?_
  rintro e w' ⟨rfl, n, rfl⟩
  exact ⟨rfl, below_drewN hk n⟩

set_option maxHeartbeats 4000000 in
set_option maxRecDepth 100000 in
theorem awake_calls (w : World) (hT : Tab w) : Calls Tryd.prog 4 #[] w fun e w' => e = .returned (.bool true) ∧ Below w.heap.size w w' := by
  have HT := Lib.hid hT
  clear hT
  go_enter Tryd.func4, Tryd.ntmps4
  go_wp2_with (first
    | (go_at_call 5; with_reducible refine (aw_find_calls w HT.out).mono ?_; rintro e w1 ⟨A1, c1, rfl, hr1, hb1⟩; have HR1 := Lib.hid hr1; have HB1 := Lib.hid hb1; clear hr1 hb1)
    | (go_at_call 9; with_reducible refine (aw_more_calls w1 (HT.out.kept HB1.out)).mono ?_; rintro e w2 ⟨A2, c2, rfl, hr2, hb2⟩; have HR2 := Lib.hid hr2; have HB2 := Lib.hid (HB1.out.trans (hb2.mono HB1.out.size)); have HR1b := Lib.hid (HR1.out.kept hb2); clear hr2 hb2)
    | (go_at_call 10; with_reducible refine (aw_far_calls w2 (HT.out.kept HB2.out)).mono ?_; rintro e w3 ⟨rfl, hb3⟩; have HB3 := Lib.hid (HB2.out.trans (hb3.mono HB2.out.size)); have HR1c := Lib.hid (HR1b.out.kept hb3); have HR2c := Lib.hid (HR2.out.kept hb3); clear hb3)
    | (go_at_call 11; with_reducible refine (aw_same2 w3 A1 c1 HR1c.out).mono ?_; rintro e w4 ⟨rfl, hb4⟩; have HB4 := Lib.hid (HB3.out.trans (hb4.mono HB3.out.size)); have HR2d := Lib.hid (HR2c.out.kept hb4); clear hb4)
    | (go_at_call 11; with_reducible refine (aw_same5 w4 A2 c2 HR2d.out).mono ?_; rintro e w5 ⟨rfl, hb5⟩; have HB5 := Lib.hid (HB4.out.trans (hb5.mono HB4.out.size)); clear hb5))
  go_ret
  exact ⟨rfl, HB5.out⟩
end Go.Proofs.YtmbbjoadnapcgaaDoor
