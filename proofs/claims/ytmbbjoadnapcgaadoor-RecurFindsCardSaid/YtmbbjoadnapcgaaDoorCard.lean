/- RecurFinds, the tied card: for every input the law returns true and each argument reads as it did; the laid table is tied to the program's text. No condition. -/
import Derived.Test.YtmbbjoadnapcgaaDoorRow
import Derived.Test.YtmbbjoadnapcgaaDoorCards
namespace Go.Proofs.YtmbbjoadnapcgaaDoor
open Go

theorem card_holds : Rows.RecurFindsCardSaid :=
  Claim7.holds_tied_plain_at .later [] [.data] true (true, "d951d8e6b8555625a0017b521dfa0e4760c56bb634c12d5ce895b1a89a0c28b2") false
    row_holds (fun _ h => by cases h) (by kernel_rfl) (fun _ h => by cases h) recurFinds_row_tie rfl ⟨rfl, rfl⟩ (by kernel_rfl) rfl
    (fun f fn hf hfn => by
      obtain rfl : f = 3 := Option.some.inj ((show Tryd.prog.funcNamed "vinculum/vinculumlaw10.RecurFinds" = some 3 by kernel_rfl).symm.trans hf) |>.symm
      obtain rfl : fn = Tryd.f3 := (Option.some.inj (Tryd.func3.symm.trans hfn)).symm
      exact ⟨by kernel_rfl, fun j t ht => by
        rw [Tryd.params3] at ht
        match j, ht with
        | 0, ht =>
          obtain rfl : t = 22 := by simpa using ht.symm
          exact (show Tryd.prog.wantsStandIn 22 = false by kernel_rfl)
        | 1, ht =>
          obtain rfl : t = 23 := by simpa using ht.symm
          exact (show Tryd.prog.wantsStandIn 23 = false by kernel_rfl)
        | j + 2, ht => simp at ht⟩)
    (by kernel_rfl)
end Go.Proofs.YtmbbjoadnapcgaaDoor
