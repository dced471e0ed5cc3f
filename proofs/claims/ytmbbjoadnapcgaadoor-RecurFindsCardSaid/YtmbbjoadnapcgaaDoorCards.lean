/-
  DERIVED. GIVEN WITH THE SEED: THE CARDS: each row of YtmbbjoadnapcgaaDoorRows.lean that lists a variable, with what it lists TIED to the program's text (the seventh form; the later family's looks); each row that meets fmt, with fmt's text TOLD by the authors' own Lean function (tested against real Go, not proved from fmt's source: count such statements apart). THE CARD IS WHAT COUNTS. Prove the row's statement (the work); the ties are given (YtmbbjoadnapcgaaDoorTie.lean); close each card by the builder's one call (the guide's Derived/Test/ToyasCard.lean, 'card_holds'). Laid BY PROGRAM, IN A SANDBOX (cutbox-door.mjs). By AI agents, Wed Nov 11 2026. No macro, syntax, notation, axiom, sorry.
-/
import Derived.Test.YtmbbjoadnapcgaaDoorRows
import GoSem.ClaimSeven
namespace Go.Proofs.YtmbbjoadnapcgaaDoor
namespace Rows

/-- THE TIED CARD OF 'vinculumlaw10.RecurFinds'. -/
def recurFindsCard : Claim7 := { stood := { row := recurFindsRow, standIns := [], harness := (true, "d951d8e6b8555625a0017b521dfa0e4760c56bb634c12d5ce895b1a89a0c28b2"), looks := false }, kinds := [], alts := [], laidByText := true, laidKinds := [.data], laidTests := true, laidLooks := .later }
def RecurFindsCardSaid : Prop := Claim7.holds Tryd.pinned (.plain (OpenSpec.ofChange recurFindsSpec)) recurFindsCard

/-- THE SECOND FORM's CARD OF 'vinculumlaw10.RecurFinds'. -/
def recurFindsUptoCard : Claim7 := { stood := { row := recurFindsUptoRow, standIns := [], harness := (true, "d951d8e6b8555625a0017b521dfa0e4760c56bb634c12d5ce895b1a89a0c28b2"), looks := false }, kinds := [], alts := [], laidByText := true, laidKinds := [.data], laidTests := true, laidLooks := .later }
def RecurFindsUptoCardSaid : Prop := Claim7.holds Tryd.pinned (.plain (OpenSpec.upto recurFindsSpec)) recurFindsUptoCard
end Rows
end Go.Proofs.YtmbbjoadnapcgaaDoor
