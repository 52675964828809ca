/-
  DERIVED. GIVEN WITH THE SEED: THE CARDS: each row of YtjmomolnhplokaaDoorRows.lean that lists a variable, with what it lists TIED to the program's text (the seventh form; the later family's looks); each row that meets fmt, with fmt's text TOLD by the authors' own Lean function (tested against real Go, not proved from fmt's source: count such statements apart). THE CARD IS WHAT COUNTS. Prove the row's statement (the work); the ties are given (YtjmomolnhplokaaDoorTie.lean); close each card by the builder's one call (the guide's Derived/Test/ToyasCard.lean, 'card_holds'). Laid BY PROGRAM, IN A SANDBOX (cutbox-door.mjs). By AI agents, Wed Nov 11 2026. No macro, syntax, notation, axiom, sorry.
-/
import Derived.Test.YtjmomolnhplokaaDoorRows
import GoSem.ClaimSeven
namespace Go.Proofs.YtjmomolnhplokaaDoor
namespace Rows

/-- THE TIED CARD OF 'bringuplaw16.ClockAnswers'. -/
def clockAnswersCard : Claim7 := { stood := { row := clockAnswersRow, standIns := [], harness := (true, "d22bb4461bf954dbf8f07421462727bf6eecc11a9f334338e5b4897a29567412"), looks := false }, kinds := [], alts := [], laidByText := true, laidKinds := [.data], laidTests := true, laidLooks := .later }
def ClockAnswersCardSaid : Prop := Claim7.holds Tryd.pinned (.plain (OpenSpec.ofChange clockAnswersSpec)) clockAnswersCard

/-- THE SECOND FORM's CARD OF 'bringuplaw16.ClockAnswers'. -/
def clockAnswersUptoCard : Claim7 := { stood := { row := clockAnswersUptoRow, standIns := [], harness := (true, "d22bb4461bf954dbf8f07421462727bf6eecc11a9f334338e5b4897a29567412"), looks := false }, kinds := [], alts := [], laidByText := true, laidKinds := [.data], laidTests := true, laidLooks := .later }
def ClockAnswersUptoCardSaid : Prop := Claim7.holds Tryd.pinned (.plain (OpenSpec.upto clockAnswersSpec)) clockAnswersUptoCard
end Rows
end Go.Proofs.YtjmomolnhplokaaDoor
