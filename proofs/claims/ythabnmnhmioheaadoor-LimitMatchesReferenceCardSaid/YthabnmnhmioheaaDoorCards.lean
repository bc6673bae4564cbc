/-
  DERIVED. GIVEN WITH THE SEED: THE CARDS: each row of YthabnmnhmioheaaDoorRows.lean that lists a variable, with what it lists TIED to the program's text (the seventh form; the later family's looks); each row that meets fmt, with fmt's text TOLD by the authors' own Lean function (tested against real Go, not proved from fmt's source: count such statements apart). THE CARD IS WHAT COUNTS. Prove the row's statement (the work); the ties are given (YthabnmnhmioheaaDoorTie.lean); close each card by the builder's one call (the guide's Derived/Test/ToyasCard.lean, 'card_holds'). Laid BY PROGRAM, IN A SANDBOX (cutbox-door.mjs). By AI agents, Wed Nov 11 2026. No macro, syntax, notation, axiom, sorry.
-/
import Derived.Test.YthabnmnhmioheaaDoorRows
import GoSem.ClaimSeven
namespace Go.Proofs.YthabnmnhmioheaaDoor
namespace Rows

/-- THE TIED CARD OF 'vetchlaw17.LimitMatchesReference'. -/
def limitMatchesReferenceCard : Claim7 := { stood := { row := limitMatchesReferenceRow, standIns := [], harness := (true, "ec408c82554299f558140b8ad598166b13d4d945df3e884b6eec65a25e428a4f"), looks := true }, kinds := [], alts := [], laidByText := true, laidKinds := [.handle], laidTests := true, laidLooks := .later }
def LimitMatchesReferenceCardSaid : Prop := Claim7.holds Tryd.pinned (.plain (OpenSpec.ofChange limitMatchesReferenceSpec)) limitMatchesReferenceCard

/-- THE SECOND FORM's CARD OF 'vetchlaw17.LimitMatchesReference'. -/
def limitMatchesReferenceUptoCard : Claim7 := { stood := { row := limitMatchesReferenceUptoRow, standIns := [], harness := (true, "ec408c82554299f558140b8ad598166b13d4d945df3e884b6eec65a25e428a4f"), looks := true }, kinds := [], alts := [], laidByText := true, laidKinds := [.handle], laidTests := true, laidLooks := .later }
def LimitMatchesReferenceUptoCardSaid : Prop := Claim7.holds Tryd.pinned (.plain (OpenSpec.upto limitMatchesReferenceSpec)) limitMatchesReferenceUptoCard
end Rows
end Go.Proofs.YthabnmnhmioheaaDoor
