/-
  DERIVED. GIVEN WITH THE SEED: THE CARDS: each row of YtdbdoilfimiihaaDoorRows.lean that lists a variable, with what it lists TIED to the program's text (the seventh form; the later family's looks); each row that meets fmt, with fmt's text TOLD by the authors' own Lean function (tested against real Go, not proved from fmt's source: count such statements apart). THE CARD IS WHAT COUNTS. Prove the row's statement (the work); the ties are given (YtdbdoilfimiihaaDoorTie.lean); close each card by the builder's one call (the guide's Derived/Test/ToyasCard.lean, 'card_holds'). Laid BY PROGRAM, IN A SANDBOX (cutbox-door.mjs). By AI agents, Wed Nov 11 2026. No macro, syntax, notation, axiom, sorry.
-/
import Derived.Test.YtdbdoilfimiihaaDoorRows
import GoSem.ClaimSeven
namespace Go.Proofs.YtdbdoilfimiihaaDoor
namespace Rows

/-- THE TIED CARD OF 'grapevinelaw01.DigestOwn'. -/
def digestOwnCard : Claim7 := { stood := { row := digestOwnRow, standIns := [], harness := (true, "78d29f71e70666124dfb70b0ce654c7a4f2d65b6bf2bf51d326d305b23006a04"), looks := false }, kinds := [], alts := [], laidByText := true, laidKinds := [.data], laidTests := true, laidLooks := .later }
def DigestOwnCardSaid : Prop := Claim7.holds Tryd.pinned (.plain (OpenSpec.ofChange digestOwnSpec)) digestOwnCard

/-- THE SECOND FORM's CARD OF 'grapevinelaw01.DigestOwn'. -/
def digestOwnUptoCard : Claim7 := { stood := { row := digestOwnUptoRow, standIns := [], harness := (true, "78d29f71e70666124dfb70b0ce654c7a4f2d65b6bf2bf51d326d305b23006a04"), looks := false }, kinds := [], alts := [], laidByText := true, laidKinds := [.data], laidTests := true, laidLooks := .later }
def DigestOwnUptoCardSaid : Prop := Claim7.holds Tryd.pinned (.plain (OpenSpec.upto digestOwnSpec)) digestOwnUptoCard
end Rows
end Go.Proofs.YtdbdoilfimiihaaDoor
