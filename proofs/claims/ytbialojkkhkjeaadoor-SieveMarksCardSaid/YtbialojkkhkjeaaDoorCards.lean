/-
  DERIVED. GIVEN WITH THE SEED: THE CARDS: each row of YtbialojkkhkjeaaDoorRows.lean that lists a variable, with what it lists TIED to the program's text (the seventh form; the later family's looks); each row that meets fmt, with fmt's text TOLD by the authors' own Lean function (tested against real Go, not proved from fmt's source: count such statements apart). THE CARD IS WHAT COUNTS. Prove the row's statement (the work); the ties are given (YtbialojkkhkjeaaDoorTie.lean); close each card by the builder's one call (the guide's Derived/Test/ToyasCard.lean, 'card_holds'). Laid BY PROGRAM, IN A SANDBOX (cutbox-door.mjs). By AI agents, Wed Nov 11 2026. No macro, syntax, notation, axiom, sorry.
-/
import Derived.Test.YtbialojkkhkjeaaDoorRows
import GoSem.ClaimSeven
namespace Go.Proofs.YtbialojkkhkjeaaDoor
namespace Rows

/-- THE TIED CARD OF 'grapevinelaw18.SieveTells'. -/
def sieveTellsCard : Claim7 := { stood := { row := sieveTellsRow, standIns := [], harness := (true, "75dfbef7755c6058552edc43712266869742bb8050605e7df413a93c64663732"), looks := false }, kinds := [], alts := [], laidByText := true, laidKinds := [.data, .data], laidTests := true, laidLooks := .later }
def SieveTellsCardSaid : Prop := Claim7.holds Tryd.pinned (.plain (OpenSpec.ofChange sieveTellsSpec)) sieveTellsCard

/-- THE TIED CARD OF 'grapevinelaw18.SieveHalves'. -/
def sieveHalvesCard : Claim7 := { stood := { row := sieveHalvesRow, standIns := [], harness := (true, "75dfbef7755c6058552edc43712266869742bb8050605e7df413a93c64663732"), looks := false }, kinds := [], alts := [], laidByText := true, laidKinds := [.data], laidTests := true, laidLooks := .later }
def SieveHalvesCardSaid : Prop := Claim7.holds Tryd.pinned (.plain (OpenSpec.ofChange sieveHalvesSpec)) sieveHalvesCard

/-- THE TIED CARD OF 'grapevinelaw18.SieveMarks'. -/
def sieveMarksCard : Claim7 := { stood := { row := sieveMarksRow, standIns := [], harness := (true, "75dfbef7755c6058552edc43712266869742bb8050605e7df413a93c64663732"), looks := false }, kinds := [], alts := [], laidByText := true, laidKinds := [.data, .data], laidTests := true, laidLooks := .later }
def SieveMarksCardSaid : Prop := Claim7.holds Tryd.pinned (.plain (OpenSpec.ofChange sieveMarksSpec)) sieveMarksCard

/-- THE TIED CARD OF 'grapevinelaw18.SieveFinds'. -/
def sieveFindsCard : Claim7 := { stood := { row := sieveFindsRow, standIns := [], harness := (true, "75dfbef7755c6058552edc43712266869742bb8050605e7df413a93c64663732"), looks := false }, kinds := [], alts := [], laidByText := true, laidKinds := [.data], laidTests := true, laidLooks := .later }
def SieveFindsCardSaid : Prop := Claim7.holds Tryd.pinned (.plain (OpenSpec.ofChange sieveFindsSpec)) sieveFindsCard

/-- THE TIED CARD OF 'grapevinelaw18.SieveParts'. -/
def sievePartsCard : Claim7 := { stood := { row := sievePartsRow, standIns := [], harness := (true, "75dfbef7755c6058552edc43712266869742bb8050605e7df413a93c64663732"), looks := false }, kinds := [], alts := [], laidByText := true, laidKinds := [.data], laidTests := true, laidLooks := .later }
def SievePartsCardSaid : Prop := Claim7.holds Tryd.pinned (.plain (OpenSpec.ofChange sievePartsSpec)) sievePartsCard

/-- THE SECOND FORM's CARD OF 'grapevinelaw18.SieveTells'. -/
def sieveTellsUptoCard : Claim7 := { stood := { row := sieveTellsUptoRow, standIns := [], harness := (true, "75dfbef7755c6058552edc43712266869742bb8050605e7df413a93c64663732"), looks := false }, kinds := [], alts := [], laidByText := true, laidKinds := [.data, .data], laidTests := true, laidLooks := .later }
def SieveTellsUptoCardSaid : Prop := Claim7.holds Tryd.pinned (.plain (OpenSpec.upto sieveTellsSpec)) sieveTellsUptoCard

/-- THE SECOND FORM's CARD OF 'grapevinelaw18.SieveHalves'. -/
def sieveHalvesUptoCard : Claim7 := { stood := { row := sieveHalvesUptoRow, standIns := [], harness := (true, "75dfbef7755c6058552edc43712266869742bb8050605e7df413a93c64663732"), looks := false }, kinds := [], alts := [], laidByText := true, laidKinds := [.data], laidTests := true, laidLooks := .later }
def SieveHalvesUptoCardSaid : Prop := Claim7.holds Tryd.pinned (.plain (OpenSpec.upto sieveHalvesSpec)) sieveHalvesUptoCard

/-- THE SECOND FORM's CARD OF 'grapevinelaw18.SieveMarks'. -/
def sieveMarksUptoCard : Claim7 := { stood := { row := sieveMarksUptoRow, standIns := [], harness := (true, "75dfbef7755c6058552edc43712266869742bb8050605e7df413a93c64663732"), looks := false }, kinds := [], alts := [], laidByText := true, laidKinds := [.data, .data], laidTests := true, laidLooks := .later }
def SieveMarksUptoCardSaid : Prop := Claim7.holds Tryd.pinned (.plain (OpenSpec.upto sieveMarksSpec)) sieveMarksUptoCard

/-- THE SECOND FORM's CARD OF 'grapevinelaw18.SieveFinds'. -/
def sieveFindsUptoCard : Claim7 := { stood := { row := sieveFindsUptoRow, standIns := [], harness := (true, "75dfbef7755c6058552edc43712266869742bb8050605e7df413a93c64663732"), looks := false }, kinds := [], alts := [], laidByText := true, laidKinds := [.data], laidTests := true, laidLooks := .later }
def SieveFindsUptoCardSaid : Prop := Claim7.holds Tryd.pinned (.plain (OpenSpec.upto sieveFindsSpec)) sieveFindsUptoCard

/-- THE SECOND FORM's CARD OF 'grapevinelaw18.SieveParts'. -/
def sievePartsUptoCard : Claim7 := { stood := { row := sievePartsUptoRow, standIns := [], harness := (true, "75dfbef7755c6058552edc43712266869742bb8050605e7df413a93c64663732"), looks := false }, kinds := [], alts := [], laidByText := true, laidKinds := [.data], laidTests := true, laidLooks := .later }
def SievePartsUptoCardSaid : Prop := Claim7.holds Tryd.pinned (.plain (OpenSpec.upto sievePartsSpec)) sievePartsUptoCard
end Rows
end Go.Proofs.YtbialojkkhkjeaaDoor
