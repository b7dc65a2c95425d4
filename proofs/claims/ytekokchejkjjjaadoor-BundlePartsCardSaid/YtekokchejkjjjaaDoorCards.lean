/-
  DERIVED. GIVEN WITH THE SEED: THE CARDS: each row of YtekokchejkjjjaaDoorRows.lean that lists a variable, with what it lists TIED to the program's text (the seventh form; the later family's looks); each row that meets fmt, with fmt's text TOLD by the authors' own Lean function (tested against real Go, not proved from fmt's source: count such statements apart). THE CARD IS WHAT COUNTS. Prove the row's statement (the work); the ties are given (YtekokchejkjjjaaDoorTie.lean); close each card by the builder's one call (the guide's Derived/Test/ToyasCard.lean, 'card_holds'). Laid BY PROGRAM, IN A SANDBOX (cutbox-door.mjs). By AI agents, Wed Nov 11 2026. No macro, syntax, notation, axiom, sorry.
-/
import Derived.Test.YtekokchejkjjjaaDoorRows
import GoSem.ClaimSeven
namespace Go.Proofs.YtekokchejkjjjaaDoor
namespace Rows

/-- THE TIED CARD OF 'grapevinelaw14.StoreOnce'. -/
def storeOnceCard : Claim7 := { stood := { row := storeOnceRow, standIns := [], harness := (true, "049b6def868010211c2cce033ff606e4d09a75c2b244923d2ae33232ccf87e8c"), looks := false }, kinds := [], alts := [], laidByText := true, laidKinds := [.data, .data], laidTests := true, laidLooks := .later }
def StoreOnceCardSaid : Prop := Claim7.holds Tryd.pinned (.plain (OpenSpec.ofChange storeOnceSpec)) storeOnceCard

/-- THE TIED CARD OF 'grapevinelaw14.StoreOpens'. -/
def storeOpensCard : Claim7 := { stood := { row := storeOpensRow, standIns := [], harness := (true, "049b6def868010211c2cce033ff606e4d09a75c2b244923d2ae33232ccf87e8c"), looks := false }, kinds := [], alts := [], laidByText := true, laidKinds := [.data, .data], laidTests := true, laidLooks := .later }
def StoreOpensCardSaid : Prop := Claim7.holds Tryd.pinned (.plain (OpenSpec.ofChange storeOpensSpec)) storeOpensCard

/-- THE TIED CARD OF 'grapevinelaw14.StoreOwn'. -/
def storeOwnCard : Claim7 := { stood := { row := storeOwnRow, standIns := [], harness := (true, "049b6def868010211c2cce033ff606e4d09a75c2b244923d2ae33232ccf87e8c"), looks := false }, kinds := [], alts := [], laidByText := true, laidKinds := [.data, .data], laidTests := true, laidLooks := .later }
def StoreOwnCardSaid : Prop := Claim7.holds Tryd.pinned (.plain (OpenSpec.ofChange storeOwnSpec)) storeOwnCard

/-- THE TIED CARD OF 'grapevinelaw14.StoreGoesOn'. -/
def storeGoesOnCard : Claim7 := { stood := { row := storeGoesOnRow, standIns := [], harness := (true, "049b6def868010211c2cce033ff606e4d09a75c2b244923d2ae33232ccf87e8c"), looks := false }, kinds := [], alts := [], laidByText := true, laidKinds := [.data, .data], laidTests := true, laidLooks := .later }
def StoreGoesOnCardSaid : Prop := Claim7.holds Tryd.pinned (.plain (OpenSpec.ofChange storeGoesOnSpec)) storeGoesOnCard

/-- THE TIED CARD OF 'grapevinelaw14.StorePlays'. -/
def storePlaysCard : Claim7 := { stood := { row := storePlaysRow, standIns := [], harness := (true, "049b6def868010211c2cce033ff606e4d09a75c2b244923d2ae33232ccf87e8c"), looks := false }, kinds := [], alts := [], laidByText := true, laidKinds := [.data, .data], laidTests := true, laidLooks := .later }
def StorePlaysCardSaid : Prop := Claim7.holds Tryd.pinned (.plain (OpenSpec.ofChange storePlaysSpec)) storePlaysCard

/-- THE TIED CARD OF 'grapevinelaw14.StoreTears'. -/
def storeTearsCard : Claim7 := { stood := { row := storeTearsRow, standIns := [], harness := (true, "049b6def868010211c2cce033ff606e4d09a75c2b244923d2ae33232ccf87e8c"), looks := false }, kinds := [], alts := [], laidByText := true, laidKinds := [.data, .data], laidTests := true, laidLooks := .later }
def StoreTearsCardSaid : Prop := Claim7.holds Tryd.pinned (.plain (OpenSpec.ofChange storeTearsSpec)) storeTearsCard

/-- THE TIED CARD OF 'grapevinelaw20.BundlePacks'. -/
def bundlePacksCard : Claim7 := { stood := { row := bundlePacksRow, standIns := [], harness := (true, "049b6def868010211c2cce033ff606e4d09a75c2b244923d2ae33232ccf87e8c"), looks := false }, kinds := [], alts := [], laidByText := true, laidKinds := [.data, .data], laidTests := true, laidLooks := .later }
def BundlePacksCardSaid : Prop := Claim7.holds Tryd.pinned (.plain (OpenSpec.ofChange bundlePacksSpec)) bundlePacksCard

/-- THE TIED CARD OF 'grapevinelaw20.BundleUnpacks'. -/
def bundleUnpacksCard : Claim7 := { stood := { row := bundleUnpacksRow, standIns := [], harness := (true, "049b6def868010211c2cce033ff606e4d09a75c2b244923d2ae33232ccf87e8c"), looks := false }, kinds := [], alts := [], laidByText := true, laidKinds := [.data, .data], laidTests := true, laidLooks := .later }
def BundleUnpacksCardSaid : Prop := Claim7.holds Tryd.pinned (.plain (OpenSpec.ofChange bundleUnpacksSpec)) bundleUnpacksCard

/-- THE TIED CARD OF 'grapevinelaw20.BundleMany'. -/
def bundleManyCard : Claim7 := { stood := { row := bundleManyRow, standIns := [], harness := (true, "049b6def868010211c2cce033ff606e4d09a75c2b244923d2ae33232ccf87e8c"), looks := false }, kinds := [], alts := [], laidByText := true, laidKinds := [.data, .data], laidTests := true, laidLooks := .later }
def BundleManyCardSaid : Prop := Claim7.holds Tryd.pinned (.plain (OpenSpec.ofChange bundleManySpec)) bundleManyCard

/-- THE TIED CARD OF 'grapevinelaw20.BundleBack'. -/
def bundleBackCard : Claim7 := { stood := { row := bundleBackRow, standIns := [], harness := (true, "049b6def868010211c2cce033ff606e4d09a75c2b244923d2ae33232ccf87e8c"), looks := false }, kinds := [], alts := [], laidByText := true, laidKinds := [.data, .data], laidTests := true, laidLooks := .later }
def BundleBackCardSaid : Prop := Claim7.holds Tryd.pinned (.plain (OpenSpec.ofChange bundleBackSpec)) bundleBackCard

/-- THE TIED CARD OF 'grapevinelaw20.BundleParts'. -/
def bundlePartsCard : Claim7 := { stood := { row := bundlePartsRow, standIns := [], harness := (true, "049b6def868010211c2cce033ff606e4d09a75c2b244923d2ae33232ccf87e8c"), looks := false }, kinds := [], alts := [], laidByText := true, laidKinds := [.data, .data], laidTests := true, laidLooks := .later }
def BundlePartsCardSaid : Prop := Claim7.holds Tryd.pinned (.plain (OpenSpec.ofChange bundlePartsSpec)) bundlePartsCard

/-- THE TIED CARD OF 'grapevinelaw20.BundleShort'. -/
def bundleShortCard : Claim7 := { stood := { row := bundleShortRow, standIns := [], harness := (true, "049b6def868010211c2cce033ff606e4d09a75c2b244923d2ae33232ccf87e8c"), looks := false }, kinds := [], alts := [], laidByText := true, laidKinds := [.data, .data], laidTests := true, laidLooks := .later }
def BundleShortCardSaid : Prop := Claim7.holds Tryd.pinned (.plain (OpenSpec.ofChange bundleShortSpec)) bundleShortCard

/-- THE SECOND FORM's CARD OF 'grapevinelaw14.StoreOnce'. -/
def storeOnceUptoCard : Claim7 := { stood := { row := storeOnceUptoRow, standIns := [], harness := (true, "049b6def868010211c2cce033ff606e4d09a75c2b244923d2ae33232ccf87e8c"), looks := false }, kinds := [], alts := [], laidByText := true, laidKinds := [.data, .data], laidTests := true, laidLooks := .later }
def StoreOnceUptoCardSaid : Prop := Claim7.holds Tryd.pinned (.plain (OpenSpec.upto storeOnceSpec)) storeOnceUptoCard

/-- THE SECOND FORM's CARD OF 'grapevinelaw14.StoreOpens'. -/
def storeOpensUptoCard : Claim7 := { stood := { row := storeOpensUptoRow, standIns := [], harness := (true, "049b6def868010211c2cce033ff606e4d09a75c2b244923d2ae33232ccf87e8c"), looks := false }, kinds := [], alts := [], laidByText := true, laidKinds := [.data, .data], laidTests := true, laidLooks := .later }
def StoreOpensUptoCardSaid : Prop := Claim7.holds Tryd.pinned (.plain (OpenSpec.upto storeOpensSpec)) storeOpensUptoCard

/-- THE SECOND FORM's CARD OF 'grapevinelaw14.StoreOwn'. -/
def storeOwnUptoCard : Claim7 := { stood := { row := storeOwnUptoRow, standIns := [], harness := (true, "049b6def868010211c2cce033ff606e4d09a75c2b244923d2ae33232ccf87e8c"), looks := false }, kinds := [], alts := [], laidByText := true, laidKinds := [.data, .data], laidTests := true, laidLooks := .later }
def StoreOwnUptoCardSaid : Prop := Claim7.holds Tryd.pinned (.plain (OpenSpec.upto storeOwnSpec)) storeOwnUptoCard

/-- THE SECOND FORM's CARD OF 'grapevinelaw14.StoreGoesOn'. -/
def storeGoesOnUptoCard : Claim7 := { stood := { row := storeGoesOnUptoRow, standIns := [], harness := (true, "049b6def868010211c2cce033ff606e4d09a75c2b244923d2ae33232ccf87e8c"), looks := false }, kinds := [], alts := [], laidByText := true, laidKinds := [.data, .data], laidTests := true, laidLooks := .later }
def StoreGoesOnUptoCardSaid : Prop := Claim7.holds Tryd.pinned (.plain (OpenSpec.upto storeGoesOnSpec)) storeGoesOnUptoCard

/-- THE SECOND FORM's CARD OF 'grapevinelaw14.StorePlays'. -/
def storePlaysUptoCard : Claim7 := { stood := { row := storePlaysUptoRow, standIns := [], harness := (true, "049b6def868010211c2cce033ff606e4d09a75c2b244923d2ae33232ccf87e8c"), looks := false }, kinds := [], alts := [], laidByText := true, laidKinds := [.data, .data], laidTests := true, laidLooks := .later }
def StorePlaysUptoCardSaid : Prop := Claim7.holds Tryd.pinned (.plain (OpenSpec.upto storePlaysSpec)) storePlaysUptoCard

/-- THE SECOND FORM's CARD OF 'grapevinelaw14.StoreTears'. -/
def storeTearsUptoCard : Claim7 := { stood := { row := storeTearsUptoRow, standIns := [], harness := (true, "049b6def868010211c2cce033ff606e4d09a75c2b244923d2ae33232ccf87e8c"), looks := false }, kinds := [], alts := [], laidByText := true, laidKinds := [.data, .data], laidTests := true, laidLooks := .later }
def StoreTearsUptoCardSaid : Prop := Claim7.holds Tryd.pinned (.plain (OpenSpec.upto storeTearsSpec)) storeTearsUptoCard

/-- THE SECOND FORM's CARD OF 'grapevinelaw20.BundlePacks'. -/
def bundlePacksUptoCard : Claim7 := { stood := { row := bundlePacksUptoRow, standIns := [], harness := (true, "049b6def868010211c2cce033ff606e4d09a75c2b244923d2ae33232ccf87e8c"), looks := false }, kinds := [], alts := [], laidByText := true, laidKinds := [.data, .data], laidTests := true, laidLooks := .later }
def BundlePacksUptoCardSaid : Prop := Claim7.holds Tryd.pinned (.plain (OpenSpec.upto bundlePacksSpec)) bundlePacksUptoCard

/-- THE SECOND FORM's CARD OF 'grapevinelaw20.BundleUnpacks'. -/
def bundleUnpacksUptoCard : Claim7 := { stood := { row := bundleUnpacksUptoRow, standIns := [], harness := (true, "049b6def868010211c2cce033ff606e4d09a75c2b244923d2ae33232ccf87e8c"), looks := false }, kinds := [], alts := [], laidByText := true, laidKinds := [.data, .data], laidTests := true, laidLooks := .later }
def BundleUnpacksUptoCardSaid : Prop := Claim7.holds Tryd.pinned (.plain (OpenSpec.upto bundleUnpacksSpec)) bundleUnpacksUptoCard

/-- THE SECOND FORM's CARD OF 'grapevinelaw20.BundleMany'. -/
def bundleManyUptoCard : Claim7 := { stood := { row := bundleManyUptoRow, standIns := [], harness := (true, "049b6def868010211c2cce033ff606e4d09a75c2b244923d2ae33232ccf87e8c"), looks := false }, kinds := [], alts := [], laidByText := true, laidKinds := [.data, .data], laidTests := true, laidLooks := .later }
def BundleManyUptoCardSaid : Prop := Claim7.holds Tryd.pinned (.plain (OpenSpec.upto bundleManySpec)) bundleManyUptoCard

/-- THE SECOND FORM's CARD OF 'grapevinelaw20.BundleBack'. -/
def bundleBackUptoCard : Claim7 := { stood := { row := bundleBackUptoRow, standIns := [], harness := (true, "049b6def868010211c2cce033ff606e4d09a75c2b244923d2ae33232ccf87e8c"), looks := false }, kinds := [], alts := [], laidByText := true, laidKinds := [.data, .data], laidTests := true, laidLooks := .later }
def BundleBackUptoCardSaid : Prop := Claim7.holds Tryd.pinned (.plain (OpenSpec.upto bundleBackSpec)) bundleBackUptoCard

/-- THE SECOND FORM's CARD OF 'grapevinelaw20.BundleParts'. -/
def bundlePartsUptoCard : Claim7 := { stood := { row := bundlePartsUptoRow, standIns := [], harness := (true, "049b6def868010211c2cce033ff606e4d09a75c2b244923d2ae33232ccf87e8c"), looks := false }, kinds := [], alts := [], laidByText := true, laidKinds := [.data, .data], laidTests := true, laidLooks := .later }
def BundlePartsUptoCardSaid : Prop := Claim7.holds Tryd.pinned (.plain (OpenSpec.upto bundlePartsSpec)) bundlePartsUptoCard

/-- THE SECOND FORM's CARD OF 'grapevinelaw20.BundleShort'. -/
def bundleShortUptoCard : Claim7 := { stood := { row := bundleShortUptoRow, standIns := [], harness := (true, "049b6def868010211c2cce033ff606e4d09a75c2b244923d2ae33232ccf87e8c"), looks := false }, kinds := [], alts := [], laidByText := true, laidKinds := [.data, .data], laidTests := true, laidLooks := .later }
def BundleShortUptoCardSaid : Prop := Claim7.holds Tryd.pinned (.plain (OpenSpec.upto bundleShortSpec)) bundleShortUptoCard
end Rows
end Go.Proofs.YtekokchejkjjjaaDoor
