/-
  No cell of these rows narrows 'for every input' (looked for: loops, veiled, ifaces, maps, wideKeys, modest, calm, conditions, laid).
  DERIVED. THE GIVEN ROWS OF THIS SEAT. 12 by the template 'for every input the law returns true; each argument reads behind the call as it read before'; 0 by the template 'total and deterministic' (their statements: YtgpcphddjapceaaTotals.lean).
  GIVEN WITH THE SEED: the statements are not yours to turn. If you find one false, say at which input.
  Laid BY PROGRAM, IN A SANDBOX (cutbox-rows.mjs): the forced cells as the released guide's own fill.sh prints them over the translation 3279356d8060f432… (all of the seat's roots in one cut). By AI agents, Wed Nov 11 2026. No macro, syntax, notation, axiom, sorry.
-/
import Derived.Test.YtgpcphddjapceaaChecked
import GoSem.Claim
import GoSem.ClaimJoined
import GoSem.ClaimMapViews
import Derived.JoinedTies
import Derived.KernelRfl
namespace Go.Proofs.Ytgpcphddjapceaa
/- THE CELL 'sum', in the pinned program and in every row, IS THE sha256 OF THE DUMP (.gsa) THAT YtgpcphddjapceaaProg.lean LOADS. Nothing in Lean hashes anything: it is a label: what it is worth is what the hold of that sum in a sandbox is worth. -/
noncomputable def Try.pinned : Pinned := { name := "ytgpcphddjapceaa", sum := "3279356d8060f4323edea5a08698b2111e8f4ded2af8dcd781df7d22622bdb81", checked := Try.checked }
namespace Rows
def none {H : Type} : Left H := { results := [], args := [] }

/-- 'grapevinelaw13.DiskParts': WHATEVER THE INPUT: true; the input reads as it did. -/
def diskPartsSpec : ChangeSpec := { name := "diskParts", fn := fun _ => fun
  | [d1, d2, d3] => { results := [.lit (.bool true)], args := [d1, d2, d3] }
  | _ => none }
def diskPartsRow : OpenClaim := { program := "ytgpcphddjapceaa", sum := "3279356d8060f4323edea5a08698b2111e8f4ded2af8dcd781df7d22622bdb81", func := "grapevine/grapevinelaw13.DiskParts", spec := "diskParts", unfollowed := true, recurses := true, apart := false }
def DiskPartsSaid : Prop := diskPartsRow.holds Try.pinned (OpenSpec.ofChange diskPartsSpec)

/-- ITS FALSE NEIGHBOUR: 'it returns false'. Refute it at one input. -/
def diskPartsWrong : ChangeSpec := { name := "diskParts", fn := fun _ => fun
  | [d1, d2, d3] => { results := [.lit (.bool false)], args := [d1, d2, d3] }
  | _ => none }
def DiskPartsWrongFalsely : Prop := diskPartsRow.holds Try.pinned (OpenSpec.ofChange diskPartsWrong)

/-- 'grapevinelaw13.DiskPlays': WHATEVER THE INPUT: true; the input reads as it did. -/
def diskPlaysSpec : ChangeSpec := { name := "diskPlays", fn := fun _ => fun
  | [d1, d2] => { results := [.lit (.bool true)], args := [d1, d2] }
  | _ => none }
def diskPlaysRow : OpenClaim := { program := "ytgpcphddjapceaa", sum := "3279356d8060f4323edea5a08698b2111e8f4ded2af8dcd781df7d22622bdb81", func := "grapevine/grapevinelaw13.DiskPlays", spec := "diskPlays", unfollowed := true, recurses := true, apart := false }
def DiskPlaysSaid : Prop := diskPlaysRow.holds Try.pinned (OpenSpec.ofChange diskPlaysSpec)

/-- ITS FALSE NEIGHBOUR: 'it returns false'. Refute it at one input. -/
def diskPlaysWrong : ChangeSpec := { name := "diskPlays", fn := fun _ => fun
  | [d1, d2] => { results := [.lit (.bool false)], args := [d1, d2] }
  | _ => none }
def DiskPlaysWrongFalsely : Prop := diskPlaysRow.holds Try.pinned (OpenSpec.ofChange diskPlaysWrong)

/-- 'grapevinelaw13.DiskTears': WHATEVER THE INPUT: true; the input reads as it did. -/
def diskTearsSpec : ChangeSpec := { name := "diskTears", fn := fun _ => fun
  | [d1, d2, d3, d4] => { results := [.lit (.bool true)], args := [d1, d2, d3, d4] }
  | _ => none }
def diskTearsRow : OpenClaim := { program := "ytgpcphddjapceaa", sum := "3279356d8060f4323edea5a08698b2111e8f4ded2af8dcd781df7d22622bdb81", func := "grapevine/grapevinelaw13.DiskTears", spec := "diskTears", unfollowed := true, recurses := true, apart := false }
def DiskTearsSaid : Prop := diskTearsRow.holds Try.pinned (OpenSpec.ofChange diskTearsSpec)

/-- ITS FALSE NEIGHBOUR: 'it returns false'. Refute it at one input. -/
def diskTearsWrong : ChangeSpec := { name := "diskTears", fn := fun _ => fun
  | [d1, d2, d3, d4] => { results := [.lit (.bool false)], args := [d1, d2, d3, d4] }
  | _ => none }
def DiskTearsWrongFalsely : Prop := diskTearsRow.holds Try.pinned (OpenSpec.ofChange diskTearsWrong)

/-- 'grapevinelaw13.DiskRoom': WHATEVER THE INPUT: true; the input reads as it did. -/
def diskRoomSpec : ChangeSpec := { name := "diskRoom", fn := fun _ => fun
  | [d1, d2] => { results := [.lit (.bool true)], args := [d1, d2] }
  | _ => none }
def diskRoomRow : OpenClaim := { program := "ytgpcphddjapceaa", sum := "3279356d8060f4323edea5a08698b2111e8f4ded2af8dcd781df7d22622bdb81", func := "grapevine/grapevinelaw13.DiskRoom", spec := "diskRoom", unfollowed := true, recurses := true, apart := false }
def DiskRoomSaid : Prop := diskRoomRow.holds Try.pinned (OpenSpec.ofChange diskRoomSpec)

/-- ITS FALSE NEIGHBOUR: 'it returns false'. Refute it at one input. -/
def diskRoomWrong : ChangeSpec := { name := "diskRoom", fn := fun _ => fun
  | [d1, d2] => { results := [.lit (.bool false)], args := [d1, d2] }
  | _ => none }
def DiskRoomWrongFalsely : Prop := diskRoomRow.holds Try.pinned (OpenSpec.ofChange diskRoomWrong)

/-- 'grapevinelaw13.DiskCopies': WHATEVER THE INPUT: true; the input reads as it did. -/
def diskCopiesSpec : ChangeSpec := { name := "diskCopies", fn := fun _ => fun
  | [d1, d2, d3] => { results := [.lit (.bool true)], args := [d1, d2, d3] }
  | _ => none }
def diskCopiesRow : OpenClaim := { program := "ytgpcphddjapceaa", sum := "3279356d8060f4323edea5a08698b2111e8f4ded2af8dcd781df7d22622bdb81", func := "grapevine/grapevinelaw13.DiskCopies", spec := "diskCopies", unfollowed := true, recurses := true, apart := false }
def DiskCopiesSaid : Prop := diskCopiesRow.holds Try.pinned (OpenSpec.ofChange diskCopiesSpec)

/-- ITS FALSE NEIGHBOUR: 'it returns false'. Refute it at one input. -/
def diskCopiesWrong : ChangeSpec := { name := "diskCopies", fn := fun _ => fun
  | [d1, d2, d3] => { results := [.lit (.bool false)], args := [d1, d2, d3] }
  | _ => none }
def DiskCopiesWrongFalsely : Prop := diskCopiesRow.holds Try.pinned (OpenSpec.ofChange diskCopiesWrong)

/-- 'grapevinelaw02.WirePuts': WHATEVER THE INPUT: true; the input reads as it did. -/
def wirePutsSpec : ChangeSpec := { name := "wirePuts", fn := fun _ => fun
  | [d1, d2, d3] => { results := [.lit (.bool true)], args := [d1, d2, d3] }
  | _ => none }
def wirePutsRow : OpenClaim := { program := "ytgpcphddjapceaa", sum := "3279356d8060f4323edea5a08698b2111e8f4ded2af8dcd781df7d22622bdb81", func := "grapevine/grapevinelaw02.WirePuts", spec := "wirePuts", unfollowed := true, recurses := true, apart := false }
def WirePutsSaid : Prop := wirePutsRow.holds Try.pinned (OpenSpec.ofChange wirePutsSpec)

/-- ITS FALSE NEIGHBOUR: 'it returns false'. Refute it at one input. -/
def wirePutsWrong : ChangeSpec := { name := "wirePuts", fn := fun _ => fun
  | [d1, d2, d3] => { results := [.lit (.bool false)], args := [d1, d2, d3] }
  | _ => none }
def WirePutsWrongFalsely : Prop := wirePutsRow.holds Try.pinned (OpenSpec.ofChange wirePutsWrong)

/-- 'grapevinelaw02.WireOne': WHATEVER THE INPUT: true; the input reads as it did. -/
def wireOneSpec : ChangeSpec := { name := "wireOne", fn := fun _ => fun
  | [d] => { results := [.lit (.bool true)], args := [d] }
  | _ => none }
def wireOneRow : OpenClaim := { program := "ytgpcphddjapceaa", sum := "3279356d8060f4323edea5a08698b2111e8f4ded2af8dcd781df7d22622bdb81", func := "grapevine/grapevinelaw02.WireOne", spec := "wireOne", unfollowed := true, recurses := true, apart := false }
def WireOneSaid : Prop := wireOneRow.holds Try.pinned (OpenSpec.ofChange wireOneSpec)

/-- ITS FALSE NEIGHBOUR: 'it returns false'. Refute it at one input. -/
def wireOneWrong : ChangeSpec := { name := "wireOne", fn := fun _ => fun
  | [d] => { results := [.lit (.bool false)], args := [d] }
  | _ => none }
def WireOneWrongFalsely : Prop := wireOneRow.holds Try.pinned (OpenSpec.ofChange wireOneWrong)

/-- 'grapevinelaw02.WireReads': WHATEVER THE INPUT: true; the input reads as it did. -/
def wireReadsSpec : ChangeSpec := { name := "wireReads", fn := fun _ => fun
  | [d1, d2] => { results := [.lit (.bool true)], args := [d1, d2] }
  | _ => none }
def wireReadsRow : OpenClaim := { program := "ytgpcphddjapceaa", sum := "3279356d8060f4323edea5a08698b2111e8f4ded2af8dcd781df7d22622bdb81", func := "grapevine/grapevinelaw02.WireReads", spec := "wireReads", unfollowed := true, recurses := true, apart := false }
def WireReadsSaid : Prop := wireReadsRow.holds Try.pinned (OpenSpec.ofChange wireReadsSpec)

/-- ITS FALSE NEIGHBOUR: 'it returns false'. Refute it at one input. -/
def wireReadsWrong : ChangeSpec := { name := "wireReads", fn := fun _ => fun
  | [d1, d2] => { results := [.lit (.bool false)], args := [d1, d2] }
  | _ => none }
def WireReadsWrongFalsely : Prop := wireReadsRow.holds Try.pinned (OpenSpec.ofChange wireReadsWrong)

/-- 'grapevinelaw02.WireStops': WHATEVER THE INPUT: true; the input reads as it did. -/
def wireStopsSpec : ChangeSpec := { name := "wireStops", fn := fun _ => fun
  | [d1, d2, d3] => { results := [.lit (.bool true)], args := [d1, d2, d3] }
  | _ => none }
def wireStopsRow : OpenClaim := { program := "ytgpcphddjapceaa", sum := "3279356d8060f4323edea5a08698b2111e8f4ded2af8dcd781df7d22622bdb81", func := "grapevine/grapevinelaw02.WireStops", spec := "wireStops", unfollowed := true, recurses := true, apart := false }
def WireStopsSaid : Prop := wireStopsRow.holds Try.pinned (OpenSpec.ofChange wireStopsSpec)

/-- ITS FALSE NEIGHBOUR: 'it returns false'. Refute it at one input. -/
def wireStopsWrong : ChangeSpec := { name := "wireStops", fn := fun _ => fun
  | [d1, d2, d3] => { results := [.lit (.bool false)], args := [d1, d2, d3] }
  | _ => none }
def WireStopsWrongFalsely : Prop := wireStopsRow.holds Try.pinned (OpenSpec.ofChange wireStopsWrong)

/-- 'grapevinelaw02.WireOwn': WHATEVER THE INPUT: true; the input reads as it did. -/
def wireOwnSpec : ChangeSpec := { name := "wireOwn", fn := fun _ => fun
  | [d1, d2, d3] => { results := [.lit (.bool true)], args := [d1, d2, d3] }
  | _ => none }
def wireOwnRow : OpenClaim := { program := "ytgpcphddjapceaa", sum := "3279356d8060f4323edea5a08698b2111e8f4ded2af8dcd781df7d22622bdb81", func := "grapevine/grapevinelaw02.WireOwn", spec := "wireOwn", unfollowed := true, recurses := true, apart := false }
def WireOwnSaid : Prop := wireOwnRow.holds Try.pinned (OpenSpec.ofChange wireOwnSpec)

/-- ITS FALSE NEIGHBOUR: 'it returns false'. Refute it at one input. -/
def wireOwnWrong : ChangeSpec := { name := "wireOwn", fn := fun _ => fun
  | [d1, d2, d3] => { results := [.lit (.bool false)], args := [d1, d2, d3] }
  | _ => none }
def WireOwnWrongFalsely : Prop := wireOwnRow.holds Try.pinned (OpenSpec.ofChange wireOwnWrong)

/-- 'grapevinelaw02.WireAgain': WHATEVER THE INPUT: true; the input reads as it did. -/
def wireAgainSpec : ChangeSpec := { name := "wireAgain", fn := fun _ => fun
  | [d1, d2, d3] => { results := [.lit (.bool true)], args := [d1, d2, d3] }
  | _ => none }
def wireAgainRow : OpenClaim := { program := "ytgpcphddjapceaa", sum := "3279356d8060f4323edea5a08698b2111e8f4ded2af8dcd781df7d22622bdb81", func := "grapevine/grapevinelaw02.WireAgain", spec := "wireAgain", unfollowed := true, recurses := true, apart := false }
def WireAgainSaid : Prop := wireAgainRow.holds Try.pinned (OpenSpec.ofChange wireAgainSpec)

/-- ITS FALSE NEIGHBOUR: 'it returns false'. Refute it at one input. -/
def wireAgainWrong : ChangeSpec := { name := "wireAgain", fn := fun _ => fun
  | [d1, d2, d3] => { results := [.lit (.bool false)], args := [d1, d2, d3] }
  | _ => none }
def WireAgainWrongFalsely : Prop := wireAgainRow.holds Try.pinned (OpenSpec.ofChange wireAgainWrong)

/-- 'grapevinelaw02.WireBack': WHATEVER THE INPUT: true; the input reads as it did. -/
def wireBackSpec : ChangeSpec := { name := "wireBack", fn := fun _ => fun
  | [d1, d2] => { results := [.lit (.bool true)], args := [d1, d2] }
  | _ => none }
def wireBackRow : OpenClaim := { program := "ytgpcphddjapceaa", sum := "3279356d8060f4323edea5a08698b2111e8f4ded2af8dcd781df7d22622bdb81", func := "grapevine/grapevinelaw02.WireBack", spec := "wireBack", unfollowed := true, recurses := true, apart := false }
def WireBackSaid : Prop := wireBackRow.holds Try.pinned (OpenSpec.ofChange wireBackSpec)

/-- ITS FALSE NEIGHBOUR: 'it returns false'. Refute it at one input. -/
def wireBackWrong : ChangeSpec := { name := "wireBack", fn := fun _ => fun
  | [d1, d2] => { results := [.lit (.bool false)], args := [d1, d2] }
  | _ => none }
def WireBackWrongFalsely : Prop := wireBackRow.holds Try.pinned (OpenSpec.ofChange wireBackWrong)

/- THE SECOND FORM. 'bulk': how many values and letters a reading holds, each counted each time it is reached (what is shared counts as often as it is met; a slice's spare places count too). A statement '..UptoSaid' is the law's where the arguments, and the package variables that the reading takes, are together of bulk at most 1048576: NARROWER than '..Said'. Prove '..Said' where nothing that the law and all that it calls make is longer than what came in: it says more and counts as full. Else prove '..UptoSaid'. A law counts once. -/
mutual
def uptoBulk {H : Type} : DataW H → Nat
  | .lit (.string bytes) => bytes.length + 1
  | .lit _ => 1
  | .nil => 1
  | .ptr d => uptoBulk d + 1
  | .slice elems spare => uptoBulkAll elems + uptoBulkAll spare + 1
  | .agg parts => uptoBulkAll parts + 1
  | .iface _ d => uptoBulk d + 1
  | .map entries => uptoBulkEntries entries + 1
  | .held _ => 1
def uptoBulkAll {H : Type} : List (DataW H) → Nat
  | [] => 0
  | d :: r => uptoBulk d + uptoBulkAll r
def uptoBulkEntries {H : Type} : List (Lit × DataW H) → Nat
  | [] => 0
  | x :: r => uptoBulkEntry x + uptoBulkEntries r
def uptoBulkEntry {H : Type} : Lit × DataW H → Nat
  | (.string bytes, d) => bytes.length + uptoBulk d + 1
  | (_, d) => uptoBulk d + 1
 end
def uptoSmall : (H : Type) → List (DataW H) → Bool := fun _ ds => decide (uptoBulkAll ds ≤ 1048576)
def OpenSpec.upto (s : _root_.Go.ChangeSpec) : _root_.Go.OpenSpec := { _root_.Go.OpenSpec.ofChange s with cond := some uptoSmall }

/-- 'grapevinelaw13.DiskParts', WHERE WHAT IT READS IS OF BULK AT MOST 1048576: true; the input reads as it did. -/
def diskPartsUptoRow : OpenClaim := { program := "ytgpcphddjapceaa", sum := "3279356d8060f4323edea5a08698b2111e8f4ded2af8dcd781df7d22622bdb81", func := "grapevine/grapevinelaw13.DiskParts", spec := "diskParts", unfollowed := true, recurses := true, apart := false, narrowed := true }
def DiskPartsUptoSaid : Prop := diskPartsUptoRow.holds Try.pinned (OpenSpec.upto diskPartsSpec)

/-- 'grapevinelaw13.DiskPlays', WHERE WHAT IT READS IS OF BULK AT MOST 1048576: true; the input reads as it did. -/
def diskPlaysUptoRow : OpenClaim := { program := "ytgpcphddjapceaa", sum := "3279356d8060f4323edea5a08698b2111e8f4ded2af8dcd781df7d22622bdb81", func := "grapevine/grapevinelaw13.DiskPlays", spec := "diskPlays", unfollowed := true, recurses := true, apart := false, narrowed := true }
def DiskPlaysUptoSaid : Prop := diskPlaysUptoRow.holds Try.pinned (OpenSpec.upto diskPlaysSpec)

/-- 'grapevinelaw13.DiskTears', WHERE WHAT IT READS IS OF BULK AT MOST 1048576: true; the input reads as it did. -/
def diskTearsUptoRow : OpenClaim := { program := "ytgpcphddjapceaa", sum := "3279356d8060f4323edea5a08698b2111e8f4ded2af8dcd781df7d22622bdb81", func := "grapevine/grapevinelaw13.DiskTears", spec := "diskTears", unfollowed := true, recurses := true, apart := false, narrowed := true }
def DiskTearsUptoSaid : Prop := diskTearsUptoRow.holds Try.pinned (OpenSpec.upto diskTearsSpec)

/-- 'grapevinelaw13.DiskRoom', WHERE WHAT IT READS IS OF BULK AT MOST 1048576: true; the input reads as it did. -/
def diskRoomUptoRow : OpenClaim := { program := "ytgpcphddjapceaa", sum := "3279356d8060f4323edea5a08698b2111e8f4ded2af8dcd781df7d22622bdb81", func := "grapevine/grapevinelaw13.DiskRoom", spec := "diskRoom", unfollowed := true, recurses := true, apart := false, narrowed := true }
def DiskRoomUptoSaid : Prop := diskRoomUptoRow.holds Try.pinned (OpenSpec.upto diskRoomSpec)

/-- 'grapevinelaw13.DiskCopies', WHERE WHAT IT READS IS OF BULK AT MOST 1048576: true; the input reads as it did. -/
def diskCopiesUptoRow : OpenClaim := { program := "ytgpcphddjapceaa", sum := "3279356d8060f4323edea5a08698b2111e8f4ded2af8dcd781df7d22622bdb81", func := "grapevine/grapevinelaw13.DiskCopies", spec := "diskCopies", unfollowed := true, recurses := true, apart := false, narrowed := true }
def DiskCopiesUptoSaid : Prop := diskCopiesUptoRow.holds Try.pinned (OpenSpec.upto diskCopiesSpec)

/-- 'grapevinelaw02.WirePuts', WHERE WHAT IT READS IS OF BULK AT MOST 1048576: true; the input reads as it did. -/
def wirePutsUptoRow : OpenClaim := { program := "ytgpcphddjapceaa", sum := "3279356d8060f4323edea5a08698b2111e8f4ded2af8dcd781df7d22622bdb81", func := "grapevine/grapevinelaw02.WirePuts", spec := "wirePuts", unfollowed := true, recurses := true, apart := false, narrowed := true }
def WirePutsUptoSaid : Prop := wirePutsUptoRow.holds Try.pinned (OpenSpec.upto wirePutsSpec)

/-- 'grapevinelaw02.WireOne', WHERE WHAT IT READS IS OF BULK AT MOST 1048576: true; the input reads as it did. -/
def wireOneUptoRow : OpenClaim := { program := "ytgpcphddjapceaa", sum := "3279356d8060f4323edea5a08698b2111e8f4ded2af8dcd781df7d22622bdb81", func := "grapevine/grapevinelaw02.WireOne", spec := "wireOne", unfollowed := true, recurses := true, apart := false, narrowed := true }
def WireOneUptoSaid : Prop := wireOneUptoRow.holds Try.pinned (OpenSpec.upto wireOneSpec)

/-- 'grapevinelaw02.WireReads', WHERE WHAT IT READS IS OF BULK AT MOST 1048576: true; the input reads as it did. -/
def wireReadsUptoRow : OpenClaim := { program := "ytgpcphddjapceaa", sum := "3279356d8060f4323edea5a08698b2111e8f4ded2af8dcd781df7d22622bdb81", func := "grapevine/grapevinelaw02.WireReads", spec := "wireReads", unfollowed := true, recurses := true, apart := false, narrowed := true }
def WireReadsUptoSaid : Prop := wireReadsUptoRow.holds Try.pinned (OpenSpec.upto wireReadsSpec)

/-- 'grapevinelaw02.WireStops', WHERE WHAT IT READS IS OF BULK AT MOST 1048576: true; the input reads as it did. -/
def wireStopsUptoRow : OpenClaim := { program := "ytgpcphddjapceaa", sum := "3279356d8060f4323edea5a08698b2111e8f4ded2af8dcd781df7d22622bdb81", func := "grapevine/grapevinelaw02.WireStops", spec := "wireStops", unfollowed := true, recurses := true, apart := false, narrowed := true }
def WireStopsUptoSaid : Prop := wireStopsUptoRow.holds Try.pinned (OpenSpec.upto wireStopsSpec)

/-- 'grapevinelaw02.WireOwn', WHERE WHAT IT READS IS OF BULK AT MOST 1048576: true; the input reads as it did. -/
def wireOwnUptoRow : OpenClaim := { program := "ytgpcphddjapceaa", sum := "3279356d8060f4323edea5a08698b2111e8f4ded2af8dcd781df7d22622bdb81", func := "grapevine/grapevinelaw02.WireOwn", spec := "wireOwn", unfollowed := true, recurses := true, apart := false, narrowed := true }
def WireOwnUptoSaid : Prop := wireOwnUptoRow.holds Try.pinned (OpenSpec.upto wireOwnSpec)

/-- 'grapevinelaw02.WireAgain', WHERE WHAT IT READS IS OF BULK AT MOST 1048576: true; the input reads as it did. -/
def wireAgainUptoRow : OpenClaim := { program := "ytgpcphddjapceaa", sum := "3279356d8060f4323edea5a08698b2111e8f4ded2af8dcd781df7d22622bdb81", func := "grapevine/grapevinelaw02.WireAgain", spec := "wireAgain", unfollowed := true, recurses := true, apart := false, narrowed := true }
def WireAgainUptoSaid : Prop := wireAgainUptoRow.holds Try.pinned (OpenSpec.upto wireAgainSpec)

/-- 'grapevinelaw02.WireBack', WHERE WHAT IT READS IS OF BULK AT MOST 1048576: true; the input reads as it did. -/
def wireBackUptoRow : OpenClaim := { program := "ytgpcphddjapceaa", sum := "3279356d8060f4323edea5a08698b2111e8f4ded2af8dcd781df7d22622bdb81", func := "grapevine/grapevinelaw02.WireBack", spec := "wireBack", unfollowed := true, recurses := true, apart := false, narrowed := true }
def WireBackUptoSaid : Prop := wireBackUptoRow.holds Try.pinned (OpenSpec.upto wireBackSpec)

end Rows
end Go.Proofs.Ytgpcphddjapceaa
