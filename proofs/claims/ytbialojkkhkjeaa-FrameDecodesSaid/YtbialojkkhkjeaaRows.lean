/-
  No cell of these rows narrows 'for every input' (looked for: loops, veiled, ifaces, maps, wideKeys, modest, calm, conditions, laid).
  DERIVED. THE GIVEN ROWS OF THIS SEAT. 6 by the template 'for every input the law returns true; each argument reads behind the call as it read before'; 0 by the template 'total and deterministic' (their statements: YtbialojkkhkjeaaTotals.lean).
  GIVEN WITH THE SEED: the statements are not yours to turn. If you find one false, say at which input.
  Laid BY PROGRAM, IN A SANDBOX (cutbox-rows.mjs): the forced cells as the released guide's own fill.sh prints them over the translation 26252b5081fe4b1b… (all of the seat's roots in one cut). By AI agents, Wed Nov 11 2026. No macro, syntax, notation, axiom, sorry.
-/
import Derived.Test.YtbialojkkhkjeaaChecked
import GoSem.Claim
import GoSem.ClaimJoined
import GoSem.ClaimMapViews
import Derived.JoinedTies
import Derived.KernelRfl
namespace Go.Proofs.Ytbialojkkhkjeaa
/- THE CELL 'sum', in the pinned program and in every row, IS THE sha256 OF THE DUMP (.gsa) THAT YtbialojkkhkjeaaProg.lean LOADS. Nothing in Lean hashes anything: it is a label: what it is worth is what the hold of that sum in a sandbox is worth. -/
noncomputable def Try.pinned : Pinned := { name := "ytbialojkkhkjeaa", sum := "26252b5081fe4b1b63b6d6c9899a8f8e9d700d4d5ce36d47be691ec8128398b1", checked := Try.checked }
namespace Rows
def none {H : Type} : Left H := { results := [], args := [] }

/-- 'grapevinelaw21.FrameChecks': WHATEVER THE INPUT: true; the input reads as it did. -/
def frameChecksSpec : ChangeSpec := { name := "frameChecks", fn := fun _ => fun
  | [d] => { results := [.lit (.bool true)], args := [d] }
  | _ => none }
def frameChecksRow : OpenClaim := { program := "ytbialojkkhkjeaa", sum := "26252b5081fe4b1b63b6d6c9899a8f8e9d700d4d5ce36d47be691ec8128398b1", func := "grapevine/grapevinelaw21.FrameChecks", spec := "frameChecks", unfollowed := true, recurses := true, apart := false }
def FrameChecksSaid : Prop := frameChecksRow.holds Try.pinned (OpenSpec.ofChange frameChecksSpec)

/-- ITS FALSE NEIGHBOUR: 'it returns false'. Refute it at one input. -/
def frameChecksWrong : ChangeSpec := { name := "frameChecks", fn := fun _ => fun
  | [d] => { results := [.lit (.bool false)], args := [d] }
  | _ => none }
def FrameChecksWrongFalsely : Prop := frameChecksRow.holds Try.pinned (OpenSpec.ofChange frameChecksWrong)

/-- 'grapevinelaw21.FrameEncodes': WHATEVER THE INPUT: true; the input reads as it did. -/
def frameEncodesSpec : ChangeSpec := { name := "frameEncodes", fn := fun _ => fun
  | [d] => { results := [.lit (.bool true)], args := [d] }
  | _ => none }
def frameEncodesRow : OpenClaim := { program := "ytbialojkkhkjeaa", sum := "26252b5081fe4b1b63b6d6c9899a8f8e9d700d4d5ce36d47be691ec8128398b1", func := "grapevine/grapevinelaw21.FrameEncodes", spec := "frameEncodes", unfollowed := true, recurses := true, apart := false }
def FrameEncodesSaid : Prop := frameEncodesRow.holds Try.pinned (OpenSpec.ofChange frameEncodesSpec)

/-- ITS FALSE NEIGHBOUR: 'it returns false'. Refute it at one input. -/
def frameEncodesWrong : ChangeSpec := { name := "frameEncodes", fn := fun _ => fun
  | [d] => { results := [.lit (.bool false)], args := [d] }
  | _ => none }
def FrameEncodesWrongFalsely : Prop := frameEncodesRow.holds Try.pinned (OpenSpec.ofChange frameEncodesWrong)

/-- 'grapevinelaw21.FrameDecodes': WHATEVER THE INPUT: true; the input reads as it did. -/
def frameDecodesSpec : ChangeSpec := { name := "frameDecodes", fn := fun _ => fun
  | [d1, d2] => { results := [.lit (.bool true)], args := [d1, d2] }
  | _ => none }
def frameDecodesRow : OpenClaim := { program := "ytbialojkkhkjeaa", sum := "26252b5081fe4b1b63b6d6c9899a8f8e9d700d4d5ce36d47be691ec8128398b1", func := "grapevine/grapevinelaw21.FrameDecodes", spec := "frameDecodes", unfollowed := true, recurses := true, apart := false }
def FrameDecodesSaid : Prop := frameDecodesRow.holds Try.pinned (OpenSpec.ofChange frameDecodesSpec)

/-- ITS FALSE NEIGHBOUR: 'it returns false'. Refute it at one input. -/
def frameDecodesWrong : ChangeSpec := { name := "frameDecodes", fn := fun _ => fun
  | [d1, d2] => { results := [.lit (.bool false)], args := [d1, d2] }
  | _ => none }
def FrameDecodesWrongFalsely : Prop := frameDecodesRow.holds Try.pinned (OpenSpec.ofChange frameDecodesWrong)

/-- 'grapevinelaw21.FrameBack': WHATEVER THE INPUT: true; the input reads as it did. -/
def frameBackSpec : ChangeSpec := { name := "frameBack", fn := fun _ => fun
  | [d1, d2] => { results := [.lit (.bool true)], args := [d1, d2] }
  | _ => none }
def frameBackRow : OpenClaim := { program := "ytbialojkkhkjeaa", sum := "26252b5081fe4b1b63b6d6c9899a8f8e9d700d4d5ce36d47be691ec8128398b1", func := "grapevine/grapevinelaw21.FrameBack", spec := "frameBack", unfollowed := true, recurses := true, apart := false }
def FrameBackSaid : Prop := frameBackRow.holds Try.pinned (OpenSpec.ofChange frameBackSpec)

/-- ITS FALSE NEIGHBOUR: 'it returns false'. Refute it at one input. -/
def frameBackWrong : ChangeSpec := { name := "frameBack", fn := fun _ => fun
  | [d1, d2] => { results := [.lit (.bool false)], args := [d1, d2] }
  | _ => none }
def FrameBackWrongFalsely : Prop := frameBackRow.holds Try.pinned (OpenSpec.ofChange frameBackWrong)

/-- 'grapevinelaw21.FrameBursts': WHATEVER THE INPUT: true; the input reads as it did. -/
def frameBurstsSpec : ChangeSpec := { name := "frameBursts", fn := fun _ => fun
  | [d1, d2, d3] => { results := [.lit (.bool true)], args := [d1, d2, d3] }
  | _ => none }
def frameBurstsRow : OpenClaim := { program := "ytbialojkkhkjeaa", sum := "26252b5081fe4b1b63b6d6c9899a8f8e9d700d4d5ce36d47be691ec8128398b1", func := "grapevine/grapevinelaw21.FrameBursts", spec := "frameBursts", unfollowed := true, recurses := true, apart := false }
def FrameBurstsSaid : Prop := frameBurstsRow.holds Try.pinned (OpenSpec.ofChange frameBurstsSpec)

/-- ITS FALSE NEIGHBOUR: 'it returns false'. Refute it at one input. -/
def frameBurstsWrong : ChangeSpec := { name := "frameBursts", fn := fun _ => fun
  | [d1, d2, d3] => { results := [.lit (.bool false)], args := [d1, d2, d3] }
  | _ => none }
def FrameBurstsWrongFalsely : Prop := frameBurstsRow.holds Try.pinned (OpenSpec.ofChange frameBurstsWrong)

/-- 'grapevinelaw21.FrameLimits': WHATEVER THE INPUT: true; the input reads as it did. -/
def frameLimitsSpec : ChangeSpec := { name := "frameLimits", fn := fun _ => fun
  | [d1, d2, d3] => { results := [.lit (.bool true)], args := [d1, d2, d3] }
  | _ => none }
def frameLimitsRow : OpenClaim := { program := "ytbialojkkhkjeaa", sum := "26252b5081fe4b1b63b6d6c9899a8f8e9d700d4d5ce36d47be691ec8128398b1", func := "grapevine/grapevinelaw21.FrameLimits", spec := "frameLimits", unfollowed := true, recurses := true, apart := false }
def FrameLimitsSaid : Prop := frameLimitsRow.holds Try.pinned (OpenSpec.ofChange frameLimitsSpec)

/-- ITS FALSE NEIGHBOUR: 'it returns false'. Refute it at one input. -/
def frameLimitsWrong : ChangeSpec := { name := "frameLimits", fn := fun _ => fun
  | [d1, d2, d3] => { results := [.lit (.bool false)], args := [d1, d2, d3] }
  | _ => none }
def FrameLimitsWrongFalsely : Prop := frameLimitsRow.holds Try.pinned (OpenSpec.ofChange frameLimitsWrong)

/- THE SECOND FORM. 'bulk': how many values and letters a reading holds, each counted each time it is reached (what is shared counts as often as it is met; a slice's spare places count too). A statement '..UptoSaid' is the law's where the arguments, and the package variables that the reading takes, are together of bulk at most 1048576: NARROWER than '..Said'. Prove '..Said' where nothing that the law and all that it calls make is longer than what came in: it says more and counts as full. Else prove '..UptoSaid'. A law counts once. -/
mutual
def uptoBulk {H : Type} : DataW H → Nat
  | .lit (.string bytes) => bytes.length + 1
  | .lit _ => 1
  | .nil => 1
  | .ptr d => uptoBulk d + 1
  | .slice elems spare => uptoBulkAll elems + uptoBulkAll spare + 1
  | .agg parts => uptoBulkAll parts + 1
  | .iface _ d => uptoBulk d + 1
  | .map entries => uptoBulkEntries entries + 1
  | .held _ => 1
def uptoBulkAll {H : Type} : List (DataW H) → Nat
  | [] => 0
  | d :: r => uptoBulk d + uptoBulkAll r
def uptoBulkEntries {H : Type} : List (Lit × DataW H) → Nat
  | [] => 0
  | x :: r => uptoBulkEntry x + uptoBulkEntries r
def uptoBulkEntry {H : Type} : Lit × DataW H → Nat
  | (.string bytes, d) => bytes.length + uptoBulk d + 1
  | (_, d) => uptoBulk d + 1
 end
def uptoSmall : (H : Type) → List (DataW H) → Bool := fun _ ds => decide (uptoBulkAll ds ≤ 1048576)
def OpenSpec.upto (s : _root_.Go.ChangeSpec) : _root_.Go.OpenSpec := { _root_.Go.OpenSpec.ofChange s with cond := some uptoSmall }

/-- 'grapevinelaw21.FrameChecks', WHERE WHAT IT READS IS OF BULK AT MOST 1048576: true; the input reads as it did. -/
def frameChecksUptoRow : OpenClaim := { program := "ytbialojkkhkjeaa", sum := "26252b5081fe4b1b63b6d6c9899a8f8e9d700d4d5ce36d47be691ec8128398b1", func := "grapevine/grapevinelaw21.FrameChecks", spec := "frameChecks", unfollowed := true, recurses := true, apart := false, narrowed := true }
def FrameChecksUptoSaid : Prop := frameChecksUptoRow.holds Try.pinned (OpenSpec.upto frameChecksSpec)

/-- 'grapevinelaw21.FrameEncodes', WHERE WHAT IT READS IS OF BULK AT MOST 1048576: true; the input reads as it did. -/
def frameEncodesUptoRow : OpenClaim := { program := "ytbialojkkhkjeaa", sum := "26252b5081fe4b1b63b6d6c9899a8f8e9d700d4d5ce36d47be691ec8128398b1", func := "grapevine/grapevinelaw21.FrameEncodes", spec := "frameEncodes", unfollowed := true, recurses := true, apart := false, narrowed := true }
def FrameEncodesUptoSaid : Prop := frameEncodesUptoRow.holds Try.pinned (OpenSpec.upto frameEncodesSpec)

/-- 'grapevinelaw21.FrameDecodes', WHERE WHAT IT READS IS OF BULK AT MOST 1048576: true; the input reads as it did. -/
def frameDecodesUptoRow : OpenClaim := { program := "ytbialojkkhkjeaa", sum := "26252b5081fe4b1b63b6d6c9899a8f8e9d700d4d5ce36d47be691ec8128398b1", func := "grapevine/grapevinelaw21.FrameDecodes", spec := "frameDecodes", unfollowed := true, recurses := true, apart := false, narrowed := true }
def FrameDecodesUptoSaid : Prop := frameDecodesUptoRow.holds Try.pinned (OpenSpec.upto frameDecodesSpec)

/-- 'grapevinelaw21.FrameBack', WHERE WHAT IT READS IS OF BULK AT MOST 1048576: true; the input reads as it did. -/
def frameBackUptoRow : OpenClaim := { program := "ytbialojkkhkjeaa", sum := "26252b5081fe4b1b63b6d6c9899a8f8e9d700d4d5ce36d47be691ec8128398b1", func := "grapevine/grapevinelaw21.FrameBack", spec := "frameBack", unfollowed := true, recurses := true, apart := false, narrowed := true }
def FrameBackUptoSaid : Prop := frameBackUptoRow.holds Try.pinned (OpenSpec.upto frameBackSpec)

/-- 'grapevinelaw21.FrameBursts', WHERE WHAT IT READS IS OF BULK AT MOST 1048576: true; the input reads as it did. -/
def frameBurstsUptoRow : OpenClaim := { program := "ytbialojkkhkjeaa", sum := "26252b5081fe4b1b63b6d6c9899a8f8e9d700d4d5ce36d47be691ec8128398b1", func := "grapevine/grapevinelaw21.FrameBursts", spec := "frameBursts", unfollowed := true, recurses := true, apart := false, narrowed := true }
def FrameBurstsUptoSaid : Prop := frameBurstsUptoRow.holds Try.pinned (OpenSpec.upto frameBurstsSpec)

/-- 'grapevinelaw21.FrameLimits', WHERE WHAT IT READS IS OF BULK AT MOST 1048576: true; the input reads as it did. -/
def frameLimitsUptoRow : OpenClaim := { program := "ytbialojkkhkjeaa", sum := "26252b5081fe4b1b63b6d6c9899a8f8e9d700d4d5ce36d47be691ec8128398b1", func := "grapevine/grapevinelaw21.FrameLimits", spec := "frameLimits", unfollowed := true, recurses := true, apart := false, narrowed := true }
def FrameLimitsUptoSaid : Prop := frameLimitsUptoRow.holds Try.pinned (OpenSpec.upto frameLimitsSpec)

end Rows
end Go.Proofs.Ytbialojkkhkjeaa
