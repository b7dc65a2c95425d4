/-
  No cell of these rows narrows 'for every input' (looked for: loops, veiled, ifaces, maps, wideKeys, modest, calm, conditions, laid).
  DERIVED. THE GIVEN ROWS OF THIS SEAT. 6 by the template 'for every input the law returns true; each argument reads behind the call as it read before'; 0 by the template 'total and deterministic' (their statements: YtlbbkaeohpaaiaaTotals.lean).
  GIVEN WITH THE SEED: the statements are not yours to turn. If you find one false, say at which input.
  Laid BY PROGRAM, IN A SANDBOX (cutbox-rows.mjs): the forced cells as the released guide's own fill.sh prints them over the translation b51d801478b98a83… (all of the seat's roots in one cut). By AI agents, Wed Nov 11 2026. No macro, syntax, notation, axiom, sorry.
-/
import Derived.Test.YtlbbkaeohpaaiaaChecked
import GoSem.Claim
import GoSem.ClaimJoined
import GoSem.ClaimMapViews
import Derived.JoinedTies
import Derived.KernelRfl
namespace Go.Proofs.Ytlbbkaeohpaaiaa
/- THE CELL 'sum', in the pinned program and in every row, IS THE sha256 OF THE DUMP (.gsa) THAT YtlbbkaeohpaaiaaProg.lean LOADS. Nothing in Lean hashes anything: it is a label: what it is worth is what the hold of that sum in a sandbox is worth. -/
noncomputable def Try.pinned : Pinned := { name := "ytlbbkaeohpaaiaa", sum := "b51d801478b98a831c1ebcfe554924753ef994e555d799e132b2f32bc20309db", checked := Try.checked }
namespace Rows
def none {H : Type} : Left H := { results := [], args := [] }

/-- 'grapevinelaw19.DeltaMakes': WHATEVER THE INPUT: true; the input reads as it did. -/
def deltaMakesSpec : ChangeSpec := { name := "deltaMakes", fn := fun _ => fun
  | [d1, d2] => { results := [.lit (.bool true)], args := [d1, d2] }
  | _ => none }
def deltaMakesRow : OpenClaim := { program := "ytlbbkaeohpaaiaa", sum := "b51d801478b98a831c1ebcfe554924753ef994e555d799e132b2f32bc20309db", func := "grapevine/grapevinelaw19.DeltaMakes", spec := "deltaMakes", unfollowed := true, recurses := true, plainKeys := false, apart := false }
def DeltaMakesSaid : Prop := deltaMakesRow.holds Try.pinned (OpenSpec.ofChange deltaMakesSpec)

/-- ITS FALSE NEIGHBOUR: 'it returns false'. Refute it at one input. -/
def deltaMakesWrong : ChangeSpec := { name := "deltaMakes", fn := fun _ => fun
  | [d1, d2] => { results := [.lit (.bool false)], args := [d1, d2] }
  | _ => none }
def DeltaMakesWrongFalsely : Prop := deltaMakesRow.holds Try.pinned (OpenSpec.ofChange deltaMakesWrong)

/-- 'grapevinelaw19.DeltaPlays': WHATEVER THE INPUT: true; the input reads as it did. -/
def deltaPlaysSpec : ChangeSpec := { name := "deltaPlays", fn := fun _ => fun
  | [d1, d2] => { results := [.lit (.bool true)], args := [d1, d2] }
  | _ => none }
def deltaPlaysRow : OpenClaim := { program := "ytlbbkaeohpaaiaa", sum := "b51d801478b98a831c1ebcfe554924753ef994e555d799e132b2f32bc20309db", func := "grapevine/grapevinelaw19.DeltaPlays", spec := "deltaPlays", unfollowed := true, recurses := true, plainKeys := false, apart := false }
def DeltaPlaysSaid : Prop := deltaPlaysRow.holds Try.pinned (OpenSpec.ofChange deltaPlaysSpec)

/-- ITS FALSE NEIGHBOUR: 'it returns false'. Refute it at one input. -/
def deltaPlaysWrong : ChangeSpec := { name := "deltaPlays", fn := fun _ => fun
  | [d1, d2] => { results := [.lit (.bool false)], args := [d1, d2] }
  | _ => none }
def DeltaPlaysWrongFalsely : Prop := deltaPlaysRow.holds Try.pinned (OpenSpec.ofChange deltaPlaysWrong)

/-- 'grapevinelaw19.DeltaBack': WHATEVER THE INPUT: true; the input reads as it did. -/
def deltaBackSpec : ChangeSpec := { name := "deltaBack", fn := fun _ => fun
  | [d1, d2] => { results := [.lit (.bool true)], args := [d1, d2] }
  | _ => none }
def deltaBackRow : OpenClaim := { program := "ytlbbkaeohpaaiaa", sum := "b51d801478b98a831c1ebcfe554924753ef994e555d799e132b2f32bc20309db", func := "grapevine/grapevinelaw19.DeltaBack", spec := "deltaBack", unfollowed := true, recurses := true, plainKeys := false, apart := false }
def DeltaBackSaid : Prop := deltaBackRow.holds Try.pinned (OpenSpec.ofChange deltaBackSpec)

/-- ITS FALSE NEIGHBOUR: 'it returns false'. Refute it at one input. -/
def deltaBackWrong : ChangeSpec := { name := "deltaBack", fn := fun _ => fun
  | [d1, d2] => { results := [.lit (.bool false)], args := [d1, d2] }
  | _ => none }
def DeltaBackWrongFalsely : Prop := deltaBackRow.holds Try.pinned (OpenSpec.ofChange deltaBackWrong)

/-- 'grapevinelaw19.DeltaOne': WHATEVER THE INPUT: true; the input reads as it did. -/
def deltaOneSpec : ChangeSpec := { name := "deltaOne", fn := fun _ => fun
  | [d1, d2, d3] => { results := [.lit (.bool true)], args := [d1, d2, d3] }
  | _ => none }
def deltaOneRow : OpenClaim := { program := "ytlbbkaeohpaaiaa", sum := "b51d801478b98a831c1ebcfe554924753ef994e555d799e132b2f32bc20309db", func := "grapevine/grapevinelaw19.DeltaOne", spec := "deltaOne", unfollowed := true, recurses := true, plainKeys := false, apart := false }
def DeltaOneSaid : Prop := deltaOneRow.holds Try.pinned (OpenSpec.ofChange deltaOneSpec)

/-- ITS FALSE NEIGHBOUR: 'it returns false'. Refute it at one input. -/
def deltaOneWrong : ChangeSpec := { name := "deltaOne", fn := fun _ => fun
  | [d1, d2, d3] => { results := [.lit (.bool false)], args := [d1, d2, d3] }
  | _ => none }
def DeltaOneWrongFalsely : Prop := deltaOneRow.holds Try.pinned (OpenSpec.ofChange deltaOneWrong)

/-- 'grapevinelaw19.DeltaPlain': WHATEVER THE INPUT: true; the input reads as it did. -/
def deltaPlainSpec : ChangeSpec := { name := "deltaPlain", fn := fun _ => fun
  | [d1, d2] => { results := [.lit (.bool true)], args := [d1, d2] }
  | _ => none }
def deltaPlainRow : OpenClaim := { program := "ytlbbkaeohpaaiaa", sum := "b51d801478b98a831c1ebcfe554924753ef994e555d799e132b2f32bc20309db", func := "grapevine/grapevinelaw19.DeltaPlain", spec := "deltaPlain", unfollowed := true, recurses := true, plainKeys := false, apart := false }
def DeltaPlainSaid : Prop := deltaPlainRow.holds Try.pinned (OpenSpec.ofChange deltaPlainSpec)

/-- ITS FALSE NEIGHBOUR: 'it returns false'. Refute it at one input. -/
def deltaPlainWrong : ChangeSpec := { name := "deltaPlain", fn := fun _ => fun
  | [d1, d2] => { results := [.lit (.bool false)], args := [d1, d2] }
  | _ => none }
def DeltaPlainWrongFalsely : Prop := deltaPlainRow.holds Try.pinned (OpenSpec.ofChange deltaPlainWrong)

/-- 'grapevinelaw19.DeltaMore': WHATEVER THE INPUT: true; the input reads as it did. -/
def deltaMoreSpec : ChangeSpec := { name := "deltaMore", fn := fun _ => fun
  | [d1, d2, d3] => { results := [.lit (.bool true)], args := [d1, d2, d3] }
  | _ => none }
def deltaMoreRow : OpenClaim := { program := "ytlbbkaeohpaaiaa", sum := "b51d801478b98a831c1ebcfe554924753ef994e555d799e132b2f32bc20309db", func := "grapevine/grapevinelaw19.DeltaMore", spec := "deltaMore", unfollowed := true, recurses := true, plainKeys := false, apart := false }
def DeltaMoreSaid : Prop := deltaMoreRow.holds Try.pinned (OpenSpec.ofChange deltaMoreSpec)

/-- ITS FALSE NEIGHBOUR: 'it returns false'. Refute it at one input. -/
def deltaMoreWrong : ChangeSpec := { name := "deltaMore", fn := fun _ => fun
  | [d1, d2, d3] => { results := [.lit (.bool false)], args := [d1, d2, d3] }
  | _ => none }
def DeltaMoreWrongFalsely : Prop := deltaMoreRow.holds Try.pinned (OpenSpec.ofChange deltaMoreWrong)

/- THE SECOND FORM. 'bulk': how many values and letters a reading holds, each counted each time it is reached (what is shared counts as often as it is met; a slice's spare places count too). A statement '..UptoSaid' is the law's where the arguments, and the package variables that the reading takes, are together of bulk at most 1048576: NARROWER than '..Said'. Prove '..Said' where nothing that the law and all that it calls make is longer than what came in: it says more and counts as full. Else prove '..UptoSaid'. A law counts once. -/
mutual
def uptoBulk {H : Type} : DataW H → Nat
  | .lit (.string bytes) => bytes.length + 1
  | .lit _ => 1
  | .nil => 1
  | .ptr d => uptoBulk d + 1
  | .slice elems spare => uptoBulkAll elems + uptoBulkAll spare + 1
  | .agg parts => uptoBulkAll parts + 1
  | .iface _ d => uptoBulk d + 1
  | .map entries => uptoBulkEntries entries + 1
  | .held _ => 1
def uptoBulkAll {H : Type} : List (DataW H) → Nat
  | [] => 0
  | d :: r => uptoBulk d + uptoBulkAll r
def uptoBulkEntries {H : Type} : List (Lit × DataW H) → Nat
  | [] => 0
  | x :: r => uptoBulkEntry x + uptoBulkEntries r
def uptoBulkEntry {H : Type} : Lit × DataW H → Nat
  | (.string bytes, d) => bytes.length + uptoBulk d + 1
  | (_, d) => uptoBulk d + 1
 end
def uptoSmall : (H : Type) → List (DataW H) → Bool := fun _ ds => decide (uptoBulkAll ds ≤ 1048576)
def OpenSpec.upto (s : _root_.Go.ChangeSpec) : _root_.Go.OpenSpec := { _root_.Go.OpenSpec.ofChange s with cond := some uptoSmall }

/-- 'grapevinelaw19.DeltaMakes', WHERE WHAT IT READS IS OF BULK AT MOST 1048576: true; the input reads as it did. -/
def deltaMakesUptoRow : OpenClaim := { program := "ytlbbkaeohpaaiaa", sum := "b51d801478b98a831c1ebcfe554924753ef994e555d799e132b2f32bc20309db", func := "grapevine/grapevinelaw19.DeltaMakes", spec := "deltaMakes", unfollowed := true, recurses := true, plainKeys := false, apart := false, narrowed := true }
def DeltaMakesUptoSaid : Prop := deltaMakesUptoRow.holds Try.pinned (OpenSpec.upto deltaMakesSpec)

/-- 'grapevinelaw19.DeltaPlays', WHERE WHAT IT READS IS OF BULK AT MOST 1048576: true; the input reads as it did. -/
def deltaPlaysUptoRow : OpenClaim := { program := "ytlbbkaeohpaaiaa", sum := "b51d801478b98a831c1ebcfe554924753ef994e555d799e132b2f32bc20309db", func := "grapevine/grapevinelaw19.DeltaPlays", spec := "deltaPlays", unfollowed := true, recurses := true, plainKeys := false, apart := false, narrowed := true }
def DeltaPlaysUptoSaid : Prop := deltaPlaysUptoRow.holds Try.pinned (OpenSpec.upto deltaPlaysSpec)

/-- 'grapevinelaw19.DeltaBack', WHERE WHAT IT READS IS OF BULK AT MOST 1048576: true; the input reads as it did. -/
def deltaBackUptoRow : OpenClaim := { program := "ytlbbkaeohpaaiaa", sum := "b51d801478b98a831c1ebcfe554924753ef994e555d799e132b2f32bc20309db", func := "grapevine/grapevinelaw19.DeltaBack", spec := "deltaBack", unfollowed := true, recurses := true, plainKeys := false, apart := false, narrowed := true }
def DeltaBackUptoSaid : Prop := deltaBackUptoRow.holds Try.pinned (OpenSpec.upto deltaBackSpec)

/-- 'grapevinelaw19.DeltaOne', WHERE WHAT IT READS IS OF BULK AT MOST 1048576: true; the input reads as it did. -/
def deltaOneUptoRow : OpenClaim := { program := "ytlbbkaeohpaaiaa", sum := "b51d801478b98a831c1ebcfe554924753ef994e555d799e132b2f32bc20309db", func := "grapevine/grapevinelaw19.DeltaOne", spec := "deltaOne", unfollowed := true, recurses := true, plainKeys := false, apart := false, narrowed := true }
def DeltaOneUptoSaid : Prop := deltaOneUptoRow.holds Try.pinned (OpenSpec.upto deltaOneSpec)

/-- 'grapevinelaw19.DeltaPlain', WHERE WHAT IT READS IS OF BULK AT MOST 1048576: true; the input reads as it did. -/
def deltaPlainUptoRow : OpenClaim := { program := "ytlbbkaeohpaaiaa", sum := "b51d801478b98a831c1ebcfe554924753ef994e555d799e132b2f32bc20309db", func := "grapevine/grapevinelaw19.DeltaPlain", spec := "deltaPlain", unfollowed := true, recurses := true, plainKeys := false, apart := false, narrowed := true }
def DeltaPlainUptoSaid : Prop := deltaPlainUptoRow.holds Try.pinned (OpenSpec.upto deltaPlainSpec)

/-- 'grapevinelaw19.DeltaMore', WHERE WHAT IT READS IS OF BULK AT MOST 1048576: true; the input reads as it did. -/
def deltaMoreUptoRow : OpenClaim := { program := "ytlbbkaeohpaaiaa", sum := "b51d801478b98a831c1ebcfe554924753ef994e555d799e132b2f32bc20309db", func := "grapevine/grapevinelaw19.DeltaMore", spec := "deltaMore", unfollowed := true, recurses := true, plainKeys := false, apart := false, narrowed := true }
def DeltaMoreUptoSaid : Prop := deltaMoreUptoRow.holds Try.pinned (OpenSpec.upto deltaMoreSpec)

end Rows
end Go.Proofs.Ytlbbkaeohpaaiaa
