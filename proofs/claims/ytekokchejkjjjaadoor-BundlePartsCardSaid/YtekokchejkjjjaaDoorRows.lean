/-
  NARROWER THAN 'FOR EVERY INPUT', by the rows' own cells (each row's printed sentence says how): StoreOnce: laid · StoreOpens: laid · StoreOwn: laid · StoreGoesOn: laid · StorePlays: laid · StoreTears: laid · BundlePacks: laid · BundleUnpacks: laid · BundleMany: laid · BundleBack: laid · BundleParts: laid · BundleShort: laid.
  DERIVED. THE GIVEN ROWS OF THIS SEAT. 12 by the template 'for every input the law returns true; each argument reads behind the call as it read before'; 0 by the template 'total and deterministic' (their statements: YtekokchejkjjjaaDoorTotals.lean).
  GIVEN WITH THE SEED: the statements are not yours to turn. If you find one false, say at which input.
  Laid BY PROGRAM, IN A SANDBOX (cutbox-rows.mjs): the forced cells as the released guide's own fill.sh prints them over the translation 384b7f8ec27eecf5… (all of the seat's roots in one cut). By AI agents, Wed Nov 11 2026. No macro, syntax, notation, axiom, sorry.
-/
import Derived.Test.YtekokchejkjjjaaDoorChecked
import GoSem.Claim
import GoSem.ClaimJoined
import GoSem.ClaimMapViews
import Derived.JoinedTies
import Derived.KernelRfl
namespace Go.Proofs.YtekokchejkjjjaaDoor
/- THE CELL 'sum', in the pinned program and in every row, IS THE sha256 OF THE DUMP (.gsa) THAT YtekokchejkjjjaaDoorProg.lean LOADS. Nothing in Lean hashes anything: it is a label: what it is worth is what the hold of that sum in a sandbox is worth. -/
noncomputable def Tryd.pinned : Pinned := { name := "ytekokchejkjjjaadoor", sum := "384b7f8ec27eecf582627d8420349132927fe86e9ee2e2f8ab265167eef4e040", checked := Tryd.checked }
namespace Rows
def none {H : Type} : Left H := { results := [], args := [] }

/- WHAT THE LISTED PACKAGE-LEVEL VARIABLES READ AS WHEN THE CALL BEGINS. Each datum BY PROGRAM (the guide's laid-datum.mjs) off the statement by which the dump's own 'gosem.cut.vars' lays the variable. In a bare row this is a premise. The card (YtekokchejkjjjaaDoorCards.lean) ties it to the program's text. -/
def laid_grapevine_grapevineref01_keys {H : Type} : DataW H := .agg [.lit (.int .u32 1116352408), .lit (.int .u32 1899447441), .lit (.int .u32 3049323471), .lit (.int .u32 3921009573), .lit (.int .u32 961987163), .lit (.int .u32 1508970993), .lit (.int .u32 2453635748), .lit (.int .u32 2870763221), .lit (.int .u32 3624381080), .lit (.int .u32 310598401), .lit (.int .u32 607225278), .lit (.int .u32 1426881987), .lit (.int .u32 1925078388), .lit (.int .u32 2162078206), .lit (.int .u32 2614888103), .lit (.int .u32 3248222580), .lit (.int .u32 3835390401), .lit (.int .u32 4022224774), .lit (.int .u32 264347078), .lit (.int .u32 604807628), .lit (.int .u32 770255983), .lit (.int .u32 1249150122), .lit (.int .u32 1555081692), .lit (.int .u32 1996064986), .lit (.int .u32 2554220882), .lit (.int .u32 2821834349), .lit (.int .u32 2952996808), .lit (.int .u32 3210313671), .lit (.int .u32 3336571891), .lit (.int .u32 3584528711), .lit (.int .u32 113926993), .lit (.int .u32 338241895), .lit (.int .u32 666307205), .lit (.int .u32 773529912), .lit (.int .u32 1294757372), .lit (.int .u32 1396182291), .lit (.int .u32 1695183700), .lit (.int .u32 1986661051), .lit (.int .u32 2177026350), .lit (.int .u32 2456956037), .lit (.int .u32 2730485921), .lit (.int .u32 2820302411), .lit (.int .u32 3259730800), .lit (.int .u32 3345764771), .lit (.int .u32 3516065817), .lit (.int .u32 3600352804), .lit (.int .u32 4094571909), .lit (.int .u32 275423344), .lit (.int .u32 430227734), .lit (.int .u32 506948616), .lit (.int .u32 659060556), .lit (.int .u32 883997877), .lit (.int .u32 958139571), .lit (.int .u32 1322822218), .lit (.int .u32 1537002063), .lit (.int .u32 1747873779), .lit (.int .u32 1955562222), .lit (.int .u32 2024104815), .lit (.int .u32 2227730452), .lit (.int .u32 2361852424), .lit (.int .u32 2428436474), .lit (.int .u32 2756734187), .lit (.int .u32 3204031479), .lit (.int .u32 3329325298)]
def laid_grapevine_digest_keys {H : Type} : DataW H := .agg [.lit (.int .u32 1116352408), .lit (.int .u32 1899447441), .lit (.int .u32 3049323471), .lit (.int .u32 3921009573), .lit (.int .u32 961987163), .lit (.int .u32 1508970993), .lit (.int .u32 2453635748), .lit (.int .u32 2870763221), .lit (.int .u32 3624381080), .lit (.int .u32 310598401), .lit (.int .u32 607225278), .lit (.int .u32 1426881987), .lit (.int .u32 1925078388), .lit (.int .u32 2162078206), .lit (.int .u32 2614888103), .lit (.int .u32 3248222580), .lit (.int .u32 3835390401), .lit (.int .u32 4022224774), .lit (.int .u32 264347078), .lit (.int .u32 604807628), .lit (.int .u32 770255983), .lit (.int .u32 1249150122), .lit (.int .u32 1555081692), .lit (.int .u32 1996064986), .lit (.int .u32 2554220882), .lit (.int .u32 2821834349), .lit (.int .u32 2952996808), .lit (.int .u32 3210313671), .lit (.int .u32 3336571891), .lit (.int .u32 3584528711), .lit (.int .u32 113926993), .lit (.int .u32 338241895), .lit (.int .u32 666307205), .lit (.int .u32 773529912), .lit (.int .u32 1294757372), .lit (.int .u32 1396182291), .lit (.int .u32 1695183700), .lit (.int .u32 1986661051), .lit (.int .u32 2177026350), .lit (.int .u32 2456956037), .lit (.int .u32 2730485921), .lit (.int .u32 2820302411), .lit (.int .u32 3259730800), .lit (.int .u32 3345764771), .lit (.int .u32 3516065817), .lit (.int .u32 3600352804), .lit (.int .u32 4094571909), .lit (.int .u32 275423344), .lit (.int .u32 430227734), .lit (.int .u32 506948616), .lit (.int .u32 659060556), .lit (.int .u32 883997877), .lit (.int .u32 958139571), .lit (.int .u32 1322822218), .lit (.int .u32 1537002063), .lit (.int .u32 1747873779), .lit (.int .u32 1955562222), .lit (.int .u32 2024104815), .lit (.int .u32 2227730452), .lit (.int .u32 2361852424), .lit (.int .u32 2428436474), .lit (.int .u32 2756734187), .lit (.int .u32 3204031479), .lit (.int .u32 3329325298)]

/-- 'grapevinelaw14.StoreOnce': WHATEVER THE INPUT: true; the input reads as it did. -/
def storeOnceSpec : ChangeSpec := { name := "storeOnce", fn := fun _ => fun
  | [d1, d2] => { results := [.lit (.bool true)], args := [d1, d2] }
  | _ => none }
def storeOnceRow : OpenClaim := { program := "ytekokchejkjjjaadoor", sum := "384b7f8ec27eecf582627d8420349132927fe86e9ee2e2f8ab265167eef4e040", func := "grapevine/grapevinelaw14.StoreOnce", spec := "storeOnce", unfollowed := true, recurses := true, named := ["grapevine/digest.keys", "grapevine/grapevineref01.keys"], plainKeys := false, apart := false, laid := [("grapevine/grapevineref01.keys", laid_grapevine_grapevineref01_keys), ("grapevine/digest.keys", laid_grapevine_digest_keys)] }
def StoreOnceSaid : Prop := storeOnceRow.holds Tryd.pinned (OpenSpec.ofChange storeOnceSpec)

/-- ITS FALSE NEIGHBOUR: 'it returns false'. Refute it at one input. -/
def storeOnceWrong : ChangeSpec := { name := "storeOnce", fn := fun _ => fun
  | [d1, d2] => { results := [.lit (.bool false)], args := [d1, d2] }
  | _ => none }
def StoreOnceWrongFalsely : Prop := storeOnceRow.holds Tryd.pinned (OpenSpec.ofChange storeOnceWrong)

/-- 'grapevinelaw14.StoreOpens': WHATEVER THE INPUT: true; the input reads as it did. -/
def storeOpensSpec : ChangeSpec := { name := "storeOpens", fn := fun _ => fun
  | [d] => { results := [.lit (.bool true)], args := [d] }
  | _ => none }
def storeOpensRow : OpenClaim := { program := "ytekokchejkjjjaadoor", sum := "384b7f8ec27eecf582627d8420349132927fe86e9ee2e2f8ab265167eef4e040", func := "grapevine/grapevinelaw14.StoreOpens", spec := "storeOpens", unfollowed := true, recurses := true, named := ["grapevine/digest.keys", "grapevine/grapevineref01.keys"], plainKeys := false, apart := false, laid := [("grapevine/grapevineref01.keys", laid_grapevine_grapevineref01_keys), ("grapevine/digest.keys", laid_grapevine_digest_keys)] }
def StoreOpensSaid : Prop := storeOpensRow.holds Tryd.pinned (OpenSpec.ofChange storeOpensSpec)

/-- ITS FALSE NEIGHBOUR: 'it returns false'. Refute it at one input. -/
def storeOpensWrong : ChangeSpec := { name := "storeOpens", fn := fun _ => fun
  | [d] => { results := [.lit (.bool false)], args := [d] }
  | _ => none }
def StoreOpensWrongFalsely : Prop := storeOpensRow.holds Tryd.pinned (OpenSpec.ofChange storeOpensWrong)

/-- 'grapevinelaw14.StoreOwn': WHATEVER THE INPUT: true; the input reads as it did. -/
def storeOwnSpec : ChangeSpec := { name := "storeOwn", fn := fun _ => fun
  | [d1, d2, d3] => { results := [.lit (.bool true)], args := [d1, d2, d3] }
  | _ => none }
def storeOwnRow : OpenClaim := { program := "ytekokchejkjjjaadoor", sum := "384b7f8ec27eecf582627d8420349132927fe86e9ee2e2f8ab265167eef4e040", func := "grapevine/grapevinelaw14.StoreOwn", spec := "storeOwn", unfollowed := true, recurses := true, named := ["grapevine/digest.keys", "grapevine/grapevineref01.keys"], plainKeys := false, apart := false, laid := [("grapevine/grapevineref01.keys", laid_grapevine_grapevineref01_keys), ("grapevine/digest.keys", laid_grapevine_digest_keys)] }
def StoreOwnSaid : Prop := storeOwnRow.holds Tryd.pinned (OpenSpec.ofChange storeOwnSpec)

/-- ITS FALSE NEIGHBOUR: 'it returns false'. Refute it at one input. -/
def storeOwnWrong : ChangeSpec := { name := "storeOwn", fn := fun _ => fun
  | [d1, d2, d3] => { results := [.lit (.bool false)], args := [d1, d2, d3] }
  | _ => none }
def StoreOwnWrongFalsely : Prop := storeOwnRow.holds Tryd.pinned (OpenSpec.ofChange storeOwnWrong)

/-- 'grapevinelaw14.StoreGoesOn': WHATEVER THE INPUT: true; the input reads as it did. -/
def storeGoesOnSpec : ChangeSpec := { name := "storeGoesOn", fn := fun _ => fun
  | [d1, d2, d3] => { results := [.lit (.bool true)], args := [d1, d2, d3] }
  | _ => none }
def storeGoesOnRow : OpenClaim := { program := "ytekokchejkjjjaadoor", sum := "384b7f8ec27eecf582627d8420349132927fe86e9ee2e2f8ab265167eef4e040", func := "grapevine/grapevinelaw14.StoreGoesOn", spec := "storeGoesOn", unfollowed := true, recurses := true, named := ["grapevine/digest.keys", "grapevine/grapevineref01.keys"], plainKeys := false, apart := false, laid := [("grapevine/grapevineref01.keys", laid_grapevine_grapevineref01_keys), ("grapevine/digest.keys", laid_grapevine_digest_keys)] }
def StoreGoesOnSaid : Prop := storeGoesOnRow.holds Tryd.pinned (OpenSpec.ofChange storeGoesOnSpec)

/-- ITS FALSE NEIGHBOUR: 'it returns false'. Refute it at one input. -/
def storeGoesOnWrong : ChangeSpec := { name := "storeGoesOn", fn := fun _ => fun
  | [d1, d2, d3] => { results := [.lit (.bool false)], args := [d1, d2, d3] }
  | _ => none }
def StoreGoesOnWrongFalsely : Prop := storeGoesOnRow.holds Tryd.pinned (OpenSpec.ofChange storeGoesOnWrong)

/-- 'grapevinelaw14.StorePlays': WHATEVER THE INPUT: true; the input reads as it did. -/
def storePlaysSpec : ChangeSpec := { name := "storePlays", fn := fun _ => fun
  | [d1, d2, d3] => { results := [.lit (.bool true)], args := [d1, d2, d3] }
  | _ => none }
def storePlaysRow : OpenClaim := { program := "ytekokchejkjjjaadoor", sum := "384b7f8ec27eecf582627d8420349132927fe86e9ee2e2f8ab265167eef4e040", func := "grapevine/grapevinelaw14.StorePlays", spec := "storePlays", unfollowed := true, recurses := true, named := ["grapevine/digest.keys", "grapevine/grapevineref01.keys"], plainKeys := false, apart := false, laid := [("grapevine/grapevineref01.keys", laid_grapevine_grapevineref01_keys), ("grapevine/digest.keys", laid_grapevine_digest_keys)] }
def StorePlaysSaid : Prop := storePlaysRow.holds Tryd.pinned (OpenSpec.ofChange storePlaysSpec)

/-- ITS FALSE NEIGHBOUR: 'it returns false'. Refute it at one input. -/
def storePlaysWrong : ChangeSpec := { name := "storePlays", fn := fun _ => fun
  | [d1, d2, d3] => { results := [.lit (.bool false)], args := [d1, d2, d3] }
  | _ => none }
def StorePlaysWrongFalsely : Prop := storePlaysRow.holds Tryd.pinned (OpenSpec.ofChange storePlaysWrong)

/-- 'grapevinelaw14.StoreTears': WHATEVER THE INPUT: true; the input reads as it did. -/
def storeTearsSpec : ChangeSpec := { name := "storeTears", fn := fun _ => fun
  | [d1, d2] => { results := [.lit (.bool true)], args := [d1, d2] }
  | _ => none }
def storeTearsRow : OpenClaim := { program := "ytekokchejkjjjaadoor", sum := "384b7f8ec27eecf582627d8420349132927fe86e9ee2e2f8ab265167eef4e040", func := "grapevine/grapevinelaw14.StoreTears", spec := "storeTears", unfollowed := true, recurses := true, named := ["grapevine/digest.keys", "grapevine/grapevineref01.keys"], plainKeys := false, apart := false, laid := [("grapevine/grapevineref01.keys", laid_grapevine_grapevineref01_keys), ("grapevine/digest.keys", laid_grapevine_digest_keys)] }
def StoreTearsSaid : Prop := storeTearsRow.holds Tryd.pinned (OpenSpec.ofChange storeTearsSpec)

/-- ITS FALSE NEIGHBOUR: 'it returns false'. Refute it at one input. -/
def storeTearsWrong : ChangeSpec := { name := "storeTears", fn := fun _ => fun
  | [d1, d2] => { results := [.lit (.bool false)], args := [d1, d2] }
  | _ => none }
def StoreTearsWrongFalsely : Prop := storeTearsRow.holds Tryd.pinned (OpenSpec.ofChange storeTearsWrong)

/-- 'grapevinelaw20.BundlePacks': WHATEVER THE INPUT: true; the input reads as it did. -/
def bundlePacksSpec : ChangeSpec := { name := "bundlePacks", fn := fun _ => fun
  | [d1, d2] => { results := [.lit (.bool true)], args := [d1, d2] }
  | _ => none }
def bundlePacksRow : OpenClaim := { program := "ytekokchejkjjjaadoor", sum := "384b7f8ec27eecf582627d8420349132927fe86e9ee2e2f8ab265167eef4e040", func := "grapevine/grapevinelaw20.BundlePacks", spec := "bundlePacks", unfollowed := true, recurses := true, named := ["grapevine/grapevineref01.keys", "grapevine/digest.keys"], plainKeys := false, apart := false, laid := [("grapevine/grapevineref01.keys", laid_grapevine_grapevineref01_keys), ("grapevine/digest.keys", laid_grapevine_digest_keys)] }
def BundlePacksSaid : Prop := bundlePacksRow.holds Tryd.pinned (OpenSpec.ofChange bundlePacksSpec)

/-- ITS FALSE NEIGHBOUR: 'it returns false'. Refute it at one input. -/
def bundlePacksWrong : ChangeSpec := { name := "bundlePacks", fn := fun _ => fun
  | [d1, d2] => { results := [.lit (.bool false)], args := [d1, d2] }
  | _ => none }
def BundlePacksWrongFalsely : Prop := bundlePacksRow.holds Tryd.pinned (OpenSpec.ofChange bundlePacksWrong)

/-- 'grapevinelaw20.BundleUnpacks': WHATEVER THE INPUT: true; the input reads as it did. -/
def bundleUnpacksSpec : ChangeSpec := { name := "bundleUnpacks", fn := fun _ => fun
  | [d1, d2] => { results := [.lit (.bool true)], args := [d1, d2] }
  | _ => none }
def bundleUnpacksRow : OpenClaim := { program := "ytekokchejkjjjaadoor", sum := "384b7f8ec27eecf582627d8420349132927fe86e9ee2e2f8ab265167eef4e040", func := "grapevine/grapevinelaw20.BundleUnpacks", spec := "bundleUnpacks", unfollowed := true, recurses := true, named := ["grapevine/grapevineref01.keys", "grapevine/digest.keys"], plainKeys := false, apart := false, laid := [("grapevine/grapevineref01.keys", laid_grapevine_grapevineref01_keys), ("grapevine/digest.keys", laid_grapevine_digest_keys)] }
def BundleUnpacksSaid : Prop := bundleUnpacksRow.holds Tryd.pinned (OpenSpec.ofChange bundleUnpacksSpec)

/-- ITS FALSE NEIGHBOUR: 'it returns false'. Refute it at one input. -/
def bundleUnpacksWrong : ChangeSpec := { name := "bundleUnpacks", fn := fun _ => fun
  | [d1, d2] => { results := [.lit (.bool false)], args := [d1, d2] }
  | _ => none }
def BundleUnpacksWrongFalsely : Prop := bundleUnpacksRow.holds Tryd.pinned (OpenSpec.ofChange bundleUnpacksWrong)

/-- 'grapevinelaw20.BundleMany': WHATEVER THE INPUT: true; the input reads as it did. -/
def bundleManySpec : ChangeSpec := { name := "bundleMany", fn := fun _ => fun
  | [d] => { results := [.lit (.bool true)], args := [d] }
  | _ => none }
def bundleManyRow : OpenClaim := { program := "ytekokchejkjjjaadoor", sum := "384b7f8ec27eecf582627d8420349132927fe86e9ee2e2f8ab265167eef4e040", func := "grapevine/grapevinelaw20.BundleMany", spec := "bundleMany", unfollowed := true, recurses := true, named := ["grapevine/grapevineref01.keys", "grapevine/digest.keys"], plainKeys := false, apart := false, laid := [("grapevine/grapevineref01.keys", laid_grapevine_grapevineref01_keys), ("grapevine/digest.keys", laid_grapevine_digest_keys)] }
def BundleManySaid : Prop := bundleManyRow.holds Tryd.pinned (OpenSpec.ofChange bundleManySpec)

/-- ITS FALSE NEIGHBOUR: 'it returns false'. Refute it at one input. -/
def bundleManyWrong : ChangeSpec := { name := "bundleMany", fn := fun _ => fun
  | [d] => { results := [.lit (.bool false)], args := [d] }
  | _ => none }
def BundleManyWrongFalsely : Prop := bundleManyRow.holds Tryd.pinned (OpenSpec.ofChange bundleManyWrong)

/-- 'grapevinelaw20.BundleBack': WHATEVER THE INPUT: true; the input reads as it did. -/
def bundleBackSpec : ChangeSpec := { name := "bundleBack", fn := fun _ => fun
  | [d1, d2, d3] => { results := [.lit (.bool true)], args := [d1, d2, d3] }
  | _ => none }
def bundleBackRow : OpenClaim := { program := "ytekokchejkjjjaadoor", sum := "384b7f8ec27eecf582627d8420349132927fe86e9ee2e2f8ab265167eef4e040", func := "grapevine/grapevinelaw20.BundleBack", spec := "bundleBack", unfollowed := true, recurses := true, named := ["grapevine/grapevineref01.keys", "grapevine/digest.keys"], plainKeys := false, apart := false, laid := [("grapevine/grapevineref01.keys", laid_grapevine_grapevineref01_keys), ("grapevine/digest.keys", laid_grapevine_digest_keys)] }
def BundleBackSaid : Prop := bundleBackRow.holds Tryd.pinned (OpenSpec.ofChange bundleBackSpec)

/-- ITS FALSE NEIGHBOUR: 'it returns false'. Refute it at one input. -/
def bundleBackWrong : ChangeSpec := { name := "bundleBack", fn := fun _ => fun
  | [d1, d2, d3] => { results := [.lit (.bool false)], args := [d1, d2, d3] }
  | _ => none }
def BundleBackWrongFalsely : Prop := bundleBackRow.holds Tryd.pinned (OpenSpec.ofChange bundleBackWrong)

/-- 'grapevinelaw20.BundleParts': WHATEVER THE INPUT: true; the input reads as it did. -/
def bundlePartsSpec : ChangeSpec := { name := "bundleParts", fn := fun _ => fun
  | [d1, d2] => { results := [.lit (.bool true)], args := [d1, d2] }
  | _ => none }
def bundlePartsRow : OpenClaim := { program := "ytekokchejkjjjaadoor", sum := "384b7f8ec27eecf582627d8420349132927fe86e9ee2e2f8ab265167eef4e040", func := "grapevine/grapevinelaw20.BundleParts", spec := "bundleParts", unfollowed := true, recurses := true, named := ["grapevine/grapevineref01.keys", "grapevine/digest.keys"], plainKeys := false, apart := false, laid := [("grapevine/grapevineref01.keys", laid_grapevine_grapevineref01_keys), ("grapevine/digest.keys", laid_grapevine_digest_keys)] }
def BundlePartsSaid : Prop := bundlePartsRow.holds Tryd.pinned (OpenSpec.ofChange bundlePartsSpec)

/-- ITS FALSE NEIGHBOUR: 'it returns false'. Refute it at one input. -/
def bundlePartsWrong : ChangeSpec := { name := "bundleParts", fn := fun _ => fun
  | [d1, d2] => { results := [.lit (.bool false)], args := [d1, d2] }
  | _ => none }
def BundlePartsWrongFalsely : Prop := bundlePartsRow.holds Tryd.pinned (OpenSpec.ofChange bundlePartsWrong)

/-- 'grapevinelaw20.BundleShort': WHATEVER THE INPUT: true; the input reads as it did. -/
def bundleShortSpec : ChangeSpec := { name := "bundleShort", fn := fun _ => fun
  | [d1, d2] => { results := [.lit (.bool true)], args := [d1, d2] }
  | _ => none }
def bundleShortRow : OpenClaim := { program := "ytekokchejkjjjaadoor", sum := "384b7f8ec27eecf582627d8420349132927fe86e9ee2e2f8ab265167eef4e040", func := "grapevine/grapevinelaw20.BundleShort", spec := "bundleShort", unfollowed := true, recurses := true, named := ["grapevine/grapevineref01.keys", "grapevine/digest.keys"], plainKeys := false, apart := false, laid := [("grapevine/grapevineref01.keys", laid_grapevine_grapevineref01_keys), ("grapevine/digest.keys", laid_grapevine_digest_keys)] }
def BundleShortSaid : Prop := bundleShortRow.holds Tryd.pinned (OpenSpec.ofChange bundleShortSpec)

/-- ITS FALSE NEIGHBOUR: 'it returns false'. Refute it at one input. -/
def bundleShortWrong : ChangeSpec := { name := "bundleShort", fn := fun _ => fun
  | [d1, d2] => { results := [.lit (.bool false)], args := [d1, d2] }
  | _ => none }
def BundleShortWrongFalsely : Prop := bundleShortRow.holds Tryd.pinned (OpenSpec.ofChange bundleShortWrong)

/- THE SECOND FORM. 'bulk': how many values and letters a reading holds, each counted each time it is reached (what is shared counts as often as it is met; a slice's spare places count too). A statement '..UptoSaid' is the law's where the arguments, and the package variables that the reading takes, are together of bulk at most 1048576: NARROWER than '..Said'. Prove '..Said' where nothing that the law and all that it calls make is longer than what came in: it says more and counts as full. Else prove '..UptoSaid'. A law counts once. -/
mutual
def uptoBulk {H : Type} : DataW H → Nat
  | .lit (.string bytes) => bytes.length + 1
  | .lit _ => 1
  | .nil => 1
  | .ptr d => uptoBulk d + 1
  | .slice elems spare => uptoBulkAll elems + uptoBulkAll spare + 1
  | .agg parts => uptoBulkAll parts + 1
  | .iface _ d => uptoBulk d + 1
  | .map entries => uptoBulkEntries entries + 1
  | .held _ => 1
def uptoBulkAll {H : Type} : List (DataW H) → Nat
  | [] => 0
  | d :: r => uptoBulk d + uptoBulkAll r
def uptoBulkEntries {H : Type} : List (Lit × DataW H) → Nat
  | [] => 0
  | x :: r => uptoBulkEntry x + uptoBulkEntries r
def uptoBulkEntry {H : Type} : Lit × DataW H → Nat
  | (.string bytes, d) => bytes.length + uptoBulk d + 1
  | (_, d) => uptoBulk d + 1
 end
def uptoSmall : (H : Type) → List (DataW H) → Bool := fun _ ds => decide (uptoBulkAll ds ≤ 1048576)
def OpenSpec.upto (s : _root_.Go.ChangeSpec) : _root_.Go.OpenSpec := { _root_.Go.OpenSpec.ofChange s with cond := some uptoSmall }

/-- 'grapevinelaw14.StoreOnce', WHERE WHAT IT READS IS OF BULK AT MOST 1048576: true; the input reads as it did. -/
def storeOnceUptoRow : OpenClaim := { program := "ytekokchejkjjjaadoor", sum := "384b7f8ec27eecf582627d8420349132927fe86e9ee2e2f8ab265167eef4e040", func := "grapevine/grapevinelaw14.StoreOnce", spec := "storeOnce", unfollowed := true, recurses := true, named := ["grapevine/digest.keys", "grapevine/grapevineref01.keys"], plainKeys := false, apart := false, laid := [("grapevine/grapevineref01.keys", laid_grapevine_grapevineref01_keys), ("grapevine/digest.keys", laid_grapevine_digest_keys)], narrowed := true }
def StoreOnceUptoSaid : Prop := storeOnceUptoRow.holds Tryd.pinned (OpenSpec.upto storeOnceSpec)

/-- 'grapevinelaw14.StoreOpens', WHERE WHAT IT READS IS OF BULK AT MOST 1048576: true; the input reads as it did. -/
def storeOpensUptoRow : OpenClaim := { program := "ytekokchejkjjjaadoor", sum := "384b7f8ec27eecf582627d8420349132927fe86e9ee2e2f8ab265167eef4e040", func := "grapevine/grapevinelaw14.StoreOpens", spec := "storeOpens", unfollowed := true, recurses := true, named := ["grapevine/digest.keys", "grapevine/grapevineref01.keys"], plainKeys := false, apart := false, laid := [("grapevine/grapevineref01.keys", laid_grapevine_grapevineref01_keys), ("grapevine/digest.keys", laid_grapevine_digest_keys)], narrowed := true }
def StoreOpensUptoSaid : Prop := storeOpensUptoRow.holds Tryd.pinned (OpenSpec.upto storeOpensSpec)

/-- 'grapevinelaw14.StoreOwn', WHERE WHAT IT READS IS OF BULK AT MOST 1048576: true; the input reads as it did. -/
def storeOwnUptoRow : OpenClaim := { program := "ytekokchejkjjjaadoor", sum := "384b7f8ec27eecf582627d8420349132927fe86e9ee2e2f8ab265167eef4e040", func := "grapevine/grapevinelaw14.StoreOwn", spec := "storeOwn", unfollowed := true, recurses := true, named := ["grapevine/digest.keys", "grapevine/grapevineref01.keys"], plainKeys := false, apart := false, laid := [("grapevine/grapevineref01.keys", laid_grapevine_grapevineref01_keys), ("grapevine/digest.keys", laid_grapevine_digest_keys)], narrowed := true }
def StoreOwnUptoSaid : Prop := storeOwnUptoRow.holds Tryd.pinned (OpenSpec.upto storeOwnSpec)

/-- 'grapevinelaw14.StoreGoesOn', WHERE WHAT IT READS IS OF BULK AT MOST 1048576: true; the input reads as it did. -/
def storeGoesOnUptoRow : OpenClaim := { program := "ytekokchejkjjjaadoor", sum := "384b7f8ec27eecf582627d8420349132927fe86e9ee2e2f8ab265167eef4e040", func := "grapevine/grapevinelaw14.StoreGoesOn", spec := "storeGoesOn", unfollowed := true, recurses := true, named := ["grapevine/digest.keys", "grapevine/grapevineref01.keys"], plainKeys := false, apart := false, laid := [("grapevine/grapevineref01.keys", laid_grapevine_grapevineref01_keys), ("grapevine/digest.keys", laid_grapevine_digest_keys)], narrowed := true }
def StoreGoesOnUptoSaid : Prop := storeGoesOnUptoRow.holds Tryd.pinned (OpenSpec.upto storeGoesOnSpec)

/-- 'grapevinelaw14.StorePlays', WHERE WHAT IT READS IS OF BULK AT MOST 1048576: true; the input reads as it did. -/
def storePlaysUptoRow : OpenClaim := { program := "ytekokchejkjjjaadoor", sum := "384b7f8ec27eecf582627d8420349132927fe86e9ee2e2f8ab265167eef4e040", func := "grapevine/grapevinelaw14.StorePlays", spec := "storePlays", unfollowed := true, recurses := true, named := ["grapevine/digest.keys", "grapevine/grapevineref01.keys"], plainKeys := false, apart := false, laid := [("grapevine/grapevineref01.keys", laid_grapevine_grapevineref01_keys), ("grapevine/digest.keys", laid_grapevine_digest_keys)], narrowed := true }
def StorePlaysUptoSaid : Prop := storePlaysUptoRow.holds Tryd.pinned (OpenSpec.upto storePlaysSpec)

/-- 'grapevinelaw14.StoreTears', WHERE WHAT IT READS IS OF BULK AT MOST 1048576: true; the input reads as it did. -/
def storeTearsUptoRow : OpenClaim := { program := "ytekokchejkjjjaadoor", sum := "384b7f8ec27eecf582627d8420349132927fe86e9ee2e2f8ab265167eef4e040", func := "grapevine/grapevinelaw14.StoreTears", spec := "storeTears", unfollowed := true, recurses := true, named := ["grapevine/digest.keys", "grapevine/grapevineref01.keys"], plainKeys := false, apart := false, laid := [("grapevine/grapevineref01.keys", laid_grapevine_grapevineref01_keys), ("grapevine/digest.keys", laid_grapevine_digest_keys)], narrowed := true }
def StoreTearsUptoSaid : Prop := storeTearsUptoRow.holds Tryd.pinned (OpenSpec.upto storeTearsSpec)

/-- 'grapevinelaw20.BundlePacks', WHERE WHAT IT READS IS OF BULK AT MOST 1048576: true; the input reads as it did. -/
def bundlePacksUptoRow : OpenClaim := { program := "ytekokchejkjjjaadoor", sum := "384b7f8ec27eecf582627d8420349132927fe86e9ee2e2f8ab265167eef4e040", func := "grapevine/grapevinelaw20.BundlePacks", spec := "bundlePacks", unfollowed := true, recurses := true, named := ["grapevine/grapevineref01.keys", "grapevine/digest.keys"], plainKeys := false, apart := false, laid := [("grapevine/grapevineref01.keys", laid_grapevine_grapevineref01_keys), ("grapevine/digest.keys", laid_grapevine_digest_keys)], narrowed := true }
def BundlePacksUptoSaid : Prop := bundlePacksUptoRow.holds Tryd.pinned (OpenSpec.upto bundlePacksSpec)

/-- 'grapevinelaw20.BundleUnpacks', WHERE WHAT IT READS IS OF BULK AT MOST 1048576: true; the input reads as it did. -/
def bundleUnpacksUptoRow : OpenClaim := { program := "ytekokchejkjjjaadoor", sum := "384b7f8ec27eecf582627d8420349132927fe86e9ee2e2f8ab265167eef4e040", func := "grapevine/grapevinelaw20.BundleUnpacks", spec := "bundleUnpacks", unfollowed := true, recurses := true, named := ["grapevine/grapevineref01.keys", "grapevine/digest.keys"], plainKeys := false, apart := false, laid := [("grapevine/grapevineref01.keys", laid_grapevine_grapevineref01_keys), ("grapevine/digest.keys", laid_grapevine_digest_keys)], narrowed := true }
def BundleUnpacksUptoSaid : Prop := bundleUnpacksUptoRow.holds Tryd.pinned (OpenSpec.upto bundleUnpacksSpec)

/-- 'grapevinelaw20.BundleMany', WHERE WHAT IT READS IS OF BULK AT MOST 1048576: true; the input reads as it did. -/
def bundleManyUptoRow : OpenClaim := { program := "ytekokchejkjjjaadoor", sum := "384b7f8ec27eecf582627d8420349132927fe86e9ee2e2f8ab265167eef4e040", func := "grapevine/grapevinelaw20.BundleMany", spec := "bundleMany", unfollowed := true, recurses := true, named := ["grapevine/grapevineref01.keys", "grapevine/digest.keys"], plainKeys := false, apart := false, laid := [("grapevine/grapevineref01.keys", laid_grapevine_grapevineref01_keys), ("grapevine/digest.keys", laid_grapevine_digest_keys)], narrowed := true }
def BundleManyUptoSaid : Prop := bundleManyUptoRow.holds Tryd.pinned (OpenSpec.upto bundleManySpec)

/-- 'grapevinelaw20.BundleBack', WHERE WHAT IT READS IS OF BULK AT MOST 1048576: true; the input reads as it did. -/
def bundleBackUptoRow : OpenClaim := { program := "ytekokchejkjjjaadoor", sum := "384b7f8ec27eecf582627d8420349132927fe86e9ee2e2f8ab265167eef4e040", func := "grapevine/grapevinelaw20.BundleBack", spec := "bundleBack", unfollowed := true, recurses := true, named := ["grapevine/grapevineref01.keys", "grapevine/digest.keys"], plainKeys := false, apart := false, laid := [("grapevine/grapevineref01.keys", laid_grapevine_grapevineref01_keys), ("grapevine/digest.keys", laid_grapevine_digest_keys)], narrowed := true }
def BundleBackUptoSaid : Prop := bundleBackUptoRow.holds Tryd.pinned (OpenSpec.upto bundleBackSpec)

/-- 'grapevinelaw20.BundleParts', WHERE WHAT IT READS IS OF BULK AT MOST 1048576: true; the input reads as it did. -/
def bundlePartsUptoRow : OpenClaim := { program := "ytekokchejkjjjaadoor", sum := "384b7f8ec27eecf582627d8420349132927fe86e9ee2e2f8ab265167eef4e040", func := "grapevine/grapevinelaw20.BundleParts", spec := "bundleParts", unfollowed := true, recurses := true, named := ["grapevine/grapevineref01.keys", "grapevine/digest.keys"], plainKeys := false, apart := false, laid := [("grapevine/grapevineref01.keys", laid_grapevine_grapevineref01_keys), ("grapevine/digest.keys", laid_grapevine_digest_keys)], narrowed := true }
def BundlePartsUptoSaid : Prop := bundlePartsUptoRow.holds Tryd.pinned (OpenSpec.upto bundlePartsSpec)

/-- 'grapevinelaw20.BundleShort', WHERE WHAT IT READS IS OF BULK AT MOST 1048576: true; the input reads as it did. -/
def bundleShortUptoRow : OpenClaim := { program := "ytekokchejkjjjaadoor", sum := "384b7f8ec27eecf582627d8420349132927fe86e9ee2e2f8ab265167eef4e040", func := "grapevine/grapevinelaw20.BundleShort", spec := "bundleShort", unfollowed := true, recurses := true, named := ["grapevine/grapevineref01.keys", "grapevine/digest.keys"], plainKeys := false, apart := false, laid := [("grapevine/grapevineref01.keys", laid_grapevine_grapevineref01_keys), ("grapevine/digest.keys", laid_grapevine_digest_keys)], narrowed := true }
def BundleShortUptoSaid : Prop := bundleShortUptoRow.holds Tryd.pinned (OpenSpec.upto bundleShortSpec)

end Rows
end Go.Proofs.YtekokchejkjjjaaDoor
