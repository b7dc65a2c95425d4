/- The statement DigestOwn: whatever comes in, the law's function returns true and what came in reads as it did; the table reads as the program's text has it. -/
import Derived.Test.YtdbdoilfimiihaaDoorN9
import Derived.Test.YtdbdoilfimiihaaDoorBv
import Derived.Test.YtdbdoilfimiihaaDoorRows
import Derived.Test.YtdbdoilfimiihaaDoorCards
import Derived.Test.YtdbdoilfimiihaaDoorTie
import Derived.Lay
import Derived.SevenTiedAt
namespace Go.Proofs.YtdbdoilfimiihaaDoor
open Go.Sy Go.ChangeShapes Go.WideShapes Go.ChangeAt Go.RowKit

set_option maxRecDepth 100000 in
theorem down_lifted (os : Os) (started : os.Started) (H : Type) (enc : TypeId × Value → H) :
    ReturnsInHanded {} Tryd.checked os 3 .any (fun w args => (Rows.digestOwnSpec.pre enc Tryd.prog Tryd.f3 [] false w args ∧ laidMetH Tryd.prog [("grapevine/digest.keys", Rows.laid_grapevine_digest_keys)] w) ∧ sizedMet enc Tryd.prog Tryd.f3 (OpenSpec.ofChange Rows.digestOwnSpec) false w args)
      (Rows.digestOwnSpec.post enc Tryd.prog Tryd.f3 false true false false) := by
  refine returnsInHanded_of_change_and (C := Tryd.checked) (X := fun w _ => laidMetH Tryd.prog [("grapevine/digest.keys", Rows.laid_grapevine_digest_keys)] w) (fun _ _ _ hh h => h.of_heap hh) own started (by kernel_rfl) Tryd.func3
    (ChangeSpec.witness_shaped (enc := enc) (C := Tryd.checked) (os := os) (X := fun w _ => laidMetH Tryd.prog [("grapevine/digest.keys", Rows.laid_grapevine_digest_keys)] w) false (World.laidAll Tryd.prog os [("grapevine/digest.keys", Rows.laid_grapevine_digest_keys)]) #[.slice none 0 0, .int .u16 0, .int .u8 0] 8 (World.laidAll_os _ _ _)
      (World.shaped_of_ZipB (by kernel_rfl) (by kernel_rfl)) (by kernel_rfl) (by kernel_rfl) (by kernel_rfl)
      (by rw [MakeChecks.laidMetH_plain _ _ _ (by kernel_rfl)]; exact laidMet_laidAll _ (by kernel_rfl) (by kernel_rfl))) ?_
  intro W base args ds gs before hval0 hW _ _ hL _
  exact law_contract 6 (by kernel_rfl) rfl (fun ds hd => by
      match ds, hd with
      | [_, _, _], _ => rfl) (by kernel_rfl) (by kernel_rfl) Tryd.underlying4 down_law W (keys_tabs hL) base args ds gs before hval0 hW

theorem down_holds : Rows.DigestOwnSaid :=
  OpenClaim.holds_of_wide 3 Tryd.f3 rfl rfl rfl rfl rfl rfl rfl ⟨rfl, rfl, rfl, rfl, rfl⟩ rfl rfl rfl rfl rfl (by kernel_rfl) Tryd.func3 (by kernel_rfl)
    (of_decide_eq_true (by kernel_rfl)) (by unfold Func.isWrapper; first | (rw [if_pos (by decide +kernel)]; kernel_rfl) | (rw [if_neg (by decide +kernel)]; exact ⟨rfl, rfl⟩))
    (fun os started H enc _ => down_lifted os started H enc)
theorem down_card_holds : Rows.DigestOwnCardSaid :=
  Claim7.holds_tied_plain_at .later [] [.data] true (true, "78d29f71e70666124dfb70b0ce654c7a4f2d65b6bf2bf51d326d305b23006a04") false down_holds (fun _ h => by cases h) (by kernel_rfl) (fun _ h => by cases h) digestOwn_row_tie rfl ⟨rfl, rfl⟩ (by kernel_rfl) rfl
    (fun f fn hf hfn => by
      obtain rfl : f = 3 := Option.some.inj ((show Tryd.prog.funcNamed "grapevine/grapevinelaw01.DigestOwn" = some 3 by kernel_rfl).symm.trans hf) |>.symm
      obtain rfl : fn = Tryd.f3 := (Option.some.inj (Tryd.func3.symm.trans hfn)).symm
      exact ⟨by kernel_rfl, fun j t ht => by
        rw [Tryd.params3] at ht
        have hm : t ∈ [22, 23, 5] := by simpa using Array.mem_of_getElem? ht
        have hall : ([22, 23, 5].all fun u => !Tryd.prog.wantsStandIn u) = true := by kernel_rfl
        exact (show Tryd.prog.wantsStandIn t = false by simpa using List.all_eq_true.1 hall t hm)⟩)
    (by kernel_rfl)
end Go.Proofs.YtdbdoilfimiihaaDoor
