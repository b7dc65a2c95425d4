/- The statement BundleParts: whatever comes in, the law's function returns true and what came in reads as it did; the table reads as the program's text has it. -/
import Derived.Test.YtekokchejkjjjaaDoorNu
import Derived.Test.YtekokchejkjjjaaDoorRows
import Derived.Test.YtekokchejkjjjaaDoorCards
import Derived.Test.YtekokchejkjjjaaDoorTie
import Derived.Lay
import Derived.SevenTiedAt
namespace Go.Proofs.YtekokchejkjjjaaDoor
open Go.Sy Go.ChangeShapes Go.WideShapes Go.ChangeAt Go.RowKit

set_option maxRecDepth 100000 in
theorem partsb_lifted (os : Os) (started : os.Started) (H : Type) (enc : TypeId × Value → H) :
    ReturnsInHanded {} Tryd.checked os 13 .any (fun w args => (Rows.bundlePartsSpec.pre enc Tryd.prog Tryd.f13 [] false w args ∧ laidMetH Tryd.prog [("grapevine/grapevineref01.keys", Rows.laid_grapevine_grapevineref01_keys), ("grapevine/digest.keys", Rows.laid_grapevine_digest_keys)] w) ∧ sizedMet enc Tryd.prog Tryd.f13 (OpenSpec.ofChange Rows.bundlePartsSpec) false w args)
      (Rows.bundlePartsSpec.post enc Tryd.prog Tryd.f13 false true false false) := by
  refine returnsInHanded_of_change_and (C := Tryd.checked) (X := fun w _ => laidMetH Tryd.prog [("grapevine/grapevineref01.keys", Rows.laid_grapevine_grapevineref01_keys), ("grapevine/digest.keys", Rows.laid_grapevine_digest_keys)] w) (fun _ _ _ hh h => h.of_heap hh) own started (by kernel_rfl) Tryd.func13
    (ChangeSpec.witness_shaped (enc := enc) (C := Tryd.checked) (os := os) (X := fun w _ => laidMetH Tryd.prog [("grapevine/grapevineref01.keys", Rows.laid_grapevine_grapevineref01_keys), ("grapevine/digest.keys", Rows.laid_grapevine_digest_keys)] w) false (World.laidAll Tryd.prog os [("grapevine/grapevineref01.keys", Rows.laid_grapevine_grapevineref01_keys), ("grapevine/digest.keys", Rows.laid_grapevine_digest_keys)]) #[.slice none 0 0, .int .i64 0] 8 (World.laidAll_os _ _ _)
      (World.shaped_of_ZipB (by kernel_rfl) (by kernel_rfl)) (by kernel_rfl) (by kernel_rfl) (by kernel_rfl)
      (by rw [MakeChecks.laidMetH_plain _ _ _ (by kernel_rfl)]; exact laidMet_laidAll _ (by kernel_rfl) (by kernel_rfl))) ?_
  intro W base args ds gs before hval0 hW _ _ hL _
  exact law_contract 6 (by kernel_rfl) rfl (fun ds hd => by
      match ds, hd with
      | [_, _], _ => rfl) (by kernel_rfl) (by kernel_rfl) Tryd.underlying4 partsb_law W (keys_tabs hL) base args ds gs before hval0 hW

theorem partsb_holds : Rows.BundlePartsSaid :=
  OpenClaim.holds_of_wide 13 Tryd.f13 rfl rfl rfl rfl rfl rfl rfl ⟨rfl, rfl, rfl, rfl, rfl⟩ rfl rfl rfl rfl rfl (by kernel_rfl) Tryd.func13 (by kernel_rfl)
    (of_decide_eq_true (by kernel_rfl)) (by unfold Func.isWrapper; first | (rw [if_pos (by decide +kernel)]; kernel_rfl) | (rw [if_neg (by decide +kernel)]; exact ⟨rfl, rfl⟩))
    (fun os started H enc _ => partsb_lifted os started H enc)
theorem partsb_card_holds : Rows.BundlePartsCardSaid :=
  Claim7.holds_tied_plain_at .later [] [.data, .data] true (true, "049b6def868010211c2cce033ff606e4d09a75c2b244923d2ae33232ccf87e8c") false partsb_holds (fun _ h => by cases h) (by kernel_rfl) (fun _ h => by cases h) bundleParts_row_tie rfl ⟨rfl, rfl⟩ (by kernel_rfl) rfl
    (fun f fn hf hfn => by
      obtain rfl : f = 13 := Option.some.inj ((show Tryd.prog.funcNamed "grapevine/grapevinelaw20.BundleParts" = some 13 by kernel_rfl).symm.trans hf) |>.symm
      obtain rfl : fn = Tryd.f13 := (Option.some.inj (Tryd.func13.symm.trans hfn)).symm
      exact ⟨by kernel_rfl, fun j t ht => by
        rw [Tryd.params13] at ht
        have hm : t ∈ [39, 3] := by simpa using Array.mem_of_getElem? ht
        have hall : ([39, 3].all fun u => !Tryd.prog.wantsStandIn u) = true := by kernel_rfl
        exact (show Tryd.prog.wantsStandIn t = false by simpa using List.all_eq_true.1 hall t hm)⟩)
    (by kernel_rfl)
end Go.Proofs.YtekokchejkjjjaaDoor
