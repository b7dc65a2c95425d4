/- The statement WireOwn: whatever comes in, the law's function returns true and what came in reads as it did; no condition. -/
import Derived.Test.YtdbdoilfimiihaaN6
import Derived.Test.YtdbdoilfimiihaaRows
namespace Go.Proofs.Ytdbdoilfimiihaa
open Go.Sy Go.ChangeShapes Go.WideShapes Go.ChangeAt Go.RowKit

set_option maxRecDepth 100000 in
theorem own_lifted (os : Os) (started : os.Started) (H : Type) (enc : TypeId × Value → H) :
    ReturnsInHanded {} Try.checked os 3 .any (Rows.wireOwnSpec.pre6 enc Try.prog Try.f3 Rows.wireOwnRow.domain false) (Rows.wireOwnSpec.post enc Try.prog Try.f3 false true false false) := by
  refine returnsInHanded_of_change (C := Try.checked) (by kernel_rfl) started (by kernel_rfl) Try.func3
    (ChangeSpec.witness6 (enc := enc) (C := Try.checked) false ⟨#[], #[.slice none 0 0, .int .u16 0, .int .u8 0], []⟩ 8 (by kernel_rfl) (by kernel_rfl) (by kernel_rfl) (by kernel_rfl)) ?_
  intro W base args ds gs before hval0 hW _ _
  exact law_contract 6 (by kernel_rfl) rfl (fun ds hd => by
      match ds, hd with
      | [_, _, _], _ => rfl) (by kernel_rfl) (by kernel_rfl) Try.underlying4 own_law W (by simp [Tabs, globs]) base args ds gs before hval0 hW

theorem own_holds : Rows.WireOwnSaid :=
  OpenClaim.holds_of_wide 3 Try.f3 rfl rfl rfl rfl rfl rfl rfl ⟨rfl, rfl, rfl, rfl, rfl⟩ rfl rfl rfl rfl rfl (by kernel_rfl) Try.func3 (by kernel_rfl)
    (of_decide_eq_true (by kernel_rfl)) (by unfold Func.isWrapper; first | (rw [if_pos (by decide +kernel)]; kernel_rfl) | (rw [if_neg (by decide +kernel)]; exact ⟨rfl, rfl⟩))
    (fun os started H enc _ => own_lifted os started H enc)
end Go.Proofs.Ytdbdoilfimiihaa
