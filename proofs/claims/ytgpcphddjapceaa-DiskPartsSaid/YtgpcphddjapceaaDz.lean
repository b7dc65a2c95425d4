/- The statement DiskParts. -/
import Derived.Test.YtgpcphddjapceaaDe
import Derived.Test.YtgpcphddjapceaaSu
import Derived.Test.YtgpcphddjapceaaRows
namespace Go.Proofs.Ytgpcphddjapceaa
open Go.Sy Go.ChangeShapes Go.WideShapes Go.ChangeAt Go.RowKit

theorem Try.own : ownKnob Try.prog.godebug = none := by kernel_rfl
theorem Try.laidOut : laidOutB Try.prog = true := by kernel_rfl
theorem ce5 : Try.prog.cellsOf 5 = 1 := by kernel_rfl

theorem parts_law (xs : List PV) (h : ShpAll Try.prog 6 Try.f3.params.toList xs) : Fc Try.prog 3 xs [] (.lit (.bool true)) [] := by
  rw [Try.params3] at h
  match xs, h with
  | [x, y, z], ⟨h1, h2, h3, _⟩ =>
    obtain ⟨nl, b, rfl, -, hb, -⟩ := arg_ints Try.underlying22 Try.underlying5 ce5 h1
    obtain ⟨c, rfl, hc⟩ := arg_int Try.underlying5 h2
    obtain ⟨r, rfl, hr⟩ := arg_int Try.underlying5 h3
    have := wf_u8 hc
    have := wf_u8 hr
    exact parts_fn nl b c r (by unfold maxLen at hb; omega) (by omega) (by omega) (by omega) (by omega)

set_option maxRecDepth 100000 in
theorem parts_lifted (os : Os) (started : os.Started) (H : Type) (enc : TypeId × Value → H) :
    ReturnsInHanded {} Try.checked os 3 .any (Rows.diskPartsSpec.pre6 enc Try.prog Try.f3 Rows.diskPartsRow.domain false) (Rows.diskPartsSpec.post enc Try.prog Try.f3 false true false false) := by
  refine returnsInHanded_of_change (C := Try.checked) Try.own started (by kernel_rfl) Try.func3
    (ChangeSpec.witness6 (enc := enc) (C := Try.checked) false ⟨#[], #[.slice none 0 0, .int .u8 0, .int .u8 0], []⟩ 8 (by kernel_rfl) (by kernel_rfl) (by kernel_rfl) (by kernel_rfl)) ?_
  intro W base args ds gs before hval0 hW _ _
  exact law_contract 6 Try.laidOut rfl (fun ds hd => by
      match ds, hd with
      | [_, _, _], _ => rfl) (by kernel_rfl) (by kernel_rfl) Try.underlying4 parts_law W base args ds gs before hval0 hW

theorem parts_holds : Rows.DiskPartsSaid :=
  OpenClaim.holds_of_wide 3 Try.f3 rfl rfl rfl rfl rfl rfl rfl ⟨rfl, rfl, rfl, rfl, rfl⟩ rfl rfl rfl rfl rfl (by kernel_rfl) Try.func3 (by kernel_rfl)
    (of_decide_eq_true (by kernel_rfl)) (by unfold Func.isWrapper; first | (rw [if_pos (by decide +kernel)]; kernel_rfl) | (rw [if_neg (by decide +kernel)]; exact ⟨rfl, rfl⟩))
    (fun os started H enc _ => parts_lifted os started H enc)

end Go.Proofs.Ytgpcphddjapceaa
