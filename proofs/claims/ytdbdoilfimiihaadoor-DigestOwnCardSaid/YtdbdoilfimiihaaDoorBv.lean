/- Digests: the table lies where the row says. (and what stands on it) -/
import Derived.Test.YtdbdoilfimiihaaDoorN4
import Derived.Test.YtdbdoilfimiihaaDoorRows
import Derived.OpenShut
import Derived.Lay
import Derived.MakeChecks
set_option linter.unusedSimpArgs false
set_option linter.unusedVariables false

/-! Digests: the table lies where the row says. -/
namespace Go.Proofs.YtdbdoilfimiihaaDoor
open Go.Sy Go.ChangeShapes Go.WideShapes Go.ChangeAt Go.RowKit

theorem own : ownKnob Tryd.prog.godebug = none := by kernel_rfl
theorem keys_laid : (Rows.laid_grapevine_digest_keys : DataW Unit) = .agg (Go.Sy.keys.map fun n => .lit (.int .u32 n)) := by kernel_rfl
theorem keys_tabs {W : World} (h : laidMetH Tryd.prog [("grapevine/digest.keys", Rows.laid_grapevine_digest_keys)] W) : Tabs W := by
  rw [MakeChecks.laidMetH_plain _ _ _ (by kernel_rfl)] at h
  obtain ⟨ps, ⟨g, t, cs, fuel, p, q, hg, ht, hv, hd, _, _⟩, _, _⟩ := h
  obtain rfl := Option.some.inj ((show Tryd.prog.globalNamed "grapevine/digest.keys" = some 0 by kernel_rfl).symm.trans hg)
  obtain rfl := Option.some.inj ((show (Tryd.prog.globals[0]?).map (·.type) = some 59 by kernel_rfl).symm.trans ht)
  obtain ⟨xs, m, _, ex, hcl, hl, hel⟩ := DataW.trod_array Tryd.underlying59 hd
  have c5 : Tryd.prog.cellsOf 35 = 1 := by kernel_rfl
  have c44 : Tryd.prog.cellsOf 59 = 64 := by kernel_rfl
  have hkl : Go.Sy.keys.length = 64 := by kernel_rfl
  rw [keys_laid] at ex
  have e3 : (xs.map (·.1)) = Go.Sy.keys.map fun n => .lit (.int .u32 n) := (DataW.agg.inj (Prod.mk.inj ex).1).symm
  have hcs : cs = (Go.Sy.keys.map (Value.int .u32)).toArray := by
    apply Array.toList_inj.1
    refine List.ext_getElem? fun r => ?_
    rw [List.getElem?_map]
    by_cases hr : r < 64
    · have hE := hel r hr
      rw [c5, Nat.mul_one, List.getElem?_eq_getElem (by omega)] at hE
      obtain ⟨z, e1, e2, _⟩ := DataW.trod_int Tryd.underlying35 hE
      have e4 : (xs.map (·.1))[r]? = (Go.Sy.keys.map fun n => (DataW.lit (.int .u32 n) : DataW Unit))[r]? := by rw [e3]
      rw [List.getElem?_map, List.getElem?_map, List.getElem?_eq_getElem (by omega : r < xs.length), List.getElem?_eq_getElem (by omega : r < Go.Sy.keys.length), e2] at e4
      have h0 : ((cs.toList.drop r).take 1)[0]? = some (.int .u32 z) := by rw [e1]; rfl
      have h1 : cs.toList[r]? = some (.int .u32 z) := by simpa using h0
      rw [h1, List.getElem?_eq_getElem (by omega : r < Go.Sy.keys.length)]
      simp only [Option.map_some, Option.some.injEq, DataW.lit.injEq, Lit.int.injEq, true_and] at e4
      rw [e4]; rfl
    · rw [List.getElem?_eq_none (by omega), List.getElem?_eq_none (by omega)]; rfl
  have hvar : ∃ T fz, W.heap[0]? = some (.cells cs T fz) := by
    unfold World.var? at hv
    rw [hg] at hv
    simp only [Option.bind_some] at hv
    split at hv
    · rename_i cs' T fz hb
      cases hv
      exact ⟨T, fz, hb⟩
    · cases hv
  intro r hr
  simp only [globs, List.mem_singleton] at hr
  subst hr
  obtain ⟨T, fz, h⟩ := hvar
  exact ⟨T, fz, by rw [h, hcs]⟩
end Go.Proofs.YtdbdoilfimiihaaDoor
