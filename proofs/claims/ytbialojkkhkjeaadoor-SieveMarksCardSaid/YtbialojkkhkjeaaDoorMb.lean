/- Sieve: what comes in; the tables lie where the rows say. (and what stands on it) -/
import Derived.Test.YtbialojkkhkjeaaDoorMa
import Derived.Test.YtbialojkkhkjeaaDoorM4
import Derived.Test.YtbialojkkhkjeaaDoorRows
import Derived.OpenShut
import Derived.Lay
import Derived.MakeChecks

/-! Sieve: what comes in; the tables lie where the rows say. -/
namespace Go.Sy
theorem arg_ids {P : Program} {t e : TypeId} {m : Nat} {x : PV} (ht : P.underlying t = some (.slice e)) (he : P.underlying e = some .string) (hc : P.cellsOf e = 1) (h : ∃ ys, Shp P (m + 2) t ys ∧ x = packE P t ys) :
    ∃ nl l, x = .sl .imm nl 1 (idc l) ∧ l.length ≤ maxLen := by
  obtain ⟨nl, xs, rfl, h1, h2, h3⟩ := arg_rows ht h
  obtain ⟨l, rfl, h4⟩ := list_choose (p := fun _ : ByteArray => True) (f := fun n => PV.lit (.string n)) (xs := xs) fun x hx => by
    obtain ⟨n, h5, h6⟩ := arg_str he (h3 x hx)
    exact ⟨n, trivial, h5⟩
  exact ⟨nl, l, by rw [hc]; rfl, by simpa using h2⟩
end Go.Sy
namespace Go.Proofs.YtbialojkkhkjeaaDoor
open Go.Sy Go.ChangeShapes Go.WideShapes Go.ChangeAt Go.RowKit
theorem own : ownKnob Tryd.prog.godebug = none := by kernel_rfl
theorem keys_laid1 : (Rows.laid_grapevine_digest_keys : DataW Unit) = .agg (Go.Sy.keys.map fun n => .lit (.int .u32 n)) := by kernel_rfl
theorem keys_laid0 : (Rows.laid_grapevine_grapevineref01_keys : DataW Unit) = .agg (Go.Sy.keys.map fun n => .lit (.int .u32 n)) := by kernel_rfl
theorem keys_cells {W : World} {g fuel : Nat} {n : String} {cs : Array Value} {d : DataW Unit} {p : List MemPlace} (hg : Tryd.prog.globalNamed n = some g) (hv : W.var? Tryd.prog n = some cs) (hk : d = .agg (Go.Sy.keys.map fun n => .lit (.int .u32 n)))
    (hd : DataW.trod (fun _ => ()) Tryd.prog W 0 (fun _ => true) false fuel 60 cs.toList = some (d, p)) : ∃ T fz, W.heap[g]? = some (.cells (Go.Sy.keys.map (Value.int .u32)).toArray T fz) := by
  obtain ⟨xs, m, _, ex, hcl, hl, hel⟩ := DataW.trod_array Tryd.underlying60 hd
  have c5 : Tryd.prog.cellsOf 55 = 1 := by kernel_rfl
  have c60 : Tryd.prog.cellsOf 60 = 64 := by kernel_rfl
  have hkl : Go.Sy.keys.length = 64 := by kernel_rfl
  rw [hk] at ex
  have e3 : (xs.map (·.1)) = Go.Sy.keys.map fun n => .lit (.int .u32 n) := (DataW.agg.inj (Prod.mk.inj ex).1).symm
  have hcs : cs = (Go.Sy.keys.map (Value.int .u32)).toArray := by
    apply Array.toList_inj.1
    refine List.ext_getElem? fun r => ?_
    rw [List.getElem?_map]
    by_cases hr : r < 64
    · have hE := hel r hr
      rw [c5, Nat.mul_one, List.getElem?_eq_getElem (by omega)] at hE
      obtain ⟨z, e1, e2, _⟩ := DataW.trod_int Tryd.underlying55 hE
      have e4 : (xs.map (·.1))[r]? = (Go.Sy.keys.map fun n => (DataW.lit (.int .u32 n) : DataW Unit))[r]? := by rw [e3]
      rw [List.getElem?_map, List.getElem?_map, List.getElem?_eq_getElem (by omega : r < xs.length), List.getElem?_eq_getElem (by omega : r < Go.Sy.keys.length), e2] at e4
      have h0 : ((cs.toList.drop r).take 1)[0]? = some (.int .u32 z) := by rw [e1]; rfl
      have h1 : cs.toList[r]? = some (.int .u32 z) := by simpa using h0
      rw [h1, List.getElem?_eq_getElem (by omega : r < Go.Sy.keys.length)]
      simp only [Option.map_some, Option.some.injEq, DataW.lit.injEq, Lit.int.injEq, true_and] at e4
      rw [e4]; rfl
    · rw [List.getElem?_eq_none (by omega), List.getElem?_eq_none (by omega)]; rfl
  unfold World.var? at hv
  rw [hg] at hv
  simp only [Option.bind_some] at hv
  split at hv
  · rename_i cs' T fz hb
    cases hv
    exact ⟨T, fz, by rw [hb, hcs]⟩
  · cases hv
theorem keys_tabs2 {W : World} (h : laidMetH Tryd.prog [("grapevine/grapevineref01.keys", Rows.laid_grapevine_grapevineref01_keys), ("grapevine/digest.keys", Rows.laid_grapevine_digest_keys)] W) :
    (∃ T fz, W.heap[0]? = some (.cells (Go.Sy.keys.map (Value.int .u32)).toArray T fz)) ∧ ∃ T fz, W.heap[1]? = some (.cells (Go.Sy.keys.map (Value.int .u32)).toArray T fz) := by
  rw [MakeChecks.laidMetH_plain _ _ _ (by kernel_rfl)] at h
  obtain ⟨ps, ⟨g, t, cs, fuel, p, q, hg, ht, hv, hd, ⟨g', t', cs', fuel', p', q', hg', ht', hv', hd', _, _⟩, _⟩, _, _⟩ := h
  obtain rfl := Option.some.inj ((show Tryd.prog.globalNamed "grapevine/grapevineref01.keys" = some 0 by kernel_rfl).symm.trans hg)
  obtain rfl := Option.some.inj ((show (Tryd.prog.globals[0]?).map (·.type) = some 60 by kernel_rfl).symm.trans ht)
  obtain rfl := Option.some.inj ((show Tryd.prog.globalNamed "grapevine/digest.keys" = some 1 by kernel_rfl).symm.trans hg')
  obtain rfl := Option.some.inj ((show (Tryd.prog.globals[1]?).map (·.type) = some 60 by kernel_rfl).symm.trans ht')
  exact ⟨keys_cells hg hv keys_laid0 hd, keys_cells hg' hv' keys_laid1 hd'⟩
theorem keys_tabs1 {W : World} (h : laidMetH Tryd.prog [("grapevine/digest.keys", Rows.laid_grapevine_digest_keys)] W) :
    ∃ T fz, W.heap[1]? = some (.cells (Go.Sy.keys.map (Value.int .u32)).toArray T fz) := by
  rw [MakeChecks.laidMetH_plain _ _ _ (by kernel_rfl)] at h
  obtain ⟨ps, ⟨g, t, cs, fuel, p, q, hg, ht, hv, hd, _, _⟩, _, _⟩ := h
  obtain rfl := Option.some.inj ((show Tryd.prog.globalNamed "grapevine/digest.keys" = some 1 by kernel_rfl).symm.trans hg)
  obtain rfl := Option.some.inj ((show (Tryd.prog.globals[1]?).map (·.type) = some 60 by kernel_rfl).symm.trans ht)
  exact keys_cells hg hv keys_laid1 hd
end Go.Proofs.YtbialojkkhkjeaaDoor

/-! Sieve: the laws over two tables. -/
namespace Go.Proofs.YtbialojkkhkjeaaDoor
open Go.Sy Go.ChangeShapes Go.WideShapes Go.ChangeAt Go.RowKit
theorem tells_law (xs : List PV) (h : ShpAll Tryd.prog 6 Tryd.f3.params.toList xs) : Fc Tryd.prog 3 xs [] (.lit (.bool true)) [] := by
  obtain ⟨x, y, z, u, rfl, hx, hy, hz, hu⟩ := shp_args4 h
  obtain ⟨n1, a, rfl, h1⟩ := arg_ids Tryd.underlying22 Tryd.underlying23 (by kernel_rfl) hx
  obtain ⟨n2, b, rfl, h2⟩ := arg_ids Tryd.underlying22 Tryd.underlying23 (by kernel_rfl) hy
  obtain ⟨lo, rfl, -⟩ := arg_str Tryd.underlying23 hz
  obtain ⟨hi, rfl, -⟩ := arg_str Tryd.underlying23 hu
  exact tells_fn n1 n2 a b lo hi h1 h2
theorem marks_law (xs : List PV) (h : ShpAll Tryd.prog 6 Tryd.f5.params.toList xs) : Fc Tryd.prog 5 xs [] (.lit (.bool true)) [] := by
  obtain ⟨x, y, z, u, rfl, hx, hy, hz, hu⟩ := shp_args4 h
  obtain ⟨n1, a, rfl, h1⟩ := arg_ids Tryd.underlying22 Tryd.underlying23 (by kernel_rfl) hx
  obtain ⟨n2, b, rfl, h2⟩ := arg_ids Tryd.underlying22 Tryd.underlying23 (by kernel_rfl) hy
  obtain ⟨lo, rfl, -⟩ := arg_str Tryd.underlying23 hz
  obtain ⟨hi, rfl, -⟩ := arg_str Tryd.underlying23 hu
  exact marks_fn n1 n2 a b lo hi h1 h2
theorem keys_tabs {W : World} (h : laidMetH Tryd.prog [("grapevine/grapevineref01.keys", Rows.laid_grapevine_grapevineref01_keys), ("grapevine/digest.keys", Rows.laid_grapevine_digest_keys)] W) : Tabs W := by
  intro r hr
  simp only [globs, List.mem_cons, List.not_mem_nil, or_false] at hr
  rcases hr with rfl | rfl
  · exact (keys_tabs2 h).2
  · exact (keys_tabs2 h).1
end Go.Proofs.YtbialojkkhkjeaaDoor
