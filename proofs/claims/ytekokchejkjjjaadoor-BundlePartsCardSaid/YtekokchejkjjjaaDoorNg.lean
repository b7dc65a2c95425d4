/- Stores: what comes in; the tables lie where the rows say. (and what stands on it) -/
import Derived.Test.YtekokchejkjjjaaDoorNa
import Derived.Test.YtekokchejkjjjaaDoorN4
import Derived.Test.YtekokchejkjjjaaDoorRows
import Derived.OpenShut
import Derived.Lay
import Derived.MakeChecks
import Derived.Test.YtekokchejkjjjaaDoorNs
set_option linter.unusedSimpArgs false
set_option linter.unusedVariables false

/-! Stores: what comes in; the tables lie where the rows say. -/
namespace Go.Sy
theorem arg_ids {P : Program} {t e : TypeId} {m : Nat} {x : PV} (ht : P.underlying t = some (.slice e)) (he : P.underlying e = some .string) (hc : P.cellsOf e = 1) (h : ∃ ys, Shp P (m + 2) t ys ∧ x = packE P t ys) :
    ∃ nl l, x = .sl .imm nl 1 (idc l) ∧ l.length ≤ maxLen := by
  obtain ⟨nl, xs, rfl, h1, h2, h3⟩ := arg_rows ht h
  obtain ⟨l, rfl, h4⟩ := list_choose (p := fun _ : ByteArray => True) (f := fun n => PV.lit (.string n)) (xs := xs) fun x hx => by
    obtain ⟨n, h5, h6⟩ := arg_str he (h3 x hx)
    exact ⟨n, trivial, h5⟩
  exact ⟨nl, l, by rw [hc]; rfl, by simpa using h2⟩
end Go.Sy
namespace Go.Proofs.YtekokchejkjjjaaDoor
open Go.Sy Go.ChangeShapes Go.WideShapes Go.ChangeAt Go.RowKit
theorem own : ownKnob Tryd.prog.godebug = none := by kernel_rfl
theorem keys_laid1 : (Rows.laid_grapevine_digest_keys : DataW Unit) = .agg (Go.Sy.keys.map fun n => .lit (.int .u32 n)) := by kernel_rfl
theorem keys_laid0 : (Rows.laid_grapevine_grapevineref01_keys : DataW Unit) = .agg (Go.Sy.keys.map fun n => .lit (.int .u32 n)) := by kernel_rfl
theorem keys_cells {W : World} {g fuel : Nat} {n : String} {cs : Array Value} {d : DataW Unit} {p : List MemPlace} (hg : Tryd.prog.globalNamed n = some g) (hv : W.var? Tryd.prog n = some cs) (hk : d = .agg (Go.Sy.keys.map fun n => .lit (.int .u32 n)))
    (hd : DataW.trod (fun _ => ()) Tryd.prog W 0 (fun _ => true) false fuel 100 cs.toList = some (d, p)) : ∃ T fz, W.heap[g]? = some (.cells (Go.Sy.keys.map (Value.int .u32)).toArray T fz) := by
  obtain ⟨xs, m, _, ex, hcl, hl, hel⟩ := DataW.trod_array Tryd.underlying100 hd
  have c5 : Tryd.prog.cellsOf 95 = 1 := by kernel_rfl
  have c100 : Tryd.prog.cellsOf 100 = 64 := by kernel_rfl
  have hkl : Go.Sy.keys.length = 64 := by kernel_rfl
  rw [hk] at ex
  have e3 : (xs.map (·.1)) = Go.Sy.keys.map fun n => .lit (.int .u32 n) := (DataW.agg.inj (Prod.mk.inj ex).1).symm
  have hcs : cs = (Go.Sy.keys.map (Value.int .u32)).toArray := by
    apply Array.toList_inj.1
    refine List.ext_getElem? fun r => ?_
    rw [List.getElem?_map]
    by_cases hr : r < 64
    · have hE := hel r hr
      rw [c5, Nat.mul_one, List.getElem?_eq_getElem (by omega)] at hE
      obtain ⟨z, e1, e2, _⟩ := DataW.trod_int Tryd.underlying95 hE
      have e4 : (xs.map (·.1))[r]? = (Go.Sy.keys.map fun n => (DataW.lit (.int .u32 n) : DataW Unit))[r]? := by rw [e3]
      rw [List.getElem?_map, List.getElem?_map, List.getElem?_eq_getElem (by omega : r < xs.length), List.getElem?_eq_getElem (by omega : r < Go.Sy.keys.length), e2] at e4
      have h0 : ((cs.toList.drop r).take 1)[0]? = some (.int .u32 z) := by rw [e1]; rfl
      have h1 : cs.toList[r]? = some (.int .u32 z) := by simpa using h0
      rw [h1, List.getElem?_eq_getElem (by omega : r < Go.Sy.keys.length)]
      simp only [Option.map_some, Option.some.injEq, DataW.lit.injEq, Lit.int.injEq, true_and] at e4
      rw [e4]; rfl
    · rw [List.getElem?_eq_none (by omega), List.getElem?_eq_none (by omega)]; rfl
  unfold World.var? at hv
  rw [hg] at hv
  simp only [Option.bind_some] at hv
  split at hv
  · rename_i cs' T fz hb
    cases hv
    exact ⟨T, fz, by rw [hb, hcs]⟩
  · cases hv
theorem keys_tabs2 {W : World} (h : laidMetH Tryd.prog [("grapevine/grapevineref01.keys", Rows.laid_grapevine_grapevineref01_keys), ("grapevine/digest.keys", Rows.laid_grapevine_digest_keys)] W) :
    (∃ T fz, W.heap[0]? = some (.cells (Go.Sy.keys.map (Value.int .u32)).toArray T fz)) ∧ ∃ T fz, W.heap[1]? = some (.cells (Go.Sy.keys.map (Value.int .u32)).toArray T fz) := by
  rw [MakeChecks.laidMetH_plain _ _ _ (by kernel_rfl)] at h
  obtain ⟨ps, ⟨g, t, cs, fuel, p, q, hg, ht, hv, hd, ⟨g', t', cs', fuel', p', q', hg', ht', hv', hd', _, _⟩, _⟩, _, _⟩ := h
  obtain rfl := Option.some.inj ((show Tryd.prog.globalNamed "grapevine/grapevineref01.keys" = some 0 by kernel_rfl).symm.trans hg)
  obtain rfl := Option.some.inj ((show (Tryd.prog.globals[0]?).map (·.type) = some 100 by kernel_rfl).symm.trans ht)
  obtain rfl := Option.some.inj ((show Tryd.prog.globalNamed "grapevine/digest.keys" = some 1 by kernel_rfl).symm.trans hg')
  obtain rfl := Option.some.inj ((show (Tryd.prog.globals[1]?).map (·.type) = some 100 by kernel_rfl).symm.trans ht')
  exact ⟨keys_cells hg hv keys_laid0 hd, keys_cells hg' hv' keys_laid1 hd'⟩
theorem keys_tabs {W : World} (h : laidMetH Tryd.prog [("grapevine/grapevineref01.keys", Rows.laid_grapevine_grapevineref01_keys), ("grapevine/digest.keys", Rows.laid_grapevine_digest_keys)] W) : Tabs W := by
  intro r hr
  simp only [globs, List.mem_cons, List.not_mem_nil, or_false] at hr
  rcases hr with rfl | rfl
  · exact (keys_tabs2 h).1
  · exact (keys_tabs2 h).2
end Go.Proofs.YtekokchejkjjjaaDoor

/-! What is lent: contracts of calls that make rows, of rows that are lent; what is clean. -/
namespace Go.Sy
theorem ints_dataC {k : IntKind} {l : List Int} (x : PV) (h : x ∈ ints k l) : DataC x := by
  simp only [ints, List.mem_map] at h
  obtain ⟨n, _, rfl⟩ := h
  exact .lit _
@[simp] theorem ints_allC {k : IntKind} {l : List Int} : (∀ x, x ∈ ints k l → DataC x) = True := eq_true fun _ => ints_dataC _
theorem idc_dataC {l : List ByteArray} (x : PV) (h : x ∈ idc l) : DataC x := by
  simp only [idc, List.mem_map] at h
  obtain ⟨n, _, rfl⟩ := h
  exact .lit _
@[simp] theorem idc_allC {l : List ByteArray} : (∀ x, x ∈ idc l → DataC x) = True := eq_true fun _ => idc_dataC _
/-- What a call makes of what it reads, it makes of what is lent. -/
theorem Fc.lent {P : Program} {k : FuncId} {al bs : List PV} {x : PV} {h1 : List (Nat × Ob)} (hf : Fc P k bs [] x h1) (hl : lendL [] al = some bs) (hr : Fr x) (hW : (wayR none x).ok = true) :
    Fc P k al [] (x.scrub (Fren (wayR none x).outT) (fun _ => none)) [] := by
  refine ⟨hf.ok, fun g w vs a1 a2 a3 => CallsIn.mono (CallT.fresh _ hW (hf.run.mono fun _ _ h => h.1) hl hr g w vs a1 a2 a3) ?_⟩
  rintro e w' ⟨v, g', rfl, b1, b2, b3, b4, b5⟩
  exact ⟨v, _, g', [], rfl, ⟨rfl, rfl⟩, b3, fun p ob hp => (by simp [getO] at hp), b4, b5⟩
end Go.Sy
namespace Go.Proofs.YtekokchejkjjjaaDoor
open Go.Sy
@[simp] theorem ds_clean (s : DS) (o : Own) : (∀ x, x ∈ s.cells o → Go.Sy.Clean x) = True := eq_true fun x hx => by
  simp only [DS.cells, List.mem_cons, List.not_mem_nil, or_false] at hx
  rcases hx with rfl | rfl | rfl | rfl <;> simp
@[simp] theorem objE_clean (L : List Objt) : (∀ e, e ∈ objE L → Go.Sy.Clean e.1 ∧ Go.Sy.Clean e.2) = True := eq_true fun e he => by
  simp only [objE, List.mem_map] at he
  obtain ⟨o, _, rfl⟩ := he
  simp
@[simp] theorem objE_clean' (L : List Objt) : (∀ a b : PV, (a, b) ∈ objE L → Go.Sy.Clean a ∧ Go.Sy.Clean b) = True := eq_true fun a b he => by
  have := of_eq_true (objE_clean L) (a, b) he
  exact this
theorem cloneR_fn (nl : Bool) (xs : List Int) (hn : nl = true → xs = []) (hl : xs.length ≤ 140737488355328) : Fc Tryd.prog 66 [.sl .rd nl 1 (u8s xs)] [] (.sl .imm nl 1 (u8s xs)) [] := by
  have h := (clone_fn nl xs hn hl).lent (al := [.sl .rd nl 1 (u8s xs)]) rfl (fr_u8s _ _ _) (by rfl)
  have := h.fz [.loc 1000]
  simpa using this
end Go.Proofs.YtekokchejkjjjaaDoor
