/- Messages that come in; the law FrameEncodes. (and what stands on it) -/
import Derived.Test.YtbialojkkhkjeaaMc
import Derived.Test.YtbialojkkhkjeaaM4

/-! Messages that come in; the law FrameEncodes. -/
namespace Go.Sy
theorem shp_rows {P : Program} {t e : TypeId} {m : Nat} {ys : List PV} (ht : P.underlying t = some (.slice e)) (h : Shp P (m + 1) t ys) :
    ∃ nl xs, ys = [.sl .imm nl (P.cellsOf e) xs] ∧ (nl = true → xs = []) ∧ xs.length ≤ maxLen ∧ ∀ x, x ∈ xs → ∃ zs, Shp P m e zs ∧ x = packE P e zs := by
  simp only [Shp, ht] at h
  obtain ⟨nl, xs, rfl, h1, h2, h3⟩ := h
  exact ⟨nl, xs, rfl, h1, h2, h3⟩
theorem part_one {ys : List PV} {k : Nat} {y : PV} (h : (ys.drop k).take 1 = [y]) : ys[k]? = some y := by
  have : ((ys.drop k).take 1)[0]? = some y := by rw [h]; rfl
  simpa using this
theorem list9 {ys : List PV} {a b c d e f g h i : PV} (hl : ys.length = 9) (h0 : ys[0]? = some a) (h1 : ys[1]? = some b) (h2 : ys[2]? = some c) (h3 : ys[3]? = some d) (h4 : ys[4]? = some e) (h5 : ys[5]? = some f) (h6 : ys[6]? = some g) (h7 : ys[7]? = some h) (h8 : ys[8]? = some i) :
    ys = [a, b, c, d, e, f, g, h, i] := by
  apply List.ext_getElem?
  intro j
  match j with
  | 0 => exact h0
  | 1 => exact h1
  | 2 => exact h2
  | 3 => exact h3
  | 4 => exact h4
  | 5 => exact h5
  | 6 => exact h6
  | 7 => exact h7
  | 8 => exact h8
  | j + 9 => rw [List.getElem?_eq_none (by omega), List.getElem?_eq_none (by simp)]
theorem list4 {ys : List PV} {a b c d : PV} (hl : ys.length = 4) (h0 : ys[0]? = some a) (h1 : ys[1]? = some b) (h2 : ys[2]? = some c) (h3 : ys[3]? = some d) : ys = [a, b, c, d] := by
  apply List.ext_getElem?
  intro j
  match j with
  | 0 => exact h0
  | 1 => exact h1
  | 2 => exact h2
  | 3 => exact h3
  | j + 4 => rw [List.getElem?_eq_none (by omega), List.getElem?_eq_none (by simp)]
end Go.Sy
namespace Go.Proofs.Ytbialojkkhkjeaa
open Go.Sy
theorem cells28 : Try.prog.cellsOf 28 = 1 := by kernel_rfl
theorem cells3 : Try.prog.cellsOf 3 = 1 := by kernel_rfl
theorem cells27 : Try.prog.cellsOf 27 = 1 := by kernel_rfl
theorem cells29 : Try.prog.cellsOf 29 = 1 := by kernel_rfl
theorem cells22 : Try.prog.cellsOf 22 = 1 := by kernel_rfl
theorem cells48 : Try.prog.cellsOf 48 = 4 := by kernel_rfl
theorem cells31 : Try.prog.cellsOf 31 = 9 := by kernel_rfl
theorem shp_rg {zs : List PV} {n : Nat} (h : Shp Try.prog (n + 2) 48 zs) : ∃ r : Rg, zs = r.cells := by
  obtain ⟨hl, hf⟩ := shp_struct Try.underlying48 h
  rw [cells48] at hl
  have f0 := hf _ (.head _)
  have f1 := hf _ (.tail _ (.head _))
  have f2 := hf _ (.tail _ (.tail _ (.head _)))
  have f3 := hf _ (.tail _ (.tail _ (.tail _ (.head _))))
  simp only [cells28, cells3] at f0 f1 f2 f3
  obtain ⟨lo, e0, -⟩ := shp_str Try.underlying28 f0
  obtain ⟨hi, e1, -⟩ := shp_str Try.underlying28 f1
  obtain ⟨mn, e2, -⟩ := shp_int Try.underlying3 f2
  obtain ⟨mk, e3, -⟩ := shp_str Try.underlying28 f3
  exact ⟨⟨lo, hi, mn, mk⟩, list4 hl (part_one e0) (part_one e1) (part_one e2) (part_one e3)⟩
theorem arg_ms {x : PV} (h : ∃ ys, Shp Try.prog 6 31 ys ∧ x = packE Try.prog 31 ys) : ∃ m : Ms, x = .agg m.cells ∧ m.rs.length ≤ maxLen ∧ m.ids.length ≤ maxLen ∧ InB m.body := by
  obtain ⟨ys, h, rfl⟩ := h
  obtain ⟨hl, hf⟩ := shp_struct Try.underlying31 h
  rw [cells31] at hl
  have f0 := hf _ (.head _)
  have f1 := hf _ (.tail _ (.head _))
  have f2 := hf _ (.tail _ (.tail _ (.head _)))
  have f3 := hf _ (.tail _ (.tail _ (.tail _ (.head _))))
  have f4 := hf _ (.tail _ (.tail _ (.tail _ (.tail _ (.head _)))))
  have f5 := hf _ (.tail _ (.tail _ (.tail _ (.tail _ (.tail _ (.head _))))))
  have f6 := hf _ (.tail _ (.tail _ (.tail _ (.tail _ (.tail _ (.tail _ (.head _)))))))
  have f7 := hf _ (.tail _ (.tail _ (.tail _ (.tail _ (.tail _ (.tail _ (.tail _ (.head _))))))))
  have f8 := hf _ (.tail _ (.tail _ (.tail _ (.tail _ (.tail _ (.tail _ (.tail _ (.tail _ (.head _)))))))))
  simp only [cells28, cells3, cells27, cells29, cells22] at f0 f1 f2 f3 f4 f5 f6 f7 f8
  obtain ⟨kind, e0, -⟩ := shp_int Try.underlying3 f0
  obtain ⟨nr, xs, e1, -, l1, g1⟩ := shp_rows Try.underlying27 f1
  obtain ⟨lo, e2, -⟩ := shp_str Try.underlying28 f2
  obtain ⟨hi, e3, -⟩ := shp_str Try.underlying28 f3
  obtain ⟨ni, zs, e4, -, l4, g4⟩ := shp_rows Try.underlying29 f4
  obtain ⟨bu, e5, -⟩ := shp_str Try.underlying28 f5
  obtain ⟨ix, e6, -⟩ := shp_int Try.underlying3 f6
  obtain ⟨mn, e7, -⟩ := shp_int Try.underlying3 f7
  obtain ⟨nb, bo, e8, -, -, g8⟩ := shp_ints (k := .u8) Try.underlying22 Try.underlying5 (by kernel_rfl) f8
  obtain ⟨rs, rfl, -⟩ := list_choose (p := fun _ : Rg => True) (f := fun r => PV.agg r.cells) (xs := xs) fun x hx => by
    obtain ⟨zs, h5, h6⟩ := g1 x hx
    obtain ⟨r, rfl⟩ := shp_rg h5
    exact ⟨r, trivial, h6⟩
  obtain ⟨ids, rfl, -⟩ := list_choose (p := fun _ : ByteArray => True) (f := fun r => PV.lit (.string r)) (xs := zs) fun x hx => by
    obtain ⟨n, h5, -⟩ := arg_str Try.underlying28 (g4 x hx)
    exact ⟨n, trivial, h5⟩
  rw [cells48] at e1
  rw [cells28] at e4
  refine ⟨⟨kind, nr, rs, lo, hi, ni, ids, bu, ix, mn, nb, bo⟩, ?_, by simpa using l1, by simpa using l4, fun n hn => wf_u8 (g8 n hn)⟩
  have := list9 hl (part_one e0) (part_one e1) (part_one e2) (part_one e3) (part_one e4) (part_one e5) (part_one e6) (part_one e7) (part_one e8)
  rw [this]; rfl
theorem encodes_law (xs : List PV) (h : ShpAll Try.prog 6 Try.f4.params.toList xs) : Fc Try.prog 4 xs [] (.lit (.bool true)) [] := by
  obtain ⟨x, rfl, hx⟩ := shp_args1 h
  obtain ⟨m, rfl, h1, h2, h3⟩ := arg_ms hx
  exact encodes_fn m h1 h2 h3
end Go.Proofs.Ytbialojkkhkjeaa
