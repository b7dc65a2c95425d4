/- What comes in to the wire's statement WireBack. -/
import Derived.Test.YtgpcphddjapceaaWg
import Derived.Test.YtgpcphddjapceaaWl
namespace Go.Proofs.Ytgpcphddjapceaa
open Go.Sy

theorem we49 : Try.prog.cellsOf 49 = 1 := by kernel_rfl
theorem we9 : Try.prog.cellsOf 9 = 1 := by kernel_rfl
theorem arg_u64s {x : PV} (h : ∃ ys, Shp Try.prog 6 67 ys ∧ x = packE Try.prog 67 ys) : ∃ (nl : Bool) (l : List Int), x = .sl .imm nl 1 (ints .u64 l) ∧ ∀ n, n ∈ l → 0 ≤ n ∧ n < 18446744073709551616 := by
  obtain ⟨nl, l, rfl, h1, h2, h3⟩ := arg_ints Try.underlying67 Try.underlying49 we49 h
  exact ⟨nl, l, rfl, fun n hn => wf_u64 (h3 n hn)⟩
theorem arg_strs {x : PV} (h : ∃ ys, Shp Try.prog 6 68 ys ∧ x = packE Try.prog 68 ys) : ∃ (nl : Bool) (l : List ByteArray), x = .sl .imm nl 1 (l.map fun s => .lit (.string s)) := by
  obtain ⟨nl, xs, rfl, h1, h2, h3⟩ := arg_rows Try.underlying68 h
  obtain ⟨l, rfl, h4⟩ := list_choose (p := fun _ : ByteArray => True) (f := fun s => PV.lit (.string s)) (xs := xs) fun x hx => by
    obtain ⟨s, h5, -⟩ := arg_str Try.underlying9 (h3 x hx)
    exact ⟨s, trivial, h5⟩
  exact ⟨nl, l, by rw [we9]⟩
theorem back_law (xs : List PV) (h : ShpAll Try.prog 6 Try.f14.params.toList xs) : Fc Try.prog 14 xs [] (.lit (.bool true)) [] := by
  rw [Try.params14] at h
  obtain ⟨x, y, rfl, h1, h2⟩ := shp_args2 h
  obtain ⟨n1, l, rfl, hl⟩ := arg_u64s h1
  obtain ⟨n2, m, rfl⟩ := arg_strs h2
  exact back_fn n1 n2 l m hl
end Go.Proofs.Ytgpcphddjapceaa
