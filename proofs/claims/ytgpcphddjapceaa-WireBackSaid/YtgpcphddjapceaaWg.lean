/- What comes in to the wire's statements. -/
import Derived.Test.YtgpcphddjapceaaWf
import Derived.Test.YtgpcphddjapceaaSu
namespace Go.Proofs.Ytgpcphddjapceaa
open Go.Sy

theorem we5 : Try.prog.cellsOf 5 = 1 := by kernel_rfl
theorem we3 : Try.prog.cellsOf 3 = 1 := by kernel_rfl
theorem arg_bytes {x : PV} (h : ∃ ys, Shp Try.prog 6 22 ys ∧ x = packE Try.prog 22 ys) : ∃ (nl : Bool) (l : List Int), x = .sl .imm nl 1 (u8s l) ∧ (nl = true → l = []) ∧ l.length ≤ 9223372036854775807 ∧ InB l := by
  obtain ⟨nl, l, rfl, h1, h2, h3⟩ := arg_ints Try.underlying22 Try.underlying5 we5 h
  exact ⟨nl, l, rfl, h1, by unfold maxLen at h2; omega, fun n hn => wf_u8 (h3 n hn)⟩
theorem arg_reads {x : PV} (h : ∃ ys, Shp Try.prog 6 58 ys ∧ x = packE Try.prog 58 ys) : ∃ (nl : Bool) (l : List Int), x = .sl .imm nl 1 (ints .i64 l) ∧ l.length ≤ 9223372036854775807 ∧ ∀ n, n ∈ l → -9223372036854775808 ≤ n ∧ n < 9223372036854775808 := by
  obtain ⟨nl, l, rfl, h1, h2, h3⟩ := arg_ints Try.underlying58 Try.underlying3 we3 h
  exact ⟨nl, l, rfl, by unfold maxLen at h2; omega, fun n hn => wf_i64 (h3 n hn)⟩

theorem puts_law (xs : List PV) (h : ShpAll Try.prog 6 Try.f8.params.toList xs) : Fc Try.prog 8 xs [] (.lit (.bool true)) [] := by
  rw [Try.params8] at h
  obtain ⟨x, y, z, rfl, h1, h2, h3⟩ := shp_args3 h
  obtain ⟨nl, b, rfl, hn, -, -⟩ := arg_bytes h1
  obtain ⟨n, rfl, hr⟩ := arg_int Try.underlying49 h2
  obtain ⟨n2, c, rfl, -, -, -⟩ := arg_bytes h3
  have := wf_u64 hr
  exact puts_fn nl n2 b c n hn (by omega) (by omega)
theorem one_law (xs : List PV) (h : ShpAll Try.prog 6 Try.f9.params.toList xs) : Fc Try.prog 9 xs [] (.lit (.bool true)) [] := by
  rw [Try.params9] at h
  obtain ⟨x, rfl, h1⟩ := shp_args1 h
  obtain ⟨nl, b, rfl, hn, -, hb⟩ := arg_bytes h1
  exact one_fn nl b hn hb
end Go.Proofs.Ytgpcphddjapceaa
