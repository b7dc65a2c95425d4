/- What comes in to the disk's statements. -/
import Derived.Test.YtgpcphddjapceaaDf
import Derived.Test.YtgpcphddjapceaaDg
import Derived.Test.YtgpcphddjapceaaDh
import Derived.Test.YtgpcphddjapceaaSu
namespace Go.Proofs.Ytgpcphddjapceaa
open Go.Sy

theorem ce5' : Try.prog.cellsOf 5 = 1 := by kernel_rfl
theorem ce3' : Try.prog.cellsOf 3 = 1 := by kernel_rfl
theorem ce22' : Try.prog.cellsOf 22 = 1 := by kernel_rfl
theorem ce40' : Try.prog.cellsOf 40 = 3 := by kernel_rfl

set_option maxRecDepth 100000 in
theorem arg_ops {x : PV} (h : ∃ ys, Shp Try.prog 6 33 ys ∧ x = packE Try.prog 33 ys) : ∃ (nl : Bool) (l : List OpS), x = .sl .imm nl 3 (l.map OpS.pv) ∧ l.length ≤ 9223372036854775807 ∧
    ∀ o, o ∈ l → 0 ≤ o.kind ∧ o.kind < 256 ∧ -9223372036854775808 ≤ o.n ∧ o.n < 9223372036854775808 := by
  obtain ⟨nl, xs, rfl, h1, h2, h3⟩ := arg_rows Try.underlying33 h
  obtain ⟨l, rfl, h4⟩ := list_choose (p := fun o : OpS => 0 ≤ o.kind ∧ o.kind < 256 ∧ -9223372036854775808 ≤ o.n ∧ o.n < 9223372036854775808) (f := OpS.pv) (xs := xs) fun x hx => by
    obtain ⟨zs, h5, rfl⟩ := h3 x hx
    obtain ⟨h6, h7⟩ := shp_struct Try.underlying40 h5
    rw [ce40'] at h6
    match zs, h6 with
    | [a, b, c], _ =>
      have q1 := h7 _ (by simp; exact .inl rfl)
      have q2 := h7 _ (by simp; exact .inr (.inl rfl))
      have q3 := h7 _ (by simp; exact .inr (.inr rfl))
      simp only [ce5', ce3', ce22'] at q1 q2 q3
      obtain ⟨k, e1, w1⟩ := shp_int (m := 3) Try.underlying5 q1
      obtain ⟨n1, ys, e2, -, -, -⟩ := shp_ints (m := 2) Try.underlying22 Try.underlying5 ce5' q2
      obtain ⟨n, e3, w3⟩ := shp_int (m := 3) Try.underlying3 q3
      simp at e1 e2 e3
      subst e1; subst e2; subst e3
      exact ⟨⟨k, n1, ys, n⟩, ⟨(wf_u8 w1).1, (wf_u8 w1).2, (wf_i64 w3).1, (wf_i64 w3).2⟩, by simp [packE, OpS.pv, OpS.row]⟩
  refine ⟨nl, l, by rw [ce40'], ?_, h4⟩
  rw [List.length_map] at h2
  unfold maxLen at h2
  omega

theorem plays_law (xs : List PV) (h : ShpAll Try.prog 6 Try.f4.params.toList xs) : Fc Try.prog 4 xs [] (.lit (.bool true)) [] := by
  rw [Try.params4] at h
  obtain ⟨x, y, rfl, h1, h2⟩ := shp_args2 h
  obtain ⟨r, rfl, hr⟩ := arg_int Try.underlying3 h1
  obtain ⟨nl, l, rfl, hl, ho⟩ := arg_ops h2
  have := wf_i64 hr
  exact plays_fn r nl l hl (by omega) (by omega) ho
theorem room_law (xs : List PV) (h : ShpAll Try.prog 6 Try.f6.params.toList xs) : Fc Try.prog 6 xs [] (.lit (.bool true)) [] := by
  rw [Try.params6] at h
  obtain ⟨x, y, rfl, h1, h2⟩ := shp_args2 h
  obtain ⟨r, rfl, hr⟩ := arg_int Try.underlying43 h1
  obtain ⟨nl, l, rfl, hl, ho⟩ := arg_ops h2
  have := wf_u16 hr
  exact room_fn r nl l hl (by omega) (by omega) ho
theorem tears_law (xs : List PV) (h : ShpAll Try.prog 6 Try.f5.params.toList xs) : Fc Try.prog 5 xs [] (.lit (.bool true)) [] := by
  rw [Try.params5] at h
  obtain ⟨x, y, z, u, rfl, h1, h2, h3, h4⟩ := shp_args4 h
  obtain ⟨r, rfl, hr⟩ := arg_int Try.underlying43 h1
  obtain ⟨nl, l, rfl, hl, ho⟩ := arg_ops h2
  obtain ⟨nb, b, rfl, -, hb, -⟩ := arg_ints Try.underlying22 Try.underlying5 ce5' h3
  obtain ⟨f, rfl, hf⟩ := arg_int Try.underlying5 h4
  have := wf_u16 hr
  have := wf_u8 hf
  exact tears_fn r nl nb l b f hl (by unfold maxLen at hb; omega) (by omega) (by omega) (by omega) (by omega) ho
end Go.Proofs.Ytgpcphddjapceaa
