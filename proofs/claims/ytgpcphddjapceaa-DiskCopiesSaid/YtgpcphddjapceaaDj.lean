/- What comes in to the disk's statement DiskCopies. -/
import Derived.Test.YtgpcphddjapceaaDi
import Derived.Test.YtgpcphddjapceaaDy
namespace Go.Proofs.Ytgpcphddjapceaa
open Go.Sy

theorem copies_law (xs : List PV) (h : ShpAll Try.prog 6 Try.f7.params.toList xs) : Fc Try.prog 7 xs [] (.lit (.bool true)) [] := by
  rw [Try.params7] at h
  obtain ⟨x, y, z, rfl, h1, h2, h3⟩ := shp_args3 h
  obtain ⟨r, rfl, hr⟩ := arg_int Try.underlying43 h1
  obtain ⟨nl, l, rfl, hl, ho⟩ := arg_ops h2
  obtain ⟨n2, m, rfl, hm, hp⟩ := arg_ops h3
  have := wf_u16 hr
  exact copies_fn r nl n2 l m hl hm (by omega) (by omega) ho hp
end Go.Proofs.Ytgpcphddjapceaa
