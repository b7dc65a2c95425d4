/- The law FrameChecks. (and what stands on it) -/
import Derived.Test.YtbialojkkhkjeaaM9
import Derived.Test.YtbialojkkhkjeaaM4

/-! The law FrameChecks. -/
namespace Go.Proofs.Ytbialojkkhkjeaa
open Go.Sy
theorem checks_law (xs : List PV) (h : ShpAll Try.prog 6 Try.f3.params.toList xs) : Fc Try.prog 3 xs [] (.lit (.bool true)) [] := by
  obtain ⟨x, rfl, hx⟩ := shp_args1 h
  obtain ⟨n1, b, rfl, -, -, h3⟩ := arg_ints (k := .u8) Try.underlying22 Try.underlying5 (by kernel_rfl) hx
  exact checks_fn n1 b fun n hn => wf_u8 (h3 n hn)
end Go.Proofs.Ytbialojkkhkjeaa
