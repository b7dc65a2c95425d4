/- Digests: written in parts. (and what stands on it) -/
import Derived.Test.YtlbbkaeohpaaiaaDoorM8

/-! Digests: written in parts. -/
namespace Go.Sy
theorem absB_append (p x : List Int) (S : List Int) : absB S (p ++ x) = absB (absB S p).1 ((absB S p).2 ++ x) := by
  by_cases h : 64 ≤ p.length
  · have e1 : absB S p = absB (bhd (p.take 64) S) (p.drop 64) := by rw [absB, if_pos h]
    have e2 : absB S (p ++ x) = absB (bhd (p.take 64) S) (p.drop 64 ++ x) := by
      rw [absB, if_pos (by simp; omega), List.take_append_of_le_length h, List.drop_append_of_le_length h]
    rw [e1, e2]
    exact absB_append (p.drop 64) x _
  · have e1 : absB S p = (S, p) := by rw [absB, if_neg h]
    rw [e1]
termination_by p.length
decreasing_by simp; omega
end Go.Sy
namespace Go.Proofs.YtlbbkaeohpaaiaaDoor
open Go.Sy
/-- Is nothing left over? -/
def nz (p x : List Int) : Bool := decide ((absB st0 p).2 ++ x = [])
theorem nz_rest {p x y : List Int} (hy : p ++ x = y) (h : nz p x = true) : (absB st0 y).2 = [] := by
  have h1 : (absB st0 p).2 ++ x = [] := by simpa [nz] using h
  rw [← hy, absB_append, h1, absB, if_neg (by simp)]

theorem write_law (p x y : List Int) (m m' : Int) (nl n2 : Bool) (hy : p ++ x = y) (hm : m = p.length) (hm' : m' = y.length) (hl : y.length ≤ 1000000) :
    Fc Tryd.prog 16 [.ptr 100000 0, .sl .imm n2 1 (u8s x)] [(100000, .cells (sv (absB st0 p).1 ++ [.sl (.own (.cell 100000 8)) nl 1 (u8s (absB st0 p).2), .lit (.int .u64 m)]))] (.tup [])
      [(100000, .cells (sv (absB st0 y).1 ++ [.sl (.own (.cell 100000 8)) (nz p x) 1 (u8s (absB st0 y).2), .lit (.int .u64 m')]))] := by
  have hS := absB_length (S := st0) (l := p) rfl
  have hyl : y.length = p.length + x.length := by rw [← hy]; simp
  have hw : IntKind.u64.wrap (m + x.length) = m' := by rw [wrap_is_u64]; omega
  have ha : absB st0 y = absB (absB st0 p).1 ((absB st0 p).2 ++ x) := by rw [← hy, absB_append]
  by_cases h : (absB st0 p).2 ++ x = []
  · have h2 := List.append_eq_nil_iff.1 h
    have hz : nz p x = true := by simp [nz, h]
    have hb : absB st0 y = ((absB st0 p).1, []) := by rw [ha, h, absB, if_neg (by simp)]
    have := write0_fn (absB st0 p).1 m nl n2 hS
    rw [hz, hb, h2.1, h2.2]
    rw [h2.2] at hw
    simp only [List.length_nil, Int.ofNat_zero, Int.natCast_zero] at hw
    rwa [hw] at this
  · have hz : nz p x = false := by simp [nz] at h ⊢; exact h
    have hr : (absB st0 p).2.length < 64 := absB_rest
    have h3 : 0 < (absB st0 p).2.length + x.length := by
      have := List.length_pos_iff.2 h
      simpa using this
    have := write_fn (absB st0 p).1 (absB st0 p).2 x m nl n2 hS h3 (by omega)
    rw [hz, ha]
    rwa [hw] at this
theorem sum_law (p : List Int) (m : Int) (nl : Bool) (hn : nl = true → (absB st0 p).2 = []) (hm : m = p.length) :
    Fc Tryd.prog 17 [.ptr 100000 0] [(100000, .cells (sv (absB st0 p).1 ++ [.sl (.own (.cell 100000 8)) nl 1 (u8s (absB st0 p).2), .lit (.int .u64 m)]))] (.lit (.string (digOf p)))
      [(100000, .cells (sv (absB st0 p).1 ++ [.sl (.own (.cell 100000 8)) nl 1 (u8s (absB st0 p).2), .lit (.int .u64 m)]))] := by
  have := sum_fn (absB st0 p).1 (absB st0 p).2 m nl hn (absB_length rfl) absB_rest
  rw [digOf, ← hm]; exact this
end Go.Proofs.YtlbbkaeohpaaiaaDoor
