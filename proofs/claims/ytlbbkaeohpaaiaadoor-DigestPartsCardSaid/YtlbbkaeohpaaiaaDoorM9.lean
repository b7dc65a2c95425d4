/- Digests: written in parts. (and what stands on it) -/
import Derived.Test.YtlbbkaeohpaaiaaDoorM8
import Derived.Test.YtlbbkaeohpaaiaaDoorM4

/-! Digests: written in parts. -/
namespace Go.Sy
theorem absB_append (p x : List Int) (S : List Int) : absB S (p ++ x) = absB (absB S p).1 ((absB S p).2 ++ x) := by
  by_cases h : 64 ≤ p.length
  · have e1 : absB S p = absB (bhd (p.take 64) S) (p.drop 64) := by rw [absB, if_pos h]
    have e2 : absB S (p ++ x) = absB (bhd (p.take 64) S) (p.drop 64 ++ x) := by
      rw [absB, if_pos (by simp; omega), List.take_append_of_le_length h, List.drop_append_of_le_length h]
    rw [e1, e2]
    exact absB_append (p.drop 64) x _
  · have e1 : absB S p = (S, p) := by rw [absB, if_neg h]
    rw [e1]
termination_by p.length
decreasing_by simp; omega
end Go.Sy
namespace Go.Proofs.YtlbbkaeohpaaiaaDoor
open Go.Sy
/-- Is nothing left over? -/
def nz (p x : List Int) : Bool := decide ((absB st0 p).2 ++ x = [])
theorem nz_rest {p x y : List Int} (hy : p ++ x = y) (h : nz p x = true) : (absB st0 y).2 = [] := by
  have h1 : (absB st0 p).2 ++ x = [] := by simpa [nz] using h
  rw [← hy, absB_append, h1, absB, if_neg (by simp)]

theorem write_law (p x y : List Int) (m m' : Int) (nl n2 : Bool) (hy : p ++ x = y) (hm : m = p.length) (hm' : m' = y.length) (hl : y.length ≤ 1000000) :
    Fc Tryd.prog 16 [.ptr 100000 0, .sl .imm n2 1 (u8s x)] [(100000, .cells (sv (absB st0 p).1 ++ [.sl (.own (.cell 100000 8)) nl 1 (u8s (absB st0 p).2), .lit (.int .u64 m)]))] (.tup [])
      [(100000, .cells (sv (absB st0 y).1 ++ [.sl (.own (.cell 100000 8)) (nz p x) 1 (u8s (absB st0 y).2), .lit (.int .u64 m')]))] := by
  have hS := absB_length (S := st0) (l := p) rfl
  have hyl : y.length = p.length + x.length := by rw [← hy]; simp
  have hw : IntKind.u64.wrap (m + x.length) = m' := by rw [wrap_is_u64]; omega
  have ha : absB st0 y = absB (absB st0 p).1 ((absB st0 p).2 ++ x) := by rw [← hy, absB_append]
  by_cases h : (absB st0 p).2 ++ x = []
  · have h2 := List.append_eq_nil_iff.1 h
    have hz : nz p x = true := by simp [nz, h]
    have hb : absB st0 y = ((absB st0 p).1, []) := by rw [ha, h, absB, if_neg (by simp)]
    have := write0_fn (absB st0 p).1 m nl n2 hS
    rw [hz, hb, h2.1, h2.2]
    rw [h2.2] at hw
    simp only [List.length_nil, Int.ofNat_zero, Int.natCast_zero] at hw
    rwa [hw] at this
  · have hz : nz p x = false := by simp [nz] at h ⊢; exact h
    have hr : (absB st0 p).2.length < 64 := absB_rest
    have h3 : 0 < (absB st0 p).2.length + x.length := by
      have := List.length_pos_iff.2 h
      simpa using this
    have := write_fn (absB st0 p).1 (absB st0 p).2 x m nl n2 hS h3 (by omega)
    rw [hz, ha]
    rwa [hw] at this
theorem sum_law (p : List Int) (m : Int) (nl : Bool) (hn : nl = true → (absB st0 p).2 = []) (hm : m = p.length) :
    Fc Tryd.prog 17 [.ptr 100000 0] [(100000, .cells (sv (absB st0 p).1 ++ [.sl (.own (.cell 100000 8)) nl 1 (u8s (absB st0 p).2), .lit (.int .u64 m)]))] (.lit (.string (digOf p)))
      [(100000, .cells (sv (absB st0 p).1 ++ [.sl (.own (.cell 100000 8)) nl 1 (u8s (absB st0 p).2), .lit (.int .u64 m)]))] := by
  have := sum_fn (absB st0 p).1 (absB st0 p).2 m nl hn (absB_length rfl) absB_rest
  rw [digOf, ← hm]; exact this
end Go.Proofs.YtlbbkaeohpaaiaaDoor

/-! Digests: the law of parts. -/
namespace Go.Proofs.YtlbbkaeohpaaiaaDoor
open Go.Sy

set_option maxRecDepth 100000 in
set_option maxHeartbeats 8000000 in
theorem parts_fn (n1 n2 : Bool) (b cs : List Int) (hb : b.length ≤ maxLen) (hcl : cs.length ≤ maxLen) (hc : InB cs) : Fc Tryd.prog 5 [.sl .imm n1 1 (u8s b), .sl .imm n2 1 (u8s cs)] [] (.lit (.bool true)) [] := by
  refine Fc.of (anys _ [8, 9, 15, 16, 17]) sch5 mixed Tryd.func5 rfl (by rfl) (by simp [Tryd.ntmps5]) (by decide) ?_
  simp -implicitDefEqProofs -dsimp [Tryd.ntmps5]
  refine CallK.reads ?_
  simp -implicitDefEqProofs -dsimp
  refine CallQ.same (awake_fn) rfl ?_
  simp -implicitDefEqProofs -dsimp
  by_cases c1 : 300 < (b.length : Int)
  · simp -implicitDefEqProofs -dsimp [c1]
  · by_cases c2 : 20 < (cs.length : Int)
    · simp -implicitDefEqProofs -dsimp [c1, c2]
    · simp -implicitDefEqProofs -dsimp [c1, c2]
      have ha0 : absB st0 [] = (st0, []) := by rw [absB, if_neg (by simp)]
      refine CallK.works ?_
      simp -implicitDefEqProofs -dsimp
      refine CallQ.mk (new_fn) (by simp) ?_
      simp -implicitDefEqProofs -dsimp
      refine LpK.mk (anys _ [8, 9, 15, 16, 17]) mixed (fun ((i, j, nl) : Nat × Nat × Bool) => i ≤ cs.length ∧ j ≤ b.length ∧ (nl = true → (absB st0 (b.take j)).2 = []))
        (fun ((i, j, nl) : Nat × Nat × Bool) => ⟨[(0, .sl .imm n1 1 (u8s b)), (1, .sl .imm n2 1 (u8s cs)), (5, .lit (.bool true)), (6, .ptr 1210 0), (7, .sl .imm n1 1 (u8s (b.drop j))), (8, .lit (.int .i64 i))],
          [(1210, .cells (sv (absB st0 (b.take j)).1 ++ [.sl (.own (.cell 1210 8)) nl 1 (u8s (absB st0 (b.take j)).2), .lit (.int .u64 j)]))], 77⟩)
        (fun (i, _, _) => cs.length - i) (0, 0, true) ⟨by omega, by omega, by simp [ha0]⟩ (by simp -implicitDefEqProofs -dsimp [ha0]) ?_
      rintro ⟨i, j, nl⟩ ⟨hi, hj, hnl⟩
      by_cases hlt : i < cs.length
      · have h1 : (i : Int) < cs.length := by omega
        obtain ⟨c, hcv⟩ : ∃ c, cs[i]? = some c := ⟨_, List.getElem?_eq_getElem hlt⟩
        have hc0 := hc c (List.mem_of_getElem? hcv)
        obtain ⟨d, rfl⟩ : ∃ d : Nat, c = d := ⟨c.toNat, by omega⟩
        obtain ⟨q, hq⟩ : ∃ q, q = b.length - j := ⟨_, rfl⟩
        have hw1 : IntKind.i64.wrap (d : Int) = d := wrap64 (by omega) (by omega)
        have hw2 : IntKind.i64.wrap ((q : Int) + 1) = (q : Int) + 1 := wrap64 (by omega) (by omega)
        have hq0 : ¬ (q : Int) + 1 = 0 := by omega
        obtain ⟨k, hk⟩ : ∃ k, k = d % (q + 1) := ⟨_, rfl⟩
        have hkq : k ≤ q := by have := Nat.mod_lt d (Nat.succ_pos q); rw [hk]; exact Nat.lt_succ_iff.1 this
        have hm1 : (d : Int).tmod ((q : Int) + 1) = (k : Int) := by rw [hk]; show Int.tmod (Int.ofNat d) (Int.ofNat (q + 1)) = _; rfl
        have hy : b.take j ++ (b.drop j).take k = b.take (j + k) := by rw [List.take_add]
        have hjl : (b.take (j + k)).length = j + k := by simp; omega
        have hkq2 : k ≤ b.length - j := by omega
        have htd : List.take (b.length - j) (List.drop j b) = List.drop j b := List.take_of_length_le (by simp)
        have he : IntKind.i64.wrap ((b.length : Int) - ((b.length - (j + k) : Nat) : Int)) = ((j + k : Nat) : Int) := by rw [wrap64 (by omega) (by omega)]; omega
        have he2 : (j : Int) + (k : Int) ≤ b.length := by omega
        have he3 : ((j : Int) + (k : Int)).toNat = j + k := by omega
        have he4 : (0 : Int) ≤ (j : Int) + (k : Int) := by omega
        simp -implicitDefEqProofs -dsimp [h1, hcv, ← hq, hw1, hw2, hq0, hm1, hkq]
        refine CallK.works ?_
        simp -implicitDefEqProofs -dsimp
        refine CallQ.mk (write_law (b.take j) ((b.drop j).take k) (b.take (j + k)) j ((j : Int) + k) nl n1 hy (by simp; omega) (by rw [hjl]; simp) (by omega)) (by simp) ?_
        simp -implicitDefEqProofs -dsimp [hkq2, htd, he, he2, he3, he4]
        refine CallK.works ?_
        simp -implicitDefEqProofs -dsimp
        refine CallQ.same (sum_law (b.take (j + k)) ((j : Int) + k) (nz (b.take j) ((b.drop j).take k)) (nz_rest hy) (by rw [hjl]; simp)) rfl ?_
        simp -implicitDefEqProofs -dsimp [hkq2, htd, he, he2, he3, he4]
        refine CallK.reads ?_
        simp -implicitDefEqProofs -dsimp
        refine CallQ.same (of_fn n1 (b.take (j + k)) (by omega)) rfl ?_
        simp -implicitDefEqProofs -dsimp [hkq2, htd, he, he2, he3, he4]
        have hw4 : IntKind.i64.wrap ((i : Int) + 1) = (i : Int) + 1 := wrap64 (by omega) (by omega)
        simp -implicitDefEqProofs -dsimp [hw4]
        exact .mk (i + 1, j + k, nz (b.take j) ((b.drop j).take k)) ⟨by omega, by omega, nz_rest hy⟩ (by show cs.length - (i + 1) < cs.length - i; omega) (by simp -implicitDefEqProofs -dsimp)
      · have h1 : ¬ (i : Int) < cs.length := by omega
        simp -implicitDefEqProofs -dsimp [h1]
        have hy : b.take j ++ b.drop j = b := List.take_append_drop j b
        have hjl : (b.take j).length = j := by simp; omega
        refine CallK.works ?_
        simp -implicitDefEqProofs -dsimp
        refine CallQ.mk (write_law (b.take j) (b.drop j) b j b.length nl n1 hy (by rw [hjl]) rfl (by omega)) (by simp) ?_
        simp -implicitDefEqProofs -dsimp
        refine CallK.works ?_
        simp -implicitDefEqProofs -dsimp
        refine CallQ.same (sum_law b b.length (nz (b.take j) (b.drop j)) (nz_rest hy) rfl) rfl ?_
        simp -implicitDefEqProofs -dsimp
        refine CallK.reads ?_
        simp -implicitDefEqProofs -dsimp
        refine CallQ.same (of_fn n1 b (by omega)) rfl ?_
        simp -implicitDefEqProofs -dsimp
        refine CallK.works ?_
        simp -implicitDefEqProofs -dsimp
        refine CallQ.same (sum_law b b.length (nz (b.take j) (b.drop j)) (nz_rest hy) rfl) rfl ?_
        simp -implicitDefEqProofs -dsimp

theorem parts_law (xs : List PV) (h : ShpAll Tryd.prog 6 Tryd.f5.params.toList xs) : Fc Tryd.prog 5 xs [] (.lit (.bool true)) [] := by
  obtain ⟨x, y, rfl, hx, hy⟩ := shp_args2 h
  obtain ⟨n1, b, rfl, h1, h2, h3⟩ := arg_ints (k := .u8) Tryd.underlying22 Tryd.underlying5 (by kernel_rfl) hx
  obtain ⟨n2, c, rfl, h4, h5, h6⟩ := arg_ints (k := .u8) Tryd.underlying22 Tryd.underlying5 (by kernel_rfl) hy
  exact parts_fn n1 n2 b c h2 h5 fun n hn => wf_u8 (h6 n hn)
end Go.Proofs.YtlbbkaeohpaaiaaDoor
