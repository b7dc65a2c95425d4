/- Digests: Sum. (and what stands on it) -/
import Derived.Test.YtekokchejkjjjaaDoorN6
import Derived.KernelRfl
set_option linter.unusedSimpArgs false
set_option linter.unusedVariables false

/-! Digests: Sum. -/
namespace Go.Proofs.YtekokchejkjjjaaDoor
open Go.Sy
/-- The round over a text's blocks. -/
noncomputable def cd17 : Array Tmp × Code × Code := ((Tryd.f87.body).bind rfOf).getD (#[], .skip, .skip)

theorem min_i64 (P : Program) (ty : TypeId) (ats : Array TypeId) (a b : Int) : pureOf P (Builtin.min_ ats ty #[.int .i64 a, .int .i64 b]) = some (.int .i64 (min a b)) := by
  simp [Builtin.min_, Builtin.min2]
  show some (Value.int IntKind.i64 (if b < a then b else a)) = _
  by_cases h : b < a
  · rw [if_pos h, Int.min_eq_right (by omega)]
  · rw [if_neg h, Int.min_eq_left (by omega)]

set_option maxRecDepth 100000 in
set_option maxHeartbeats 8000000 in
theorem chunks_fn (nl : Bool) (b S : List Int) (q : Nat) (hb : b.length = 64 * q) (hq : q ≤ 1000000) (hS : S.length = 8) :
    Fc Tryd.prog 114 [.yl 100000, .ptr 100001 0, .ptr 100002 0] [(100000, .loop [(5, .ptr 100003 0)] 73 cd17 .ready none), (100001, .cells [.sl .imm nl 1 (u8s b)]), (100002, .cells [.lit (.int .i64 64)]), (100003, .cells (sv S))] (.tup [])
      [(100000, .loop [(5, .ptr 100003 0)] 73 cd17 .ready none), (100001, .cells [.sl .imm nl 1 (u8s b)]), (100002, .cells [.lit (.int .i64 64)]), (100003, .cells (sv (absB S b).1))] := by
  refine Fc.of (anys _ []) sch114 mixed Tryd.func114 rfl (by rfl) (by simp [Tryd.ntmps114]) (by decide) ?_
  simp -implicitDefEqProofs -dsimp [Tryd.ntmps114]
  refine LpK.mk (anys _ []) mixed (fun ((k, T) : Nat × List Int) => k ≤ q ∧ T.length = 8 ∧ absB S b = absB T (b.drop (64 * k)))
    (fun ((k, T) : Nat × List Int) => ⟨[(0, .yl 100000), (1, .ptr 100001 0), (2, .ptr 100002 0), (4, .lit (.int .i64 (64 * k)))],
      [(100000, .loop [(5, .ptr 100003 0)] 73 cd17 .ready none), (100001, .cells [.sl .imm nl 1 (u8s b)]), (100002, .cells [.lit (.int .i64 64)]), (100003, .cells (sv T))], 31⟩)
    (fun (k, _) => q - k) (0, S) ⟨by simp, hS, by simp⟩ (by simp -implicitDefEqProofs -dsimp) ?_
  rintro ⟨k, T⟩ ⟨hk, hT, he⟩
  by_cases hlt : k < q
  · have h1 : 64 * (k : Int) < b.length := by omega
    have h2 : (0 : Int) ≤ 64 * (k : Int) ∧ 64 * (k : Int) ≤ b.length := by omega
    have h3 : (64 * (k : Int)).toNat = 64 * k := by omega
    have h4 : min (64 : Int) ((b.length - 64 * k : Nat) : Int) = 64 := by omega
    have h5 : IntKind.i64.wrap (64 * (k : Int) + 64) = 64 * (k : Int) + 64 := wrap64 (by omega) (by omega)
    have h6 : (64 * (k : Int) + 64).toNat = 64 * k + 64 := by omega
    have h7 : 64 * (k : Int) + 64 ≤ b.length := by omega
    have h8 : 64 * (k : Int) ≤ 64 * (k : Int) + 64 := by omega
    simp -implicitDefEqProofs -dsimp [h1, h2, h3, h4, h5, h6, h7, h8, litL, min_i64]
    obtain ⟨p, hp⟩ : ∃ p, p = List.drop (64 * k) (List.take (64 * k + 64) b) := ⟨_, rfl⟩
    have hp2 : p = (b.drop (64 * k)).take 64 := by rw [hp, List.drop_take]; congr 1; omega
    have hpl : p.length = 64 := by rw [hp2]; simp; omega
    rw [← hp]
    refine YlK.mk (anys _ [102]) [] mixed 99999 rfl rfl (by rfl) rfl (by decide) rfl ?_
    intro r vals
    simp -implicitDefEqProofs -dsimp
    refine CallK.reads ?_
    simp -implicitDefEqProofs -dsimp
    refine CallQ.same (behind_fn2 nl p T hpl hT) rfl ?_
    simp -implicitDefEqProofs -dsimp [h5]
    have ha : absB T (b.drop (64 * k)) = absB (bhd p T) (b.drop (64 * (k + 1))) := by
      rw [absB, if_pos (by simp; omega), hp2, List.drop_drop]; rfl
    have h10 : 64 * ((k : Int) + 1) = 64 * (k : Int) + 64 := by omega
    exact .mk (k + 1, bhd p T) ⟨by omega, bhd_length hT, he.trans ha⟩ (by show q - (k + 1) < q - k; omega) (by simp -implicitDefEqProofs -dsimp [h10])
  · have e : k = q := by omega
    subst e
    have h1 : ¬ 64 * (k : Int) < b.length := by omega
    rw [List.drop_eq_nil_of_le (by omega), show absB T [] = (T, []) by rw [absB, if_neg (by simp)]] at he
    simp -implicitDefEqProofs -dsimp [h1, he]
end Go.Proofs.YtekokchejkjjjaaDoor

/-! Digests: Sum, to its rounds. -/
namespace Go.Sy
@[simp] theorem ints_snoc (k : IntKind) (xs : List Int) (v : Int) : ints k xs ++ [PV.lit (.int k v)] = ints k (xs ++ [v]) := by simp [ints]
/-- How many bytes, in eight. -/
def lenB (m : Int) (n : Nat) : List Int := (List.range n).map fun (i : Nat) => IntKind.u8.wrap (ishr .u64 (IntKind.u64.wrap (m * 8)) (8 * (7 - (i : Int))))
theorem lenB_succ (m : Int) (n : Nat) : lenB m (n + 1) = lenB m n ++ [IntKind.u8.wrap (ishr .u64 (IntKind.u64.wrap (m * 8)) (8 * (7 - (n : Int))))] := by simp [lenB, List.range_succ]
@[simp] theorem lenB_length (m : Int) (n : Nat) : (lenB m n).length = n := by simp [lenB]
/-- So many zeros are wanting. -/
def wantZ (r : List Int) : Nat := (119 - r.length) % 64
def padB (r : List Int) (m : Int) : List Int := r ++ 128 :: (zer (wantZ r) ++ lenB m 8)
theorem zer_succ (n : Nat) : zer (n + 1) = zer n ++ [0] := by simp [zer, List.replicate_succ']
/-- A number's four bytes. -/
def byt (x : Int) : List Int := [IntKind.u8.wrap (ishr .u32 x 24), IntKind.u8.wrap (ishr .u32 x 16), IntKind.u8.wrap (ishr .u32 x 8), IntKind.u8.wrap x]
def outB (T : List Int) : List Int := T.flatMap byt
theorem outB_length (T : List Int) : (outB T).length = 4 * T.length := by
  induction T with
  | nil => rfl
  | cons x T ih =>
    have : outB (x :: T) = byt x ++ outB T := rfl
    rw [this, List.length_append, ih, List.length_cons, show (byt x).length = 4 from rfl]; omega
theorem wrap8_in (x : Int) : 0 ≤ IntKind.u8.wrap x ∧ IntKind.u8.wrap x < 256 := by
  simp [IntKind.wrap, IntKind.signed, IntKind.bits]; omega
theorem outB_in (T : List Int) : InB (outB T) := by
  intro y hy
  simp only [outB, List.mem_flatMap, byt, List.mem_cons, List.not_mem_nil, or_false] at hy
  obtain ⟨x, _, rfl | rfl | rfl | rfl⟩ := hy <;> exact wrap8_in _
@[simp] theorem ints_four (k : IntKind) (xs : List Int) (a b c d : Int) : ints k xs ++ [PV.lit (.int k a), PV.lit (.int k b), PV.lit (.int k c), PV.lit (.int k d)] = ints k (xs ++ [a, b, c, d]) := by simp [ints]
/-- What Sum tells. -/
def dig (S r : List Int) (m : Int) : ByteArray := ofBs (outB (absB S (padB r m)).1)
end Go.Sy
namespace Go.Proofs.YtekokchejkjjjaaDoor
open Go.Sy

set_option maxRecDepth 100000 in
set_option maxHeartbeats 8000000 in
theorem chunk_fn (nl : Bool) (b : List Int) :
    Fc Tryd.prog 103 [.sl .imm nl 1 (u8s b), .lit (.int .i64 64)] [] (.fn (.func 114) [] [.ptr 2 0, .ptr 3 0]) [(3, .cells [.lit (.int .i64 64)]), (2, .cells [.sl .imm nl 1 (u8s b)])] := by
  refine Fc.of (anys _ []) [] mixed Tryd.func103 rfl (by rfl) (by simp [Tryd.ntmps103]) (by decide) ?_
  simp -implicitDefEqProofs -dsimp [Tryd.ntmps103]

set_option maxRecDepth 100000 in
set_option maxHeartbeats 8000000 in
theorem sum_fn (S r : List Int) (m : Int) (nl : Bool) (hn : nl = true → r = []) (hS : S.length = 8) (hr : r.length < 64) :
    Fc Tryd.prog 87 [.ptr 100000 0] [(100000, .cells (sv S ++ [.sl (.own (.cell 100000 8)) nl 1 (u8s r), .lit (.int .u64 m)]))] (.lit (.string (dig S r m)))
      [(100000, .cells (sv S ++ [.sl (.own (.cell 100000 8)) nl 1 (u8s r), .lit (.int .u64 m)]))] := by
  refine Fc.of (anys _ [66, 103, 114]) [] mixed Tryd.func87 rfl (by rfl) (by simp [Tryd.ntmps87]) (by decide) ?_
  have hr1 : r.length + 1 ≤ 140737488355328 := by omega
  simp -implicitDefEqProofs -dsimp [Tryd.ntmps87]
  refine CallK.fresh ?_
  simp -implicitDefEqProofs -dsimp
  refine CallQ.same (clone_fn nl r hn (by omega)) rfl ?_
  simp -implicitDefEqProofs -dsimp [fr_u8s, hr1]
  obtain ⟨z, hz⟩ : ∃ z, z = wantZ r := ⟨_, rfl⟩
  have hzz : z = (119 - r.length) % 64 := hz
  refine LpK.mk (anys _ [66, 103, 114]) mixed (fun j : Nat => j ≤ z)
    (fun j => ⟨[(0, .ptr 100000 0), (3, .sl (.own (.loc 1140)) false 1 (u8s (r ++ 128 :: zer j)))], [(100000, .cells (sv S ++ [.sl (.own (.cell 100000 8)) nl 1 (u8s r), .lit (.int .u64 m)]))], 73⟩)
    (fun j => z - j) 0 (by simp) (by simp -implicitDefEqProofs -dsimp [zer]) ?_
  intro j hj
  have hlen : ((r ++ 128 :: zer j).length : Int) = r.length + (j + 1) := by simp
  have hw : IntKind.i64.wrap ((r.length : Int) + ((j : Int) + 1) + 8) = (r.length : Int) + ((j : Int) + 1) + 8 := wrap64 (by omega) (by omega)
  have ht : ((r.length : Int) + ((j : Int) + 1) + 8).tmod 64 = ((r.length : Int) + ((j : Int) + 1) + 8) % 64 := Int.tmod_eq_emod_of_nonneg (by omega)
  by_cases hlt : j < z
  · have hm : ¬ ((r.length : Int) + ((j : Int) + 1) + 8) % 64 = 0 := by omega
    have l1 : r.length + (j + 1) + 1 ≤ 140737488355328 := by omega
    simp -implicitDefEqProofs -dsimp [hw, ht, hm, l1]
    exact .mk (j + 1) hlt (by omega) (by simp -implicitDefEqProofs -dsimp [zer_succ])
  · have e : j = z := by omega
    subst e
    have hm : ((r.length : Int) + ((j : Int) + 1) + 8) % 64 = 0 := by omega
    simp -implicitDefEqProofs -dsimp [hw, ht, hm]
    refine LpK.mk (anys _ [66, 103, 114]) mixed (fun n : Nat => n ≤ 8)
      (fun n => ⟨[(0, .ptr 100000 0), (3, .sl (.own (.loc 1140)) false 1 (u8s (r ++ 128 :: (zer j ++ lenB m n)))), (4, .lit (.int .i64 (7 - (n : Int))))], [(100000, .cells (sv S ++ [.sl (.own (.cell 100000 8)) nl 1 (u8s r), .lit (.int .u64 m)]))], 73⟩)
      (fun n => 8 - n) 0 (by simp) (by simp -implicitDefEqProofs -dsimp [lenB]) ?_
    intro n hn8
    by_cases hlt : n < 8
    · have a1 : (0 : Int) ≤ 7 - (n : Int) := by omega
      have a2 : IntKind.i64.wrap (8 * (7 - (n : Int))) = 8 * (7 - (n : Int)) := wrap64 (by omega) (by omega)
      have a3 : (0 : Int) ≤ 8 * (7 - (n : Int)) := by omega
      have a4 : IntKind.i64.wrap (7 - (n : Int) - 1) = 7 - ((n : Int) + 1) := by rw [wrap64 (by omega) (by omega)]; omega
      have l1 : r.length + (j + n + 1) + 1 ≤ 140737488355328 := by omega
      simp -implicitDefEqProofs -dsimp
      refine Cnd.mk (fun _ => ?_) (fun h => absurd a1 (by simpa using h))
      simp -implicitDefEqProofs -dsimp [a2, a3, a4, l1]
      exact .mk (n + 1) hlt (by omega) (by simp -implicitDefEqProofs -dsimp [lenB_succ])
    · have e : n = 8 := by omega
      subst e
      simp -implicitDefEqProofs -dsimp
      obtain ⟨B, hB⟩ : ∃ B, B = r ++ 128 :: (zer j ++ lenB m 8) := ⟨_, rfl⟩
      have hBl : B.length = 64 * ((r.length + 9 + j) / 64) := by rw [hB]; simp; omega
      rw [← hB]
      refine CallK.works ?_
      simp -implicitDefEqProofs -dsimp
      refine CallQ.mk (chunk_fn false B) (by simp) ?_
      simp -implicitDefEqProofs -dsimp
      refine RfK.mk 99998 cd17 [(5, .ptr 5 0)] rfl rfl (by decide) (by simp -implicitDefEqProofs -dsimp) ?_
      simp -implicitDefEqProofs -dsimp
      refine CallK.works ?_
      simp -implicitDefEqProofs -dsimp
      refine CallQ.mk (chunks_fn false B S ((r.length + 9 + j) / 64) hBl (by omega) hS) (by simp) ?_
      simp -implicitDefEqProofs -dsimp
      have hBr : B = padB r m := by rw [hB, padB, hz]
      obtain ⟨T, hT⟩ : ∃ T, T = (absB S B).1 := ⟨_, rfl⟩
      have hTl : T.length = 8 := by rw [hT]; exact absB_length hS
      have hTs := sv_ints hTl
      simp only [sv] at hTs
      rw [← hT]
      refine LpK.mk (anys _ [66, 103, 114]) mixed (fun n : Nat => n ≤ 8)
        (fun n => ⟨[(7, .sl (.own (.loc 51)) false 1 (u8s (outB (T.take n)))), (52, .agg (ints .u32 T)), (53, .lit (.int .i64 n))], [(100000, .cells (sv S ++ [.sl (.own (.cell 100000 8)) nl 1 (u8s r), .lit (.int .u64 m)]))], 73⟩)
        (fun n => 8 - n) 0 (by simp) (by simp -implicitDefEqProofs -dsimp [outB, hTs]) ?_
      intro n hn8
      by_cases hlt : n < 8
      · have a1 : (n : Int) < 8 := by omega
        have g1 := getD_get (l := T) (i := n) (by omega)
        have ho : outB (T.take (n + 1)) = outB (T.take n) ++ byt (T.getD n 0) := by
          unfold outB
          rw [List.take_add_one, g1]; simp
        generalize T.getD n 0 = x at *
        have hol : (outB (T.take n)).length + 4 ≤ 140737488355328 := by rw [outB_length]; simp; omega
        have a4 : IntKind.i64.wrap ((n : Int) + 1) = (n : Int) + 1 := wrap64 (by omega) (by omega)
        simp -implicitDefEqProofs -dsimp [a1, g1, indexPV, hol, a4]
        exact .mk (n + 1) hlt (by omega) (by simp -implicitDefEqProofs -dsimp [ho, byt])
      · have e : n = 8 := by omega
        subst e
        have hTt : T.take 8 = T := List.take_of_length_le (by omega)
        have hin := outB_in T
        have hd : dig S r m = ofBs (outB T) := by rw [dig, hT, hBr]
        simp -implicitDefEqProofs -dsimp [hTt, hin, hd]
end Go.Proofs.YtekokchejkjjjaaDoor

/-! Digests: Of. -/
namespace Go.Sy
theorem absB_rest {S l : List Int} : (absB S l).2.length < 64 := by
  unfold absB
  split
  · exact absB_rest
  · simp; omega
termination_by l.length
decreasing_by simp; omega
end Go.Sy
namespace Go.Proofs.YtekokchejkjjjaaDoor
open Go.Sy

/-- A text's digest. -/
def digOf (b : List Int) : ByteArray := dig (absB st0 b).1 (absB st0 b).2 b.length
set_option maxRecDepth 100000 in
set_option maxHeartbeats 8000000 in
theorem of_fn (nl : Bool) (b : List Int) (hb : b.length ≤ 1000000) :
    Fc Tryd.prog 53 [.sl .imm nl 1 (u8s b)] [] (.lit (.string (digOf b))) [] := by
  have hs0 : st0.length = 8 := rfl
  have hw : IntKind.u64.wrap (b.length : Int) = b.length := by rw [wrap_is_u64]; omega
  refine Fc.of (anys _ [85, 86, 87]) [] mixed Tryd.func53 rfl (by rfl) (by simp [Tryd.ntmps53]) (by decide) ?_
  simp -implicitDefEqProofs -dsimp [Tryd.ntmps53]
  refine CallK.works ?_
  simp -implicitDefEqProofs -dsimp
  refine CallQ.mk (new_fn) (by simp) ?_
  simp -implicitDefEqProofs -dsimp
  by_cases he : b = []
  · subst he
    have hab : absB st0 [] = (st0, []) := by rw [absB, if_neg (by simp)]
    have hd : digOf [] = dig st0 [] 0 := by rw [digOf, hab]; rfl
    have w0 : IntKind.u64.wrap 0 = 0 := by decide
    refine CallK.works ?_
    simp -implicitDefEqProofs -dsimp
    refine CallQ.mk (write0_fn st0 0 true nl hs0) (by simp) ?_
    simp -implicitDefEqProofs -dsimp [w0]
    refine CallK.works ?_
    simp -implicitDefEqProofs -dsimp
    refine CallQ.mk (sum_fn st0 [] 0 true (by simp) hs0 (by simp)) (by simp) ?_
    simp -implicitDefEqProofs -dsimp [hd]
  · have hl : 0 < b.length := List.length_pos_iff.2 he
    refine CallK.works ?_
    simp -implicitDefEqProofs -dsimp
    refine CallQ.mk (write_fn st0 [] b 0 true nl hs0 (by simp; exact hl) (by simp; omega)) (by simp) ?_
    simp -implicitDefEqProofs -dsimp [hw]
    refine CallK.works ?_
    simp -implicitDefEqProofs -dsimp
    refine CallQ.mk (sum_fn (absB st0 b).1 (absB st0 b).2 b.length false (by simp) (absB_length hs0) absB_rest) (by simp) ?_
    simp -implicitDefEqProofs -dsimp [digOf]
end Go.Proofs.YtekokchejkjjjaaDoor

/-! Digests: written in parts. -/
namespace Go.Sy
theorem absB_append (p x : List Int) (S : List Int) : absB S (p ++ x) = absB (absB S p).1 ((absB S p).2 ++ x) := by
  by_cases h : 64 ≤ p.length
  · have e1 : absB S p = absB (bhd (p.take 64) S) (p.drop 64) := by rw [absB, if_pos h]
    have e2 : absB S (p ++ x) = absB (bhd (p.take 64) S) (p.drop 64 ++ x) := by
      rw [absB, if_pos (by simp; omega), List.take_append_of_le_length h, List.drop_append_of_le_length h]
    rw [e1, e2]
    exact absB_append (p.drop 64) x _
  · have e1 : absB S p = (S, p) := by rw [absB, if_neg h]
    rw [e1]
termination_by p.length
decreasing_by simp; omega
end Go.Sy
namespace Go.Proofs.YtekokchejkjjjaaDoor
open Go.Sy
/-- Is nothing left over? -/
def nz (p x : List Int) : Bool := decide ((absB st0 p).2 ++ x = [])
theorem nz_rest {p x y : List Int} (hy : p ++ x = y) (h : nz p x = true) : (absB st0 y).2 = [] := by
  have h1 : (absB st0 p).2 ++ x = [] := by simpa [nz] using h
  rw [← hy, absB_append, h1, absB, if_neg (by simp)]

theorem write_law (p x y : List Int) (m m' : Int) (nl n2 : Bool) (hy : p ++ x = y) (hm : m = p.length) (hm' : m' = y.length) (hl : y.length ≤ 1000000) :
    Fc Tryd.prog 86 [.ptr 100000 0, .sl .imm n2 1 (u8s x)] [(100000, .cells (sv (absB st0 p).1 ++ [.sl (.own (.cell 100000 8)) nl 1 (u8s (absB st0 p).2), .lit (.int .u64 m)]))] (.tup [])
      [(100000, .cells (sv (absB st0 y).1 ++ [.sl (.own (.cell 100000 8)) (nz p x) 1 (u8s (absB st0 y).2), .lit (.int .u64 m')]))] := by
  have hS := absB_length (S := st0) (l := p) rfl
  have hyl : y.length = p.length + x.length := by rw [← hy]; simp
  have hw : IntKind.u64.wrap (m + x.length) = m' := by rw [wrap_is_u64]; omega
  have ha : absB st0 y = absB (absB st0 p).1 ((absB st0 p).2 ++ x) := by rw [← hy, absB_append]
  by_cases h : (absB st0 p).2 ++ x = []
  · have h2 := List.append_eq_nil_iff.1 h
    have hz : nz p x = true := by simp [nz, h]
    have hb : absB st0 y = ((absB st0 p).1, []) := by rw [ha, h, absB, if_neg (by simp)]
    have := write0_fn (absB st0 p).1 m nl n2 hS
    rw [hz, hb, h2.1, h2.2]
    rw [h2.2] at hw
    simp only [List.length_nil, Int.ofNat_zero, Int.natCast_zero] at hw
    rwa [hw] at this
  · have hz : nz p x = false := by simp [nz] at h ⊢; exact h
    have hr : (absB st0 p).2.length < 64 := absB_rest
    have h3 : 0 < (absB st0 p).2.length + x.length := by
      have := List.length_pos_iff.2 h
      simpa using this
    have := write_fn (absB st0 p).1 (absB st0 p).2 x m nl n2 hS h3 (by omega)
    rw [hz, ha]
    rwa [hw] at this
theorem sum_law (p : List Int) (m : Int) (nl : Bool) (hn : nl = true → (absB st0 p).2 = []) (hm : m = p.length) :
    Fc Tryd.prog 87 [.ptr 100000 0] [(100000, .cells (sv (absB st0 p).1 ++ [.sl (.own (.cell 100000 8)) nl 1 (u8s (absB st0 p).2), .lit (.int .u64 m)]))] (.lit (.string (digOf p)))
      [(100000, .cells (sv (absB st0 p).1 ++ [.sl (.own (.cell 100000 8)) nl 1 (u8s (absB st0 p).2), .lit (.int .u64 m)]))] := by
  have := sum_fn (absB st0 p).1 (absB st0 p).2 m nl hn (absB_length rfl) absB_rest
  rw [digOf, ← hm]; exact this
end Go.Proofs.YtekokchejkjjjaaDoor

/-! Digests: of the text abc, step by step (printed by a program). -/
namespace Go.Sy
set_option maxRecDepth 100000
def abcP : List Int := [97, 98, 99, 128, 0, 0, 0, 0, 0, 0, 0, 0, 0, 0, 0, 0, 0, 0, 0, 0, 0, 0, 0, 0, 0, 0, 0, 0, 0, 0, 0, 0, 0, 0, 0, 0, 0, 0, 0, 0, 0, 0, 0, 0, 0, 0, 0, 0, 0, 0, 0, 0, 0, 0, 0, 0, 0, 0, 0, 0, 0, 0, 0, 24]
theorem abc_pad : padB [97, 98, 99] 3 = abcP := by kernel_rfl
theorem abc_w0 : WSd abcP 0 = [1633837952, 0, 0, 0, 0, 0, 0, 0, 0, 0, 0, 0, 0, 0, 0, 24, 0, 0, 0, 0, 0, 0, 0, 0, 0, 0, 0, 0, 0, 0, 0, 0, 0, 0, 0, 0, 0, 0, 0, 0, 0, 0, 0, 0, 0, 0, 0, 0, 0, 0, 0, 0, 0, 0, 0, 0, 0, 0, 0, 0, 0, 0, 0, 0] := by kernel_rfl
theorem abc_w1 : WSd abcP 1 = [1633837952, 0, 0, 0, 0, 0, 0, 0, 0, 0, 0, 0, 0, 0, 0, 24, 1633837952, 0, 0, 0, 0, 0, 0, 0, 0, 0, 0, 0, 0, 0, 0, 0, 0, 0, 0, 0, 0, 0, 0, 0, 0, 0, 0, 0, 0, 0, 0, 0, 0, 0, 0, 0, 0, 0, 0, 0, 0, 0, 0, 0, 0, 0, 0, 0] := by rw [WSd, abc_w0]; kernel_rfl
theorem abc_w2 : WSd abcP 2 = [1633837952, 0, 0, 0, 0, 0, 0, 0, 0, 0, 0, 0, 0, 0, 0, 24, 1633837952, 983040, 0, 0, 0, 0, 0, 0, 0, 0, 0, 0, 0, 0, 0, 0, 0, 0, 0, 0, 0, 0, 0, 0, 0, 0, 0, 0, 0, 0, 0, 0, 0, 0, 0, 0, 0, 0, 0, 0, 0, 0, 0, 0, 0, 0, 0, 0] := by rw [WSd, abc_w1]; kernel_rfl
theorem abc_w3 : WSd abcP 3 = [1633837952, 0, 0, 0, 0, 0, 0, 0, 0, 0, 0, 0, 0, 0, 0, 24, 1633837952, 983040, 2108187653, 0, 0, 0, 0, 0, 0, 0, 0, 0, 0, 0, 0, 0, 0, 0, 0, 0, 0, 0, 0, 0, 0, 0, 0, 0, 0, 0, 0, 0, 0, 0, 0, 0, 0, 0, 0, 0, 0, 0, 0, 0, 0, 0, 0, 0] := by rw [WSd, abc_w2]; kernel_rfl
theorem abc_w4 : WSd abcP 4 = [1633837952, 0, 0, 0, 0, 0, 0, 0, 0, 0, 0, 0, 0, 0, 0, 24, 1633837952, 983040, 2108187653, 1610613702, 0, 0, 0, 0, 0, 0, 0, 0, 0, 0, 0, 0, 0, 0, 0, 0, 0, 0, 0, 0, 0, 0, 0, 0, 0, 0, 0, 0, 0, 0, 0, 0, 0, 0, 0, 0, 0, 0, 0, 0, 0, 0, 0, 0] := by rw [WSd, abc_w3]; kernel_rfl
theorem abc_w5 : WSd abcP 5 = [1633837952, 0, 0, 0, 0, 0, 0, 0, 0, 0, 0, 0, 0, 0, 0, 24, 1633837952, 983040, 2108187653, 1610613702, 1050508152, 0, 0, 0, 0, 0, 0, 0, 0, 0, 0, 0, 0, 0, 0, 0, 0, 0, 0, 0, 0, 0, 0, 0, 0, 0, 0, 0, 0, 0, 0, 0, 0, 0, 0, 0, 0, 0, 0, 0, 0, 0, 0, 0] := by rw [WSd, abc_w4]; kernel_rfl
theorem abc_w6 : WSd abcP 6 = [1633837952, 0, 0, 0, 0, 0, 0, 0, 0, 0, 0, 0, 0, 0, 0, 24, 1633837952, 983040, 2108187653, 1610613702, 1050508152, 25426944, 0, 0, 0, 0, 0, 0, 0, 0, 0, 0, 0, 0, 0, 0, 0, 0, 0, 0, 0, 0, 0, 0, 0, 0, 0, 0, 0, 0, 0, 0, 0, 0, 0, 0, 0, 0, 0, 0, 0, 0, 0, 0] := by rw [WSd, abc_w5]; kernel_rfl
theorem abc_w7 : WSd abcP 7 = [1633837952, 0, 0, 0, 0, 0, 0, 0, 0, 0, 0, 0, 0, 0, 0, 24, 1633837952, 983040, 2108187653, 1610613702, 1050508152, 25426944, 316456923, 0, 0, 0, 0, 0, 0, 0, 0, 0, 0, 0, 0, 0, 0, 0, 0, 0, 0, 0, 0, 0, 0, 0, 0, 0, 0, 0, 0, 0, 0, 0, 0, 0, 0, 0, 0, 0, 0, 0, 0, 0] := by rw [WSd, abc_w6]; kernel_rfl
theorem abc_w8 : WSd abcP 8 = [1633837952, 0, 0, 0, 0, 0, 0, 0, 0, 0, 0, 0, 0, 0, 0, 24, 1633837952, 983040, 2108187653, 1610613702, 1050508152, 25426944, 316456923, 3806512014, 0, 0, 0, 0, 0, 0, 0, 0, 0, 0, 0, 0, 0, 0, 0, 0, 0, 0, 0, 0, 0, 0, 0, 0, 0, 0, 0, 0, 0, 0, 0, 0, 0, 0, 0, 0, 0, 0, 0, 0] := by rw [WSd, abc_w7]; kernel_rfl
theorem abc_w9 : WSd abcP 9 = [1633837952, 0, 0, 0, 0, 0, 0, 0, 0, 0, 0, 0, 0, 0, 0, 24, 1633837952, 983040, 2108187653, 1610613702, 1050508152, 25426944, 316456923, 3806512014, 3357629466, 0, 0, 0, 0, 0, 0, 0, 0, 0, 0, 0, 0, 0, 0, 0, 0, 0, 0, 0, 0, 0, 0, 0, 0, 0, 0, 0, 0, 0, 0, 0, 0, 0, 0, 0, 0, 0, 0, 0] := by rw [WSd, abc_w8]; kernel_rfl
theorem abc_w10 : WSd abcP 10 = [1633837952, 0, 0, 0, 0, 0, 0, 0, 0, 0, 0, 0, 0, 0, 0, 24, 1633837952, 983040, 2108187653, 1610613702, 1050508152, 25426944, 316456923, 3806512014, 3357629466, 3073800610, 0, 0, 0, 0, 0, 0, 0, 0, 0, 0, 0, 0, 0, 0, 0, 0, 0, 0, 0, 0, 0, 0, 0, 0, 0, 0, 0, 0, 0, 0, 0, 0, 0, 0, 0, 0, 0, 0] := by rw [WSd, abc_w9]; kernel_rfl
theorem abc_w11 : WSd abcP 11 = [1633837952, 0, 0, 0, 0, 0, 0, 0, 0, 0, 0, 0, 0, 0, 0, 24, 1633837952, 983040, 2108187653, 1610613702, 1050508152, 25426944, 316456923, 3806512014, 3357629466, 3073800610, 3854317833, 0, 0, 0, 0, 0, 0, 0, 0, 0, 0, 0, 0, 0, 0, 0, 0, 0, 0, 0, 0, 0, 0, 0, 0, 0, 0, 0, 0, 0, 0, 0, 0, 0, 0, 0, 0, 0] := by rw [WSd, abc_w10]; kernel_rfl
theorem abc_w12 : WSd abcP 12 = [1633837952, 0, 0, 0, 0, 0, 0, 0, 0, 0, 0, 0, 0, 0, 0, 24, 1633837952, 983040, 2108187653, 1610613702, 1050508152, 25426944, 316456923, 3806512014, 3357629466, 3073800610, 3854317833, 845560923, 0, 0, 0, 0, 0, 0, 0, 0, 0, 0, 0, 0, 0, 0, 0, 0, 0, 0, 0, 0, 0, 0, 0, 0, 0, 0, 0, 0, 0, 0, 0, 0, 0, 0, 0, 0] := by rw [WSd, abc_w11]; kernel_rfl
theorem abc_w13 : WSd abcP 13 = [1633837952, 0, 0, 0, 0, 0, 0, 0, 0, 0, 0, 0, 0, 0, 0, 24, 1633837952, 983040, 2108187653, 1610613702, 1050508152, 25426944, 316456923, 3806512014, 3357629466, 3073800610, 3854317833, 845560923, 2636160359, 0, 0, 0, 0, 0, 0, 0, 0, 0, 0, 0, 0, 0, 0, 0, 0, 0, 0, 0, 0, 0, 0, 0, 0, 0, 0, 0, 0, 0, 0, 0, 0, 0, 0, 0] := by rw [WSd, abc_w12]; kernel_rfl
theorem abc_w14 : WSd abcP 14 = [1633837952, 0, 0, 0, 0, 0, 0, 0, 0, 0, 0, 0, 0, 0, 0, 24, 1633837952, 983040, 2108187653, 1610613702, 1050508152, 25426944, 316456923, 3806512014, 3357629466, 3073800610, 3854317833, 845560923, 2636160359, 3968280267, 0, 0, 0, 0, 0, 0, 0, 0, 0, 0, 0, 0, 0, 0, 0, 0, 0, 0, 0, 0, 0, 0, 0, 0, 0, 0, 0, 0, 0, 0, 0, 0, 0, 0] := by rw [WSd, abc_w13]; kernel_rfl
theorem abc_w15 : WSd abcP 15 = [1633837952, 0, 0, 0, 0, 0, 0, 0, 0, 0, 0, 0, 0, 0, 0, 24, 1633837952, 983040, 2108187653, 1610613702, 1050508152, 25426944, 316456923, 3806512014, 3357629466, 3073800610, 3854317833, 845560923, 2636160359, 3968280267, 1881225380, 0, 0, 0, 0, 0, 0, 0, 0, 0, 0, 0, 0, 0, 0, 0, 0, 0, 0, 0, 0, 0, 0, 0, 0, 0, 0, 0, 0, 0, 0, 0, 0, 0] := by rw [WSd, abc_w14]; kernel_rfl
theorem abc_w16 : WSd abcP 16 = [1633837952, 0, 0, 0, 0, 0, 0, 0, 0, 0, 0, 0, 0, 0, 0, 24, 1633837952, 983040, 2108187653, 1610613702, 1050508152, 25426944, 316456923, 3806512014, 3357629466, 3073800610, 3854317833, 845560923, 2636160359, 3968280267, 1881225380, 3552024379, 0, 0, 0, 0, 0, 0, 0, 0, 0, 0, 0, 0, 0, 0, 0, 0, 0, 0, 0, 0, 0, 0, 0, 0, 0, 0, 0, 0, 0, 0, 0, 0] := by rw [WSd, abc_w15]; kernel_rfl
theorem abc_w17 : WSd abcP 17 = [1633837952, 0, 0, 0, 0, 0, 0, 0, 0, 0, 0, 0, 0, 0, 0, 24, 1633837952, 983040, 2108187653, 1610613702, 1050508152, 25426944, 316456923, 3806512014, 3357629466, 3073800610, 3854317833, 845560923, 2636160359, 3968280267, 1881225380, 3552024379, 2482346367, 0, 0, 0, 0, 0, 0, 0, 0, 0, 0, 0, 0, 0, 0, 0, 0, 0, 0, 0, 0, 0, 0, 0, 0, 0, 0, 0, 0, 0, 0, 0] := by rw [WSd, abc_w16]; kernel_rfl
theorem abc_w18 : WSd abcP 18 = [1633837952, 0, 0, 0, 0, 0, 0, 0, 0, 0, 0, 0, 0, 0, 0, 24, 1633837952, 983040, 2108187653, 1610613702, 1050508152, 25426944, 316456923, 3806512014, 3357629466, 3073800610, 3854317833, 845560923, 2636160359, 3968280267, 1881225380, 3552024379, 2482346367, 996719219, 0, 0, 0, 0, 0, 0, 0, 0, 0, 0, 0, 0, 0, 0, 0, 0, 0, 0, 0, 0, 0, 0, 0, 0, 0, 0, 0, 0, 0, 0] := by rw [WSd, abc_w17]; kernel_rfl
theorem abc_w19 : WSd abcP 19 = [1633837952, 0, 0, 0, 0, 0, 0, 0, 0, 0, 0, 0, 0, 0, 0, 24, 1633837952, 983040, 2108187653, 1610613702, 1050508152, 25426944, 316456923, 3806512014, 3357629466, 3073800610, 3854317833, 845560923, 2636160359, 3968280267, 1881225380, 3552024379, 2482346367, 996719219, 2952069057, 0, 0, 0, 0, 0, 0, 0, 0, 0, 0, 0, 0, 0, 0, 0, 0, 0, 0, 0, 0, 0, 0, 0, 0, 0, 0, 0, 0, 0] := by rw [WSd, abc_w18]; kernel_rfl
theorem abc_w20 : WSd abcP 20 = [1633837952, 0, 0, 0, 0, 0, 0, 0, 0, 0, 0, 0, 0, 0, 0, 24, 1633837952, 983040, 2108187653, 1610613702, 1050508152, 25426944, 316456923, 3806512014, 3357629466, 3073800610, 3854317833, 845560923, 2636160359, 3968280267, 1881225380, 3552024379, 2482346367, 996719219, 2952069057, 4043988066, 0, 0, 0, 0, 0, 0, 0, 0, 0, 0, 0, 0, 0, 0, 0, 0, 0, 0, 0, 0, 0, 0, 0, 0, 0, 0, 0, 0] := by rw [WSd, abc_w19]; kernel_rfl
theorem abc_w21 : WSd abcP 21 = [1633837952, 0, 0, 0, 0, 0, 0, 0, 0, 0, 0, 0, 0, 0, 0, 24, 1633837952, 983040, 2108187653, 1610613702, 1050508152, 25426944, 316456923, 3806512014, 3357629466, 3073800610, 3854317833, 845560923, 2636160359, 3968280267, 1881225380, 3552024379, 2482346367, 996719219, 2952069057, 4043988066, 176896406, 0, 0, 0, 0, 0, 0, 0, 0, 0, 0, 0, 0, 0, 0, 0, 0, 0, 0, 0, 0, 0, 0, 0, 0, 0, 0, 0] := by rw [WSd, abc_w20]; kernel_rfl
theorem abc_w22 : WSd abcP 22 = [1633837952, 0, 0, 0, 0, 0, 0, 0, 0, 0, 0, 0, 0, 0, 0, 24, 1633837952, 983040, 2108187653, 1610613702, 1050508152, 25426944, 316456923, 3806512014, 3357629466, 3073800610, 3854317833, 845560923, 2636160359, 3968280267, 1881225380, 3552024379, 2482346367, 996719219, 2952069057, 4043988066, 176896406, 1924104970, 0, 0, 0, 0, 0, 0, 0, 0, 0, 0, 0, 0, 0, 0, 0, 0, 0, 0, 0, 0, 0, 0, 0, 0, 0, 0] := by rw [WSd, abc_w21]; kernel_rfl
theorem abc_w23 : WSd abcP 23 = [1633837952, 0, 0, 0, 0, 0, 0, 0, 0, 0, 0, 0, 0, 0, 0, 24, 1633837952, 983040, 2108187653, 1610613702, 1050508152, 25426944, 316456923, 3806512014, 3357629466, 3073800610, 3854317833, 845560923, 2636160359, 3968280267, 1881225380, 3552024379, 2482346367, 996719219, 2952069057, 4043988066, 176896406, 1924104970, 2483675966, 0, 0, 0, 0, 0, 0, 0, 0, 0, 0, 0, 0, 0, 0, 0, 0, 0, 0, 0, 0, 0, 0, 0, 0, 0] := by rw [WSd, abc_w22]; kernel_rfl
theorem abc_w24 : WSd abcP 24 = [1633837952, 0, 0, 0, 0, 0, 0, 0, 0, 0, 0, 0, 0, 0, 0, 24, 1633837952, 983040, 2108187653, 1610613702, 1050508152, 25426944, 316456923, 3806512014, 3357629466, 3073800610, 3854317833, 845560923, 2636160359, 3968280267, 1881225380, 3552024379, 2482346367, 996719219, 2952069057, 4043988066, 176896406, 1924104970, 2483675966, 610538786, 0, 0, 0, 0, 0, 0, 0, 0, 0, 0, 0, 0, 0, 0, 0, 0, 0, 0, 0, 0, 0, 0, 0, 0] := by rw [WSd, abc_w23]; kernel_rfl
theorem abc_w25 : WSd abcP 25 = [1633837952, 0, 0, 0, 0, 0, 0, 0, 0, 0, 0, 0, 0, 0, 0, 24, 1633837952, 983040, 2108187653, 1610613702, 1050508152, 25426944, 316456923, 3806512014, 3357629466, 3073800610, 3854317833, 845560923, 2636160359, 3968280267, 1881225380, 3552024379, 2482346367, 996719219, 2952069057, 4043988066, 176896406, 1924104970, 2483675966, 610538786, 2672279444, 0, 0, 0, 0, 0, 0, 0, 0, 0, 0, 0, 0, 0, 0, 0, 0, 0, 0, 0, 0, 0, 0, 0] := by rw [WSd, abc_w24]; kernel_rfl
theorem abc_w26 : WSd abcP 26 = [1633837952, 0, 0, 0, 0, 0, 0, 0, 0, 0, 0, 0, 0, 0, 0, 24, 1633837952, 983040, 2108187653, 1610613702, 1050508152, 25426944, 316456923, 3806512014, 3357629466, 3073800610, 3854317833, 845560923, 2636160359, 3968280267, 1881225380, 3552024379, 2482346367, 996719219, 2952069057, 4043988066, 176896406, 1924104970, 2483675966, 610538786, 2672279444, 4037431130, 0, 0, 0, 0, 0, 0, 0, 0, 0, 0, 0, 0, 0, 0, 0, 0, 0, 0, 0, 0, 0, 0] := by rw [WSd, abc_w25]; kernel_rfl
theorem abc_w27 : WSd abcP 27 = [1633837952, 0, 0, 0, 0, 0, 0, 0, 0, 0, 0, 0, 0, 0, 0, 24, 1633837952, 983040, 2108187653, 1610613702, 1050508152, 25426944, 316456923, 3806512014, 3357629466, 3073800610, 3854317833, 845560923, 2636160359, 3968280267, 1881225380, 3552024379, 2482346367, 996719219, 2952069057, 4043988066, 176896406, 1924104970, 2483675966, 610538786, 2672279444, 4037431130, 1042573945, 0, 0, 0, 0, 0, 0, 0, 0, 0, 0, 0, 0, 0, 0, 0, 0, 0, 0, 0, 0, 0] := by rw [WSd, abc_w26]; kernel_rfl
theorem abc_w28 : WSd abcP 28 = [1633837952, 0, 0, 0, 0, 0, 0, 0, 0, 0, 0, 0, 0, 0, 0, 24, 1633837952, 983040, 2108187653, 1610613702, 1050508152, 25426944, 316456923, 3806512014, 3357629466, 3073800610, 3854317833, 845560923, 2636160359, 3968280267, 1881225380, 3552024379, 2482346367, 996719219, 2952069057, 4043988066, 176896406, 1924104970, 2483675966, 610538786, 2672279444, 4037431130, 1042573945, 657669027, 0, 0, 0, 0, 0, 0, 0, 0, 0, 0, 0, 0, 0, 0, 0, 0, 0, 0, 0, 0] := by rw [WSd, abc_w27]; kernel_rfl
theorem abc_w29 : WSd abcP 29 = [1633837952, 0, 0, 0, 0, 0, 0, 0, 0, 0, 0, 0, 0, 0, 0, 24, 1633837952, 983040, 2108187653, 1610613702, 1050508152, 25426944, 316456923, 3806512014, 3357629466, 3073800610, 3854317833, 845560923, 2636160359, 3968280267, 1881225380, 3552024379, 2482346367, 996719219, 2952069057, 4043988066, 176896406, 1924104970, 2483675966, 610538786, 2672279444, 4037431130, 1042573945, 657669027, 206005234, 0, 0, 0, 0, 0, 0, 0, 0, 0, 0, 0, 0, 0, 0, 0, 0, 0, 0, 0] := by rw [WSd, abc_w28]; kernel_rfl
theorem abc_w30 : WSd abcP 30 = [1633837952, 0, 0, 0, 0, 0, 0, 0, 0, 0, 0, 0, 0, 0, 0, 24, 1633837952, 983040, 2108187653, 1610613702, 1050508152, 25426944, 316456923, 3806512014, 3357629466, 3073800610, 3854317833, 845560923, 2636160359, 3968280267, 1881225380, 3552024379, 2482346367, 996719219, 2952069057, 4043988066, 176896406, 1924104970, 2483675966, 610538786, 2672279444, 4037431130, 1042573945, 657669027, 206005234, 2215296807, 0, 0, 0, 0, 0, 0, 0, 0, 0, 0, 0, 0, 0, 0, 0, 0, 0, 0] := by rw [WSd, abc_w29]; kernel_rfl
theorem abc_w31 : WSd abcP 31 = [1633837952, 0, 0, 0, 0, 0, 0, 0, 0, 0, 0, 0, 0, 0, 0, 24, 1633837952, 983040, 2108187653, 1610613702, 1050508152, 25426944, 316456923, 3806512014, 3357629466, 3073800610, 3854317833, 845560923, 2636160359, 3968280267, 1881225380, 3552024379, 2482346367, 996719219, 2952069057, 4043988066, 176896406, 1924104970, 2483675966, 610538786, 2672279444, 4037431130, 1042573945, 657669027, 206005234, 2215296807, 2049510749, 0, 0, 0, 0, 0, 0, 0, 0, 0, 0, 0, 0, 0, 0, 0, 0, 0] := by rw [WSd, abc_w30]; kernel_rfl
theorem abc_w32 : WSd abcP 32 = [1633837952, 0, 0, 0, 0, 0, 0, 0, 0, 0, 0, 0, 0, 0, 0, 24, 1633837952, 983040, 2108187653, 1610613702, 1050508152, 25426944, 316456923, 3806512014, 3357629466, 3073800610, 3854317833, 845560923, 2636160359, 3968280267, 1881225380, 3552024379, 2482346367, 996719219, 2952069057, 4043988066, 176896406, 1924104970, 2483675966, 610538786, 2672279444, 4037431130, 1042573945, 657669027, 206005234, 2215296807, 2049510749, 106709978, 0, 0, 0, 0, 0, 0, 0, 0, 0, 0, 0, 0, 0, 0, 0, 0] := by rw [WSd, abc_w31]; kernel_rfl
theorem abc_w33 : WSd abcP 33 = [1633837952, 0, 0, 0, 0, 0, 0, 0, 0, 0, 0, 0, 0, 0, 0, 24, 1633837952, 983040, 2108187653, 1610613702, 1050508152, 25426944, 316456923, 3806512014, 3357629466, 3073800610, 3854317833, 845560923, 2636160359, 3968280267, 1881225380, 3552024379, 2482346367, 996719219, 2952069057, 4043988066, 176896406, 1924104970, 2483675966, 610538786, 2672279444, 4037431130, 1042573945, 657669027, 206005234, 2215296807, 2049510749, 106709978, 4215179723, 0, 0, 0, 0, 0, 0, 0, 0, 0, 0, 0, 0, 0, 0, 0] := by rw [WSd, abc_w32]; kernel_rfl
theorem abc_w34 : WSd abcP 34 = [1633837952, 0, 0, 0, 0, 0, 0, 0, 0, 0, 0, 0, 0, 0, 0, 24, 1633837952, 983040, 2108187653, 1610613702, 1050508152, 25426944, 316456923, 3806512014, 3357629466, 3073800610, 3854317833, 845560923, 2636160359, 3968280267, 1881225380, 3552024379, 2482346367, 996719219, 2952069057, 4043988066, 176896406, 1924104970, 2483675966, 610538786, 2672279444, 4037431130, 1042573945, 657669027, 206005234, 2215296807, 2049510749, 106709978, 4215179723, 3430291419, 0, 0, 0, 0, 0, 0, 0, 0, 0, 0, 0, 0, 0, 0] := by rw [WSd, abc_w33]; kernel_rfl
theorem abc_w35 : WSd abcP 35 = [1633837952, 0, 0, 0, 0, 0, 0, 0, 0, 0, 0, 0, 0, 0, 0, 24, 1633837952, 983040, 2108187653, 1610613702, 1050508152, 25426944, 316456923, 3806512014, 3357629466, 3073800610, 3854317833, 845560923, 2636160359, 3968280267, 1881225380, 3552024379, 2482346367, 996719219, 2952069057, 4043988066, 176896406, 1924104970, 2483675966, 610538786, 2672279444, 4037431130, 1042573945, 657669027, 206005234, 2215296807, 2049510749, 106709978, 4215179723, 3430291419, 3118885940, 0, 0, 0, 0, 0, 0, 0, 0, 0, 0, 0, 0, 0] := by rw [WSd, abc_w34]; kernel_rfl
theorem abc_w36 : WSd abcP 36 = [1633837952, 0, 0, 0, 0, 0, 0, 0, 0, 0, 0, 0, 0, 0, 0, 24, 1633837952, 983040, 2108187653, 1610613702, 1050508152, 25426944, 316456923, 3806512014, 3357629466, 3073800610, 3854317833, 845560923, 2636160359, 3968280267, 1881225380, 3552024379, 2482346367, 996719219, 2952069057, 4043988066, 176896406, 1924104970, 2483675966, 610538786, 2672279444, 4037431130, 1042573945, 657669027, 206005234, 2215296807, 2049510749, 106709978, 4215179723, 3430291419, 3118885940, 2845390439, 0, 0, 0, 0, 0, 0, 0, 0, 0, 0, 0, 0] := by rw [WSd, abc_w35]; kernel_rfl
theorem abc_w37 : WSd abcP 37 = [1633837952, 0, 0, 0, 0, 0, 0, 0, 0, 0, 0, 0, 0, 0, 0, 24, 1633837952, 983040, 2108187653, 1610613702, 1050508152, 25426944, 316456923, 3806512014, 3357629466, 3073800610, 3854317833, 845560923, 2636160359, 3968280267, 1881225380, 3552024379, 2482346367, 996719219, 2952069057, 4043988066, 176896406, 1924104970, 2483675966, 610538786, 2672279444, 4037431130, 1042573945, 657669027, 206005234, 2215296807, 2049510749, 106709978, 4215179723, 3430291419, 3118885940, 2845390439, 2226839261, 0, 0, 0, 0, 0, 0, 0, 0, 0, 0, 0] := by rw [WSd, abc_w36]; kernel_rfl
theorem abc_w38 : WSd abcP 38 = [1633837952, 0, 0, 0, 0, 0, 0, 0, 0, 0, 0, 0, 0, 0, 0, 24, 1633837952, 983040, 2108187653, 1610613702, 1050508152, 25426944, 316456923, 3806512014, 3357629466, 3073800610, 3854317833, 845560923, 2636160359, 3968280267, 1881225380, 3552024379, 2482346367, 996719219, 2952069057, 4043988066, 176896406, 1924104970, 2483675966, 610538786, 2672279444, 4037431130, 1042573945, 657669027, 206005234, 2215296807, 2049510749, 106709978, 4215179723, 3430291419, 3118885940, 2845390439, 2226839261, 3256115900, 0, 0, 0, 0, 0, 0, 0, 0, 0, 0] := by rw [WSd, abc_w37]; kernel_rfl
theorem abc_w39 : WSd abcP 39 = [1633837952, 0, 0, 0, 0, 0, 0, 0, 0, 0, 0, 0, 0, 0, 0, 24, 1633837952, 983040, 2108187653, 1610613702, 1050508152, 25426944, 316456923, 3806512014, 3357629466, 3073800610, 3854317833, 845560923, 2636160359, 3968280267, 1881225380, 3552024379, 2482346367, 996719219, 2952069057, 4043988066, 176896406, 1924104970, 2483675966, 610538786, 2672279444, 4037431130, 1042573945, 657669027, 206005234, 2215296807, 2049510749, 106709978, 4215179723, 3430291419, 3118885940, 2845390439, 2226839261, 3256115900, 344409900, 0, 0, 0, 0, 0, 0, 0, 0, 0] := by rw [WSd, abc_w38]; kernel_rfl
theorem abc_w40 : WSd abcP 40 = [1633837952, 0, 0, 0, 0, 0, 0, 0, 0, 0, 0, 0, 0, 0, 0, 24, 1633837952, 983040, 2108187653, 1610613702, 1050508152, 25426944, 316456923, 3806512014, 3357629466, 3073800610, 3854317833, 845560923, 2636160359, 3968280267, 1881225380, 3552024379, 2482346367, 996719219, 2952069057, 4043988066, 176896406, 1924104970, 2483675966, 610538786, 2672279444, 4037431130, 1042573945, 657669027, 206005234, 2215296807, 2049510749, 106709978, 4215179723, 3430291419, 3118885940, 2845390439, 2226839261, 3256115900, 344409900, 2987358873, 0, 0, 0, 0, 0, 0, 0, 0] := by rw [WSd, abc_w39]; kernel_rfl
theorem abc_w41 : WSd abcP 41 = [1633837952, 0, 0, 0, 0, 0, 0, 0, 0, 0, 0, 0, 0, 0, 0, 24, 1633837952, 983040, 2108187653, 1610613702, 1050508152, 25426944, 316456923, 3806512014, 3357629466, 3073800610, 3854317833, 845560923, 2636160359, 3968280267, 1881225380, 3552024379, 2482346367, 996719219, 2952069057, 4043988066, 176896406, 1924104970, 2483675966, 610538786, 2672279444, 4037431130, 1042573945, 657669027, 206005234, 2215296807, 2049510749, 106709978, 4215179723, 3430291419, 3118885940, 2845390439, 2226839261, 3256115900, 344409900, 2987358873, 4015503821, 0, 0, 0, 0, 0, 0, 0] := by rw [WSd, abc_w40]; kernel_rfl
theorem abc_w42 : WSd abcP 42 = [1633837952, 0, 0, 0, 0, 0, 0, 0, 0, 0, 0, 0, 0, 0, 0, 24, 1633837952, 983040, 2108187653, 1610613702, 1050508152, 25426944, 316456923, 3806512014, 3357629466, 3073800610, 3854317833, 845560923, 2636160359, 3968280267, 1881225380, 3552024379, 2482346367, 996719219, 2952069057, 4043988066, 176896406, 1924104970, 2483675966, 610538786, 2672279444, 4037431130, 1042573945, 657669027, 206005234, 2215296807, 2049510749, 106709978, 4215179723, 3430291419, 3118885940, 2845390439, 2226839261, 3256115900, 344409900, 2987358873, 4015503821, 3957764664, 0, 0, 0, 0, 0, 0] := by rw [WSd, abc_w41]; kernel_rfl
theorem abc_w43 : WSd abcP 43 = [1633837952, 0, 0, 0, 0, 0, 0, 0, 0, 0, 0, 0, 0, 0, 0, 24, 1633837952, 983040, 2108187653, 1610613702, 1050508152, 25426944, 316456923, 3806512014, 3357629466, 3073800610, 3854317833, 845560923, 2636160359, 3968280267, 1881225380, 3552024379, 2482346367, 996719219, 2952069057, 4043988066, 176896406, 1924104970, 2483675966, 610538786, 2672279444, 4037431130, 1042573945, 657669027, 206005234, 2215296807, 2049510749, 106709978, 4215179723, 3430291419, 3118885940, 2845390439, 2226839261, 3256115900, 344409900, 2987358873, 4015503821, 3957764664, 2682456414, 0, 0, 0, 0, 0] := by rw [WSd, abc_w42]; kernel_rfl
theorem abc_w44 : WSd abcP 44 = [1633837952, 0, 0, 0, 0, 0, 0, 0, 0, 0, 0, 0, 0, 0, 0, 24, 1633837952, 983040, 2108187653, 1610613702, 1050508152, 25426944, 316456923, 3806512014, 3357629466, 3073800610, 3854317833, 845560923, 2636160359, 3968280267, 1881225380, 3552024379, 2482346367, 996719219, 2952069057, 4043988066, 176896406, 1924104970, 2483675966, 610538786, 2672279444, 4037431130, 1042573945, 657669027, 206005234, 2215296807, 2049510749, 106709978, 4215179723, 3430291419, 3118885940, 2845390439, 2226839261, 3256115900, 344409900, 2987358873, 4015503821, 3957764664, 2682456414, 2025622859, 0, 0, 0, 0] := by rw [WSd, abc_w43]; kernel_rfl
theorem abc_w45 : WSd abcP 45 = [1633837952, 0, 0, 0, 0, 0, 0, 0, 0, 0, 0, 0, 0, 0, 0, 24, 1633837952, 983040, 2108187653, 1610613702, 1050508152, 25426944, 316456923, 3806512014, 3357629466, 3073800610, 3854317833, 845560923, 2636160359, 3968280267, 1881225380, 3552024379, 2482346367, 996719219, 2952069057, 4043988066, 176896406, 1924104970, 2483675966, 610538786, 2672279444, 4037431130, 1042573945, 657669027, 206005234, 2215296807, 2049510749, 106709978, 4215179723, 3430291419, 3118885940, 2845390439, 2226839261, 3256115900, 344409900, 2987358873, 4015503821, 3957764664, 2682456414, 2025622859, 2755645205, 0, 0, 0] := by rw [WSd, abc_w44]; kernel_rfl
theorem abc_w46 : WSd abcP 46 = [1633837952, 0, 0, 0, 0, 0, 0, 0, 0, 0, 0, 0, 0, 0, 0, 24, 1633837952, 983040, 2108187653, 1610613702, 1050508152, 25426944, 316456923, 3806512014, 3357629466, 3073800610, 3854317833, 845560923, 2636160359, 3968280267, 1881225380, 3552024379, 2482346367, 996719219, 2952069057, 4043988066, 176896406, 1924104970, 2483675966, 610538786, 2672279444, 4037431130, 1042573945, 657669027, 206005234, 2215296807, 2049510749, 106709978, 4215179723, 3430291419, 3118885940, 2845390439, 2226839261, 3256115900, 344409900, 2987358873, 4015503821, 3957764664, 2682456414, 2025622859, 2755645205, 1720397816, 0, 0] := by rw [WSd, abc_w45]; kernel_rfl
theorem abc_w47 : WSd abcP 47 = [1633837952, 0, 0, 0, 0, 0, 0, 0, 0, 0, 0, 0, 0, 0, 0, 24, 1633837952, 983040, 2108187653, 1610613702, 1050508152, 25426944, 316456923, 3806512014, 3357629466, 3073800610, 3854317833, 845560923, 2636160359, 3968280267, 1881225380, 3552024379, 2482346367, 996719219, 2952069057, 4043988066, 176896406, 1924104970, 2483675966, 610538786, 2672279444, 4037431130, 1042573945, 657669027, 206005234, 2215296807, 2049510749, 106709978, 4215179723, 3430291419, 3118885940, 2845390439, 2226839261, 3256115900, 344409900, 2987358873, 4015503821, 3957764664, 2682456414, 2025622859, 2755645205, 1720397816, 4004225740, 0] := by rw [WSd, abc_w46]; kernel_rfl
theorem abc_w48 : WSd abcP 48 = [1633837952, 0, 0, 0, 0, 0, 0, 0, 0, 0, 0, 0, 0, 0, 0, 24, 1633837952, 983040, 2108187653, 1610613702, 1050508152, 25426944, 316456923, 3806512014, 3357629466, 3073800610, 3854317833, 845560923, 2636160359, 3968280267, 1881225380, 3552024379, 2482346367, 996719219, 2952069057, 4043988066, 176896406, 1924104970, 2483675966, 610538786, 2672279444, 4037431130, 1042573945, 657669027, 206005234, 2215296807, 2049510749, 106709978, 4215179723, 3430291419, 3118885940, 2845390439, 2226839261, 3256115900, 344409900, 2987358873, 4015503821, 3957764664, 2682456414, 2025622859, 2755645205, 1720397816, 4004225740, 313650667] := by rw [WSd, abc_w47]; kernel_rfl
theorem abc_r0 : rnd abcP [1779033703, 3144134277, 1013904242, 2773480762, 1359893119, 2600822924, 528734635, 1541459225] 0 = [1779033703, 3144134277, 1013904242, 2773480762, 1359893119, 2600822924, 528734635, 1541459225] := rfl
theorem abc_r1 : rnd abcP [1779033703, 3144134277, 1013904242, 2773480762, 1359893119, 2600822924, 528734635, 1541459225] 1 = [1567288269, 1779033703, 3144134277, 1013904242, 4197074466, 1359893119, 2600822924, 528734635] := by rw [rnd, abc_r0, abc_w48]; kernel_rfl
theorem abc_r2 : rnd abcP [1779033703, 3144134277, 1013904242, 2773480762, 1359893119, 2600822924, 528734635, 1541459225] 2 = [1516951981, 1567288269, 1779033703, 3144134277, 2026797449, 4197074466, 1359893119, 2600822924] := by rw [rnd, abc_r1, abc_w48]; kernel_rfl
theorem abc_r3 : rnd abcP [1779033703, 3144134277, 1013904242, 2773480762, 1359893119, 2600822924, 528734635, 1541459225] 3 = [3368241063, 1516951981, 1567288269, 1779033703, 4180228587, 2026797449, 4197074466, 1359893119] := by rw [rnd, abc_r2, abc_w48]; kernel_rfl
theorem abc_r4 : rnd abcP [1779033703, 3144134277, 1013904242, 2773480762, 1359893119, 2600822924, 528734635, 1541459225] 4 = [3578852966, 3368241063, 1516951981, 1567288269, 618661968, 4180228587, 2026797449, 4197074466] := by rw [rnd, abc_r3, abc_w48]; kernel_rfl
theorem abc_r5 : rnd abcP [1779033703, 3144134277, 1013904242, 2773480762, 1359893119, 2600822924, 528734635, 1541459225] 5 = [71342698, 3578852966, 3368241063, 1516951981, 1135452741, 618661968, 4180228587, 2026797449] := by rw [rnd, abc_r4, abc_w48]; kernel_rfl
theorem abc_r6 : rnd abcP [1779033703, 3144134277, 1013904242, 2773480762, 1359893119, 2600822924, 528734635, 1541459225] 6 = [725748213, 71342698, 3578852966, 3368241063, 1900175533, 1135452741, 618661968, 4180228587] := by rw [rnd, abc_r5, abc_w48]; kernel_rfl
theorem abc_r7 : rnd abcP [1779033703, 3144134277, 1013904242, 2773480762, 1359893119, 2600822924, 528734635, 1541459225] 7 = [3842179968, 725748213, 71342698, 3578852966, 2603066369, 1900175533, 1135452741, 618661968] := by rw [rnd, abc_r6, abc_w48]; kernel_rfl
theorem abc_r8 : rnd abcP [1779033703, 3144134277, 1013904242, 2773480762, 1359893119, 2600822924, 528734635, 1541459225] 8 = [2241887071, 3842179968, 725748213, 71342698, 207977081, 2603066369, 1900175533, 1135452741] := by rw [rnd, abc_r7, abc_w48]; kernel_rfl
theorem abc_r9 : rnd abcP [1779033703, 3144134277, 1013904242, 2773480762, 1359893119, 2600822924, 528734635, 1541459225] 9 = [2382687417, 2241887071, 3842179968, 725748213, 852110732, 207977081, 2603066369, 1900175533] := by rw [rnd, abc_r8, abc_w48]; kernel_rfl
theorem abc_r10 : rnd abcP [1779033703, 3144134277, 1013904242, 2773480762, 1359893119, 2600822924, 528734635, 1541459225] 10 = [2357671019, 2382687417, 2241887071, 3842179968, 482944406, 852110732, 207977081, 2603066369] := by rw [rnd, abc_r9, abc_w48]; kernel_rfl
theorem abc_r11 : rnd abcP [1779033703, 3144134277, 1013904242, 2773480762, 1359893119, 2600822924, 528734635, 1541459225] 11 = [1201185780, 2357671019, 2382687417, 2241887071, 1131095016, 482944406, 852110732, 207977081] := by rw [rnd, abc_r10, abc_w48]; kernel_rfl
theorem abc_r12 : rnd abcP [1779033703, 3144134277, 1013904242, 2773480762, 1359893119, 2600822924, 528734635, 1541459225] 12 = [4146054569, 1201185780, 2357671019, 2382687417, 2171590377, 1131095016, 482944406, 852110732] := by rw [rnd, abc_r11, abc_w48]; kernel_rfl
theorem abc_r13 : rnd abcP [1779033703, 3144134277, 1013904242, 2773480762, 1359893119, 2600822924, 528734635, 1541459225] 13 = [2274437520, 4146054569, 1201185780, 2357671019, 509051416, 2171590377, 1131095016, 482944406] := by rw [rnd, abc_r12, abc_w48]; kernel_rfl
theorem abc_r14 : rnd abcP [1779033703, 3144134277, 1013904242, 2773480762, 1359893119, 2600822924, 528734635, 1541459225] 14 = [3643992854, 2274437520, 4146054569, 1201185780, 1952073950, 509051416, 2171590377, 1131095016] := by rw [rnd, abc_r13, abc_w48]; kernel_rfl
theorem abc_r15 : rnd abcP [1779033703, 3144134277, 1013904242, 2773480762, 1359893119, 2600822924, 528734635, 1541459225] 15 = [3227803614, 3643992854, 2274437520, 4146054569, 194179596, 1952073950, 509051416, 2171590377] := by rw [rnd, abc_r14, abc_w48]; kernel_rfl
theorem abc_r16 : rnd abcP [1779033703, 3144134277, 1013904242, 2773480762, 1359893119, 2600822924, 528734635, 1541459225] 16 = [2969183118, 3227803614, 3643992854, 2274437520, 123276749, 194179596, 1952073950, 509051416] := by rw [rnd, abc_r15, abc_w48]; kernel_rfl
theorem abc_r17 : rnd abcP [1779033703, 3144134277, 1013904242, 2773480762, 1359893119, 2600822924, 528734635, 1541459225] 17 = [567974555, 2969183118, 3227803614, 3643992854, 2150900380, 123276749, 194179596, 1952073950] := by rw [rnd, abc_r16, abc_w48]; kernel_rfl
theorem abc_r18 : rnd abcP [1779033703, 3144134277, 1013904242, 2773480762, 1359893119, 2600822924, 528734635, 1541459225] 18 = [3271285201, 567974555, 2969183118, 3227803614, 2221859924, 2150900380, 123276749, 194179596] := by rw [rnd, abc_r17, abc_w48]; kernel_rfl
theorem abc_r19 : rnd abcP [1779033703, 3144134277, 1013904242, 2773480762, 1359893119, 2600822924, 528734635, 1541459225] 19 = [4269243327, 3271285201, 567974555, 2969183118, 3431569761, 2221859924, 2150900380, 123276749] := by rw [rnd, abc_r18, abc_w48]; kernel_rfl
theorem abc_r20 : rnd abcP [1779033703, 3144134277, 1013904242, 2773480762, 1359893119, 2600822924, 528734635, 1541459225] 20 = [3790736435, 4269243327, 3271285201, 567974555, 2959311225, 3431569761, 2221859924, 2150900380] := by rw [rnd, abc_r19, abc_w48]; kernel_rfl
theorem abc_r21 : rnd abcP [1779033703, 3144134277, 1013904242, 2773480762, 1359893119, 2600822924, 528734635, 1541459225] 21 = [2647034723, 3790736435, 4269243327, 3271285201, 2329577776, 2959311225, 3431569761, 2221859924] := by rw [rnd, abc_r20, abc_w48]; kernel_rfl
theorem abc_r22 : rnd abcP [1779033703, 3144134277, 1013904242, 2773480762, 1359893119, 2600822924, 528734635, 1541459225] 22 = [3261099373, 2647034723, 3790736435, 4269243327, 3777329520, 2329577776, 2959311225, 3431569761] := by rw [rnd, abc_r21, abc_w48]; kernel_rfl
theorem abc_r23 : rnd abcP [1779033703, 3144134277, 1013904242, 2773480762, 1359893119, 2600822924, 528734635, 1541459225] 23 = [2812502591, 3261099373, 2647034723, 3790736435, 1240797514, 3777329520, 2329577776, 2959311225] := by rw [rnd, abc_r22, abc_w48]; kernel_rfl
theorem abc_r24 : rnd abcP [1779033703, 3144134277, 1013904242, 2773480762, 1359893119, 2600822924, 528734635, 1541459225] 24 = [3319086477, 2812502591, 3261099373, 2647034723, 2856829767, 1240797514, 3777329520, 2329577776] := by rw [rnd, abc_r23, abc_w48]; kernel_rfl
theorem abc_r25 : rnd abcP [1779033703, 3144134277, 1013904242, 2773480762, 1359893119, 2600822924, 528734635, 1541459225] 25 = [472655928, 3319086477, 2812502591, 3261099373, 673443729, 2856829767, 1240797514, 3777329520] := by rw [rnd, abc_r24, abc_w48]; kernel_rfl
theorem abc_r26 : rnd abcP [1779033703, 3144134277, 1013904242, 2773480762, 1359893119, 2600822924, 528734635, 1541459225] 26 = [3454534525, 472655928, 3319086477, 2812502591, 339230094, 673443729, 2856829767, 1240797514] := by rw [rnd, abc_r25, abc_w48]; kernel_rfl
theorem abc_r27 : rnd abcP [1779033703, 3144134277, 1013904242, 2773480762, 1359893119, 2600822924, 528734635, 1541459225] 27 = [3056518332, 3454534525, 472655928, 3319086477, 3343672598, 339230094, 673443729, 2856829767] := by rw [rnd, abc_r26, abc_w48]; kernel_rfl
theorem abc_r28 : rnd abcP [1779033703, 3144134277, 1013904242, 2773480762, 1359893119, 2600822924, 528734635, 1541459225] 28 = [2010346792, 3056518332, 3454534525, 472655928, 3992961016, 3343672598, 339230094, 673443729] := by rw [rnd, abc_r27, abc_w48]; kernel_rfl
theorem abc_r29 : rnd abcP [1779033703, 3144134277, 1013904242, 2773480762, 1359893119, 2600822924, 528734635, 1541459225] 29 = [909411017, 2010346792, 3056518332, 3454534525, 1628611511, 3992961016, 3343672598, 339230094] := by rw [rnd, abc_r28, abc_w48]; kernel_rfl
theorem abc_r30 : rnd abcP [1779033703, 3144134277, 1013904242, 2773480762, 1359893119, 2600822924, 528734635, 1541459225] 30 = [2684750640, 909411017, 2010346792, 3056518332, 2917635127, 1628611511, 3992961016, 3343672598] := by rw [rnd, abc_r29, abc_w48]; kernel_rfl
theorem abc_r31 : rnd abcP [1779033703, 3144134277, 1013904242, 2773480762, 1359893119, 2600822924, 528734635, 1541459225] 31 = [3935906338, 2684750640, 909411017, 2010346792, 17410874, 2917635127, 1628611511, 3992961016] := by rw [rnd, abc_r30, abc_w48]; kernel_rfl
theorem abc_r32 : rnd abcP [1779033703, 3144134277, 1013904242, 2773480762, 1359893119, 2600822924, 528734635, 1541459225] 32 = [1941126133, 3935906338, 2684750640, 909411017, 3126399250, 17410874, 2917635127, 1628611511] := by rw [rnd, abc_r31, abc_w48]; kernel_rfl
theorem abc_r33 : rnd abcP [1779033703, 3144134277, 1013904242, 2773480762, 1359893119, 2600822924, 528734635, 1541459225] 33 = [2564891911, 1941126133, 3935906338, 2684750640, 2631529974, 3126399250, 17410874, 2917635127] := by rw [rnd, abc_r32, abc_w48]; kernel_rfl
theorem abc_r34 : rnd abcP [1779033703, 3144134277, 1013904242, 2773480762, 1359893119, 2600822924, 528734635, 1541459225] 34 = [4267724277, 2564891911, 1941126133, 3935906338, 1495571923, 2631529974, 3126399250, 17410874] := by rw [rnd, abc_r33, abc_w48]; kernel_rfl
theorem abc_r35 : rnd abcP [1779033703, 3144134277, 1013904242, 2773480762, 1359893119, 2600822924, 528734635, 1541459225] 35 = [2846323596, 4267724277, 2564891911, 1941126133, 140458035, 1495571923, 2631529974, 3126399250] := by rw [rnd, abc_r34, abc_w48]; kernel_rfl
theorem abc_r36 : rnd abcP [1779033703, 3144134277, 1013904242, 2773480762, 1359893119, 2600822924, 528734635, 1541459225] 36 = [1705037796, 2846323596, 4267724277, 2564891911, 4105175766, 140458035, 1495571923, 2631529974] := by rw [rnd, abc_r35, abc_w48]; kernel_rfl
theorem abc_r37 : rnd abcP [1779033703, 3144134277, 1013904242, 2773480762, 1359893119, 2600822924, 528734635, 1541459225] 37 = [1101421745, 1705037796, 2846323596, 4267724277, 124953195, 4105175766, 140458035, 1495571923] := by rw [rnd, abc_r36, abc_w48]; kernel_rfl
theorem abc_r38 : rnd abcP [1779033703, 3144134277, 1013904242, 2773480762, 1359893119, 2600822924, 528734635, 1541459225] 38 = [887035396, 1101421745, 1705037796, 2846323596, 2768741693, 124953195, 4105175766, 140458035] := by rw [rnd, abc_r37, abc_w48]; kernel_rfl
theorem abc_r39 : rnd abcP [1779033703, 3144134277, 1013904242, 2773480762, 1359893119, 2600822924, 528734635, 1541459225] 39 = [1841658506, 887035396, 1101421745, 1705037796, 4034403272, 2768741693, 124953195, 4105175766] := by rw [rnd, abc_r38, abc_w48]; kernel_rfl
theorem abc_r40 : rnd abcP [1779033703, 3144134277, 1013904242, 2773480762, 1359893119, 2600822924, 528734635, 1541459225] 40 = [2045405306, 1841658506, 887035396, 1101421745, 519815328, 4034403272, 2768741693, 124953195] := by rw [rnd, abc_r39, abc_w48]; kernel_rfl
theorem abc_r41 : rnd abcP [1779033703, 3144134277, 1013904242, 2773480762, 1359893119, 2600822924, 528734635, 1541459225] 41 = [3597076326, 2045405306, 1841658506, 887035396, 641019235, 519815328, 4034403272, 2768741693] := by rw [rnd, abc_r40, abc_w48]; kernel_rfl
theorem abc_r42 : rnd abcP [1779033703, 3144134277, 1013904242, 2773480762, 1359893119, 2600822924, 528734635, 1541459225] 42 = [3745932591, 3597076326, 2045405306, 1841658506, 2206934801, 641019235, 519815328, 4034403272] := by rw [rnd, abc_r41, abc_w48]; kernel_rfl
theorem abc_r43 : rnd abcP [1779033703, 3144134277, 1013904242, 2773480762, 1359893119, 2600822924, 528734635, 1541459225] 43 = [397020670, 3745932591, 3597076326, 2045405306, 3737995029, 2206934801, 641019235, 519815328] := by rw [rnd, abc_r42, abc_w48]; kernel_rfl
theorem abc_r44 : rnd abcP [1779033703, 3144134277, 1013904242, 2773480762, 1359893119, 2600822924, 528734635, 1541459225] 44 = [2638983059, 397020670, 3745932591, 3597076326, 4255271982, 3737995029, 2206934801, 641019235] := by rw [rnd, abc_r43, abc_w48]; kernel_rfl
theorem abc_r45 : rnd abcP [1779033703, 3144134277, 1013904242, 2773480762, 1359893119, 2600822924, 528734635, 1541459225] 45 = [643991573, 2638983059, 397020670, 3745932591, 2819559920, 4255271982, 3737995029, 2206934801] := by rw [rnd, abc_r44, abc_w48]; kernel_rfl
theorem abc_r46 : rnd abcP [1779033703, 3144134277, 1013904242, 2773480762, 1359893119, 2600822924, 528734635, 1541459225] 46 = [1923828625, 643991573, 2638983059, 397020670, 3077922209, 2819559920, 4255271982, 3737995029] := by rw [rnd, abc_r45, abc_w48]; kernel_rfl
theorem abc_r47 : rnd abcP [1779033703, 3144134277, 1013904242, 2773480762, 1359893119, 2600822924, 528734635, 1541459225] 47 = [2706117808, 1923828625, 643991573, 2638983059, 3581645993, 3077922209, 2819559920, 4255271982] := by rw [rnd, abc_r46, abc_w48]; kernel_rfl
theorem abc_r48 : rnd abcP [1779033703, 3144134277, 1013904242, 2773480762, 1359893119, 2600822924, 528734635, 1541459225] 48 = [1098003085, 2706117808, 1923828625, 643991573, 4274981830, 3581645993, 3077922209, 2819559920] := by rw [rnd, abc_r47, abc_w48]; kernel_rfl
theorem abc_r49 : rnd abcP [1779033703, 3144134277, 1013904242, 2773480762, 1359893119, 2600822924, 528734635, 1541459225] 49 = [91585771, 1098003085, 2706117808, 1923828625, 3178315832, 4274981830, 3581645993, 3077922209] := by rw [rnd, abc_r48, abc_w48]; kernel_rfl
theorem abc_r50 : rnd abcP [1779033703, 3144134277, 1013904242, 2773480762, 1359893119, 2600822924, 528734635, 1541459225] 50 = [4045142696, 91585771, 1098003085, 2706117808, 1851537676, 3178315832, 4274981830, 3581645993] := by rw [rnd, abc_r49, abc_w48]; kernel_rfl
theorem abc_r51 : rnd abcP [1779033703, 3144134277, 1013904242, 2773480762, 1359893119, 2600822924, 528734635, 1541459225] 51 = [2047150241, 4045142696, 91585771, 1098003085, 1391578359, 1851537676, 3178315832, 4274981830] := by rw [rnd, abc_r50, abc_w48]; kernel_rfl
theorem abc_r52 : rnd abcP [1779033703, 3144134277, 1013904242, 2773480762, 1359893119, 2600822924, 528734635, 1541459225] 52 = [2288941602, 2047150241, 4045142696, 91585771, 1227037726, 1391578359, 1851537676, 3178315832] := by rw [rnd, abc_r51, abc_w48]; kernel_rfl
theorem abc_r53 : rnd abcP [1779033703, 3144134277, 1013904242, 2773480762, 1359893119, 2600822924, 528734635, 1541459225] 53 = [270520975, 2288941602, 2047150241, 4045142696, 1386118400, 1227037726, 1391578359, 1851537676] := by rw [rnd, abc_r52, abc_w48]; kernel_rfl
theorem abc_r54 : rnd abcP [1779033703, 3144134277, 1013904242, 2773480762, 1359893119, 2600822924, 528734635, 1541459225] 54 = [4117770203, 270520975, 2288941602, 2047150241, 2672265155, 1386118400, 1227037726, 1391578359] := by rw [rnd, abc_r53, abc_w48]; kernel_rfl
theorem abc_r55 : rnd abcP [1779033703, 3144134277, 1013904242, 2773480762, 1359893119, 2600822924, 528734635, 1541459225] 55 = [1053056219, 4117770203, 270520975, 2288941602, 3842906959, 2672265155, 1386118400, 1227037726] := by rw [rnd, abc_r54, abc_w48]; kernel_rfl
theorem abc_r56 : rnd abcP [1779033703, 3144134277, 1013904242, 2773480762, 1359893119, 2600822924, 528734635, 1541459225] 56 = [952932627, 1053056219, 4117770203, 270520975, 1422599787, 3842906959, 2672265155, 1386118400] := by rw [rnd, abc_r55, abc_w48]; kernel_rfl
theorem abc_r57 : rnd abcP [1779033703, 3144134277, 1013904242, 2773480762, 1359893119, 2600822924, 528734635, 1541459225] 57 = [4241590395, 952932627, 1053056219, 4117770203, 2606665836, 1422599787, 3842906959, 2672265155] := by rw [rnd, abc_r56, abc_w48]; kernel_rfl
theorem abc_r58 : rnd abcP [1779033703, 3144134277, 1013904242, 2773480762, 1359893119, 2600822924, 528734635, 1541459225] 58 = [3227702383, 4241590395, 952932627, 1053056219, 2118385806, 2606665836, 1422599787, 3842906959] := by rw [rnd, abc_r57, abc_w48]; kernel_rfl
theorem abc_r59 : rnd abcP [1779033703, 3144134277, 1013904242, 2773480762, 1359893119, 2600822924, 528734635, 1541459225] 59 = [4290184306, 3227702383, 4241590395, 952932627, 1837350854, 2118385806, 2606665836, 1422599787] := by rw [rnd, abc_r58, abc_w48]; kernel_rfl
theorem abc_r60 : rnd abcP [1779033703, 3144134277, 1013904242, 2773480762, 1359893119, 2600822924, 528734635, 1541459225] 60 = [3064893439, 4290184306, 3227702383, 4241590395, 2988158269, 1837350854, 2118385806, 2606665836] := by rw [rnd, abc_r59, abc_w48]; kernel_rfl
theorem abc_r61 : rnd abcP [1779033703, 3144134277, 1013904242, 2773480762, 1359893119, 2600822924, 528734635, 1541459225] 61 = [3093179625, 3064893439, 4290184306, 3227702383, 2518632596, 2988158269, 1837350854, 2118385806] := by rw [rnd, abc_r60, abc_w48]; kernel_rfl
theorem abc_r62 : rnd abcP [1779033703, 3144134277, 1013904242, 2773480762, 1359893119, 2600822924, 528734635, 1541459225] 62 = [80891244, 3093179625, 3064893439, 4290184306, 2492278198, 2518632596, 2988158269, 1837350854] := by rw [rnd, abc_r61, abc_w48]; kernel_rfl
theorem abc_r63 : rnd abcP [1779033703, 3144134277, 1013904242, 2773480762, 1359893119, 2600822924, 528734635, 1541459225] 63 = [3550093669, 80891244, 3093179625, 3064893439, 4212265488, 2492278198, 2518632596, 2988158269] := by rw [rnd, abc_r62, abc_w48]; kernel_rfl
theorem abc_r64 : rnd abcP [1779033703, 3144134277, 1013904242, 2773480762, 1359893119, 2600822924, 528734635, 1541459225] 64 = [1349398616, 3550093669, 80891244, 3093179625, 1593118500, 4212265488, 2492278198, 2518632596] := by rw [rnd, abc_r63, abc_w48]; kernel_rfl
theorem abc_b : bhd abcP [1779033703, 3144134277, 1013904242, 2773480762, 1359893119, 2600822924, 528734635, 1541459225] = [3128432319, 2399260650, 1094795486, 1571693091, 2953011619, 2518121116, 3021012833, 4060091821] := by rw [bhd, abc_r64]; kernel_rfl
end Go.Sy
