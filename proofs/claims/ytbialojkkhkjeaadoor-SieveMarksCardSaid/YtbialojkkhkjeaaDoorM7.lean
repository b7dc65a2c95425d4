/- Digests: Sum. (and what stands on it) -/
import Derived.Test.YtbialojkkhkjeaaDoorM6

/-! Digests: Sum. -/
namespace Go.Proofs.YtbialojkkhkjeaaDoor
open Go.Sy
/-- The round over a text's blocks. -/
noncomputable def cd17 : Array Tmp × Code × Code := ((Tryd.f30.body).bind rfOf).getD (#[], .skip, .skip)

theorem min_i64 (P : Program) (ty : TypeId) (ats : Array TypeId) (a b : Int) : pureOf P (Builtin.min_ ats ty #[.int .i64 a, .int .i64 b]) = some (.int .i64 (min a b)) := by
  simp [Builtin.min_, Builtin.min2]
  show some (Value.int IntKind.i64 (if b < a then b else a)) = _
  by_cases h : b < a
  · rw [if_pos h, Int.min_eq_right (by omega)]
  · rw [if_neg h, Int.min_eq_left (by omega)]

set_option maxRecDepth 100000 in
set_option maxHeartbeats 8000000 in
theorem chunks_fn (nl : Bool) (b S : List Int) (q : Nat) (hb : b.length = 64 * q) (hq : q ≤ 1000000) (hS : S.length = 8) :
    Fc Tryd.prog 53 [.yl 100000, .ptr 100001 0, .ptr 100002 0] [(100000, .loop [(5, .ptr 100003 0)] 73 cd17 .ready none), (100001, .cells [.sl .imm nl 1 (u8s b)]), (100002, .cells [.lit (.int .i64 64)]), (100003, .cells (sv S))] (.tup [])
      [(100000, .loop [(5, .ptr 100003 0)] 73 cd17 .ready none), (100001, .cells [.sl .imm nl 1 (u8s b)]), (100002, .cells [.lit (.int .i64 64)]), (100003, .cells (sv (absB S b).1))] := by
  refine Fc.of (anys _ []) sch53 mixed Tryd.func53 rfl (by rfl) (by simp [Tryd.ntmps53]) (by decide) ?_
  simp -implicitDefEqProofs -dsimp [Tryd.ntmps53]
  refine LpK.mk (anys _ []) mixed (fun ((k, T) : Nat × List Int) => k ≤ q ∧ T.length = 8 ∧ absB S b = absB T (b.drop (64 * k)))
    (fun ((k, T) : Nat × List Int) => ⟨[(0, .yl 100000), (1, .ptr 100001 0), (2, .ptr 100002 0), (4, .lit (.int .i64 (64 * k)))],
      [(100000, .loop [(5, .ptr 100003 0)] 73 cd17 .ready none), (100001, .cells [.sl .imm nl 1 (u8s b)]), (100002, .cells [.lit (.int .i64 64)]), (100003, .cells (sv T))], 31⟩)
    (fun (k, _) => q - k) (0, S) ⟨by simp, hS, by simp⟩ (by simp -implicitDefEqProofs -dsimp) ?_
  rintro ⟨k, T⟩ ⟨hk, hT, he⟩
  by_cases hlt : k < q
  · have h1 : 64 * (k : Int) < b.length := by omega
    have h2 : (0 : Int) ≤ 64 * (k : Int) ∧ 64 * (k : Int) ≤ b.length := by omega
    have h3 : (64 * (k : Int)).toNat = 64 * k := by omega
    have h4 : min (64 : Int) ((b.length - 64 * k : Nat) : Int) = 64 := by omega
    have h5 : IntKind.i64.wrap (64 * (k : Int) + 64) = 64 * (k : Int) + 64 := wrap64 (by omega) (by omega)
    have h6 : (64 * (k : Int) + 64).toNat = 64 * k + 64 := by omega
    have h7 : 64 * (k : Int) + 64 ≤ b.length := by omega
    have h8 : 64 * (k : Int) ≤ 64 * (k : Int) + 64 := by omega
    simp -implicitDefEqProofs -dsimp [h1, h2, h3, h4, h5, h6, h7, h8, litL, min_i64]
    obtain ⟨p, hp⟩ : ∃ p, p = List.drop (64 * k) (List.take (64 * k + 64) b) := ⟨_, rfl⟩
    have hp2 : p = (b.drop (64 * k)).take 64 := by rw [hp, List.drop_take]; congr 1; omega
    have hpl : p.length = 64 := by rw [hp2]; simp; omega
    rw [← hp]
    refine YlK.mk (anys _ [42]) [] mixed 99999 rfl rfl (by rfl) rfl (by decide) rfl ?_
    intro r vals
    simp -implicitDefEqProofs -dsimp
    refine CallK.reads ?_
    simp -implicitDefEqProofs -dsimp
    refine CallQ.same (behind_fn2 nl p T hpl hT) rfl ?_
    simp -implicitDefEqProofs -dsimp [h5]
    have ha : absB T (b.drop (64 * k)) = absB (bhd p T) (b.drop (64 * (k + 1))) := by
      rw [absB, if_pos (by simp; omega), hp2, List.drop_drop]; rfl
    have h10 : 64 * ((k : Int) + 1) = 64 * (k : Int) + 64 := by omega
    exact .mk (k + 1, bhd p T) ⟨by omega, bhd_length hT, he.trans ha⟩ (by show q - (k + 1) < q - k; omega) (by simp -implicitDefEqProofs -dsimp [h10])
  · have e : k = q := by omega
    subst e
    have h1 : ¬ 64 * (k : Int) < b.length := by omega
    rw [List.drop_eq_nil_of_le (by omega), show absB T [] = (T, []) by rw [absB, if_neg (by simp)]] at he
    simp -implicitDefEqProofs -dsimp [h1, he]
end Go.Proofs.YtbialojkkhkjeaaDoor

/-! Digests: Sum, to its rounds. -/
namespace Go.Sy
@[simp] theorem ints_snoc (k : IntKind) (xs : List Int) (v : Int) : ints k xs ++ [PV.lit (.int k v)] = ints k (xs ++ [v]) := by simp [ints]
/-- How many bytes, in eight. -/
def lenB (m : Int) (n : Nat) : List Int := (List.range n).map fun (i : Nat) => IntKind.u8.wrap (ishr .u64 (IntKind.u64.wrap (m * 8)) (8 * (7 - (i : Int))))
theorem lenB_succ (m : Int) (n : Nat) : lenB m (n + 1) = lenB m n ++ [IntKind.u8.wrap (ishr .u64 (IntKind.u64.wrap (m * 8)) (8 * (7 - (n : Int))))] := by simp [lenB, List.range_succ]
@[simp] theorem lenB_length (m : Int) (n : Nat) : (lenB m n).length = n := by simp [lenB]
/-- So many zeros are wanting. -/
def wantZ (r : List Int) : Nat := (119 - r.length) % 64
def padB (r : List Int) (m : Int) : List Int := r ++ 128 :: (zer (wantZ r) ++ lenB m 8)
theorem zer_succ (n : Nat) : zer (n + 1) = zer n ++ [0] := by simp [zer, List.replicate_succ']
/-- A number's four bytes. -/
def byt (x : Int) : List Int := [IntKind.u8.wrap (ishr .u32 x 24), IntKind.u8.wrap (ishr .u32 x 16), IntKind.u8.wrap (ishr .u32 x 8), IntKind.u8.wrap x]
def outB (T : List Int) : List Int := T.flatMap byt
theorem outB_length (T : List Int) : (outB T).length = 4 * T.length := by
  induction T with
  | nil => rfl
  | cons x T ih =>
    have : outB (x :: T) = byt x ++ outB T := rfl
    rw [this, List.length_append, ih, List.length_cons, show (byt x).length = 4 from rfl]; omega
theorem wrap8_in (x : Int) : 0 ≤ IntKind.u8.wrap x ∧ IntKind.u8.wrap x < 256 := by
  simp [IntKind.wrap, IntKind.signed, IntKind.bits]; omega
theorem outB_in (T : List Int) : InB (outB T) := by
  intro y hy
  simp only [outB, List.mem_flatMap, byt, List.mem_cons, List.not_mem_nil, or_false] at hy
  obtain ⟨x, _, rfl | rfl | rfl | rfl⟩ := hy <;> exact wrap8_in _
@[simp] theorem ints_four (k : IntKind) (xs : List Int) (a b c d : Int) : ints k xs ++ [PV.lit (.int k a), PV.lit (.int k b), PV.lit (.int k c), PV.lit (.int k d)] = ints k (xs ++ [a, b, c, d]) := by simp [ints]
/-- What Sum tells. -/
def dig (S r : List Int) (m : Int) : ByteArray := ofBs (outB (absB S (padB r m)).1)
end Go.Sy
namespace Go.Proofs.YtbialojkkhkjeaaDoor
open Go.Sy

set_option maxRecDepth 100000 in
set_option maxHeartbeats 8000000 in
theorem chunk_fn (nl : Bool) (b : List Int) :
    Fc Tryd.prog 45 [.sl .imm nl 1 (u8s b), .lit (.int .i64 64)] [] (.fn (.func 53) [] [.ptr 2 0, .ptr 3 0]) [(3, .cells [.lit (.int .i64 64)]), (2, .cells [.sl .imm nl 1 (u8s b)])] := by
  refine Fc.of (anys _ []) [] mixed Tryd.func45 rfl (by rfl) (by simp [Tryd.ntmps45]) (by decide) ?_
  simp -implicitDefEqProofs -dsimp [Tryd.ntmps45]

set_option maxRecDepth 100000 in
set_option maxHeartbeats 8000000 in
theorem sum_fn (S r : List Int) (m : Int) (nl : Bool) (hn : nl = true → r = []) (hS : S.length = 8) (hr : r.length < 64) :
    Fc Tryd.prog 30 [.ptr 100000 0] [(100000, .cells (sv S ++ [.sl (.own (.cell 100000 8)) nl 1 (u8s r), .lit (.int .u64 m)]))] (.lit (.string (dig S r m)))
      [(100000, .cells (sv S ++ [.sl (.own (.cell 100000 8)) nl 1 (u8s r), .lit (.int .u64 m)]))] := by
  refine Fc.of (anys _ [43, 45, 53]) [] mixed Tryd.func30 rfl (by rfl) (by simp [Tryd.ntmps30]) (by decide) ?_
  have hr1 : r.length + 1 ≤ 140737488355328 := by omega
  simp -implicitDefEqProofs -dsimp [Tryd.ntmps30]
  refine CallK.fresh ?_
  simp -implicitDefEqProofs -dsimp
  refine CallQ.same (clone_fn nl r hn (by omega)) rfl ?_
  simp -implicitDefEqProofs -dsimp [fr_u8s, hr1]
  obtain ⟨z, hz⟩ : ∃ z, z = wantZ r := ⟨_, rfl⟩
  have hzz : z = (119 - r.length) % 64 := hz
  refine LpK.mk (anys _ [43, 45, 53]) mixed (fun j : Nat => j ≤ z)
    (fun j => ⟨[(0, .ptr 100000 0), (3, .sl (.own (.loc 1140)) false 1 (u8s (r ++ 128 :: zer j)))], [(100000, .cells (sv S ++ [.sl (.own (.cell 100000 8)) nl 1 (u8s r), .lit (.int .u64 m)]))], 73⟩)
    (fun j => z - j) 0 (by simp) (by simp -implicitDefEqProofs -dsimp [zer]) ?_
  intro j hj
  have hlen : ((r ++ 128 :: zer j).length : Int) = r.length + (j + 1) := by simp
  have hw : IntKind.i64.wrap ((r.length : Int) + ((j : Int) + 1) + 8) = (r.length : Int) + ((j : Int) + 1) + 8 := wrap64 (by omega) (by omega)
  have ht : ((r.length : Int) + ((j : Int) + 1) + 8).tmod 64 = ((r.length : Int) + ((j : Int) + 1) + 8) % 64 := Int.tmod_eq_emod_of_nonneg (by omega)
  by_cases hlt : j < z
  · have hm : ¬ ((r.length : Int) + ((j : Int) + 1) + 8) % 64 = 0 := by omega
    have l1 : r.length + (j + 1) + 1 ≤ 140737488355328 := by omega
    simp -implicitDefEqProofs -dsimp [hw, ht, hm, l1]
    exact .mk (j + 1) hlt (by omega) (by simp -implicitDefEqProofs -dsimp [zer_succ])
  · have e : j = z := by omega
    subst e
    have hm : ((r.length : Int) + ((j : Int) + 1) + 8) % 64 = 0 := by omega
    simp -implicitDefEqProofs -dsimp [hw, ht, hm]
    refine LpK.mk (anys _ [43, 45, 53]) mixed (fun n : Nat => n ≤ 8)
      (fun n => ⟨[(0, .ptr 100000 0), (3, .sl (.own (.loc 1140)) false 1 (u8s (r ++ 128 :: (zer j ++ lenB m n)))), (4, .lit (.int .i64 (7 - (n : Int))))], [(100000, .cells (sv S ++ [.sl (.own (.cell 100000 8)) nl 1 (u8s r), .lit (.int .u64 m)]))], 73⟩)
      (fun n => 8 - n) 0 (by simp) (by simp -implicitDefEqProofs -dsimp [lenB]) ?_
    intro n hn8
    by_cases hlt : n < 8
    · have a1 : (0 : Int) ≤ 7 - (n : Int) := by omega
      have a2 : IntKind.i64.wrap (8 * (7 - (n : Int))) = 8 * (7 - (n : Int)) := wrap64 (by omega) (by omega)
      have a3 : (0 : Int) ≤ 8 * (7 - (n : Int)) := by omega
      have a4 : IntKind.i64.wrap (7 - (n : Int) - 1) = 7 - ((n : Int) + 1) := by rw [wrap64 (by omega) (by omega)]; omega
      have l1 : r.length + (j + n + 1) + 1 ≤ 140737488355328 := by omega
      simp -implicitDefEqProofs -dsimp
      refine Cnd.mk (fun _ => ?_) (fun h => absurd a1 (by simpa using h))
      simp -implicitDefEqProofs -dsimp [a2, a3, a4, l1]
      exact .mk (n + 1) hlt (by omega) (by simp -implicitDefEqProofs -dsimp [lenB_succ])
    · have e : n = 8 := by omega
      subst e
      simp -implicitDefEqProofs -dsimp
      obtain ⟨B, hB⟩ : ∃ B, B = r ++ 128 :: (zer j ++ lenB m 8) := ⟨_, rfl⟩
      have hBl : B.length = 64 * ((r.length + 9 + j) / 64) := by rw [hB]; simp; omega
      rw [← hB]
      refine CallK.works ?_
      simp -implicitDefEqProofs -dsimp
      refine CallQ.mk (chunk_fn false B) (by simp) ?_
      simp -implicitDefEqProofs -dsimp
      refine RfK.mk 99998 cd17 [(5, .ptr 5 0)] rfl rfl (by decide) (by simp -implicitDefEqProofs -dsimp) ?_
      simp -implicitDefEqProofs -dsimp
      refine CallK.works ?_
      simp -implicitDefEqProofs -dsimp
      refine CallQ.mk (chunks_fn false B S ((r.length + 9 + j) / 64) hBl (by omega) hS) (by simp) ?_
      simp -implicitDefEqProofs -dsimp
      have hBr : B = padB r m := by rw [hB, padB, hz]
      obtain ⟨T, hT⟩ : ∃ T, T = (absB S B).1 := ⟨_, rfl⟩
      have hTl : T.length = 8 := by rw [hT]; exact absB_length hS
      have hTs := sv_ints hTl
      simp only [sv] at hTs
      rw [← hT]
      refine LpK.mk (anys _ [43, 45, 53]) mixed (fun n : Nat => n ≤ 8)
        (fun n => ⟨[(7, .sl (.own (.loc 51)) false 1 (u8s (outB (T.take n)))), (52, .agg (ints .u32 T)), (53, .lit (.int .i64 n))], [(100000, .cells (sv S ++ [.sl (.own (.cell 100000 8)) nl 1 (u8s r), .lit (.int .u64 m)]))], 73⟩)
        (fun n => 8 - n) 0 (by simp) (by simp -implicitDefEqProofs -dsimp [outB, hTs]) ?_
      intro n hn8
      by_cases hlt : n < 8
      · have a1 : (n : Int) < 8 := by omega
        have g1 := getD_get (l := T) (i := n) (by omega)
        have ho : outB (T.take (n + 1)) = outB (T.take n) ++ byt (T.getD n 0) := by
          unfold outB
          rw [List.take_add_one, g1]; simp
        generalize T.getD n 0 = x at *
        have hol : (outB (T.take n)).length + 4 ≤ 140737488355328 := by rw [outB_length]; simp; omega
        have a4 : IntKind.i64.wrap ((n : Int) + 1) = (n : Int) + 1 := wrap64 (by omega) (by omega)
        simp -implicitDefEqProofs -dsimp [a1, g1, indexPV, hol, a4]
        exact .mk (n + 1) hlt (by omega) (by simp -implicitDefEqProofs -dsimp [ho, byt])
      · have e : n = 8 := by omega
        subst e
        have hTt : T.take 8 = T := List.take_of_length_le (by omega)
        have hin := outB_in T
        have hd : dig S r m = ofBs (outB T) := by rw [dig, hT, hBr]
        simp -implicitDefEqProofs -dsimp [hTt, hin, hd]
end Go.Proofs.YtbialojkkhkjeaaDoor

/-! Digests: Of. -/
namespace Go.Sy
theorem absB_rest {S l : List Int} : (absB S l).2.length < 64 := by
  unfold absB
  split
  · exact absB_rest
  · simp; omega
termination_by l.length
decreasing_by simp; omega
end Go.Sy
namespace Go.Proofs.YtbialojkkhkjeaaDoor
open Go.Sy

/-- A text's digest. -/
def digOf (b : List Int) : ByteArray := dig (absB st0 b).1 (absB st0 b).2 b.length
end Go.Proofs.YtbialojkkhkjeaaDoor

/-! The wire: numbers and texts as bytes. -/
namespace Go.Proofs.YtbialojkkhkjeaaDoor
open Go.Sy

set_option maxRecDepth 100000 in
set_option maxHeartbeats 1000000 in
theorem num_fn (nl : Bool) (b : List Int) (n : Nat) (hn : nl = true → b = []) (hb : b.length ≤ 10000000) (h : n < 18446744073709551616) :
    Fc Tryd.prog 44 [.sl .imm nl 1 (u8s b), .lit (.int .u64 n)] [] (.sl (.own (.loc 1070)) false 1 (u8s (b ++ enc n))) [] := by
  refine Fc.of (anys _ [43]) [] mixed Tryd.func44 rfl (by rfl) (by simp [Tryd.ntmps44]) (by decide) ?_
  simp -implicitDefEqProofs -dsimp [Tryd.ntmps44]
  refine CallK.fresh ?_
  simp -implicitDefEqProofs -dsimp
  refine CallQ.same (clone_fn nl b hn (by omega)) rfl ?_
  simp -implicitDefEqProofs -dsimp [fr_u8s]
  refine LpK.mk (anys _ []) mixed (fun (m, n', l) => m < 18446744073709551616 ∧ l ++ enc m = b ++ enc n ∧ l.length + (enc m).length = b.length + (enc n).length)
    (fun ((m, n', l) : Nat × Bool × List Int) => ⟨[(1, .lit (.int .u64 m)), (5, .sl (.own (.loc 1070)) n' 1 (u8s l))], [], 23⟩) (fun (m, _) => m) (n, nl, b) ⟨h, rfl, rfl⟩ (by simp -implicitDefEqProofs -dsimp) ?_
  rintro ⟨m, n', l⟩ ⟨hm, he, hlen⟩
  have hle := enc_u64 h
  have ht : l.length + 1 ≤ 140737488355328 := by omega
  have hc : IntKind.u8.wrap (m : Int) = (m : Int) % 256 := wrap_is_u8 _
  by_cases h1 : 128 ≤ (m : Int)
  · have h2 : ior .u8 ((m : Int) % 256) 128 = (m : Int) % 128 + 128 := by rw [ior_128 (by omega) (by omega)]; omega
    have h3 : ishr .u64 (m : Int) 7 = ((m / 128 : Nat) : Int) := by rw [ishr_7]; omega
    simp -implicitDefEqProofs -dsimp [h1, hc, h2, h3, ht]
    have e1 : enc m = ((m % 128 + 128 : Nat) : Int) :: enc (m / 128) := enc_ge (by omega)
    refine .mk (m / 128, false, l ++ [(m : Int) % 128 + 128]) ⟨by omega, ?_, ?_⟩ (by simp; omega) (by simp -implicitDefEqProofs -dsimp [ints])
    · rw [← he, e1]; simp
    · rw [← hlen, e1]; simp; omega
  · have h2 : (m : Int) % 256 = m := by omega
    have e1 : enc m = [(m : Int)] := enc_lt (by omega)
    have e2 : u8s l ++ [PV.lit (.int .u8 (m : Int))] = u8s (b ++ enc n) := by rw [← he, e1]; simp [ints]
    simp -implicitDefEqProofs -dsimp [h1, hc, h2, ht, e2]

theorem num_fn' (nl : Bool) (b : List Int) (n : Int) (hn : nl = true → b = []) (hb : b.length ≤ 10000000) (h0 : 0 ≤ n) (h : n < 18446744073709551616) :
    Fc Tryd.prog 44 [.sl .imm nl 1 (u8s b), .lit (.int .u64 n)] [] (.sl (.own (.loc 1070)) false 1 (u8s (b ++ enc n.toNat))) [] := by
  have := num_fn nl b n.toNat hn hb (by omega)
  rwa [show ((n.toNat : Nat) : Int) = n by omega] at this

set_option maxRecDepth 100000 in
set_option maxHeartbeats 1000000 in
theorem rnum_fn (nl : Bool) (b : List Int) (n : Nat) (hb : b.length ≤ 10000000) (h : n < 18446744073709551616) :
    Fc Tryd.prog 48 [.sl .imm nl 1 (u8s b), .lit (.int .u64 n)] [] (.sl (.own (.loc 6)) false 1 (u8s (b ++ enc n))) [] := by
  refine Fc.of (anys _ []) [] mixed Tryd.func48 rfl (by rfl) (by simp [Tryd.ntmps48]) (by decide) ?_
  have hb1 : b.length ≤ 140737488355328 := by omega
  simp -implicitDefEqProofs -dsimp [Tryd.ntmps48, hb1]
  refine LpK.mk (anys _ []) mixed (fun (m, l) => m < 18446744073709551616 ∧ l ++ enc m = b ++ enc n ∧ l.length + (enc m).length = b.length + (enc n).length)
    (fun ((m, l) : Nat × List Int) => ⟨[(1, .lit (.int .u64 m)), (5, .sl (.own (.loc 6)) false 1 (u8s l))], [], 25⟩) (fun (m, _) => m) (n, b) ⟨h, rfl, rfl⟩ (by simp -implicitDefEqProofs -dsimp) ?_
  rintro ⟨m, l⟩ ⟨hm, he, hlen⟩
  have hle := enc_u64 h
  have ht : l.length + 1 ≤ 140737488355328 := by omega
  have hc : IntKind.u8.wrap (m : Int) = (m : Int) % 256 := wrap_is_u8 _
  by_cases h1 : 127 < (m : Int)
  · have h3 : (m : Int).tmod 128 = (m : Int) % 128 := Int.tmod_eq_emod_of_nonneg (by omega)
    have h4 : IntKind.u64.wrap (128 + (m : Int) % 128) = 128 + (m : Int) % 128 := by rw [wrap_is_u64]; omega
    have h5 : IntKind.u8.wrap (128 + (m : Int) % 128) = 128 + (m : Int) % 128 := by rw [wrap_is_u8]; omega
    have h6 : iquo .u64 (m : Int) 128 = (m : Int) / 128 := by
      unfold iquo
      rw [wrap_is_u64, Int.tdiv_eq_ediv_of_nonneg (by omega)]; omega
    simp -implicitDefEqProofs -dsimp [h1, h3, h4, h5, h6, ht]
    have e1 : enc m = ((m % 128 + 128 : Nat) : Int) :: enc (m / 128) := enc_ge (by omega)
    refine .mk (m / 128, l ++ [128 + (m : Int) % 128]) ⟨by omega, ?_, ?_⟩ (by simp; omega) (by simp -implicitDefEqProofs -dsimp [ints])
    · rw [← he, e1]; simp; omega
    · rw [← hlen, e1]; simp; omega
  · have h2 : (m : Int) % 256 = m := by omega
    have e1 : enc m = [(m : Int)] := enc_lt (by omega)
    have e2 : u8s l ++ [PV.lit (.int .u8 (m : Int))] = u8s (b ++ enc n) := by rw [← he, e1]; simp [ints]
    simp -implicitDefEqProofs -dsimp [h1, hc, h2, ht, e2]

set_option maxRecDepth 100000 in
set_option maxHeartbeats 1000000 in
theorem text_fn (nl n2 : Bool) (b x : List Int) (hn : nl = true → b = []) (hb : b.length ≤ 10000000) (hx : x.length ≤ 10000000) :
    Fc Tryd.prog 29 [.sl .imm nl 1 (u8s b), .sl .imm n2 1 (u8s x)] [] (.sl (.own (.loc 1090)) false 1 (u8s (b ++ enc x.length ++ x))) [] := by
  have hw : IntKind.u64.wrap (x.length : Int) = x.length := by rw [wrap_is_u64]; omega
  have hle := enc_u64 (n := x.length) (by omega)
  have ht : b.length + (enc x.length).length + x.length ≤ 140737488355328 := by omega
  have ht2 : b.length + ((enc x.length).length + x.length) ≤ 140737488355328 := by omega
  refine Fc.of (anys _ [44]) [] mixed Tryd.func29 rfl (by rfl) (by simp [Tryd.ntmps29]) (by decide) ?_
  simp -implicitDefEqProofs -dsimp [Tryd.ntmps29, hw]
  refine CallK.fresh ?_
  simp -implicitDefEqProofs -dsimp
  refine CallQ.same (num_fn nl b x.length hn hb (by omega)) rfl ?_
  simp -implicitDefEqProofs -dsimp [fr_u8s, ht, ht2]

set_option maxRecDepth 100000 in
set_option maxHeartbeats 1000000 in
theorem rtext_fn (nl n2 : Bool) (b x : List Int) (hb : b.length ≤ 10000000) (hx : x.length ≤ 10000000) :
    Fc Tryd.prog 35 [.sl .imm nl 1 (u8s b), .sl .imm n2 1 (u8s x)] [] (.sl (.own (.loc 1090)) false 1 (u8s (b ++ enc x.length ++ x))) [] := by
  have hw : IntKind.u64.wrap (x.length : Int) = x.length := by rw [wrap_is_u64]; omega
  have hle := enc_u64 (n := x.length) (by omega)
  have ht : b.length + (enc x.length).length + x.length ≤ 140737488355328 := by omega
  have ht2 : b.length + ((enc x.length).length + x.length) ≤ 140737488355328 := by omega
  refine Fc.of (anys _ [48]) [] mixed Tryd.func35 rfl (by rfl) (by simp [Tryd.ntmps35]) (by decide) ?_
  simp -implicitDefEqProofs -dsimp [Tryd.ntmps35, hw]
  refine CallK.fresh ?_
  simp -implicitDefEqProofs -dsimp
  refine CallQ.same (rnum_fn nl b x.length hb (by omega)) rfl ?_
  simp -implicitDefEqProofs -dsimp [fr_u8s, ht, ht2]
end Go.Proofs.YtbialojkkhkjeaaDoor

/-! Digests: written in parts. -/
namespace Go.Sy
theorem absB_append (p x : List Int) (S : List Int) : absB S (p ++ x) = absB (absB S p).1 ((absB S p).2 ++ x) := by
  by_cases h : 64 ≤ p.length
  · have e1 : absB S p = absB (bhd (p.take 64) S) (p.drop 64) := by rw [absB, if_pos h]
    have e2 : absB S (p ++ x) = absB (bhd (p.take 64) S) (p.drop 64 ++ x) := by
      rw [absB, if_pos (by simp; omega), List.take_append_of_le_length h, List.drop_append_of_le_length h]
    rw [e1, e2]
    exact absB_append (p.drop 64) x _
  · have e1 : absB S p = (S, p) := by rw [absB, if_neg h]
    rw [e1]
termination_by p.length
decreasing_by simp; omega
end Go.Sy
namespace Go.Proofs.YtbialojkkhkjeaaDoor
open Go.Sy
/-- Is nothing left over? -/
def nz (p x : List Int) : Bool := decide ((absB st0 p).2 ++ x = [])
theorem nz_rest {p x y : List Int} (hy : p ++ x = y) (h : nz p x = true) : (absB st0 y).2 = [] := by
  have h1 : (absB st0 p).2 ++ x = [] := by simpa [nz] using h
  rw [← hy, absB_append, h1, absB, if_neg (by simp)]

theorem write_law (p x y : List Int) (m m' : Int) (nl n2 : Bool) (hy : p ++ x = y) (hm : m = p.length) (hm' : m' = y.length) (hl : y.length ≤ 1000000) :
    Fc Tryd.prog 28 [.ptr 100000 0, .sl .imm n2 1 (u8s x)] [(100000, .cells (sv (absB st0 p).1 ++ [.sl (.own (.cell 100000 8)) nl 1 (u8s (absB st0 p).2), .lit (.int .u64 m)]))] (.tup [])
      [(100000, .cells (sv (absB st0 y).1 ++ [.sl (.own (.cell 100000 8)) (nz p x) 1 (u8s (absB st0 y).2), .lit (.int .u64 m')]))] := by
  have hS := absB_length (S := st0) (l := p) rfl
  have hyl : y.length = p.length + x.length := by rw [← hy]; simp
  have hw : IntKind.u64.wrap (m + x.length) = m' := by rw [wrap_is_u64]; omega
  have ha : absB st0 y = absB (absB st0 p).1 ((absB st0 p).2 ++ x) := by rw [← hy, absB_append]
  by_cases h : (absB st0 p).2 ++ x = []
  · have h2 := List.append_eq_nil_iff.1 h
    have hz : nz p x = true := by simp [nz, h]
    have hb : absB st0 y = ((absB st0 p).1, []) := by rw [ha, h, absB, if_neg (by simp)]
    have := write0_fn (absB st0 p).1 m nl n2 hS
    rw [hz, hb, h2.1, h2.2]
    rw [h2.2] at hw
    simp only [List.length_nil, Int.ofNat_zero, Int.natCast_zero] at hw
    rwa [hw] at this
  · have hz : nz p x = false := by simp [nz] at h ⊢; exact h
    have hr : (absB st0 p).2.length < 64 := absB_rest
    have h3 : 0 < (absB st0 p).2.length + x.length := by
      have := List.length_pos_iff.2 h
      simpa using this
    have := write_fn (absB st0 p).1 (absB st0 p).2 x m nl n2 hS h3 (by omega)
    rw [hz, ha]
    rwa [hw] at this
theorem sum_law (p : List Int) (m : Int) (nl : Bool) (hn : nl = true → (absB st0 p).2 = []) (hm : m = p.length) :
    Fc Tryd.prog 30 [.ptr 100000 0] [(100000, .cells (sv (absB st0 p).1 ++ [.sl (.own (.cell 100000 8)) nl 1 (u8s (absB st0 p).2), .lit (.int .u64 m)]))] (.lit (.string (digOf p)))
      [(100000, .cells (sv (absB st0 p).1 ++ [.sl (.own (.cell 100000 8)) nl 1 (u8s (absB st0 p).2), .lit (.int .u64 m)]))] := by
  have := sum_fn (absB st0 p).1 (absB st0 p).2 m nl hn (absB_length rfl) absB_rest
  rw [digOf, ← hm]; exact this
end Go.Proofs.YtbialojkkhkjeaaDoor
