/- Digests: Sum. (and what stands on it) -/
import Derived.Test.YtdbdoilfimiihaaDoorN6
import Derived.Test.YtdbdoilfimiihaaDoorChecked
import Derived.Lib.Strings
import Derived.Lib.Slices
import Derived.Lib.Walk
import Derived.Lib.Bytealg
import Derived.Shelf.Strings.Builder1
import Derived.Shelf.Lay
import Derived.Shelf.LaySoft
set_option linter.unusedSimpArgs false
set_option linter.unusedVariables false

/-! Digests: Sum. -/
namespace Go.Proofs.YtdbdoilfimiihaaDoor
open Go.Sy
/-- The round over a text's blocks. -/
noncomputable def cd17 : Array Tmp × Code × Code := ((Tryd.f7.body).bind rfOf).getD (#[], .skip, .skip)

theorem min_i64 (P : Program) (ty : TypeId) (ats : Array TypeId) (a b : Int) : pureOf P (Builtin.min_ ats ty #[.int .i64 a, .int .i64 b]) = some (.int .i64 (min a b)) := by
  simp [Builtin.min_, Builtin.min2]
  show some (Value.int IntKind.i64 (if b < a then b else a)) = _
  by_cases h : b < a
  · rw [if_pos h, Int.min_eq_right (by omega)]
  · rw [if_neg h, Int.min_eq_left (by omega)]

set_option maxRecDepth 100000 in
set_option maxHeartbeats 8000000 in
theorem chunks_fn (nl : Bool) (b S : List Int) (q : Nat) (hb : b.length = 64 * q) (hq : q ≤ 1000000) (hS : S.length = 8) :
    Fc Tryd.prog 22 [.yl 100000, .ptr 100001 0, .ptr 100002 0] [(100000, .loop [(5, .ptr 100003 0)] 73 cd17 .ready none), (100001, .cells [.sl .imm nl 1 (u8s b)]), (100002, .cells [.lit (.int .i64 64)]), (100003, .cells (sv S))] (.tup [])
      [(100000, .loop [(5, .ptr 100003 0)] 73 cd17 .ready none), (100001, .cells [.sl .imm nl 1 (u8s b)]), (100002, .cells [.lit (.int .i64 64)]), (100003, .cells (sv (absB S b).1))] := by
  refine Fc.of (anys _ []) sch22 mixed Tryd.func22 rfl (by rfl) (by simp [Tryd.ntmps22]) (by decide) ?_
  simp -implicitDefEqProofs -dsimp [Tryd.ntmps22]
  refine LpK.mk (anys _ []) mixed (fun ((k, T) : Nat × List Int) => k ≤ q ∧ T.length = 8 ∧ absB S b = absB T (b.drop (64 * k)))
    (fun ((k, T) : Nat × List Int) => ⟨[(0, .yl 100000), (1, .ptr 100001 0), (2, .ptr 100002 0), (4, .lit (.int .i64 (64 * k)))],
      [(100000, .loop [(5, .ptr 100003 0)] 73 cd17 .ready none), (100001, .cells [.sl .imm nl 1 (u8s b)]), (100002, .cells [.lit (.int .i64 64)]), (100003, .cells (sv T))], 31⟩)
    (fun (k, _) => q - k) (0, S) ⟨by simp, hS, by simp⟩ (by simp -implicitDefEqProofs -dsimp) ?_
  rintro ⟨k, T⟩ ⟨hk, hT, he⟩
  by_cases hlt : k < q
  · have h1 : 64 * (k : Int) < b.length := by omega
    have h2 : (0 : Int) ≤ 64 * (k : Int) ∧ 64 * (k : Int) ≤ b.length := by omega
    have h3 : (64 * (k : Int)).toNat = 64 * k := by omega
    have h4 : min (64 : Int) ((b.length - 64 * k : Nat) : Int) = 64 := by omega
    have h5 : IntKind.i64.wrap (64 * (k : Int) + 64) = 64 * (k : Int) + 64 := wrap64 (by omega) (by omega)
    have h6 : (64 * (k : Int) + 64).toNat = 64 * k + 64 := by omega
    have h7 : 64 * (k : Int) + 64 ≤ b.length := by omega
    have h8 : 64 * (k : Int) ≤ 64 * (k : Int) + 64 := by omega
    simp -implicitDefEqProofs -dsimp [h1, h2, h3, h4, h5, h6, h7, h8, litL, min_i64]
    obtain ⟨p, hp⟩ : ∃ p, p = List.drop (64 * k) (List.take (64 * k + 64) b) := ⟨_, rfl⟩
    have hp2 : p = (b.drop (64 * k)).take 64 := by rw [hp, List.drop_take]; congr 1; omega
    have hpl : p.length = 64 := by rw [hp2]; simp; omega
    rw [← hp]
    refine YlK.mk (anys _ [13]) [] mixed 99999 rfl rfl (by rfl) rfl (by decide) rfl ?_
    intro r vals
    simp -implicitDefEqProofs -dsimp
    refine CallK.reads ?_
    simp -implicitDefEqProofs -dsimp
    refine CallQ.same (behind_fn2 nl p T hpl hT) rfl ?_
    simp -implicitDefEqProofs -dsimp [h5]
    have ha : absB T (b.drop (64 * k)) = absB (bhd p T) (b.drop (64 * (k + 1))) := by
      rw [absB, if_pos (by simp; omega), hp2, List.drop_drop]; rfl
    have h10 : 64 * ((k : Int) + 1) = 64 * (k : Int) + 64 := by omega
    exact .mk (k + 1, bhd p T) ⟨by omega, bhd_length hT, he.trans ha⟩ (by show q - (k + 1) < q - k; omega) (by simp -implicitDefEqProofs -dsimp [h10])
  · have e : k = q := by omega
    subst e
    have h1 : ¬ 64 * (k : Int) < b.length := by omega
    rw [List.drop_eq_nil_of_le (by omega), show absB T [] = (T, []) by rw [absB, if_neg (by simp)]] at he
    simp -implicitDefEqProofs -dsimp [h1, he]
end Go.Proofs.YtdbdoilfimiihaaDoor

/-! Digests: Sum, to its rounds. -/
namespace Go.Sy
@[simp] theorem ints_snoc (k : IntKind) (xs : List Int) (v : Int) : ints k xs ++ [PV.lit (.int k v)] = ints k (xs ++ [v]) := by simp [ints]
/-- How many bytes, in eight. -/
def lenB (m : Int) (n : Nat) : List Int := (List.range n).map fun (i : Nat) => IntKind.u8.wrap (ishr .u64 (IntKind.u64.wrap (m * 8)) (8 * (7 - (i : Int))))
theorem lenB_succ (m : Int) (n : Nat) : lenB m (n + 1) = lenB m n ++ [IntKind.u8.wrap (ishr .u64 (IntKind.u64.wrap (m * 8)) (8 * (7 - (n : Int))))] := by simp [lenB, List.range_succ]
@[simp] theorem lenB_length (m : Int) (n : Nat) : (lenB m n).length = n := by simp [lenB]
/-- So many zeros are wanting. -/
def wantZ (r : List Int) : Nat := (119 - r.length) % 64
def padB (r : List Int) (m : Int) : List Int := r ++ 128 :: (zer (wantZ r) ++ lenB m 8)
theorem zer_succ (n : Nat) : zer (n + 1) = zer n ++ [0] := by simp [zer, List.replicate_succ']
/-- A number's four bytes. -/
def byt (x : Int) : List Int := [IntKind.u8.wrap (ishr .u32 x 24), IntKind.u8.wrap (ishr .u32 x 16), IntKind.u8.wrap (ishr .u32 x 8), IntKind.u8.wrap x]
def outB (T : List Int) : List Int := T.flatMap byt
theorem outB_length (T : List Int) : (outB T).length = 4 * T.length := by
  induction T with
  | nil => rfl
  | cons x T ih =>
    have : outB (x :: T) = byt x ++ outB T := rfl
    rw [this, List.length_append, ih, List.length_cons, show (byt x).length = 4 from rfl]; omega
theorem wrap8_in (x : Int) : 0 ≤ IntKind.u8.wrap x ∧ IntKind.u8.wrap x < 256 := by
  simp [IntKind.wrap, IntKind.signed, IntKind.bits]; omega
theorem outB_in (T : List Int) : InB (outB T) := by
  intro y hy
  simp only [outB, List.mem_flatMap, byt, List.mem_cons, List.not_mem_nil, or_false] at hy
  obtain ⟨x, _, rfl | rfl | rfl | rfl⟩ := hy <;> exact wrap8_in _
@[simp] theorem ints_four (k : IntKind) (xs : List Int) (a b c d : Int) : ints k xs ++ [PV.lit (.int k a), PV.lit (.int k b), PV.lit (.int k c), PV.lit (.int k d)] = ints k (xs ++ [a, b, c, d]) := by simp [ints]
/-- What Sum tells. -/
def dig (S r : List Int) (m : Int) : ByteArray := ofBs (outB (absB S (padB r m)).1)
end Go.Sy
namespace Go.Proofs.YtdbdoilfimiihaaDoor
open Go.Sy

set_option maxRecDepth 100000 in
set_option maxHeartbeats 8000000 in
theorem chunk_fn (nl : Bool) (b : List Int) :
    Fc Tryd.prog 15 [.sl .imm nl 1 (u8s b), .lit (.int .i64 64)] [] (.fn (.func 22) [] [.ptr 2 0, .ptr 3 0]) [(3, .cells [.lit (.int .i64 64)]), (2, .cells [.sl .imm nl 1 (u8s b)])] := by
  refine Fc.of (anys _ []) [] mixed Tryd.func15 rfl (by rfl) (by simp [Tryd.ntmps15]) (by decide) ?_
  simp -implicitDefEqProofs -dsimp [Tryd.ntmps15]

set_option maxRecDepth 100000 in
set_option maxHeartbeats 8000000 in
theorem sum_fn (S r : List Int) (m : Int) (nl : Bool) (hn : nl = true → r = []) (hS : S.length = 8) (hr : r.length < 64) :
    Fc Tryd.prog 7 [.ptr 100000 0] [(100000, .cells (sv S ++ [.sl (.own (.cell 100000 8)) nl 1 (u8s r), .lit (.int .u64 m)]))] (.lit (.string (dig S r m)))
      [(100000, .cells (sv S ++ [.sl (.own (.cell 100000 8)) nl 1 (u8s r), .lit (.int .u64 m)]))] := by
  refine Fc.of (anys _ [14, 15, 22]) [] mixed Tryd.func7 rfl (by rfl) (by simp [Tryd.ntmps7]) (by decide) ?_
  have hr1 : r.length + 1 ≤ 140737488355328 := by omega
  simp -implicitDefEqProofs -dsimp [Tryd.ntmps7]
  refine CallK.fresh ?_
  simp -implicitDefEqProofs -dsimp
  refine CallQ.same (clone_fn nl r hn (by omega)) rfl ?_
  simp -implicitDefEqProofs -dsimp [fr_u8s, hr1]
  obtain ⟨z, hz⟩ : ∃ z, z = wantZ r := ⟨_, rfl⟩
  have hzz : z = (119 - r.length) % 64 := hz
  refine LpK.mk (anys _ [14, 15, 22]) mixed (fun j : Nat => j ≤ z)
    (fun j => ⟨[(0, .ptr 100000 0), (3, .sl (.own (.loc 1140)) false 1 (u8s (r ++ 128 :: zer j)))], [(100000, .cells (sv S ++ [.sl (.own (.cell 100000 8)) nl 1 (u8s r), .lit (.int .u64 m)]))], 73⟩)
    (fun j => z - j) 0 (by simp) (by simp -implicitDefEqProofs -dsimp [zer]) ?_
  intro j hj
  have hlen : ((r ++ 128 :: zer j).length : Int) = r.length + (j + 1) := by simp
  have hw : IntKind.i64.wrap ((r.length : Int) + ((j : Int) + 1) + 8) = (r.length : Int) + ((j : Int) + 1) + 8 := wrap64 (by omega) (by omega)
  have ht : ((r.length : Int) + ((j : Int) + 1) + 8).tmod 64 = ((r.length : Int) + ((j : Int) + 1) + 8) % 64 := Int.tmod_eq_emod_of_nonneg (by omega)
  by_cases hlt : j < z
  · have hm : ¬ ((r.length : Int) + ((j : Int) + 1) + 8) % 64 = 0 := by omega
    have l1 : r.length + (j + 1) + 1 ≤ 140737488355328 := by omega
    simp -implicitDefEqProofs -dsimp [hw, ht, hm, l1]
    exact .mk (j + 1) hlt (by omega) (by simp -implicitDefEqProofs -dsimp [zer_succ])
  · have e : j = z := by omega
    subst e
    have hm : ((r.length : Int) + ((j : Int) + 1) + 8) % 64 = 0 := by omega
    simp -implicitDefEqProofs -dsimp [hw, ht, hm]
    refine LpK.mk (anys _ [14, 15, 22]) mixed (fun n : Nat => n ≤ 8)
      (fun n => ⟨[(0, .ptr 100000 0), (3, .sl (.own (.loc 1140)) false 1 (u8s (r ++ 128 :: (zer j ++ lenB m n)))), (4, .lit (.int .i64 (7 - (n : Int))))], [(100000, .cells (sv S ++ [.sl (.own (.cell 100000 8)) nl 1 (u8s r), .lit (.int .u64 m)]))], 73⟩)
      (fun n => 8 - n) 0 (by simp) (by simp -implicitDefEqProofs -dsimp [lenB]) ?_
    intro n hn8
    by_cases hlt : n < 8
    · have a1 : (0 : Int) ≤ 7 - (n : Int) := by omega
      have a2 : IntKind.i64.wrap (8 * (7 - (n : Int))) = 8 * (7 - (n : Int)) := wrap64 (by omega) (by omega)
      have a3 : (0 : Int) ≤ 8 * (7 - (n : Int)) := by omega
      have a4 : IntKind.i64.wrap (7 - (n : Int) - 1) = 7 - ((n : Int) + 1) := by rw [wrap64 (by omega) (by omega)]; omega
      have l1 : r.length + (j + n + 1) + 1 ≤ 140737488355328 := by omega
      simp -implicitDefEqProofs -dsimp
      refine Cnd.mk (fun _ => ?_) (fun h => absurd a1 (by simpa using h))
      simp -implicitDefEqProofs -dsimp [a2, a3, a4, l1]
      exact .mk (n + 1) hlt (by omega) (by simp -implicitDefEqProofs -dsimp [lenB_succ])
    · have e : n = 8 := by omega
      subst e
      simp -implicitDefEqProofs -dsimp
      obtain ⟨B, hB⟩ : ∃ B, B = r ++ 128 :: (zer j ++ lenB m 8) := ⟨_, rfl⟩
      have hBl : B.length = 64 * ((r.length + 9 + j) / 64) := by rw [hB]; simp; omega
      rw [← hB]
      refine CallK.works ?_
      simp -implicitDefEqProofs -dsimp
      refine CallQ.mk (chunk_fn false B) (by simp) ?_
      simp -implicitDefEqProofs -dsimp
      refine RfK.mk 99998 cd17 [(5, .ptr 5 0)] rfl rfl (by decide) (by simp -implicitDefEqProofs -dsimp) ?_
      simp -implicitDefEqProofs -dsimp
      refine CallK.works ?_
      simp -implicitDefEqProofs -dsimp
      refine CallQ.mk (chunks_fn false B S ((r.length + 9 + j) / 64) hBl (by omega) hS) (by simp) ?_
      simp -implicitDefEqProofs -dsimp
      have hBr : B = padB r m := by rw [hB, padB, hz]
      obtain ⟨T, hT⟩ : ∃ T, T = (absB S B).1 := ⟨_, rfl⟩
      have hTl : T.length = 8 := by rw [hT]; exact absB_length hS
      have hTs := sv_ints hTl
      simp only [sv] at hTs
      rw [← hT]
      refine LpK.mk (anys _ [14, 15, 22]) mixed (fun n : Nat => n ≤ 8)
        (fun n => ⟨[(7, .sl (.own (.loc 51)) false 1 (u8s (outB (T.take n)))), (52, .agg (ints .u32 T)), (53, .lit (.int .i64 n))], [(100000, .cells (sv S ++ [.sl (.own (.cell 100000 8)) nl 1 (u8s r), .lit (.int .u64 m)]))], 73⟩)
        (fun n => 8 - n) 0 (by simp) (by simp -implicitDefEqProofs -dsimp [outB, hTs]) ?_
      intro n hn8
      by_cases hlt : n < 8
      · have a1 : (n : Int) < 8 := by omega
        have g1 := getD_get (l := T) (i := n) (by omega)
        have ho : outB (T.take (n + 1)) = outB (T.take n) ++ byt (T.getD n 0) := by
          unfold outB
          rw [List.take_add_one, g1]; simp
        generalize T.getD n 0 = x at *
        have hol : (outB (T.take n)).length + 4 ≤ 140737488355328 := by rw [outB_length]; simp; omega
        have a4 : IntKind.i64.wrap ((n : Int) + 1) = (n : Int) + 1 := wrap64 (by omega) (by omega)
        simp -implicitDefEqProofs -dsimp [a1, g1, indexPV, hol, a4]
        exact .mk (n + 1) hlt (by omega) (by simp -implicitDefEqProofs -dsimp [ho, byt])
      · have e : n = 8 := by omega
        subst e
        have hTt : T.take 8 = T := List.take_of_length_le (by omega)
        have hin := outB_in T
        have hd : dig S r m = ofBs (outB T) := by rw [dig, hT, hBr]
        simp -implicitDefEqProofs -dsimp [hTt, hin, hd]
end Go.Proofs.YtdbdoilfimiihaaDoor

/-! Digests: Of. -/
namespace Go.Sy
theorem absB_rest {S l : List Int} : (absB S l).2.length < 64 := by
  unfold absB
  split
  · exact absB_rest
  · simp; omega
termination_by l.length
decreasing_by simp; omega
end Go.Sy
namespace Go.Proofs.YtdbdoilfimiihaaDoor
open Go.Sy

/-- A text's digest. -/
def digOf (b : List Int) : ByteArray := dig (absB st0 b).1 (absB st0 b).2 b.length
set_option maxRecDepth 100000 in
set_option maxHeartbeats 8000000 in
theorem of_fn (nl : Bool) (b : List Int) (hb : b.length ≤ 1000000) :
    Fc Tryd.prog 8 [.sl .imm nl 1 (u8s b)] [] (.lit (.string (digOf b))) [] := by
  have hs0 : st0.length = 8 := rfl
  have hw : IntKind.u64.wrap (b.length : Int) = b.length := by rw [wrap_is_u64]; omega
  refine Fc.of (anys _ [5, 6, 7]) [] mixed Tryd.func8 rfl (by rfl) (by simp [Tryd.ntmps8]) (by decide) ?_
  simp -implicitDefEqProofs -dsimp [Tryd.ntmps8]
  refine CallK.works ?_
  simp -implicitDefEqProofs -dsimp
  refine CallQ.mk (new_fn) (by simp) ?_
  simp -implicitDefEqProofs -dsimp
  by_cases he : b = []
  · subst he
    have hab : absB st0 [] = (st0, []) := by rw [absB, if_neg (by simp)]
    have hd : digOf [] = dig st0 [] 0 := by rw [digOf, hab]; rfl
    have w0 : IntKind.u64.wrap 0 = 0 := by decide
    refine CallK.works ?_
    simp -implicitDefEqProofs -dsimp
    refine CallQ.mk (write0_fn st0 0 true nl hs0) (by simp) ?_
    simp -implicitDefEqProofs -dsimp [w0]
    refine CallK.works ?_
    simp -implicitDefEqProofs -dsimp
    refine CallQ.mk (sum_fn st0 [] 0 true (by simp) hs0 (by simp)) (by simp) ?_
    simp -implicitDefEqProofs -dsimp [hd]
  · have hl : 0 < b.length := List.length_pos_iff.2 he
    refine CallK.works ?_
    simp -implicitDefEqProofs -dsimp
    refine CallQ.mk (write_fn st0 [] b 0 true nl hs0 (by simp; exact hl) (by simp; omega)) (by simp) ?_
    simp -implicitDefEqProofs -dsimp [hw]
    refine CallK.works ?_
    simp -implicitDefEqProofs -dsimp
    refine CallQ.mk (sum_fn (absB st0 b).1 (absB st0 b).2 b.length false (by simp) (absB_length hs0) absB_rest) (by simp) ?_
    simp -implicitDefEqProofs -dsimp [digOf]
end Go.Proofs.YtdbdoilfimiihaaDoor

/-! Digests: a byte's place in a text; functions that are walked by the library's own means. -/
namespace Go.Sy
open Go.RowKit
theorem callable_of {P : Program} {f : FuncId} {fn : Func} {c : Code} (hf : P.funcs[f]? = some fn) (hb : fn.body = some c) (hnm : fn.name ≠ "runtime.NumGoroutine") : Callable P f := fun args w => by simp [callFunc, hf, hb, hnm]
/-- A function of plain values that leaves all that was as it was. -/
theorem Fc.below {P : Program} {k : FuncId} {us : List Value} {X : Value} (hk : Callable P k) (hr : ∀ w, Calls P k us.toArray w fun e w' => e = .returned X ∧ Below w.heap.size w w') : Fc P k (us.map .lit) [] (.lit X) [] := by
  refine ⟨hk, fun g w vs _ hw ha => ?_⟩
  have hv : vs = us.toArray := by
    apply Array.ext
    · simpa using ha.1
    · intro i h1 h2
      have h3 : i < us.length := by simpa using h2
      have := (ha.2 i (.lit us[i]) vs[i] (by simp [h3]) (Array.getElem?_eq_getElem h1)).lit_inv
      simpa using this
  subst hv
  refine CallsIn.mono (callsIn_wide.2 (hr w)) ?_
  rintro e w' ⟨rfl, hb⟩
  exact ⟨X, .lit X, g, [], rfl, ⟨rfl, rfl⟩, .lit X, fun _ _ h => by simp [getO] at h, hw.grown hb.size hb.block,
    ⟨hb.os, hb.tape, hb.output, hb.size, fun b h _ => hb.block b h, fun b h => .inl h, fun b h => .inl h, fun i _ => ⟨rfl, fun h => h⟩, rfl⟩⟩
end Go.Sy
namespace Go.Proofs.YtdbdoilfimiihaaDoor
open Go.Sy

set_option maxHeartbeats 1000000 in
set_option maxRecDepth 100000 in
theorem lite_index (s : ByteArray) (c : Int) (w : World) :
    Calls Tryd.prog 24 #[.string s, .int .u8 c] w fun e w' => e = .returned (.int .i64 (Lib.indexByte s.data.toList c.toNat.toUInt8)) ∧ w' = w := by
  go_enter Tryd.func24, Tryd.ntmps24
  go_wp2
  rw [run_callFunc_extern Tryd.func27 (by kernel_rfl) (by kernel_rfl) (by kernel_rfl) (e := Extern.BytealgIndexByte.indexByte) (by kernel_rfl), Lib.run_indexByteString]
  simp only [Result.andThen]
  rw [Oper.upon_value]
  go_wp2
  go_ret
  exact ⟨rfl, rfl⟩

set_option maxHeartbeats 1000000 in
theorem index_calls (s : ByteArray) (c : Int) (w : World) :
    Calls Tryd.prog 18 #[.string s, .int .u8 c] w fun e w' => e = .returned (.int .i64 (Lib.indexByte s.data.toList c.toNat.toUInt8)) ∧ w' = w := by
  go_enter Tryd.func18, Tryd.ntmps18
  go_wp2_with (go_at_call 24; refine (lite_index _ _ _).mono ?_; rintro e w' ⟨rfl, rfl⟩)
  go_ret
  exact ⟨rfl, rfl⟩

theorem index_fn (s : ByteArray) (c : Int) : Fc Tryd.prog 18 [.lit (.string s), .lit (.int .u8 c)] [] (.lit (.int .i64 (Lib.indexByte s.data.toList c.toNat.toUInt8))) [] := by
  refine Fc.below (us := [.string s, .int .u8 c]) ?_ fun w => ?_
  · exact callable_of Tryd.func18 rfl (by decide)
  · refine (index_calls s c w).mono ?_
    rintro e w' ⟨rfl, rfl⟩
    exact ⟨rfl, Go.RowKit.Below.refl _ _⟩
end Go.Proofs.YtdbdoilfimiihaaDoor

/-! Digests: Parse. -/
namespace Go.Sy
theorem index_str {P : Program} {t : TypeId} (ht : P.underlying t = some .string) (s : ByteArray) (k : IntKind) (n : Nat) (y : Int) (hn : (bs s)[n]? = some y) : indexPV P t (.lit (.string s)) (.lit (.int k n)) = some (.lit (.int .u8 y)) := by
  have hy : s[n]?.map (fun b => (b.toNat : Int)) = some y := by
    rw [← hn]
    simp only [bs, List.getElem?_map]
    congr 1
    by_cases h : n < s.size
    · rw [getElem?_pos s n h, Array.getElem?_toList, getElem?_pos s.data n h]; rfl
    · rw [getElem?_neg s n h, Array.getElem?_toList, getElem?_neg s.data n h]
  have e : pureOf P (Instr.index t (.string s) (.int k n)) = some (.int .u8 y) := by
    unfold Instr.index
    rw [pureOf_bind, show pureOf P (asIntOf (.int k n)) = some (k, (n : Int)) from rfl]
    simp only [Option.bind_some]
    rw [underlying_bind ht]
    obtain ⟨b, hb, rfl⟩ := Option.map_eq_some_iff.1 hy
    simp [hb, pureOf_pure]
  unfold indexPV
  rw [ht]; simp only [e]; rfl
/-- The digits. -/
def hx : ByteArray := ⟨#[48, 49, 50, 51, 52, 53, 54, 55, 56, 57, 97, 98, 99, 100, 101, 102]⟩
/-- A digit's number. -/
def digV (y : Int) : Int := Lib.indexByte hx.data.toList y.toNat.toUInt8
/-- Two digits' byte. -/
def prB (x y : Int) : Int := IntKind.u8.wrap (ior .i64 (ishl .i64 (digV x) 4) (digV y))
def prs : List Int → Option (List Int)
  | x :: y :: l => if digV x < 0 ∨ digV y < 0 then none else (prs l).map (prB x y :: ·)
  | _ => some []
/-- What Parse tells. -/
def parseR (s : ByteArray) : ByteArray × Bool := if s.size ≠ 64 then (⟨#[]⟩, false) else match prs (bs s) with
  | none => (⟨#[]⟩, false)
  | some l => (ofBs l, true)
end Go.Sy
namespace Go.Proofs.YtdbdoilfimiihaaDoor
open Go.Sy

theorem index_fn2 (y : Int) : Fc Tryd.prog 18 [.lit (.string ⟨#[48, 49, 50, 51, 52, 53, 54, 55, 56, 57, 97, 98, 99, 100, 101, 102]⟩), .lit (.int .u8 y)] [] (.lit (.int .i64 (digV y))) [] := index_fn _ _

set_option maxRecDepth 100000 in
set_option maxHeartbeats 8000000 in
theorem parse_fn (s : ByteArray) (hs : s.size ≤ 1000000) : Fc Tryd.prog 10 [.lit (.string s)] [] (.tup [.lit (.string (parseR s).1), .lit (.bool (parseR s).2)]) [] := by
  refine Fc.of (anys _ [18]) sch10 mixed Tryd.func10 rfl (by rfl) (by simp [Tryd.ntmps10]) (by decide) ?_
  by_cases h64 : s.size = 64
  · have h64' : (s.size : Int) = 64 := by omega
    have hl : (bs s).length = 64 := by rw [bs_length, h64]
    simp -implicitDefEqProofs -dsimp [Tryd.ntmps10, h64']
    refine LpK.mk (anys _ [18]) mixed (fun ((i, l) : Nat × List Int) => i ≤ 32 ∧ l.length = i ∧ InB l ∧ prs (bs s) = (prs ((bs s).drop (2 * i))).map (l ++ ·))
      (fun ((i, l) : Nat × List Int) => ⟨[(0, .lit (.string s)), (4, .sl (.own (.loc 39)) (decide (i = 0)) 1 (u8s l)), (5, .lit (.int .i64 (2 * (i : Int))))], [], 42⟩)
      (fun (i, _) => 32 - i) (0, []) ⟨by omega, rfl, by simp [InB], by simp⟩ (by simp -implicitDefEqProofs -dsimp) ?_
    rintro ⟨i, l⟩ ⟨hi, hll, hin, hp⟩
    by_cases hlt : i < 32
    · have h1 : 2 * (i : Int) < 64 := by omega
      have w1 : IntKind.i64.wrap (2 * (i : Int) + 1) = 2 * (i : Int) + 1 := wrap64 (by omega) (by omega)
      have w2 : IntKind.i64.wrap (2 * (i : Int) + 2) = 2 * (i : Int) + 2 := wrap64 (by omega) (by omega)
      obtain ⟨x, hx1⟩ : ∃ x, (bs s)[2 * i]? = some x := ⟨_, List.getElem?_eq_getElem (by omega)⟩
      obtain ⟨y, hy1⟩ : ∃ y, (bs s)[2 * i + 1]? = some y := ⟨_, List.getElem?_eq_getElem (by omega)⟩
      have g1 : indexPV Tryd.prog 9 (.lit (.string s)) (.lit (.int .i64 (2 * (i : Int)))) = some (.lit (.int .u8 x)) := by simpa using index_str Tryd.underlying9 s .i64 (2 * i) x hx1
      have g2 : indexPV Tryd.prog 9 (.lit (.string s)) (.lit (.int .i64 (2 * (i : Int) + 1))) = some (.lit (.int .u8 y)) := by simpa using index_str Tryd.underlying9 s .i64 (2 * i + 1) y hy1
      have hd : (bs s).drop (2 * i) = x :: y :: (bs s).drop (2 * (i + 1)) := by
        rw [List.drop_eq_getElem_cons (by omega), List.drop_eq_getElem_cons (by omega)]
        rw [List.getElem?_eq_getElem (by omega)] at hx1 hy1
        rw [Option.some.inj hx1, Option.some.inj hy1]; rfl
      have hpx : prs ((bs s).drop (2 * i)) = if digV x < 0 ∨ digV y < 0 then none else (prs ((bs s).drop (2 * (i + 1)))).map (prB x y :: ·) := by rw [hd, prs]
      rw [hpx] at hp
      simp -implicitDefEqProofs -dsimp [h1, h64', w1, w2, g1, g2]
      refine CallK.reads ?_
      simp -implicitDefEqProofs -dsimp
      refine CallQ.same (index_fn2 x) rfl ?_
      simp -implicitDefEqProofs -dsimp [w1, g2]
      refine CallK.reads ?_
      simp -implicitDefEqProofs -dsimp
      refine CallQ.same (index_fn2 y) rfl ?_
      simp -implicitDefEqProofs -dsimp [w1, g2]
      by_cases c1 : digV x < 0
      · rw [if_pos (.inl c1)] at hp
        have hr : parseR s = (⟨#[]⟩, false) := by rw [parseR, if_neg (by simpa using h64), hp]; rfl
        simp -implicitDefEqProofs -dsimp [c1, hr]
      · by_cases c2 : digV y < 0
        · rw [if_pos (.inr c2)] at hp
          have hr : parseR s = (⟨#[]⟩, false) := by rw [parseR, if_neg (by simpa using h64), hp]; rfl
          simp -implicitDefEqProofs -dsimp [c1, c2, hr]
        · rw [if_neg (by simp [c1, c2])] at hp
          have l1 : l.length + 1 ≤ 140737488355328 := by omega
          simp -implicitDefEqProofs -dsimp [c1, c2, w2, l1]
          refine .mk (i + 1, l ++ [prB x y]) ⟨hlt, by simp [hll], ?_, ?_⟩ (by show 32 - (i + 1) < 32 - i; omega) (by simp -implicitDefEqProofs -dsimp [prB]; omega)
          · intro z hz
            rcases List.mem_append.1 hz with hz | hz
            · exact hin z hz
            · simp at hz; subst hz; exact wrap8_in _
          · rw [hp]; simp [Function.comp_def]
    · have e : i = 32 := by omega
      subst e
      have hdn : (bs s).drop (2 * 32) = [] := List.drop_eq_nil_of_le (by omega)
      rw [hdn, show prs [] = some [] from rfl] at hp
      have hr : parseR s = (ofBs l, true) := by rw [parseR, if_neg (by simpa using h64), hp]; simp
      simp -implicitDefEqProofs -dsimp [h64', hin, hr]
  · have h64' : ¬ (s.size : Int) = 64 := by omega
    have hr : parseR s = (⟨#[]⟩, false) := by rw [parseR, if_pos h64]
    simp -implicitDefEqProofs -dsimp [Tryd.ntmps10, h64', hr]
end Go.Proofs.YtdbdoilfimiihaaDoor

/-! Digests: the builder's methods. -/
namespace Go.Proofs.YtdbdoilfimiihaaDoor
open Go.RowKit

set_option maxHeartbeats 1000000 in
set_option maxRecDepth 100000 in
theorem check_used (b : Nat) (w : World) (h0 : w.cell? ⟨b, 0, none⟩ = some (.pointer (some ⟨b, 0, none⟩))) :
    Calls Tryd.prog 23 #[.pointer (some ⟨b, 0, none⟩)] w fun e w' => e = .returned (.tuple #[]) ∧ w' = w := by
  obtain ⟨j, hj, _⟩ := Option.map_eq_some_iff.1 (show (Tryd.prog.info? 51).map (·.size) = some 2 by kernel_rfl)
  go_enter Tryd.func23, Tryd.ntmps23
  go_wp2
  rw [Lib.run_neq_ptr_same w _ Tryd.underlying49 hj]
  go_wp2
  go_end0
  exact ⟨rfl, rfl⟩

set_option maxHeartbeats 1000000 in
set_option maxRecDepth 100000 in
theorem check_fresh (b : Nat) (w : World) (h0 : w.cell? ⟨b, 0, none⟩ = some (.pointer none)) (hsh : w.shape? b = some (51, 2)) (hfz : w.frozen? ⟨b, 0, none⟩ = false) :
    Calls Tryd.prog 23 #[.pointer (some ⟨b, 0, none⟩)] w fun e w' => e = .returned (.tuple #[]) ∧ w' = w.setCell ⟨b, 0, none⟩ (.pointer (some ⟨b, 0, none⟩)) := by
  obtain ⟨j, hj, hjs⟩ := Option.map_eq_some_iff.1 (show (Tryd.prog.info? 51).map (·.size) = some 2 by kernel_rfl)
  go_enter Tryd.func23, Tryd.ntmps23
  go_wp2
  rw [Lib.run_to_unsafe w ⟨b, 0, none⟩ Tryd.underlying49 Tryd.underlying65 hj (by rw [hjs]; decide) hsh (Nat.zero_lt_succ 1)]
  simp only [Result.andThen]
  rw [Oper.upon_value]
  go_wp2
  rw [run_callFunc_extern Tryd.func26 (by kernel_rfl) (by kernel_rfl) (by kernel_rfl) (e := Extern.AbiNoEscape.same) (by kernel_rfl)]
  rw [Lib.run_noEscape]
  simp only [Result.andThen]
  rw [Oper.upon_value]
  go_wp2
  rw [Lib.run_from_unsafe w ⟨b, 0, none⟩ Tryd.underlying65 Tryd.underlying49 hj hsh (by kernel_rfl)]
  simp only [Result.andThen]
  rw [Oper.upon_value]
  go_wp2
  go_end0
  exact ⟨rfl, rfl⟩

/-- A builder in block b; its row lies at B or behind. -/
def Bd (B b : Nat) (bs : List Value) (w : World) : Prop := ∃ p v, (p = .pointer none ∨ p = .pointer (some ⟨b, 0, none⟩)) ∧ w.heap[b]? = some (.cells #[p, v] 51 (0, 0)) ∧ w.ownsRow B 5 1 v bs.length bs ∧ v.ownBlock ≠ some b
def Bu (B b : Nat) (bs : List Value) (w : World) : Prop := ∃ v, w.heap[b]? = some (.cells #[.pointer (some ⟨b, 0, none⟩), v] 51 (0, 0)) ∧ w.ownsRow B 5 1 v bs.length bs ∧ v.ownBlock ≠ some b
structure Kx (B b : Nat) (w w' : World) : Prop where
  os : w'.os = w.os
  tape : w'.tape = w.tape
  output : w'.output = w.output
  size : w.heap.size ≤ w'.heap.size
  block : ∀ k, k < B → k ≠ b → w'.heap[k]? = w.heap[k]?
theorem Kx.trans {B b : Nat} {w w' w'' : World} (h : Kx B b w w') (k : Kx B b w' w'') : Kx B b w w'' :=
  ⟨k.os.trans h.os, k.tape.trans h.tape, k.output.trans h.output, Nat.le_trans h.size k.size, fun i hi hb => (k.block i hi hb).trans (h.block i hi hb)⟩
theorem Bd.lt {B b : Nat} {bs : List Value} {w : World} (h : Bd B b bs w) : b < w.heap.size := by
  obtain ⟨p, v, _, hb, _⟩ := h
  rcases Nat.lt_or_ge b w.heap.size with h' | h'
  · exact h'
  · simp [Array.getElem?_eq_none h'] at hb

theorem check_calls (B b : Nat) (bs : List Value) (w : World) (h : Bd B b bs w) :
    Calls Tryd.prog 23 #[.pointer (some ⟨b, 0, none⟩)] w fun e w' => e = .returned (.tuple #[]) ∧ Bu B b bs w' ∧ Kx B b w w' := by
  have hlt := h.lt
  obtain ⟨p, v, hp, hb, hown, hne⟩ := h
  have c0 : w.cell? ⟨b, 0, none⟩ = some p := by simp [World.cell?, hb]
  rcases hp with rfl | rfl
  · refine (check_fresh b w c0 (by simp [World.shape?, hb]) (by simp [World.frozen?, hb])).mono ?_
    rintro e w' ⟨rfl, rfl⟩
    refine ⟨rfl, ⟨v, ?_, ?_, hne⟩, rfl, rfl, rfl, by simp [World.setCell], fun k _ hk => Below.heap_setCell _ _ _ _ (fun e => hk (by simp [e]))⟩
    · simp [World.setCell, Array.getElem?_modify, hb]
    · refine hown.kept (row := some b) ⟨rfl, rfl, rfl, by simp [World.setCell], fun k _ hk => Below.heap_setCell _ _ _ _ (fun e => hk (by simp [e]))⟩ ?_
      exact Or.inr hne
  · refine (check_used b w c0).mono ?_
    rintro e w' ⟨rfl, rfl⟩
    exact ⟨rfl, ⟨v, hb, hown, hne⟩, rfl, rfl, rfl, Nat.le_refl _, fun _ _ _ => rfl⟩

set_option maxHeartbeats 2000000 in
set_option maxRecDepth 100000 in
theorem wb_calls (B b : Nat) (bs : List Value) (c : Int) (w : World) (h : Bd B b bs w) (hlen : bs.length + 1 ≤ 140737488355328) (hBw : B ≤ w.heap.size) :
    Calls Tryd.prog 16 #[.pointer (some ⟨b, 0, none⟩), .int .u8 c] w fun e w' => e = .returned .nilIface ∧ Bu B b (bs ++ [.int .u8 c]) w' ∧ Kx B b w w' := by
  obtain ⟨i0, hi, hz0, hz1, hz2⟩ := info_parts (P := Tryd.prog) (e := 5) (z := .int .u8 0) (size := 1) (bytes := 1) (by kernel_rfl)
  go_enter Tryd.func16, Tryd.ntmps16
  go_wp2_with (go_at_call 23; refine (check_calls B b bs _ h).mono ?_)
  rintro e w1 ⟨rfl, h1, hb1⟩
  obtain ⟨v, hbk, hown, hne⟩ := h1
  have c0 : w1.cell? ⟨b, 0, none⟩ = some (.pointer (some ⟨b, 0, none⟩)) := by rw [Lib.cell_of_heap hbk]; rfl
  have c1 : w1.cell? ⟨b, 1, none⟩ = some v := by rw [Lib.cell_of_heap hbk]; rfl
  go_wp2_with (at_builtin; refine wpList_append_own _ rfl _ _ 22 rfl B 5 i0 (.int .u8 0) 1 1 Tryd.underlying22 hi hz0 hz1 hz2 rfl (by decide) _ _ _ rfl (hown.alloc _) ⟨w1.heap.size, 0, none⟩ 1 1 [.int .u8 c] rfl rfl ?c1 ?c2 ?c3 ?c4 ?c5 ?_)
  case c1 =>
    intro j u hj
    match j, hj with
    | 0, hj => simp at hj; subst hj; simp [Addr.add]
  case c2 => intro u hu; simp at hu; subst hu; rfl
  case c3 => unfold maxLen; omega
  case c4 => omega
  case c5 => have := hb1.size; simp; omega
  intro v' w2 hown' hgrow _
  have hlt : b < w1.heap.size := by
    rcases Nat.lt_or_ge b w1.heap.size with h' | h'
    · exact h'
    · simp [Array.getElem?_eq_none h'] at hbk
  have hb2 : w2.heap[b]? = some (.cells #[.pointer (some ⟨b, 0, none⟩), v] 51 (0, 0)) := by
    rw [hgrow.block b (by simp; omega) (fun e => hne e.symm), Lib.alloc_old w1 _ b hlt]
    exact hbk
  have d0 : w2.cell? ⟨b, 0, none⟩ = some (.pointer (some ⟨b, 0, none⟩)) := by rw [Lib.cell_of_heap hb2]; rfl
  have d1 : w2.cell? ⟨b, 1, none⟩ = some v := by rw [Lib.cell_of_heap hb2]; rfl
  have f1 : w2.frozen? ⟨b, 1, none⟩ = false := Lib.frozen_of_heap hb2 1
  obtain ⟨g, cap, cur, rfl, hg1, hg2⟩ : ∃ g cap cur, v' = .slice (some ⟨g, 0, none⟩) (bs.length + 1) cap ∧ B ≤ g ∧ w2.heap[g]? = some (.cells cur 5 (0, 0)) := by
    rcases hown'.2 with ⟨_, h0⟩ | ⟨g, cap, cur, hv, h2, h3, _⟩
    · omega
    · exact ⟨g, cap, cur, hv, h2, h3⟩
  have hgb : g ≠ b := by
    rintro rfl
    rw [hb2] at hg2
    cases hg2
  go_wp2
  go_ret
  refine ⟨rfl, ⟨.slice (some ⟨g, 0, none⟩) (bs.length + 1) cap, ?_, ?_, fun e => hgb (by simpa [Value.ownBlock] using e)⟩, hb1.trans ⟨?_, ?_, ?_, ?_, ?_⟩⟩
  · simp [World.setCell, Array.getElem?_modify, hb2]
  · have hw2 : w2.ownsRow B 5 1 (.slice (some ⟨g, 0, none⟩) (bs.length + 1) cap) (bs ++ [Value.int .u8 c]).length (bs ++ [Value.int .u8 c]) := by simpa using hown'
    refine hw2.kept (row := some b) ⟨rfl, rfl, rfl, by simp [World.setCell], fun k _ hk => Below.heap_setCell _ _ _ _ (fun e => hk (by simp [e]))⟩ ?_
    exact Or.inr fun e => hgb (by simpa [Value.ownBlock] using e)
  · exact hgrow.os
  · exact hgrow.tape
  · exact hgrow.output
  · have := hgrow.size
    simp [World.setCell] at this ⊢
    omega
  · intro k hk hkb
    have hk1 : k < w1.heap.size := Nat.lt_of_lt_of_le hk (Nat.le_trans hBw hb1.size)
    rw [Below.heap_setCell _ _ _ _ (fun e => hkb (by simp [e])), hgrow.block k (by simp; omega) (fun e => by have := (hown.lt k e.symm).1; omega), Lib.alloc_old w1 _ k hk1]
end Go.Proofs.YtdbdoilfimiihaaDoor

/-! Digests: Hex. -/
namespace Go.Proofs
open Go.Shelf
shelf_lay Lays.n169 Nm 169 at Tryd as Tryd.lays169
theorem Tryd.Builder_Extra_169 : Builder.Extra Tryd.prog Tryd.lays169_ren where
  sizeBuilder := by kernel_rfl
  liesBuilder := by kernel_rfl
  t5 := Tryd.underlying5
  a5 := Tryd.isAgg5
  z5 := Tryd.sizeOf5
  v5 := Tryd.zeroValue5
  infoByte := by kernel_rfl
  cellsByte := by kernel_rfl
  sizeByte := by kernel_rfl
  neB5 := by decide
open Go.RowKit in
theorem Tryd.Builder_String (B b : Nat) (l : List UInt8) (w : World) (h : Lib.IsBuilder 51 5 B b (Lib.byteCells l) w) (h0 : l ≠ []) :
    Calls Tryd.prog 17 #[.pointer (some ⟨b, 0, none⟩)] w fun e w' => e = .returned (.string ⟨l.toArray⟩) ∧ Below B w w' := Any.Builder_String Tryd.lays169 Tryd.Builder_Extra_169 B b l w h h0
end Go.Proofs
namespace Go.Proofs.YtdbdoilfimiihaaDoor
open Go.RowKit

/-- A byte's two digits. -/
def hexU (c : UInt8) : List UInt8 := [Go.Sy.hx.data.toList.getD (c.toNat / 16) 0, Go.Sy.hx.data.toList.getD (c.toNat % 16) 0]
def hexB (l : List UInt8) : List UInt8 := l.flatMap hexU

theorem hx_get (n : Nat) (h : n < (⟨#[48, 49, 50, 51, 52, 53, 54, 55, 56, 57, 97, 98, 99, 100, 101, 102]⟩ : ByteArray).size) : (⟨#[48, 49, 50, 51, 52, 53, 54, 55, 56, 57, 97, 98, 99, 100, 101, 102]⟩ : ByteArray)[n]'h = Go.Sy.hx.data.toList.getD n 0 := by
  show Go.Sy.hx.data[n] = _
  rw [List.getD_eq_getElem?_getD, Array.getElem?_toList, getElem?_pos Go.Sy.hx.data n h]; rfl
theorem hexB_length (l : List UInt8) : (hexB l).length = 2 * l.length := by
  induction l with
  | nil => rfl
  | cons c l ih =>
    have : hexB (c :: l) = hexU c ++ hexB l := rfl
    rw [this, List.length_append, ih, List.length_cons, show (hexU c).length = 2 from rfl]; omega
theorem Bu.bd {B b : Nat} {bs : List Value} {w : World} (h : Bu B b bs w) : Bd B b bs w := by
  obtain ⟨v, h1, h2, h3⟩ := h
  exact ⟨_, v, .inr rfl, h1, h2, h3⟩

set_option maxHeartbeats 4000000 in
set_option maxRecDepth 1000000 in
theorem hex_calls (s : ByteArray) (w : World) (h32 : s.size = 32) :
    Calls Tryd.prog 9 #[.string s] w fun e w' => e = .returned (.string ⟨(hexB s.data.toList).toArray⟩) ∧ Below w.heap.size w w' := by
  have hcv := fun w => run_bytes_of_string (P := Tryd.prog) w 28 22 5 s Tryd.underlying28 Tryd.underlying22 Tryd.underlying5
  go_enter Tryd.func9, Tryd.ntmps9
  go_wp2
  go_loopw [12] (fun i wr => ∃ k : Nat, k ≤ 32 ∧ i = .int .i64 k ∧ Bd (w.heap.size + 2) w.heap.size (Lib.byteCells (hexB (s.data.toList.take k))) wr ∧ (∀ j (c : UInt8), s.data.toList[j]? = some c → wr.cell? ⟨w.heap.size + 1, j, none⟩ = some (.int .u8 c.toNat)) ∧ Below w.heap.size w wr ∧ w.heap.size + 2 ≤ wr.heap.size) (fun i _ => 32 - (intOf i).toNat)
  case atStart =>
    generalize hcap : grownCap (w.alloc (Obj.cells #[Value.pointer none, Value.slice none 0 0] 51)) 32 0 5 = cap
    have hb : ((w.alloc (Obj.cells #[Value.pointer none, Value.slice none 0 0] 51)).alloc (Obj.cells (bytesRow s cap) 5 ((bytesRow s cap).size, (bytesRow s cap).size + 1))).drew.heap[w.heap.size]? = some (.cells #[.pointer none, .slice none 0 0] 51 (0, 0)) := by
      show ((w.heap.push _).push _)[w.heap.size]? = _
      simp [Array.getElem?_push]
    have hr : ((w.alloc (Obj.cells #[Value.pointer none, Value.slice none 0 0] 51)).alloc (Obj.cells (bytesRow s cap) 5 ((bytesRow s cap).size, (bytesRow s cap).size + 1))).drew.heap[w.heap.size + 1]? = some (.cells (bytesRow s cap) 5 ((bytesRow s cap).size, (bytesRow s cap).size + 1)) := by
      show ((w.heap.push _).push _)[w.heap.size + 1]? = _
      rw [Array.getElem?_push]; simp
    refine ⟨0, by omega, rfl, ⟨_, _, .inl rfl, hb, ⟨rfl, .inl ⟨rfl, rfl⟩⟩, by simp [Value.ownBlock]⟩, fun j c hj => ?_, ?_, ?_⟩
    · rw [Lib.cell_of_heap hr]
      have hlt : j < s.data.size := by simpa using (List.getElem?_eq_some_iff.1 hj).1
      have hj2 : s.data[j]? = some c := by simpa using hj
      simp only [bytesRow]
      rw [Array.getElem?_append_left (by simpa using hlt), Array.getElem?_map, hj2]; rfl
    · exact (((Below.refl _ w).alloc (Nat.le_refl _) _).alloc (by simp) _).drew
    · show w.heap.size + 2 ≤ ((w.heap.push _).push _).size
      simp
  case round =>
    obtain ⟨k, hk, rfl, hB, hcell, hbw, hsz⟩ := hrel
    by_cases hlt : k < 32
    · have hlt' : (k : Int) < 32 := by omega
      have hex1 : ∃ c, s.data.toList[k]? = some c := ⟨_, List.getElem?_eq_getElem (by rw [Array.length_toList]; exact Nat.lt_of_lt_of_eq hlt h32.symm)⟩
      obtain ⟨c, hc⟩ := hex1
      have hck := hcell k c hc
      have hl0 : (Lib.byteCells (hexB (s.data.toList.take k))).length ≤ 64 := by
        rw [Lib.byteCells_length, hexB_length, List.length_take]; omega
      have hl1 : (Lib.byteCells (hexB (s.data.toList.take k))).length + 1 ≤ 140737488355328 := by
        rw [Lib.byteCells_length, hexB_length, List.length_take]; omega
      obtain ⟨HC, hHC, hHD⟩ : ∃ HC : Prop, HC ∧ (HC → ∀ j (c : UInt8), s.data.toList[j]? = some c → wr.cell? ⟨w.heap.size + 1, j, none⟩ = some (.int .u8 c.toNat)) := ⟨_, hcell, id⟩
      clear hcell
      go_wp2_with (go_at_call 16; refine (wb_calls (w.heap.size + 2) w.heap.size _ _ _ hB hl1 hsz).mono ?_)
      · rintro e W1 ⟨rfl, h1, k1⟩
        have hck1 : W1.cell? ⟨w.heap.size + 1, k, none⟩ = some (.int .u8 c.toNat) := by rw [← hck]; simp [World.cell?, k1.block (w.heap.size + 1) (by omega) (by omega)]
        go_wp2_with (go_at_call 16; refine (wb_calls (w.heap.size + 2) w.heap.size _ _ _ h1.bd (by simp only [List.length_append, List.length_cons, List.length_nil]; omega) (Nat.le_trans hsz k1.size)).mono ?_)
        · rintro e W2 ⟨rfl, h2, k2⟩
          go_wp2
          go_roundw
          case rel =>
            have k3 := k1.trans k2
            have ht : hexB (s.data.toList.take (k + 1)) = hexB (s.data.toList.take k) ++ hexU c := by
              rw [List.take_add_one, hc]; simp [hexB]
            rw [hx_get, hx_get] at h2
            have hcs : Lib.byteCells (hexB (s.data.toList.take (k + 1))) = Lib.byteCells (hexB (s.data.toList.take k)) ++ [Value.int .u8 ((Go.Sy.hx.data.toList.getD (c.toNat / 16) 0).toNat : Int)] ++ [Value.int .u8 ((Go.Sy.hx.data.toList.getD (c.toNat % 16) 0).toNat : Int)] := by
              rw [ht, Lib.byteCells_append, List.append_assoc]; rfl
            refine ⟨k + 1, by omega, by simp, ?_, fun j c' hj => ?_, ?_, ?_⟩
            · rw [hcs]; exact h2.bd
            · rw [← hHD hHC j c' hj]; simp [World.cell?, k3.block (w.heap.size + 1) (by omega) (by omega)]
            · exact hbw.trans ⟨k3.os, k3.tape, k3.output, k3.size, fun i hi => k3.block i (by omega) (by omega)⟩
            · have := k3.size; omega
          case measure =>
            simp only [intOf]; omega
        all_goals (exfalso; have := c.toNat_lt; omega)
      all_goals (exfalso; have := c.toNat_lt; omega)
    · have hlt' : ¬ (k : Int) < 32 := by omega
      have e : k = 32 := by omega
      subst e
      have htk : s.data.toList.take 32 = s.data.toList := List.take_of_length_le (by rw [Array.length_toList]; exact Nat.le_of_eq h32)
      rw [htk] at hB
      have hB2 : Lib.IsBuilder 51 5 w.heap.size w.heap.size (Lib.byteCells (hexB s.data.toList)) wr := by
        obtain ⟨p, v, hp, h1, h2, h3⟩ := hB
        have h4 : wr.ownsRow w.heap.size 5 1 v (Lib.byteCells (hexB s.data.toList)).length (Lib.byteCells (hexB s.data.toList)) := by
          refine ⟨h2.1, ?_⟩
          rcases h2.2 with h | ⟨g, cap, cur, a1, a2, a3⟩
          · exact .inl h
          · exact .inr ⟨g, cap, cur, a1, by omega, a3⟩
        rcases hp with rfl | rfl
        · exact .inl ⟨Nat.le_refl _, v, h1, h4, h3⟩
        · exact .inr ⟨Nat.le_refl _, v, h1, h4, h3⟩
      have hne : hexB s.data.toList ≠ [] := by
        intro e
        have h := hexB_length s.data.toList
        have h5 : s.data.toList.length = 32 := by rw [Array.length_toList]; exact h32
        rw [e, h5] at h
        simp at h
      go_wp2_with (go_at_call 17; refine (Tryd.Builder_String w.heap.size w.heap.size (hexB s.data.toList) _ hB2 hne).mono ?_)
      rintro e W1 ⟨rfl, -⟩
      intro b2
      go_wp2
      go_ret
      exact ⟨rfl, hbw.trans b2⟩

set_option maxHeartbeats 4000000 in
set_option maxRecDepth 1000000 in
theorem hex_none (s : ByteArray) (w : World) (h32 : ¬ s.size = 32) :
    Calls Tryd.prog 9 #[.string s] w fun e w' => e = .returned (.string ⟨#[]⟩) ∧ Below w.heap.size w w' := by
  have h32' : ¬ (s.size : Int) = 32 := by omega
  go_enter Tryd.func9, Tryd.ntmps9
  go_wp2
  go_ret
  exact ⟨rfl, Below.refl _ _⟩

/-- What Hex tells. -/
def hexR (s : ByteArray) : ByteArray := if s.size = 32 then ⟨(hexB s.data.toList).toArray⟩ else ⟨#[]⟩
theorem hex_fn (s : ByteArray) : Go.Sy.Fc Tryd.prog 9 [.lit (.string s)] [] (.lit (.string (hexR s))) [] := by
  refine Go.Sy.Fc.below (us := [.string s]) (Go.Sy.callable_of Tryd.func9 rfl (by decide)) fun w => ?_
  unfold hexR
  by_cases h : s.size = 32
  · rw [if_pos h]; exact hex_calls s w h
  · rw [if_neg h]; exact hex_none s w h
end Go.Proofs.YtdbdoilfimiihaaDoor
