/- Digests: numbers turned. (and what stands on it) -/
import Derived.Test.YtdbdoilfimiihaaDoorN5
import Derived.Test.YtdbdoilfimiihaaDoorN4
set_option linter.unusedSimpArgs false
set_option linter.unusedVariables false

/-! Digests: numbers turned. -/
namespace Go.Sy
/-- Turned right. -/
def ror (x : Int) (n : Nat) : Int := ior .u32 (ishl .u32 x ((32 - n : Nat) : Int)) (ishr .u32 x n)
theorem iand_31 : ∀ n : Nat, n < 32 → iand .u64 (IntKind.u64.wrap (-(n : Int))) 31 = (((32 - n) % 32 : Nat) : Int) := by decide
theorem wrap_31 : ∀ n : Nat, n < 32 → IntKind.u64.wrap (32 - ((32 - n : Nat) : Int)) = (n : Int) := by decide
theorem wrap_n31 : ∀ n : Nat, n < 32 → IntKind.i64.wrap (-(n : Int)) = -(n : Int) := by decide
end Go.Sy
namespace Go.Proofs.YtdbdoilfimiihaaDoor
open Go.Sy
theorem mixed : Tryd.prog.follows .mixedOrders = true := by rfl

set_option maxRecDepth 100000 in
set_option maxHeartbeats 4000000 in
theorem rotl_fn (x : Int) (n : Nat) (h0 : 0 < n) (h1 : n < 32) : Fc Tryd.prog 28 [.lit (.int .u32 x), .lit (.int .i64 (-(n : Int)))] [] (.lit (.int .u32 (ror x n))) [] := by
  have e := iand_31 n h1
  rw [Nat.mod_eq_of_lt (by omega)] at e
  refine Fc.of (anys _ []) [] mixed Tryd.func28 rfl (by rfl) (by simp [Tryd.ntmps28]) (by decide) ?_
  simp -implicitDefEqProofs -dsimp [Tryd.ntmps28, e, ror, wrap_31 n h1]

set_option maxRecDepth 100000 in
set_option maxHeartbeats 4000000 in
theorem turn_fn (x : Int) (n : Nat) (h0 : 0 < n) (h1 : n < 32) : Fc Tryd.prog 25 [.lit (.int .u32 x), .lit (.int .i64 n)] [] (.lit (.int .u32 (ror x n))) [] := by
  refine Fc.of (anys _ [28]) [] mixed Tryd.func25 rfl (by rfl) (by simp [Tryd.ntmps25]) (by decide) ?_
  simp -implicitDefEqProofs -dsimp [Tryd.ntmps25, wrap_n31 n h1]
  refine CallK.reads ?_
  simp -implicitDefEqProofs -dsimp
  refine CallQ.same (rotl_fn x n h0 h1) rfl ?_
  simp -implicitDefEqProofs -dsimp

/-- The first eight numbers. -/
def st0 : List Int := [1779033703, 3144134277, 1013904242, 2773480762, 1359893119, 2600822924, 528734635, 1541459225]
set_option maxRecDepth 100000 in
set_option maxHeartbeats 4000000 in
theorem first_fn : Fc Tryd.prog 11 [] [] (.agg (ints .u32 st0)) [] := by
  refine Fc.of (anys _ []) [] mixed Tryd.func11 rfl (by rfl) (by simp [Tryd.ntmps11]) (by decide) ?_
  simp -implicitDefEqProofs -dsimp [Tryd.ntmps11]
  rfl

end Go.Proofs.YtdbdoilfimiihaaDoor

/-! Digests: a step. -/
namespace Go.Sy
/-- The sum that a step adds twice, and the other one. -/
def stT (e f g h k w : Int) : Int := IntKind.u32.wrap (IntKind.u32.wrap (IntKind.u32.wrap (IntKind.u32.wrap (h + ixor .u32 (ixor .u32 (ror e 6) (ror e 11)) (ror e 25)) + ixor .u32 (iand .u32 e f) (iand .u32 (inot .u32 e) g)) + k) + w)
def stU (a b c : Int) : Int := IntKind.u32.wrap (ixor .u32 (ixor .u32 (ror a 2) (ror a 13)) (ror a 22) + ixor .u32 (ixor .u32 (iand .u32 a b) (iand .u32 a c)) (iand .u32 b c))
/-- The state behind a number. -/
def stp (k w : Int) : List Int → List Int
  | [a, b, c, d, e, f, g, h] => [IntKind.u32.wrap (stT e f g h k w + stU a b c), a, b, c, IntKind.u32.wrap (d + stT e f g h k w), e, f, g]
  | l => l
end Go.Sy
namespace Go.Proofs.YtdbdoilfimiihaaDoor
open Go.Sy

set_option maxRecDepth 100000 in
set_option maxHeartbeats 4000000 in
theorem step_fn (a b c d e f g h k w : Int) : Fc Tryd.prog 21 [.agg (ints .u32 [a, b, c, d, e, f, g, h]), .lit (.int .u32 k), .lit (.int .u32 w)] [] (.agg (ints .u32 (stp k w [a, b, c, d, e, f, g, h]))) [] := by
  refine Fc.of (anys _ [25]) sch21 mixed Tryd.func21 rfl (by rfl) (by simp [Tryd.ntmps21]) (by decide) ?_
  simp -implicitDefEqProofs -dsimp [Tryd.ntmps21, ints]
  refine CallK.reads ?_
  simp -implicitDefEqProofs -dsimp
  refine CallQ.same (turn_fn e 6 (by decide) (by decide)) rfl ?_
  simp -implicitDefEqProofs -dsimp
  refine CallK.reads ?_
  simp -implicitDefEqProofs -dsimp
  refine CallQ.same (turn_fn e 11 (by decide) (by decide)) rfl ?_
  simp -implicitDefEqProofs -dsimp
  refine CallK.reads ?_
  simp -implicitDefEqProofs -dsimp
  refine CallQ.same (turn_fn e 25 (by decide) (by decide)) rfl ?_
  simp -implicitDefEqProofs -dsimp
  refine CallK.reads ?_
  simp -implicitDefEqProofs -dsimp
  refine CallQ.same (turn_fn a 2 (by decide) (by decide)) rfl ?_
  simp -implicitDefEqProofs -dsimp
  refine CallK.reads ?_
  simp -implicitDefEqProofs -dsimp
  refine CallQ.same (turn_fn a 13 (by decide) (by decide)) rfl ?_
  simp -implicitDefEqProofs -dsimp
  refine CallK.reads ?_
  simp -implicitDefEqProofs -dsimp
  refine CallQ.same (turn_fn a 22 (by decide) (by decide)) rfl ?_
  simp -implicitDefEqProofs -dsimp
  rfl

end Go.Proofs.YtdbdoilfimiihaaDoor

/-! Digests: a block's numbers. -/
namespace Go.Sy
/-- One cell of a row is another. -/
def put1 (l : List Int) (i : Nat) (v : Int) : List Int := l.take i ++ v :: l.drop (i + 1)
@[simp] theorem ints_mid (k : IntKind) (xs ys : List Int) (v : Int) : ints k xs ++ PV.lit (.int k v) :: ints k ys = ints k (xs ++ v :: ys) := by simp [ints]
theorem put1_length {l : List Int} {i : Nat} (v : Int) (h : i < l.length) : (put1 l i v).length = l.length := by
  simp [put1]; omega
theorem put1_get {l : List Int} {i : Nat} (v : Int) (h : i < l.length) (j : Nat) : (put1 l i v)[j]? = if j = i then some v else l[j]? := by
  unfold put1
  rw [List.getElem?_append]
  simp only [List.length_take, Nat.min_eq_left (Nat.le_of_lt h)]
  split
  · rename_i hj; rw [if_neg (by omega), List.getElem?_take_of_lt hj]
  · rename_i hj
    by_cases e : j = i
    · subst e; simp
    · rw [if_neg e, show j - i = (j - i - 1) + 1 by omega, List.getElem?_cons_succ, List.getElem?_drop]
      congr 1; omega
/-- The number that four bytes are. -/
def wordB (l : List Int) : Int := l.foldl (fun w x => ior .u32 (ishl .u32 w 8) (IntKind.u32.wrap x)) 0
theorem wordB_snoc (l : List Int) (x : Int) : wordB (l ++ [x]) = ior .u32 (ishl .u32 (wordB l) 8) (IntKind.u32.wrap x) := by simp [wordB]
theorem put1_put1 {l : List Int} {i : Nat} (v u : Int) (h : i < l.length) : put1 (put1 l i v) i u = put1 l i u := by
  refine List.ext_getElem? fun k => ?_
  rw [put1_get _ (by rw [put1_length _ h]; exact h), put1_get _ h, put1_get _ h]
  split <;> rfl
/-- So many zeros. -/
def zer (n : Nat) : List Int := List.replicate n 0
@[simp] theorem zer_length (n : Nat) : (zer n).length = n := by simp [zer]
@[simp ↓ high] theorem replicate_ints (k : IntKind) (n : Nat) : List.replicate n (PV.lit (.int k 0)) = ints k (zer n) := by simp [ints, zer]
/-- The first sixteen, as far as they are. -/
def W1 (b : List Int) (i : Nat) : List Int := (List.range 64).map fun k => if k < i then wordB ((b.drop (4 * k)).take 4) else 0
@[simp] theorem W1_length (b : List Int) (i : Nat) : (W1 b i).length = 64 := by simp [W1]
theorem W1_get (b : List Int) (i k : Nat) : (W1 b i)[k]? = if k < 64 then some (if k < i then wordB ((b.drop (4 * k)).take 4) else 0) else none := by
  unfold W1
  rw [List.getElem?_map]
  by_cases h : k < 64
  · rw [List.getElem?_range h, if_pos h]; rfl
  · rw [List.getElem?_eq_none (by simp; omega), if_neg h]; rfl
theorem W1_zero (b : List Int) : W1 b 0 = zer 64 := by
  refine List.ext_getElem? fun k => ?_
  rw [W1_get, zer, List.getElem?_replicate]; simp
theorem W1_put (b : List Int) (i : Nat) (h : i < 64) : put1 (W1 b i) i (wordB ((b.drop (4 * i)).take 4)) = W1 b (i + 1) := by
  refine List.ext_getElem? fun k => ?_
  rw [put1_get _ (by simpa using h), W1_get, W1_get]
  by_cases hk : k = i
  · subst hk; simp [h]
  · rw [if_neg hk]
    by_cases h1 : k < i
    · rw [if_pos h1, if_pos (by omega : k < i + 1)]
    · rw [if_neg h1, if_neg (by omega : ¬ k < i + 1)]
@[simp] theorem put1_fold (l : List Int) (i : Nat) (v : Int) : List.take i l ++ v :: List.drop (i + 1) l = put1 l i v := (rfl)
/-- The number at i, out of those before. -/
def nxtV (p x q y : Int) : Int := IntKind.u32.wrap (IntKind.u32.wrap (IntKind.u32.wrap (p + ixor .u32 (ixor .u32 (ror x 7) (ror x 18)) (ishr .u32 x 3)) + q) + ixor .u32 (ixor .u32 (ror y 17) (ror y 19)) (ishr .u32 y 10))
/-- All numbers, n of those behind the first sixteen. -/
def WS (b : List Int) : Nat → List Int
  | 0 => W1 b 16
  | n + 1 => put1 (WS b n) (n + 16) (nxtV ((WS b n).getD n 0) ((WS b n).getD (n + 1) 0) ((WS b n).getD (n + 9) 0) ((WS b n).getD (n + 14) 0))
theorem WS_length (b : List Int) : ∀ n, n ≤ 48 → (WS b n).length = 64
  | 0, _ => W1_length b 16
  | n + 1, h => by rw [WS, put1_length _ (by rw [WS_length b n (by omega)]; omega)]; exact WS_length b n (by omega)
theorem getD_get {l : List Int} {i : Nat} (h : i < l.length) : l[i]? = some (l.getD i 0) := by simp [h]
theorem W1_put0 (b : List Int) (i : Nat) (h : i < 64) : put1 (W1 b i) i 0 = W1 b i := by
  refine List.ext_getElem? fun k => ?_
  rw [put1_get _ (by simpa using h), W1_get]
  by_cases hk : k = i
  · subst hk; simp [h]
  · rw [if_neg hk]
end Go.Sy
namespace Go.Proofs.YtdbdoilfimiihaaDoor
open Go.Sy
theorem wrap64 {n : Int} (h1 : -9223372036854775808 ≤ n) (h2 : n < 9223372036854775808) : IntKind.i64.wrap n = n := by
  simp [IntKind.wrap, IntKind.signed, IntKind.bits]
  omega

set_option maxRecDepth 100000 in
set_option maxHeartbeats 4000000 in
theorem spread_fn (nl : Bool) (b : List Int) (hb : b.length = 64) : Fc Tryd.prog 20 [.sl .imm nl 1 (u8s b)] [] (.agg (ints .u32 (WS b 48))) [] := by
  refine Fc.of (anys _ [25]) sch20 mixed Tryd.func20 rfl (by rfl) (by simp [Tryd.ntmps20]) (by decide) ?_
  simp -implicitDefEqProofs -dsimp [Tryd.ntmps20]
  refine LpK.mk (anys _ [25]) mixed (fun i : Nat => i ≤ 16) (fun i => ⟨[(0, .sl .imm nl 1 (u8s b)), (2, .ptr 2 0), (3, .ptr 3 0), (10, .lit (.int .i64 i))], [(3, .cells (ints .u32 (W1 b i))), (2, .cells (ints .u32 (zer 64)))], 78⟩)
    (fun i => 16 - i) 0 (by simp) (by simp -implicitDefEqProofs -dsimp [W1_zero]) ?_
  intro i hi
  by_cases hlt : i < 16
  · have hlt' : (i : Int) < 16 := by omega
    have e1 : IntKind.i64.wrap (4 * (i : Int)) = 4 * (i : Int) := wrap64 (by omega) (by omega)
    have e2 : IntKind.i64.wrap (4 * (i : Int) + 4) = 4 * (i : Int) + 4 := wrap64 (by omega) (by omega)
    have e3 : (4 * (i : Int)).toNat = 4 * i := by omega
    have e4 : (4 * (i : Int) + 4).toNat = 4 * i + 4 := by omega
    have e5 : (0 : Int) ≤ 4 * (i : Int) := by omega
    have e6 : 4 * (i : Int) + 4 ≤ 64 := by omega
    have e7 : 4 * (i : Int) ≤ 4 * (i : Int) + 4 := by omega
    have e8 : min (4 * i + 4) 64 - 4 * i = 4 := by omega
    obtain ⟨q, hq⟩ : ∃ q, q = List.drop (4 * i) (List.take (4 * i + 4) b) := ⟨_, rfl⟩
    have hql : q.length = 4 := by rw [hq]; simp; omega
    have hqw : q = (b.drop (4 * i)).take 4 := by rw [hq, List.drop_take]; congr 1; omega
    simp -implicitDefEqProofs -dsimp [hlt', e1, e2, e3, e4, e5, e6, e7, hb, e8, ← hq]
    have z0 := W1_put0 b i (by omega)
    refine LpK.mk (anys _ [25]) mixed (fun j : Nat => j ≤ 4) (fun j => ⟨[(0, .sl .imm nl 1 (u8s b)), (2, .ptr 2 0), (3, .ptr 3 0), (4, .lit (.int .i64 i)), (10, .lit (.int .i64 i)), (19, .sl .imm nl 1 (u8s q)), (20, .lit (.int .i64 4)), (21, .lit (.int .i64 j))],
      [(3, .cells (ints .u32 (put1 (W1 b i) i (wordB (q.take j))))), (2, .cells (ints .u32 (zer 64)))], 78⟩) (fun j => 4 - j) 0 (by simp) (by simp -implicitDefEqProofs -dsimp [z0, wordB, hql]) ?_
    intro j hj
    by_cases hlt2 : j < 4
    · have hl2 : (j : Int) < 4 := by omega
      have hl3 : j < q.length := by omega
      have hg : (put1 (W1 b i) i (wordB (q.take j)))[i]? = some (wordB (q.take j)) := by rw [put1_get _ (by simp; omega), if_pos rfl]
      have hw : IntKind.i64.wrap ((j : Int) + 1) = ((j + 1 : Nat) : Int) := wrap64 (by omega) (by omega)
      have hl4 : (i : Int) < 64 := by omega
      have hs : wordB (q.take (j + 1)) = ior .u32 (ishl .u32 (wordB (q.take j)) 8) (IntKind.u32.wrap q[j]) := by rw [List.take_succ_eq_append_getElem hl3, wordB_snoc]
      have hpp := put1_put1 (wordB (q.take j)) (wordB (q.take (j + 1))) (l := W1 b i) (i := i) (by simp; omega)
      have hlen : (put1 (W1 b i) i (wordB (q.take j))).length = 64 := by rw [put1_length _ (by simp; omega)]; simp
      have hi64 : i < 64 := by omega
      have hi63 : i ≤ 63 := by omega
      have hg2 : (put1 (W1 b i) i (wordB (q.take j)))[i]'(by rw [hlen]; exact hi64) = wordB (q.take j) := by
        rw [List.getElem?_eq_getElem (by rw [hlen]; exact hi64)] at hg; exact Option.some.inj hg
      rw [hs] at hpp
      obtain ⟨y, hy⟩ : ∃ y, y = q[j] := ⟨_, rfl⟩
      have hgq : q[j]? = some y := by rw [List.getElem?_eq_getElem hl3, hy]
      rw [← hy] at hpp hs
      simp -implicitDefEqProofs -dsimp [hl2, hgq, hg, hg2, hl4, hw, hpp, hlen, hi64, hi63]
      refine .mk (j + 1) (by omega) (by omega) (by simp -implicitDefEqProofs -dsimp [hs])
    · have e : j = 4 := by omega
      subst e
      have hw : IntKind.i64.wrap ((i : Int) + 1) = ((i + 1 : Nat) : Int) := wrap64 (by omega) (by omega)
      have hp := W1_put b i (by omega)
      have ht : q.take 4 = q := List.take_of_length_le (by omega)
      rw [← hqw] at hp
      simp -implicitDefEqProofs -dsimp [hw, ht, hp]
      refine .mk (i + 1) (by omega) (by omega) (by simp -implicitDefEqProofs -dsimp)
  · have hi : i = 16 := by omega
    subst hi
    simp -implicitDefEqProofs -dsimp
    refine LpK.mk (anys _ [25]) mixed (fun n : Nat => n ≤ 48) (fun n => ⟨[(0, .sl .imm nl 1 (u8s b)), (2, .ptr 2 0), (3, .ptr 3 0), (7, .lit (.int .i64 ((n : Int) + 16)))], [(3, .cells (ints .u32 (WS b n))), (2, .cells (ints .u32 (zer 64)))], 78⟩)
      (fun n => 48 - n) 0 (by simp) (by simp -implicitDefEqProofs -dsimp [WS]) ?_
    intro n hn
    have hln := WS_length b n hn
    by_cases hlt : n < 48
    · have h1 : (n : Int) + 16 < 64 := by omega
      have e1 : IntKind.i64.wrap ((n : Int) + 16 - 15) = (n : Int) + 1 := by rw [wrap64 (by omega) (by omega)]; omega
      have e2 : IntKind.i64.wrap ((n : Int) + 16 - 2) = (n : Int) + 14 := by rw [wrap64 (by omega) (by omega)]; omega
      have e3 : IntKind.i64.wrap (n : Int) = (n : Int) := wrap64 (by omega) (by omega)
      have e4 : IntKind.i64.wrap ((n : Int) + 16 - 7) = (n : Int) + 9 := by rw [wrap64 (by omega) (by omega)]; omega
      have i1 : (0 : Int) ≤ (n : Int) + 1 ∧ (n : Int) + 1 < 64 := by omega
      have i2 : (0 : Int) ≤ (n : Int) + 14 ∧ (n : Int) + 14 < 64 := by omega
      have i3 : (0 : Int) ≤ (n : Int) + 9 ∧ (n : Int) + 9 < 64 := by omega
      have i4 : (n : Int) < 64 := by omega
      have i5 : (0 : Int) ≤ (n : Int) + 16 := by omega
      have t1 : ((n : Int) + 14).toNat = n + 14 := by omega
      have t2 : ((n : Int) + 9).toNat = n + 9 := by omega
      have t3 : ((n : Int) + 16).toNat = n + 16 := by omega
      have hws : WS b (n + 1) = put1 (WS b n) (n + 16) (nxtV ((WS b n).getD n 0) ((WS b n).getD (n + 1) 0) ((WS b n).getD (n + 9) 0) ((WS b n).getD (n + 14) 0)) := rfl
      have g1 := getD_get (l := WS b n) (i := n) (by omega)
      have g2 := getD_get (l := WS b n) (i := n + 1) (by omega)
      have g3 := getD_get (l := WS b n) (i := n + 9) (by omega)
      have g4 := getD_get (l := WS b n) (i := n + 14) (by omega)
      generalize (WS b n).getD n 0 = p at *
      generalize (WS b n).getD (n + 1) 0 = x at *
      generalize (WS b n).getD (n + 9) 0 = q at *
      generalize (WS b n).getD (n + 14) 0 = y at *
      have h17 : n + 16 + 1 ≤ (WS b n).length := by omega
      have hw : IntKind.i64.wrap ((n : Int) + 16 + 1) = (n : Int) + 1 + 16 := by rw [wrap64 (by omega) (by omega)]; omega
      simp -implicitDefEqProofs -dsimp [h1, e1, e2, e3, e4, i1, i2, i3, i4, i5, g1, g2, g3, g4, t1, t2, t3]
      refine CallK.reads ?_
      simp -implicitDefEqProofs -dsimp
      refine CallQ.same (turn_fn x 7 (by decide) (by decide)) rfl ?_
      simp -implicitDefEqProofs -dsimp [h1, e1, e2, e3, e4, i1, i2, i3, i4, i5, g1, g2, g3, g4, h17, hw, t1, t2, t3]
      refine CallK.reads ?_
      simp -implicitDefEqProofs -dsimp
      refine CallQ.same (turn_fn x 18 (by decide) (by decide)) rfl ?_
      simp -implicitDefEqProofs -dsimp [h1, e1, e2, e3, e4, i1, i2, i3, i4, i5, g1, g2, g3, g4, h17, hw, t1, t2, t3]
      refine CallK.reads ?_
      simp -implicitDefEqProofs -dsimp
      refine CallQ.same (turn_fn y 17 (by decide) (by decide)) rfl ?_
      simp -implicitDefEqProofs -dsimp [h1, e1, e2, e3, e4, i1, i2, i3, i4, i5, g1, g2, g3, g4, h17, hw, t1, t2, t3]
      refine CallK.reads ?_
      simp -implicitDefEqProofs -dsimp
      refine CallQ.same (turn_fn y 19 (by decide) (by decide)) rfl ?_
      simp -implicitDefEqProofs -dsimp [h1, e1, e2, e3, e4, i1, i2, i3, i4, i5, g1, g2, g3, g4, h17, hw, t1, t2, t3]
      trace_state
      refine .mk (n + 1) (by omega) (by omega) (by simp -implicitDefEqProofs -dsimp [hws, nxtV])
    · have e : n = 48 := by omega
      subst e
      simp -implicitDefEqProofs -dsimp [hln]
      exact List.take_of_length_le (by omega)

end Go.Proofs.YtdbdoilfimiihaaDoor

/-! Digests: the state behind a block. -/
namespace Go.Sy
theorem keys_length : keys.length = 64 := by decide
@[simp] theorem plain_agg_ints (k : IntKind) (l : List Int) : Plain (.agg (ints k l)) := .agg _ fun x hx => by
  simp only [ints, List.mem_map] at hx
  obtain ⟨n, _, rfl⟩ := hx
  exact ⟨_, rfl⟩
@[simp] theorem lendCells_ints (k : IntKind) (l : List Int) : lendCells (ints k l) = some (ints k l) := by
  induction l with
  | nil => rfl
  | cons n l ih =>
    show lendCells (.lit (.int k n) :: ints k l) = _
    simp only [lendCells, lendCell, ih]; rfl
@[simp ↓ high] theorem ev_keys (st : St) : st.ev (.global 0) = .cur .imm (ints .u32 keys) := (rfl)
theorem stp_length {k w : Int} {S : List Int} (h : S.length = 8) : (stp k w S).length = 8 := by
  match S, h with
  | [a, b, c, d, e, f, g, h], _ => rfl
theorem ints_zer8 : ints .u32 (zer 8) = [.lit (.int .u32 0), .lit (.int .u32 0), .lit (.int .u32 0), .lit (.int .u32 0), .lit (.int .u32 0), .lit (.int .u32 0), .lit (.int .u32 0), .lit (.int .u32 0)] := (rfl)
/-- Two rows' sums, the first i. -/
def smL (S R : List Int) : Nat → List Int
  | 0 => R
  | i + 1 => put1 (smL S R i) i (IntKind.u32.wrap (R.getD i 0 + S.getD i 0))
theorem smL_length {S R : List Int} (h : R.length = 8) : ∀ n, n ≤ 8 → (smL S R n).length = 8
  | 0, _ => h
  | n + 1, hn => by rw [smL, put1_length _ (by rw [smL_length h n (by omega)]; omega)]; exact smL_length h n (by omega)
theorem smL_get {S R : List Int} (h : R.length = 8) : ∀ n j, n ≤ 8 → n ≤ j → (smL S R n)[j]? = R[j]?
  | 0, _, _, _ => rfl
  | n + 1, j, hn, hj => by rw [smL, put1_get _ (by rw [smL_length h n (by omega)]; omega), if_neg (by omega)]; exact smL_get h n j (by omega) (by omega)
/-- The state behind n of a block's numbers. -/
def rnd (b S : List Int) : Nat → List Int
  | 0 => S
  | n + 1 => stp (keys.getD n 0) ((WS b 48).getD n 0) (rnd b S n)
theorem rnd_length {b S : List Int} (h : S.length = 8) : ∀ n, (rnd b S n).length = 8
  | 0 => h
  | n + 1 => stp_length (rnd_length h n)
/-- The state behind a block. -/
def bhd (b S : List Int) : List Int := smL S (rnd b S 64) 8
end Go.Sy
namespace Go.Proofs.YtdbdoilfimiihaaDoor
open Go.Sy
theorem step_fn2 (S : List Int) (h : S.length = 8) (k w : Int) : Fc Tryd.prog 21 [.agg (ints .u32 S), .lit (.int .u32 k), .lit (.int .u32 w)] [] (.agg (ints .u32 (stp k w S))) [] := by
  match S, h with
  | [a, b, c, d, e, f, g, h], _ => exact step_fn a b c d e f g h k w

set_option maxRecDepth 100000 in
set_option maxHeartbeats 4000000 in
theorem behind_fn (nl : Bool) (b S : List Int) (hb : b.length = 64) (hS : S.length = 8) : Fc Tryd.prog 13 [.agg (ints .u32 S), .sl .imm nl 1 (u8s b)] [] (.agg (ints .u32 (bhd b S))) [] := by
  refine Fc.of (anys _ [20, 21]) sch13 mixed Tryd.func13 rfl (by rfl) (by simp [Tryd.ntmps13]) (by decide) ?_
  have hS' : S.take 8 = S := List.take_of_length_le (by omega)
  simp -implicitDefEqProofs -dsimp [Tryd.ntmps13, hS, hS']
  refine CallK.reads ?_
  simp -implicitDefEqProofs -dsimp
  refine CallQ.same (spread_fn nl b hb) rfl ?_
  simp -implicitDefEqProofs -dsimp [hS']
  have hWl := WS_length b 48 (by omega)
  obtain ⟨W, hW⟩ : ∃ W, W = WS b 48 := ⟨_, rfl⟩
  rw [← hW] at hWl ⊢
  refine LpK.mk (anys _ [20, 21]) mixed (fun n : Nat => n ≤ 64) (fun n => ⟨[(11, .agg (ints .u32 W)), (2, .ptr 2 0), (4, .ptr 4 0), (5, .ptr 5 0), (12, .lit (.int .i64 n))], [(5, .cells (ints .u32 (rnd b S n))), (4, .cells (ints .u32 (zer 8))), (2, .cells (ints .u32 S))], 36⟩)
    (fun n => 64 - n) 0 (by simp) (by simp -implicitDefEqProofs -dsimp [rnd, ints_zer8]) ?_
  intro n hn
  have hl := rnd_length (b := b) hS n
  by_cases hlt : n < 64
  · have h1 : (n : Int) < 64 := by omega
    have g1 := getD_get (l := W) (i := n) (by omega)
    have g2 := getD_get (l := keys) (i := n) (by rw [keys_length]; omega)
    have hr : rnd b S (n + 1) = stp (keys.getD n 0) (W.getD n 0) (rnd b S n) := by rw [hW]; rfl
    have hw : IntKind.i64.wrap ((n : Int) + 1) = (n : Int) + 1 := wrap64 (by omega) (by omega)
    generalize W.getD n 0 = x at *
    generalize keys.getD n 0 = y at *
    have kl : n ≤ keys.length := by rw [keys_length]; omega
    have ht : (rnd b S n).take 8 = rnd b S n := List.take_of_length_le (by omega)
    have hsl : (stp y x (rnd b S n)).length = 8 := stp_length hl
    have hdr : (rnd b S n).drop 8 = [] := List.drop_eq_nil_of_le (by omega)
    simp -implicitDefEqProofs -dsimp [h1, g1, g2, hl, kl, indexPV, ht]
    refine CallK.reads ?_
    simp -implicitDefEqProofs -dsimp
    refine CallQ.same (step_fn2 (rnd b S n) hl y x) rfl ?_
    simp -implicitDefEqProofs -dsimp [h1, g1, g2, hl, kl, hw, ht, hsl, hdr]
    refine .mk (n + 1) (by omega) (by omega) (by simp -implicitDefEqProofs -dsimp [hr])
  · have e : n = 64 := by omega
    subst e
    simp -implicitDefEqProofs -dsimp
    obtain ⟨R, hR⟩ : ∃ R, R = rnd b S 64 := ⟨_, rfl⟩
    have hRl : R.length = 8 := by rw [hR]; exact hl
    rw [← hR]
    refine LpK.mk (anys _ [20, 21]) mixed (fun n : Nat => n ≤ 8) (fun n => ⟨[(2, .ptr 2 0), (4, .ptr 4 0), (5, .ptr 5 0), (23, .lit (.int .i64 n))], [(5, .cells (ints .u32 (smL S R n))), (4, .cells (ints .u32 (zer 8))), (2, .cells (ints .u32 S))], 36⟩)
      (fun n => 8 - n) 0 (by simp) (by simp -implicitDefEqProofs -dsimp [smL]) ?_
    intro n hn
    have hl := smL_length (S := S) hRl n hn
    by_cases hlt : n < 8
    · have h1 : (n : Int) < 8 := by omega
      have g1 : (smL S R n)[n]? = some (R.getD n 0) := by rw [smL_get hRl n n hn (Nat.le_refl n)]; exact getD_get (by omega)
      have g2 := getD_get (l := S) (i := n) (by omega)
      have hr : smL S R (n + 1) = put1 (smL S R n) n (IntKind.u32.wrap (R.getD n 0 + S.getD n 0)) := rfl
      have hw : IntKind.i64.wrap ((n : Int) + 1) = (n : Int) + 1 := wrap64 (by omega) (by omega)
      generalize R.getD n 0 = x at *
      generalize S.getD n 0 = y at *
      have l1 : n + 1 ≤ (smL S R n).length := by omega
      simp -implicitDefEqProofs -dsimp [h1, g1, g2, l1, hw]
      refine .mk (n + 1) (by omega) (by omega) (by simp -implicitDefEqProofs -dsimp [hr])
    · have e : n = 8 := by omega
      subst e
      simp -implicitDefEqProofs -dsimp [hl]
      rw [List.take_of_length_le (by omega), hR]; rfl

end Go.Proofs.YtdbdoilfimiihaaDoor

/-! Digests: rows put together. -/
namespace Go.Sy
/-- Arguments that say more. -/
theorem Fc.args {P : Program} {k : FuncId} {xs bs : List PV} {h h1 : List (Nat × Ob)} {x : PV} (hf : Fc P k bs h x h1) (hw : weakL xs bs) : Fc P k xs h x h1 := by
  refine ⟨hf.ok, fun g w vs a b c => hf.run g w vs a b ?_⟩
  obtain ⟨e1, e2⟩ := weakL_get hw
  refine ⟨c.1.trans e1, fun i y u hy hu => ?_⟩
  obtain ⟨z, hz, hzw⟩ := e2 i y hy
  exact hzw.rep (c.2 i z u hz hu)
end Go.Sy
namespace Go.Proofs.YtdbdoilfimiihaaDoor
open Go.Sy

theorem fr_u8s (n : Nat) (nl : Bool) (xs : List Int) : Fr (.sl (.own (.loc n)) nl 1 (u8s xs)) := .row n _ _ _ fun x hx y hy => by
  simp only [u8s, ints, List.mem_map] at hx
  obtain ⟨n, _, rfl⟩ := hx
  simp [PV.comps] at hy
  exact ⟨_, hy⟩
@[simp] theorem fr_nils (o : Own) (s : Nat) : Fr (.sl o true s []) := .nil o s
@[simp] theorem fr_none (n : Nat) (nl : Bool) : Fr (.sl (.own (.loc n)) nl 1 []) := fr_u8s n nl []
theorem wrap_0 : IntKind.i64.wrap 0 = 0 := by decide
theorem reps_u8 (n : Nat) : reps n [.lit (.int .u8 0)] = u8s (zer n) := by
  induction n with
  | zero => rfl
  | succ n ih =>
    have : reps (n + 1) [.lit (.int .u8 0)] = .lit (.int .u8 0) :: reps n [.lit (.int .u8 0)] := rfl
    rw [this, ih]; rfl
theorem ints_all (k : IntKind) (l : List Int) (f : PV → Bool) (h : ∀ n, f (.lit (.int k n)) = true) : (ints k l).all f = true := by
  simp [ints, h]
theorem grow_u8 (o : Own) (s : Nat) (n : Nat) (h0 : 0 < n) (h1 : n ≤ 1000000000) : growPV Tryd.prog 22 3 (.sl o true s []) (.lit (.int .i64 n)) = some (1, u8s (zer n)) := by
  have hr : roomOf Tryd.prog 5 = 1 := by kernel_rfl
  have hi : (n : Int) ≤ 1099511627776 := by omega
  have e1 : (u8s (zer n)).all litB = true := ints_all _ _ _ fun _ => rfl
  have e2 : (u8s (zer n)).all (wideB 1) = true := ints_all _ _ _ fun _ => rfl
  simp [growPV, elemsOf, -reps, reps_u8, h0, hi, e1, e2]
  omega

set_option maxRecDepth 100000 in
set_option maxHeartbeats 4000000 in
theorem clone_fn (nl : Bool) (xs : List Int) (hn : nl = true → xs = []) (hl : xs.length ≤ 140737488355328) : Fc Tryd.prog 14 [.sl .imm nl 1 (u8s xs)] [] (.sl (.own (.loc 5)) nl 1 (u8s xs)) [] := by
  refine Fc.of (anys _ []) [] mixed Tryd.func14 rfl (by rfl) (by simp [Tryd.ntmps14]) (by decide) ?_
  simp -implicitDefEqProofs -dsimp [Tryd.ntmps14, binPV]
  refine Cnd.mk (fun h => ?_) (fun h => ?_)
  · subst h
    simp [hn rfl]
  · subst h
    simp [hl]

set_option maxRecDepth 100000 in
set_option maxHeartbeats 4000000 in
theorem grow0_fn : Fc Tryd.prog 19 [.sl .imm true 0 [], .lit (.int .i64 0)] [] (.sl .imm true 1 []) [] := by
  refine Fc.of (anys _ []) [] mixed Tryd.func19 rfl (by rfl) (by simp [Tryd.ntmps19]) (by decide) ?_
  simp -implicitDefEqProofs -dsimp [Tryd.ntmps19, wrap_0]

set_option maxRecDepth 100000 in
set_option maxHeartbeats 4000000 in
theorem grow_fn (n : Nat) (h0 : 0 < n) (h1 : n ≤ 1000000000) : Fc Tryd.prog 19 [.sl .imm true 0 [], .lit (.int .i64 n)] [] (.sl (.own (.loc 22)) false 1 []) [] := by
  refine Fc.args (bs := [.sl .imm true 1 [], .lit (.int .i64 n)]) ?_ (by simp)
  have g := grow_u8 .imm 1 n h0 h1
  have g0 : (0 : Int) < n := by omega
  have g1 : ¬ (n : Int) < 0 := by omega
  have hw : IntKind.i64.wrap (n : Int) = n := wrap64 (by omega) (by omega)
  refine Fc.of (anys _ []) [] mixed Tryd.func19 rfl (by rfl) (by simp [Tryd.ntmps19]) (by decide) ?_
  simp -implicitDefEqProofs -dsimp [Tryd.ntmps19, g, h0, g1, hw, wrap_0]

/-- Two rows, the first i of them. -/
def two (a b : List Int) : Nat → List Int
  | 0 => []
  | 1 => a
  | _ => a ++ b

set_option maxRecDepth 100000 in
set_option maxHeartbeats 4000000 in
theorem concat_fn (n1 n2 : Bool) (a b : List Int) (h0 : 0 < a.length + b.length) (h1 : a.length + b.length ≤ 1000000000) :
    Fc Tryd.prog 12 [.sl .imm false 1 [.sl .imm n1 1 (u8s a), .sl .imm n2 1 (u8s b)]] [] (.sl (.own (.loc 1240)) false 1 (u8s (a ++ b))) [] := by
  refine Fc.of (anys _ [19]) [] mixed Tryd.func12 rfl (by rfl) (by simp [Tryd.ntmps12]) (by decide) ?_
  simp -implicitDefEqProofs -dsimp [Tryd.ntmps12]
  refine LpK.mk (anys _ [19]) mixed (fun i : Nat => i ≤ 2) (fun i => ⟨[(0, .sl .imm false 1 [.sl .imm n1 1 (u8s a), .sl .imm n2 1 (u8s b)]), (9, .sl .imm false 1 [.sl .imm n1 1 (u8s a), .sl .imm n2 1 (u8s b)]), (3, .lit (.int .i64 (two a b i).length)), (10, .lit (.int .i64 2)), (11, .lit (.int .i64 i))], [], 36⟩)
    (fun i => 2 - i) 0 (by simp) (by simp -implicitDefEqProofs -dsimp [two]) ?_
  intro i hi
  have w1 : IntKind.i64.wrap 1 = 1 := by decide
  have w2 : IntKind.i64.wrap 2 = 2 := by decide
  have w3 : IntKind.i64.wrap (a.length : Int) = a.length := wrap64 (by omega) (by omega)
  have w4 : IntKind.i64.wrap ((a.length : Int) + b.length) = a.length + b.length := wrap64 (by omega) (by omega)
  have g1 : ¬ (a.length : Int) < 0 := by omega
  have g2 : ¬ ((a.length : Int) + b.length) < 0 := by omega
  rcases (by omega : i = 0 ∨ i = 1 ∨ i = 2) with rfl | rfl | rfl
  · simp -implicitDefEqProofs -dsimp [two, w1, w3, g1]
    exact .mk 1 (by omega) (by omega) (by simp -implicitDefEqProofs -dsimp [two])
  · simp -implicitDefEqProofs -dsimp [two, w2, w4, g2]
    exact .mk 2 (by omega) (by omega) (by simp -implicitDefEqProofs -dsimp [two])
  · simp -implicitDefEqProofs -dsimp [two]
    refine CallK.fresh ?_
    simp -implicitDefEqProofs -dsimp
    refine CallQ.same (grow_fn (a.length + b.length) h0 h1) rfl ?_
    simp -implicitDefEqProofs -dsimp [fr_u8s]
    refine LpK.mk (anys _ [19]) mixed (fun i : Nat => i ≤ 2) (fun i => ⟨[(25, .sl .imm false 1 [.sl .imm n1 1 (u8s a), .sl .imm n2 1 (u8s b)]), (6, .sl (.own (.loc 1240)) false 1 (u8s (two a b i))), (26, .lit (.int .i64 2)), (27, .lit (.int .i64 i))], [], 36⟩)
      (fun i => 2 - i) 0 (by simp) (by simp -implicitDefEqProofs -dsimp [two]) ?_
    intro i hi
    rcases (by omega : i = 0 ∨ i = 1 ∨ i = 2) with rfl | rfl | rfl
    · have l1 : a.length ≤ 140737488355328 := by omega
      simp -implicitDefEqProofs -dsimp [two, w1, l1]
      exact .mk 1 (by omega) (by omega) (by simp -implicitDefEqProofs -dsimp [two])
    · have l1 : a.length + b.length ≤ 140737488355328 := by omega
      simp -implicitDefEqProofs -dsimp [two, w2, l1]
      exact .mk 2 (by omega) (by omega) (by simp -implicitDefEqProofs -dsimp [two])
    · simp -implicitDefEqProofs -dsimp [two]

set_option maxRecDepth 100000 in
set_option maxHeartbeats 4000000 in
theorem concat0_fn (n1 n2 : Bool) :
    Fc Tryd.prog 12 [.sl .imm false 1 [.sl .imm n1 1 (u8s []), .sl .imm n2 1 (u8s [])]] [] (.sl .imm true 1 []) [] := by
  refine Fc.of (anys _ [19]) [] mixed Tryd.func12 rfl (by rfl) (by simp [Tryd.ntmps12]) (by decide) ?_
  simp -implicitDefEqProofs -dsimp [Tryd.ntmps12]
  refine LpK.mk (anys _ [19]) mixed (fun i : Nat => i ≤ 2) (fun i => ⟨[(0, .sl .imm false 1 [.sl .imm n1 1 [], .sl .imm n2 1 []]), (9, .sl .imm false 1 [.sl .imm n1 1 [], .sl .imm n2 1 []]), (3, .lit (.int .i64 0)), (10, .lit (.int .i64 2)), (11, .lit (.int .i64 i))], [], 36⟩)
    (fun i => 2 - i) 0 (by simp) (by simp -implicitDefEqProofs -dsimp) ?_
  intro i hi
  have w1 : IntKind.i64.wrap 1 = 1 := by decide
  have w2 : IntKind.i64.wrap 2 = 2 := by decide
  rcases (by omega : i = 0 ∨ i = 1 ∨ i = 2) with rfl | rfl | rfl
  · simp -implicitDefEqProofs -dsimp [w1, wrap_0]
    exact .mk 1 (by omega) (by omega) (by simp -implicitDefEqProofs -dsimp)
  · simp -implicitDefEqProofs -dsimp [w2, wrap_0]
    exact .mk 2 (by omega) (by omega) (by simp -implicitDefEqProofs -dsimp)
  · simp -implicitDefEqProofs -dsimp
    refine CallK.fresh ?_
    simp -implicitDefEqProofs -dsimp
    refine CallQ.same (grow0_fn) rfl ?_
    simp -implicitDefEqProofs -dsimp [fr_u8s]
    refine LpK.mk (anys _ [19]) mixed (fun i : Nat => i ≤ 2) (fun i => ⟨[(25, .sl .imm false 1 [.sl .imm n1 1 [], .sl .imm n2 1 []]), (6, .sl .imm true 1 []), (26, .lit (.int .i64 2)), (27, .lit (.int .i64 i))], [], 36⟩)
      (fun i => 2 - i) 0 (by simp) (by simp -implicitDefEqProofs -dsimp) ?_
    intro i hi
    rcases (by omega : i = 0 ∨ i = 1 ∨ i = 2) with rfl | rfl | rfl
    · simp -implicitDefEqProofs -dsimp [w1]
      exact .mk 1 (by omega) (by omega) (by simp -implicitDefEqProofs -dsimp)
    · simp -implicitDefEqProofs -dsimp [w2]
      exact .mk 2 (by omega) (by omega) (by simp -implicitDefEqProofs -dsimp)
    · simp -implicitDefEqProofs -dsimp
end Go.Proofs.YtdbdoilfimiihaaDoor

/-! Digests: New, Write. -/
namespace Go.Sy
def at8 (S : List Int) (i : Nat) : Int := S.getD i 0
/-- Eight numbers, as cells. -/
@[simp] def sv (S : List Int) : List PV := [.lit (.int .u32 (at8 S 0)), .lit (.int .u32 (at8 S 1)), .lit (.int .u32 (at8 S 2)), .lit (.int .u32 (at8 S 3)), .lit (.int .u32 (at8 S 4)), .lit (.int .u32 (at8 S 5)), .lit (.int .u32 (at8 S 6)), .lit (.int .u32 (at8 S 7))]
theorem plain_agg_iff (xs : List PV) : Plain (.agg xs) ↔ ∀ x, x ∈ xs → ∃ v, x = .lit v := ⟨fun h => by cases h; assumption, .agg xs⟩
@[simp] theorem plain_agg8 (a b c d e f g h : Value) : Plain (.agg [.lit a, .lit b, .lit c, .lit d, .lit e, .lit f, .lit g, .lit h]) := by
  rw [plain_agg_iff]
  intro x hx
  simp only [List.mem_cons, List.not_mem_nil, or_false] at hx
  rcases hx with rfl | rfl | rfl | rfl | rfl | rfl | rfl | rfl <;> exact ⟨_, rfl⟩
theorem sv_ints {S : List Int} (h : S.length = 8) : sv S = ints .u32 S := by
  match S, h with
  | [a, b, c, d, e, f, g, h], _ => rfl
theorem bhd_length {b S : List Int} (h : S.length = 8) : (bhd b S).length = 8 := smL_length (rnd_length h 64) 8 (by omega)
/-- The state behind the whole blocks, and what is left. -/
def absB (S l : List Int) : List Int × List Int := if 64 ≤ l.length then absB (bhd (l.take 64) S) (l.drop 64) else (S, l)
termination_by l.length
decreasing_by simp; omega
theorem absB_length {S l : List Int} (h : S.length = 8) : (absB S l).1.length = 8 := by
  unfold absB
  split
  · exact absB_length (bhd_length h)
  · exact h
termination_by l.length
decreasing_by simp; omega
end Go.Sy
namespace Go.Proofs.YtdbdoilfimiihaaDoor
open Go.Sy
theorem wrap_is_u64 (n : Int) : IntKind.u64.wrap n = n % 18446744073709551616 := by simp [IntKind.wrap, IntKind.signed, IntKind.bits]
theorem behind_fn2 (nl : Bool) (b S : List Int) (hb : b.length = 64) (hS : S.length = 8) : Fc Tryd.prog 13 [.agg (sv S), .sl .imm nl 1 (u8s b)] [] (.agg (sv (bhd b S))) [] := by
  rw [sv_ints hS, sv_ints (bhd_length hS)]; exact behind_fn nl b S hb hS

theorem first_fn2 : Fc Tryd.prog 11 [] [] (.agg (sv st0)) [] := first_fn

set_option maxRecDepth 100000 in
set_option maxHeartbeats 4000000 in
theorem new_fn : Fc Tryd.prog 5 [] [] (.ptr 3 0) [(3, .cells (sv st0 ++ [.sl (.own (.cell 3 8)) true 1 [], .lit (.int .u64 0)]))] := by
  refine Fc.of (anys _ [11]) [] mixed Tryd.func5 rfl (by rfl) (by simp [Tryd.ntmps5]) (by decide) ?_
  simp -implicitDefEqProofs -dsimp [Tryd.ntmps5]
  refine CallK.reads ?_
  simp -implicitDefEqProofs -dsimp
  refine CallQ.same (first_fn2) rfl ?_
  simp -implicitDefEqProofs -dsimp

set_option maxRecDepth 100000 in
set_option maxHeartbeats 8000000 in
theorem write_fn (S r b : List Int) (m : Int) (n1 n2 : Bool) (hS : S.length = 8) (h0 : 0 < r.length + b.length) (h1 : r.length + b.length ≤ 1000000000) :
    Fc Tryd.prog 6 [.ptr 100000 0, .sl .imm n2 1 (u8s b)] [(100000, .cells (sv S ++ [.sl (.own (.cell 100000 8)) n1 1 (u8s r), .lit (.int .u64 m)]))] (.tup [])
      [(100000, .cells (sv (absB S (r ++ b)).1 ++ [.sl (.own (.cell 100000 8)) false 1 (u8s (absB S (r ++ b)).2), .lit (.int .u64 (IntKind.u64.wrap (m + b.length)))]))] := by
  have hb : IntKind.u64.wrap (b.length : Int) = b.length := by rw [wrap_is_u64]; omega
  refine Fc.of (anys _ [12, 13, 14]) sch6 mixed Tryd.func6 rfl (by rfl) (by simp [Tryd.ntmps6]) (by decide) ?_
  simp -implicitDefEqProofs -dsimp [Tryd.ntmps6]
  refine CallK.fresh ?_
  simp -implicitDefEqProofs -dsimp
  refine CallQ.same (concat_fn n1 n2 r b h0 h1) rfl ?_
  simp -implicitDefEqProofs -dsimp [fr_u8s, hb]
  refine LpK.mk (anys _ [12, 13, 14]) mixed (fun ((T, l) : List Int × List Int) => T.length = 8 ∧ l.length ≤ 1000000000 ∧ absB S (r ++ b) = absB T l)
    (fun ((T, l) : List Int × List Int) => ⟨[(0, .ptr 100000 0), (4, .sl (.vw (.loc 1210)) false 1 (u8s l))], [(100000, .cells (sv T ++ [.sl .imm n1 1 (u8s r), .lit (.int .u64 (IntKind.u64.wrap (m + b.length)))]))], 42⟩)
    (fun (_, l) => l.length) (S, r ++ b) ⟨hS, by simpa using h1, rfl⟩ (by simp -implicitDefEqProofs -dsimp) ?_
  rintro ⟨T, l⟩ ⟨hT, hl, he⟩
  by_cases h64 : 64 ≤ l.length
  · have e1 : (64 : Int) ≤ l.length := by omega
    have hlt : (l.take 64).length = 64 := by simp; omega
    have ha : absB T l = absB (bhd (l.take 64) T) (l.drop 64) := by rw [absB, if_pos h64]
    simp -implicitDefEqProofs -dsimp [e1]
    refine CallK.reads ?_
    simp -implicitDefEqProofs -dsimp
    refine CallQ.same (behind_fn2 false (l.take 64) T hlt hT) rfl ?_
    simp -implicitDefEqProofs -dsimp [e1]
    refine .mk (bhd (l.take 64) T, l.drop 64) ⟨bhd_length hT, by simp; omega, he.trans ha⟩ (by simp; omega) (by simp -implicitDefEqProofs -dsimp)
  · have e1 : ¬ (64 : Int) ≤ l.length := by omega
    have ha : absB T l = (T, l) := by rw [absB, if_neg h64]
    rw [ha] at he
    simp -implicitDefEqProofs -dsimp [e1]
    refine CallK.fresh ?_
    simp -implicitDefEqProofs -dsimp
    refine CallQ.same (clone_fn false l (by simp) (by omega)) rfl ?_
    simp -implicitDefEqProofs -dsimp [fr_u8s]
    simp [he]

set_option maxRecDepth 100000 in
set_option maxHeartbeats 8000000 in
theorem write0_fn (S : List Int) (m : Int) (n1 n2 : Bool) (hS : S.length = 8) :
    Fc Tryd.prog 6 [.ptr 100000 0, .sl .imm n2 1 (u8s [])] [(100000, .cells (sv S ++ [.sl (.own (.cell 100000 8)) n1 1 (u8s []), .lit (.int .u64 m)]))] (.tup [])
      [(100000, .cells (sv S ++ [.sl (.own (.cell 100000 8)) true 1 (u8s []), .lit (.int .u64 (IntKind.u64.wrap (m + 0)))]))] := by
  have hb : IntKind.u64.wrap 0 = 0 := by decide
  have hab : absB S [] = (S, []) := by rw [absB, if_neg (by simp)]
  refine Fc.of (anys _ [12, 13, 14]) sch6 mixed Tryd.func6 rfl (by rfl) (by simp [Tryd.ntmps6]) (by decide) ?_
  simp -implicitDefEqProofs -dsimp [Tryd.ntmps6]
  refine CallK.fresh ?_
  simp -implicitDefEqProofs -dsimp
  refine CallQ.same (concat0_fn n1 n2) rfl ?_
  simp -implicitDefEqProofs -dsimp [fr_u8s, hb]
  refine LpK.mk (anys _ [12, 13, 14]) mixed (fun _ : Unit => True)
    (fun _ => ⟨[(0, .ptr 100000 0), (4, .sl .imm true 1 [])], [(100000, .cells (sv S ++ [.sl .imm n1 1 [], .lit (.int .u64 (IntKind.u64.wrap (m + 0)))]))], 42⟩)
    (fun _ => 0) () trivial (by simp -implicitDefEqProofs -dsimp) ?_
  rintro ⟨⟩ -
  simp -implicitDefEqProofs -dsimp
  refine CallK.fresh ?_
  simp -implicitDefEqProofs -dsimp
  refine CallQ.same (clone_fn true [] (by simp) (by simp)) rfl ?_
  simp -implicitDefEqProofs -dsimp [fr_u8s]
end Go.Proofs.YtdbdoilfimiihaaDoor
