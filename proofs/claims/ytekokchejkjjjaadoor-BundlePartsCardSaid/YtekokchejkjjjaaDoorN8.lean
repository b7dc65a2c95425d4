/- Digests, the document's answer: numbers turned. (and what stands on it) -/
import Derived.Test.YtekokchejkjjjaaDoorN7
set_option linter.unusedSimpArgs false
set_option linter.unusedVariables false

/-! Digests, the document's answer: numbers turned. -/
namespace Go.Sy
set_option maxRecDepth 100000 in
theorem wrap_u32 (n : Int) : IntKind.u32.wrap n = n % 4294967296 := by simp [IntKind.wrap, IntKind.signed, IntKind.bits]
theorem ishl_u32 {y : Int} {s : Nat} (hs : s ≤ 32) : ishl .u32 y s = (y * 2 ^ s) % 4294967296 := by
  unfold ishl
  rw [wrap_u32]
  have : min (s : Int).toNat IntKind.u32.bits = s := by simp [IntKind.bits]; omega
  rw [this]
theorem ishr_u32 {y : Int} {s : Nat} (hs : s ≤ 32) : ishr .u32 y s = y / 2 ^ s := by
  unfold ishr
  have : min (s : Int).toNat IntKind.u32.bits = s := by simp [IntKind.bits]; omega
  rw [this, Int.fdiv_eq_ediv_of_nonneg _ (by exact_mod_cast Nat.zero_le _)]
theorem ior_add32 {a y s : Nat} (ha : a < 2 ^ s) (h : y * 2 ^ s < 4294967296) (ha2 : a < 4294967296) : ior .u32 ((y * 2 ^ s : Nat) : Int) (a : Int) = ((a + y * 2 ^ s : Nat) : Int) := by
  rw [ior_nat rfl (by omega) (by simp only [IntKind.bits]; omega) (by omega) (by simp only [IntKind.bits]; omega)]
  have := Nat.shiftLeft_add_eq_or_of_lt ha y
  rw [Nat.shiftLeft_eq] at this
  simp only [Int.toNat_natCast]
  rw [← this, Nat.add_comm]
/-- Turned right by one. -/
def hlf (x : Int) : Int := x / 2 + x % 2 * 2147483648
theorem hlf_nat (n : Nat) : hlf (n : Int) = ((n / 2 + n % 2 * 2147483648 : Nat) : Int) := by unfold hlf; omega
def rotN (x : Int) : Nat → Int
  | 0 => x
  | n + 1 => hlf (rotN x n)
theorem rotN_is (x : Nat) (hx : x < 4294967296) : ∀ n, n ≤ 32 → rotN x n = ((x / 2 ^ n + x % 2 ^ n * 2 ^ (32 - n) : Nat) : Int)
  | 0, _ => by simp [rotN, Nat.mod_one]
  | n + 1, hn => by
    have ih := rotN_is x hx n (by omega)
    rw [rotN, ih, hlf_nat]
    congr 1
    have hp : 2 ^ (32 - n) = 2 * 2 ^ (32 - (n + 1)) := by rw [← Nat.pow_succ']; congr 1; omega
    have h1 : x / 2 ^ (n + 1) = x / 2 ^ n / 2 := by rw [Nat.pow_succ, Nat.div_div_eq_div_mul]
    have h2 : x % 2 ^ (n + 1) = x % 2 ^ n + 2 ^ n * (x / 2 ^ n % 2) := by rw [Nat.pow_succ, Nat.mod_mul]
    have h3 : 2 ^ n * 2 ^ (32 - (n + 1)) = 2147483648 := by rw [← Nat.pow_add, show n + (32 - (n + 1)) = 31 by omega]
    rw [h1, h2, hp]
    generalize x / 2 ^ n = q
    generalize x % 2 ^ n = r
    generalize 2 ^ (32 - (n + 1)) = t at *
    generalize 2 ^ n = u at *
    have h4 : (r + u * (q % 2)) * t = r * t + q % 2 * 2147483648 := by
      rw [Nat.add_mul, Nat.mul_comm u, Nat.mul_assoc, h3]
    rw [h4]
    have h5 : r * (2 * t) = 2 * (r * t) := by rw [Nat.mul_left_comm]
    rw [h5]
    generalize r * t = s
    omega
theorem ror_is {x n : Nat} (hx : x < 4294967296) (h0 : 0 < n) (hn : n < 32) : ror x n = rotN x n := by
  rw [rotN_is x hx n (by omega), ror, ishl_u32 (by omega), ishr_u32 (by omega)]
  have h1 : (x * 2 ^ (32 - n)) % 4294967296 = x % 2 ^ n * 2 ^ (32 - n) := by
    have : 4294967296 = 2 ^ n * 2 ^ (32 - n) := by rw [← Nat.pow_add, show n + (32 - n) = 32 by omega]
    rw [this, Nat.mul_mod_mul_right]
  have h2 : ((x : Int) * 2 ^ (32 - n)) % 4294967296 = ((x % 2 ^ n * 2 ^ (32 - n) : Nat) : Int) := by rw [← h1, Int.natCast_emod, Int.natCast_mul, Int.natCast_pow]; rfl
  have h3 : (x : Int) / 2 ^ n = ((x / 2 ^ n : Nat) : Int) := by rw [Int.natCast_ediv, Int.natCast_pow]; rfl
  rw [h2, h3]
  have h4 : x % 2 ^ n * 2 ^ (32 - n) < 4294967296 := by rw [← h1]; exact Nat.mod_lt _ (by decide)
  have h5 : x / 2 ^ n < 2 ^ (32 - n) := by
    rw [Nat.div_lt_iff_lt_mul (Nat.pow_pos (by decide)), ← Nat.pow_add, show 32 - n + n = 32 by omega]; exact hx
  exact ior_add32 h5 h4 (Nat.lt_of_le_of_lt (Nat.div_le_self _ _) hx)
theorem rotN_in {x : Int} (h : 0 ≤ x ∧ x < 4294967296) : ∀ n, 0 ≤ rotN x n ∧ rotN x n < 4294967296
  | 0 => h
  | n + 1 => by
    have := rotN_in h n
    rw [rotN, hlf]
    omega
end Go.Sy
namespace Go.Proofs.YtekokchejkjjjaaDoor
open Go.Sy


set_option maxRecDepth 100000 in
set_option maxHeartbeats 8000000 in
theorem rturn_fn (x : Int) (n : Nat) (hx : 0 ≤ x ∧ x < 4294967296) (h0 : 0 < n) (hn : n < 32) : Fc Tryd.prog 59 [.lit (.int .u32 x), .lit (.int .i64 n)] [] (.lit (.int .u32 (ror x n))) [] := by
  have hr : ror x n = rotN x n := by
    obtain ⟨m, rfl⟩ : ∃ m : Nat, x = m := ⟨x.toNat, by omega⟩
    exact ror_is (by omega) h0 hn
  rw [hr]
  refine Fc.of (anys _ []) [] mixed Tryd.func59 rfl (by rfl) (by simp [Tryd.ntmps59]) (by decide) ?_
  simp -implicitDefEqProofs -dsimp [Tryd.ntmps59]
  refine LpK.mk (anys _ []) mixed (fun i : Nat => i ≤ n) (fun i => ⟨[(0, .lit (.int .u32 (rotN x i))), (1, .lit (.int .i64 n)), (5, .lit (.int .i64 i))], [], 18⟩) (fun i => n - i) 0 (by simp) (by simp -implicitDefEqProofs -dsimp [rotN]) ?_
  intro i hi
  by_cases hlt : i < n
  · have w1 : IntKind.i64.wrap ((i : Int) + 1) = (i : Int) + 1 := wrap64 (by omega) (by omega)
    obtain ⟨hv0, hv1⟩ := rotN_in hx i
    have hs : rotN x (i + 1) = hlf (rotN x i) := rfl
    generalize rotN x i = v at *
    have q1 : iquo .u32 v 2 = v / 2 := by
      unfold iquo
      rw [Int.tdiv_eq_ediv_of_nonneg hv0, wrap_u32]; omega
    have q2 : v.tmod 2 = v % 2 := Int.tmod_eq_emod_of_nonneg hv0
    have q3 : IntKind.u32.wrap (v % 2 * 2147483648) = v % 2 * 2147483648 := by rw [wrap_u32]; omega
    have q4 : IntKind.u32.wrap (v / 2 + v % 2 * 2147483648) = hlf v := by rw [wrap_u32, hlf]; omega
    simp -implicitDefEqProofs -dsimp [hlt, w1, q1, q2, q3, q4]
    exact .mk (i + 1) hlt (by omega) (by simp -implicitDefEqProofs -dsimp [hs])
  · have e : i = n := by omega
    subst e
    simp -implicitDefEqProofs -dsimp
end Go.Proofs.YtekokchejkjjjaaDoor

/-! Digests, the document's answer: a text filled up. -/
namespace Go.Sy
/-- A text, filled up. -/
def filB (b : List Int) : List Int := b ++ 128 :: (zer ((63 * b.length + 55) % 64) ++ lenB b.length 8)
def pI (i : Nat) : Int := ((72057594037927936 / 256 ^ i : Nat) : Int)
theorem pI_succ (i : Nat) : pI (i + 1) = pI i / 256 := by
  unfold pI
  rw [Nat.pow_succ, ← Nat.div_div_eq_div_mul]
  exact Int.natCast_ediv _ _
theorem pI_is : ∀ i : Nat, i < 8 → 72057594037927936 / 256 ^ i = 2 ^ (8 * (7 - i)) := by decide
theorem pI_ne {i : Nat} (h : i < 8) : ¬ pI i = 0 := by
  unfold pI
  rw [pI_is i h]
  have : 0 < 2 ^ (8 * (7 - i)) := Nat.pow_pos (by decide)
  omega
theorem ishr_u64 {y : Int} {s : Nat} (hs : s ≤ 64) : ishr .u64 y s = y / 2 ^ s := by
  unfold ishr
  have : min (s : Int).toNat IntKind.u64.bits = s := by simp [IntKind.bits]; omega
  rw [this, Int.fdiv_eq_ediv_of_nonneg _ (by exact_mod_cast Nat.zero_le _)]
theorem wrap8_is (n : Int) : IntKind.u8.wrap n = n % 256 := by simp [IntKind.wrap, IntKind.signed, IntKind.bits]
theorem len_byte {v : Int} {i : Nat} (h : i < 8) : IntKind.u8.wrap ((v / pI i) % 256) = IntKind.u8.wrap (ishr .u64 v (8 * (7 - (i : Int)))) := by
  have e : (8 * (7 - (i : Int))) = ((8 * (7 - i) : Nat) : Int) := by omega
  rw [e, ishr_u64 (by omega), wrap8_is, wrap8_is, pI, pI_is i h, Int.natCast_pow]
  simp
end Go.Sy
namespace Go.Proofs.YtekokchejkjjjaaDoor
open Go.Sy

set_option maxRecDepth 100000 in
set_option maxHeartbeats 8000000 in
theorem filled_fn (nl : Bool) (b : List Int) (hb : b.length ≤ 1000000) : Fc Tryd.prog 57 [.sl .imm nl 1 (u8s b)] [] (.sl (.own (.loc 7)) false 1 (u8s (filB b))) [] := by
  refine Fc.of (anys _ []) [] mixed Tryd.func57 rfl (by rfl) (by simp [Tryd.ntmps57]) (by decide) ?_
  have l1 : b.length ≤ 140737488355328 := by omega
  have l2 : b.length + 1 ≤ 140737488355328 := by omega
  simp -implicitDefEqProofs -dsimp [Tryd.ntmps57, l1, l2]
  obtain ⟨z, hz⟩ : ∃ z, z = (63 * b.length + 55) % 64 := ⟨_, rfl⟩
  refine LpK.mk (anys _ []) mixed (fun j : Nat => j ≤ z)
    (fun j => ⟨[(0, .sl .imm nl 1 (u8s b)), (3, .sl (.own (.loc 7)) false 1 (u8s (b ++ 128 :: zer j)))], [], 39⟩)
    (fun j => z - j) 0 (by simp) (by simp -implicitDefEqProofs -dsimp [zer]) ?_
  intro j hj
  have ht : ((b.length : Int) + ((j : Int) + 1)).tmod 64 = ((b.length : Int) + ((j : Int) + 1)) % 64 := Int.tmod_eq_emod_of_nonneg (by omega)
  by_cases hlt : j < z
  · have hm : ¬ ((b.length : Int) + ((j : Int) + 1)) % 64 = 56 := by omega
    have l1 : b.length + (j + 1) + 1 ≤ 140737488355328 := by omega
    simp -implicitDefEqProofs -dsimp [ht, hm, l1]
    exact .mk (j + 1) hlt (by omega) (by simp -implicitDefEqProofs -dsimp [zer_succ])
  · have e : j = z := by omega
    subst e
    have hm : ((b.length : Int) + ((j : Int) + 1)) % 64 = 56 := by omega
    have hw : IntKind.u64.wrap (b.length : Int) = b.length := by rw [wrap_is_u64]; omega
    have hw8 : IntKind.u64.wrap (8 * (b.length : Int)) = IntKind.u64.wrap (b.length * 8) := by rw [Int.mul_comm]
    simp -implicitDefEqProofs -dsimp [ht, hm, hw, hw8]
    obtain ⟨v, hv⟩ : ∃ v, v = IntKind.u64.wrap ((b.length : Int) * 8) := ⟨_, rfl⟩
    have hv0 : 0 ≤ v ∧ v < 18446744073709551616 := by rw [hv, wrap_is_u64]; omega
    have hlb : ∀ n, lenB b.length (n + 1) = lenB b.length n ++ [IntKind.u8.wrap (ishr .u64 v (8 * (7 - (n : Int))))] := fun n => by rw [lenB_succ, ← hv]
    rw [← hv]
    refine LpK.mk (anys _ []) mixed (fun n : Nat => n ≤ 8)
      (fun n => ⟨[(3, .sl (.own (.loc 7)) false 1 (u8s (b ++ 128 :: (zer j ++ lenB b.length n)))), (4, .lit (.int .u64 v)), (5, .lit (.int .u64 (pI n))), (6, .lit (.int .i64 n))], [], 39⟩)
      (fun n => 8 - n) 0 (by simp) (by simp -implicitDefEqProofs -dsimp [lenB, pI]) ?_
    intro n hn
    by_cases hlt : n < 8
    · have h1 : (n : Int) < 8 := by omega
      have hp := pI_ne hlt
      have hb8 := len_byte (v := v) hlt
      have hps := pI_succ n
      have hp0 : 0 ≤ pI n := by unfold pI; exact Int.natCast_nonneg _
      have w1 : IntKind.i64.wrap ((n : Int) + 1) = (n : Int) + 1 := wrap64 (by omega) (by omega)
      have hle : v / pI n ≤ v := Int.ediv_le_self _ hv0.1
      have hge : 0 ≤ v / pI n := Int.ediv_nonneg hv0.1 hp0
      have hpu : pI n < 18446744073709551616 := by
        unfold pI
        have : 72057594037927936 / 256 ^ n ≤ 72057594037927936 := Nat.div_le_self _ _
        exact Int.lt_of_le_of_lt (Int.ofNat_le.2 this) (by decide)
      have q1 : iquo .u64 v (pI n) = v / pI n := by
        unfold iquo
        rw [Int.tdiv_eq_ediv_of_nonneg hv0.1, wrap_is_u64]; omega
      have q2 : (v / pI n).tmod 256 = (v / pI n) % 256 := Int.tmod_eq_emod_of_nonneg hge
      have q3 : iquo .u64 (pI n) 256 = pI n / 256 := by
        unfold iquo
        rw [Int.tdiv_eq_ediv_of_nonneg hp0, wrap_is_u64]; omega
      have l1 : b.length + (j + n + 1) + 1 ≤ 140737488355328 := by omega
      simp -implicitDefEqProofs -dsimp [h1, hp, q1, q2, q3, w1, l1, hb8]
      exact .mk (n + 1) hlt (by omega) (by simp -implicitDefEqProofs -dsimp [hlb, hps])
    · have e : n = 8 := by omega
      subst e
      simp -implicitDefEqProofs -dsimp
      simp [filB, hz]
end Go.Proofs.YtekokchejkjjjaaDoor

/-! Digests, the document's answer: a block's numbers. -/
namespace Go.Sy
theorem WS_keep (b : List Int) (n : Nat) : ∀ d, n + d ≤ 48 → ∀ j, j < n + 16 → (WSd b (n + d))[j]? = (WSd b n)[j]?
  | 0, _, _, _ => rfl
  | d + 1, h, j, hj => by
    rw [← Nat.add_assoc, WSd, put1_get _ (by rw [WS_length b _ (by omega)]; omega), if_neg (by omega)]
    exact WS_keep b n d (by omega) j hj
theorem V_get (b : List Int) {n j : Nat} (hn : n ≤ 48) (hj : j < n + 16) : (WSd b 48).getD j 0 = (WSd b n).getD j 0 := by
  have := WS_keep b n (48 - n) (by omega) j hj
  rw [show n + (48 - n) = 48 by omega] at this
  rw [List.getD_eq_getElem?_getD, List.getD_eq_getElem?_getD, this]
theorem V_next (b : List Int) {n : Nat} (hn : n < 48) : (WSd b 48).getD (n + 16) 0 = nxtV ((WSd b 48).getD n 0) ((WSd b 48).getD (n + 1) 0) ((WSd b 48).getD (n + 9) 0) ((WSd b 48).getD (n + 14) 0) := by
  rw [V_get b (n := n + 1) (by omega) (by omega), V_get b (n := n) (j := n) (by omega) (by omega), V_get b (n := n) (j := n + 1) (by omega) (by omega), V_get b (n := n) (j := n + 9) (by omega) (by omega), V_get b (n := n) (j := n + 14) (by omega) (by omega)]
  rw [WSd, List.getD_eq_getElem?_getD, put1_get _ (by rw [WS_length b n (by omega)]; omega), if_pos rfl]
  rfl
theorem V_first (b : List Int) {k : Nat} (hk : k < 16) : (WSd b 48).getD k 0 = wordB ((b.drop (4 * k)).take 4) := by
  rw [V_get b (n := 0) (by omega) (by omega), WSd, List.getD_eq_getElem?_getD, W1_get, if_pos (by omega), if_pos hk]; rfl
theorem wrap32_in (x : Int) : 0 ≤ IntKind.u32.wrap x ∧ IntKind.u32.wrap x < 4294967296 := by rw [wrap_u32]; omega
theorem word_step {y a : Int} (hy : 0 ≤ y ∧ y < 16777216) (ha : 0 ≤ a ∧ a < 256) : ior .u32 (ishl .u32 y 8) (IntKind.u32.wrap a) = y * 256 + a := by
  obtain ⟨p, rfl⟩ : ∃ p : Nat, y = p := ⟨y.toNat, by omega⟩
  obtain ⟨q, rfl⟩ : ∃ q : Nat, a = q := ⟨a.toNat, by omega⟩
  have e1 : IntKind.u32.wrap (q : Int) = q := by rw [wrap_u32]; omega
  have e2 : ishl .u32 (p : Int) 8 = ((p * 2 ^ 8 : Nat) : Int) := by
    have := ishl_u32 (y := p) (s := 8) (by omega)
    rw [show ((8 : Nat) : Int) = 8 from rfl] at this
    rw [this]; simp; omega
  rw [e1, e2, ior_add32 (by omega) (by omega) (by omega)]
  omega
theorem word_is {a b c d : Int} (ha : 0 ≤ a ∧ a < 256) (hb : 0 ≤ b ∧ b < 256) (hc : 0 ≤ c ∧ c < 256) (hd : 0 ≤ d ∧ d < 256) : wordB [a, b, c, d] = 16777216 * a + 65536 * b + 256 * c + d := by
  simp only [wordB, List.foldl_cons, List.foldl_nil]
  rw [word_step (y := 0) (by omega) ha, word_step (by omega) hb, word_step (by omega) hc, word_step (by omega) hd]
  omega
theorem V_in {b : List Int} (hb : b.length = 64) (hi : InB b) {k : Nat} (hk : k < 64) : 0 ≤ (WSd b 48).getD k 0 ∧ (WSd b 48).getD k 0 < 4294967296 := by
  by_cases h : k < 16
  · rw [V_first b h]
    have e : (b.drop (4 * k)).take 4 = [b[4 * k], b[4 * k + 1], b[4 * k + 2], b[4 * k + 3]] := by
      rw [List.drop_eq_getElem_cons (by omega), List.drop_eq_getElem_cons (by omega), List.drop_eq_getElem_cons (by omega), List.drop_eq_getElem_cons (by omega)]; rfl
    have h0 := hi b[4 * k] (List.getElem_mem _)
    have h1 := hi b[4 * k + 1] (List.getElem_mem _)
    have h2 := hi b[4 * k + 2] (List.getElem_mem _)
    have h3 := hi b[4 * k + 3] (List.getElem_mem _)
    rw [e, word_is h0 h1 h2 h3]
    omega
  · obtain ⟨n, rfl⟩ : ∃ n, k = n + 16 := ⟨k - 16, by omega⟩
    rw [V_next b (by omega)]
    exact wrap32_in _
end Go.Sy
namespace Go.Proofs.YtekokchejkjjjaaDoor
open Go.Sy

set_option maxRecDepth 100000 in
set_option maxHeartbeats 8000000 in
theorem rspread_fn (nl : Bool) (b : List Int) (hb : b.length = 64) (hi : InB b) : Fc Tryd.prog 58 [.sl .imm nl 1 (u8s b)] [] (.sl (.own (.loc 49)) false 1 (ints .u32 (WSd b 48))) [] := by
  have hVl := WS_length b 48 (by omega)
  refine Fc.of (anys _ [59]) sch58 mixed Tryd.func58 rfl (by rfl) (by simp [Tryd.ntmps58]) (by decide) ?_
  simp -implicitDefEqProofs -dsimp [Tryd.ntmps58]
  refine LpK.mk (anys _ [59]) mixed (fun i : Nat => i ≤ 16)
    (fun i => ⟨[(0, .sl .imm nl 1 (u8s b)), (3, .sl (.own (.loc 49)) (decide (i = 0)) 1 (ints .u32 ((WSd b 48).take i))), (4, .lit (.int .i64 i))], [], 99⟩)
    (fun i => 16 - i) 0 (by simp) (by simp -implicitDefEqProofs -dsimp) ?_
  intro i hi16
  by_cases hlt : i < 16
  · have h1 : (i : Int) < 16 := by omega
    have hx0 : ∃ x, b[4 * i]? = some x := ⟨_, List.getElem?_eq_getElem (by omega)⟩
    have hx1 : ∃ x, b[4 * i + 1]? = some x := ⟨_, List.getElem?_eq_getElem (by omega)⟩
    have hx2 : ∃ x, b[4 * i + 2]? = some x := ⟨_, List.getElem?_eq_getElem (by omega)⟩
    have hx3 : ∃ x, b[4 * i + 3]? = some x := ⟨_, List.getElem?_eq_getElem (by omega)⟩
    obtain ⟨x0, g0⟩ := hx0
    obtain ⟨x1, g1⟩ := hx1
    obtain ⟨x2, g2⟩ := hx2
    obtain ⟨x3, g3⟩ := hx3
    have r0 := hi x0 (List.mem_of_getElem? g0)
    have r1 := hi x1 (List.mem_of_getElem? g1)
    have r2 := hi x2 (List.mem_of_getElem? g2)
    have r3 := hi x3 (List.mem_of_getElem? g3)
    have e : (b.drop (4 * i)).take 4 = [x0, x1, x2, x3] := by
      rw [List.drop_eq_getElem_cons (by omega), List.drop_eq_getElem_cons (by omega), List.drop_eq_getElem_cons (by omega), List.drop_eq_getElem_cons (by omega)]
      rw [List.getElem?_eq_getElem (by omega)] at g0 g1 g2 g3
      rw [Option.some.inj g0, Option.some.inj g1, Option.some.inj g2, Option.some.inj g3]; rfl
    have hv : (WSd b 48)[i]? = some (16777216 * x0 + 65536 * x1 + 256 * x2 + x3) := by
      rw [getD_get (by omega), V_first b hlt, e, word_is r0 r1 r2 r3]
    have ht : (WSd b 48).take (i + 1) = (WSd b 48).take i ++ [16777216 * x0 + 65536 * x1 + 256 * x2 + x3] := by rw [List.take_add_one, hv]; rfl
    have w0 : IntKind.i64.wrap (4 * (i : Int)) = 4 * (i : Int) := wrap64 (by omega) (by omega)
    have w1 : IntKind.i64.wrap (4 * (i : Int) + 1) = 4 * (i : Int) + 1 := wrap64 (by omega) (by omega)
    have w2 : IntKind.i64.wrap (4 * (i : Int) + 2) = 4 * (i : Int) + 2 := wrap64 (by omega) (by omega)
    have w3 : IntKind.i64.wrap (4 * (i : Int) + 3) = 4 * (i : Int) + 3 := wrap64 (by omega) (by omega)
    have w4 : IntKind.i64.wrap ((i : Int) + 1) = (i : Int) + 1 := wrap64 (by omega) (by omega)
    have n0 : (4 * (i : Int)).toNat = 4 * i := by omega
    have n1 : (4 * (i : Int) + 1).toNat = 4 * i + 1 := by omega
    have n2 : (4 * (i : Int) + 2).toNat = 4 * i + 2 := by omega
    have n3 : (4 * (i : Int) + 3).toNat = 4 * i + 3 := by omega
    have p0 : (0 : Int) ≤ 4 * (i : Int) := by omega
    have p1 : (0 : Int) ≤ 4 * (i : Int) + 1 := by omega
    have p2 : (0 : Int) ≤ 4 * (i : Int) + 2 := by omega
    have p3 : (0 : Int) ≤ 4 * (i : Int) + 3 := by omega
    have u0 : IntKind.u32.wrap x0 = x0 := by rw [wrap_u32]; omega
    have u1 : IntKind.u32.wrap x1 = x1 := by rw [wrap_u32]; omega
    have u2 : IntKind.u32.wrap x2 = x2 := by rw [wrap_u32]; omega
    have u3 : IntKind.u32.wrap x3 = x3 := by rw [wrap_u32]; omega
    have v0 : IntKind.u32.wrap (16777216 * x0) = 16777216 * x0 := by rw [wrap_u32]; omega
    have v1 : IntKind.u32.wrap (65536 * x1) = 65536 * x1 := by rw [wrap_u32]; omega
    have v2 : IntKind.u32.wrap (256 * x2) = 256 * x2 := by rw [wrap_u32]; omega
    have y1 : IntKind.u32.wrap (16777216 * x0 + 65536 * x1) = 16777216 * x0 + 65536 * x1 := by rw [wrap_u32]; omega
    have y2 : IntKind.u32.wrap (16777216 * x0 + 65536 * x1 + 256 * x2) = 16777216 * x0 + 65536 * x1 + 256 * x2 := by rw [wrap_u32]; omega
    have y3 : IntKind.u32.wrap (16777216 * x0 + 65536 * x1 + 256 * x2 + x3) = 16777216 * x0 + 65536 * x1 + 256 * x2 + x3 := by rw [wrap_u32]; omega
    have l1 : (min i 64 + 1) * 4 ≤ 140737488355328 ∧ min i 64 ≤ 140737488355327 := by omega
    simp -implicitDefEqProofs -dsimp [h1, g0, g1, g2, g3, w0, w1, w2, w3, w4, n0, n1, n2, n3, p0, p1, p2, p3, u0, u1, u2, u3, v0, v1, v2, y1, y2, y3, l1, hVl]
    exact .mk (i + 1) (by omega) (by omega) (by simp -implicitDefEqProofs -dsimp [ht])
  · have e : i = 16 := by omega
    subst e
    simp -implicitDefEqProofs -dsimp
    refine LpK.mk (anys _ [59]) mixed (fun n : Nat => n ≤ 48)
      (fun n => ⟨[(3, .sl (.own (.loc 49)) false 1 (ints .u32 ((WSd b 48).take (n + 16)))), (5, .lit (.int .i64 ((n : Int) + 16)))], [], 99⟩)
      (fun n => 48 - n) 0 (by simp) (by simp -implicitDefEqProofs -dsimp) ?_
    intro n hn
    by_cases hlt : n < 48
    · have h1 : (n : Int) + 16 < 64 := by omega
      have e1 : IntKind.i64.wrap ((n : Int) + 16 - 15) = (n : Int) + 1 := by rw [wrap64 (by omega) (by omega)]; omega
      have e2 : IntKind.i64.wrap ((n : Int) + 16 - 2) = (n : Int) + 14 := by rw [wrap64 (by omega) (by omega)]; omega
      have e3 : IntKind.i64.wrap (n : Int) = (n : Int) := wrap64 (by omega) (by omega)
      have e4 : IntKind.i64.wrap ((n : Int) + 16 - 7) = (n : Int) + 9 := by rw [wrap64 (by omega) (by omega)]; omega
      have hw : IntKind.i64.wrap ((n : Int) + 16 + 1) = (n : Int) + 1 + 16 := by rw [wrap64 (by omega) (by omega)]; omega
      have i1 : (0 : Int) ≤ (n : Int) + 1 := by omega
      have i2 : (0 : Int) ≤ (n : Int) + 14 := by omega
      have i3 : (0 : Int) ≤ (n : Int) + 9 := by omega
      have t1 : ((n : Int) + 14).toNat = n + 14 := by omega
      have t2 : ((n : Int) + 9).toNat = n + 9 := by omega
      have tk : ∀ j, j < n + 16 → ((WSd b 48).take (n + 16))[j]? = some ((WSd b 48).getD j 0) := fun j hj => by
        rw [List.getElem?_take_of_lt hj]; exact getD_get (by omega)
      have g1 := tk n (by omega)
      have g2 := tk (n + 1) (by omega)
      have g3 := tk (n + 9) (by omega)
      have g4 := tk (n + 14) (by omega)
      have hv := V_next b hlt
      have ht : (WSd b 48).take (n + 1 + 16) = (WSd b 48).take (n + 16) ++ [(WSd b 48).getD (n + 16) 0] := by
        rw [show n + 1 + 16 = n + 16 + 1 by omega, List.take_add_one, getD_get (by omega)]; rfl
      have rx := V_in hb hi (k := n + 1) (by omega)
      have ry := V_in hb hi (k := n + 14) (by omega)
      rw [hv] at ht
      generalize (WSd b 48).getD n 0 = p at *
      generalize (WSd b 48).getD (n + 1) 0 = x at *
      generalize (WSd b 48).getD (n + 9) 0 = q at *
      generalize (WSd b 48).getD (n + 14) 0 = y at *
      have q1 : iquo .u32 x 8 = ishr .u32 x 3 := by
        have := ishr_u32 (y := x) (s := 3) (by omega)
        rw [show ((3 : Nat) : Int) = 3 from rfl] at this
        rw [this]; unfold iquo
        rw [Int.tdiv_eq_ediv_of_nonneg rx.1, wrap_u32]; omega
      have q2 : iquo .u32 y 1024 = ishr .u32 y 10 := by
        have := ishr_u32 (y := y) (s := 10) (by omega)
        rw [show ((10 : Nat) : Int) = 10 from rfl] at this
        rw [this]; unfold iquo
        rw [Int.tdiv_eq_ediv_of_nonneg ry.1, wrap_u32]; omega
      have l1 : (min (n + 16) 64 + 1) * 4 ≤ 140737488355328 ∧ min (n + 16) 64 ≤ 140737488355327 := by omega
      simp -implicitDefEqProofs -dsimp [h1, e1, e2, e3, e4, i1, i2, i3, t1, t2, g1, g2, g3, g4, q1, q2]
      refine CallK.reads ?_
      simp -implicitDefEqProofs -dsimp
      refine CallQ.same (rturn_fn x 7 rx (by decide) (by decide)) rfl ?_
      simp -implicitDefEqProofs -dsimp [h1, e1, e2, e3, e4, i1, i2, i3, t1, t2, g1, g2, g3, g4, hw, q1, q2, l1, hVl]
      refine CallK.reads ?_
      simp -implicitDefEqProofs -dsimp
      refine CallQ.same (rturn_fn x 18 rx (by decide) (by decide)) rfl ?_
      simp -implicitDefEqProofs -dsimp [h1, e1, e2, e3, e4, i1, i2, i3, t1, t2, g1, g2, g3, g4, hw, q1, q2, l1, hVl]
      refine CallK.reads ?_
      simp -implicitDefEqProofs -dsimp
      refine CallQ.same (rturn_fn y 17 ry (by decide) (by decide)) rfl ?_
      simp -implicitDefEqProofs -dsimp [h1, e1, e2, e3, e4, i1, i2, i3, t1, t2, g1, g2, g3, g4, hw, q1, q2, l1, hVl]
      refine CallK.reads ?_
      simp -implicitDefEqProofs -dsimp
      refine CallQ.same (rturn_fn y 19 ry (by decide) (by decide)) rfl ?_
      simp -implicitDefEqProofs -dsimp [h1, e1, e2, e3, e4, i1, i2, i3, t1, t2, g1, g2, g3, g4, hw, q1, q2, l1, hVl]
      exact .mk (n + 1) (by omega) (by omega) (by simp -implicitDefEqProofs -dsimp [ht, nxtV])
    · have e : n = 48 := by omega
      subst e
      have htt : (WSd b 48).take (48 + 16) = WSd b 48 := List.take_of_length_le (by omega)
      simp -implicitDefEqProofs -dsimp [htt]
end Go.Proofs.YtekokchejkjjjaaDoor

/-! Digests, the document's answer: a step. -/
namespace Go.Sy
/-- Numbers of 32 bits. -/
def InW (l : List Int) : Prop := ∀ x, x ∈ l → 0 ≤ x ∧ x < 4294967296
theorem stp_in {k w : Int} {S : List Int} (h : InW S) : InW (stp k w S) := by
  match S with
  | [a, b, c, d, e, f, g, i] =>
    intro x hx
    simp only [stp, List.mem_cons, List.not_mem_nil, or_false] at hx
    rcases hx with rfl | rfl | rfl | rfl | rfl | rfl | rfl | rfl
    · exact wrap32_in _
    · exact h _ (by simp)
    · exact h _ (by simp)
    · exact h _ (by simp)
    · exact wrap32_in _
    · exact h _ (by simp)
    · exact h _ (by simp)
    · exact h _ (by simp)
  | [] => exact h
  | [_] => exact h
  | [_, _] => exact h
  | [_, _, _] => exact h
  | [_, _, _, _] => exact h
  | [_, _, _, _, _] => exact h
  | [_, _, _, _, _, _] => exact h
  | [_, _, _, _, _, _, _] => exact h
  | _ :: _ :: _ :: _ :: _ :: _ :: _ :: _ :: _ :: _ => exact h
theorem rnd_in {b S : List Int} (h : InW S) : ∀ n, InW (rnd b S n)
  | 0 => h
  | n + 1 => stp_in (rnd_in h n)
theorem smL_at {S R : List Int} (h : R.length = 8) : ∀ n j, n ≤ 8 → j < n → (smL S R n)[j]? = some (IntKind.u32.wrap (R.getD j 0 + S.getD j 0))
  | 0, _, _, hj => by omega
  | n + 1, j, hn, hj => by
    rw [smL, put1_get _ (by rw [smL_length h n (by omega)]; omega)]
    by_cases e : j = n
    · rw [if_pos e, e]
    · rw [if_neg e]; exact smL_at h n j (by omega) (by omega)
theorem smL_comm {S R : List Int} (hS : S.length = 8) (hR : R.length = 8) : smL R S 8 = smL S R 8 := by
  refine List.ext_getElem? fun j => ?_
  by_cases hj : j < 8
  · rw [smL_at hS 8 j (by omega) hj, smL_at hR 8 j (by omega) hj, Int.add_comm]
  · rw [List.getElem?_eq_none (by rw [smL_length hS 8 (by omega)]; omega), List.getElem?_eq_none (by rw [smL_length hR 8 (by omega)]; omega)]
theorem bhd_in {b S : List Int} (hS : S.length = 8) : InW (bhd b S) := by
  intro x hx
  obtain ⟨j, hj⟩ := List.getElem?_of_mem hx
  have hl : j < 8 := by
    have h1 := (List.getElem?_eq_some_iff.1 hj).1
    have h2 := bhd_length (b := b) hS
    omega
  have := smL_at (S := S) (R := rnd b S 64) (rnd_length hS 64) 8 j (by omega) hl
  have hj' : (smL S (rnd b S 64) 8)[j]? = some x := hj
  rw [this] at hj'
  rw [← Option.some.inj hj']
  exact wrap32_in _
theorem not_is {e : Int} (h : 0 ≤ e ∧ e < 4294967296) : IntKind.u32.wrap (4294967295 - e) = inot .u32 e := by
  have h1 : inot .u32 e = ixor .u32 4294967295 e := rfl
  rw [h1, ixor_nat rfl (by decide) (by decide) h.1 (by simpa [IntKind.bits] using h.2), wrap_u32]
  have h2 : (4294967295 : Int).toNat ^^^ e.toNat = 4294967295 - e.toNat := by
    have h3 : (4294967295 : Int).toNat = 2 ^ 32 - 1 := rfl
    rw [h3]
    have h4 : e.toNat < 2 ^ 32 := by omega
    have h5 : (BitVec.allOnes 32 ^^^ BitVec.ofNat 32 e.toNat) = ~~~ (BitVec.ofNat 32 e.toNat) := BitVec.allOnes_xor
    have h6 := congrArg BitVec.toNat h5
    rw [BitVec.toNat_xor, BitVec.toNat_allOnes, BitVec.toNat_ofNat, Nat.mod_eq_of_lt h4, BitVec.toNat_not, BitVec.toNat_ofNat, Nat.mod_eq_of_lt h4] at h6
    rw [h6]
  rw [h2]
  omega
/-- The document's digest, as ours. -/
theorem absB_rest_length (S l : List Int) : (absB S l).2.length = l.length % 64 := by
  by_cases h : 64 ≤ l.length
  · have e1 : absB S l = absB (bhd (l.take 64) S) (l.drop 64) := by rw [absB, if_pos h]
    rw [e1, absB_rest_length _ (l.drop 64)]
    simp; omega
  · have e1 : absB S l = (S, l) := by rw [absB, if_neg h]
    rw [e1]; show l.length = _; omega
termination_by l.length
decreasing_by simp; omega
theorem dig_fil (b : List Int) : Go.Proofs.YtekokchejkjjjaaDoor.digOf b = ofBs (outB (absB Go.Proofs.YtekokchejkjjjaaDoor.st0 (filB b)).1) := by
  rw [Go.Proofs.YtekokchejkjjjaaDoor.digOf, dig, filB, absB_append, padB, wantZ, absB_rest_length]
  rw [show (119 - b.length % 64) % 64 = (63 * b.length + 55) % 64 by omega]
end Go.Sy

/-! Digests, the document's answer (both tables are laid here). -/
namespace Go.Sy
@[simp ↓ high] theorem ev_keys0 (st : St) : st.ev (.global 0) = .cur .imm (ints .u32 keys) := (rfl)
end Go.Sy
namespace Go.Proofs.YtekokchejkjjjaaDoor
open Go.Sy
theorem pokeL_ints {k : IntKind} {l : List Int} {i : Nat} (v : Int) (h : i < l.length) : pokeL (l.length - i) (.lit (.int k v)) (ints k l) = ints k (put1 l i v) := by
  have h1 : (ints k l).length = l.length := ints_length
  rw [pokeL, if_pos (by rw [h1]; omega), h1, show l.length - (l.length - i) = i by omega]
  rw [List.set_eq_take_append_cons_drop, if_pos (by rw [h1]; exact h), ints_take, ints_drop, ints_mid]
  rfl
@[simp] theorem fr_ints (n : Nat) (nl : Bool) (k : IntKind) (xs : List Int) : Fr (.sl (.own (.loc n)) nl 1 (ints k xs)) := .row n _ _ _ fun x hx y hy => by
  simp only [ints, List.mem_map] at hx
  obtain ⟨n, _, rfl⟩ := hx
  simp [PV.comps] at hy
  exact ⟨_, hy⟩

set_option maxRecDepth 100000 in
set_option maxHeartbeats 16000000 in
theorem rof_fn (nl : Bool) (b : List Int) (hb : b.length ≤ 1000000) (hi : InB b) : Fc Tryd.prog 22 [.sl .imm nl 1 (u8s b)] [] (.lit (.string (digOf b))) [] := by
  refine Fc.of (anys _ [57, 58, 59]) sch22 mixed Tryd.func22 rfl (by rfl) (by simp [Tryd.ntmps22]) (by decide) ?_
  simp -implicitDefEqProofs -dsimp [Tryd.ntmps22]
  refine CallK.fresh ?_
  simp -implicitDefEqProofs -dsimp
  refine CallQ.same (filled_fn nl b (by omega)) rfl ?_
  simp -implicitDefEqProofs -dsimp [fr_u8s]
  have hFi : InB (filB b) := by
    intro x hx
    rcases List.mem_append.1 hx with hx | hx
    · exact hi x hx
    · rcases List.mem_cons.1 hx with rfl | hx
      · omega
      · rcases List.mem_append.1 hx with hx | hx
        · have := (List.mem_replicate.1 hx).2
          omega
        · simp only [lenB, List.mem_map] at hx
          obtain ⟨i, _, rfl⟩ := hx
          exact wrap8_in _
  have hFl : (filB b).length = b.length + 9 + (63 * b.length + 55) % 64 := by simp [filB]; omega
  have hqe : ∃ q, (filB b).length = 64 * q ∧ q ≤ 200000 := ⟨(b.length + 9 + (63 * b.length + 55) % 64) / 64, by rw [hFl]; omega, by omega⟩
  obtain ⟨q, hq, hql⟩ := hqe
  have hd := dig_fil b
  generalize filB b = F at *
  refine LpK.mk (anys _ [57, 58, 59]) mixed (fun ((k, H) : Nat × List Int) => k ≤ q ∧ H.length = 8 ∧ InW H ∧ absB st0 F = absB H (F.drop (64 * k)))
    (fun ((k, H) : Nat × List Int) => ⟨[(3, .sl (.own (.loc 16)) false 1 (ints .u32 H)), (4, .sl (.own (.loc 1180)) false 1 (u8s F)), (5, .lit (.int .i64 (64 * (k : Int))))], [], 180⟩)
    (fun (k, _) => q - k) (0, st0) ⟨by omega, rfl, by unfold InW st0; decide, by simp⟩ (by simp -implicitDefEqProofs -dsimp [show ints .u32 st0 = [.lit (.int .u32 1779033703), .lit (.int .u32 3144134277), .lit (.int .u32 1013904242), .lit (.int .u32 2773480762), .lit (.int .u32 1359893119), .lit (.int .u32 2600822924), .lit (.int .u32 528734635), .lit (.int .u32 1541459225)] from rfl]) ?_
  rintro ⟨k, H⟩ ⟨hk, hHl, hHi, he⟩
  by_cases hlt : k < q
  · have h1 : 64 * (k : Int) < F.length := by omega
    have w1 : IntKind.i64.wrap (64 * (k : Int) + 64) = 64 * (k : Int) + 64 := wrap64 (by omega) (by omega)
    have h2 : (0 : Int) ≤ 64 * (k : Int) := by omega
    have h3 : 64 * (k : Int) ≤ 64 * (k : Int) + 64 := by omega
    have h4 : 64 * (k : Int) + 64 ≤ F.length := by omega
    have n1 : (64 * (k : Int)).toNat = 64 * k := by omega
    have n2 : (64 * (k : Int) + 64).toNat = 64 * k + 64 := by omega
    obtain ⟨p, hp⟩ : ∃ p, p = List.drop (64 * k) (List.take (64 * k + 64) F) := ⟨_, rfl⟩
    have hp2 : p = (F.drop (64 * k)).take 64 := by rw [hp, List.drop_take]; congr 1; omega
    have hpl : p.length = 64 := by rw [hp2]; simp; omega
    have hpi : InB p := fun x hx => hFi x (by rw [hp2] at hx; exact List.mem_of_mem_drop (List.mem_of_mem_take hx))
    have l8 : H.length ≤ 140737488355328 := by omega
    simp -implicitDefEqProofs -dsimp [h1, w1, h2, h3, h4, n1, n2, ← hp]
    refine CallK.fresh ?_
    simp -implicitDefEqProofs -dsimp
    refine CallQ.same (rspread_fn false p hpl hpi) rfl ?_
    simp -implicitDefEqProofs -dsimp [fr_u8s, hHl]
    have hWl := WS_length p 48 (by omega)
    refine LpK.mk (anys _ [57, 58, 59]) mixed (fun ((n, tok) : Nat × Nat) => n ≤ 64 ∧ (n = 0 ∧ tok = 31 ∨ 0 < n ∧ tok = 128))
      (fun ((n, tok) : Nat × Nat) => ⟨[(3, .sl (.own (.loc 16)) false 1 (ints .u32 H)), (4, .sl (.own (.loc 1180)) false 1 (u8s F)), (5, .lit (.int .i64 (64 * (k : Int)))), (6, .sl (.own (.loc 1300)) false 1 (ints .u32 (WSd p 48))), (7, .sl (.own (.loc tok)) false 1 (ints .u32 (rnd p H n))), (8, .lit (.int .i64 n))], [], 180⟩)
      (fun (n, _) => 64 - n) (0, 31) ⟨by omega, .inl ⟨rfl, rfl⟩⟩ (by simp -implicitDefEqProofs -dsimp [rnd]) ?_
    rintro ⟨n, tok⟩ ⟨hn, htok⟩
    have hRl := rnd_length (b := p) hHl n
    have hRi := rnd_in (b := p) hHi n
    by_cases hln : n < 64
    · have m1 : (n : Int) < 64 := by omega
      have hr : rnd p H (n + 1) = stp (keys.getD n 0) ((WSd p 48).getD n 0) (rnd p H n) := rfl
      have gw := getD_get (l := WSd p 48) (i := n) (by omega)
      have gk := getD_get (l := keys) (i := n) (by rw [keys_length]; omega)
      have kl : n ≤ keys.length := by rw [keys_length]; omega
      have w8 : IntKind.i64.wrap ((n : Int) + 1) = (n : Int) + 1 := wrap64 (by omega) (by omega)
      generalize (WSd p 48).getD n 0 = wn at *
      generalize keys.getD n 0 = kn at *
      have hex : ∃ a bb c d e f g h, rnd p H n = [a, bb, c, d, e, f, g, h] := by
        match rnd p H n, hRl with
        | [a, bb, c, d, e, f, g, h], _ => exact ⟨a, bb, c, d, e, f, g, h, rfl⟩
      obtain ⟨a, bb, c, d, e, f, g, h, hRe⟩ := hex
      rw [hRe] at hRi hr
      have ra := hRi a (by simp)
      have re := hRi e (by simp)
      have hnot := not_is re
      simp -implicitDefEqProofs -dsimp [m1, gw, gk, kl, hRe]
      refine CallK.reads ?_
      simp -implicitDefEqProofs -dsimp
      refine CallQ.same (rturn_fn e 6 re (by decide) (by decide)) rfl ?_
      simp -implicitDefEqProofs -dsimp [gw, gk, kl, hnot, hRe, m1]
      refine CallK.reads ?_
      simp -implicitDefEqProofs -dsimp
      refine CallQ.same (rturn_fn e 11 re (by decide) (by decide)) rfl ?_
      simp -implicitDefEqProofs -dsimp [gw, gk, kl, hnot, hRe, m1]
      refine CallK.reads ?_
      simp -implicitDefEqProofs -dsimp
      refine CallQ.same (rturn_fn e 25 re (by decide) (by decide)) rfl ?_
      simp -implicitDefEqProofs -dsimp [gw, gk, kl, hnot, hRe, m1]
      refine CallK.reads ?_
      simp -implicitDefEqProofs -dsimp
      refine CallQ.same (rturn_fn a 2 ra (by decide) (by decide)) rfl ?_
      simp -implicitDefEqProofs -dsimp [gw, gk, kl, hnot, hRe, m1]
      refine CallK.reads ?_
      simp -implicitDefEqProofs -dsimp
      refine CallQ.same (rturn_fn a 13 ra (by decide) (by decide)) rfl ?_
      simp -implicitDefEqProofs -dsimp [gw, gk, kl, hnot, hRe, m1]
      refine CallK.reads ?_
      simp -implicitDefEqProofs -dsimp
      refine CallQ.same (rturn_fn a 22 ra (by decide) (by decide)) rfl ?_
      simp -implicitDefEqProofs -dsimp [w8, gw, gk, kl, hnot, hRe, m1]
      exact .mk (n + 1, 128) ⟨hln, .inr ⟨by omega, rfl⟩⟩ (by show 64 - (n + 1) < 64 - n; omega) (by simp -implicitDefEqProofs -dsimp [hr, stp, stT, stU, ints])
    · have en : n = 64 := by omega
      subst en
      obtain rfl : tok = 128 := by omega
      simp -implicitDefEqProofs -dsimp
      obtain ⟨R, hR⟩ : ∃ R, R = rnd p H 64 := ⟨_, rfl⟩
      rw [← hR] at hRl hRi ⊢
      refine LpK.mk (anys _ [57, 58, 59]) mixed (fun i : Nat => i ≤ 8)
        (fun i => ⟨[(3, .sl (.own (.loc 16)) false 1 (ints .u32 (smL R H i))), (4, .sl (.own (.loc 1180)) false 1 (u8s F)), (5, .lit (.int .i64 (64 * (k : Int)))), (7, .sl (.own (.loc 128)) false 1 (ints .u32 R)), (13, .lit (.int .i64 i))], [], 180⟩)
        (fun i => 8 - i) 0 (by simp) (by simp -implicitDefEqProofs -dsimp [smL]) ?_
      intro i hi8
      have hsl := smL_length (S := R) hHl i hi8
      by_cases hl8 : i < 8
      · have m1 : (i : Int) < 8 := by omega
        have g1 : (smL R H i)[i]? = some (H.getD i 0) := by rw [smL_get hHl i i hi8 (Nat.le_refl i)]; exact getD_get (by omega)
        have g2 := getD_get (l := R) (i := i) (by omega)
        have hr : smL R H (i + 1) = put1 (smL R H i) i (IntKind.u32.wrap (H.getD i 0 + R.getD i 0)) := rfl
        have w8 : IntKind.i64.wrap ((i : Int) + 1) = (i : Int) + 1 := wrap64 (by omega) (by omega)
        generalize H.getD i 0 = x at *
        generalize R.getD i 0 = y at *
        have hlt2 : i < (smL R H i).length := by omega
        simp -implicitDefEqProofs -dsimp [m1, g1, g2, w8, hlt2]
        have g1' : (smL R H i)[i] = x := by
          rw [List.getElem?_eq_getElem hlt2] at g1; exact Option.some.inj g1
        have hpk := pokeL_ints (k := .u32) (IntKind.u32.wrap (x + y)) hlt2
        refine .mk (i + 1) (by omega) (by omega) ?_
        simp -implicitDefEqProofs -dsimp [hr, g1', hpk]
      · have e8 : i = 8 := by omega
        subst e8
        have w64 : IntKind.i64.wrap (64 * (k : Int) + 64) = 64 * ((k : Int) + 1) := by rw [wrap64 (by omega) (by omega)]; omega
        have hb8 : smL R H 8 = bhd p H := by rw [smL_comm hHl hRl, hR]; rfl
        simp -implicitDefEqProofs -dsimp [w64, hb8]
        exact .mk (k + 1, bhd p H) ⟨by omega, bhd_length hHl, bhd_in hHl, by rw [he, absB, if_pos (by simp; omega), ← hp2, List.drop_drop]; rfl⟩ (by show q - (k + 1) < q - k; omega) (by simp -implicitDefEqProofs -dsimp)
  · have e : k = q := by omega
    subst e
    have h1 : ¬ 64 * (k : Int) < F.length := by omega
    simp -implicitDefEqProofs -dsimp [h1]
    have hdn : F.drop (64 * k) = [] := List.drop_eq_nil_of_le (by omega)
    have hab : absB st0 F = (H, []) := by rw [he, hdn, absB, if_neg (by simp)]
    rw [hab] at hd
    refine LpK.mk (anys _ [57, 58, 59]) mixed (fun i : Nat => i ≤ 8)
      (fun i => ⟨[(3, .sl (.own (.loc 16)) false 1 (ints .u32 H)), (14, .sl (.own (.loc 177)) (decide (i = 0)) 1 (u8s (outB (H.take i)))), (15, .lit (.int .i64 i))], [], 180⟩)
      (fun i => 8 - i) 0 (by simp) (by simp -implicitDefEqProofs -dsimp [outB]) ?_
    intro i hi8
    by_cases hl8 : i < 8
    · have m1 : (i : Int) < 8 := by omega
      have g1 := getD_get (l := H) (i := i) (by omega)
      have hx := hHi (H.getD i 0) (List.mem_of_getElem? g1)
      have ho : outB (H.take (i + 1)) = outB (H.take i) ++ byt (H.getD i 0) := by
        unfold outB
        rw [List.take_add_one, g1]; simp
      have hlt2 : i < H.length := by omega
      have g1' : H[i] = H.getD i 0 := by
        rw [List.getElem?_eq_getElem hlt2] at g1; exact Option.some.inj g1
      generalize H.getD i 0 = x at *
      have w8 : IntKind.i64.wrap ((i : Int) + 1) = (i : Int) + 1 := wrap64 (by omega) (by omega)
      have hol : (outB (H.take i)).length + 4 ≤ 140737488355328 := by rw [outB_length]; simp; omega
      have s24 : ishr .u32 x 24 = x / 16777216 := by
        have := ishr_u32 (y := x) (s := 24) (by omega)
        rw [show ((24 : Nat) : Int) = 24 from rfl] at this
        rw [this]; rfl
      have s16 : ishr .u32 x 16 = x / 65536 := by
        have := ishr_u32 (y := x) (s := 16) (by omega)
        rw [show ((16 : Nat) : Int) = 16 from rfl] at this
        rw [this]; rfl
      have s8 : ishr .u32 x 8 = x / 256 := by
        have := ishr_u32 (y := x) (s := 8) (by omega)
        rw [show ((8 : Nat) : Int) = 8 from rfl] at this
        rw [this]; rfl
      have q (c : Int) (hc : 0 < c) : iquo .u32 x c = x / c := by
        unfold iquo
        have h1 : 0 ≤ x / c := Int.ediv_nonneg hx.1 (Int.le_of_lt hc)
        have h2 : x / c ≤ x := Int.ediv_le_self _ hx.1
        rw [Int.tdiv_eq_ediv_of_nonneg hx.1, wrap_u32]; omega
      have q1 := q 16777216 (by omega)
      have q2 := q 65536 (by omega)
      have q3 := q 256 (by omega)
      have r2 : (x / 65536).tmod 256 = (x / 65536) % 256 := Int.tmod_eq_emod_of_nonneg (by omega)
      have r3 : (x / 256).tmod 256 = (x / 256) % 256 := Int.tmod_eq_emod_of_nonneg (by omega)
      have r4 : x.tmod 256 = x % 256 := Int.tmod_eq_emod_of_nonneg (by omega)
      have b2 : IntKind.u8.wrap ((x / 65536) % 256) = IntKind.u8.wrap (ishr .u32 x 16) := by rw [s16, wrap8_is, wrap8_is]; omega
      have b3 : IntKind.u8.wrap ((x / 256) % 256) = IntKind.u8.wrap (ishr .u32 x 8) := by rw [s8, wrap8_is, wrap8_is]; omega
      have b4 : IntKind.u8.wrap (x % 256) = IntKind.u8.wrap x := by rw [wrap8_is, wrap8_is]; omega
      rw [← s24] at q1
      simp -implicitDefEqProofs -dsimp [m1, g1, g1', hlt2, q1, q2, q3, r2, r3, r4, b2, b3, b4, w8, hol]
      exact .mk (i + 1) (by omega) (by omega) (by simp -implicitDefEqProofs -dsimp [ho, byt])
    · have e8 : i = 8 := by omega
      subst e8
      have hTt : H.take 8 = H := List.take_of_length_le (by omega)
      have hin := outB_in H
      simp -implicitDefEqProofs -dsimp [hTt, hin, hd]
end Go.Proofs.YtekokchejkjjjaaDoor
