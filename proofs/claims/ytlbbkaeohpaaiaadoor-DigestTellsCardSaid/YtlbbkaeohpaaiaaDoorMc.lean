/- Digests, the document's answer: numbers turned. (and what stands on it) -/
import Derived.Test.YtlbbkaeohpaaiaaDoorMb
import Derived.Test.YtlbbkaeohpaaiaaDoorM9

/-! Digests, the document's answer: numbers turned. -/
namespace Go.Sy
theorem ofInt_toNat {w : Nat} {n : Int} (h0 : 0 ≤ n) (h : n < 2 ^ w) : (BitVec.ofInt w n).toNat = n.toNat := by
  rw [BitVec.toNat_ofInt]
  congr 1
  rw [Int.emod_eq_of_lt h0]
  exact_mod_cast h

theorem iand_nat {k : IntKind} (hk : k.signed = false) {a b : Int} (ha : 0 ≤ a) (ha2 : a < 2 ^ k.bits) (hb : 0 ≤ b) (hb2 : b < 2 ^ k.bits) : iand k a b = ((a.toNat &&& b.toNat : Nat) : Int) := by
  have h : (BitVec.ofInt k.bits a &&& BitVec.ofInt k.bits b).toNat = a.toNat &&& b.toNat := by rw [BitVec.toNat_and, ofInt_toNat ha ha2, ofInt_toNat hb hb2]
  unfold iand
  rw [h]
  have h2 : a.toNat &&& b.toNat < 2 ^ k.bits := by rw [← h]; exact BitVec.isLt _
  simp only [IntKind.wrap, hk, Bool.false_and, Bool.false_eq_true, if_false]
  exact Int.emod_eq_of_lt (by omega) (by exact_mod_cast h2)
theorem ior_nat {k : IntKind} (hk : k.signed = false) {a b : Int} (ha : 0 ≤ a) (ha2 : a < 2 ^ k.bits) (hb : 0 ≤ b) (hb2 : b < 2 ^ k.bits) : ior k a b = ((a.toNat ||| b.toNat : Nat) : Int) := by
  have h : (BitVec.ofInt k.bits a ||| BitVec.ofInt k.bits b).toNat = a.toNat ||| b.toNat := by rw [BitVec.toNat_or, ofInt_toNat ha ha2, ofInt_toNat hb hb2]
  unfold ior
  rw [h]
  have h2 : a.toNat ||| b.toNat < 2 ^ k.bits := by rw [← h]; exact BitVec.isLt _
  simp only [IntKind.wrap, hk, Bool.false_and, Bool.false_eq_true, if_false]
  exact Int.emod_eq_of_lt (by omega) (by exact_mod_cast h2)
theorem ixor_nat {k : IntKind} (hk : k.signed = false) {a b : Int} (ha : 0 ≤ a) (ha2 : a < 2 ^ k.bits) (hb : 0 ≤ b) (hb2 : b < 2 ^ k.bits) : ixor k a b = ((a.toNat ^^^ b.toNat : Nat) : Int) := by
  have h : (BitVec.ofInt k.bits a ^^^ BitVec.ofInt k.bits b).toNat = a.toNat ^^^ b.toNat := by rw [BitVec.toNat_xor, ofInt_toNat ha ha2, ofInt_toNat hb hb2]
  unfold ixor
  rw [h]
  have h2 : a.toNat ^^^ b.toNat < 2 ^ k.bits := by rw [← h]; exact BitVec.isLt _
  simp only [IntKind.wrap, hk, Bool.false_and, Bool.false_eq_true, if_false]
  exact Int.emod_eq_of_lt (by omega) (by exact_mod_cast h2)

theorem iand_127 {x : Int} (h0 : 0 ≤ x) (h : x < 256) : iand .u8 x 127 = x % 128 := by
  rw [iand_nat rfl h0 (by simpa [IntKind.bits] using h) (by omega) (by decide)]
  have := Nat.and_two_pow_sub_one_eq_mod x.toNat 7
  have e : ((127 : Int).toNat) = 2 ^ 7 - 1 := rfl
  rw [e, this]; omega
set_option maxRecDepth 100000 in
theorem wrap_u32 (n : Int) : IntKind.u32.wrap n = n % 4294967296 := by simp [IntKind.wrap, IntKind.signed, IntKind.bits]
theorem ishl_u32 {y : Int} {s : Nat} (hs : s ≤ 32) : ishl .u32 y s = (y * 2 ^ s) % 4294967296 := by
  unfold ishl
  rw [wrap_u32]
  have : min (s : Int).toNat IntKind.u32.bits = s := by simp [IntKind.bits]; omega
  rw [this]
theorem ishr_u32 {y : Int} {s : Nat} (hs : s ≤ 32) : ishr .u32 y s = y / 2 ^ s := by
  unfold ishr
  have : min (s : Int).toNat IntKind.u32.bits = s := by simp [IntKind.bits]; omega
  rw [this, Int.fdiv_eq_ediv_of_nonneg _ (by exact_mod_cast Nat.zero_le _)]
theorem ior_add32 {a y s : Nat} (ha : a < 2 ^ s) (h : y * 2 ^ s < 4294967296) (ha2 : a < 4294967296) : ior .u32 ((y * 2 ^ s : Nat) : Int) (a : Int) = ((a + y * 2 ^ s : Nat) : Int) := by
  rw [ior_nat rfl (by omega) (by simp only [IntKind.bits]; omega) (by omega) (by simp only [IntKind.bits]; omega)]
  have := Nat.shiftLeft_add_eq_or_of_lt ha y
  rw [Nat.shiftLeft_eq] at this
  simp only [Int.toNat_natCast]
  rw [← this, Nat.add_comm]
/-- Turned right by one. -/
def hlf (x : Int) : Int := x / 2 + x % 2 * 2147483648
theorem hlf_nat (n : Nat) : hlf (n : Int) = ((n / 2 + n % 2 * 2147483648 : Nat) : Int) := by unfold hlf; omega
def rotN (x : Int) : Nat → Int
  | 0 => x
  | n + 1 => hlf (rotN x n)
theorem rotN_is (x : Nat) (hx : x < 4294967296) : ∀ n, n ≤ 32 → rotN x n = ((x / 2 ^ n + x % 2 ^ n * 2 ^ (32 - n) : Nat) : Int)
  | 0, _ => by simp [rotN, Nat.mod_one]
  | n + 1, hn => by
    have ih := rotN_is x hx n (by omega)
    rw [rotN, ih, hlf_nat]
    congr 1
    have hp : 2 ^ (32 - n) = 2 * 2 ^ (32 - (n + 1)) := by rw [← Nat.pow_succ']; congr 1; omega
    have h1 : x / 2 ^ (n + 1) = x / 2 ^ n / 2 := by rw [Nat.pow_succ, Nat.div_div_eq_div_mul]
    have h2 : x % 2 ^ (n + 1) = x % 2 ^ n + 2 ^ n * (x / 2 ^ n % 2) := by rw [Nat.pow_succ, Nat.mod_mul]
    have h3 : 2 ^ n * 2 ^ (32 - (n + 1)) = 2147483648 := by rw [← Nat.pow_add, show n + (32 - (n + 1)) = 31 by omega]
    rw [h1, h2, hp]
    generalize x / 2 ^ n = q
    generalize x % 2 ^ n = r
    generalize 2 ^ (32 - (n + 1)) = t at *
    generalize 2 ^ n = u at *
    have h4 : (r + u * (q % 2)) * t = r * t + q % 2 * 2147483648 := by
      rw [Nat.add_mul, Nat.mul_comm u, Nat.mul_assoc, h3]
    rw [h4]
    have h5 : r * (2 * t) = 2 * (r * t) := by rw [Nat.mul_left_comm]
    rw [h5]
    generalize r * t = s
    omega
theorem ror_is {x n : Nat} (hx : x < 4294967296) (h0 : 0 < n) (hn : n < 32) : ror x n = rotN x n := by
  rw [rotN_is x hx n (by omega), ror, ishl_u32 (by omega), ishr_u32 (by omega)]
  have h1 : (x * 2 ^ (32 - n)) % 4294967296 = x % 2 ^ n * 2 ^ (32 - n) := by
    have : 4294967296 = 2 ^ n * 2 ^ (32 - n) := by rw [← Nat.pow_add, show n + (32 - n) = 32 by omega]
    rw [this, Nat.mul_mod_mul_right]
  have h2 : ((x : Int) * 2 ^ (32 - n)) % 4294967296 = ((x % 2 ^ n * 2 ^ (32 - n) : Nat) : Int) := by rw [← h1, Int.natCast_emod, Int.natCast_mul, Int.natCast_pow]; rfl
  have h3 : (x : Int) / 2 ^ n = ((x / 2 ^ n : Nat) : Int) := by rw [Int.natCast_ediv, Int.natCast_pow]; rfl
  rw [h2, h3]
  have h4 : x % 2 ^ n * 2 ^ (32 - n) < 4294967296 := by rw [← h1]; exact Nat.mod_lt _ (by decide)
  have h5 : x / 2 ^ n < 2 ^ (32 - n) := by
    rw [Nat.div_lt_iff_lt_mul (Nat.pow_pos (by decide)), ← Nat.pow_add, show 32 - n + n = 32 by omega]; exact hx
  exact ior_add32 h5 h4 (Nat.lt_of_le_of_lt (Nat.div_le_self _ _) hx)
theorem rotN_in {x : Int} (h : 0 ≤ x ∧ x < 4294967296) : ∀ n, 0 ≤ rotN x n ∧ rotN x n < 4294967296
  | 0 => h
  | n + 1 => by
    have := rotN_in h n
    rw [rotN, hlf]
    omega
end Go.Sy
namespace Go.Proofs.YtlbbkaeohpaaiaaDoor
open Go.Sy


set_option maxRecDepth 100000 in
set_option maxHeartbeats 8000000 in
theorem rturn_fn (x : Int) (n : Nat) (hx : 0 ≤ x ∧ x < 4294967296) (h0 : 0 < n) (hn : n < 32) : Fc Tryd.prog 20 [.lit (.int .u32 x), .lit (.int .i64 n)] [] (.lit (.int .u32 (ror x n))) [] := by
  have hr : ror x n = rotN x n := by
    obtain ⟨m, rfl⟩ : ∃ m : Nat, x = m := ⟨x.toNat, by omega⟩
    exact ror_is (by omega) h0 hn
  rw [hr]
  refine Fc.of (anys _ []) [] mixed Tryd.func20 rfl (by rfl) (by simp [Tryd.ntmps20]) (by decide) ?_
  simp -implicitDefEqProofs -dsimp [Tryd.ntmps20]
  refine LpK.mk (anys _ []) mixed (fun i : Nat => i ≤ n) (fun i => ⟨[(0, .lit (.int .u32 (rotN x i))), (1, .lit (.int .i64 n)), (5, .lit (.int .i64 i))], [], 18⟩) (fun i => n - i) 0 (by simp) (by simp -implicitDefEqProofs -dsimp [rotN]) ?_
  intro i hi
  by_cases hlt : i < n
  · have w1 : IntKind.i64.wrap ((i : Int) + 1) = (i : Int) + 1 := wrap64 (by omega) (by omega)
    obtain ⟨hv0, hv1⟩ := rotN_in hx i
    have hs : rotN x (i + 1) = hlf (rotN x i) := rfl
    generalize rotN x i = v at *
    have q1 : iquo .u32 v 2 = v / 2 := by
      unfold iquo
      rw [Int.tdiv_eq_ediv_of_nonneg hv0, wrap_u32]; omega
    have q2 : v.tmod 2 = v % 2 := Int.tmod_eq_emod_of_nonneg hv0
    have q3 : IntKind.u32.wrap (v % 2 * 2147483648) = v % 2 * 2147483648 := by rw [wrap_u32]; omega
    have q4 : IntKind.u32.wrap (v / 2 + v % 2 * 2147483648) = hlf v := by rw [wrap_u32, hlf]; omega
    simp -implicitDefEqProofs -dsimp [hlt, w1, q1, q2, q3, q4]
    exact .mk (i + 1) hlt (by omega) (by simp -implicitDefEqProofs -dsimp [hs])
  · have e : i = n := by omega
    subst e
    simp -implicitDefEqProofs -dsimp
end Go.Proofs.YtlbbkaeohpaaiaaDoor

/-! Digests, the document's answer: a text filled up. -/
namespace Go.Sy
/-- A text, filled up. -/
def filB (b : List Int) : List Int := b ++ 128 :: (zer ((63 * b.length + 55) % 64) ++ lenB b.length 8)
def pI (i : Nat) : Int := ((72057594037927936 / 256 ^ i : Nat) : Int)
theorem pI_succ (i : Nat) : pI (i + 1) = pI i / 256 := by
  unfold pI
  rw [Nat.pow_succ, ← Nat.div_div_eq_div_mul]
  exact Int.natCast_ediv _ _
theorem pI_is : ∀ i : Nat, i < 8 → 72057594037927936 / 256 ^ i = 2 ^ (8 * (7 - i)) := by decide
theorem pI_ne {i : Nat} (h : i < 8) : ¬ pI i = 0 := by
  unfold pI
  rw [pI_is i h]
  have : 0 < 2 ^ (8 * (7 - i)) := Nat.pow_pos (by decide)
  omega
theorem ishr_u64 {y : Int} {s : Nat} (hs : s ≤ 64) : ishr .u64 y s = y / 2 ^ s := by
  unfold ishr
  have : min (s : Int).toNat IntKind.u64.bits = s := by simp [IntKind.bits]; omega
  rw [this, Int.fdiv_eq_ediv_of_nonneg _ (by exact_mod_cast Nat.zero_le _)]
theorem wrap8_is (n : Int) : IntKind.u8.wrap n = n % 256 := by simp [IntKind.wrap, IntKind.signed, IntKind.bits]
theorem len_byte {v : Int} {i : Nat} (h : i < 8) : IntKind.u8.wrap ((v / pI i) % 256) = IntKind.u8.wrap (ishr .u64 v (8 * (7 - (i : Int)))) := by
  have e : (8 * (7 - (i : Int))) = ((8 * (7 - i) : Nat) : Int) := by omega
  rw [e, ishr_u64 (by omega), wrap8_is, wrap8_is, pI, pI_is i h, Int.natCast_pow]
  simp
end Go.Sy
namespace Go.Proofs.YtlbbkaeohpaaiaaDoor
open Go.Sy

set_option maxRecDepth 100000 in
set_option maxHeartbeats 8000000 in
theorem filled_fn (nl : Bool) (b : List Int) (hb : b.length ≤ 1000000) : Fc Tryd.prog 18 [.sl .imm nl 1 (u8s b)] [] (.sl (.own (.loc 7)) false 1 (u8s (filB b))) [] := by
  refine Fc.of (anys _ []) [] mixed Tryd.func18 rfl (by rfl) (by simp [Tryd.ntmps18]) (by decide) ?_
  have l1 : b.length ≤ 140737488355328 := by omega
  have l2 : b.length + 1 ≤ 140737488355328 := by omega
  simp -implicitDefEqProofs -dsimp [Tryd.ntmps18, l1, l2]
  obtain ⟨z, hz⟩ : ∃ z, z = (63 * b.length + 55) % 64 := ⟨_, rfl⟩
  refine LpK.mk (anys _ []) mixed (fun j : Nat => j ≤ z)
    (fun j => ⟨[(0, .sl .imm nl 1 (u8s b)), (3, .sl (.own (.loc 7)) false 1 (u8s (b ++ 128 :: zer j)))], [], 39⟩)
    (fun j => z - j) 0 (by simp) (by simp -implicitDefEqProofs -dsimp [zer]) ?_
  intro j hj
  have ht : ((b.length : Int) + ((j : Int) + 1)).tmod 64 = ((b.length : Int) + ((j : Int) + 1)) % 64 := Int.tmod_eq_emod_of_nonneg (by omega)
  by_cases hlt : j < z
  · have hm : ¬ ((b.length : Int) + ((j : Int) + 1)) % 64 = 56 := by omega
    have l1 : b.length + (j + 1) + 1 ≤ 140737488355328 := by omega
    simp -implicitDefEqProofs -dsimp [ht, hm, l1]
    exact .mk (j + 1) hlt (by omega) (by simp -implicitDefEqProofs -dsimp [zer_succ])
  · have e : j = z := by omega
    subst e
    have hm : ((b.length : Int) + ((j : Int) + 1)) % 64 = 56 := by omega
    have hw : IntKind.u64.wrap (b.length : Int) = b.length := by rw [wrap_is_u64]; omega
    have hw8 : IntKind.u64.wrap (8 * (b.length : Int)) = IntKind.u64.wrap (b.length * 8) := by rw [Int.mul_comm]
    simp -implicitDefEqProofs -dsimp [ht, hm, hw, hw8]
    obtain ⟨v, hv⟩ : ∃ v, v = IntKind.u64.wrap ((b.length : Int) * 8) := ⟨_, rfl⟩
    have hv0 : 0 ≤ v ∧ v < 18446744073709551616 := by rw [hv, wrap_is_u64]; omega
    have hlb : ∀ n, lenB b.length (n + 1) = lenB b.length n ++ [IntKind.u8.wrap (ishr .u64 v (8 * (7 - (n : Int))))] := fun n => by rw [lenB_succ, ← hv]
    rw [← hv]
    refine LpK.mk (anys _ []) mixed (fun n : Nat => n ≤ 8)
      (fun n => ⟨[(3, .sl (.own (.loc 7)) false 1 (u8s (b ++ 128 :: (zer j ++ lenB b.length n)))), (4, .lit (.int .u64 v)), (5, .lit (.int .u64 (pI n))), (6, .lit (.int .i64 n))], [], 39⟩)
      (fun n => 8 - n) 0 (by simp) (by simp -implicitDefEqProofs -dsimp [lenB, pI]) ?_
    intro n hn
    by_cases hlt : n < 8
    · have h1 : (n : Int) < 8 := by omega
      have hp := pI_ne hlt
      have hb8 := len_byte (v := v) hlt
      have hps := pI_succ n
      have hp0 : 0 ≤ pI n := by unfold pI; exact Int.natCast_nonneg _
      have w1 : IntKind.i64.wrap ((n : Int) + 1) = (n : Int) + 1 := wrap64 (by omega) (by omega)
      have hle : v / pI n ≤ v := Int.ediv_le_self _ hv0.1
      have hge : 0 ≤ v / pI n := Int.ediv_nonneg hv0.1 hp0
      have hpu : pI n < 18446744073709551616 := by
        unfold pI
        have : 72057594037927936 / 256 ^ n ≤ 72057594037927936 := Nat.div_le_self _ _
        exact Int.lt_of_le_of_lt (Int.ofNat_le.2 this) (by decide)
      have q1 : iquo .u64 v (pI n) = v / pI n := by
        unfold iquo
        rw [Int.tdiv_eq_ediv_of_nonneg hv0.1, wrap_is_u64]; omega
      have q2 : (v / pI n).tmod 256 = (v / pI n) % 256 := Int.tmod_eq_emod_of_nonneg hge
      have q3 : iquo .u64 (pI n) 256 = pI n / 256 := by
        unfold iquo
        rw [Int.tdiv_eq_ediv_of_nonneg hp0, wrap_is_u64]; omega
      have l1 : b.length + (j + n + 1) + 1 ≤ 140737488355328 := by omega
      simp -implicitDefEqProofs -dsimp [h1, hp, q1, q2, q3, w1, l1, hb8]
      exact .mk (n + 1) hlt (by omega) (by simp -implicitDefEqProofs -dsimp [hlb, hps])
    · have e : n = 8 := by omega
      subst e
      simp -implicitDefEqProofs -dsimp
      simp [filB, hz]
end Go.Proofs.YtlbbkaeohpaaiaaDoor

/-! Digests, the document's answer: a block's numbers. -/
namespace Go.Sy
theorem WS_keep (b : List Int) (n : Nat) : ∀ d, n + d ≤ 48 → ∀ j, j < n + 16 → (WS b (n + d))[j]? = (WS b n)[j]?
  | 0, _, _, _ => rfl
  | d + 1, h, j, hj => by
    rw [← Nat.add_assoc, WS, put1_get _ (by rw [WS_length b _ (by omega)]; omega), if_neg (by omega)]
    exact WS_keep b n d (by omega) j hj
theorem V_get (b : List Int) {n j : Nat} (hn : n ≤ 48) (hj : j < n + 16) : (WS b 48).getD j 0 = (WS b n).getD j 0 := by
  have := WS_keep b n (48 - n) (by omega) j hj
  rw [show n + (48 - n) = 48 by omega] at this
  rw [List.getD_eq_getElem?_getD, List.getD_eq_getElem?_getD, this]
theorem V_next (b : List Int) {n : Nat} (hn : n < 48) : (WS b 48).getD (n + 16) 0 = nxtV ((WS b 48).getD n 0) ((WS b 48).getD (n + 1) 0) ((WS b 48).getD (n + 9) 0) ((WS b 48).getD (n + 14) 0) := by
  rw [V_get b (n := n + 1) (by omega) (by omega), V_get b (n := n) (j := n) (by omega) (by omega), V_get b (n := n) (j := n + 1) (by omega) (by omega), V_get b (n := n) (j := n + 9) (by omega) (by omega), V_get b (n := n) (j := n + 14) (by omega) (by omega)]
  rw [WS, List.getD_eq_getElem?_getD, put1_get _ (by rw [WS_length b n (by omega)]; omega), if_pos rfl]
  rfl
theorem V_first (b : List Int) {k : Nat} (hk : k < 16) : (WS b 48).getD k 0 = wordB ((b.drop (4 * k)).take 4) := by
  rw [V_get b (n := 0) (by omega) (by omega), WS, List.getD_eq_getElem?_getD, W1_get, if_pos (by omega), if_pos hk]; rfl
theorem wrap32_in (x : Int) : 0 ≤ IntKind.u32.wrap x ∧ IntKind.u32.wrap x < 4294967296 := by rw [wrap_u32]; omega
theorem word_step {y a : Int} (hy : 0 ≤ y ∧ y < 16777216) (ha : 0 ≤ a ∧ a < 256) : ior .u32 (ishl .u32 y 8) (IntKind.u32.wrap a) = y * 256 + a := by
  obtain ⟨p, rfl⟩ : ∃ p : Nat, y = p := ⟨y.toNat, by omega⟩
  obtain ⟨q, rfl⟩ : ∃ q : Nat, a = q := ⟨a.toNat, by omega⟩
  have e1 : IntKind.u32.wrap (q : Int) = q := by rw [wrap_u32]; omega
  have e2 : ishl .u32 (p : Int) 8 = ((p * 2 ^ 8 : Nat) : Int) := by
    have := ishl_u32 (y := p) (s := 8) (by omega)
    rw [show ((8 : Nat) : Int) = 8 from rfl] at this
    rw [this]; simp; omega
  rw [e1, e2, ior_add32 (by omega) (by omega) (by omega)]
  omega
theorem word_is {a b c d : Int} (ha : 0 ≤ a ∧ a < 256) (hb : 0 ≤ b ∧ b < 256) (hc : 0 ≤ c ∧ c < 256) (hd : 0 ≤ d ∧ d < 256) : wordB [a, b, c, d] = 16777216 * a + 65536 * b + 256 * c + d := by
  simp only [wordB, List.foldl_cons, List.foldl_nil]
  rw [word_step (y := 0) (by omega) ha, word_step (by omega) hb, word_step (by omega) hc, word_step (by omega) hd]
  omega
theorem V_in {b : List Int} (hb : b.length = 64) (hi : InB b) {k : Nat} (hk : k < 64) : 0 ≤ (WS b 48).getD k 0 ∧ (WS b 48).getD k 0 < 4294967296 := by
  by_cases h : k < 16
  · rw [V_first b h]
    have e : (b.drop (4 * k)).take 4 = [b[4 * k], b[4 * k + 1], b[4 * k + 2], b[4 * k + 3]] := by
      rw [List.drop_eq_getElem_cons (by omega), List.drop_eq_getElem_cons (by omega), List.drop_eq_getElem_cons (by omega), List.drop_eq_getElem_cons (by omega)]; rfl
    have h0 := hi b[4 * k] (List.getElem_mem _)
    have h1 := hi b[4 * k + 1] (List.getElem_mem _)
    have h2 := hi b[4 * k + 2] (List.getElem_mem _)
    have h3 := hi b[4 * k + 3] (List.getElem_mem _)
    rw [e, word_is h0 h1 h2 h3]
    omega
  · obtain ⟨n, rfl⟩ : ∃ n, k = n + 16 := ⟨k - 16, by omega⟩
    rw [V_next b (by omega)]
    exact wrap32_in _
end Go.Sy
namespace Go.Proofs.YtlbbkaeohpaaiaaDoor
open Go.Sy

set_option maxRecDepth 100000 in
set_option maxHeartbeats 8000000 in
theorem rspread_fn (nl : Bool) (b : List Int) (hb : b.length = 64) (hi : InB b) : Fc Tryd.prog 19 [.sl .imm nl 1 (u8s b)] [] (.sl (.own (.loc 49)) false 1 (ints .u32 (WS b 48))) [] := by
  have hVl := WS_length b 48 (by omega)
  refine Fc.of (anys _ [20]) sch19 mixed Tryd.func19 rfl (by rfl) (by simp [Tryd.ntmps19]) (by decide) ?_
  simp -implicitDefEqProofs -dsimp [Tryd.ntmps19]
  refine LpK.mk (anys _ [20]) mixed (fun i : Nat => i ≤ 16)
    (fun i => ⟨[(0, .sl .imm nl 1 (u8s b)), (3, .sl (.own (.loc 49)) (decide (i = 0)) 1 (ints .u32 ((WS b 48).take i))), (4, .lit (.int .i64 i))], [], 99⟩)
    (fun i => 16 - i) 0 (by simp) (by simp -implicitDefEqProofs -dsimp) ?_
  intro i hi16
  by_cases hlt : i < 16
  · have h1 : (i : Int) < 16 := by omega
    have hx0 : ∃ x, b[4 * i]? = some x := ⟨_, List.getElem?_eq_getElem (by omega)⟩
    have hx1 : ∃ x, b[4 * i + 1]? = some x := ⟨_, List.getElem?_eq_getElem (by omega)⟩
    have hx2 : ∃ x, b[4 * i + 2]? = some x := ⟨_, List.getElem?_eq_getElem (by omega)⟩
    have hx3 : ∃ x, b[4 * i + 3]? = some x := ⟨_, List.getElem?_eq_getElem (by omega)⟩
    obtain ⟨x0, g0⟩ := hx0
    obtain ⟨x1, g1⟩ := hx1
    obtain ⟨x2, g2⟩ := hx2
    obtain ⟨x3, g3⟩ := hx3
    have r0 := hi x0 (List.mem_of_getElem? g0)
    have r1 := hi x1 (List.mem_of_getElem? g1)
    have r2 := hi x2 (List.mem_of_getElem? g2)
    have r3 := hi x3 (List.mem_of_getElem? g3)
    have e : (b.drop (4 * i)).take 4 = [x0, x1, x2, x3] := by
      rw [List.drop_eq_getElem_cons (by omega), List.drop_eq_getElem_cons (by omega), List.drop_eq_getElem_cons (by omega), List.drop_eq_getElem_cons (by omega)]
      rw [List.getElem?_eq_getElem (by omega)] at g0 g1 g2 g3
      rw [Option.some.inj g0, Option.some.inj g1, Option.some.inj g2, Option.some.inj g3]; rfl
    have hv : (WS b 48)[i]? = some (16777216 * x0 + 65536 * x1 + 256 * x2 + x3) := by
      rw [getD_get (by omega), V_first b hlt, e, word_is r0 r1 r2 r3]
    have ht : (WS b 48).take (i + 1) = (WS b 48).take i ++ [16777216 * x0 + 65536 * x1 + 256 * x2 + x3] := by rw [List.take_add_one, hv]; rfl
    have w0 : IntKind.i64.wrap (4 * (i : Int)) = 4 * (i : Int) := wrap64 (by omega) (by omega)
    have w1 : IntKind.i64.wrap (4 * (i : Int) + 1) = 4 * (i : Int) + 1 := wrap64 (by omega) (by omega)
    have w2 : IntKind.i64.wrap (4 * (i : Int) + 2) = 4 * (i : Int) + 2 := wrap64 (by omega) (by omega)
    have w3 : IntKind.i64.wrap (4 * (i : Int) + 3) = 4 * (i : Int) + 3 := wrap64 (by omega) (by omega)
    have w4 : IntKind.i64.wrap ((i : Int) + 1) = (i : Int) + 1 := wrap64 (by omega) (by omega)
    have n0 : (4 * (i : Int)).toNat = 4 * i := by omega
    have n1 : (4 * (i : Int) + 1).toNat = 4 * i + 1 := by omega
    have n2 : (4 * (i : Int) + 2).toNat = 4 * i + 2 := by omega
    have n3 : (4 * (i : Int) + 3).toNat = 4 * i + 3 := by omega
    have p0 : (0 : Int) ≤ 4 * (i : Int) := by omega
    have p1 : (0 : Int) ≤ 4 * (i : Int) + 1 := by omega
    have p2 : (0 : Int) ≤ 4 * (i : Int) + 2 := by omega
    have p3 : (0 : Int) ≤ 4 * (i : Int) + 3 := by omega
    have u0 : IntKind.u32.wrap x0 = x0 := by rw [wrap_u32]; omega
    have u1 : IntKind.u32.wrap x1 = x1 := by rw [wrap_u32]; omega
    have u2 : IntKind.u32.wrap x2 = x2 := by rw [wrap_u32]; omega
    have u3 : IntKind.u32.wrap x3 = x3 := by rw [wrap_u32]; omega
    have v0 : IntKind.u32.wrap (16777216 * x0) = 16777216 * x0 := by rw [wrap_u32]; omega
    have v1 : IntKind.u32.wrap (65536 * x1) = 65536 * x1 := by rw [wrap_u32]; omega
    have v2 : IntKind.u32.wrap (256 * x2) = 256 * x2 := by rw [wrap_u32]; omega
    have y1 : IntKind.u32.wrap (16777216 * x0 + 65536 * x1) = 16777216 * x0 + 65536 * x1 := by rw [wrap_u32]; omega
    have y2 : IntKind.u32.wrap (16777216 * x0 + 65536 * x1 + 256 * x2) = 16777216 * x0 + 65536 * x1 + 256 * x2 := by rw [wrap_u32]; omega
    have y3 : IntKind.u32.wrap (16777216 * x0 + 65536 * x1 + 256 * x2 + x3) = 16777216 * x0 + 65536 * x1 + 256 * x2 + x3 := by rw [wrap_u32]; omega
    have l1 : (min i 64 + 1) * 4 ≤ 140737488355328 ∧ min i 64 ≤ 140737488355327 := by omega
    simp -implicitDefEqProofs -dsimp [h1, g0, g1, g2, g3, w0, w1, w2, w3, w4, n0, n1, n2, n3, p0, p1, p2, p3, u0, u1, u2, u3, v0, v1, v2, y1, y2, y3, l1, hVl]
    exact .mk (i + 1) (by omega) (by omega) (by simp -implicitDefEqProofs -dsimp [ht])
  · have e : i = 16 := by omega
    subst e
    simp -implicitDefEqProofs -dsimp
    refine LpK.mk (anys _ [20]) mixed (fun n : Nat => n ≤ 48)
      (fun n => ⟨[(3, .sl (.own (.loc 49)) false 1 (ints .u32 ((WS b 48).take (n + 16)))), (5, .lit (.int .i64 ((n : Int) + 16)))], [], 99⟩)
      (fun n => 48 - n) 0 (by simp) (by simp -implicitDefEqProofs -dsimp) ?_
    intro n hn
    by_cases hlt : n < 48
    · have h1 : (n : Int) + 16 < 64 := by omega
      have e1 : IntKind.i64.wrap ((n : Int) + 16 - 15) = (n : Int) + 1 := by rw [wrap64 (by omega) (by omega)]; omega
      have e2 : IntKind.i64.wrap ((n : Int) + 16 - 2) = (n : Int) + 14 := by rw [wrap64 (by omega) (by omega)]; omega
      have e3 : IntKind.i64.wrap (n : Int) = (n : Int) := wrap64 (by omega) (by omega)
      have e4 : IntKind.i64.wrap ((n : Int) + 16 - 7) = (n : Int) + 9 := by rw [wrap64 (by omega) (by omega)]; omega
      have hw : IntKind.i64.wrap ((n : Int) + 16 + 1) = (n : Int) + 1 + 16 := by rw [wrap64 (by omega) (by omega)]; omega
      have i1 : (0 : Int) ≤ (n : Int) + 1 := by omega
      have i2 : (0 : Int) ≤ (n : Int) + 14 := by omega
      have i3 : (0 : Int) ≤ (n : Int) + 9 := by omega
      have t1 : ((n : Int) + 14).toNat = n + 14 := by omega
      have t2 : ((n : Int) + 9).toNat = n + 9 := by omega
      have tk : ∀ j, j < n + 16 → ((WS b 48).take (n + 16))[j]? = some ((WS b 48).getD j 0) := fun j hj => by
        rw [List.getElem?_take_of_lt hj]; exact getD_get (by omega)
      have g1 := tk n (by omega)
      have g2 := tk (n + 1) (by omega)
      have g3 := tk (n + 9) (by omega)
      have g4 := tk (n + 14) (by omega)
      have hv := V_next b hlt
      have ht : (WS b 48).take (n + 1 + 16) = (WS b 48).take (n + 16) ++ [(WS b 48).getD (n + 16) 0] := by
        rw [show n + 1 + 16 = n + 16 + 1 by omega, List.take_add_one, getD_get (by omega)]; rfl
      have rx := V_in hb hi (k := n + 1) (by omega)
      have ry := V_in hb hi (k := n + 14) (by omega)
      rw [hv] at ht
      generalize (WS b 48).getD n 0 = p at *
      generalize (WS b 48).getD (n + 1) 0 = x at *
      generalize (WS b 48).getD (n + 9) 0 = q at *
      generalize (WS b 48).getD (n + 14) 0 = y at *
      have q1 : iquo .u32 x 8 = ishr .u32 x 3 := by
        have := ishr_u32 (y := x) (s := 3) (by omega)
        rw [show ((3 : Nat) : Int) = 3 from rfl] at this
        rw [this]; unfold iquo
        rw [Int.tdiv_eq_ediv_of_nonneg rx.1, wrap_u32]; omega
      have q2 : iquo .u32 y 1024 = ishr .u32 y 10 := by
        have := ishr_u32 (y := y) (s := 10) (by omega)
        rw [show ((10 : Nat) : Int) = 10 from rfl] at this
        rw [this]; unfold iquo
        rw [Int.tdiv_eq_ediv_of_nonneg ry.1, wrap_u32]; omega
      have l1 : (min (n + 16) 64 + 1) * 4 ≤ 140737488355328 ∧ min (n + 16) 64 ≤ 140737488355327 := by omega
      simp -implicitDefEqProofs -dsimp [h1, e1, e2, e3, e4, i1, i2, i3, t1, t2, g1, g2, g3, g4, q1, q2]
      refine CallK.reads ?_
      simp -implicitDefEqProofs -dsimp
      refine CallQ.same (rturn_fn x 7 rx (by decide) (by decide)) rfl ?_
      simp -implicitDefEqProofs -dsimp [h1, e1, e2, e3, e4, i1, i2, i3, t1, t2, g1, g2, g3, g4, hw, q1, q2, l1, hVl]
      refine CallK.reads ?_
      simp -implicitDefEqProofs -dsimp
      refine CallQ.same (rturn_fn x 18 rx (by decide) (by decide)) rfl ?_
      simp -implicitDefEqProofs -dsimp [h1, e1, e2, e3, e4, i1, i2, i3, t1, t2, g1, g2, g3, g4, hw, q1, q2, l1, hVl]
      refine CallK.reads ?_
      simp -implicitDefEqProofs -dsimp
      refine CallQ.same (rturn_fn y 17 ry (by decide) (by decide)) rfl ?_
      simp -implicitDefEqProofs -dsimp [h1, e1, e2, e3, e4, i1, i2, i3, t1, t2, g1, g2, g3, g4, hw, q1, q2, l1, hVl]
      refine CallK.reads ?_
      simp -implicitDefEqProofs -dsimp
      refine CallQ.same (rturn_fn y 19 ry (by decide) (by decide)) rfl ?_
      simp -implicitDefEqProofs -dsimp [h1, e1, e2, e3, e4, i1, i2, i3, t1, t2, g1, g2, g3, g4, hw, q1, q2, l1, hVl]
      exact .mk (n + 1) (by omega) (by omega) (by simp -implicitDefEqProofs -dsimp [ht, nxtV])
    · have e : n = 48 := by omega
      subst e
      have htt : (WS b 48).take (48 + 16) = WS b 48 := List.take_of_length_le (by omega)
      simp -implicitDefEqProofs -dsimp [htt]
end Go.Proofs.YtlbbkaeohpaaiaaDoor

/-! Digests, the document's answer: a step. -/
namespace Go.Sy
/-- Numbers of 32 bits. -/
def InW (l : List Int) : Prop := ∀ x, x ∈ l → 0 ≤ x ∧ x < 4294967296
theorem stp_in {k w : Int} {S : List Int} (h : InW S) : InW (stp k w S) := by
  match S with
  | [a, b, c, d, e, f, g, i] =>
    intro x hx
    simp only [stp, List.mem_cons, List.not_mem_nil, or_false] at hx
    rcases hx with rfl | rfl | rfl | rfl | rfl | rfl | rfl | rfl
    · exact wrap32_in _
    · exact h _ (by simp)
    · exact h _ (by simp)
    · exact h _ (by simp)
    · exact wrap32_in _
    · exact h _ (by simp)
    · exact h _ (by simp)
    · exact h _ (by simp)
  | [] => exact h
  | [_] => exact h
  | [_, _] => exact h
  | [_, _, _] => exact h
  | [_, _, _, _] => exact h
  | [_, _, _, _, _] => exact h
  | [_, _, _, _, _, _] => exact h
  | [_, _, _, _, _, _, _] => exact h
  | _ :: _ :: _ :: _ :: _ :: _ :: _ :: _ :: _ :: _ => exact h
theorem rnd_in {b S : List Int} (h : InW S) : ∀ n, InW (rnd b S n)
  | 0 => h
  | n + 1 => stp_in (rnd_in h n)
theorem smL_at {S R : List Int} (h : R.length = 8) : ∀ n j, n ≤ 8 → j < n → (smL S R n)[j]? = some (IntKind.u32.wrap (R.getD j 0 + S.getD j 0))
  | 0, _, _, hj => by omega
  | n + 1, j, hn, hj => by
    rw [smL, put1_get _ (by rw [smL_length h n (by omega)]; omega)]
    by_cases e : j = n
    · rw [if_pos e, e]
    · rw [if_neg e]; exact smL_at h n j (by omega) (by omega)
theorem smL_comm {S R : List Int} (hS : S.length = 8) (hR : R.length = 8) : smL R S 8 = smL S R 8 := by
  refine List.ext_getElem? fun j => ?_
  by_cases hj : j < 8
  · rw [smL_at hS 8 j (by omega) hj, smL_at hR 8 j (by omega) hj, Int.add_comm]
  · rw [List.getElem?_eq_none (by rw [smL_length hS 8 (by omega)]; omega), List.getElem?_eq_none (by rw [smL_length hR 8 (by omega)]; omega)]
theorem bhd_in {b S : List Int} (hS : S.length = 8) : InW (bhd b S) := by
  intro x hx
  obtain ⟨j, hj⟩ := List.getElem?_of_mem hx
  have hl : j < 8 := by
    have h1 := (List.getElem?_eq_some_iff.1 hj).1
    have h2 := bhd_length (b := b) hS
    omega
  have := smL_at (S := S) (R := rnd b S 64) (rnd_length hS 64) 8 j (by omega) hl
  have hj' : (smL S (rnd b S 64) 8)[j]? = some x := hj
  rw [this] at hj'
  rw [← Option.some.inj hj']
  exact wrap32_in _
theorem not_is {e : Int} (h : 0 ≤ e ∧ e < 4294967296) : IntKind.u32.wrap (4294967295 - e) = inot .u32 e := by
  have h1 : inot .u32 e = ixor .u32 4294967295 e := rfl
  rw [h1, ixor_nat rfl (by decide) (by decide) h.1 (by simpa [IntKind.bits] using h.2), wrap_u32]
  have h2 : (4294967295 : Int).toNat ^^^ e.toNat = 4294967295 - e.toNat := by
    have h3 : (4294967295 : Int).toNat = 2 ^ 32 - 1 := rfl
    rw [h3]
    have h4 : e.toNat < 2 ^ 32 := by omega
    have h5 : (BitVec.allOnes 32 ^^^ BitVec.ofNat 32 e.toNat) = ~~~ (BitVec.ofNat 32 e.toNat) := BitVec.allOnes_xor
    have h6 := congrArg BitVec.toNat h5
    rw [BitVec.toNat_xor, BitVec.toNat_allOnes, BitVec.toNat_ofNat, Nat.mod_eq_of_lt h4, BitVec.toNat_not, BitVec.toNat_ofNat, Nat.mod_eq_of_lt h4] at h6
    rw [h6]
  rw [h2]
  omega
/-- The document's digest, as ours. -/
theorem absB_rest_length (S l : List Int) : (absB S l).2.length = l.length % 64 := by
  by_cases h : 64 ≤ l.length
  · have e1 : absB S l = absB (bhd (l.take 64) S) (l.drop 64) := by rw [absB, if_pos h]
    rw [e1, absB_rest_length _ (l.drop 64)]
    simp; omega
  · have e1 : absB S l = (S, l) := by rw [absB, if_neg h]
    rw [e1]; show l.length = _; omega
termination_by l.length
decreasing_by simp; omega
theorem dig_fil (b : List Int) : Go.Proofs.YtlbbkaeohpaaiaaDoor.digOf b = ofBs (outB (absB Go.Proofs.YtlbbkaeohpaaiaaDoor.st0 (filB b)).1) := by
  rw [Go.Proofs.YtlbbkaeohpaaiaaDoor.digOf, dig, filB, absB_append, padB, wantZ, absB_rest_length]
  rw [show (119 - b.length % 64) % 64 = (63 * b.length + 55) % 64 by omega]
end Go.Sy
