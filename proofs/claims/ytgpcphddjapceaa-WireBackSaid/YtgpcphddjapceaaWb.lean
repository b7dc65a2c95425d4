/- The wire: the number that bytes begin with. -/
import Derived.Test.YtgpcphddjapceaaWa
namespace Go.Proofs.Ytgpcphddjapceaa
open Go.Sy

theorem min_i64 (P : Program) (ty : TypeId) (ats : Array TypeId) (a b : Int) : pureOf P (Builtin.min_ ats ty #[.int .i64 a, .int .i64 b]) = some (.int .i64 (min a b)) := by
  simp [Builtin.min_, Builtin.min2]
  show some (Value.int IntKind.i64 (if b < a then b else a)) = _
  by_cases h : b < a
  · rw [if_pos h, Int.min_eq_right (by omega)]
  · rw [if_neg h, Int.min_eq_left (by omega)]

set_option maxRecDepth 100000 in
set_option maxHeartbeats 4000000 in
theorem take_fn (nl : Bool) (b : List Int) (hb : InB b) (hl : b.length ≤ 10000000) :
    Fc Try.prog 52 [.sl .imm nl 1 (u8s b)] [] (.tup [.lit (.int .u64 (tk b).1), .lit (.int .i64 (tk b).2.1), .lit (.int .i64 (tk b).2.2)]) [] := by
  refine Fc.of (anys _ []) [] mixed Try.func52 rfl (by rfl) (by simp [Try.ntmps52]) (by decide) ?_
  obtain ⟨q, hq⟩ : ∃ q : Nat, q = min b.length 10 := ⟨_, rfl⟩
  have hq1 : min (b.length : Int) 10 = q := by omega
  have hq2 : min q b.length = q := by omega
  have hq3 : (q : Int) ≤ b.length := by omega
  simp -implicitDefEqProofs -dsimp [Try.ntmps52, litL, min_i64, hq1, hq2, hq3]
  refine LpK.mk (anys _ []) mixed (fun ((i, n) : Nat × Int) => i ≤ q ∧ (∀ (j : Nat) (h : j < b.length), j < i → 128 ≤ b[j]) ∧ (i ≤ 9 → n = (val (b.take i) : Int)))
    (fun ((i, n) : Nat × Int) => ⟨[(0, .sl .imm nl 1 (u8s b)), (5, .lit (.int .u64 n)), (12, .sl .imm nl 1 (u8s (b.take q))), (13, .lit (.int .i64 q)), (14, .lit (.int .i64 i))], [], 52⟩) (fun (i, _) => q - i) ((0, 0) : Nat × Int) ?_ (by simp -implicitDefEqProofs -dsimp) ?_
  · exact ⟨by omega, fun j _ h => by omega, fun _ => rfl⟩
  rintro ⟨i, n⟩ ⟨hi, hall, hn⟩
  by_cases hlt : i < q
  · have hib : i < b.length := by omega
    have hlt2 : (i : Int) < q := by omega
    have hx := hb b[i] (List.getElem_mem hib)
    obtain ⟨x, hxe⟩ : ∃ x, x = b[i] := ⟨_, rfl⟩
    rw [← hxe] at hx
    have hg : (b.take q)[i]? = some x := by rw [List.getElem?_take_of_lt hlt, List.getElem?_eq_getElem hib, hxe]
    have hw1 : IntKind.i64.wrap (7 * (i : Int)) = 7 * i := wrap64 (by omega) (by omega)
    have hw2 : IntKind.i64.wrap ((i : Int) + 1) = (i : Int) + 1 := wrap64 (by omega) (by omega)
    have h127 := iand_127 hx.1 hx.2
    have hc : IntKind.u64.wrap (x % 128) = x % 128 := by rw [wrap_is_u64]; omega
    have h7 : (0 : Int) ≤ 7 * (i : Int) := by omega
    have hn' := hn (by omega)
    have hs : ishl .u64 (x % 128) (7 * (i : Int)) = ((x % 128) * 2 ^ (7 * i)) % 18446744073709551616 := by
      have := ishl_u64 (y := x % 128) (s := 7 * i) (by omega)
      rwa [show ((7 * i : Nat) : Int) = 7 * (i : Int) by omega] at this
    have hv := val_snoc (b.take i) x
    rw [show (b.take i).length = i by rw [List.length_take]; omega, show b.take i ++ [x] = b.take (i + 1) by rw [List.take_succ_eq_append_getElem hib, hxe]] at hv
    have hp : 128 ^ i = 2 ^ (7 * i) := by rw [show (128 : Nat) = 2 ^ 7 from rfl, ← Nat.pow_mul]
    have hvl := val_lt (b.take i)
    rw [show (b.take i).length = i by rw [List.length_take]; omega, hp] at hvl
    -- what the number becomes, where it fits
    have hor : (x % 128).toNat * 2 ^ (7 * i) < 18446744073709551616 → ior .u64 n (ishl .u64 (x % 128) (7 * (i : Int))) = val (b.take (i + 1)) := by
      intro hfit
      have hbig : (2 : Nat) ^ (7 * i) ≤ 2 ^ 63 := Nat.pow_le_pow_right (by omega) (by omega)
      have e1 : (x % 128) * 2 ^ (7 * i) = (((x % 128).toNat * 2 ^ (7 * i) : Nat) : Int) := by
        rw [Int.natCast_mul, Int.natCast_pow, Int.toNat_of_nonneg (by omega)]; rfl
      have e2 : (((x % 128).toNat * 2 ^ (7 * i) : Nat) : Int) % 18446744073709551616 = (((x % 128).toNat * 2 ^ (7 * i) : Nat) : Int) := Int.emod_eq_of_lt (Int.natCast_nonneg _) (Int.ofNat_lt.2 hfit)
      rw [hs, e1, e2, hn', ior_add hvl hfit (by omega), hv, hp]
    by_cases hx128 : 128 ≤ x
    · simp -implicitDefEqProofs -dsimp [hlt2, hlt, hg, hw1, hw2, h127, hc, h7, hx128]
      refine .mk (i + 1, ior .u64 n (ishl .u64 (x % 128) (7 * (i : Int)))) ⟨by omega, fun j h hj => ?_, fun h9 => ?_⟩ (by simp; omega) (by simp -implicitDefEqProofs -dsimp)
      · rcases Nat.lt_or_ge j i with h' | h'
        · exact hall j h h'
        · have : j = i := by omega
          subst this
          omega
      · refine hor ?_
        have h1 : (x % 128).toNat ≤ 127 := by omega
        have h2 : (2 : Nat) ^ (7 * i) ≤ 2 ^ 56 := Nat.pow_le_pow_right (by omega) (by omega)
        have := Nat.mul_le_mul h1 h2
        omega
    · have hlead : lead 10 b = i := lead_eq (by omega) (by omega) (fun j h hj => hall j h hj) (fun _ h => by omega)
      have hgd : b.getD i 0 = x := by rw [List.getD_eq_getElem?_getD, List.getElem?_eq_getElem hib, hxe]; rfl
      have hx128' : ¬ 128 ≤ x := hx128
      have hne1 : ¬ i = 10 := by omega
      have hne2 : ¬ i = b.length := by omega
      by_cases hbad : (0 < i ∧ x = 0) ∨ (i = 9 ∧ 1 < x)
      · have hT : tk b = (0, 0, 3) := by
          simp only [tk, hlead, hgd, if_neg hne1, if_neg hne2, if_pos hbad]
        by_cases hb1 : 0 < i ∧ x = 0
        · have g1 : 0 < i := hb1.1
          have g2 : x = 0 := hb1.2
          have g3 : (i : Int) ≠ 0 := by omega
          subst g2
          simp -implicitDefEqProofs -dsimp [hlt2, hlt, hg, hw1, hw2, hc, h7, g1, g3, hT]
        · have g2 : 1 < x := by omega
          have g3 : ¬ x = 0 := by omega
          have g4 : 0 < i := by omega
          have g5 : i = 9 := by omega
          have g7 : decide ((i : Int) = 9) = true := by simp; omega
          simp -implicitDefEqProofs -dsimp [hlt2, hlt, hg, hw1, hw2, h127, hc, h7, hx128, g2, g3, g4, g7, hT]
      · have hT : tk b = (val (b.take (i + 1)), i + 1, 0) := by
          simp only [tk, hlead, hgd, if_neg hne1, if_neg hne2, if_neg hbad]
        have hfit : (x % 128).toNat * 2 ^ (7 * i) < 18446744073709551616 := by
          rcases Nat.lt_or_ge i 9 with h | h
          · have h1 : (x % 128).toNat ≤ 127 := by omega
            have h2 : (2 : Nat) ^ (7 * i) ≤ 2 ^ 56 := Nat.pow_le_pow_right (by omega) (by omega)
            have := Nat.mul_le_mul h1 h2
            omega
          · have h9 : i = 9 := by omega
            have h1 : (x % 128).toNat ≤ 1 := by omega
            subst h9
            omega
        have ho := hor hfit
        by_cases g1 : i = 0
        · have g3 : ¬ 0 < i := by omega
          have g7 : ¬ (i : Int) = 9 := by omega
          simp -implicitDefEqProofs -dsimp [hlt2, hlt, hg, hw1, hw2, h127, hc, h7, hx128, hT, ho, g3, g7]
        · have g2 : ¬ x = 0 := by omega
          have g3 : 0 < i := by omega
          have g4 : (i : Int) ≠ 0 := by omega
          by_cases g5 : i = 9
          · have g6 : ¬ 1 < x := by omega
            have g7 : decide ((i : Int) = 9) = true := by simp; omega
            simp -implicitDefEqProofs -dsimp [hlt2, hlt, hg, hw1, hw2, h127, hc, h7, hx128, hT, ho, g2, g3, g4, g6, g7]
          · have g7 : ¬ (i : Int) = 9 := by omega
            simp -implicitDefEqProofs -dsimp [hlt2, hlt, hg, hw1, hw2, h127, hc, h7, hx128, hT, ho, g2, g3, g4, g5, g7]
  · have hi : i = q := by omega
    subst hi
    by_cases h10 : 10 ≤ (b.length : Int)
    · have hlead : lead 10 b = 10 := lead_eq (by omega) (by omega) (fun j h hj => hall j h (by omega)) (by omega)
      have hT : tk b = (0, 0, 3) := by simp [tk, hlead]
      simp -implicitDefEqProofs -dsimp [h10, hT]
    · have hlead : lead 10 b = b.length := lead_eq (by omega) (by omega) (fun j h hj => hall j h (by omega)) (by omega)
      have hT : tk b = (0, 0, 2) := by
        have : ¬ b.length = 10 := by omega
        simp [tk, hlead, this]
      simp -implicitDefEqProofs -dsimp [h10, hT]
end Go.Proofs.Ytgpcphddjapceaa
