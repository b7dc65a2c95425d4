/- Rows: comparison. (and what stands on it) -/
import Derived.Test.YtekokchejkjjjaaDoorN8
import Derived.Test.YtekokchejkjjjaaDoorN6
set_option linter.unusedSimpArgs false
set_option linter.unusedVariables false

/-! Rows: comparison. -/
namespace Go.Proofs.YtekokchejkjjjaaDoor
open Go.Sy
theorem max_i64 (P : Program) (ty : TypeId) (ats : Array TypeId) (a b : Int) : pureOf P (Builtin.max_ ats ty #[.int .i64 a, .int .i64 b]) = some (.int .i64 (max a b)) := by
  simp [Builtin.max_, Builtin.max2]
  show some (Value.int IntKind.i64 (if a < b then b else a)) = _
  by_cases h : a < b
  · rw [if_pos h, Int.max_eq_right (by omega)]
  · rw [if_neg h, Int.max_eq_left (by omega)]

theorem take_same {xs ys : List Int} {i : Nat} (h1 : i < xs.length) (h2 : i < ys.length) (ht : xs.take i = ys.take i) (he : xs[i] = ys[i]) : xs.take (i + 1) = ys.take (i + 1) := by
  rw [List.take_succ_eq_append_getElem h1, List.take_succ_eq_append_getElem h2, ht, he]

set_option maxRecDepth 100000 in
set_option maxHeartbeats 1000000 in
theorem same_fn (n1 n2 : Bool) (xs ys : List Int) (hl : xs.length < 9223372036854775807) : Fc Tryd.prog 26 [.sl .imm n1 1 (u8s xs), .sl .imm n2 1 (u8s ys)] [] (.lit (.bool (decide (xs = ys)))) [] := by
  refine Fc.of (anys _ []) sch26 mixed Tryd.func26 rfl (by rfl) (by simp [Tryd.ntmps26]) (by decide) ?_
  simp -implicitDefEqProofs -dsimp [Tryd.ntmps26]
  refine Cnd.mk (fun h => ?_) (fun h => ?_)
  · have h : ¬ xs = ys := by rintro rfl; simp at h
    simp -implicitDefEqProofs -dsimp [h]
  · have h : xs.length = ys.length := by simp at h; omega
    simp -implicitDefEqProofs -dsimp
    refine LpK.mk (anys _ []) mixed (fun i : Nat => i ≤ xs.length ∧ xs.take i = ys.take i) (fun i => ⟨[(0, .sl .imm n1 1 (u8s xs)), (1, .sl .imm n2 1 (u8s ys)), (5, .lit (.int .i64 i))], [], 26⟩) (fun i => xs.length - i) 0 (by simp) (by simp -implicitDefEqProofs -dsimp) ?_
    rintro i ⟨hi, ht⟩
    by_cases hlt : i < xs.length
    · have hlt2 : i < ys.length := by omega
      by_cases he : xs[i] = ys[i]
      · have hw : IntKind.i64.wrap ((i : Int) + 1) = ((i + 1 : Nat) : Int) := wrap64 (by omega) (by omega)
        simp -implicitDefEqProofs -dsimp [hlt, hlt2, he, hw]
        exact .mk (i + 1) ⟨by omega, take_same hlt hlt2 ht he⟩ (by omega) (by simp -implicitDefEqProofs -dsimp)
      · have hn : ¬ xs = ys := by rintro rfl; exact he rfl
        simp -implicitDefEqProofs -dsimp [hlt, hlt2, he, hn]
    · have hn : xs = ys := by rwa [List.take_of_length_le (by omega), List.take_of_length_le (by omega)] at ht
      subst hn
      simp -implicitDefEqProofs -dsimp [hlt]
end Go.Proofs.YtekokchejkjjjaaDoor

/-! The wire: numbers and texts as bytes. -/
namespace Go.Proofs.YtekokchejkjjjaaDoor
open Go.Sy

set_option maxRecDepth 100000 in
set_option maxHeartbeats 1000000 in
theorem num_fn (nl : Bool) (b : List Int) (n : Nat) (hn : nl = true → b = []) (hb : b.length ≤ 10000000) (h : n < 18446744073709551616) :
    Fc Tryd.prog 69 [.sl .imm nl 1 (u8s b), .lit (.int .u64 n)] [] (.sl (.own (.loc 1070)) false 1 (u8s (b ++ enc n))) [] := by
  refine Fc.of (anys _ [66]) [] mixed Tryd.func69 rfl (by rfl) (by simp [Tryd.ntmps69]) (by decide) ?_
  simp -implicitDefEqProofs -dsimp [Tryd.ntmps69]
  refine CallK.fresh ?_
  simp -implicitDefEqProofs -dsimp
  refine CallQ.same (clone_fn nl b hn (by omega)) rfl ?_
  simp -implicitDefEqProofs -dsimp [fr_u8s]
  refine LpK.mk (anys _ []) mixed (fun (m, n', l) => m < 18446744073709551616 ∧ l ++ enc m = b ++ enc n ∧ l.length + (enc m).length = b.length + (enc n).length)
    (fun ((m, n', l) : Nat × Bool × List Int) => ⟨[(1, .lit (.int .u64 m)), (5, .sl (.own (.loc 1070)) n' 1 (u8s l))], [], 23⟩) (fun (m, _) => m) (n, nl, b) ⟨h, rfl, rfl⟩ (by simp -implicitDefEqProofs -dsimp) ?_
  rintro ⟨m, n', l⟩ ⟨hm, he, hlen⟩
  have hle := enc_u64 h
  have ht : l.length + 1 ≤ 140737488355328 := by omega
  have hc : IntKind.u8.wrap (m : Int) = (m : Int) % 256 := wrap_is_u8 _
  by_cases h1 : 128 ≤ (m : Int)
  · have h2 : ior .u8 ((m : Int) % 256) 128 = (m : Int) % 128 + 128 := by rw [ior_128 (by omega) (by omega)]; omega
    have h3 : ishr .u64 (m : Int) 7 = ((m / 128 : Nat) : Int) := by rw [ishr_7]; omega
    simp -implicitDefEqProofs -dsimp [h1, hc, h2, h3, ht]
    have e1 : enc m = ((m % 128 + 128 : Nat) : Int) :: enc (m / 128) := enc_ge (by omega)
    refine .mk (m / 128, false, l ++ [(m : Int) % 128 + 128]) ⟨by omega, ?_, ?_⟩ (by simp; omega) (by simp -implicitDefEqProofs -dsimp [ints])
    · rw [← he, e1]; simp
    · rw [← hlen, e1]; simp; omega
  · have h2 : (m : Int) % 256 = m := by omega
    have e1 : enc m = [(m : Int)] := enc_lt (by omega)
    have e2 : u8s l ++ [PV.lit (.int .u8 (m : Int))] = u8s (b ++ enc n) := by rw [← he, e1]; simp [ints]
    simp -implicitDefEqProofs -dsimp [h1, hc, h2, ht, e2]

theorem num_fn' (nl : Bool) (b : List Int) (n : Int) (hn : nl = true → b = []) (hb : b.length ≤ 10000000) (h0 : 0 ≤ n) (h : n < 18446744073709551616) :
    Fc Tryd.prog 69 [.sl .imm nl 1 (u8s b), .lit (.int .u64 n)] [] (.sl (.own (.loc 1070)) false 1 (u8s (b ++ enc n.toNat))) [] := by
  have := num_fn nl b n.toNat hn hb (by omega)
  rwa [show ((n.toNat : Nat) : Int) = n by omega] at this

set_option maxRecDepth 100000 in
set_option maxHeartbeats 1000000 in
theorem rnum_fn (nl : Bool) (b : List Int) (n : Nat) (hb : b.length ≤ 10000000) (h : n < 18446744073709551616) :
    Fc Tryd.prog 72 [.sl .imm nl 1 (u8s b), .lit (.int .u64 n)] [] (.sl (.own (.loc 6)) false 1 (u8s (b ++ enc n))) [] := by
  refine Fc.of (anys _ []) [] mixed Tryd.func72 rfl (by rfl) (by simp [Tryd.ntmps72]) (by decide) ?_
  have hb1 : b.length ≤ 140737488355328 := by omega
  simp -implicitDefEqProofs -dsimp [Tryd.ntmps72, hb1]
  refine LpK.mk (anys _ []) mixed (fun (m, l) => m < 18446744073709551616 ∧ l ++ enc m = b ++ enc n ∧ l.length + (enc m).length = b.length + (enc n).length)
    (fun ((m, l) : Nat × List Int) => ⟨[(1, .lit (.int .u64 m)), (5, .sl (.own (.loc 6)) false 1 (u8s l))], [], 25⟩) (fun (m, _) => m) (n, b) ⟨h, rfl, rfl⟩ (by simp -implicitDefEqProofs -dsimp) ?_
  rintro ⟨m, l⟩ ⟨hm, he, hlen⟩
  have hle := enc_u64 h
  have ht : l.length + 1 ≤ 140737488355328 := by omega
  have hc : IntKind.u8.wrap (m : Int) = (m : Int) % 256 := wrap_is_u8 _
  by_cases h1 : 127 < (m : Int)
  · have h3 : (m : Int).tmod 128 = (m : Int) % 128 := Int.tmod_eq_emod_of_nonneg (by omega)
    have h4 : IntKind.u64.wrap (128 + (m : Int) % 128) = 128 + (m : Int) % 128 := by rw [wrap_is_u64]; omega
    have h5 : IntKind.u8.wrap (128 + (m : Int) % 128) = 128 + (m : Int) % 128 := by rw [wrap_is_u8]; omega
    have h6 : iquo .u64 (m : Int) 128 = (m : Int) / 128 := by
      unfold iquo
      rw [wrap_is_u64, Int.tdiv_eq_ediv_of_nonneg (by omega)]; omega
    simp -implicitDefEqProofs -dsimp [h1, h3, h4, h5, h6, ht]
    have e1 : enc m = ((m % 128 + 128 : Nat) : Int) :: enc (m / 128) := enc_ge (by omega)
    refine .mk (m / 128, l ++ [128 + (m : Int) % 128]) ⟨by omega, ?_, ?_⟩ (by simp; omega) (by simp -implicitDefEqProofs -dsimp [ints])
    · rw [← he, e1]; simp; omega
    · rw [← hlen, e1]; simp; omega
  · have h2 : (m : Int) % 256 = m := by omega
    have e1 : enc m = [(m : Int)] := enc_lt (by omega)
    have e2 : u8s l ++ [PV.lit (.int .u8 (m : Int))] = u8s (b ++ enc n) := by rw [← he, e1]; simp [ints]
    simp -implicitDefEqProofs -dsimp [h1, hc, h2, ht, e2]

set_option maxRecDepth 100000 in
set_option maxHeartbeats 1000000 in
theorem text_fn (nl n2 : Bool) (b x : List Int) (hn : nl = true → b = []) (hb : b.length ≤ 10000000) (hx : x.length ≤ 10000000) :
    Fc Tryd.prog 71 [.sl .imm nl 1 (u8s b), .sl .imm n2 1 (u8s x)] [] (.sl (.own (.loc 1090)) false 1 (u8s (b ++ enc x.length ++ x))) [] := by
  have hw : IntKind.u64.wrap (x.length : Int) = x.length := by rw [wrap_is_u64]; omega
  have hle := enc_u64 (n := x.length) (by omega)
  have ht : b.length + (enc x.length).length + x.length ≤ 140737488355328 := by omega
  have ht2 : b.length + ((enc x.length).length + x.length) ≤ 140737488355328 := by omega
  refine Fc.of (anys _ [69]) [] mixed Tryd.func71 rfl (by rfl) (by simp [Tryd.ntmps71]) (by decide) ?_
  simp -implicitDefEqProofs -dsimp [Tryd.ntmps71, hw]
  refine CallK.fresh ?_
  simp -implicitDefEqProofs -dsimp
  refine CallQ.same (num_fn nl b x.length hn hb (by omega)) rfl ?_
  simp -implicitDefEqProofs -dsimp [fr_u8s, ht, ht2]

set_option maxRecDepth 100000 in
set_option maxHeartbeats 1000000 in
theorem rtext_fn (nl n2 : Bool) (b x : List Int) (hb : b.length ≤ 10000000) (hx : x.length ≤ 10000000) :
    Fc Tryd.prog 75 [.sl .imm nl 1 (u8s b), .sl .imm n2 1 (u8s x)] [] (.sl (.own (.loc 1090)) false 1 (u8s (b ++ enc x.length ++ x))) [] := by
  have hw : IntKind.u64.wrap (x.length : Int) = x.length := by rw [wrap_is_u64]; omega
  have hle := enc_u64 (n := x.length) (by omega)
  have ht : b.length + (enc x.length).length + x.length ≤ 140737488355328 := by omega
  have ht2 : b.length + ((enc x.length).length + x.length) ≤ 140737488355328 := by omega
  refine Fc.of (anys _ [72]) [] mixed Tryd.func75 rfl (by rfl) (by simp [Tryd.ntmps75]) (by decide) ?_
  simp -implicitDefEqProofs -dsimp [Tryd.ntmps75, hw]
  refine CallK.fresh ?_
  simp -implicitDefEqProofs -dsimp
  refine CallQ.same (rnum_fn nl b x.length hb (by omega)) rfl ?_
  simp -implicitDefEqProofs -dsimp [fr_u8s, ht, ht2]
end Go.Proofs.YtekokchejkjjjaaDoor

/-! The wire: the number that bytes begin with. -/
namespace Go.Proofs.YtekokchejkjjjaaDoor
open Go.Sy

set_option maxRecDepth 100000 in
set_option maxHeartbeats 4000000 in
theorem take_fn (nl : Bool) (b : List Int) (hb : InB b) (hl : b.length ≤ 10000000) :
    Fc Tryd.prog 95 [.sl .imm nl 1 (u8s b)] [] (.tup [.lit (.int .u64 (tk b).1), .lit (.int .i64 (tk b).2.1), .lit (.int .i64 (tk b).2.2)]) [] := by
  refine Fc.of (anys _ []) [] mixed Tryd.func95 rfl (by rfl) (by simp [Tryd.ntmps95]) (by decide) ?_
  obtain ⟨q, hq⟩ : ∃ q : Nat, q = min b.length 10 := ⟨_, rfl⟩
  have hq1 : min (b.length : Int) 10 = q := by omega
  have hq2 : min q b.length = q := by omega
  have hq3 : (q : Int) ≤ b.length := by omega
  simp -implicitDefEqProofs -dsimp [Tryd.ntmps95, litL, min_i64, hq1, hq2, hq3]
  refine LpK.mk (anys _ []) mixed (fun ((i, n) : Nat × Int) => i ≤ q ∧ (∀ (j : Nat) (h : j < b.length), j < i → 128 ≤ b[j]) ∧ (i ≤ 9 → n = (val (b.take i) : Int)))
    (fun ((i, n) : Nat × Int) => ⟨[(0, .sl .imm nl 1 (u8s b)), (5, .lit (.int .u64 n)), (12, .sl .imm nl 1 (u8s (b.take q))), (13, .lit (.int .i64 q)), (14, .lit (.int .i64 i))], [], 52⟩) (fun (i, _) => q - i) ((0, 0) : Nat × Int) ?_ (by simp -implicitDefEqProofs -dsimp) ?_
  · exact ⟨by omega, fun j _ h => by omega, fun _ => rfl⟩
  rintro ⟨i, n⟩ ⟨hi, hall, hn⟩
  by_cases hlt : i < q
  · have hib : i < b.length := by omega
    have hlt2 : (i : Int) < q := by omega
    have hx := hb b[i] (List.getElem_mem hib)
    obtain ⟨x, hxe⟩ : ∃ x, x = b[i] := ⟨_, rfl⟩
    rw [← hxe] at hx
    have hg : (b.take q)[i]? = some x := by rw [List.getElem?_take_of_lt hlt, List.getElem?_eq_getElem hib, hxe]
    have hw1 : IntKind.i64.wrap (7 * (i : Int)) = 7 * i := wrap64 (by omega) (by omega)
    have hw2 : IntKind.i64.wrap ((i : Int) + 1) = (i : Int) + 1 := wrap64 (by omega) (by omega)
    have h127 := iand_127 hx.1 hx.2
    have hc : IntKind.u64.wrap (x % 128) = x % 128 := by rw [wrap_is_u64]; omega
    have h7 : (0 : Int) ≤ 7 * (i : Int) := by omega
    have hn' := hn (by omega)
    have hs : ishl .u64 (x % 128) (7 * (i : Int)) = ((x % 128) * 2 ^ (7 * i)) % 18446744073709551616 := by
      have := ishl_u64 (y := x % 128) (s := 7 * i) (by omega)
      rwa [show ((7 * i : Nat) : Int) = 7 * (i : Int) by omega] at this
    have hv := val_snoc (b.take i) x
    rw [show (b.take i).length = i by rw [List.length_take]; omega, show b.take i ++ [x] = b.take (i + 1) by rw [List.take_succ_eq_append_getElem hib, hxe]] at hv
    have hp : 128 ^ i = 2 ^ (7 * i) := by rw [show (128 : Nat) = 2 ^ 7 from rfl, ← Nat.pow_mul]
    have hvl := val_lt (b.take i)
    rw [show (b.take i).length = i by rw [List.length_take]; omega, hp] at hvl
    -- what the number becomes, where it fits
    have hor : (x % 128).toNat * 2 ^ (7 * i) < 18446744073709551616 → ior .u64 n (ishl .u64 (x % 128) (7 * (i : Int))) = val (b.take (i + 1)) := by
      intro hfit
      have hbig : (2 : Nat) ^ (7 * i) ≤ 2 ^ 63 := Nat.pow_le_pow_right (by omega) (by omega)
      have e1 : (x % 128) * 2 ^ (7 * i) = (((x % 128).toNat * 2 ^ (7 * i) : Nat) : Int) := by
        rw [Int.natCast_mul, Int.natCast_pow, Int.toNat_of_nonneg (by omega)]; rfl
      have e2 : (((x % 128).toNat * 2 ^ (7 * i) : Nat) : Int) % 18446744073709551616 = (((x % 128).toNat * 2 ^ (7 * i) : Nat) : Int) := Int.emod_eq_of_lt (Int.natCast_nonneg _) (Int.ofNat_lt.2 hfit)
      rw [hs, e1, e2, hn', ior_add hvl hfit (by omega), hv, hp]
    by_cases hx128 : 128 ≤ x
    · simp -implicitDefEqProofs -dsimp [hlt2, hlt, hg, hw1, hw2, h127, hc, h7, hx128]
      refine .mk (i + 1, ior .u64 n (ishl .u64 (x % 128) (7 * (i : Int)))) ⟨by omega, fun j h hj => ?_, fun h9 => ?_⟩ (by simp; omega) (by simp -implicitDefEqProofs -dsimp)
      · rcases Nat.lt_or_ge j i with h' | h'
        · exact hall j h h'
        · have : j = i := by omega
          subst this
          omega
      · refine hor ?_
        have h1 : (x % 128).toNat ≤ 127 := by omega
        have h2 : (2 : Nat) ^ (7 * i) ≤ 2 ^ 56 := Nat.pow_le_pow_right (by omega) (by omega)
        have := Nat.mul_le_mul h1 h2
        omega
    · have hlead : lead 10 b = i := lead_eq (by omega) (by omega) (fun j h hj => hall j h hj) (fun _ h => by omega)
      have hgd : b.getD i 0 = x := by rw [List.getD_eq_getElem?_getD, List.getElem?_eq_getElem hib, hxe]; rfl
      have hx128' : ¬ 128 ≤ x := hx128
      have hne1 : ¬ i = 10 := by omega
      have hne2 : ¬ i = b.length := by omega
      by_cases hbad : (0 < i ∧ x = 0) ∨ (i = 9 ∧ 1 < x)
      · have hT : tk b = (0, 0, 3) := by
          simp only [tk, hlead, hgd, if_neg hne1, if_neg hne2, if_pos hbad]
        by_cases hb1 : 0 < i ∧ x = 0
        · have g1 : 0 < i := hb1.1
          have g2 : x = 0 := hb1.2
          have g3 : (i : Int) ≠ 0 := by omega
          subst g2
          simp -implicitDefEqProofs -dsimp [hlt2, hlt, hg, hw1, hw2, hc, h7, g1, g3, hT]
        · have g2 : 1 < x := by omega
          have g3 : ¬ x = 0 := by omega
          have g4 : 0 < i := by omega
          have g5 : i = 9 := by omega
          have g7 : decide ((i : Int) = 9) = true := by simp; omega
          simp -implicitDefEqProofs -dsimp [hlt2, hlt, hg, hw1, hw2, h127, hc, h7, hx128, g2, g3, g4, g7, hT]
      · have hT : tk b = (val (b.take (i + 1)), i + 1, 0) := by
          simp only [tk, hlead, hgd, if_neg hne1, if_neg hne2, if_neg hbad]
        have hfit : (x % 128).toNat * 2 ^ (7 * i) < 18446744073709551616 := by
          rcases Nat.lt_or_ge i 9 with h | h
          · have h1 : (x % 128).toNat ≤ 127 := by omega
            have h2 : (2 : Nat) ^ (7 * i) ≤ 2 ^ 56 := Nat.pow_le_pow_right (by omega) (by omega)
            have := Nat.mul_le_mul h1 h2
            omega
          · have h9 : i = 9 := by omega
            have h1 : (x % 128).toNat ≤ 1 := by omega
            subst h9
            omega
        have ho := hor hfit
        by_cases g1 : i = 0
        · have g3 : ¬ 0 < i := by omega
          have g7 : ¬ (i : Int) = 9 := by omega
          simp -implicitDefEqProofs -dsimp [hlt2, hlt, hg, hw1, hw2, h127, hc, h7, hx128, hT, ho, g3, g7]
        · have g2 : ¬ x = 0 := by omega
          have g3 : 0 < i := by omega
          have g4 : (i : Int) ≠ 0 := by omega
          by_cases g5 : i = 9
          · have g6 : ¬ 1 < x := by omega
            have g7 : decide ((i : Int) = 9) = true := by simp; omega
            simp -implicitDefEqProofs -dsimp [hlt2, hlt, hg, hw1, hw2, h127, hc, h7, hx128, hT, ho, g2, g3, g4, g6, g7]
          · have g7 : ¬ (i : Int) = 9 := by omega
            simp -implicitDefEqProofs -dsimp [hlt2, hlt, hg, hw1, hw2, h127, hc, h7, hx128, hT, ho, g2, g3, g4, g5, g7]
  · have hi : i = q := by omega
    subst hi
    by_cases h10 : 10 ≤ (b.length : Int)
    · have hlead : lead 10 b = 10 := lead_eq (by omega) (by omega) (fun j h hj => hall j h (by omega)) (by omega)
      have hT : tk b = (0, 0, 3) := by simp [tk, hlead]
      simp -implicitDefEqProofs -dsimp [h10, hT]
    · have hlead : lead 10 b = b.length := lead_eq (by omega) (by omega) (fun j h hj => hall j h (by omega)) (by omega)
      have hT : tk b = (0, 0, 2) := by
        have : ¬ b.length = 10 := by omega
        simp [tk, hlead, this]
      simp -implicitDefEqProofs -dsimp [h10, hT]
end Go.Proofs.YtekokchejkjjjaaDoor

/-! The wire: readers. -/
namespace Go.Proofs.YtekokchejkjjjaaDoor
open Go.Sy

def wcells (s : WS) : List PV := [.sl .imm s.nl 1 (u8s s.b), .lit (.int .i64 s.fail)]
def wcellsO (s : WS) : Option Own → List PV
  | some o => [.sl o s.nl 1 (u8s s.b), .lit (.int .i64 s.fail)]
  | none => [.dead, .lit (.int .i64 s.fail)]
@[simp] theorem wcellsO_imm (s : WS) : wcellsO s (some .imm) = wcells s := (rfl)
@[simp ↓] theorem ws_scrub (F : Own → Option Own) (p : Nat → Option Nat) (s : WS) : PV.scrubL F p (wcells s) = wcellsO s (F .imm) := by
  simp only [wcells, PV.scrubL, PV.scrub, wcellsO]
  cases F .imm <;> rfl
@[simp ↓] theorem ws_lend (s : WS) : lendCells (wcells s) = some (wcells s) := by
  simp [wcells, lendCells, lendCell, Value.oneCell']
@[simp ↓] theorem ws_ids (s : WS) : idsOfL (wcells s) = [] := by simp [wcells]
@[simp ↓] theorem ws_toks (s : WS) : toksOfL (wcells s) = [] := by simp [wcells]
@[simp] theorem ws_get0 (s : WS) : (wcells s)[0]? = some (.sl .imm s.nl 1 (u8s s.b)) := rfl
@[simp] theorem ws_get1 (s : WS) : (wcells s)[1]? = some (.lit (.int .i64 s.fail)) := rfl

set_option maxRecDepth 100000 in
theorem fail_fn (s : WS) : Fc Tryd.prog 97 [.cur .imm (wcells s)] [] (.lit (.int .i64 s.fail)) [] := by
  refine Fc.of (anys _ []) [] mixed Tryd.func97 rfl (by rfl) (by simp [Tryd.ntmps97]) (by decide) ?_
  simp -implicitDefEqProofs -dsimp [Tryd.ntmps97, wcells]
set_option maxRecDepth 100000 in
theorem wleft_fn (s : WS) : Fc Tryd.prog 100 [.cur .imm (wcells s)] [] (.lit (.int .i64 s.b.length)) [] := by
  refine Fc.of (anys _ []) [] mixed Tryd.func100 rfl (by rfl) (by simp [Tryd.ntmps100]) (by decide) ?_
  simp -implicitDefEqProofs -dsimp [Tryd.ntmps100, wcells]
set_option maxRecDepth 100000 in
theorem end_fn (s : WS) : Fc Tryd.prog 79 [.cur .imm (wcells s)] [] (.lit (.int .i64 s.fin)) [] := by
  refine Fc.of (anys _ []) [] mixed Tryd.func79 rfl (by rfl) (by simp [Tryd.ntmps79]) (by decide) ?_
  by_cases h : s.fail = 0
  · by_cases h2 : 0 < s.b.length
    · simp -implicitDefEqProofs -dsimp [Tryd.ntmps79, wcells, h, h2, WS.fin]
    · simp -implicitDefEqProofs -dsimp [Tryd.ntmps79, wcells, h, h2, WS.fin]
  · simp -implicitDefEqProofs -dsimp [Tryd.ntmps79, wcells, h, WS.fin]

set_option maxRecDepth 100000 in
theorem open_fn0 (nl : Bool) (b : List Int) (hn : nl = true → b = []) (hb : b.length ≤ 1000000) : Fc Tryd.prog 76 [.sl .imm nl 1 (u8s b)] [] (.ptr 6 0) [(6, .cells [.sl (.own (.cell 6 0)) nl 1 (u8s b), .lit (.int .i64 0)])] := by
  refine Fc.of (anys _ [66]) [] mixed Tryd.func76 rfl (by rfl) (by simp [Tryd.ntmps76]) (by decide) ?_
  simp -implicitDefEqProofs -dsimp [Tryd.ntmps76]
  refine CallK.fresh ?_
  simp -implicitDefEqProofs -dsimp
  refine CallQ.same (clone_fn nl b hn (by omega)) rfl ?_
  simp -implicitDefEqProofs -dsimp [fr_u8s]
theorem open_fn (nl : Bool) (b : List Int) (hn : nl = true → b = []) (hb : b.length ≤ 1000000) : Fc Tryd.prog 76 [.sl .imm nl 1 (u8s b)] [] (.ptr 6 0) [(6, .cells (wcells ⟨nl, b, 0⟩))] := by
  have := (open_fn0 nl b hn hb).fz [.cell 6 0]
  simpa [fzOf, wcells] using this

set_option maxRecDepth 100000 in
set_option maxHeartbeats 1000000 in
theorem num1_fn (s : WS) (hs : s.Ok) (v : Int) : Fc Tryd.prog 94 [.ptr 100000 0, .ptr 100001 0] [(100000, .cells [.ptr 100002 0]), (100001, .cells [.lit (.int .u64 v)]), (100002, .cells (wcells s))]
    (.lit (.int .i64 (tk s.b).2.2)) [(100000, .cells [.ptr 100002 0]), (100001, .cells [.lit (.int .u64 (tk s.b).1)]), (100002, .cells (wcells { s with b := s.b.drop (tk s.b).2.1 }))] := by
  obtain ⟨h1, h2, h3, h4, h5⟩ := tk_spec s.b hs.bytes
  have hk : ((tk s.b).2.1 : Int) ≤ s.b.length := by omega
  refine Fc.of (anys _ [95]) sch94 mixed Tryd.func94 rfl (by rfl) (by simp [Tryd.ntmps94]) (by decide) ?_
  simp -implicitDefEqProofs -dsimp [Tryd.ntmps94]
  refine CallK.reads ?_
  simp -implicitDefEqProofs -dsimp
  refine CallQ.same (take_fn s.nl s.b hs.bytes (by have := hs.len; omega)) rfl ?_
  simp -implicitDefEqProofs -dsimp [plain_tup, h1, wcells]

set_option maxRecDepth 100000 in
set_option maxHeartbeats 1000000 in
theorem try1_fn (s : WS) (hs : s.Ok) : Fc Tryd.prog 93 [.ptr 100000 0, .fn (.func 94) [] [.ptr 100001 0, .ptr 100002 0]] [(100000, .cells (wcells s)), (100001, .cells [.ptr 100000 0]), (100002, .cells [.lit (.int .u64 0)])]
    (.tup []) [(100000, .cells (wcells s.num.2)), (100001, .cells [.ptr 100000 0]), (100002, .cells [.lit (.int .u64 s.num.1)])] := by
  obtain ⟨h1, h2, h3, h4, h5, h6⟩ := tk_spec s.b hs.bytes
  refine Fc.of (anys _ [94]) [] mixed Tryd.func93 rfl (by rfl) (by simp [Tryd.ntmps93]) (by decide) ?_
  by_cases hf : s.fail = 0
  · by_cases he : (tk s.b).2.2 = 0
    · have e : s.num = ((tk s.b).1, ⟨s.nl, s.b.drop (tk s.b).2.1, 0⟩) := by simp [WS.num, hf, he]
      simp -implicitDefEqProofs -dsimp [Tryd.ntmps93, hf]
      refine CallK.works ?_
      simp -implicitDefEqProofs -dsimp
      refine CallQ.mk (num1_fn s hs 0) (by simp) ?_
      simp -implicitDefEqProofs -dsimp [he, hf, e, wcells]
    · have e : s.num = (0, ⟨s.nl, s.b, (tk s.b).2.2⟩) := by simp [WS.num, hf, he]
      simp -implicitDefEqProofs -dsimp [Tryd.ntmps93, hf]
      refine CallK.works ?_
      simp -implicitDefEqProofs -dsimp
      refine CallQ.mk (num1_fn s hs 0) (by simp) ?_
      simp -implicitDefEqProofs -dsimp [he, hf, e, wcells, (h5 he).1]
  · have e : s.num = (0, s) := by simp [WS.num, hf]
    simp -implicitDefEqProofs -dsimp [Tryd.ntmps93, hf, e]

set_option maxRecDepth 100000 in
set_option maxHeartbeats 1000000 in
theorem wnum_fn (s : WS) (hs : s.Ok) : Fc Tryd.prog 77 [.ptr 100000 0] [(100000, .cells (wcells s))] (.lit (.int .u64 s.num.1)) [(100000, .cells (wcells s.num.2))] := by
  refine Fc.of (anys _ [93]) [] mixed Tryd.func77 rfl (by rfl) (by simp [Tryd.ntmps77]) (by decide) ?_
  simp -implicitDefEqProofs -dsimp [Tryd.ntmps77]
  refine CallK.works ?_
  simp -implicitDefEqProofs -dsimp
  refine CallQ.mk (try1_fn s hs) (by simp) ?_
  simp -implicitDefEqProofs -dsimp

set_option maxRecDepth 100000 in
set_option maxHeartbeats 1000000 in
theorem text1_fn (s : WS) (hs : s.Ok) (hf : s.fail = 0) (limit : Int) (hl : -9223372036854775808 ≤ limit) (hl2 : limit < 9223372036854775808) :
    Fc Tryd.prog 109 [.ptr 100000 0, .ptr 100001 0, .ptr 100002 0] [(100000, .cells [.ptr 100003 0]), (100001, .cells [.lit (.int .i64 limit)]), (100002, .cells [.sl .imm true 0 []]), (100003, .cells (wcells s))]
    (.lit (.int .i64 (s.text limit).2.fail)) [(100000, .cells [.ptr 100003 0]), (100001, .cells [.lit (.int .i64 limit)]), (100002, .cells [.sl .imm (s.text limit).1.1 1 (u8s (s.text limit).1.2)]), (100003, .cells (wcells { (s.text limit).2 with fail := 0 }))] := by
  obtain ⟨h1, h2, h3, h4, h5, h6⟩ := tk_spec s.b hs.bytes
  have hlen := hs.len
  have q := Fc.of (P := Tryd.prog) (args := [.ptr 100000 0, .ptr 100001 0, .ptr 100002 0]) (h := [(100000, .cells [.ptr 100003 0]), (100001, .cells [.lit (.int .i64 limit)]), (100002, .cells [.sl .imm true 0 []]), (100003, .cells (wcells s))])
    (X := .lit (.int .i64 (s.text limit).2.fail)) (H := [(100000, .cells [.ptr 100003 0]), (100001, .cells [.lit (.int .i64 limit)]), (100002, .cells [.sl (.own (.cell 100002 0)) (s.text limit).1.1 1 (u8s (s.text limit).1.2)]), (100003, .cells (wcells { (s.text limit).2 with fail := 0 }))])
    (anys _ [95, 66]) sch109 mixed Tryd.func109 rfl (by rfl) (by simp [Tryd.ntmps109]) (by decide) ?_
  · have := q.fz [.cell 100002 0]
    simpa [fzOf] using this
  · simp -implicitDefEqProofs -dsimp [Tryd.ntmps109]
    refine CallK.reads ?_
    simp -implicitDefEqProofs -dsimp
    refine CallQ.same (take_fn s.nl s.b hs.bytes (by omega)) rfl ?_
    simp -implicitDefEqProofs -dsimp [plain_tup]
    by_cases he : (tk s.b).2.2 = 0
    · have hnl : s.nl = false := by
        cases hn : s.nl with
        | false => rfl
        | true =>
          have h7 := h6 he
          have h8 : s.b.length = 0 := by rw [hs.nil hn]; rfl
          omega
      have hlm : IntKind.u64.wrap (max 0 limit) = max 0 limit := by rw [wrap_is_u64]; omega
      by_cases hlim : max 0 limit < ((tk s.b).1 : Int)
      · have e : s.text limit = ((true, []), ⟨s.nl, s.b, 4⟩) := by simp [WS.text, hf, he, hlim]
        simp -implicitDefEqProofs -dsimp [he, e, litL, max_i64, hlm, hlim, wcells, hf]
      · have hlim' : ¬ max 0 limit < ((tk s.b).1 : Int) := hlim
        have hw1 : IntKind.i64.wrap ((s.b.length : Int) - ((tk s.b).2.1 : Int)) = (s.b.length : Int) - ((tk s.b).2.1 : Int) := wrap64 (by omega) (by omega)
        have hw2 : IntKind.u64.wrap ((s.b.length : Int) - ((tk s.b).2.1 : Int)) = (s.b.length : Int) - ((tk s.b).2.1 : Int) := by rw [wrap_is_u64]; omega
        by_cases hsh : (s.b.length : Int) - ((tk s.b).2.1 : Int) < ((tk s.b).1 : Int)
        · have e : s.text limit = ((true, []), ⟨s.nl, s.b, 2⟩) := by simp only [WS.text, hf, he, ne_eq, not_true, if_false, if_neg hlim, if_pos hsh]
          simp -implicitDefEqProofs -dsimp [he, e, litL, max_i64, hlm, hlim, wcells, hf, hw1, hw2, hsh]
        · have e : s.text limit = ((false, (s.b.drop (tk s.b).2.1).take (tk s.b).1), ⟨s.nl, s.b.drop ((tk s.b).2.1 + (tk s.b).1), 0⟩) := by simp only [WS.text, hf, he, ne_eq, not_true, if_false, if_neg hlim, if_neg hsh]
          have hw3 : IntKind.i64.wrap ((tk s.b).1 : Int) = ((tk s.b).1 : Int) := wrap64 (by omega) (by omega)
          have hw4 : IntKind.i64.wrap (((tk s.b).2.1 : Int) + ((tk s.b).1 : Int)) = (((tk s.b).2.1 + (tk s.b).1 : Nat) : Int) := by rw [wrap64 (by omega) (by omega)]; omega
          generalize tk s.b = T at *
          obtain ⟨n, k, ee⟩ := T
          simp only at *
          have c1 : (k : Int) ≤ (k : Int) + (n : Int) := by omega
          have c2 : (k : Int) + (n : Int) ≤ s.b.length := by omega
          have c3 : ((k : Int) + (n : Int)).toNat = k + n := by omega
          have c4 : (s.b.take (k + n)).drop k = (s.b.drop k).take n := by rw [List.drop_take]; congr 1; omega
          have c5 : ((s.b.drop k).take n).length ≤ 140737488355328 := by simp; omega
          have c6 : (0 : Int) ≤ (k : Int) + (n : Int) := by omega
          simp -implicitDefEqProofs -dsimp [he, e, litL, max_i64, hlm, hlim, wcells, hf, hw1, hw2, hw3, hw4, hsh, c1, c2, c3, c4, c6]
          refine CallK.fresh ?_
          simp -implicitDefEqProofs -dsimp
          refine CallQ.same (clone_fn s.nl ((s.b.drop k).take n) (by rw [hnl]; simp) c5) rfl ?_
          simp -implicitDefEqProofs -dsimp [fr_u8s, c1, c2, c3, c4, c6, hnl, e, wcells]
    · have e : s.text limit = ((true, []), ⟨s.nl, s.b, (tk s.b).2.2⟩) := by simp [WS.text, hf, he]
      simp -implicitDefEqProofs -dsimp [he, e, wcells, hf]

set_option maxRecDepth 100000 in
set_option maxHeartbeats 1000000 in
theorem try2_fn (s : WS) (hs : s.Ok) (limit : Int) (hl : -9223372036854775808 ≤ limit) (hl2 : limit < 9223372036854775808) :
    Fc Tryd.prog 93 [.ptr 100000 0, .fn (.func 109) [] [.ptr 100001 0, .ptr 100002 0, .ptr 100003 0]] [(100000, .cells (wcells s)), (100001, .cells [.ptr 100000 0]), (100002, .cells [.lit (.int .i64 limit)]), (100003, .cells [.sl .imm true 0 []])]
    (.tup []) [(100000, .cells (wcells (s.text limit).2)), (100001, .cells [.ptr 100000 0]), (100002, .cells [.lit (.int .i64 limit)]), (100003, .cells [.sl .imm (s.text limit).1.1 1 (u8s (s.text limit).1.2)])] := by
  refine Fc.of (anys _ [109]) [] mixed Tryd.func93 rfl (by rfl) (by simp [Tryd.ntmps93]) (by decide) ?_
  by_cases hf : s.fail = 0
  · have hT := text1_fn s hs hf limit hl hl2
    simp -implicitDefEqProofs -dsimp [Tryd.ntmps93, hf]
    refine CallK.works ?_
    simp -implicitDefEqProofs -dsimp
    refine CallQ.mk hT (by simp) ?_
    by_cases he : (s.text limit).2.fail = 0
    · simp -implicitDefEqProofs -dsimp [he, hf, wcells]
    · have e : (s.text limit).2.b = s.b ∧ (s.text limit).2.nl = s.nl := by
        unfold WS.text at he ⊢
        split
        · exact ⟨rfl, rfl⟩
        · split
          · exact ⟨rfl, rfl⟩
          · split
            · exact ⟨rfl, rfl⟩
            · split
              · exact ⟨rfl, rfl⟩
              · simp_all
      simp -implicitDefEqProofs -dsimp [he, hf, e.1, e.2, wcells]
  · have e : s.text limit = ((true, []), s) := by simp [WS.text, hf]
    simp -implicitDefEqProofs -dsimp [Tryd.ntmps93, hf, e]

set_option maxRecDepth 100000 in
set_option maxHeartbeats 1000000 in
theorem wtext_fn (s : WS) (hs : s.Ok) (limit : Int) (hl : -9223372036854775808 ≤ limit) (hl2 : limit < 9223372036854775808) :
    Fc Tryd.prog 96 [.ptr 100000 0, .lit (.int .i64 limit)] [(100000, .cells (wcells s))] (.sl .imm (s.text limit).1.1 1 (u8s (s.text limit).1.2)) [(100000, .cells (wcells (s.text limit).2))] := by
  refine Fc.of (anys _ [93]) [] mixed Tryd.func96 rfl (by rfl) (by simp [Tryd.ntmps96]) (by decide) ?_
  simp -implicitDefEqProofs -dsimp [Tryd.ntmps96]
  refine CallK.works ?_
  simp -implicitDefEqProofs -dsimp
  refine CallQ.mk (try2_fn s hs limit hl hl2) (by simp) ?_
  simp -implicitDefEqProofs -dsimp
end Go.Proofs.YtekokchejkjjjaaDoor

/-! The wire: the document's readers. -/
namespace Go.Sy
end Go.Sy
namespace Go.Proofs.YtekokchejkjjjaaDoor
open Go.Sy

/-- What the document's reader has. -/
structure RR where
  nl : Bool
  b : List Int
  pos : Nat
  fail : Int
def rcells (s : RR) : List PV := [.sl .imm s.nl 1 (u8s s.b), .lit (.int .i64 s.pos), .lit (.int .i64 s.fail)]
def rcellsO (s : RR) : Option Own → List PV
  | some o => [.sl o s.nl 1 (u8s s.b), .lit (.int .i64 s.pos), .lit (.int .i64 s.fail)]
  | none => [.dead, .lit (.int .i64 s.pos), .lit (.int .i64 s.fail)]
@[simp] theorem rcellsO_imm (s : RR) : rcellsO s (some .imm) = rcells s := (rfl)
@[simp ↓] theorem rr_scrub (F : Own → Option Own) (p : Nat → Option Nat) (s : RR) : PV.scrubL F p (rcells s) = rcellsO s (F .imm) := by
  simp only [rcells, PV.scrubL, PV.scrub, rcellsO]
  cases F .imm <;> rfl
@[simp ↓] theorem rr_lend (s : RR) : lendCells (rcells s) = some (rcells s) := by
  simp [rcells, lendCells, lendCell, Value.oneCell']
@[simp ↓] theorem rr_ids (s : RR) : idsOfL (rcells s) = [] := by simp [rcells]
@[simp ↓] theorem rr_toks (s : RR) : toksOfL (rcells s) = [] := by simp [rcells]
@[simp] theorem rr_get0 (s : RR) : (rcells s)[0]? = some (.sl .imm s.nl 1 (u8s s.b)) := rfl
@[simp] theorem rr_get1 (s : RR) : (rcells s)[1]? = some (.lit (.int .i64 s.pos)) := rfl
@[simp] theorem rr_get2 (s : RR) : (rcells s)[2]? = some (.lit (.int .i64 s.fail)) := rfl

@[simp] theorem rr_len (s : RR) : (rcells s).length = 3 := rfl
@[simp] theorem rr_tail (s : RR) : (rcells s).tail = [.lit (.int .i64 s.pos), .lit (.int .i64 s.fail)] := rfl
@[simp] theorem rr_drop1 (s : RR) : (rcells s).drop 1 = [.lit (.int .i64 s.pos), .lit (.int .i64 s.fail)] := rfl
@[simp] theorem rr_drop2 (s : RR) : (rcells s).drop 2 = [.lit (.int .i64 s.fail)] := rfl

structure RR.Ok (s : RR) : Prop where
  bytes : InB s.b
  pos : s.pos ≤ s.b.length
  len : s.b.length ≤ 1000000

set_option maxRecDepth 100000 in
theorem rleft_fn (s : RR) (hs : s.Ok) : Fc Tryd.prog 64 [.cur .imm (rcells s)] [] (.lit (.int .i64 ((s.b.length : Int) - s.pos))) [] := by
  have h1 := hs.pos
  have h2 := hs.len
  have hw : IntKind.i64.wrap ((s.b.length : Int) - (s.pos : Int)) = (s.b.length : Int) - s.pos := wrap64 (by omega) (by omega)
  refine Fc.of (anys _ []) sch64 mixed Tryd.func64 rfl (by rfl) (by simp [Tryd.ntmps64]) (by decide) ?_
  simp -implicitDefEqProofs -dsimp [Tryd.ntmps64, rcells, hw]

theorem rnil_fn (n : Nat) (h : n < 18446744073709551616) : Fc Tryd.prog 72 [.sl .imm true 0 [], .lit (.int .u64 n)] [] (.sl (.own (.loc 6)) false 1 (u8s (enc n))) [] := by
  have := rnum_fn true [] n (by simp) h
  exact this.args (by simp)

set_option maxRecDepth 100000 in
set_option maxHeartbeats 4000000 in
theorem next_fn (s : RR) (hs : s.Ok) : Fc Tryd.prog 89 [.cur .imm (rcells s)] [] (.tup [.lit (.int .u64 (tk (s.b.drop s.pos)).1), .lit (.int .i64 (tk (s.b.drop s.pos)).2.1), .lit (.int .i64 (tk (s.b.drop s.pos)).2.2)]) [] := by
  have h1 := hs.pos
  have h2 := hs.len
  have hb := hs.bytes
  obtain ⟨D, hD⟩ : ∃ D, D = s.b.drop s.pos := ⟨_, rfl⟩
  have hDl : D.length = s.b.length - s.pos := by rw [hD]; simp
  have hDb : InB D := by rw [hD]; exact hb.drop _
  have hDg : ∀ (j : Nat) (h : j < D.length), s.b[s.pos + j]? = some D[j] := fun j h => by
    rw [← List.getElem?_drop, ← hD]; exact List.getElem?_eq_getElem h
  rw [← hD]
  refine Fc.of (anys _ [64, 72, 26]) sch89 mixed Tryd.func89 rfl (by rfl) (by simp [Tryd.ntmps89]) (by decide) ?_
  simp -implicitDefEqProofs -dsimp [Tryd.ntmps89]
  refine LpK.mk (anys _ [64]) mixed (fun k : Nat => k ≤ 10 ∧ k ≤ D.length ∧ ∀ (j : Nat) (h : j < D.length), j < k → 128 ≤ D[j]) (fun k => ⟨[(0, .cur .imm (rcells s)), (5, .lit (.int .i64 k))], [], 86⟩) (fun k => 10 - k) 0 ⟨by omega, by omega, fun j _ h => by omega⟩ (by simp -implicitDefEqProofs -dsimp) ?_
  rintro k ⟨hk1, hk2, hall⟩
  have hw1 : IntKind.i64.wrap ((k : Int) + 1) = (k : Int) + 1 := wrap64 (by omega) (by omega)
  by_cases hkl : k = D.length
  · have c1 : ¬ (k : Int) < (s.b.length : Int) - (s.pos : Int) := by omega
    have c2 : (k : Int) = (s.b.length : Int) - (s.pos : Int) := by omega
    have hlead : lead 10 D = k := lead_eq hk1 hk2 hall (fun _ h => by omega)
    simp -implicitDefEqProofs -dsimp
    refine CallK.reads ?_
    simp -implicitDefEqProofs -dsimp
    refine CallQ.same (rleft_fn s hs) rfl ?_
    simp -implicitDefEqProofs -dsimp [c1]
    by_cases h10 : k = 10
    · have c3 : (k : Int) = 10 := by omega
      have hT : tk D = (0, 0, 3) := by simp [tk, hlead, h10]
      simp -implicitDefEqProofs -dsimp [c3, hT]
    · have c3 : ¬ (k : Int) = 10 := by omega
      have hT : tk D = (0, 0, 2) := by
        have : ¬ D.length = 10 := by omega
        simp only [tk, hlead, hkl, this, if_false, if_true]
      simp -implicitDefEqProofs -dsimp [c3]
      refine CallK.reads ?_
      simp -implicitDefEqProofs -dsimp
      refine CallQ.same (rleft_fn s hs) rfl ?_
      simp -implicitDefEqProofs -dsimp
      simp -implicitDefEqProofs -dsimp [c2, hT]
  · have c1 : (k : Int) < (s.b.length : Int) - (s.pos : Int) := by omega
    have c2 : ¬ (k : Int) = (s.b.length : Int) - (s.pos : Int) := by omega
    have hkD : k < D.length := by omega
    by_cases h10 : k = 10
    · have c3 : ¬ (k : Int) < 10 := by omega
      have c4 : decide ((k : Int) = 10) = true := by simp; omega
      have hlead : lead 10 D = k := lead_eq hk1 hk2 hall (fun h => by omega)
      have hT : tk D = (0, 0, 3) := by simp [tk, hlead, h10]
      simp -implicitDefEqProofs -dsimp
      refine CallK.reads ?_
      simp -implicitDefEqProofs -dsimp
      refine CallQ.same (rleft_fn s hs) rfl ?_
      simp -implicitDefEqProofs -dsimp [c1, c3]
      simp -implicitDefEqProofs -dsimp [c4, hT]
    · have c3 : (k : Int) < 10 := by omega
      have c4 : ¬ (k : Int) = 10 := by omega
      have c5 : IntKind.i64.wrap ((s.pos : Int) + (k : Int)) = (s.pos : Int) + (k : Int) := wrap64 (by omega) (by omega)
      have c6 : ((s.pos : Int) + (k : Int)).toNat = s.pos + k := by omega
      have c7 := hDg k hkD
      have c8 : (0 : Int) ≤ (s.pos : Int) + (k : Int) := by omega
      by_cases hx : 127 < D[k]
      · simp -implicitDefEqProofs -dsimp
        refine CallK.reads ?_
        simp -implicitDefEqProofs -dsimp
        refine CallQ.same (rleft_fn s hs) rfl ?_
        simp -implicitDefEqProofs -dsimp [c1, c3, rcells, c5, c6, c7, c8, hx, hw1]
        exact .mk (k + 1) ⟨by omega, by omega, fun j h hj => by
          rcases Nat.lt_or_ge j k with h' | h'
          · exact hall j h h'
          · have : j = k := by omega
            subst this
            omega⟩ (by omega) (by simp -implicitDefEqProofs -dsimp [rcells])
      · have hx0 : D[k] < 128 := by omega
        have hlead : lead 10 D = k := lead_eq hk1 hk2 hall (fun _ _ => hx0)
        have hform := form_iff (fun x hx => hDb x hx) hkD (by omega) hall hx0
        have hgd : D.getD k 0 = D[k] := by rw [List.getD_eq_getElem?_getD, List.getElem?_eq_getElem hkD]; rfl
        have hlt : val (D.take (k + 1)) % 18446744073709551616 < 18446744073709551616 := Nat.mod_lt _ (by omega)
        simp -implicitDefEqProofs -dsimp
        refine CallK.reads ?_
        simp -implicitDefEqProofs -dsimp
        refine CallQ.same (rleft_fn s hs) rfl ?_
        simp -implicitDefEqProofs -dsimp [c1, c3, rcells, c5, c6, c7, c8, hx, hw1]
        simp -implicitDefEqProofs -dsimp [c4]
        refine CallK.reads ?_
        simp -implicitDefEqProofs -dsimp
        have hrl := rleft_fn s hs
        simp only [rcells] at hrl
        refine CallQ.same hrl rfl ?_
        simp -implicitDefEqProofs -dsimp [c2]
        refine LpK.mk (anys _ []) mixed (fun t : Nat => t ≤ k + 1) (fun t => ⟨[(0, .cur .imm (rcells s)), (5, .lit (.int .i64 k)), (6, .lit (.int .u64 ((val ((D.take (k + 1)).drop t) % 18446744073709551616 : Nat) : Int))), (7, .lit (.int .i64 ((t : Int) - 1)))], [], 86⟩) (fun t => t) (k + 1) (Nat.le_refl _) ?_ ?_
        · simp -implicitDefEqProofs -dsimp [rcells, val]
        rintro t ht
        have hlenT : (D.take (k + 1)).length = k + 1 := by rw [List.length_take]; omega
        by_cases ht0 : t = 0
        · have q1 : ¬ (0 : Int) ≤ (t : Int) - 1 := by omega
          subst ht0
          rw [List.drop_zero]
          obtain ⟨m, hm⟩ : ∃ m, m = val (D.take (k + 1)) % 18446744073709551616 := ⟨_, rfl⟩
          rw [← hm] at hlt hform ⊢
          have e1 : IntKind.i64.wrap ((s.pos : Int) + (k : Int) + 1) = (s.pos : Int) + (k : Int) + 1 := wrap64 (by omega) (by omega)
          have e2 : (s.pos : Int) ≤ (s.pos : Int) + (k : Int) + 1 := by omega
          have e3 : (s.pos : Int) + (k : Int) + 1 ≤ s.b.length := by omega
          have e4 : ((s.pos : Int) + (k : Int) + 1).toNat = s.pos + k + 1 := by omega
          have e5 : (s.b.take (s.pos + k + 1)).drop s.pos = D.take (k + 1) := by rw [hD, List.drop_take]; congr 1; omega
          have hel := enc_u64 hlt
          simp -implicitDefEqProofs -dsimp [q1, rcells, c5, e1, e2, e3, e4, e5]
          refine CallK.fresh ?_
          simp -implicitDefEqProofs -dsimp
          refine CallQ.same (rnil_fn m hlt) rfl ?_
          simp -implicitDefEqProofs -dsimp [fr_u8s, rcells, c5, e1, e2, e3, e4, e5]
          refine CallK.reads ?_
          simp -implicitDefEqProofs -dsimp
          refine CallQ.same (same_fn _ _ (enc m) (D.take (k + 1)) (by omega)) rfl ?_
          simp -implicitDefEqProofs -dsimp
          by_cases hbad : (0 < k ∧ D[k] = 0) ∨ (k = 9 ∧ 1 < D[k])
          · have hne : ¬ enc m = D.take (k + 1) := fun e => (hform.1 e) hbad
            have hT : tk D = (0, 0, 3) := by
              have n1 : ¬ k = D.length := hkl
              simp only [tk, hlead, hgd, if_neg h10, if_neg n1, if_pos hbad]
            simp -implicitDefEqProofs -dsimp [hne, hT]
          · have hye : enc m = D.take (k + 1) := hform.2 hbad
            have hT : tk D = (val (D.take (k + 1)), k + 1, 0) := by
              have n1 : ¬ k = D.length := hkl
              simp only [tk, hlead, hgd, if_neg h10, if_neg n1, if_neg hbad]
            have hmv : m = val (D.take (k + 1)) := by rw [← hye, val_enc]
            rw [← hmv] at hT
            simp -implicitDefEqProofs -dsimp [hye, hT, hw1]
        · obtain ⟨u, rfl⟩ : ∃ u, t = u + 1 := ⟨t - 1, by omega⟩
          have huD : u < D.length := by omega
          have q1 : (0 : Int) ≤ ((u + 1 : Nat) : Int) - 1 := by omega
          have q2 : ((u + 1 : Nat) : Int) - 1 = (u : Int) := by omega
          have hu := hDb _ (List.getElem_mem huD)
          have e1 : IntKind.i64.wrap ((s.pos : Int) + (u : Int)) = (s.pos : Int) + (u : Int) := wrap64 (by omega) (by omega)
          have e2 : (0 : Int) ≤ (s.pos : Int) + (u : Int) := by omega
          have e3 : ((s.pos : Int) + (u : Int)).toNat = s.pos + u := by omega
          have e4 := hDg u huD
          have e5 : D[u].tmod 128 = D[u] % 128 := Int.tmod_eq_emod_of_nonneg hu.1
          have e6 : IntKind.u64.wrap (D[u] % 128) = D[u] % 128 := by rw [wrap_is_u64]; omega
          have e7 : IntKind.i64.wrap ((u : Int) - 1) = (u : Int) - 1 := wrap64 (by omega) (by omega)
          have e9 : (D.take (k + 1)).drop u = D[u] :: (D.take (k + 1)).drop (u + 1) := by
            have hu2 : u < (D.take (k + 1)).length := by omega
            rw [List.drop_eq_getElem_cons hu2, List.getElem_take]
          have e8 : IntKind.u64.wrap (IntKind.u64.wrap (128 * ((val ((D.take (k + 1)).drop (u + 1)) % 18446744073709551616 : Nat) : Int)) + D[u] % 128) = ((val ((D.take (k + 1)).drop u) % 18446744073709551616 : Nat) : Int) := by
            rw [wrap_is_u64, wrap_is_u64, e9, val]
            omega
          generalize hV : ((val ((D.take (k + 1)).drop (u + 1)) % 18446744073709551616 : Nat) : Int) = V at *
          simp -implicitDefEqProofs -dsimp [q2, rcells, e1, e2, e3, e4, e5, e6, e7, e8]
          exact .mk u (by omega) (by omega) (by simp -implicitDefEqProofs -dsimp [rcells])
end Go.Proofs.YtekokchejkjjjaaDoor

/-! The wire: the document's readers, their reads. -/
namespace Go.Proofs.YtekokchejkjjjaaDoor
open Go.Sy

def RR.rest (s : RR) : List Int := s.b.drop s.pos
def RR.num (s : RR) : Nat × RR := if s.fail ≠ 0 then (0, s) else if (tk s.rest).2.2 ≠ 0 then (0, { s with fail := (tk s.rest).2.2 }) else ((tk s.rest).1, { s with pos := s.pos + (tk s.rest).2.1 })
def RR.text (s : RR) (limit : Int) : (Bool × List Int) × RR :=
  if s.fail ≠ 0 then ((true, []), s)
  else if (tk s.rest).2.2 ≠ 0 then ((true, []), { s with fail := (tk s.rest).2.2 })
  else if max 0 limit < ((tk s.rest).1 : Int) then ((true, []), { s with fail := 4 })
  else if (s.rest.length : Int) - (tk s.rest).2.1 < ((tk s.rest).1 : Int) then ((true, []), { s with fail := 2 })
  else ((false, (s.rest.drop (tk s.rest).2.1).take (tk s.rest).1), { s with pos := s.pos + (tk s.rest).2.1 + (tk s.rest).1 })
def RR.fin (s : RR) : Int := if s.fail = 0 ∧ s.pos < s.b.length then 5 else s.fail

theorem RR.rest_len {s : RR} : s.rest.length = s.b.length - s.pos := by simp [RR.rest]
theorem RR.num_ok {s : RR} (h : s.Ok) : s.num.2.Ok := by
  obtain ⟨h1, h2, h3⟩ := id h
  have ht := tk_spec s.rest (h1.drop _)
  have hl := RR.rest_len (s := s)
  unfold RR.num
  split
  · exact h
  · split
    · exact ⟨h1, h2, h3⟩
    · exact ⟨h1, by simp only; omega, h3⟩
theorem RR.text_ok {s : RR} (h : s.Ok) (limit : Int) : (s.text limit).2.Ok := by
  obtain ⟨h1, h2, h3⟩ := id h
  have ht := tk_spec s.rest (h1.drop _)
  have hl := RR.rest_len (s := s)
  unfold RR.text
  split
  · exact h
  · split
    · exact ⟨h1, h2, h3⟩
    · split
      · exact ⟨h1, h2, h3⟩
      · split
        · exact ⟨h1, h2, h3⟩
        · exact ⟨h1, by simp only; omega, h3⟩

set_option maxRecDepth 100000 in
set_option maxHeartbeats 1000000 in
theorem rrnum_fn (s : RR) (hs : s.Ok) : Fc Tryd.prog 63 [.ptr 100000 0] [(100000, .cells (rcells s))] (.lit (.int .u64 s.num.1)) [(100000, .cells (rcells s.num.2))] := by
  have h1 := hs.pos
  have h2 := hs.len
  have ht := tk_spec s.rest (hs.bytes.drop _)
  have hl := RR.rest_len (s := s)
  have hN := next_fn s hs
  rw [show s.b.drop s.pos = s.rest from rfl] at hN
  refine Fc.of (anys _ [89]) [] mixed Tryd.func63 rfl (by rfl) (by simp [Tryd.ntmps63]) (by decide) ?_
  by_cases hf : s.fail = 0
  · simp -implicitDefEqProofs -dsimp [Tryd.ntmps63, hf]
    refine CallK.reads ?_
    simp -implicitDefEqProofs -dsimp
    refine CallQ.same (hN) rfl ?_
    simp -implicitDefEqProofs -dsimp [plain_tup]
    by_cases he : (tk s.rest).2.2 = 0
    · have e : s.num = ((tk s.rest).1, ⟨s.nl, s.b, s.pos + (tk s.rest).2.1, 0⟩) := by simp [RR.num, hf, he]
      have c : IntKind.i64.wrap ((s.pos : Int) + ((tk s.rest).2.1 : Int)) = (s.pos : Int) + ((tk s.rest).2.1 : Int) := wrap64 (by omega) (by omega)
      simp -implicitDefEqProofs -dsimp [he, e, rcells, c, hf]
    · have e : s.num = (0, ⟨s.nl, s.b, s.pos, (tk s.rest).2.2⟩) := by simp [RR.num, hf, he]
      simp -implicitDefEqProofs -dsimp [he, e, rcells]
  · have e : s.num = (0, s) := by simp [RR.num, hf]
    simp -implicitDefEqProofs -dsimp [Tryd.ntmps63, hf, e]

set_option maxRecDepth 100000 in
set_option maxHeartbeats 4000000 in
theorem rrtext_fn (s : RR) (hs : s.Ok) (limit : Int) (hlm1 : -9223372036854775808 ≤ limit) (hlm2 : limit < 9223372036854775808) :
    Fc Tryd.prog 80 [.ptr 100000 0, .lit (.int .i64 limit)] [(100000, .cells (rcells s))] (.sl .imm (s.text limit).1.1 1 (u8s (s.text limit).1.2)) [(100000, .cells (rcells (s.text limit).2))] := by
  have h1 := hs.pos
  have h2 := hs.len
  obtain ⟨t1, t2, t3, t4, t5, t6⟩ := tk_spec s.rest (hs.bytes.drop _)
  have hl := RR.rest_len (s := s)
  have hN := next_fn s hs
  have hL := rleft_fn s hs
  rw [show s.b.drop s.pos = s.rest from rfl] at hN
  have q := Fc.of (P := Tryd.prog) (args := [.ptr 100000 0, .lit (.int .i64 limit)]) (h := [(100000, .cells (rcells s))])
    (X := .sl (.own (.loc 59)) (s.text limit).1.1 1 (u8s (s.text limit).1.2)) (H := [(100000, .cells (rcells (s.text limit).2))])
    (anys _ [89, 64]) sch80 mixed Tryd.func80 rfl (by rfl) (by simp [Tryd.ntmps80]) (by decide) ?_
  · have := q.fz [.loc 59]
    simpa [fzOf] using this
  · by_cases hf : s.fail = 0
    · simp -implicitDefEqProofs -dsimp [Tryd.ntmps80, hf]
      refine CallK.reads ?_
      simp -implicitDefEqProofs -dsimp
      refine CallQ.same (hN) rfl ?_
      simp -implicitDefEqProofs -dsimp [plain_tup]
      by_cases he : (tk s.rest).2.2 = 0
      · have hlm : IntKind.u64.wrap (max 0 limit) = max 0 limit := by rw [wrap_is_u64]; omega
        by_cases hlim : max 0 limit < ((tk s.rest).1 : Int)
        · have e : s.text limit = ((true, []), ⟨s.nl, s.b, s.pos, 4⟩) := by simp [RR.text, hf, he, hlim]
          simp -implicitDefEqProofs -dsimp [he, e, litL, max_i64, hlm, hlim, rcells, hf]
        · have hw1 : IntKind.i64.wrap ((s.b.length : Int) - (s.pos : Int) - ((tk s.rest).2.1 : Int)) = (s.rest.length : Int) - ((tk s.rest).2.1 : Int) := by rw [wrap64 (by omega) (by omega)]; omega
          have hw2 : IntKind.u64.wrap ((s.rest.length : Int) - ((tk s.rest).2.1 : Int)) = (s.rest.length : Int) - ((tk s.rest).2.1 : Int) := by rw [wrap_is_u64]; omega
          simp -implicitDefEqProofs -dsimp [he, litL, max_i64, hlm, hlim]
          refine CallK.reads ?_
          simp -implicitDefEqProofs -dsimp
          refine CallQ.same (hL) rfl ?_
          simp -implicitDefEqProofs -dsimp [hw1, hw2]
          by_cases hsh : (s.rest.length : Int) - ((tk s.rest).2.1 : Int) < ((tk s.rest).1 : Int)
          · have e : s.text limit = ((true, []), ⟨s.nl, s.b, s.pos, 2⟩) := by simp only [RR.text, hf, he, ne_eq, not_true, if_false, if_neg hlim, if_pos hsh]
            simp -implicitDefEqProofs -dsimp [hsh, e, rcells, hf]
          · have e : s.text limit = ((false, (s.rest.drop (tk s.rest).2.1).take (tk s.rest).1), ⟨s.nl, s.b, s.pos + (tk s.rest).2.1 + (tk s.rest).1, 0⟩) := by simp only [RR.text, hf, he, ne_eq, not_true, if_false, if_neg hlim, if_neg hsh]
            have hw3 : IntKind.i64.wrap ((tk s.rest).1 : Int) = ((tk s.rest).1 : Int) := wrap64 (by omega) (by omega)
            have hw4 : IntKind.i64.wrap ((s.pos : Int) + ((tk s.rest).2.1 : Int)) = (s.pos : Int) + ((tk s.rest).2.1 : Int) := wrap64 (by omega) (by omega)
            have hw5 : IntKind.i64.wrap ((s.pos : Int) + ((tk s.rest).2.1 : Int) + ((tk s.rest).1 : Int)) = (s.pos : Int) + ((tk s.rest).2.1 : Int) + ((tk s.rest).1 : Int) := wrap64 (by omega) (by omega)
            have c0 : s.rest = s.b.drop s.pos := rfl
            generalize hT : tk s.rest = T at *
            obtain ⟨n, k, ee⟩ := T
            simp only at *
            have c1 : (s.pos : Int) + (k : Int) ≤ (s.pos : Int) + (k : Int) + (n : Int) := by omega
            have c2 : (s.pos : Int) + (k : Int) + (n : Int) ≤ s.b.length := by omega
            have c3 : ((s.pos : Int) + (k : Int) + (n : Int)).toNat = s.pos + k + n := by omega
            have c4 : ((s.pos : Int) + (k : Int)).toNat = s.pos + k := by omega
            have c5 : (0 : Int) ≤ (s.pos : Int) + (k : Int) := by omega
            have c6 : (s.b.take (s.pos + k + n)).drop (s.pos + k) = (s.rest.drop k).take n := by
              rw [c0, List.drop_drop, List.drop_take]; congr 1; omega
            have c7 : min n (s.rest.length - k) ≤ 140737488355328 := by omega
            simp -implicitDefEqProofs -dsimp [hsh, e, rcells, hf, hw3, hw4, hw5, c1, c2, c3, c4, c5, c6, c7]
      · have e : s.text limit = ((true, []), ⟨s.nl, s.b, s.pos, (tk s.rest).2.2⟩) := by simp [RR.text, hf, he]
        simp -implicitDefEqProofs -dsimp [he, e, rcells, hf]
    · have e : s.text limit = ((true, []), s) := by simp [RR.text, hf]
      simp -implicitDefEqProofs -dsimp [Tryd.ntmps80, hf, e]
end Go.Proofs.YtekokchejkjjjaaDoor
