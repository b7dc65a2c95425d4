/- The wire: numbers and texts as bytes. -/
import Derived.Test.YtgpcphddjapceaaW1
import Derived.Test.YtgpcphddjapceaaDc
namespace Go.Proofs.Ytgpcphddjapceaa
open Go.Sy

set_option maxRecDepth 100000 in
set_option maxHeartbeats 1000000 in
theorem num_fn (nl : Bool) (b : List Int) (n : Nat) (hn : nl = true → b = []) (hb : b.length ≤ 10000000) (h : n < 18446744073709551616) :
    Fc Try.prog 30 [.sl .imm nl 1 (u8s b), .lit (.int .u64 n)] [] (.sl (.own (.loc 1070)) false 1 (u8s (b ++ enc n))) [] := by
  refine Fc.of (anys _ [46]) [] mixed Try.func30 rfl (by rfl) (by simp [Try.ntmps30]) (by decide) ?_
  simp -implicitDefEqProofs -dsimp [Try.ntmps30]
  refine CallK.fresh ?_
  simp -implicitDefEqProofs -dsimp
  refine CallQ.same (clone_fn nl b hn (by omega)) rfl ?_
  simp -implicitDefEqProofs -dsimp [fr_u8s]
  refine LpK.mk (anys _ []) mixed (fun (m, n', l) => m < 18446744073709551616 ∧ l ++ enc m = b ++ enc n ∧ l.length + (enc m).length = b.length + (enc n).length)
    (fun ((m, n', l) : Nat × Bool × List Int) => ⟨[(1, .lit (.int .u64 m)), (5, .sl (.own (.loc 1070)) n' 1 (u8s l))], [], 23⟩) (fun (m, _) => m) (n, nl, b) ⟨h, rfl, rfl⟩ (by simp -implicitDefEqProofs -dsimp) ?_
  rintro ⟨m, n', l⟩ ⟨hm, he, hlen⟩
  have hle := enc_u64 h
  have ht : l.length + 1 ≤ 140737488355328 := by omega
  have hc : IntKind.u8.wrap (m : Int) = (m : Int) % 256 := wrap_is_u8 _
  by_cases h1 : 128 ≤ (m : Int)
  · have h2 : ior .u8 ((m : Int) % 256) 128 = (m : Int) % 128 + 128 := by rw [ior_128 (by omega) (by omega)]; omega
    have h3 : ishr .u64 (m : Int) 7 = ((m / 128 : Nat) : Int) := by rw [ishr_7]; omega
    simp -implicitDefEqProofs -dsimp [h1, hc, h2, h3, ht]
    have e1 : enc m = ((m % 128 + 128 : Nat) : Int) :: enc (m / 128) := enc_ge (by omega)
    refine .mk (m / 128, false, l ++ [(m : Int) % 128 + 128]) ⟨by omega, ?_, ?_⟩ (by simp; omega) (by simp -implicitDefEqProofs -dsimp [ints])
    · rw [← he, e1]; simp
    · rw [← hlen, e1]; simp; omega
  · have h2 : (m : Int) % 256 = m := by omega
    have e1 : enc m = [(m : Int)] := enc_lt (by omega)
    have e2 : u8s l ++ [PV.lit (.int .u8 (m : Int))] = u8s (b ++ enc n) := by rw [← he, e1]; simp [ints]
    simp -implicitDefEqProofs -dsimp [h1, hc, h2, ht, e2]

theorem num_fn' (nl : Bool) (b : List Int) (n : Int) (hn : nl = true → b = []) (hb : b.length ≤ 10000000) (h0 : 0 ≤ n) (h : n < 18446744073709551616) :
    Fc Try.prog 30 [.sl .imm nl 1 (u8s b), .lit (.int .u64 n)] [] (.sl (.own (.loc 1070)) false 1 (u8s (b ++ enc n.toNat))) [] := by
  have := num_fn nl b n.toNat hn hb (by omega)
  rwa [show ((n.toNat : Nat) : Int) = n by omega] at this

set_option maxRecDepth 100000 in
set_option maxHeartbeats 1000000 in
theorem rnum_fn (nl : Bool) (b : List Int) (n : Nat) (hb : b.length ≤ 10000000) (h : n < 18446744073709551616) :
    Fc Try.prog 31 [.sl .imm nl 1 (u8s b), .lit (.int .u64 n)] [] (.sl (.own (.loc 6)) false 1 (u8s (b ++ enc n))) [] := by
  refine Fc.of (anys _ []) [] mixed Try.func31 rfl (by rfl) (by simp [Try.ntmps31]) (by decide) ?_
  have hb1 : b.length ≤ 140737488355328 := by omega
  simp -implicitDefEqProofs -dsimp [Try.ntmps31, hb1]
  refine LpK.mk (anys _ []) mixed (fun (m, l) => m < 18446744073709551616 ∧ l ++ enc m = b ++ enc n ∧ l.length + (enc m).length = b.length + (enc n).length)
    (fun ((m, l) : Nat × List Int) => ⟨[(1, .lit (.int .u64 m)), (5, .sl (.own (.loc 6)) false 1 (u8s l))], [], 25⟩) (fun (m, _) => m) (n, b) ⟨h, rfl, rfl⟩ (by simp -implicitDefEqProofs -dsimp) ?_
  rintro ⟨m, l⟩ ⟨hm, he, hlen⟩
  have hle := enc_u64 h
  have ht : l.length + 1 ≤ 140737488355328 := by omega
  have hc : IntKind.u8.wrap (m : Int) = (m : Int) % 256 := wrap_is_u8 _
  by_cases h1 : 127 < (m : Int)
  · have h3 : (m : Int).tmod 128 = (m : Int) % 128 := Int.tmod_eq_emod_of_nonneg (by omega)
    have h4 : IntKind.u64.wrap (128 + (m : Int) % 128) = 128 + (m : Int) % 128 := by rw [wrap_is_u64]; omega
    have h5 : IntKind.u8.wrap (128 + (m : Int) % 128) = 128 + (m : Int) % 128 := by rw [wrap_is_u8]; omega
    have h6 : iquo .u64 (m : Int) 128 = (m : Int) / 128 := by
      unfold iquo
      rw [wrap_is_u64, Int.tdiv_eq_ediv_of_nonneg (by omega)]; omega
    simp -implicitDefEqProofs -dsimp [h1, h3, h4, h5, h6, ht]
    have e1 : enc m = ((m % 128 + 128 : Nat) : Int) :: enc (m / 128) := enc_ge (by omega)
    refine .mk (m / 128, l ++ [128 + (m : Int) % 128]) ⟨by omega, ?_, ?_⟩ (by simp; omega) (by simp -implicitDefEqProofs -dsimp [ints])
    · rw [← he, e1]; simp; omega
    · rw [← hlen, e1]; simp; omega
  · have h2 : (m : Int) % 256 = m := by omega
    have e1 : enc m = [(m : Int)] := enc_lt (by omega)
    have e2 : u8s l ++ [PV.lit (.int .u8 (m : Int))] = u8s (b ++ enc n) := by rw [← he, e1]; simp [ints]
    simp -implicitDefEqProofs -dsimp [h1, hc, h2, ht, e2]

set_option maxRecDepth 100000 in
set_option maxHeartbeats 1000000 in
theorem text_fn (nl n2 : Bool) (b x : List Int) (hn : nl = true → b = []) (hb : b.length ≤ 10000000) (hx : x.length ≤ 10000000) :
    Fc Try.prog 32 [.sl .imm nl 1 (u8s b), .sl .imm n2 1 (u8s x)] [] (.sl (.own (.loc 1090)) false 1 (u8s (b ++ enc x.length ++ x))) [] := by
  have hw : IntKind.u64.wrap (x.length : Int) = x.length := by rw [wrap_is_u64]; omega
  have hle := enc_u64 (n := x.length) (by omega)
  have ht : b.length + (enc x.length).length + x.length ≤ 140737488355328 := by omega
  have ht2 : b.length + ((enc x.length).length + x.length) ≤ 140737488355328 := by omega
  refine Fc.of (anys _ [30]) [] mixed Try.func32 rfl (by rfl) (by simp [Try.ntmps32]) (by decide) ?_
  simp -implicitDefEqProofs -dsimp [Try.ntmps32, hw]
  refine CallK.fresh ?_
  simp -implicitDefEqProofs -dsimp
  refine CallQ.same (num_fn nl b x.length hn hb (by omega)) rfl ?_
  simp -implicitDefEqProofs -dsimp [fr_u8s, ht, ht2]

set_option maxRecDepth 100000 in
set_option maxHeartbeats 1000000 in
theorem rtext_fn (nl n2 : Bool) (b x : List Int) (hb : b.length ≤ 10000000) (hx : x.length ≤ 10000000) :
    Fc Try.prog 33 [.sl .imm nl 1 (u8s b), .sl .imm n2 1 (u8s x)] [] (.sl (.own (.loc 1090)) false 1 (u8s (b ++ enc x.length ++ x))) [] := by
  have hw : IntKind.u64.wrap (x.length : Int) = x.length := by rw [wrap_is_u64]; omega
  have hle := enc_u64 (n := x.length) (by omega)
  have ht : b.length + (enc x.length).length + x.length ≤ 140737488355328 := by omega
  have ht2 : b.length + ((enc x.length).length + x.length) ≤ 140737488355328 := by omega
  refine Fc.of (anys _ [31]) [] mixed Try.func33 rfl (by rfl) (by simp [Try.ntmps33]) (by decide) ?_
  simp -implicitDefEqProofs -dsimp [Try.ntmps33, hw]
  refine CallK.fresh ?_
  simp -implicitDefEqProofs -dsimp
  refine CallQ.same (rnum_fn nl b x.length hb (by omega)) rfl ?_
  simp -implicitDefEqProofs -dsimp [fr_u8s, ht, ht2]
end Go.Proofs.Ytgpcphddjapceaa
