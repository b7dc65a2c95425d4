/- Checks of bytes: bits that are turned. (and what stands on it) -/
import Derived.Test.YtbialojkkhkjeaaMe
import Derived.Test.YtbialojkkhkjeaaMd

/-! Checks of bytes: bits that are turned. -/
namespace Go.Sy
theorem stN_xor (a b : Nat) : stN (a ^^^ b) = stN a ^^^ stN b := by
  unfold stN
  have h1 : (a ^^^ b) / 2 = a / 2 ^^^ b / 2 := by
    have := Nat.shiftRight_xor_distrib (i := 1) (a := a) (b := b)
    simpa [Nat.shiftRight_succ] using this
  have h2 : (a ^^^ b) % 2 = (a % 2 + b % 2) % 2 := by
    have := @Nat.xor_mod_two_eq_one a b
    generalize a ^^^ b = c at this
    omega
  rw [h1, h2]
  rcases Nat.mod_two_eq_zero_or_one a with e | e <;> rcases Nat.mod_two_eq_zero_or_one b with f | f
  · simp [e, f]
  · simp [e, f, Nat.xor_assoc]
  · simp only [e, f, if_pos, Nat.reduceAdd, Nat.reduceMod, Nat.zero_ne_one, if_false, Nat.xor_zero]
    rw [Nat.xor_assoc, Nat.xor_assoc, Nat.xor_comm (b / 2)]
  · simp only [e, f, if_pos, Nat.reduceAdd, Nat.reduceMod, Nat.zero_ne_one, if_false, Nat.xor_zero]
    rw [Nat.xor_assoc, Nat.xor_comm _ (b / 2 ^^^ _), Nat.xor_assoc (b / 2), Nat.xor_self, Nat.xor_zero]
theorem it8_xor (a b : Nat) : ∀ k, it8 (a ^^^ b) k = it8 a k ^^^ it8 b k
  | 0 => rfl
  | k + 1 => by rw [it8, it8_xor a b k, stN_xor]; rfl
theorem it8_add (a j : Nat) : ∀ k, it8 a (j + k) = it8 (it8 a j) k
  | 0 => rfl
  | k + 1 => by rw [← Nat.add_assoc, it8, it8_add a j k]; rfl
theorem stN_dbl (v : Nat) : stN (2 * v) = v := by
  unfold stN
  rw [if_neg (by omega), Nat.mul_div_cancel_left _ (by decide), Nat.xor_zero]
theorem it8_dbl : ∀ (k v : Nat), it8 (2 ^ k * v) k = v
  | 0, v => by simp [it8]
  | k + 1, v => by
    rw [Nat.add_comm, it8_add, show it8 (2 ^ (1 + k) * v) 1 = stN (2 ^ (1 + k) * v) from rfl, show 2 ^ (1 + k) * v = 2 * (2 ^ k * v) by rw [Nat.pow_add, Nat.pow_one, Nat.mul_assoc], stN_dbl, it8_dbl k v]
theorem it8_zero : ∀ k, it8 0 k = 0
  | 0 => rfl
  | k + 1 => by rw [it8, it8_zero k]; rfl
theorem xor_zero_eq {a b : Nat} (h : a ^^^ b = 0) : a = b := by
  have : (a ^^^ b) ^^^ b = b := by rw [h, Nat.zero_xor]
  rwa [Nat.xor_assoc, Nat.xor_self, Nat.xor_zero] at this
theorem stN_inj {v : Nat} (hv : v < 4294967296) (h : stN v = 0) : v = 0 := by
  unfold stN at h
  rcases Nat.mod_two_eq_zero_or_one v with e | e
  · rw [if_neg (by omega), Nat.xor_zero] at h; omega
  · rw [if_pos e] at h
    have h2 : v / 2 = 3988292384 := xor_zero_eq h
    omega
theorem it8_inj {v : Nat} (hv : v < 4294967296) : ∀ k, it8 v k = 0 → v = 0
  | 0, h => h
  | k + 1, h => it8_inj hv k (stN_inj (it8_lt hv k) h)
/-- Another register: further by as many bits. -/
theorem crcR_xor : ∀ (b : List Int) (r s : Nat), crcR b (r ^^^ s) = crcR b r ^^^ it8 s (8 * b.length)
  | [], r, s => rfl
  | x :: b, r, s => by
    show crcR b (byN (r ^^^ s) x.toNat) = crcR b (byN r x.toNat) ^^^ _
    have h1 : byN (r ^^^ s) x.toNat = byN r x.toNat ^^^ it8 s 8 := by
      unfold byN
      rw [← it8_xor, Nat.xor_assoc, Nat.xor_comm s, ← Nat.xor_assoc]
    rw [h1, crcR_xor b, List.length_cons, show 8 * (b.length + 1) = 8 + 8 * b.length by omega, it8_add]
/-- A bit, turned. -/
def flipI (b : List Int) (p : Nat) : List Int := b.set (p / 8) (((b.getD (p / 8) 0).toNat ^^^ 2 ^ (p % 8) : Nat) : Int)
@[simp] theorem flipI_length (b : List Int) (p : Nat) : (flipI b p).length = b.length := by simp [flipI]
theorem crcR_flip : ∀ (b : List Int) (p r : Nat), p < 8 * b.length → crcR (flipI b p) r = crcR b r ^^^ it8 1 (8 * b.length - p)
  | [], p, r, h => by simp at h
  | x :: b, p, r, h => by
    by_cases hp : p < 8
    · have e0 : p / 8 = 0 := by omega
      have e1 : p % 8 = p := by omega
      have hf : flipI (x :: b) p = ((x.toNat ^^^ 2 ^ p : Nat) : Int) :: b := by simp [flipI, e0, e1]
      rw [hf]
      show crcR b (byN r (x.toNat ^^^ 2 ^ p)) = crcR b (byN r x.toNat) ^^^ _
      have h1 : byN r (x.toNat ^^^ 2 ^ p) = byN r x.toNat ^^^ it8 1 (8 - p) := by
        unfold byN
        rw [← Nat.xor_assoc, it8_xor]
        congr 1
        have := it8_add (2 ^ p) p (8 - p)
        rw [show p + (8 - p) = 8 by omega] at this
        rw [this]
        have h2 := it8_dbl p 1
        rw [Nat.mul_one] at h2
        rw [h2]
      rw [h1, crcR_xor, ← it8_add, List.length_cons, show 8 - p + 8 * b.length = 8 * (b.length + 1) - p by omega]
    · have e0 : p / 8 = (p - 8) / 8 + 1 := by omega
      have e1 : p % 8 = (p - 8) % 8 := by omega
      have hf : flipI (x :: b) p = x :: flipI b (p - 8) := by simp [flipI, e0, e1]
      rw [hf]
      rw [List.length_cons] at h
      show crcR (flipI b (p - 8)) (byN r x.toNat) = crcR b (byN r x.toNat) ^^^ _
      rw [crcR_flip b (p - 8) _ (by omega), List.length_cons, show 8 * b.length - (p - 8) = 8 * (b.length + 1) - p by omega]
theorem crcR_append (a b : List Int) (r : Nat) : crcR (a ++ b) r = crcR b (crcR a r) := by simp [crcR]
theorem byN_shift (v x : Nat) (k : Nat) : byN (it8 v k) x = it8 (v ^^^ 2 ^ k * x) (k + 8) := by
  unfold byN
  rw [it8_add, it8_xor v, it8_dbl]
theorem xor_low {a b i : Nat} (h : b < 2 ^ i) : b ^^^ 2 ^ i * a = 2 ^ i * a + b := by
  apply Nat.eq_of_testBit_eq
  intro j
  rw [Nat.testBit_xor, Nat.testBit_two_pow_mul_add _ h, Nat.testBit_two_pow_mul]
  by_cases hj : j < i
  · simp [hj, Nat.not_le.2 hj]
  · have : b.testBit j = false := Nat.testBit_lt_two_pow (Nat.lt_of_lt_of_le h (Nat.pow_le_pow_right (by decide) (by omega)))
    simp [hj, this, Nat.not_lt.1 hj]
theorem xor_parts {c : Nat} (h : c < 4294967296) : c % 256 ^^^ 2 ^ 8 * (c / 256 % 256) ^^^ 2 ^ 16 * (c / 65536 % 256) ^^^ 2 ^ 24 * (c / 16777216 % 256) = c := by
  rw [xor_low (i := 8) (by omega), xor_low (i := 16) (by omega), xor_low (i := 24) (by omega)]
  omega
theorem crcR_ck4 {c R : Nat} (h : c < 4294967296) : crcR (ck4 c) R = it8 (R ^^^ c) 32 := by
  show byN (byN (byN (byN R _) _) _) _ = _
  simp only [Int.toNat_natCast]
  rw [show byN R (c % 256) = it8 (R ^^^ c % 256) 8 from rfl, byN_shift, byN_shift, byN_shift]
  show it8 _ 32 = _
  congr 1
  refine Eq.trans ?_ (congrArg (R ^^^ ·) (xor_parts h))
  simp only [Nat.xor_assoc]
theorem xor_ones {a : Nat} (ha : a < 4294967296) : a ^^^ (4294967295 - a) = 4294967295 := by
  have h := inot_nat32 ha
  unfold inot at h
  rw [show (if IntKind.u32.signed then (-1 : Int) else IntKind.u32.max) = ((4294967295 : Nat) : Int) by decide, xor_nat32 (by decide) ha] at h
  have h2 : 4294967295 ^^^ a = 4294967295 - a := by omega
  rw [← h2, Nat.xor_comm, Nat.xor_assoc, Nat.xor_self, Nat.xor_zero]
/-- The register behind a right check is always the same. -/
theorem crcR_frB {f : List Int} (h : InB f) : crcR (frB f) 4294967295 = it8 4294967295 32 := by
  have hr := crcR_lt (b := f) (r := 4294967295) h (by decide)
  unfold frB crc
  rw [crcR_append, crcR_ck4 (by omega), xor_ones hr]
/-- Bits turned: the first i of those from k on. -/
def flips (by_ : Nat) (k : Nat) (b : List Int) : Nat → List Int
  | 0 => b
  | i + 1 => if by_ / 2 ^ i % 2 = 1 then flipI (flips by_ k b i) (k + i) else flips by_ k b i
theorem flips_length (w k : Nat) (b : List Int) : ∀ i, (flips w k b i).length = b.length
  | 0 => rfl
  | i + 1 => by unfold flips; split <;> simp [flips_length w k b i]
theorem xor8_lt {a b : Nat} (ha : a < 256) (hb : b < 256) : a ^^^ b < 256 := Nat.xor_lt_two_pow (n := 8) ha hb
theorem pow8_lt (p : Nat) : 2 ^ (p % 8) < 256 := Nat.lt_of_lt_of_le (Nat.pow_lt_pow_right (by decide) (Nat.mod_lt p (by decide))) (Nat.le_refl _)
theorem flipI_in {b : List Int} (h : InB b) {p : Nat} (hp : p < 8 * b.length) : InB (flipI b p) := by
  intro x hx
  rcases List.mem_or_eq_of_mem_set hx with h1 | rfl
  · exact h x h1
  · have hlt : p / 8 < b.length := by omega
    have := h _ (List.getElem_mem hlt)
    have e : b.getD (p / 8) 0 = b[p / 8] := by simp [List.getD_eq_getElem?_getD, List.getElem?_eq_getElem hlt]
    rw [e]
    have := xor8_lt (a := b[p / 8].toNat) (b := 2 ^ (p % 8)) (by omega) (pow8_lt p)
    omega
theorem flips_in {b : List Int} (h : InB b) (w k : Nat) : ∀ {i : Nat}, k + i ≤ 8 * b.length → InB (flips w k b i)
  | 0, _ => h
  | i + 1, hi => by
    unfold flips
    split
    · exact flipI_in (flips_in h w k (by omega)) (by rw [flips_length]; omega)
    · exact flips_in h w k (by omega)
theorem mod_pow_succ (w i : Nat) : w % 2 ^ (i + 1) = if w / 2 ^ i % 2 = 1 then w % 2 ^ i ^^^ 2 ^ i else w % 2 ^ i := by
  rw [Nat.pow_succ, Nat.mod_mul]
  rcases Nat.mod_two_eq_zero_or_one (w / 2 ^ i) with e | e
  · simp [e]
  · rw [if_pos e, e]
    have := xor_low (a := 1) (Nat.mod_lt w (Nat.two_pow_pos i))
    rw [Nat.mul_one] at this
    rw [this]; omega
theorem crcR_flips (w k r : Nat) (b : List Int) : ∀ {i : Nat}, k + i ≤ 8 * b.length → crcR (flips w k b i) r = crcR b r ^^^ it8 (w % 2 ^ i) (8 * b.length - k)
  | 0, _ => by simp [flips, Nat.mod_one, it8_zero]
  | i + 1, h => by
    have ih := crcR_flips w k r b (i := i) (by omega)
    rw [mod_pow_succ]
    unfold flips
    split
    · rw [crcR_flip _ _ _ (by rw [flips_length]; omega), ih, flips_length, it8_xor, Nat.xor_assoc]
      congr 2
      have h1 := it8_add (2 ^ i) i (8 * b.length - (k + i))
      rw [show i + (8 * b.length - (k + i)) = 8 * b.length - k by omega] at h1
      have h2 := it8_dbl i 1
      rw [Nat.mul_one] at h2
      rw [h1, h2]
    · exact ih
theorem flips_zero (w k : Nat) (b : List Int) : ∀ {i : Nat}, w % 2 ^ i = 0 → flips w k b i = b
  | 0, _ => rfl
  | i + 1, h => by
    rw [mod_pow_succ] at h
    unfold flips
    split
    · rename_i c
      rw [if_pos c] at h
      have h1 := xor_zero_eq h
      have := Nat.mod_lt w (Nat.two_pow_pos i)
      omega
    · rename_i c
      rw [if_neg c] at h
      exact flips_zero w k b h
end Go.Sy
namespace Go.Proofs.Ytbialojkkhkjeaa
open Go.Sy
/-- A burst is found. -/
theorem burst {f : List Int} (hf : InB f) {y : List Int} (w k i : Nat) (hi : i ≤ 32) (hk : k + i ≤ 8 * (frB f).length) (hy : y = flips w k (frB f) i) (h1 : 1 ≤ f.length) (h2 : f.length ≤ 4092) (hne : y ≠ frB f) : (chkM y).2 = 12 := by
  have hl : (frB f).length = f.length + 4 := by simp [frB]
  have hly : y.length = f.length + 4 := by rw [hy, flips_length, hl]
  have hin : InB (frB f) := by unfold frB; rw [inB_append]; exact ⟨hf, inB_ck4 _⟩
  have hyi : InB y := by rw [hy]; exact flips_in hin w k hk
  unfold chkM
  rw [if_neg (by omega), if_neg (by omega)]
  split
  · rename_i c
    exfalso
    obtain ⟨p, hp⟩ : ∃ p, p = y.take (y.length - 4) := ⟨_, rfl⟩
    have e : y = frB p := by rw [← hp] at c; unfold frB; rw [← c, hp, List.take_append_drop]
    have a1 := crcR_frB (f := p) (by rw [hp]; exact hyi.take _)
    have a2 := crcR_frB hf
    have a3 := crcR_flips w k 4294967295 (frB f) hk
    rw [← hy, e, a1, a2] at a3
    have a4 : it8 (w % 2 ^ i) (8 * (frB f).length - k) = 0 := by
      have := congrArg (it8 4294967295 32 ^^^ ·) a3
      simp only [Nat.xor_self] at this
      rw [← Nat.xor_assoc, Nat.xor_self, Nat.zero_xor] at this
      exact this.symm
    have hw : w % 2 ^ i < 4294967296 := Nat.lt_of_lt_of_le (Nat.mod_lt _ (Nat.two_pow_pos i)) (Nat.pow_le_pow_right (n := 2) (by decide) hi)
    exact hne (by rw [hy]; exact flips_zero w k _ (it8_inj hw _ a4))
  · rfl
end Go.Proofs.Ytbialojkkhkjeaa

/-! The law FrameBursts, walked. -/
namespace Go.Proofs.Ytbialojkkhkjeaa
open Go.Sy
theorem shr_nat (w i : Nat) (hi : i ≤ 32) : ishr .u32 (w : Int) (i : Int) = ((w / 2 ^ i : Nat) : Int) := by
  unfold ishr
  rw [show min (i : Int).toNat IntKind.u32.bits = i by simp [IntKind.bits]; omega, Int.fdiv_eq_ediv_of_nonneg _ (by exact Int.pow_nonneg (by decide))]
  simp
theorem and_one (v : Nat) (hv : v < 4294967296) : iand .u32 (v : Int) 1 = ((v % 2 : Nat) : Int) := by
  rw [iand_nat (by rfl) (by omega) (by simp [IntKind.bits]; omega) (by omega) (by simp [IntKind.bits])]
  congr 1
  simp only [Int.toNat_natCast]
  rw [show (1 : Int).toNat = 1 from rfl, Nat.and_one_is_mod]
theorem flip_val {v : Int} {s : Nat} (h0 : 0 ≤ v) (h1 : v < 256) (hs : s < 8) : ixor .u8 v (ishl .u8 1 (s : Int)) = ((v.toNat ^^^ 2 ^ s : Nat) : Int) := by
  have hp : (2 : Int) ^ s = ((2 ^ s : Nat) : Int) := by simp
  have h8 : 2 ^ s < 256 := Nat.pow_lt_pow_right (n := 8) (by decide) hs
  unfold ishl
  rw [show min (s : Int).toNat IntKind.u8.bits = s by simp [IntKind.bits]; omega, Int.one_mul, hp, wrap_is_u8]
  generalize 2 ^ s = t at h8
  rw [show ((t : Int) % 256) = t by omega, ixor_nat (by rfl) h0 (by simp [IntKind.bits]; omega) (by omega) (by simp [IntKind.bits]; omega)]
  simp

set_option maxRecDepth 100000 in
set_option maxHeartbeats 8000000 in
theorem bursts_fn (m : Ms) (a w : Nat) (h1 : m.rs.length ≤ 9223372036854775807) (h2 : m.ids.length ≤ 9223372036854775807) (hm : InB m.body) (ha : a < 65536) (hw : w < 4294967296) :
    Fc Try.prog 7 [.agg m.cells, .lit (.int .u16 a), .lit (.int .u32 w)] [] (.lit (.bool true)) [] := by
  have hF := few_fn m h1 h2
  simp only [Ms.cells] at hF
  by_cases hf : fewM m = true
  · obtain ⟨hS, l1, l2, l3, l4, l5, l6, l7⟩ := fewM_small hf hm
    have hE := encode_fn m hS
    by_cases c : rightB m = true
    · have em : encM m = ((false, frB (formM m)), 0) := by rw [encM, if_pos c]
      have hin : InB (frB (formM m)) := by unfold frB; rw [inB_append]; exact ⟨inB_formM hm, inB_ck4 _⟩
      have hlen : 5 ≤ (frB (formM m)).length ∧ (frB (formM m)).length ≤ 4096 := by
        have := form_short c
        unfold frB; rw [List.length_append, ck4_length]; omega
      obtain ⟨g1, g2⟩ := dec_enc c hm
      have hbu := fun (y : List Int) (k i : Nat) hi hk hy hne => burst (f := formM m) (inB_formM hm) (y := y) w k i hi hk hy (form_short c).1 (form_short c).2 hne
      obtain ⟨x, hx⟩ : ∃ x, x = frB (formM m) := ⟨_, rfl⟩
      rw [← hx] at em hin hlen g1 g2 hbu
      rw [em] at hE
      simp only [Ms.cells] at hE
      obtain ⟨n, hn⟩ : ∃ n, n = 8 * x.length := ⟨_, rfl⟩
      obtain ⟨k, hk⟩ : ∃ k, k = a % n := ⟨_, rfl⟩
      have hkn : k < n := by rw [hk]; exact Nat.mod_lt _ (by omega)
      have w1 : IntKind.i64.wrap (8 * (x.length : Int)) = n := by rw [hn]; simp only [Int.natCast_mul]; exact wrap64 (by omega) (by omega)
      have hx0 : ¬ x = [] := by rintro rfl; simp at hlen
      refine Fc.of (anys _ [9, 12, 13, 15, 18]) sch7 mixed Try.func7 rfl (by rfl) (by simp [Try.ntmps7]) (by decide) ?_
      simp -implicitDefEqProofs -dsimp [Try.ntmps7, Ms.cells]
      refine CallK.reads ?_
      simp -implicitDefEqProofs -dsimp
      refine CallQ.same (awake_fn) rfl ?_
      simp -implicitDefEqProofs -dsimp
      refine CallK.reads ?_
      simp -implicitDefEqProofs -dsimp
      refine CallQ.same (hF) rfl ?_
      simp -implicitDefEqProofs -dsimp [hf]
      refine CallK.works ?_
      simp -implicitDefEqProofs -dsimp
      refine CallQ.mk (hE) (by simp) ?_
      simp -implicitDefEqProofs -dsimp
      have hcap : x.length ≤ 140737488355328 := by omega
      have w2 : IntKind.i64.wrap (a : Int) = a := wrap64 (by omega) (by omega)
      have w3 : Int.tmod (a : Int) (n : Int) = k := by rw [hk]; rfl
      have hn0 : ¬ n = 0 := by omega
      simp -implicitDefEqProofs -dsimp [hx0, w1, hcap, w2, w3, hn0]
      refine LpK.mk (anys _ [9, 12, 13, 15, 18]) mixed (fun i : Nat => i ≤ 32 ∧ k + i ≤ n) (fun i => ⟨[(7, .lit (.bool true)), (9, .sl .imm false 1 (u8s x)), (11, .sl (.own (.loc 41)) false 1 (u8s (flips w k x i))), (12, .lit (.int .i64 n)), (13, .lit (.int .i64 k)), (14, .lit (.int .i64 i)), (2, .lit (.int .u32 w))], [], 108⟩) (fun i => 32 - i) 0 ⟨by omega, by omega⟩ (by simp -implicitDefEqProofs -dsimp [flips]) ?_
      rintro i ⟨i1, i2⟩
      have hfl := flips_length w k x i
      have hfi : InB (flips w k x i) := flips_in hin w k (by omega)
      obtain ⟨y, hy⟩ : ∃ y, y = flips w k x i := ⟨_, rfl⟩
      rw [← hy] at hfl hfi ⊢
      by_cases hlt : i < 32
      · have hlt' : (i : Int) < 32 := by omega
        have v1 : IntKind.i64.wrap ((k : Int) + (i : Int)) = (k : Int) + (i : Int) := wrap64 (by omega) (by omega)
        have v2 : IntKind.i64.wrap ((i : Int) + 1) = (i : Int) + 1 := wrap64 (by omega) (by omega)
        by_cases hkl : k + i < n
        · have hkl' : (k : Int) + (i : Int) < (n : Int) := by omega
          have hsh := shr_nat w i (by omega)
          have hand := and_one (w / 2 ^ i) (Nat.lt_of_le_of_lt (Nat.div_le_self _ _) hw)
          have hnext : flips w k x (i + 1) = if w / 2 ^ i % 2 = 1 then flipI y (k + i) else y := by rw [hy]; rfl
          obtain ⟨q, hq⟩ : ∃ q, q = w / 2 ^ i := ⟨_, rfl⟩
          rw [← hq] at hsh hand hnext
          by_cases hb : q % 2 = 1
          · rw [hb] at hand
            rw [if_pos hb] at hnext
            obtain ⟨j, hj⟩ : ∃ j, j = (k + i) / 8 := ⟨_, rfl⟩
            obtain ⟨s, hs⟩ : ∃ s, s = (k + i) % 8 := ⟨_, rfl⟩
            have q1 : iquo .i64 ((k : Int) + (i : Int)) 8 = (j : Int) := by
              unfold iquo
              rw [show ((k : Int) + (i : Int)).tdiv 8 = (j : Int) by rw [hj]; exact (Int.tdiv_eq_ediv_of_nonneg (by omega)).trans (by omega)]
              exact wrap64 (by omega) (by omega)
            have q2 : ((k : Int) + (i : Int)).tmod 8 = (s : Int) := by rw [hs]; exact (Int.tmod_eq_emod_of_nonneg (by omega)).trans (by omega)
            have hjl : j < y.length := by omega
            obtain ⟨v, hv⟩ : ∃ v, y[j] = v := ⟨_, rfl⟩
            have hv' : y[j]? = some v := by rw [List.getElem?_eq_getElem hjl, hv]
            have hvb := hfi v (hv ▸ List.getElem_mem hjl)
            have hpk := pokeL_ints (κ := .u8) (v := ixor .u8 v (ishl .u8 1 (s : Int))) hjl
            have hset : y.set j (ixor .u8 v (ishl .u8 1 (s : Int))) = flipI y (k + i) := by
              have e2 : y.getD j 0 = v := by simp [List.getD_eq_getElem?_getD, hv']
              unfold flipI
              rw [← hj, ← hs, e2, flip_val hvb.1 (by omega) (by omega)]
            rw [hset] at hpk
            simp -implicitDefEqProofs -dsimp [hlt', v1, v2, hkl', hsh, hand, q1, q2, hv', hjl, hv]
            exact .mk (i + 1) ⟨by omega, by omega⟩ (by omega) (by simp -implicitDefEqProofs -dsimp [hnext, hpk])
          · rw [show q % 2 = 0 by omega] at hand
            rw [if_neg hb] at hnext
            simp -implicitDefEqProofs -dsimp [hlt', v1, v2, hkl', hsh, hand]
            exact .mk (i + 1) ⟨by omega, by omega⟩ (by omega) (by simp -implicitDefEqProofs -dsimp [hnext])
        · have hkl' : ¬ (k : Int) + (i : Int) < (n : Int) := by omega
          simp -implicitDefEqProofs -dsimp [hlt', v1, hkl']
          by_cases hxy : x = y
          · subst hxy
            have hd := decode_fn false x (by simp) hin (by omega)
            rw [g1] at hd
            refine CallK.reads ?_
            simp -implicitDefEqProofs -dsimp
            refine CallQ.same (same_fn false false x x (by omega)) rfl ?_
            simp -implicitDefEqProofs -dsimp
            refine CallK.works ?_
            simp -implicitDefEqProofs -dsimp
            refine CallQ.mk (hd) (by simp) ?_
            simp -implicitDefEqProofs -dsimp
            refine onSome_iff.2 ⟨_, if_pos (ms_plain (decM x).1), ?_⟩
            simp -implicitDefEqProofs -dsimp
          · have hch := hbu y k i (by omega) (by omega) hy (Ne.symm hxy)
            have hd := decode_fn false y (by simp) hfi (by omega)
            have hde : (decM y).2 = 12 := by rw [decM, if_pos (by rw [hch]; decide)]; exact hch
            rw [hde] at hd
            refine CallK.reads ?_
            simp -implicitDefEqProofs -dsimp
            refine CallQ.same (same_fn false false x y (by omega)) rfl ?_
            simp -implicitDefEqProofs -dsimp [hxy]
            refine CallK.works ?_
            simp -implicitDefEqProofs -dsimp
            refine CallQ.mk (hd) (by simp) ?_
            simp -implicitDefEqProofs -dsimp
            refine onSome_iff.2 ⟨_, if_pos (ms_plain (decM y).1), ?_⟩
            simp -implicitDefEqProofs -dsimp [hxy]
      · have hlt' : ¬ (i : Int) < 32 := by omega
        simp -implicitDefEqProofs -dsimp [hlt']
        by_cases hxy : x = y
        · subst hxy
          have hd := decode_fn false x (by simp) hin (by omega)
          rw [g1] at hd
          refine CallK.reads ?_
          simp -implicitDefEqProofs -dsimp
          refine CallQ.same (same_fn false false x x (by omega)) rfl ?_
          simp -implicitDefEqProofs -dsimp
          refine CallK.works ?_
          simp -implicitDefEqProofs -dsimp
          refine CallQ.mk (hd) (by simp) ?_
          simp -implicitDefEqProofs -dsimp
          refine onSome_iff.2 ⟨_, if_pos (ms_plain (decM x).1), ?_⟩
          simp -implicitDefEqProofs -dsimp
        · have hch := hbu y k i (by omega) (by omega) hy (Ne.symm hxy)
          have hd := decode_fn false y (by simp) hfi (by omega)
          have hde : (decM y).2 = 12 := by rw [decM, if_pos (by rw [hch]; decide)]; exact hch
          rw [hde] at hd
          refine CallK.reads ?_
          simp -implicitDefEqProofs -dsimp
          refine CallQ.same (same_fn false false x y (by omega)) rfl ?_
          simp -implicitDefEqProofs -dsimp [hxy]
          refine CallK.works ?_
          simp -implicitDefEqProofs -dsimp
          refine CallQ.mk (hd) (by simp) ?_
          simp -implicitDefEqProofs -dsimp
          refine onSome_iff.2 ⟨_, if_pos (ms_plain (decM y).1), ?_⟩
          simp -implicitDefEqProofs -dsimp [hxy]
    · have em : encM m = ((true, []), 1) := by rw [encM, if_neg c]
      rw [em] at hE
      simp only [Ms.cells] at hE
      refine Fc.of (anys _ [9, 12, 13, 15, 18]) sch7 mixed Try.func7 rfl (by rfl) (by simp [Try.ntmps7]) (by decide) ?_
      simp -implicitDefEqProofs -dsimp [Try.ntmps7, Ms.cells]
      refine CallK.reads ?_
      simp -implicitDefEqProofs -dsimp
      refine CallQ.same (awake_fn) rfl ?_
      simp -implicitDefEqProofs -dsimp
      refine CallK.reads ?_
      simp -implicitDefEqProofs -dsimp
      refine CallQ.same (hF) rfl ?_
      simp -implicitDefEqProofs -dsimp [hf]
      refine CallK.works ?_
      simp -implicitDefEqProofs -dsimp
      refine CallQ.mk (hE) (by simp) ?_
      simp -implicitDefEqProofs -dsimp
  · refine Fc.of (anys _ [9, 12, 13, 15, 18]) sch7 mixed Try.func7 rfl (by rfl) (by simp [Try.ntmps7]) (by decide) ?_
    simp -implicitDefEqProofs -dsimp [Try.ntmps7, Ms.cells]
    refine CallK.reads ?_
    simp -implicitDefEqProofs -dsimp
    refine CallQ.same (awake_fn) rfl ?_
    simp -implicitDefEqProofs -dsimp
    refine CallK.reads ?_
    simp -implicitDefEqProofs -dsimp
    refine CallQ.same (hF) rfl ?_
    simp -implicitDefEqProofs -dsimp [hf]
end Go.Proofs.Ytbialojkkhkjeaa

/-! The law FrameBursts. -/
namespace Go.Proofs.Ytbialojkkhkjeaa
open Go.Sy
theorem bursts_law (xs : List PV) (h : ShpAll Try.prog 6 Try.f7.params.toList xs) : Fc Try.prog 7 xs [] (.lit (.bool true)) [] := by
  obtain ⟨x, y, z, rfl, hx, hy, hz⟩ := shp_args3 h
  obtain ⟨m, rfl, h1, h2, h3⟩ := arg_ms hx
  obtain ⟨a, rfl, ha⟩ := arg_int (k := .u16) Try.underlying37 hy
  obtain ⟨w, rfl, hw⟩ := arg_int (k := .u32) Try.underlying24 hz
  obtain ⟨a0, a1⟩ := wf_u16 ha
  obtain ⟨w0, w1⟩ := wf_u32 hw
  obtain ⟨a', rfl⟩ := Int.eq_ofNat_of_zero_le a0
  obtain ⟨w', rfl⟩ := Int.eq_ofNat_of_zero_le w0
  exact bursts_fn m a' w' h1 h2 h3 (by omega) (by omega)
end Go.Proofs.Ytbialojkkhkjeaa
