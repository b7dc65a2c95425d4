/- Rows: copies, comparison. (and what stands on it) -/
import Derived.Test.YtdbdoilfimiihaaN5
import Derived.Test.YtdbdoilfimiihaaN4
set_option linter.unusedSimpArgs false
set_option linter.unusedVariables false

/-! Rows: copies, comparison. -/
namespace Go.Proofs.Ytdbdoilfimiihaa
open Go.Sy
theorem mixed : Try.prog.follows .mixedOrders = true := by rfl
theorem wrap64 {n : Int} (h1 : -9223372036854775808 ≤ n) (h2 : n < 9223372036854775808) : IntKind.i64.wrap n = n := by
  simp [IntKind.wrap, IntKind.signed, IntKind.bits]
  omega

theorem max_i64 (P : Program) (ty : TypeId) (ats : Array TypeId) (a b : Int) : pureOf P (Builtin.max_ ats ty #[.int .i64 a, .int .i64 b]) = some (.int .i64 (max a b)) := by
  simp [Builtin.max_, Builtin.max2]
  show some (Value.int IntKind.i64 (if a < b then b else a)) = _
  by_cases h : a < b
  · rw [if_pos h, Int.max_eq_right (by omega)]
  · rw [if_neg h, Int.max_eq_left (by omega)]

set_option maxRecDepth 100000 in
theorem clone_fn (nl : Bool) (xs : List Int) (hn : nl = true → xs = []) (hl : xs.length ≤ 140737488355328) : Fc Try.prog 13 [.sl .imm nl 1 (u8s xs)] [] (.sl (.own (.loc 5)) nl 1 (u8s xs)) [] := by
  refine Fc.of (anys _ []) [] mixed Try.func13 rfl (by rfl) (by simp [Try.ntmps13]) (by decide) ?_
  simp -implicitDefEqProofs -dsimp [Try.ntmps13, binPV]
  refine Cnd.mk (fun h => ?_) (fun h => ?_)
  · subst h
    simp [hn rfl]
  · subst h
    simp [hl]

theorem fr_u8s (n : Nat) (nl : Bool) (xs : List Int) : Fr (.sl (.own (.loc n)) nl 1 (u8s xs)) := .row n _ _ _ fun x hx y hy => by
  simp only [u8s, ints, List.mem_map] at hx
  obtain ⟨n, _, rfl⟩ := hx
  simp [PV.comps] at hy
  exact ⟨_, hy⟩

theorem take_same {xs ys : List Int} {i : Nat} (h1 : i < xs.length) (h2 : i < ys.length) (ht : xs.take i = ys.take i) (he : xs[i] = ys[i]) : xs.take (i + 1) = ys.take (i + 1) := by
  rw [List.take_succ_eq_append_getElem h1, List.take_succ_eq_append_getElem h2, ht, he]

set_option maxRecDepth 100000 in
set_option maxHeartbeats 1000000 in
theorem same_fn (n1 n2 : Bool) (xs ys : List Int) (hl : xs.length < 9223372036854775807) : Fc Try.prog 9 [.sl .imm n1 1 (u8s xs), .sl .imm n2 1 (u8s ys)] [] (.lit (.bool (decide (xs = ys)))) [] := by
  refine Fc.of (anys _ []) sch9 mixed Try.func9 rfl (by rfl) (by simp [Try.ntmps9]) (by decide) ?_
  simp -implicitDefEqProofs -dsimp [Try.ntmps9]
  refine Cnd.mk (fun h => ?_) (fun h => ?_)
  · have h : ¬ xs = ys := by rintro rfl; simp at h
    simp -implicitDefEqProofs -dsimp [h]
  · have h : xs.length = ys.length := by simp at h; omega
    simp -implicitDefEqProofs -dsimp
    refine LpK.mk (anys _ []) mixed (fun i : Nat => i ≤ xs.length ∧ xs.take i = ys.take i) (fun i => ⟨[(0, .sl .imm n1 1 (u8s xs)), (1, .sl .imm n2 1 (u8s ys)), (5, .lit (.int .i64 i))], [], 26⟩) (fun i => xs.length - i) 0 (by simp) (by simp -implicitDefEqProofs -dsimp) ?_
    rintro i ⟨hi, ht⟩
    by_cases hlt : i < xs.length
    · have hlt2 : i < ys.length := by omega
      by_cases he : xs[i] = ys[i]
      · have hw : IntKind.i64.wrap ((i : Int) + 1) = ((i + 1 : Nat) : Int) := wrap64 (by omega) (by omega)
        simp -implicitDefEqProofs -dsimp [hlt, hlt2, he, hw]
        exact .mk (i + 1) ⟨by omega, take_same hlt hlt2 ht he⟩ (by omega) (by simp -implicitDefEqProofs -dsimp)
      · have hn : ¬ xs = ys := by rintro rfl; exact he rfl
        simp -implicitDefEqProofs -dsimp [hlt, hlt2, he, hn]
    · have hn : xs = ys := by rwa [List.take_of_length_le (by omega), List.take_of_length_le (by omega)] at ht
      subst hn
      simp -implicitDefEqProofs -dsimp [hlt]
end Go.Proofs.Ytdbdoilfimiihaa

/-! Numbers as bytes: plain lemmas. -/
namespace Go.Sy

/-- A number's bytes. -/
def enc (n : Nat) : List Int := if h : n < 128 then [(n : Int)] else ((n % 128 + 128 : Nat) : Int) :: enc (n / 128)
termination_by n
decreasing_by omega

theorem enc_lt {n : Nat} (h : n < 128) : enc n = [(n : Int)] := by rw [enc, dif_pos h]
theorem enc_ge {n : Nat} (h : 128 ≤ n) : enc n = ((n % 128 + 128 : Nat) : Int) :: enc (n / 128) := by rw [enc, dif_neg (by omega)]

/-- What some bytes tell. -/
def val : List Int → Nat
  | [] => 0
  | x :: xs => (x % 128).toNat + 128 * val xs

theorem val_lt (l : List Int) : val l < 128 ^ l.length := by
  induction l with
  | nil => simp [val]
  | cons x xs ih =>
    simp only [val, List.length_cons, Nat.pow_succ]
    have : (x % 128).toNat < 128 := by omega
    omega
theorem val_snoc (l : List Int) (x : Int) : val (l ++ [x]) = val l + (x % 128).toNat * 128 ^ l.length := by
  induction l with
  | nil => simp [val]
  | cons y ys ih =>
    simp only [List.cons_append, val, ih, List.length_cons, Nat.pow_succ, Nat.mul_add]
    have : 128 * ((x % 128).toNat * 128 ^ ys.length) = (x % 128).toNat * (128 ^ ys.length * 128) := by
      rw [Nat.mul_comm (128 ^ ys.length) 128, ← Nat.mul_assoc, ← Nat.mul_assoc, Nat.mul_comm 128]
    omega

theorem val_enc (n : Nat) : val (enc n) = n := by
  induction n using Nat.strongRecOn with
  | _ n ih =>
    by_cases h : n < 128
    · rw [enc_lt h]; simp [val]; omega
    · rw [enc_ge (by omega), val, ih (n / 128) (by omega)]
      omega

/-- Bytes of which each but the last one goes on. -/
def goesOn : List Int → Bool
  | [] => false
  | [x] => decide (0 ≤ x ∧ x < 128)
  | x :: xs => decide (128 ≤ x ∧ x < 256) && goesOn xs
theorem goesOn_one (x : Int) : goesOn [x] = decide (0 ≤ x ∧ x < 128) := rfl
theorem goesOn_cons (x : Int) {xs : List Int} (h : xs ≠ []) : goesOn (x :: xs) = (decide (128 ≤ x ∧ x < 256) && goesOn xs) := by
  cases xs with
  | nil => exact absurd rfl h
  | cons y ys => rfl
theorem enc_ne (n : Nat) : enc n ≠ [] := by
  by_cases h : n < 128
  · rw [enc_lt h]; simp
  · rw [enc_ge (by omega)]; simp
theorem goesOn_enc (n : Nat) : goesOn (enc n) = true := by
  induction n using Nat.strongRecOn with
  | _ n ih =>
    by_cases h : n < 128
    · rw [enc_lt h, goesOn_one]; simp; omega
    · rw [enc_ge (by omega), goesOn_cons _ (enc_ne _), ih (n / 128) (by omega)]
      simp; omega

/-- The one form of a number. -/
theorem enc_val : ∀ {l : List Int}, goesOn l = true → (l.length = 1 ∨ l.getLast? ≠ some 0) → enc (val l) = l
  | [], h, _ => by cases h
  | [x], h, _ => by
    rw [goesOn_one, decide_eq_true_eq] at h
    simp only [val]
    rw [enc_lt (by omega)]
    simp; omega
  | x :: y :: ys, h, hl => by
    rw [goesOn_cons _ (by simp), Bool.and_eq_true, decide_eq_true_eq] at h
    obtain ⟨h1, h2⟩ := h
    have hl' : (y :: ys).getLast? ≠ some 0 := by
      rcases hl with hl | hl
      · simp at hl
      · simpa [List.getLast?_cons_cons] using hl
    have ih := enc_val h2 (.inr hl')
    have hpos : 0 < val (y :: ys) := by
      rcases Nat.eq_zero_or_pos (val (y :: ys)) with h0 | h0
      · rw [h0, enc_lt (by omega)] at ih
        rw [← ih] at hl'
        simp at hl'
      · exact h0
    have e : val (x :: y :: ys) = (x % 128).toNat + 128 * val (y :: ys) := rfl
    rw [e, enc_ge (by omega), show ((x % 128).toNat + 128 * val (y :: ys)) / 128 = val (y :: ys) by omega, ih]
    congr 1
    omega
theorem last_enc {n : Nat} : (enc n).length = 1 ∨ (enc n).getLast? ≠ some 0 := by
  induction n using Nat.strongRecOn with
  | _ n ih =>
    by_cases h : n < 128
    · rw [enc_lt h]; exact .inl rfl
    · right
      rw [enc_ge (by omega)]
      cases he : enc (n / 128) with
      | nil => exact absurd he (enc_ne _)
      | cons y ys =>
        rw [List.getLast?_cons_cons, ← he]
        rcases ih (n / 128) (by omega) with h1 | h1
        · have : n / 128 < 128 := by
            rcases Nat.lt_or_ge (n / 128) 128 with h2 | h2
            · exact h2
            · rw [enc_ge h2] at h1
              simp only [List.length_cons] at h1
              exact absurd (List.eq_nil_of_length_eq_zero (Nat.succ.inj h1)) (enc_ne _)
          rw [enc_lt this]
          simp; omega
        · exact h1
theorem enc_length {n k : Nat} (h : n < 128 ^ (k + 1)) : (enc n).length ≤ k + 1 := by
  induction k generalizing n with
  | zero => rw [enc_lt (by omega)]; simp
  | succ k ih =>
    by_cases h1 : n < 128
    · rw [enc_lt h1]; simp
    · rw [enc_ge (by omega)]
      have := ih (n := n / 128) (by rw [Nat.pow_succ] at h; omega)
      simp only [List.length_cons]; omega
theorem enc_u64 {n : Nat} (h : n < 18446744073709551616) : (enc n).length ≤ 10 := enc_length (k := 9) (by omega)


/-- How many of the first ones go on. -/
def lead : Nat → List Int → Nat
  | 0, _ => 0
  | _, [] => 0
  | n + 1, x :: xs => if 128 ≤ x then lead n xs + 1 else 0

theorem lead_spec : ∀ (n : Nat) (b : List Int), lead n b ≤ n ∧ lead n b ≤ b.length ∧ (∀ (i : Nat) (h : i < b.length), i < lead n b → 128 ≤ b[i]) ∧ (lead n b < n → ∀ (h : lead n b < b.length), b[lead n b] < 128)
  | 0, b => by simp [lead]
  | n + 1, [] => by simp [lead]
  | n + 1, x :: xs => by
    obtain ⟨h1, h2, h3, h4⟩ := lead_spec n xs
    by_cases hx : 128 ≤ x
    · have e : lead (n + 1) (x :: xs) = lead n xs + 1 := by rw [lead, if_pos hx]
      refine ⟨by omega, by simp; omega, fun i h hi => ?_, fun h5 h => ?_⟩
      · cases i with
        | zero => exact hx
        | succ i => exact h3 i (by simpa using h) (by omega)
      · simp only [e, List.getElem_cons_succ]
        exact h4 (by omega) (by simp only [e, List.length_cons] at h; omega)
    · have e : lead (n + 1) (x :: xs) = 0 := by rw [lead, if_neg hx]
      refine ⟨by omega, by omega, fun i h hi => by omega, fun h5 h => ?_⟩
      simp only [e, List.getElem_cons_zero]; omega
/-- .. and no other number is. -/
theorem lead_eq {n : Nat} {b : List Int} {k : Nat} (h1 : k ≤ n) (h2 : k ≤ b.length) (h3 : ∀ (i : Nat) (h : i < b.length), i < k → 128 ≤ b[i]) (h4 : k < n → ∀ (h : k < b.length), b[k] < 128) : lead n b = k := by
  obtain ⟨a1, a2, a3, a4⟩ := lead_spec n b
  rcases Nat.lt_trichotomy (lead n b) k with h | h | h
  · have := h3 (lead n b) (by omega) h
    have := a4 (by omega) (by omega)
    omega
  · exact h
  · have := a3 k (by omega) h
    have := h4 (by omega) (by omega)
    omega

/-- The number that bytes begin with, how many it has, and why there is none. -/
def tk (b : List Int) : Nat × Nat × Int :=
  if lead 10 b = 10 then (0, 0, 3)
  else if lead 10 b = b.length then (0, 0, 2)
  else if (0 < lead 10 b ∧ b.getD (lead 10 b) 0 = 0) ∨ (lead 10 b = 9 ∧ 1 < b.getD (lead 10 b) 0) then (0, 0, 3)
  else (val (b.take (lead 10 b + 1)), lead 10 b + 1, 0)

theorem take_goesOn : ∀ (b : List Int) (k : Nat), k < b.length → (∀ x, x ∈ b → 0 ≤ x ∧ x < 256) → (∀ (i : Nat) (h : i < b.length), i < k → 128 ≤ b[i]) → (∀ (h : k < b.length), b[k] < 128) → goesOn (b.take (k + 1)) = true
  | [], k, h, _, _, _ => by simp at h
  | x :: xs, 0, _, hb, _, h4 => by
    have := hb x (by simp)
    have := h4 (by simp)
    simp only [List.getElem_cons_zero] at this
    simp [goesOn]; omega
  | x :: xs, k + 1, h, hb, h3, h4 => by
    have h' : k < xs.length := by simpa using h
    have := take_goesOn xs k h' (fun y hy => hb y (by simp [hy])) (fun i hi hik => h3 (i + 1) (by simpa using hi) (by omega)) (fun hk => by have := h4 (by simpa using hk); simpa using this)
    have h0 := h3 0 (by simp) (by omega)
    have h1 := hb x (by simp)
    simp only [List.getElem_cons_zero] at h0
    rw [List.take_succ_cons, goesOn_cons _ (by
      intro e
      rcases List.take_eq_nil_iff.1 e with e | e
      · omega
      · rw [e] at h'; simp at h'), this]
    simp; omega

/-- Of which bytes a number is the one form. -/
theorem form_iff {b : List Int} (hb : ∀ x, x ∈ b → 0 ≤ x ∧ x < 256) {k : Nat} (hk : k < b.length) (hk9 : k ≤ 9) (h3 : ∀ (i : Nat) (h : i < b.length), i < k → 128 ≤ b[i]) (h4 : b[k] < 128) :
    enc (val (b.take (k + 1)) % 18446744073709551616) = b.take (k + 1) ↔ ¬ ((0 < k ∧ b[k] = 0) ∨ (k = 9 ∧ 1 < b[k])) := by
  have hg := take_goesOn b k hk hb h3 fun _ => h4
  have hlen : (b.take (k + 1)).length = k + 1 := by simp; omega
  have hlast : (b.take (k + 1)).getLast? = some b[k] := by
    rw [List.getLast?_eq_getElem?, hlen, List.getElem?_take_of_lt (by omega)]
    exact List.getElem?_eq_getElem hk
  have hsn : b.take (k + 1) = b.take k ++ [b[k]] := List.take_succ_eq_append_getElem hk
  have h0 := (hb b[k] (List.getElem_mem hk)).1
  constructor
  · intro he hc
    rcases hc with ⟨hc1, hc2⟩ | ⟨rfl, hc2⟩
    · have := last_enc (n := val (b.take (k + 1)) % 18446744073709551616)
      rw [he, hlen, hlast] at this
      rcases this with h | h
      · omega
      · exact h (by rw [hc2])
    · have h1 := val_enc (val (b.take (9 + 1)) % 18446744073709551616)
      rw [he, hsn, val_snoc] at h1
      have h2 : (b.take 9).length = 9 := by simp; omega
      rw [h2] at h1
      have h5 : (b[9] % 128).toNat = b[9].toNat := by omega
      rw [h5] at h1
      have h6 : 2 ≤ b[9].toNat := by omega
      have h7 : 2 * 128 ^ 9 ≤ b[9].toNat * 128 ^ 9 := Nat.mul_le_mul_right _ h6
      omega
  · intro hc
    have hlt : val (b.take (k + 1)) < 18446744073709551616 := by
      rcases Nat.lt_or_ge k 9 with h | h
      · have h1 := val_lt (b.take (k + 1))
        rw [hlen] at h1
        have h2 : 128 ^ (k + 1) ≤ 128 ^ 9 := Nat.pow_le_pow_right (by omega) (by omega)
        omega
      · have hk9' : k = 9 := by omega
        subst hk9'
        have h1 : ¬ 1 < b[9] := fun h => hc (.inr ⟨rfl, h⟩)
        rw [hsn, val_snoc]
        have h2 : (b.take 9).length = 9 := by simp; omega
        have h3 := val_lt (b.take 9)
        rw [h2] at h3 ⊢
        have h5 : (b[9] % 128).toNat ≤ 1 := by omega
        have h7 : (b[9] % 128).toNat * 128 ^ 9 ≤ 1 * 128 ^ 9 := Nat.mul_le_mul_right _ h5
        omega
    rw [Nat.mod_eq_of_lt hlt]
    refine enc_val hg ?_
    rw [hlen, hlast]
    by_cases hk0 : k = 0
    · left; omega
    · right
      intro e
      simp only [Option.some.injEq] at e
      exact hc (.inl ⟨by omega, e⟩)
end Go.Sy

/-! Bits of numbers. -/
namespace Go.Sy

theorem wrap_is_u8 (n : Int) : IntKind.u8.wrap n = n % 256 := by simp [IntKind.wrap, IntKind.signed, IntKind.bits]
theorem wrap_is_u16 (n : Int) : IntKind.u16.wrap n = n % 65536 := by simp [IntKind.wrap, IntKind.signed, IntKind.bits]
theorem wrap_is_u32 (n : Int) : IntKind.u32.wrap n = n % 4294967296 := by simp [IntKind.wrap, IntKind.signed, IntKind.bits]
theorem wrap_is_u64 (n : Int) : IntKind.u64.wrap n = n % 18446744073709551616 := by simp [IntKind.wrap, IntKind.signed, IntKind.bits]

theorem ofInt_toNat {w : Nat} {n : Int} (h0 : 0 ≤ n) (h : n < 2 ^ w) : (BitVec.ofInt w n).toNat = n.toNat := by
  rw [BitVec.toNat_ofInt]
  congr 1
  rw [Int.emod_eq_of_lt h0]
  exact_mod_cast h

theorem iand_nat {k : IntKind} (hk : k.signed = false) {a b : Int} (ha : 0 ≤ a) (ha2 : a < 2 ^ k.bits) (hb : 0 ≤ b) (hb2 : b < 2 ^ k.bits) : iand k a b = ((a.toNat &&& b.toNat : Nat) : Int) := by
  have h : (BitVec.ofInt k.bits a &&& BitVec.ofInt k.bits b).toNat = a.toNat &&& b.toNat := by rw [BitVec.toNat_and, ofInt_toNat ha ha2, ofInt_toNat hb hb2]
  unfold iand
  rw [h]
  have h2 : a.toNat &&& b.toNat < 2 ^ k.bits := by rw [← h]; exact BitVec.isLt _
  simp only [IntKind.wrap, hk, Bool.false_and, Bool.false_eq_true, if_false]
  exact Int.emod_eq_of_lt (by omega) (by exact_mod_cast h2)
theorem ior_nat {k : IntKind} (hk : k.signed = false) {a b : Int} (ha : 0 ≤ a) (ha2 : a < 2 ^ k.bits) (hb : 0 ≤ b) (hb2 : b < 2 ^ k.bits) : ior k a b = ((a.toNat ||| b.toNat : Nat) : Int) := by
  have h : (BitVec.ofInt k.bits a ||| BitVec.ofInt k.bits b).toNat = a.toNat ||| b.toNat := by rw [BitVec.toNat_or, ofInt_toNat ha ha2, ofInt_toNat hb hb2]
  unfold ior
  rw [h]
  have h2 : a.toNat ||| b.toNat < 2 ^ k.bits := by rw [← h]; exact BitVec.isLt _
  simp only [IntKind.wrap, hk, Bool.false_and, Bool.false_eq_true, if_false]
  exact Int.emod_eq_of_lt (by omega) (by exact_mod_cast h2)
theorem ixor_nat {k : IntKind} (hk : k.signed = false) {a b : Int} (ha : 0 ≤ a) (ha2 : a < 2 ^ k.bits) (hb : 0 ≤ b) (hb2 : b < 2 ^ k.bits) : ixor k a b = ((a.toNat ^^^ b.toNat : Nat) : Int) := by
  have h : (BitVec.ofInt k.bits a ^^^ BitVec.ofInt k.bits b).toNat = a.toNat ^^^ b.toNat := by rw [BitVec.toNat_xor, ofInt_toNat ha ha2, ofInt_toNat hb hb2]
  unfold ixor
  rw [h]
  have h2 : a.toNat ^^^ b.toNat < 2 ^ k.bits := by rw [← h]; exact BitVec.isLt _
  simp only [IntKind.wrap, hk, Bool.false_and, Bool.false_eq_true, if_false]
  exact Int.emod_eq_of_lt (by omega) (by exact_mod_cast h2)

theorem iand_127 {x : Int} (h0 : 0 ≤ x) (h : x < 256) : iand .u8 x 127 = x % 128 := by
  rw [iand_nat rfl h0 (by simpa [IntKind.bits] using h) (by omega) (by decide)]
  have := Nat.and_two_pow_sub_one_eq_mod x.toNat 7
  have e : ((127 : Int).toNat) = 2 ^ 7 - 1 := rfl
  rw [e, this]; omega
set_option maxRecDepth 100000 in
theorem ior_128 {n : Int} (h0 : 0 ≤ n) (h : n < 256) : ior .u8 n 128 = n % 128 + 128 := by
  rw [ior_nat rfl h0 (by simpa [IntKind.bits] using h) (by omega) (by decide)]
  have key : ∀ m : Fin 256, (m.val ||| 128) = m.val % 128 + 128 := by decide
  have := key ⟨n.toNat, by omega⟩
  simp only at this
  have e : ((128 : Int).toNat) = 128 := rfl
  rw [e, this]; omega
theorem ishr_7 {n : Int} : ishr .u64 n 7 = n / 128 := by
  unfold ishr
  rw [Int.fdiv_eq_ediv_of_nonneg _ (by simp [IntKind.bits])]
  rfl
/-- What stands higher up is put behind. -/
theorem ior_add {a y s : Nat} (ha : a < 2 ^ s) (h : y * 2 ^ s < 18446744073709551616) (ha2 : a < 18446744073709551616) : ior .u64 (a : Int) ((y * 2 ^ s : Nat) : Int) = ((a + y * 2 ^ s : Nat) : Int) := by
  rw [ior_nat rfl (by omega) (by simp [IntKind.bits]; omega) (by omega) (by simp only [IntKind.bits]; omega)]
  have := Nat.shiftLeft_add_eq_or_of_lt ha y
  rw [Nat.shiftLeft_eq] at this
  simp only [Int.toNat_natCast]
  rw [Nat.or_comm, ← this, Nat.add_comm]
theorem ishl_u64 {y : Int} {s : Nat} (hs : s ≤ 64) : ishl .u64 y s = (y * 2 ^ s) % 18446744073709551616 := by
  unfold ishl
  rw [wrap_is_u64]
  have : min (s : Int).toNat IntKind.u64.bits = s := by simp [IntKind.bits]; omega
  rw [this]
end Go.Sy
namespace Go.Sy
/-- What a call leaves may be held as memory that turns no more. -/
theorem Fc.fz {P : Program} {k : FuncId} {al : List PV} {h : List (Nat × Ob)} {x : PV} {h1 : List (Nat × Ob)} (hf : Fc P k al h x h1) (ts : List Tk) : Fc P k al h (x.scrub (Ffz (fzOf ts)) some) (scrubO (Ffz (fzOf ts)) some h1) := by
  refine ⟨hf.ok, fun g w vs a1 a2 a3 => CallsIn.mono (hf.run g w vs a1 a2 a3) ?_⟩
  rintro e w' ⟨v, y, g', h', rfl, ⟨rfl, rfl⟩, b1, b2, b3, b4⟩
  have hs0 : Sim g' ⟨[], h', 0⟩ ⟨#[], []⟩ w' := ⟨fun s => by show Rep g' w' .dead _; exact .dead _, rfl, b2⟩
  exact ⟨v, _, g'.fz (fzOf ts), _, rfl, ⟨rfl, rfl⟩, b1.scrub (Turns.fz b3 (fzOf ts)), (hs0.fz b3 (fzOf ts)).heap, b3.fz _, b4.trans (Ext.fz g' _ w')⟩
end Go.Sy

/-! Readers, as plain values. -/
namespace Go.Sy

structure WS where
  nl : Bool
  b : List Int
  fail : Int
structure WS.Ok (s : WS) : Prop where
  nil : s.nl = true → s.b = []
  bytes : InB s.b
  len : s.b.length ≤ 1000000
def WS.num (s : WS) : Nat × WS := if s.fail ≠ 0 then (0, s) else if (tk s.b).2.2 ≠ 0 then (0, { s with fail := (tk s.b).2.2 }) else ((tk s.b).1, { s with b := s.b.drop (tk s.b).2.1 })
def WS.text (s : WS) (limit : Int) : (Bool × List Int) × WS :=
  if s.fail ≠ 0 then ((true, []), s)
  else if (tk s.b).2.2 ≠ 0 then ((true, []), { s with fail := (tk s.b).2.2 })
  else if max 0 limit < ((tk s.b).1 : Int) then ((true, []), { s with fail := 4 })
  else if (s.b.length : Int) - (tk s.b).2.1 < ((tk s.b).1 : Int) then ((true, []), { s with fail := 2 })
  else ((false, (s.b.drop (tk s.b).2.1).take (tk s.b).1), { s with b := s.b.drop ((tk s.b).2.1 + (tk s.b).1) })
def WS.fin (s : WS) : Int := if s.fail = 0 ∧ 0 < s.b.length then 5 else s.fail

theorem tk_spec (b : List Int) (hb : InB b) : (tk b).2.1 ≤ b.length ∧ (tk b).2.1 ≤ 10 ∧ (tk b).1 < 18446744073709551616 ∧ ((tk b).2.2 = 0 ∨ (tk b).2.2 = 2 ∨ (tk b).2.2 = 3) ∧ ((tk b).2.2 ≠ 0 → (tk b).1 = 0 ∧ (tk b).2.1 = 0) ∧ ((tk b).2.2 = 0 → 0 < (tk b).2.1) := by
  obtain ⟨h1, h2, h3, h4⟩ := lead_spec 10 b
  unfold tk
  split
  · simp
  · split
    · simp
    · split
      · simp
      · rename_i a1 a2 a3
        refine ⟨by simp; omega, by simp; omega, ?_, .inl rfl, by simp, by simp⟩
        have hk : lead 10 b < b.length := by omega
        have := (form_iff (fun x hx => hb x hx) hk (by omega) (fun i h hi => h3 i h hi) (h4 (by omega) hk)).2 (by
          rw [List.getD_eq_getElem?_getD, List.getElem?_eq_getElem hk] at a3
          simpa using a3)
        have hv := congrArg val this
        rw [val_enc] at hv
        simp only
        omega
theorem WS.num_ok {s : WS} (h : s.Ok) : s.num.2.Ok := by
  obtain ⟨h1, h2, h3⟩ := id h
  unfold WS.num
  split
  · exact h
  · split
    · exact ⟨h1, h2, h3⟩
    · exact ⟨fun e => by simp [h1 e], h2.drop _, by simp; omega⟩
theorem WS.text_ok {s : WS} (h : s.Ok) (limit : Int) : (s.text limit).2.Ok := by
  obtain ⟨h1, h2, h3⟩ := id h
  unfold WS.text
  split
  · exact h
  · split
    · exact ⟨h1, h2, h3⟩
    · split
      · exact ⟨h1, h2, h3⟩
      · split
        · exact ⟨h1, h2, h3⟩
        · exact ⟨fun e => by simp [h1 e], h2.drop _, by simp; omega⟩
end Go.Sy

/-! The wire: numbers and texts as bytes. -/
namespace Go.Proofs.Ytdbdoilfimiihaa
open Go.Sy

set_option maxRecDepth 100000 in
set_option maxHeartbeats 1000000 in
theorem num_fn (nl : Bool) (b : List Int) (n : Nat) (hn : nl = true → b = []) (hb : b.length ≤ 10000000) (h : n < 18446744073709551616) :
    Fc Try.prog 8 [.sl .imm nl 1 (u8s b), .lit (.int .u64 n)] [] (.sl (.own (.loc 1070)) false 1 (u8s (b ++ enc n))) [] := by
  refine Fc.of (anys _ [13]) [] mixed Try.func8 rfl (by rfl) (by simp [Try.ntmps8]) (by decide) ?_
  simp -implicitDefEqProofs -dsimp [Try.ntmps8]
  refine CallK.fresh ?_
  simp -implicitDefEqProofs -dsimp
  refine CallQ.same (clone_fn nl b hn (by omega)) rfl ?_
  simp -implicitDefEqProofs -dsimp [fr_u8s]
  refine LpK.mk (anys _ []) mixed (fun (m, n', l) => m < 18446744073709551616 ∧ l ++ enc m = b ++ enc n ∧ l.length + (enc m).length = b.length + (enc n).length)
    (fun ((m, n', l) : Nat × Bool × List Int) => ⟨[(1, .lit (.int .u64 m)), (5, .sl (.own (.loc 1070)) n' 1 (u8s l))], [], 23⟩) (fun (m, _) => m) (n, nl, b) ⟨h, rfl, rfl⟩ (by simp -implicitDefEqProofs -dsimp) ?_
  rintro ⟨m, n', l⟩ ⟨hm, he, hlen⟩
  have hle := enc_u64 h
  have ht : l.length + 1 ≤ 140737488355328 := by omega
  have hc : IntKind.u8.wrap (m : Int) = (m : Int) % 256 := wrap_is_u8 _
  by_cases h1 : 128 ≤ (m : Int)
  · have h2 : ior .u8 ((m : Int) % 256) 128 = (m : Int) % 128 + 128 := by rw [ior_128 (by omega) (by omega)]; omega
    have h3 : ishr .u64 (m : Int) 7 = ((m / 128 : Nat) : Int) := by rw [ishr_7]; omega
    simp -implicitDefEqProofs -dsimp [h1, hc, h2, h3, ht]
    have e1 : enc m = ((m % 128 + 128 : Nat) : Int) :: enc (m / 128) := enc_ge (by omega)
    refine .mk (m / 128, false, l ++ [(m : Int) % 128 + 128]) ⟨by omega, ?_, ?_⟩ (by simp; omega) (by simp -implicitDefEqProofs -dsimp [ints])
    · rw [← he, e1]; simp
    · rw [← hlen, e1]; simp; omega
  · have h2 : (m : Int) % 256 = m := by omega
    have e1 : enc m = [(m : Int)] := enc_lt (by omega)
    have e2 : u8s l ++ [PV.lit (.int .u8 (m : Int))] = u8s (b ++ enc n) := by rw [← he, e1]; simp [ints]
    simp -implicitDefEqProofs -dsimp [h1, hc, h2, ht, e2]

theorem num_fn' (nl : Bool) (b : List Int) (n : Int) (hn : nl = true → b = []) (hb : b.length ≤ 10000000) (h0 : 0 ≤ n) (h : n < 18446744073709551616) :
    Fc Try.prog 8 [.sl .imm nl 1 (u8s b), .lit (.int .u64 n)] [] (.sl (.own (.loc 1070)) false 1 (u8s (b ++ enc n.toNat))) [] := by
  have := num_fn nl b n.toNat hn hb (by omega)
  rwa [show ((n.toNat : Nat) : Int) = n by omega] at this

set_option maxRecDepth 100000 in
set_option maxHeartbeats 1000000 in
theorem text_fn (nl n2 : Bool) (b x : List Int) (hn : nl = true → b = []) (hb : b.length ≤ 10000000) (hx : x.length ≤ 10000000) :
    Fc Try.prog 5 [.sl .imm nl 1 (u8s b), .sl .imm n2 1 (u8s x)] [] (.sl (.own (.loc 1090)) false 1 (u8s (b ++ enc x.length ++ x))) [] := by
  have hw : IntKind.u64.wrap (x.length : Int) = x.length := by rw [wrap_is_u64]; omega
  have hle := enc_u64 (n := x.length) (by omega)
  have ht : b.length + (enc x.length).length + x.length ≤ 140737488355328 := by omega
  have ht2 : b.length + ((enc x.length).length + x.length) ≤ 140737488355328 := by omega
  refine Fc.of (anys _ [8]) [] mixed Try.func5 rfl (by rfl) (by simp [Try.ntmps5]) (by decide) ?_
  simp -implicitDefEqProofs -dsimp [Try.ntmps5, hw]
  refine CallK.fresh ?_
  simp -implicitDefEqProofs -dsimp
  refine CallQ.same (num_fn nl b x.length hn hb (by omega)) rfl ?_
  simp -implicitDefEqProofs -dsimp [fr_u8s, ht, ht2]

end Go.Proofs.Ytdbdoilfimiihaa

/-! The wire: the number that bytes begin with. -/
namespace Go.Proofs.Ytdbdoilfimiihaa
open Go.Sy

theorem min_i64 (P : Program) (ty : TypeId) (ats : Array TypeId) (a b : Int) : pureOf P (Builtin.min_ ats ty #[.int .i64 a, .int .i64 b]) = some (.int .i64 (min a b)) := by
  simp [Builtin.min_, Builtin.min2]
  show some (Value.int IntKind.i64 (if b < a then b else a)) = _
  by_cases h : b < a
  · rw [if_pos h, Int.min_eq_right (by omega)]
  · rw [if_neg h, Int.min_eq_left (by omega)]

set_option maxRecDepth 100000 in
set_option maxHeartbeats 4000000 in
theorem take_fn (nl : Bool) (b : List Int) (hb : InB b) (hl : b.length ≤ 10000000) :
    Fc Try.prog 16 [.sl .imm nl 1 (u8s b)] [] (.tup [.lit (.int .u64 (tk b).1), .lit (.int .i64 (tk b).2.1), .lit (.int .i64 (tk b).2.2)]) [] := by
  refine Fc.of (anys _ []) [] mixed Try.func16 rfl (by rfl) (by simp [Try.ntmps16]) (by decide) ?_
  obtain ⟨q, hq⟩ : ∃ q : Nat, q = min b.length 10 := ⟨_, rfl⟩
  have hq1 : min (b.length : Int) 10 = q := by omega
  have hq2 : min q b.length = q := by omega
  have hq3 : (q : Int) ≤ b.length := by omega
  simp -implicitDefEqProofs -dsimp [Try.ntmps16, litL, min_i64, hq1, hq2, hq3]
  refine LpK.mk (anys _ []) mixed (fun ((i, n) : Nat × Int) => i ≤ q ∧ (∀ (j : Nat) (h : j < b.length), j < i → 128 ≤ b[j]) ∧ (i ≤ 9 → n = (val (b.take i) : Int)))
    (fun ((i, n) : Nat × Int) => ⟨[(0, .sl .imm nl 1 (u8s b)), (5, .lit (.int .u64 n)), (12, .sl .imm nl 1 (u8s (b.take q))), (13, .lit (.int .i64 q)), (14, .lit (.int .i64 i))], [], 52⟩) (fun (i, _) => q - i) ((0, 0) : Nat × Int) ?_ (by simp -implicitDefEqProofs -dsimp) ?_
  · exact ⟨by omega, fun j _ h => by omega, fun _ => rfl⟩
  rintro ⟨i, n⟩ ⟨hi, hall, hn⟩
  by_cases hlt : i < q
  · have hib : i < b.length := by omega
    have hlt2 : (i : Int) < q := by omega
    have hx := hb b[i] (List.getElem_mem hib)
    obtain ⟨x, hxe⟩ : ∃ x, x = b[i] := ⟨_, rfl⟩
    rw [← hxe] at hx
    have hg : (b.take q)[i]? = some x := by rw [List.getElem?_take_of_lt hlt, List.getElem?_eq_getElem hib, hxe]
    have hw1 : IntKind.i64.wrap (7 * (i : Int)) = 7 * i := wrap64 (by omega) (by omega)
    have hw2 : IntKind.i64.wrap ((i : Int) + 1) = (i : Int) + 1 := wrap64 (by omega) (by omega)
    have h127 := iand_127 hx.1 hx.2
    have hc : IntKind.u64.wrap (x % 128) = x % 128 := by rw [wrap_is_u64]; omega
    have h7 : (0 : Int) ≤ 7 * (i : Int) := by omega
    have hn' := hn (by omega)
    have hs : ishl .u64 (x % 128) (7 * (i : Int)) = ((x % 128) * 2 ^ (7 * i)) % 18446744073709551616 := by
      have := ishl_u64 (y := x % 128) (s := 7 * i) (by omega)
      rwa [show ((7 * i : Nat) : Int) = 7 * (i : Int) by omega] at this
    have hv := val_snoc (b.take i) x
    rw [show (b.take i).length = i by rw [List.length_take]; omega, show b.take i ++ [x] = b.take (i + 1) by rw [List.take_succ_eq_append_getElem hib, hxe]] at hv
    have hp : 128 ^ i = 2 ^ (7 * i) := by rw [show (128 : Nat) = 2 ^ 7 from rfl, ← Nat.pow_mul]
    have hvl := val_lt (b.take i)
    rw [show (b.take i).length = i by rw [List.length_take]; omega, hp] at hvl
    -- what the number becomes, where it fits
    have hor : (x % 128).toNat * 2 ^ (7 * i) < 18446744073709551616 → ior .u64 n (ishl .u64 (x % 128) (7 * (i : Int))) = val (b.take (i + 1)) := by
      intro hfit
      have hbig : (2 : Nat) ^ (7 * i) ≤ 2 ^ 63 := Nat.pow_le_pow_right (by omega) (by omega)
      have e1 : (x % 128) * 2 ^ (7 * i) = (((x % 128).toNat * 2 ^ (7 * i) : Nat) : Int) := by
        rw [Int.natCast_mul, Int.natCast_pow, Int.toNat_of_nonneg (by omega)]; rfl
      have e2 : (((x % 128).toNat * 2 ^ (7 * i) : Nat) : Int) % 18446744073709551616 = (((x % 128).toNat * 2 ^ (7 * i) : Nat) : Int) := Int.emod_eq_of_lt (Int.natCast_nonneg _) (Int.ofNat_lt.2 hfit)
      rw [hs, e1, e2, hn', ior_add hvl hfit (by omega), hv, hp]
    by_cases hx128 : 128 ≤ x
    · simp -implicitDefEqProofs -dsimp [hlt2, hlt, hg, hw1, hw2, h127, hc, h7, hx128]
      refine .mk (i + 1, ior .u64 n (ishl .u64 (x % 128) (7 * (i : Int)))) ⟨by omega, fun j h hj => ?_, fun h9 => ?_⟩ (by simp; omega) (by simp -implicitDefEqProofs -dsimp)
      · rcases Nat.lt_or_ge j i with h' | h'
        · exact hall j h h'
        · have : j = i := by omega
          subst this
          omega
      · refine hor ?_
        have h1 : (x % 128).toNat ≤ 127 := by omega
        have h2 : (2 : Nat) ^ (7 * i) ≤ 2 ^ 56 := Nat.pow_le_pow_right (by omega) (by omega)
        have := Nat.mul_le_mul h1 h2
        omega
    · have hlead : lead 10 b = i := lead_eq (by omega) (by omega) (fun j h hj => hall j h hj) (fun _ h => by omega)
      have hgd : b.getD i 0 = x := by rw [List.getD_eq_getElem?_getD, List.getElem?_eq_getElem hib, hxe]; rfl
      have hx128' : ¬ 128 ≤ x := hx128
      have hne1 : ¬ i = 10 := by omega
      have hne2 : ¬ i = b.length := by omega
      by_cases hbad : (0 < i ∧ x = 0) ∨ (i = 9 ∧ 1 < x)
      · have hT : tk b = (0, 0, 3) := by
          simp only [tk, hlead, hgd, if_neg hne1, if_neg hne2, if_pos hbad]
        by_cases hb1 : 0 < i ∧ x = 0
        · have g1 : 0 < i := hb1.1
          have g2 : x = 0 := hb1.2
          have g3 : (i : Int) ≠ 0 := by omega
          subst g2
          simp -implicitDefEqProofs -dsimp [hlt2, hlt, hg, hw1, hw2, hc, h7, g1, g3, hT]
        · have g2 : 1 < x := by omega
          have g3 : ¬ x = 0 := by omega
          have g4 : 0 < i := by omega
          have g5 : i = 9 := by omega
          have g7 : decide ((i : Int) = 9) = true := by simp; omega
          simp -implicitDefEqProofs -dsimp [hlt2, hlt, hg, hw1, hw2, h127, hc, h7, hx128, g2, g3, g4, g7, hT]
      · have hT : tk b = (val (b.take (i + 1)), i + 1, 0) := by
          simp only [tk, hlead, hgd, if_neg hne1, if_neg hne2, if_neg hbad]
        have hfit : (x % 128).toNat * 2 ^ (7 * i) < 18446744073709551616 := by
          rcases Nat.lt_or_ge i 9 with h | h
          · have h1 : (x % 128).toNat ≤ 127 := by omega
            have h2 : (2 : Nat) ^ (7 * i) ≤ 2 ^ 56 := Nat.pow_le_pow_right (by omega) (by omega)
            have := Nat.mul_le_mul h1 h2
            omega
          · have h9 : i = 9 := by omega
            have h1 : (x % 128).toNat ≤ 1 := by omega
            subst h9
            omega
        have ho := hor hfit
        by_cases g1 : i = 0
        · have g3 : ¬ 0 < i := by omega
          have g7 : ¬ (i : Int) = 9 := by omega
          simp -implicitDefEqProofs -dsimp [hlt2, hlt, hg, hw1, hw2, h127, hc, h7, hx128, hT, ho, g3, g7]
        · have g2 : ¬ x = 0 := by omega
          have g3 : 0 < i := by omega
          have g4 : (i : Int) ≠ 0 := by omega
          by_cases g5 : i = 9
          · have g6 : ¬ 1 < x := by omega
            have g7 : decide ((i : Int) = 9) = true := by simp; omega
            simp -implicitDefEqProofs -dsimp [hlt2, hlt, hg, hw1, hw2, h127, hc, h7, hx128, hT, ho, g2, g3, g4, g6, g7]
          · have g7 : ¬ (i : Int) = 9 := by omega
            simp -implicitDefEqProofs -dsimp [hlt2, hlt, hg, hw1, hw2, h127, hc, h7, hx128, hT, ho, g2, g3, g4, g5, g7]
  · have hi : i = q := by omega
    subst hi
    by_cases h10 : 10 ≤ (b.length : Int)
    · have hlead : lead 10 b = 10 := lead_eq (by omega) (by omega) (fun j h hj => hall j h (by omega)) (by omega)
      have hT : tk b = (0, 0, 3) := by simp [tk, hlead]
      simp -implicitDefEqProofs -dsimp [h10, hT]
    · have hlead : lead 10 b = b.length := lead_eq (by omega) (by omega) (fun j h hj => hall j h (by omega)) (by omega)
      have hT : tk b = (0, 0, 2) := by
        have : ¬ b.length = 10 := by omega
        simp [tk, hlead, this]
      simp -implicitDefEqProofs -dsimp [h10, hT]
end Go.Proofs.Ytdbdoilfimiihaa

/-! The wire: readers. -/
namespace Go.Proofs.Ytdbdoilfimiihaa
open Go.Sy

def wcells (s : WS) : List PV := [.sl .imm s.nl 1 (u8s s.b), .lit (.int .i64 s.fail)]
def wcellsO (s : WS) : Option Own → List PV
  | some o => [.sl o s.nl 1 (u8s s.b), .lit (.int .i64 s.fail)]
  | none => [.dead, .lit (.int .i64 s.fail)]
@[simp] theorem wcellsO_imm (s : WS) : wcellsO s (some .imm) = wcells s := (rfl)
@[simp ↓] theorem ws_scrub (F : Own → Option Own) (p : Nat → Option Nat) (s : WS) : PV.scrubL F p (wcells s) = wcellsO s (F .imm) := by
  simp only [wcells, PV.scrubL, PV.scrub, wcellsO]
  cases F .imm <;> rfl
@[simp ↓] theorem ws_lend (s : WS) : lendCells (wcells s) = some (wcells s) := by
  simp [wcells, lendCells, lendCell, Value.oneCell']
@[simp ↓] theorem ws_ids (s : WS) : idsOfL (wcells s) = [] := by simp [wcells]
@[simp ↓] theorem ws_toks (s : WS) : toksOfL (wcells s) = [] := by simp [wcells]
@[simp] theorem ws_get0 (s : WS) : (wcells s)[0]? = some (.sl .imm s.nl 1 (u8s s.b)) := rfl
@[simp] theorem ws_get1 (s : WS) : (wcells s)[1]? = some (.lit (.int .i64 s.fail)) := rfl

set_option maxRecDepth 100000 in
theorem fail_fn (s : WS) : Fc Try.prog 11 [.cur .imm (wcells s)] [] (.lit (.int .i64 s.fail)) [] := by
  refine Fc.of (anys _ []) [] mixed Try.func11 rfl (by rfl) (by simp [Try.ntmps11]) (by decide) ?_
  simp -implicitDefEqProofs -dsimp [Try.ntmps11, wcells]
set_option maxRecDepth 100000 in
theorem end_fn (s : WS) : Fc Try.prog 12 [.cur .imm (wcells s)] [] (.lit (.int .i64 s.fin)) [] := by
  refine Fc.of (anys _ []) [] mixed Try.func12 rfl (by rfl) (by simp [Try.ntmps12]) (by decide) ?_
  by_cases h : s.fail = 0
  · by_cases h2 : 0 < s.b.length
    · simp -implicitDefEqProofs -dsimp [Try.ntmps12, wcells, h, h2, WS.fin]
    · simp -implicitDefEqProofs -dsimp [Try.ntmps12, wcells, h, h2, WS.fin]
  · simp -implicitDefEqProofs -dsimp [Try.ntmps12, wcells, h, WS.fin]

set_option maxRecDepth 100000 in
theorem open_fn0 (nl : Bool) (b : List Int) (hn : nl = true → b = []) (hb : b.length ≤ 1000000) : Fc Try.prog 6 [.sl .imm nl 1 (u8s b)] [] (.ptr 6 0) [(6, .cells [.sl (.own (.cell 6 0)) nl 1 (u8s b), .lit (.int .i64 0)])] := by
  refine Fc.of (anys _ [13]) [] mixed Try.func6 rfl (by rfl) (by simp [Try.ntmps6]) (by decide) ?_
  simp -implicitDefEqProofs -dsimp [Try.ntmps6]
  refine CallK.fresh ?_
  simp -implicitDefEqProofs -dsimp
  refine CallQ.same (clone_fn nl b hn (by omega)) rfl ?_
  simp -implicitDefEqProofs -dsimp [fr_u8s]
theorem open_fn (nl : Bool) (b : List Int) (hn : nl = true → b = []) (hb : b.length ≤ 1000000) : Fc Try.prog 6 [.sl .imm nl 1 (u8s b)] [] (.ptr 6 0) [(6, .cells (wcells ⟨nl, b, 0⟩))] := by
  have := (open_fn0 nl b hn hb).fz [.cell 6 0]
  simpa [fzOf, wcells] using this

set_option maxRecDepth 100000 in
set_option maxHeartbeats 1000000 in
theorem num1_fn (s : WS) (hs : s.Ok) (v : Int) : Fc Try.prog 17 [.ptr 100000 0, .ptr 100001 0] [(100000, .cells [.ptr 100002 0]), (100001, .cells [.lit (.int .u64 v)]), (100002, .cells (wcells s))]
    (.lit (.int .i64 (tk s.b).2.2)) [(100000, .cells [.ptr 100002 0]), (100001, .cells [.lit (.int .u64 (tk s.b).1)]), (100002, .cells (wcells { s with b := s.b.drop (tk s.b).2.1 }))] := by
  obtain ⟨h1, h2, h3, h4, h5⟩ := tk_spec s.b hs.bytes
  have hk : ((tk s.b).2.1 : Int) ≤ s.b.length := by omega
  refine Fc.of (anys _ [16]) sch17 mixed Try.func17 rfl (by rfl) (by simp [Try.ntmps17]) (by decide) ?_
  simp -implicitDefEqProofs -dsimp [Try.ntmps17]
  refine CallK.reads ?_
  simp -implicitDefEqProofs -dsimp
  refine CallQ.same (take_fn s.nl s.b hs.bytes (by have := hs.len; omega)) rfl ?_
  simp -implicitDefEqProofs -dsimp [plain_tup, h1, wcells]

set_option maxRecDepth 100000 in
set_option maxHeartbeats 1000000 in
theorem try1_fn (s : WS) (hs : s.Ok) : Fc Try.prog 14 [.ptr 100000 0, .fn (.func 17) [] [.ptr 100001 0, .ptr 100002 0]] [(100000, .cells (wcells s)), (100001, .cells [.ptr 100000 0]), (100002, .cells [.lit (.int .u64 0)])]
    (.tup []) [(100000, .cells (wcells s.num.2)), (100001, .cells [.ptr 100000 0]), (100002, .cells [.lit (.int .u64 s.num.1)])] := by
  obtain ⟨h1, h2, h3, h4, h5, h6⟩ := tk_spec s.b hs.bytes
  refine Fc.of (anys _ [17]) [] mixed Try.func14 rfl (by rfl) (by simp [Try.ntmps14]) (by decide) ?_
  by_cases hf : s.fail = 0
  · by_cases he : (tk s.b).2.2 = 0
    · have e : s.num = ((tk s.b).1, ⟨s.nl, s.b.drop (tk s.b).2.1, 0⟩) := by simp [WS.num, hf, he]
      simp -implicitDefEqProofs -dsimp [Try.ntmps14, hf]
      refine CallK.works ?_
      simp -implicitDefEqProofs -dsimp
      refine CallQ.mk (num1_fn s hs 0) (by simp) ?_
      simp -implicitDefEqProofs -dsimp [he, hf, e, wcells]
    · have e : s.num = (0, ⟨s.nl, s.b, (tk s.b).2.2⟩) := by simp [WS.num, hf, he]
      simp -implicitDefEqProofs -dsimp [Try.ntmps14, hf]
      refine CallK.works ?_
      simp -implicitDefEqProofs -dsimp
      refine CallQ.mk (num1_fn s hs 0) (by simp) ?_
      simp -implicitDefEqProofs -dsimp [he, hf, e, wcells, (h5 he).1]
  · have e : s.num = (0, s) := by simp [WS.num, hf]
    simp -implicitDefEqProofs -dsimp [Try.ntmps14, hf, e]

set_option maxRecDepth 100000 in
set_option maxHeartbeats 1000000 in
theorem wnum_fn (s : WS) (hs : s.Ok) : Fc Try.prog 10 [.ptr 100000 0] [(100000, .cells (wcells s))] (.lit (.int .u64 s.num.1)) [(100000, .cells (wcells s.num.2))] := by
  refine Fc.of (anys _ [14]) [] mixed Try.func10 rfl (by rfl) (by simp [Try.ntmps10]) (by decide) ?_
  simp -implicitDefEqProofs -dsimp [Try.ntmps10]
  refine CallK.works ?_
  simp -implicitDefEqProofs -dsimp
  refine CallQ.mk (try1_fn s hs) (by simp) ?_
  simp -implicitDefEqProofs -dsimp

set_option maxRecDepth 100000 in
set_option maxHeartbeats 1000000 in
theorem text1_fn (s : WS) (hs : s.Ok) (hf : s.fail = 0) (limit : Int) (hl : -9223372036854775808 ≤ limit) (hl2 : limit < 9223372036854775808) :
    Fc Try.prog 15 [.ptr 100000 0, .ptr 100001 0, .ptr 100002 0] [(100000, .cells [.ptr 100003 0]), (100001, .cells [.lit (.int .i64 limit)]), (100002, .cells [.sl .imm true 0 []]), (100003, .cells (wcells s))]
    (.lit (.int .i64 (s.text limit).2.fail)) [(100000, .cells [.ptr 100003 0]), (100001, .cells [.lit (.int .i64 limit)]), (100002, .cells [.sl .imm (s.text limit).1.1 1 (u8s (s.text limit).1.2)]), (100003, .cells (wcells { (s.text limit).2 with fail := 0 }))] := by
  obtain ⟨h1, h2, h3, h4, h5, h6⟩ := tk_spec s.b hs.bytes
  have hlen := hs.len
  have q := Fc.of (P := Try.prog) (args := [.ptr 100000 0, .ptr 100001 0, .ptr 100002 0]) (h := [(100000, .cells [.ptr 100003 0]), (100001, .cells [.lit (.int .i64 limit)]), (100002, .cells [.sl .imm true 0 []]), (100003, .cells (wcells s))])
    (X := .lit (.int .i64 (s.text limit).2.fail)) (H := [(100000, .cells [.ptr 100003 0]), (100001, .cells [.lit (.int .i64 limit)]), (100002, .cells [.sl (.own (.cell 100002 0)) (s.text limit).1.1 1 (u8s (s.text limit).1.2)]), (100003, .cells (wcells { (s.text limit).2 with fail := 0 }))])
    (anys _ [16, 13]) sch15 mixed Try.func15 rfl (by rfl) (by simp [Try.ntmps15]) (by decide) ?_
  · have := q.fz [.cell 100002 0]
    simpa [fzOf] using this
  · simp -implicitDefEqProofs -dsimp [Try.ntmps15]
    refine CallK.reads ?_
    simp -implicitDefEqProofs -dsimp
    refine CallQ.same (take_fn s.nl s.b hs.bytes (by omega)) rfl ?_
    simp -implicitDefEqProofs -dsimp [plain_tup]
    by_cases he : (tk s.b).2.2 = 0
    · have hnl : s.nl = false := by
        cases hn : s.nl with
        | false => rfl
        | true =>
          have h7 := h6 he
          have h8 : s.b.length = 0 := by rw [hs.nil hn]; rfl
          omega
      have hlm : IntKind.u64.wrap (max 0 limit) = max 0 limit := by rw [wrap_is_u64]; omega
      by_cases hlim : max 0 limit < ((tk s.b).1 : Int)
      · have e : s.text limit = ((true, []), ⟨s.nl, s.b, 4⟩) := by simp [WS.text, hf, he, hlim]
        simp -implicitDefEqProofs -dsimp [he, e, litL, max_i64, hlm, hlim, wcells, hf]
      · have hlim' : ¬ max 0 limit < ((tk s.b).1 : Int) := hlim
        have hw1 : IntKind.i64.wrap ((s.b.length : Int) - ((tk s.b).2.1 : Int)) = (s.b.length : Int) - ((tk s.b).2.1 : Int) := wrap64 (by omega) (by omega)
        have hw2 : IntKind.u64.wrap ((s.b.length : Int) - ((tk s.b).2.1 : Int)) = (s.b.length : Int) - ((tk s.b).2.1 : Int) := by rw [wrap_is_u64]; omega
        by_cases hsh : (s.b.length : Int) - ((tk s.b).2.1 : Int) < ((tk s.b).1 : Int)
        · have e : s.text limit = ((true, []), ⟨s.nl, s.b, 2⟩) := by simp only [WS.text, hf, he, ne_eq, not_true, if_false, if_neg hlim, if_pos hsh]
          simp -implicitDefEqProofs -dsimp [he, e, litL, max_i64, hlm, hlim, wcells, hf, hw1, hw2, hsh]
        · have e : s.text limit = ((false, (s.b.drop (tk s.b).2.1).take (tk s.b).1), ⟨s.nl, s.b.drop ((tk s.b).2.1 + (tk s.b).1), 0⟩) := by simp only [WS.text, hf, he, ne_eq, not_true, if_false, if_neg hlim, if_neg hsh]
          have hw3 : IntKind.i64.wrap ((tk s.b).1 : Int) = ((tk s.b).1 : Int) := wrap64 (by omega) (by omega)
          have hw4 : IntKind.i64.wrap (((tk s.b).2.1 : Int) + ((tk s.b).1 : Int)) = (((tk s.b).2.1 + (tk s.b).1 : Nat) : Int) := by rw [wrap64 (by omega) (by omega)]; omega
          generalize tk s.b = T at *
          obtain ⟨n, k, ee⟩ := T
          simp only at *
          have c1 : (k : Int) ≤ (k : Int) + (n : Int) := by omega
          have c2 : (k : Int) + (n : Int) ≤ s.b.length := by omega
          have c3 : ((k : Int) + (n : Int)).toNat = k + n := by omega
          have c4 : (s.b.take (k + n)).drop k = (s.b.drop k).take n := by rw [List.drop_take]; congr 1; omega
          have c5 : ((s.b.drop k).take n).length ≤ 140737488355328 := by simp; omega
          have c6 : (0 : Int) ≤ (k : Int) + (n : Int) := by omega
          simp -implicitDefEqProofs -dsimp [he, e, litL, max_i64, hlm, hlim, wcells, hf, hw1, hw2, hw3, hw4, hsh, c1, c2, c3, c4, c6]
          refine CallK.fresh ?_
          simp -implicitDefEqProofs -dsimp
          refine CallQ.same (clone_fn s.nl ((s.b.drop k).take n) (by rw [hnl]; simp) c5) rfl ?_
          simp -implicitDefEqProofs -dsimp [fr_u8s, c1, c2, c3, c4, c6, hnl, e, wcells]
    · have e : s.text limit = ((true, []), ⟨s.nl, s.b, (tk s.b).2.2⟩) := by simp [WS.text, hf, he]
      simp -implicitDefEqProofs -dsimp [he, e, wcells, hf]

set_option maxRecDepth 100000 in
set_option maxHeartbeats 1000000 in
theorem try2_fn (s : WS) (hs : s.Ok) (limit : Int) (hl : -9223372036854775808 ≤ limit) (hl2 : limit < 9223372036854775808) :
    Fc Try.prog 14 [.ptr 100000 0, .fn (.func 15) [] [.ptr 100001 0, .ptr 100002 0, .ptr 100003 0]] [(100000, .cells (wcells s)), (100001, .cells [.ptr 100000 0]), (100002, .cells [.lit (.int .i64 limit)]), (100003, .cells [.sl .imm true 0 []])]
    (.tup []) [(100000, .cells (wcells (s.text limit).2)), (100001, .cells [.ptr 100000 0]), (100002, .cells [.lit (.int .i64 limit)]), (100003, .cells [.sl .imm (s.text limit).1.1 1 (u8s (s.text limit).1.2)])] := by
  refine Fc.of (anys _ [15]) [] mixed Try.func14 rfl (by rfl) (by simp [Try.ntmps14]) (by decide) ?_
  by_cases hf : s.fail = 0
  · have hT := text1_fn s hs hf limit hl hl2
    simp -implicitDefEqProofs -dsimp [Try.ntmps14, hf]
    refine CallK.works ?_
    simp -implicitDefEqProofs -dsimp
    refine CallQ.mk hT (by simp) ?_
    by_cases he : (s.text limit).2.fail = 0
    · simp -implicitDefEqProofs -dsimp [he, hf, wcells]
    · have e : (s.text limit).2.b = s.b ∧ (s.text limit).2.nl = s.nl := by
        unfold WS.text at he ⊢
        split
        · exact ⟨rfl, rfl⟩
        · split
          · exact ⟨rfl, rfl⟩
          · split
            · exact ⟨rfl, rfl⟩
            · split
              · exact ⟨rfl, rfl⟩
              · simp_all
      simp -implicitDefEqProofs -dsimp [he, hf, e.1, e.2, wcells]
  · have e : s.text limit = ((true, []), s) := by simp [WS.text, hf]
    simp -implicitDefEqProofs -dsimp [Try.ntmps14, hf, e]

set_option maxRecDepth 100000 in
set_option maxHeartbeats 1000000 in
theorem wtext_fn (s : WS) (hs : s.Ok) (limit : Int) (hl : -9223372036854775808 ≤ limit) (hl2 : limit < 9223372036854775808) :
    Fc Try.prog 7 [.ptr 100000 0, .lit (.int .i64 limit)] [(100000, .cells (wcells s))] (.sl .imm (s.text limit).1.1 1 (u8s (s.text limit).1.2)) [(100000, .cells (wcells (s.text limit).2))] := by
  refine Fc.of (anys _ [14]) [] mixed Try.func7 rfl (by rfl) (by simp [Try.ntmps7]) (by decide) ?_
  simp -implicitDefEqProofs -dsimp [Try.ntmps7]
  refine CallK.works ?_
  simp -implicitDefEqProofs -dsimp
  refine CallQ.mk (try2_fn s hs limit hl hl2) (by simp) ?_
  simp -implicitDefEqProofs -dsimp
end Go.Proofs.Ytdbdoilfimiihaa

/-! The wire's statement WireOwn. -/
namespace Go.Sy
/-- A contract holds of arguments that say more. -/
theorem Fc.args {P : Program} {k : FuncId} {xs ys : List PV} {h : List (Nat × Ob)} {x : PV} {h1 : List (Nat × Ob)} (hf : Fc P k xs h x h1) (hw : weakL ys xs) : Fc P k ys h x h1 := by
  refine ⟨hf.ok, fun g w vs a1 a2 a3 => hf.run g w vs a1 a2 ⟨?_, fun i y u hy hu => ?_⟩⟩
  · rw [a3.1, (weakL_get hw).1]
  · obtain ⟨z, hz, hw2⟩ := (weakL_get hw).2 i y hy
    exact hw2.rep (a3.2 i z u hz hu)
/-- What a call makes of what it reads, it makes of what is lent. -/
theorem Fc.lent {P : Program} {k : FuncId} {al bs : List PV} {x : PV} {h1 : List (Nat × Ob)} (hf : Fc P k bs [] x h1) (hl : lendL [] al = some bs) (hr : Fr x) (hW : (wayR none x).ok = true) :
    Fc P k al [] (x.scrub (Fren (wayR none x).outT) (fun _ => none)) [] := by
  refine ⟨hf.ok, fun g w vs a1 a2 a3 => CallsIn.mono (CallT.fresh _ hW (hf.run.mono fun _ _ h => h.1) hl hr g w vs a1 a2 a3) ?_⟩
  rintro e w' ⟨v, g', rfl, b1, b2, b3, b4, b5⟩
  exact ⟨v, _, g', [], rfl, ⟨rfl, rfl⟩, b3, fun p ob hp => (by simp [getO] at hp), b4, b5⟩
end Go.Sy
namespace Go.Proofs.Ytdbdoilfimiihaa
open Go.Sy
theorem wnil_fn (n : Int) (h0 : 0 ≤ n) (h : n < 18446744073709551616) : Fc Try.prog 8 [.sl .imm true 0 [], .lit (.int .u64 n)] [] (.sl (.own (.loc 1070)) false 1 (u8s (enc n.toNat))) [] := by
  have := num_fn' true [] n (fun _ => rfl) (by simp) h0 h
  exact this.args (by simp)

theorem enc_300 : enc 300 = [172, 2] := by
  rw [enc_ge (by omega), enc_lt (by omega)]; rfl

set_option maxRecDepth 100000 in
set_option maxHeartbeats 1000000 in
theorem wawake_fn : Fc Try.prog 4 [] [] (.lit (.bool true)) [] := by
  have e1 : WS.num ⟨false, [128, 0], 0⟩ = (0, ⟨false, [128, 0], 3⟩) := rfl
  have e2 : WS.num ⟨false, [172, 2], 0⟩ = (300, ⟨false, [], 0⟩) := rfl
  have o1 : WS.Ok ⟨false, [128, 0], 0⟩ := ⟨by simp, by simp, by simp⟩
  have o2 : WS.Ok ⟨false, [172, 2], 0⟩ := ⟨by simp, by simp, by simp⟩
  refine Fc.of (anys _ [6, 10, 8, 9, 11, 12]) [] mixed Try.func4 rfl (by rfl) (by simp) (by decide) ?_
  simp -implicitDefEqProofs -dsimp [Try.ntmps4]
  refine CallK.works ?_
  simp -implicitDefEqProofs -dsimp
  refine CallQ.mk (open_fn false [128, 0] (by simp) (by simp)) (by simp) ?_
  simp -implicitDefEqProofs -dsimp [e1, e2]
  refine CallK.works ?_
  simp -implicitDefEqProofs -dsimp
  refine CallQ.mk (open_fn false [172, 2] (by simp) (by simp)) (by simp) ?_
  simp -implicitDefEqProofs -dsimp [e1, e2]
  refine CallK.works ?_
  simp -implicitDefEqProofs -dsimp
  refine CallQ.same (wnum_fn _ o1) rfl ?_
  simp -implicitDefEqProofs -dsimp [e1, e1, e2]
  refine CallK.works ?_
  simp -implicitDefEqProofs -dsimp
  refine CallQ.same (wnum_fn _ o2) rfl ?_
  simp -implicitDefEqProofs -dsimp [e2, e1, e2]
  refine CallK.fresh ?_
  simp -implicitDefEqProofs -dsimp
  refine CallQ.same (wnil_fn 300 (by omega) (by omega)) rfl ?_
  simp -implicitDefEqProofs -dsimp [fr_u8s, enc_300, e1, e2]
  refine CallK.reads ?_
  simp -implicitDefEqProofs -dsimp
  refine CallQ.same (same_fn _ _ [172, 2] [172, 2] (by simp)) rfl ?_
  simp -implicitDefEqProofs -dsimp [e1, e2]
  refine CallK.reads ?_
  simp -implicitDefEqProofs -dsimp
  refine CallQ.same (fail_fn _) rfl ?_
  simp -implicitDefEqProofs -dsimp [e1, e2]
  refine CallK.reads ?_
  simp -implicitDefEqProofs -dsimp
  refine CallQ.same (end_fn _) rfl ?_
  simp -implicitDefEqProofs -dsimp [WS.fin, e1, e2]
theorem inB_enc (n : Nat) : InB (enc n) := by
  induction n using Nat.strongRecOn with
  | _ n ih =>
    by_cases h : n < 128
    · rw [enc_lt h]; simp; omega
    · rw [enc_ge (by omega), inB_cons]
      exact ⟨by omega, ih _ (by omega)⟩
theorem lead_enc : ∀ (m n : Nat) (c : List Int), (enc n).length ≤ m → lead m (enc n ++ c) + 1 = (enc n).length
  | 0, n, c, h => absurd (enc_ne n) (by simp at h; simp [h])
  | m + 1, n, c, h => by
    by_cases hn : n < 128
    · rw [enc_lt hn, List.cons_append, lead, if_neg (by omega)]; rfl
    · rw [enc_ge (by omega)] at h ⊢
      rw [List.cons_append, lead, if_pos (by omega), lead_enc m (n / 128) c (by simp at h; omega)]; rfl
theorem tk_enc (n : Nat) (h : n < 18446744073709551616) (c : List Int) (hc : InB c) : tk (enc n ++ c) = (n, (enc n).length, 0) := by
  have hl := enc_u64 h
  have e := lead_enc 10 n c hl
  obtain ⟨h1, h2, h3, h4⟩ := lead_spec 10 (enc n ++ c)
  have hb : InB (enc n ++ c) := by rw [inB_append]; exact ⟨inB_enc n, hc⟩
  have hk : lead 10 (enc n ++ c) < (enc n ++ c).length := by simp only [List.length_append]; omega
  have ht : (enc n ++ c).take (lead 10 (enc n ++ c) + 1) = enc n := by rw [e]; simp
  have hf := (form_iff (fun x hx => hb x hx) hk (by omega) (fun i h hi => h3 i h hi) (h4 (by omega) hk)).1 (by rw [ht, val_enc, Nat.mod_eq_of_lt h])
  have hg : (enc n ++ c).getD (lead 10 (enc n ++ c)) 0 = (enc n ++ c)[lead 10 (enc n ++ c)] := by
    rw [List.getD_eq_getElem?_getD, List.getElem?_eq_getElem hk]; rfl
  unfold tk
  rw [hg, if_neg (by omega), if_neg (by omega), if_neg hf, ht, e, val_enc]
theorem tnil_fn (n2 : Bool) (x : List Int) (hx : x.length ≤ 10000000) :
    Fc Try.prog 5 [.sl .imm true 0 [], .sl .imm n2 1 (u8s x)] [] (.sl (.own (.loc 1090)) false 1 (u8s (enc x.length ++ x))) [] := by
  have := text_fn true n2 [] x (fun _ => rfl) (by simp) hx
  exact this.args (by simp)

theorem text_whole (nl : Bool) (x : List Int) (hx : x.length ≤ 200) (hb : InB x) : WS.text ⟨nl, enc x.length ++ x, 0⟩ 200 = ((false, x), ⟨nl, [], 0⟩) := by
  have ht := tk_enc x.length (by omega) x hb
  have h1 : ¬ max 0 (200 : Int) < (x.length : Int) := by omega
  have h2 : ¬ ((enc x.length ++ x).length : Int) - (enc x.length).length < (x.length : Int) := by simp; omega
  simp only [WS.text, ht, ne_eq, not_true, if_false, if_neg h1, if_neg h2]
  simp
theorem enc_5 : enc 5 = [5] := by rw [enc_lt (by omega)]; rfl
theorem enc_6 : enc 6 = [6] := by rw [enc_lt (by omega)]; rfl

theorem cloneR_fn (nl : Bool) (xs : List Int) (hn : nl = true → xs = []) (hl : xs.length ≤ 140737488355328) : Fc Try.prog 13 [.sl .rd nl 1 (u8s xs)] [] (.sl .imm nl 1 (u8s xs)) [] := by
  have h := (clone_fn nl xs hn hl).lent (al := [.sl .rd nl 1 (u8s xs)]) rfl (fr_u8s _ _ _) (by rfl)
  have := h.fz [.loc 1000]
  simpa using this
set_option maxRecDepth 100000 in
theorem openR_fn (nl : Bool) (b : List Int) (hn : nl = true → b = []) (hb : b.length ≤ 1000000) : Fc Try.prog 6 [.sl .rd nl 1 (u8s b)] [] (.ptr 6 0) [(6, .cells (wcells ⟨nl, b, 0⟩))] := by
  refine Fc.of (anys _ [13]) [] mixed Try.func6 rfl (by rfl) (by simp [Try.ntmps6]) (by decide) ?_
  simp -implicitDefEqProofs -dsimp [Try.ntmps6]
  refine CallK.works ?_
  simp -implicitDefEqProofs -dsimp
  refine CallQ.mk (cloneR_fn nl b hn (by omega)) (by simp) ?_
  simp -implicitDefEqProofs -dsimp [wcells]
@[simp] theorem ws_clean (s : WS) : (∀ x, x ∈ wcells s → Go.Sy.Clean x) = True := eq_true fun x hx => by
  simp only [wcells, List.mem_cons, List.not_mem_nil, or_false] at hx
  rcases hx with rfl | rfl <;> simp

set_option maxRecDepth 100000 in
set_option maxHeartbeats 16000000 in
theorem own_fn (nl : Bool) (x : List Int) (pos v : Int) (hn : nl = true → x = []) (hb : InB x) (hp : 0 ≤ pos) (hp2 : pos < 65536) (hv : 0 ≤ v) (hv2 : v < 256) :
    Fc Try.prog 3 [.sl .imm nl 1 (u8s x), .lit (.int .u16 pos), .lit (.int .u8 v)] [] (.lit (.bool true)) [] := by
  refine Fc.of (anys _ [4, 5, 6, 7, 8, 9]) [] mixed Try.func3 rfl (by rfl) (by simp [Try.ntmps3]) (by decide) ?_
  simp -implicitDefEqProofs -dsimp [Try.ntmps3]
  refine CallK.reads ?_
  simp -implicitDefEqProofs -dsimp
  refine CallQ.same (wawake_fn) rfl ?_
  simp -implicitDefEqProofs -dsimp
  by_cases c0 : x = []
  · subst c0
    simp -implicitDefEqProofs -dsimp
  · have hx0 : 0 < x.length := List.length_pos_iff.2 c0
    have c1 : ¬ (x.length : Int) = 0 := by omega
    by_cases c2 : 200 < (x.length : Int)
    · simp -implicitDefEqProofs -dsimp [c0, c1, c2]
    · have hw1 : IntKind.i64.wrap pos = pos := wrap64 (by omega) (by omega)
      have he := enc_u64 (n := x.length) (by omega)
      have hE := List.length_pos_iff.2 (enc_ne x.length)
      obtain ⟨K, hK⟩ : ∃ K : Nat, pos.tmod x.length = (K : Int) := ⟨(pos.tmod x.length).toNat, by have := Int.tmod_nonneg (x.length : Int) hp; omega⟩
      have hKl : K < x.length := by have := Int.tmod_lt_of_pos pos (b := (x.length : Int)) (by omega); omega
      have l1 : (enc x.length).length + x.length ≤ 140737488355328 := by omega
      have ho : WS.Ok ⟨false, enc x.length ++ x, 0⟩ := ⟨by simp, by rw [inB_append]; exact ⟨inB_enc _, hb⟩, by simp; omega⟩
      have e1 := text_whole false x (by omega) hb
      have hT := wtext_fn _ ho 200 (by omega) (by omega)
      rw [e1] at hT
      obtain ⟨B, hB⟩ : ∃ B, B = enc x.length ++ x := ⟨_, rfl⟩
      have hBl : B.length = (enc x.length).length + x.length := by rw [hB, List.length_append]
      obtain ⟨M, hM⟩ : ∃ M, M = B.length - x.length := ⟨_, rfl⟩
      obtain ⟨T, hTe⟩ : ∃ T, T = M + K := ⟨_, rfl⟩
      have w1 : IntKind.i64.wrap ((B.length : Int) - x.length) = (M : Int) := by rw [wrap64 (by omega) (by omega)]; omega
      have w2 : IntKind.i64.wrap ((M : Int) + (K : Int)) = (T : Int) := by rw [wrap64 (by omega) (by omega)]; omega
      have hBK : T < B.length := by omega
      have hpk := pokeL_ints (κ := .u8) (v := v) hBK
      have i1 : isByte (.lit (.int .u8 v)) = true := by simp [isByte, hv]; omega
      have l2 : x.length ≤ 140737488355328 := by omega
      have hN5 := num_fn' false x 5 (by simp) (by omega) (by omega) (by omega)
      have hN6 := num_fn' false x 6 (by simp) (by omega) (by omega) (by omega)
      have e5 : enc (Int.toNat 5) = [5] := enc_5
      have e6 : enc (Int.toNat 6) = [6] := enc_6
      rw [e5] at hN5
      rw [e6] at hN6
      have hS := same_fn false nl x x (by omega)
      have w3 : IntKind.i64.wrap ((x.length : Int) + 1) = (x.length : Int) + 1 := wrap64 (by omega) (by omega)
      have hO := openR_fn false B (by simp) (by omega)
      rw [← hB] at hT
      simp -implicitDefEqProofs -dsimp [c0, c1, c2, hw1, hK]
      refine CallK.fresh ?_
      simp -implicitDefEqProofs -dsimp
      refine CallQ.same (tnil_fn nl x (by omega)) rfl ?_
      simp -implicitDefEqProofs -dsimp [fr_u8s, l1, l2, w1, w2, w3, hKl, hBK, hpk]
      rw [← hB]
      refine CallK.lends [.loc 33] ?_
      simp -implicitDefEqProofs -dsimp
      refine CallQ.mk (hO) (by simp) ?_
      simp -implicitDefEqProofs -dsimp [l1, l2, w1, w2, w3, hKl, hBK, hpk]
      refine CallK.works ?_
      simp -implicitDefEqProofs -dsimp
      refine CallQ.mk (hT) (by simp) ?_
      simp -implicitDefEqProofs -dsimp [l1, l2, w1, w2, w3, hKl, hBK, hpk]
      refine CallK.fresh ?_
      simp -implicitDefEqProofs -dsimp
      refine CallQ.same (hN5) rfl ?_
      simp -implicitDefEqProofs -dsimp [fr_u8s, l1, l2, w1, w2, w3, hKl, hBK, hpk]
      refine CallK.fresh ?_
      simp -implicitDefEqProofs -dsimp
      refine CallQ.same (hN6) rfl ?_
      simp -implicitDefEqProofs -dsimp [fr_u8s, l1, l2, w1, w2, w3, hKl, hBK, hpk]
      refine CallK.reads ?_
      simp -implicitDefEqProofs -dsimp
      refine CallQ.same (hS) rfl ?_
      simp -implicitDefEqProofs -dsimp [l1, l2, w1, w2, w3, hKl, hBK, hpk]
theorem own_law (xs : List PV) (h : ShpAll Try.prog 6 Try.f3.params.toList xs) : Fc Try.prog 3 xs [] (.lit (.bool true)) [] := by
  obtain ⟨x, y, z, rfl, hx, hy, hz⟩ := shp_args3 h
  obtain ⟨nl, b, rfl, k1, k2, k3⟩ := arg_ints (k := .u8) Try.underlying22 Try.underlying5 (by kernel_rfl) hx
  obtain ⟨p, rfl, hp⟩ := arg_int (k := .u16) Try.underlying23 hy
  obtain ⟨v, rfl, hv⟩ := arg_int (k := .u8) Try.underlying5 hz
  obtain ⟨p0, p1⟩ := wf_u16 hp
  obtain ⟨v0, v1⟩ := wf_u8 hv
  exact own_fn nl b p v k1 (fun n hn => wf_u8 (k3 n hn)) p0 p1 v0 v1
end Go.Proofs.Ytdbdoilfimiihaa
