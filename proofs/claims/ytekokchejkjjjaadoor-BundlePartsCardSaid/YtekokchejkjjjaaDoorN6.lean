/- Numbers as bytes: plain lemmas. (and what stands on it) -/
import Derived.Test.YtekokchejkjjjaaDoorN4
import Derived.Test.YtekokchejkjjjaaDoorN5
set_option linter.unusedSimpArgs false
set_option linter.unusedVariables false

/-! Numbers as bytes: plain lemmas. -/
namespace Go.Sy

/-- A number's bytes. -/
def enc (n : Nat) : List Int := if h : n < 128 then [(n : Int)] else ((n % 128 + 128 : Nat) : Int) :: enc (n / 128)
termination_by n
decreasing_by omega

theorem enc_lt {n : Nat} (h : n < 128) : enc n = [(n : Int)] := by rw [enc, dif_pos h]
theorem enc_ge {n : Nat} (h : 128 ≤ n) : enc n = ((n % 128 + 128 : Nat) : Int) :: enc (n / 128) := by rw [enc, dif_neg (by omega)]

/-- What some bytes tell. -/
def val : List Int → Nat
  | [] => 0
  | x :: xs => (x % 128).toNat + 128 * val xs

theorem val_lt (l : List Int) : val l < 128 ^ l.length := by
  induction l with
  | nil => simp [val]
  | cons x xs ih =>
    simp only [val, List.length_cons, Nat.pow_succ]
    have : (x % 128).toNat < 128 := by omega
    omega
theorem val_snoc (l : List Int) (x : Int) : val (l ++ [x]) = val l + (x % 128).toNat * 128 ^ l.length := by
  induction l with
  | nil => simp [val]
  | cons y ys ih =>
    simp only [List.cons_append, val, ih, List.length_cons, Nat.pow_succ, Nat.mul_add]
    have : 128 * ((x % 128).toNat * 128 ^ ys.length) = (x % 128).toNat * (128 ^ ys.length * 128) := by
      rw [Nat.mul_comm (128 ^ ys.length) 128, ← Nat.mul_assoc, ← Nat.mul_assoc, Nat.mul_comm 128]
    omega

theorem val_enc (n : Nat) : val (enc n) = n := by
  induction n using Nat.strongRecOn with
  | _ n ih =>
    by_cases h : n < 128
    · rw [enc_lt h]; simp [val]; omega
    · rw [enc_ge (by omega), val, ih (n / 128) (by omega)]
      omega

/-- Bytes of which each but the last one goes on. -/
def goesOn : List Int → Bool
  | [] => false
  | [x] => decide (0 ≤ x ∧ x < 128)
  | x :: xs => decide (128 ≤ x ∧ x < 256) && goesOn xs
theorem goesOn_one (x : Int) : goesOn [x] = decide (0 ≤ x ∧ x < 128) := rfl
theorem goesOn_cons (x : Int) {xs : List Int} (h : xs ≠ []) : goesOn (x :: xs) = (decide (128 ≤ x ∧ x < 256) && goesOn xs) := by
  cases xs with
  | nil => exact absurd rfl h
  | cons y ys => rfl
theorem enc_ne (n : Nat) : enc n ≠ [] := by
  by_cases h : n < 128
  · rw [enc_lt h]; simp
  · rw [enc_ge (by omega)]; simp
theorem goesOn_enc (n : Nat) : goesOn (enc n) = true := by
  induction n using Nat.strongRecOn with
  | _ n ih =>
    by_cases h : n < 128
    · rw [enc_lt h, goesOn_one]; simp; omega
    · rw [enc_ge (by omega), goesOn_cons _ (enc_ne _), ih (n / 128) (by omega)]
      simp; omega

/-- The one form of a number. -/
theorem enc_val : ∀ {l : List Int}, goesOn l = true → (l.length = 1 ∨ l.getLast? ≠ some 0) → enc (val l) = l
  | [], h, _ => by cases h
  | [x], h, _ => by
    rw [goesOn_one, decide_eq_true_eq] at h
    simp only [val]
    rw [enc_lt (by omega)]
    simp; omega
  | x :: y :: ys, h, hl => by
    rw [goesOn_cons _ (by simp), Bool.and_eq_true, decide_eq_true_eq] at h
    obtain ⟨h1, h2⟩ := h
    have hl' : (y :: ys).getLast? ≠ some 0 := by
      rcases hl with hl | hl
      · simp at hl
      · simpa [List.getLast?_cons_cons] using hl
    have ih := enc_val h2 (.inr hl')
    have hpos : 0 < val (y :: ys) := by
      rcases Nat.eq_zero_or_pos (val (y :: ys)) with h0 | h0
      · rw [h0, enc_lt (by omega)] at ih
        rw [← ih] at hl'
        simp at hl'
      · exact h0
    have e : val (x :: y :: ys) = (x % 128).toNat + 128 * val (y :: ys) := rfl
    rw [e, enc_ge (by omega), show ((x % 128).toNat + 128 * val (y :: ys)) / 128 = val (y :: ys) by omega, ih]
    congr 1
    omega
theorem last_enc {n : Nat} : (enc n).length = 1 ∨ (enc n).getLast? ≠ some 0 := by
  induction n using Nat.strongRecOn with
  | _ n ih =>
    by_cases h : n < 128
    · rw [enc_lt h]; exact .inl rfl
    · right
      rw [enc_ge (by omega)]
      cases he : enc (n / 128) with
      | nil => exact absurd he (enc_ne _)
      | cons y ys =>
        rw [List.getLast?_cons_cons, ← he]
        rcases ih (n / 128) (by omega) with h1 | h1
        · have : n / 128 < 128 := by
            rcases Nat.lt_or_ge (n / 128) 128 with h2 | h2
            · exact h2
            · rw [enc_ge h2] at h1
              simp only [List.length_cons] at h1
              exact absurd (List.eq_nil_of_length_eq_zero (Nat.succ.inj h1)) (enc_ne _)
          rw [enc_lt this]
          simp; omega
        · exact h1
theorem enc_length {n k : Nat} (h : n < 128 ^ (k + 1)) : (enc n).length ≤ k + 1 := by
  induction k generalizing n with
  | zero => rw [enc_lt (by omega)]; simp
  | succ k ih =>
    by_cases h1 : n < 128
    · rw [enc_lt h1]; simp
    · rw [enc_ge (by omega)]
      have := ih (n := n / 128) (by rw [Nat.pow_succ] at h; omega)
      simp only [List.length_cons]; omega
theorem enc_u64 {n : Nat} (h : n < 18446744073709551616) : (enc n).length ≤ 10 := enc_length (k := 9) (by omega)


/-- How many of the first ones go on. -/
def lead : Nat → List Int → Nat
  | 0, _ => 0
  | _, [] => 0
  | n + 1, x :: xs => if 128 ≤ x then lead n xs + 1 else 0

theorem lead_spec : ∀ (n : Nat) (b : List Int), lead n b ≤ n ∧ lead n b ≤ b.length ∧ (∀ (i : Nat) (h : i < b.length), i < lead n b → 128 ≤ b[i]) ∧ (lead n b < n → ∀ (h : lead n b < b.length), b[lead n b] < 128)
  | 0, b => by simp [lead]
  | n + 1, [] => by simp [lead]
  | n + 1, x :: xs => by
    obtain ⟨h1, h2, h3, h4⟩ := lead_spec n xs
    by_cases hx : 128 ≤ x
    · have e : lead (n + 1) (x :: xs) = lead n xs + 1 := by rw [lead, if_pos hx]
      refine ⟨by omega, by simp; omega, fun i h hi => ?_, fun h5 h => ?_⟩
      · cases i with
        | zero => exact hx
        | succ i => exact h3 i (by simpa using h) (by omega)
      · simp only [e, List.getElem_cons_succ]
        exact h4 (by omega) (by simp only [e, List.length_cons] at h; omega)
    · have e : lead (n + 1) (x :: xs) = 0 := by rw [lead, if_neg hx]
      refine ⟨by omega, by omega, fun i h hi => by omega, fun h5 h => ?_⟩
      simp only [e, List.getElem_cons_zero]; omega
/-- .. and no other number is. -/
theorem lead_eq {n : Nat} {b : List Int} {k : Nat} (h1 : k ≤ n) (h2 : k ≤ b.length) (h3 : ∀ (i : Nat) (h : i < b.length), i < k → 128 ≤ b[i]) (h4 : k < n → ∀ (h : k < b.length), b[k] < 128) : lead n b = k := by
  obtain ⟨a1, a2, a3, a4⟩ := lead_spec n b
  rcases Nat.lt_trichotomy (lead n b) k with h | h | h
  · have := h3 (lead n b) (by omega) h
    have := a4 (by omega) (by omega)
    omega
  · exact h
  · have := a3 k (by omega) h
    have := h4 (by omega) (by omega)
    omega

/-- The number that bytes begin with, how many it has, and why there is none. -/
def tk (b : List Int) : Nat × Nat × Int :=
  if lead 10 b = 10 then (0, 0, 3)
  else if lead 10 b = b.length then (0, 0, 2)
  else if (0 < lead 10 b ∧ b.getD (lead 10 b) 0 = 0) ∨ (lead 10 b = 9 ∧ 1 < b.getD (lead 10 b) 0) then (0, 0, 3)
  else (val (b.take (lead 10 b + 1)), lead 10 b + 1, 0)

theorem take_goesOn : ∀ (b : List Int) (k : Nat), k < b.length → (∀ x, x ∈ b → 0 ≤ x ∧ x < 256) → (∀ (i : Nat) (h : i < b.length), i < k → 128 ≤ b[i]) → (∀ (h : k < b.length), b[k] < 128) → goesOn (b.take (k + 1)) = true
  | [], k, h, _, _, _ => by simp at h
  | x :: xs, 0, _, hb, _, h4 => by
    have := hb x (by simp)
    have := h4 (by simp)
    simp only [List.getElem_cons_zero] at this
    simp [goesOn]; omega
  | x :: xs, k + 1, h, hb, h3, h4 => by
    have h' : k < xs.length := by simpa using h
    have := take_goesOn xs k h' (fun y hy => hb y (by simp [hy])) (fun i hi hik => h3 (i + 1) (by simpa using hi) (by omega)) (fun hk => by have := h4 (by simpa using hk); simpa using this)
    have h0 := h3 0 (by simp) (by omega)
    have h1 := hb x (by simp)
    simp only [List.getElem_cons_zero] at h0
    rw [List.take_succ_cons, goesOn_cons _ (by
      intro e
      rcases List.take_eq_nil_iff.1 e with e | e
      · omega
      · rw [e] at h'; simp at h'), this]
    simp; omega

/-- Of which bytes a number is the one form. -/
theorem form_iff {b : List Int} (hb : ∀ x, x ∈ b → 0 ≤ x ∧ x < 256) {k : Nat} (hk : k < b.length) (hk9 : k ≤ 9) (h3 : ∀ (i : Nat) (h : i < b.length), i < k → 128 ≤ b[i]) (h4 : b[k] < 128) :
    enc (val (b.take (k + 1)) % 18446744073709551616) = b.take (k + 1) ↔ ¬ ((0 < k ∧ b[k] = 0) ∨ (k = 9 ∧ 1 < b[k])) := by
  have hg := take_goesOn b k hk hb h3 fun _ => h4
  have hlen : (b.take (k + 1)).length = k + 1 := by simp; omega
  have hlast : (b.take (k + 1)).getLast? = some b[k] := by
    rw [List.getLast?_eq_getElem?, hlen, List.getElem?_take_of_lt (by omega)]
    exact List.getElem?_eq_getElem hk
  have hsn : b.take (k + 1) = b.take k ++ [b[k]] := List.take_succ_eq_append_getElem hk
  have h0 := (hb b[k] (List.getElem_mem hk)).1
  constructor
  · intro he hc
    rcases hc with ⟨hc1, hc2⟩ | ⟨rfl, hc2⟩
    · have := last_enc (n := val (b.take (k + 1)) % 18446744073709551616)
      rw [he, hlen, hlast] at this
      rcases this with h | h
      · omega
      · exact h (by rw [hc2])
    · have h1 := val_enc (val (b.take (9 + 1)) % 18446744073709551616)
      rw [he, hsn, val_snoc] at h1
      have h2 : (b.take 9).length = 9 := by simp; omega
      rw [h2] at h1
      have h5 : (b[9] % 128).toNat = b[9].toNat := by omega
      rw [h5] at h1
      have h6 : 2 ≤ b[9].toNat := by omega
      have h7 : 2 * 128 ^ 9 ≤ b[9].toNat * 128 ^ 9 := Nat.mul_le_mul_right _ h6
      omega
  · intro hc
    have hlt : val (b.take (k + 1)) < 18446744073709551616 := by
      rcases Nat.lt_or_ge k 9 with h | h
      · have h1 := val_lt (b.take (k + 1))
        rw [hlen] at h1
        have h2 : 128 ^ (k + 1) ≤ 128 ^ 9 := Nat.pow_le_pow_right (by omega) (by omega)
        omega
      · have hk9' : k = 9 := by omega
        subst hk9'
        have h1 : ¬ 1 < b[9] := fun h => hc (.inr ⟨rfl, h⟩)
        rw [hsn, val_snoc]
        have h2 : (b.take 9).length = 9 := by simp; omega
        have h3 := val_lt (b.take 9)
        rw [h2] at h3 ⊢
        have h5 : (b[9] % 128).toNat ≤ 1 := by omega
        have h7 : (b[9] % 128).toNat * 128 ^ 9 ≤ 1 * 128 ^ 9 := Nat.mul_le_mul_right _ h5
        omega
    rw [Nat.mod_eq_of_lt hlt]
    refine enc_val hg ?_
    rw [hlen, hlast]
    by_cases hk0 : k = 0
    · left; omega
    · right
      intro e
      simp only [Option.some.injEq] at e
      exact hc (.inl ⟨by omega, e⟩)
end Go.Sy

/-! Bits of numbers. -/
namespace Go.Sy

theorem wrap_is_u8 (n : Int) : IntKind.u8.wrap n = n % 256 := by simp [IntKind.wrap, IntKind.signed, IntKind.bits]
theorem wrap_is_u16 (n : Int) : IntKind.u16.wrap n = n % 65536 := by simp [IntKind.wrap, IntKind.signed, IntKind.bits]
theorem wrap_is_u32 (n : Int) : IntKind.u32.wrap n = n % 4294967296 := by simp [IntKind.wrap, IntKind.signed, IntKind.bits]
theorem wrap_is_u64 (n : Int) : IntKind.u64.wrap n = n % 18446744073709551616 := by simp [IntKind.wrap, IntKind.signed, IntKind.bits]

theorem ofInt_toNat {w : Nat} {n : Int} (h0 : 0 ≤ n) (h : n < 2 ^ w) : (BitVec.ofInt w n).toNat = n.toNat := by
  rw [BitVec.toNat_ofInt]
  congr 1
  rw [Int.emod_eq_of_lt h0]
  exact_mod_cast h

theorem iand_nat {k : IntKind} (hk : k.signed = false) {a b : Int} (ha : 0 ≤ a) (ha2 : a < 2 ^ k.bits) (hb : 0 ≤ b) (hb2 : b < 2 ^ k.bits) : iand k a b = ((a.toNat &&& b.toNat : Nat) : Int) := by
  have h : (BitVec.ofInt k.bits a &&& BitVec.ofInt k.bits b).toNat = a.toNat &&& b.toNat := by rw [BitVec.toNat_and, ofInt_toNat ha ha2, ofInt_toNat hb hb2]
  unfold iand
  rw [h]
  have h2 : a.toNat &&& b.toNat < 2 ^ k.bits := by rw [← h]; exact BitVec.isLt _
  simp only [IntKind.wrap, hk, Bool.false_and, Bool.false_eq_true, if_false]
  exact Int.emod_eq_of_lt (by omega) (by exact_mod_cast h2)
theorem ior_nat {k : IntKind} (hk : k.signed = false) {a b : Int} (ha : 0 ≤ a) (ha2 : a < 2 ^ k.bits) (hb : 0 ≤ b) (hb2 : b < 2 ^ k.bits) : ior k a b = ((a.toNat ||| b.toNat : Nat) : Int) := by
  have h : (BitVec.ofInt k.bits a ||| BitVec.ofInt k.bits b).toNat = a.toNat ||| b.toNat := by rw [BitVec.toNat_or, ofInt_toNat ha ha2, ofInt_toNat hb hb2]
  unfold ior
  rw [h]
  have h2 : a.toNat ||| b.toNat < 2 ^ k.bits := by rw [← h]; exact BitVec.isLt _
  simp only [IntKind.wrap, hk, Bool.false_and, Bool.false_eq_true, if_false]
  exact Int.emod_eq_of_lt (by omega) (by exact_mod_cast h2)
theorem ixor_nat {k : IntKind} (hk : k.signed = false) {a b : Int} (ha : 0 ≤ a) (ha2 : a < 2 ^ k.bits) (hb : 0 ≤ b) (hb2 : b < 2 ^ k.bits) : ixor k a b = ((a.toNat ^^^ b.toNat : Nat) : Int) := by
  have h : (BitVec.ofInt k.bits a ^^^ BitVec.ofInt k.bits b).toNat = a.toNat ^^^ b.toNat := by rw [BitVec.toNat_xor, ofInt_toNat ha ha2, ofInt_toNat hb hb2]
  unfold ixor
  rw [h]
  have h2 : a.toNat ^^^ b.toNat < 2 ^ k.bits := by rw [← h]; exact BitVec.isLt _
  simp only [IntKind.wrap, hk, Bool.false_and, Bool.false_eq_true, if_false]
  exact Int.emod_eq_of_lt (by omega) (by exact_mod_cast h2)

theorem iand_127 {x : Int} (h0 : 0 ≤ x) (h : x < 256) : iand .u8 x 127 = x % 128 := by
  rw [iand_nat rfl h0 (by simpa [IntKind.bits] using h) (by omega) (by decide)]
  have := Nat.and_two_pow_sub_one_eq_mod x.toNat 7
  have e : ((127 : Int).toNat) = 2 ^ 7 - 1 := rfl
  rw [e, this]; omega
set_option maxRecDepth 100000 in
theorem ior_128 {n : Int} (h0 : 0 ≤ n) (h : n < 256) : ior .u8 n 128 = n % 128 + 128 := by
  rw [ior_nat rfl h0 (by simpa [IntKind.bits] using h) (by omega) (by decide)]
  have key : ∀ m : Fin 256, (m.val ||| 128) = m.val % 128 + 128 := by decide
  have := key ⟨n.toNat, by omega⟩
  simp only at this
  have e : ((128 : Int).toNat) = 128 := rfl
  rw [e, this]; omega
theorem ishr_7 {n : Int} : ishr .u64 n 7 = n / 128 := by
  unfold ishr
  rw [Int.fdiv_eq_ediv_of_nonneg _ (by simp [IntKind.bits])]
  rfl
/-- What stands higher up is put behind. -/
theorem ior_add {a y s : Nat} (ha : a < 2 ^ s) (h : y * 2 ^ s < 18446744073709551616) (ha2 : a < 18446744073709551616) : ior .u64 (a : Int) ((y * 2 ^ s : Nat) : Int) = ((a + y * 2 ^ s : Nat) : Int) := by
  rw [ior_nat rfl (by omega) (by simp [IntKind.bits]; omega) (by omega) (by simp only [IntKind.bits]; omega)]
  have := Nat.shiftLeft_add_eq_or_of_lt ha y
  rw [Nat.shiftLeft_eq] at this
  simp only [Int.toNat_natCast]
  rw [Nat.or_comm, ← this, Nat.add_comm]
theorem ishl_u64 {y : Int} {s : Nat} (hs : s ≤ 64) : ishl .u64 y s = (y * 2 ^ s) % 18446744073709551616 := by
  unfold ishl
  rw [wrap_is_u64]
  have : min (s : Int).toNat IntKind.u64.bits = s := by simp [IntKind.bits]; omega
  rw [this]
end Go.Sy
namespace Go.Sy
/-- What a call leaves may be held as memory that turns no more. -/
theorem Fc.fz {P : Program} {k : FuncId} {al : List PV} {h : List (Nat × Ob)} {x : PV} {h1 : List (Nat × Ob)} (hf : Fc P k al h x h1) (ts : List Tk) : Fc P k al h (x.scrub (Ffz (fzOf ts)) some) (scrubO (Ffz (fzOf ts)) some h1) := by
  refine ⟨hf.ok, fun g w vs a1 a2 a3 => CallsIn.mono (hf.run g w vs a1 a2 a3) ?_⟩
  rintro e w' ⟨v, y, g', h', rfl, ⟨rfl, rfl⟩, b1, b2, b3, b4⟩
  have hs0 : Sim g' ⟨[], h', 0⟩ ⟨#[], []⟩ w' := ⟨fun s => by show Rep g' w' .dead _; exact .dead _, rfl, b2⟩
  exact ⟨v, _, g'.fz (fzOf ts), _, rfl, ⟨rfl, rfl⟩, b1.scrub (Turns.fz b3 (fzOf ts)), (hs0.fz b3 (fzOf ts)).heap, b3.fz _, b4.trans (Ext.fz g' _ w')⟩
end Go.Sy

/-! Readers, as plain values. -/
namespace Go.Sy

structure WS where
  nl : Bool
  b : List Int
  fail : Int
structure WS.Ok (s : WS) : Prop where
  nil : s.nl = true → s.b = []
  bytes : InB s.b
  len : s.b.length ≤ 1000000
def WS.num (s : WS) : Nat × WS := if s.fail ≠ 0 then (0, s) else if (tk s.b).2.2 ≠ 0 then (0, { s with fail := (tk s.b).2.2 }) else ((tk s.b).1, { s with b := s.b.drop (tk s.b).2.1 })
def WS.text (s : WS) (limit : Int) : (Bool × List Int) × WS :=
  if s.fail ≠ 0 then ((true, []), s)
  else if (tk s.b).2.2 ≠ 0 then ((true, []), { s with fail := (tk s.b).2.2 })
  else if max 0 limit < ((tk s.b).1 : Int) then ((true, []), { s with fail := 4 })
  else if (s.b.length : Int) - (tk s.b).2.1 < ((tk s.b).1 : Int) then ((true, []), { s with fail := 2 })
  else ((false, (s.b.drop (tk s.b).2.1).take (tk s.b).1), { s with b := s.b.drop ((tk s.b).2.1 + (tk s.b).1) })
def WS.fin (s : WS) : Int := if s.fail = 0 ∧ 0 < s.b.length then 5 else s.fail

theorem tk_spec (b : List Int) (hb : InB b) : (tk b).2.1 ≤ b.length ∧ (tk b).2.1 ≤ 10 ∧ (tk b).1 < 18446744073709551616 ∧ ((tk b).2.2 = 0 ∨ (tk b).2.2 = 2 ∨ (tk b).2.2 = 3) ∧ ((tk b).2.2 ≠ 0 → (tk b).1 = 0 ∧ (tk b).2.1 = 0) ∧ ((tk b).2.2 = 0 → 0 < (tk b).2.1) := by
  obtain ⟨h1, h2, h3, h4⟩ := lead_spec 10 b
  unfold tk
  split
  · simp
  · split
    · simp
    · split
      · simp
      · rename_i a1 a2 a3
        refine ⟨by simp; omega, by simp; omega, ?_, .inl rfl, by simp, by simp⟩
        have hk : lead 10 b < b.length := by omega
        have := (form_iff (fun x hx => hb x hx) hk (by omega) (fun i h hi => h3 i h hi) (h4 (by omega) hk)).2 (by
          rw [List.getD_eq_getElem?_getD, List.getElem?_eq_getElem hk] at a3
          simpa using a3)
        have hv := congrArg val this
        rw [val_enc] at hv
        simp only
        omega
theorem WS.num_ok {s : WS} (h : s.Ok) : s.num.2.Ok := by
  obtain ⟨h1, h2, h3⟩ := id h
  unfold WS.num
  split
  · exact h
  · split
    · exact ⟨h1, h2, h3⟩
    · exact ⟨fun e => by simp [h1 e], h2.drop _, by simp; omega⟩
theorem WS.text_ok {s : WS} (h : s.Ok) (limit : Int) : (s.text limit).2.Ok := by
  obtain ⟨h1, h2, h3⟩ := id h
  unfold WS.text
  split
  · exact h
  · split
    · exact ⟨h1, h2, h3⟩
    · split
      · exact ⟨h1, h2, h3⟩
      · split
        · exact ⟨h1, h2, h3⟩
        · exact ⟨fun e => by simp [h1 e], h2.drop _, by simp; omega⟩
end Go.Sy

/-! Digests: numbers turned. -/
namespace Go.Sy
/-- Turned right. -/
def ror (x : Int) (n : Nat) : Int := ior .u32 (ishl .u32 x ((32 - n : Nat) : Int)) (ishr .u32 x n)
theorem iand_31 : ∀ n : Nat, n < 32 → iand .u64 (IntKind.u64.wrap (-(n : Int))) 31 = (((32 - n) % 32 : Nat) : Int) := by decide
theorem wrap_31 : ∀ n : Nat, n < 32 → IntKind.u64.wrap (32 - ((32 - n : Nat) : Int)) = (n : Int) := by decide
theorem wrap_n31 : ∀ n : Nat, n < 32 → IntKind.i64.wrap (-(n : Int)) = -(n : Int) := by decide
end Go.Sy
namespace Go.Proofs.YtekokchejkjjjaaDoor
open Go.Sy
theorem mixed : Tryd.prog.follows .mixedOrders = true := by rfl

set_option maxRecDepth 100000 in
set_option maxHeartbeats 4000000 in
theorem rotl_fn (x : Int) (n : Nat) (h0 : 0 < n) (h1 : n < 32) : Fc Tryd.prog 120 [.lit (.int .u32 x), .lit (.int .i64 (-(n : Int)))] [] (.lit (.int .u32 (ror x n))) [] := by
  have e := iand_31 n h1
  rw [Nat.mod_eq_of_lt (by omega)] at e
  refine Fc.of (anys _ []) [] mixed Tryd.func120 rfl (by rfl) (by simp [Tryd.ntmps120]) (by decide) ?_
  simp -implicitDefEqProofs -dsimp [Tryd.ntmps120, e, ror, wrap_31 n h1]

set_option maxRecDepth 100000 in
set_option maxHeartbeats 4000000 in
theorem turn_fn (x : Int) (n : Nat) (h0 : 0 < n) (h1 : n < 32) : Fc Tryd.prog 119 [.lit (.int .u32 x), .lit (.int .i64 n)] [] (.lit (.int .u32 (ror x n))) [] := by
  refine Fc.of (anys _ [120]) [] mixed Tryd.func119 rfl (by rfl) (by simp [Tryd.ntmps119]) (by decide) ?_
  simp -implicitDefEqProofs -dsimp [Tryd.ntmps119, wrap_n31 n h1]
  refine CallK.reads ?_
  simp -implicitDefEqProofs -dsimp
  refine CallQ.same (rotl_fn x n h0 h1) rfl ?_
  simp -implicitDefEqProofs -dsimp

/-- The first eight numbers. -/
def st0 : List Int := [1779033703, 3144134277, 1013904242, 2773480762, 1359893119, 2600822924, 528734635, 1541459225]
set_option maxRecDepth 100000 in
set_option maxHeartbeats 4000000 in
theorem first_fn : Fc Tryd.prog 101 [] [] (.agg (ints .u32 st0)) [] := by
  refine Fc.of (anys _ []) [] mixed Tryd.func101 rfl (by rfl) (by simp [Tryd.ntmps101]) (by decide) ?_
  simp -implicitDefEqProofs -dsimp [Tryd.ntmps101]
  rfl

end Go.Proofs.YtekokchejkjjjaaDoor

/-! Digests: a step. -/
namespace Go.Sy
/-- The sum that a step adds twice, and the other one. -/
def stT (e f g h k w : Int) : Int := IntKind.u32.wrap (IntKind.u32.wrap (IntKind.u32.wrap (IntKind.u32.wrap (h + ixor .u32 (ixor .u32 (ror e 6) (ror e 11)) (ror e 25)) + ixor .u32 (iand .u32 e f) (iand .u32 (inot .u32 e) g)) + k) + w)
def stU (a b c : Int) : Int := IntKind.u32.wrap (ixor .u32 (ixor .u32 (ror a 2) (ror a 13)) (ror a 22) + ixor .u32 (ixor .u32 (iand .u32 a b) (iand .u32 a c)) (iand .u32 b c))
/-- The state behind a number. -/
def stp (k w : Int) : List Int → List Int
  | [a, b, c, d, e, f, g, h] => [IntKind.u32.wrap (stT e f g h k w + stU a b c), a, b, c, IntKind.u32.wrap (d + stT e f g h k w), e, f, g]
  | l => l
end Go.Sy
namespace Go.Proofs.YtekokchejkjjjaaDoor
open Go.Sy

set_option maxRecDepth 100000 in
set_option maxHeartbeats 4000000 in
theorem step_fn (a b c d e f g h k w : Int) : Fc Tryd.prog 113 [.agg (ints .u32 [a, b, c, d, e, f, g, h]), .lit (.int .u32 k), .lit (.int .u32 w)] [] (.agg (ints .u32 (stp k w [a, b, c, d, e, f, g, h]))) [] := by
  refine Fc.of (anys _ [119]) sch113 mixed Tryd.func113 rfl (by rfl) (by simp [Tryd.ntmps113]) (by decide) ?_
  simp -implicitDefEqProofs -dsimp [Tryd.ntmps113, ints]
  refine CallK.reads ?_
  simp -implicitDefEqProofs -dsimp
  refine CallQ.same (turn_fn e 6 (by decide) (by decide)) rfl ?_
  simp -implicitDefEqProofs -dsimp
  refine CallK.reads ?_
  simp -implicitDefEqProofs -dsimp
  refine CallQ.same (turn_fn e 11 (by decide) (by decide)) rfl ?_
  simp -implicitDefEqProofs -dsimp
  refine CallK.reads ?_
  simp -implicitDefEqProofs -dsimp
  refine CallQ.same (turn_fn e 25 (by decide) (by decide)) rfl ?_
  simp -implicitDefEqProofs -dsimp
  refine CallK.reads ?_
  simp -implicitDefEqProofs -dsimp
  refine CallQ.same (turn_fn a 2 (by decide) (by decide)) rfl ?_
  simp -implicitDefEqProofs -dsimp
  refine CallK.reads ?_
  simp -implicitDefEqProofs -dsimp
  refine CallQ.same (turn_fn a 13 (by decide) (by decide)) rfl ?_
  simp -implicitDefEqProofs -dsimp
  refine CallK.reads ?_
  simp -implicitDefEqProofs -dsimp
  refine CallQ.same (turn_fn a 22 (by decide) (by decide)) rfl ?_
  simp -implicitDefEqProofs -dsimp
  rfl

end Go.Proofs.YtekokchejkjjjaaDoor

/-! Digests: a block's numbers. -/
namespace Go.Sy
/-- One cell of a row is another. -/
def put1 (l : List Int) (i : Nat) (v : Int) : List Int := l.take i ++ v :: l.drop (i + 1)
@[simp] theorem ints_mid (k : IntKind) (xs ys : List Int) (v : Int) : ints k xs ++ PV.lit (.int k v) :: ints k ys = ints k (xs ++ v :: ys) := by simp [ints]
theorem put1_length {l : List Int} {i : Nat} (v : Int) (h : i < l.length) : (put1 l i v).length = l.length := by
  simp [put1]; omega
theorem put1_get {l : List Int} {i : Nat} (v : Int) (h : i < l.length) (j : Nat) : (put1 l i v)[j]? = if j = i then some v else l[j]? := by
  unfold put1
  rw [List.getElem?_append]
  simp only [List.length_take, Nat.min_eq_left (Nat.le_of_lt h)]
  split
  · rename_i hj; rw [if_neg (by omega), List.getElem?_take_of_lt hj]
  · rename_i hj
    by_cases e : j = i
    · subst e; simp
    · rw [if_neg e, show j - i = (j - i - 1) + 1 by omega, List.getElem?_cons_succ, List.getElem?_drop]
      congr 1; omega
/-- The number that four bytes are. -/
def wordB (l : List Int) : Int := l.foldl (fun w x => ior .u32 (ishl .u32 w 8) (IntKind.u32.wrap x)) 0
theorem wordB_snoc (l : List Int) (x : Int) : wordB (l ++ [x]) = ior .u32 (ishl .u32 (wordB l) 8) (IntKind.u32.wrap x) := by simp [wordB]
theorem put1_put1 {l : List Int} {i : Nat} (v u : Int) (h : i < l.length) : put1 (put1 l i v) i u = put1 l i u := by
  refine List.ext_getElem? fun k => ?_
  rw [put1_get _ (by rw [put1_length _ h]; exact h), put1_get _ h, put1_get _ h]
  split <;> rfl
/-- So many zeros. -/
def zer (n : Nat) : List Int := List.replicate n 0
@[simp] theorem zer_length (n : Nat) : (zer n).length = n := by simp [zer]
@[simp ↓ high] theorem replicate_ints (k : IntKind) (n : Nat) : List.replicate n (PV.lit (.int k 0)) = ints k (zer n) := by simp [ints, zer]
/-- The first sixteen, as far as they are. -/
def W1 (b : List Int) (i : Nat) : List Int := (List.range 64).map fun k => if k < i then wordB ((b.drop (4 * k)).take 4) else 0
@[simp] theorem W1_length (b : List Int) (i : Nat) : (W1 b i).length = 64 := by simp [W1]
theorem W1_get (b : List Int) (i k : Nat) : (W1 b i)[k]? = if k < 64 then some (if k < i then wordB ((b.drop (4 * k)).take 4) else 0) else none := by
  unfold W1
  rw [List.getElem?_map]
  by_cases h : k < 64
  · rw [List.getElem?_range h, if_pos h]; rfl
  · rw [List.getElem?_eq_none (by simp; omega), if_neg h]; rfl
theorem W1_zero (b : List Int) : W1 b 0 = zer 64 := by
  refine List.ext_getElem? fun k => ?_
  rw [W1_get, zer, List.getElem?_replicate]; simp
theorem W1_put (b : List Int) (i : Nat) (h : i < 64) : put1 (W1 b i) i (wordB ((b.drop (4 * i)).take 4)) = W1 b (i + 1) := by
  refine List.ext_getElem? fun k => ?_
  rw [put1_get _ (by simpa using h), W1_get, W1_get]
  by_cases hk : k = i
  · subst hk; simp [h]
  · rw [if_neg hk]
    by_cases h1 : k < i
    · rw [if_pos h1, if_pos (by omega : k < i + 1)]
    · rw [if_neg h1, if_neg (by omega : ¬ k < i + 1)]
@[simp] theorem put1_fold (l : List Int) (i : Nat) (v : Int) : List.take i l ++ v :: List.drop (i + 1) l = put1 l i v := (rfl)
/-- The number at i, out of those before. -/
def nxtV (p x q y : Int) : Int := IntKind.u32.wrap (IntKind.u32.wrap (IntKind.u32.wrap (p + ixor .u32 (ixor .u32 (ror x 7) (ror x 18)) (ishr .u32 x 3)) + q) + ixor .u32 (ixor .u32 (ror y 17) (ror y 19)) (ishr .u32 y 10))
/-- All numbers, n of those behind the first sixteen. -/
def WSd (b : List Int) : Nat → List Int
  | 0 => W1 b 16
  | n + 1 => put1 (WSd b n) (n + 16) (nxtV ((WSd b n).getD n 0) ((WSd b n).getD (n + 1) 0) ((WSd b n).getD (n + 9) 0) ((WSd b n).getD (n + 14) 0))
theorem WS_length (b : List Int) : ∀ n, n ≤ 48 → (WSd b n).length = 64
  | 0, _ => W1_length b 16
  | n + 1, h => by rw [WSd, put1_length _ (by rw [WS_length b n (by omega)]; omega)]; exact WS_length b n (by omega)
theorem getD_get {l : List Int} {i : Nat} (h : i < l.length) : l[i]? = some (l.getD i 0) := by simp [h]
theorem W1_put0 (b : List Int) (i : Nat) (h : i < 64) : put1 (W1 b i) i 0 = W1 b i := by
  refine List.ext_getElem? fun k => ?_
  rw [put1_get _ (by simpa using h), W1_get]
  by_cases hk : k = i
  · subst hk; simp [h]
  · rw [if_neg hk]
end Go.Sy
namespace Go.Proofs.YtekokchejkjjjaaDoor
open Go.Sy
theorem wrap64 {n : Int} (h1 : -9223372036854775808 ≤ n) (h2 : n < 9223372036854775808) : IntKind.i64.wrap n = n := by
  simp [IntKind.wrap, IntKind.signed, IntKind.bits]
  omega

set_option maxRecDepth 100000 in
set_option maxHeartbeats 4000000 in
theorem spread_fn (nl : Bool) (b : List Int) (hb : b.length = 64) : Fc Tryd.prog 112 [.sl .imm nl 1 (u8s b)] [] (.agg (ints .u32 (WSd b 48))) [] := by
  refine Fc.of (anys _ [119]) sch112 mixed Tryd.func112 rfl (by rfl) (by simp [Tryd.ntmps112]) (by decide) ?_
  simp -implicitDefEqProofs -dsimp [Tryd.ntmps112]
  refine LpK.mk (anys _ [119]) mixed (fun i : Nat => i ≤ 16) (fun i => ⟨[(0, .sl .imm nl 1 (u8s b)), (2, .ptr 2 0), (3, .ptr 3 0), (10, .lit (.int .i64 i))], [(3, .cells (ints .u32 (W1 b i))), (2, .cells (ints .u32 (zer 64)))], 78⟩)
    (fun i => 16 - i) 0 (by simp) (by simp -implicitDefEqProofs -dsimp [W1_zero]) ?_
  intro i hi
  by_cases hlt : i < 16
  · have hlt' : (i : Int) < 16 := by omega
    have e1 : IntKind.i64.wrap (4 * (i : Int)) = 4 * (i : Int) := wrap64 (by omega) (by omega)
    have e2 : IntKind.i64.wrap (4 * (i : Int) + 4) = 4 * (i : Int) + 4 := wrap64 (by omega) (by omega)
    have e3 : (4 * (i : Int)).toNat = 4 * i := by omega
    have e4 : (4 * (i : Int) + 4).toNat = 4 * i + 4 := by omega
    have e5 : (0 : Int) ≤ 4 * (i : Int) := by omega
    have e6 : 4 * (i : Int) + 4 ≤ 64 := by omega
    have e7 : 4 * (i : Int) ≤ 4 * (i : Int) + 4 := by omega
    have e8 : min (4 * i + 4) 64 - 4 * i = 4 := by omega
    obtain ⟨q, hq⟩ : ∃ q, q = List.drop (4 * i) (List.take (4 * i + 4) b) := ⟨_, rfl⟩
    have hql : q.length = 4 := by rw [hq]; simp; omega
    have hqw : q = (b.drop (4 * i)).take 4 := by rw [hq, List.drop_take]; congr 1; omega
    simp -implicitDefEqProofs -dsimp [hlt', e1, e2, e3, e4, e5, e6, e7, hb, e8, ← hq]
    have z0 := W1_put0 b i (by omega)
    refine LpK.mk (anys _ [119]) mixed (fun j : Nat => j ≤ 4) (fun j => ⟨[(0, .sl .imm nl 1 (u8s b)), (2, .ptr 2 0), (3, .ptr 3 0), (4, .lit (.int .i64 i)), (10, .lit (.int .i64 i)), (19, .sl .imm nl 1 (u8s q)), (20, .lit (.int .i64 4)), (21, .lit (.int .i64 j))],
      [(3, .cells (ints .u32 (put1 (W1 b i) i (wordB (q.take j))))), (2, .cells (ints .u32 (zer 64)))], 78⟩) (fun j => 4 - j) 0 (by simp) (by simp -implicitDefEqProofs -dsimp [z0, wordB, hql]) ?_
    intro j hj
    by_cases hlt2 : j < 4
    · have hl2 : (j : Int) < 4 := by omega
      have hl3 : j < q.length := by omega
      have hg : (put1 (W1 b i) i (wordB (q.take j)))[i]? = some (wordB (q.take j)) := by rw [put1_get _ (by simp; omega), if_pos rfl]
      have hw : IntKind.i64.wrap ((j : Int) + 1) = ((j + 1 : Nat) : Int) := wrap64 (by omega) (by omega)
      have hl4 : (i : Int) < 64 := by omega
      have hs : wordB (q.take (j + 1)) = ior .u32 (ishl .u32 (wordB (q.take j)) 8) (IntKind.u32.wrap q[j]) := by rw [List.take_succ_eq_append_getElem hl3, wordB_snoc]
      have hpp := put1_put1 (wordB (q.take j)) (wordB (q.take (j + 1))) (l := W1 b i) (i := i) (by simp; omega)
      have hlen : (put1 (W1 b i) i (wordB (q.take j))).length = 64 := by rw [put1_length _ (by simp; omega)]; simp
      have hi64 : i < 64 := by omega
      have hi63 : i ≤ 63 := by omega
      have hg2 : (put1 (W1 b i) i (wordB (q.take j)))[i]'(by rw [hlen]; exact hi64) = wordB (q.take j) := by
        rw [List.getElem?_eq_getElem (by rw [hlen]; exact hi64)] at hg; exact Option.some.inj hg
      rw [hs] at hpp
      obtain ⟨y, hy⟩ : ∃ y, y = q[j] := ⟨_, rfl⟩
      have hgq : q[j]? = some y := by rw [List.getElem?_eq_getElem hl3, hy]
      rw [← hy] at hpp hs
      simp -implicitDefEqProofs -dsimp [hl2, hgq, hg, hg2, hl4, hw, hpp, hlen, hi64, hi63]
      refine .mk (j + 1) (by omega) (by omega) (by simp -implicitDefEqProofs -dsimp [hs])
    · have e : j = 4 := by omega
      subst e
      have hw : IntKind.i64.wrap ((i : Int) + 1) = ((i + 1 : Nat) : Int) := wrap64 (by omega) (by omega)
      have hp := W1_put b i (by omega)
      have ht : q.take 4 = q := List.take_of_length_le (by omega)
      rw [← hqw] at hp
      simp -implicitDefEqProofs -dsimp [hw, ht, hp]
      refine .mk (i + 1) (by omega) (by omega) (by simp -implicitDefEqProofs -dsimp)
  · have hi : i = 16 := by omega
    subst hi
    simp -implicitDefEqProofs -dsimp
    refine LpK.mk (anys _ [119]) mixed (fun n : Nat => n ≤ 48) (fun n => ⟨[(0, .sl .imm nl 1 (u8s b)), (2, .ptr 2 0), (3, .ptr 3 0), (7, .lit (.int .i64 ((n : Int) + 16)))], [(3, .cells (ints .u32 (WSd b n))), (2, .cells (ints .u32 (zer 64)))], 78⟩)
      (fun n => 48 - n) 0 (by simp) (by simp -implicitDefEqProofs -dsimp [WSd]) ?_
    intro n hn
    have hln := WS_length b n hn
    by_cases hlt : n < 48
    · have h1 : (n : Int) + 16 < 64 := by omega
      have e1 : IntKind.i64.wrap ((n : Int) + 16 - 15) = (n : Int) + 1 := by rw [wrap64 (by omega) (by omega)]; omega
      have e2 : IntKind.i64.wrap ((n : Int) + 16 - 2) = (n : Int) + 14 := by rw [wrap64 (by omega) (by omega)]; omega
      have e3 : IntKind.i64.wrap (n : Int) = (n : Int) := wrap64 (by omega) (by omega)
      have e4 : IntKind.i64.wrap ((n : Int) + 16 - 7) = (n : Int) + 9 := by rw [wrap64 (by omega) (by omega)]; omega
      have i1 : (0 : Int) ≤ (n : Int) + 1 ∧ (n : Int) + 1 < 64 := by omega
      have i2 : (0 : Int) ≤ (n : Int) + 14 ∧ (n : Int) + 14 < 64 := by omega
      have i3 : (0 : Int) ≤ (n : Int) + 9 ∧ (n : Int) + 9 < 64 := by omega
      have i4 : (n : Int) < 64 := by omega
      have i5 : (0 : Int) ≤ (n : Int) + 16 := by omega
      have t1 : ((n : Int) + 14).toNat = n + 14 := by omega
      have t2 : ((n : Int) + 9).toNat = n + 9 := by omega
      have t3 : ((n : Int) + 16).toNat = n + 16 := by omega
      have hws : WSd b (n + 1) = put1 (WSd b n) (n + 16) (nxtV ((WSd b n).getD n 0) ((WSd b n).getD (n + 1) 0) ((WSd b n).getD (n + 9) 0) ((WSd b n).getD (n + 14) 0)) := rfl
      have g1 := getD_get (l := WSd b n) (i := n) (by omega)
      have g2 := getD_get (l := WSd b n) (i := n + 1) (by omega)
      have g3 := getD_get (l := WSd b n) (i := n + 9) (by omega)
      have g4 := getD_get (l := WSd b n) (i := n + 14) (by omega)
      generalize (WSd b n).getD n 0 = p at *
      generalize (WSd b n).getD (n + 1) 0 = x at *
      generalize (WSd b n).getD (n + 9) 0 = q at *
      generalize (WSd b n).getD (n + 14) 0 = y at *
      have h17 : n + 16 + 1 ≤ (WSd b n).length := by omega
      have hw : IntKind.i64.wrap ((n : Int) + 16 + 1) = (n : Int) + 1 + 16 := by rw [wrap64 (by omega) (by omega)]; omega
      simp -implicitDefEqProofs -dsimp [h1, e1, e2, e3, e4, i1, i2, i3, i4, i5, g1, g2, g3, g4, t1, t2, t3]
      refine CallK.reads ?_
      simp -implicitDefEqProofs -dsimp
      refine CallQ.same (turn_fn x 7 (by decide) (by decide)) rfl ?_
      simp -implicitDefEqProofs -dsimp [h1, e1, e2, e3, e4, i1, i2, i3, i4, i5, g1, g2, g3, g4, h17, hw, t1, t2, t3]
      refine CallK.reads ?_
      simp -implicitDefEqProofs -dsimp
      refine CallQ.same (turn_fn x 18 (by decide) (by decide)) rfl ?_
      simp -implicitDefEqProofs -dsimp [h1, e1, e2, e3, e4, i1, i2, i3, i4, i5, g1, g2, g3, g4, h17, hw, t1, t2, t3]
      refine CallK.reads ?_
      simp -implicitDefEqProofs -dsimp
      refine CallQ.same (turn_fn y 17 (by decide) (by decide)) rfl ?_
      simp -implicitDefEqProofs -dsimp [h1, e1, e2, e3, e4, i1, i2, i3, i4, i5, g1, g2, g3, g4, h17, hw, t1, t2, t3]
      refine CallK.reads ?_
      simp -implicitDefEqProofs -dsimp
      refine CallQ.same (turn_fn y 19 (by decide) (by decide)) rfl ?_
      simp -implicitDefEqProofs -dsimp [h1, e1, e2, e3, e4, i1, i2, i3, i4, i5, g1, g2, g3, g4, h17, hw, t1, t2, t3]
      trace_state
      refine .mk (n + 1) (by omega) (by omega) (by simp -implicitDefEqProofs -dsimp [hws, nxtV])
    · have e : n = 48 := by omega
      subst e
      simp -implicitDefEqProofs -dsimp [hln]
      exact List.take_of_length_le (by omega)

end Go.Proofs.YtekokchejkjjjaaDoor

/-! Digests: the state behind a block. -/
namespace Go.Sy
theorem keys_length : keys.length = 64 := by decide
@[simp] theorem plain_agg_ints (k : IntKind) (l : List Int) : Plain (.agg (ints k l)) := .agg _ fun x hx => by
  simp only [ints, List.mem_map] at hx
  obtain ⟨n, _, rfl⟩ := hx
  exact ⟨_, rfl⟩
@[simp] theorem lendCells_ints (k : IntKind) (l : List Int) : lendCells (ints k l) = some (ints k l) := by
  induction l with
  | nil => rfl
  | cons n l ih =>
    show lendCells (.lit (.int k n) :: ints k l) = _
    simp only [lendCells, lendCell, ih]; rfl
@[simp ↓ high] theorem ev_keys (st : St) : st.ev (.global 1) = .cur .imm (ints .u32 keys) := (rfl)
theorem stp_length {k w : Int} {S : List Int} (h : S.length = 8) : (stp k w S).length = 8 := by
  match S, h with
  | [a, b, c, d, e, f, g, h], _ => rfl
theorem ints_zer8 : ints .u32 (zer 8) = [.lit (.int .u32 0), .lit (.int .u32 0), .lit (.int .u32 0), .lit (.int .u32 0), .lit (.int .u32 0), .lit (.int .u32 0), .lit (.int .u32 0), .lit (.int .u32 0)] := (rfl)
/-- Two rows' sums, the first i. -/
def smL (S R : List Int) : Nat → List Int
  | 0 => R
  | i + 1 => put1 (smL S R i) i (IntKind.u32.wrap (R.getD i 0 + S.getD i 0))
theorem smL_length {S R : List Int} (h : R.length = 8) : ∀ n, n ≤ 8 → (smL S R n).length = 8
  | 0, _ => h
  | n + 1, hn => by rw [smL, put1_length _ (by rw [smL_length h n (by omega)]; omega)]; exact smL_length h n (by omega)
theorem smL_get {S R : List Int} (h : R.length = 8) : ∀ n j, n ≤ 8 → n ≤ j → (smL S R n)[j]? = R[j]?
  | 0, _, _, _ => rfl
  | n + 1, j, hn, hj => by rw [smL, put1_get _ (by rw [smL_length h n (by omega)]; omega), if_neg (by omega)]; exact smL_get h n j (by omega) (by omega)
/-- The state behind n of a block's numbers. -/
def rnd (b S : List Int) : Nat → List Int
  | 0 => S
  | n + 1 => stp (keys.getD n 0) ((WSd b 48).getD n 0) (rnd b S n)
theorem rnd_length {b S : List Int} (h : S.length = 8) : ∀ n, (rnd b S n).length = 8
  | 0 => h
  | n + 1 => stp_length (rnd_length h n)
/-- The state behind a block. -/
def bhd (b S : List Int) : List Int := smL S (rnd b S 64) 8
end Go.Sy
namespace Go.Proofs.YtekokchejkjjjaaDoor
open Go.Sy
theorem step_fn2 (S : List Int) (h : S.length = 8) (k w : Int) : Fc Tryd.prog 113 [.agg (ints .u32 S), .lit (.int .u32 k), .lit (.int .u32 w)] [] (.agg (ints .u32 (stp k w S))) [] := by
  match S, h with
  | [a, b, c, d, e, f, g, h], _ => exact step_fn a b c d e f g h k w

set_option maxRecDepth 100000 in
set_option maxHeartbeats 4000000 in
theorem behind_fn (nl : Bool) (b S : List Int) (hb : b.length = 64) (hS : S.length = 8) : Fc Tryd.prog 102 [.agg (ints .u32 S), .sl .imm nl 1 (u8s b)] [] (.agg (ints .u32 (bhd b S))) [] := by
  refine Fc.of (anys _ [112, 113]) sch102 mixed Tryd.func102 rfl (by rfl) (by simp [Tryd.ntmps102]) (by decide) ?_
  have hS' : S.take 8 = S := List.take_of_length_le (by omega)
  simp -implicitDefEqProofs -dsimp [Tryd.ntmps102, hS, hS']
  refine CallK.reads ?_
  simp -implicitDefEqProofs -dsimp
  refine CallQ.same (spread_fn nl b hb) rfl ?_
  simp -implicitDefEqProofs -dsimp [hS']
  have hWl := WS_length b 48 (by omega)
  obtain ⟨W, hW⟩ : ∃ W, W = WSd b 48 := ⟨_, rfl⟩
  rw [← hW] at hWl ⊢
  refine LpK.mk (anys _ [112, 113]) mixed (fun n : Nat => n ≤ 64) (fun n => ⟨[(11, .agg (ints .u32 W)), (2, .ptr 2 0), (4, .ptr 4 0), (5, .ptr 5 0), (12, .lit (.int .i64 n))], [(5, .cells (ints .u32 (rnd b S n))), (4, .cells (ints .u32 (zer 8))), (2, .cells (ints .u32 S))], 36⟩)
    (fun n => 64 - n) 0 (by simp) (by simp -implicitDefEqProofs -dsimp [rnd, ints_zer8]) ?_
  intro n hn
  have hl := rnd_length (b := b) hS n
  by_cases hlt : n < 64
  · have h1 : (n : Int) < 64 := by omega
    have g1 := getD_get (l := W) (i := n) (by omega)
    have g2 := getD_get (l := keys) (i := n) (by rw [keys_length]; omega)
    have hr : rnd b S (n + 1) = stp (keys.getD n 0) (W.getD n 0) (rnd b S n) := by rw [hW]; rfl
    have hw : IntKind.i64.wrap ((n : Int) + 1) = (n : Int) + 1 := wrap64 (by omega) (by omega)
    generalize W.getD n 0 = x at *
    generalize keys.getD n 0 = y at *
    have kl : n ≤ keys.length := by rw [keys_length]; omega
    have ht : (rnd b S n).take 8 = rnd b S n := List.take_of_length_le (by omega)
    have hsl : (stp y x (rnd b S n)).length = 8 := stp_length hl
    have hdr : (rnd b S n).drop 8 = [] := List.drop_eq_nil_of_le (by omega)
    simp -implicitDefEqProofs -dsimp [h1, g1, g2, hl, kl, indexPV, ht]
    refine CallK.reads ?_
    simp -implicitDefEqProofs -dsimp
    refine CallQ.same (step_fn2 (rnd b S n) hl y x) rfl ?_
    simp -implicitDefEqProofs -dsimp [h1, g1, g2, hl, kl, hw, ht, hsl, hdr]
    refine .mk (n + 1) (by omega) (by omega) (by simp -implicitDefEqProofs -dsimp [hr])
  · have e : n = 64 := by omega
    subst e
    simp -implicitDefEqProofs -dsimp
    obtain ⟨R, hR⟩ : ∃ R, R = rnd b S 64 := ⟨_, rfl⟩
    have hRl : R.length = 8 := by rw [hR]; exact hl
    rw [← hR]
    refine LpK.mk (anys _ [112, 113]) mixed (fun n : Nat => n ≤ 8) (fun n => ⟨[(2, .ptr 2 0), (4, .ptr 4 0), (5, .ptr 5 0), (23, .lit (.int .i64 n))], [(5, .cells (ints .u32 (smL S R n))), (4, .cells (ints .u32 (zer 8))), (2, .cells (ints .u32 S))], 36⟩)
      (fun n => 8 - n) 0 (by simp) (by simp -implicitDefEqProofs -dsimp [smL]) ?_
    intro n hn
    have hl := smL_length (S := S) hRl n hn
    by_cases hlt : n < 8
    · have h1 : (n : Int) < 8 := by omega
      have g1 : (smL S R n)[n]? = some (R.getD n 0) := by rw [smL_get hRl n n hn (Nat.le_refl n)]; exact getD_get (by omega)
      have g2 := getD_get (l := S) (i := n) (by omega)
      have hr : smL S R (n + 1) = put1 (smL S R n) n (IntKind.u32.wrap (R.getD n 0 + S.getD n 0)) := rfl
      have hw : IntKind.i64.wrap ((n : Int) + 1) = (n : Int) + 1 := wrap64 (by omega) (by omega)
      generalize R.getD n 0 = x at *
      generalize S.getD n 0 = y at *
      have l1 : n + 1 ≤ (smL S R n).length := by omega
      simp -implicitDefEqProofs -dsimp [h1, g1, g2, l1, hw]
      refine .mk (n + 1) (by omega) (by omega) (by simp -implicitDefEqProofs -dsimp [hr])
    · have e : n = 8 := by omega
      subst e
      simp -implicitDefEqProofs -dsimp [hl]
      rw [List.take_of_length_le (by omega), hR]; rfl

end Go.Proofs.YtekokchejkjjjaaDoor

/-! Digests: rows put together. -/
namespace Go.Sy
/-- Arguments that say more. -/
theorem Fc.args {P : Program} {k : FuncId} {xs bs : List PV} {h h1 : List (Nat × Ob)} {x : PV} (hf : Fc P k bs h x h1) (hw : weakL xs bs) : Fc P k xs h x h1 := by
  refine ⟨hf.ok, fun g w vs a b c => hf.run g w vs a b ?_⟩
  obtain ⟨e1, e2⟩ := weakL_get hw
  refine ⟨c.1.trans e1, fun i y u hy hu => ?_⟩
  obtain ⟨z, hz, hzw⟩ := e2 i y hy
  exact hzw.rep (c.2 i z u hz hu)
end Go.Sy
namespace Go.Proofs.YtekokchejkjjjaaDoor
open Go.Sy

theorem fr_u8s (n : Nat) (nl : Bool) (xs : List Int) : Fr (.sl (.own (.loc n)) nl 1 (u8s xs)) := .row n _ _ _ fun x hx y hy => by
  simp only [u8s, ints, List.mem_map] at hx
  obtain ⟨n, _, rfl⟩ := hx
  simp [PV.comps] at hy
  exact ⟨_, hy⟩
@[simp] theorem fr_nils (o : Own) (s : Nat) : Fr (.sl o true s []) := .nil o s
@[simp] theorem fr_none (n : Nat) (nl : Bool) : Fr (.sl (.own (.loc n)) nl 1 []) := fr_u8s n nl []
theorem wrap_0 : IntKind.i64.wrap 0 = 0 := by decide
theorem reps_u8 (n : Nat) : reps n [.lit (.int .u8 0)] = u8s (zer n) := by
  induction n with
  | zero => rfl
  | succ n ih =>
    have : reps (n + 1) [.lit (.int .u8 0)] = .lit (.int .u8 0) :: reps n [.lit (.int .u8 0)] := rfl
    rw [this, ih]; rfl
theorem ints_all (k : IntKind) (l : List Int) (f : PV → Bool) (h : ∀ n, f (.lit (.int k n)) = true) : (ints k l).all f = true := by
  simp [ints, h]
theorem grow_u8 (o : Own) (s : Nat) (n : Nat) (h0 : 0 < n) (h1 : n ≤ 1000000000) : growPV Tryd.prog 39 3 (.sl o true s []) (.lit (.int .i64 n)) = some (1, u8s (zer n)) := by
  have hr : roomOf Tryd.prog 5 = 1 := by kernel_rfl
  have hi : (n : Int) ≤ 1099511627776 := by omega
  have e1 : (u8s (zer n)).all litB = true := ints_all _ _ _ fun _ => rfl
  have e2 : (u8s (zer n)).all (wideB 1) = true := ints_all _ _ _ fun _ => rfl
  simp [growPV, elemsOf, -reps, reps_u8, h0, hi, e1, e2]
  omega

set_option maxRecDepth 100000 in
set_option maxHeartbeats 4000000 in
theorem clone_fn (nl : Bool) (xs : List Int) (hn : nl = true → xs = []) (hl : xs.length ≤ 140737488355328) : Fc Tryd.prog 66 [.sl .imm nl 1 (u8s xs)] [] (.sl (.own (.loc 5)) nl 1 (u8s xs)) [] := by
  refine Fc.of (anys _ []) [] mixed Tryd.func66 rfl (by rfl) (by simp [Tryd.ntmps66]) (by decide) ?_
  simp -implicitDefEqProofs -dsimp [Tryd.ntmps66, binPV]
  refine Cnd.mk (fun h => ?_) (fun h => ?_)
  · subst h
    simp [hn rfl]
  · subst h
    simp [hl]

set_option maxRecDepth 100000 in
set_option maxHeartbeats 4000000 in
theorem grow0_fn : Fc Tryd.prog 99 [.sl .imm true 0 [], .lit (.int .i64 0)] [] (.sl .imm true 1 []) [] := by
  refine Fc.of (anys _ []) [] mixed Tryd.func99 rfl (by rfl) (by simp [Tryd.ntmps99]) (by decide) ?_
  simp -implicitDefEqProofs -dsimp [Tryd.ntmps99, wrap_0]

set_option maxRecDepth 100000 in
set_option maxHeartbeats 4000000 in
theorem grow_fn (n : Nat) (h0 : 0 < n) (h1 : n ≤ 1000000000) : Fc Tryd.prog 99 [.sl .imm true 0 [], .lit (.int .i64 n)] [] (.sl (.own (.loc 22)) false 1 []) [] := by
  refine Fc.args (bs := [.sl .imm true 1 [], .lit (.int .i64 n)]) ?_ (by simp)
  have g := grow_u8 .imm 1 n h0 h1
  have g0 : (0 : Int) < n := by omega
  have g1 : ¬ (n : Int) < 0 := by omega
  have hw : IntKind.i64.wrap (n : Int) = n := wrap64 (by omega) (by omega)
  refine Fc.of (anys _ []) [] mixed Tryd.func99 rfl (by rfl) (by simp [Tryd.ntmps99]) (by decide) ?_
  simp -implicitDefEqProofs -dsimp [Tryd.ntmps99, g, h0, g1, hw, wrap_0]

/-- Two rows, the first i of them. -/
def two (a b : List Int) : Nat → List Int
  | 0 => []
  | 1 => a
  | _ => a ++ b

set_option maxRecDepth 100000 in
set_option maxHeartbeats 4000000 in
theorem concat_fn (n1 n2 : Bool) (a b : List Int) (h0 : 0 < a.length + b.length) (h1 : a.length + b.length ≤ 1000000000) :
    Fc Tryd.prog 82 [.sl .imm false 1 [.sl .imm n1 1 (u8s a), .sl .imm n2 1 (u8s b)]] [] (.sl (.own (.loc 1240)) false 1 (u8s (a ++ b))) [] := by
  refine Fc.of (anys _ [99]) [] mixed Tryd.func82 rfl (by rfl) (by simp [Tryd.ntmps82]) (by decide) ?_
  simp -implicitDefEqProofs -dsimp [Tryd.ntmps82]
  refine LpK.mk (anys _ [99]) mixed (fun i : Nat => i ≤ 2) (fun i => ⟨[(0, .sl .imm false 1 [.sl .imm n1 1 (u8s a), .sl .imm n2 1 (u8s b)]), (9, .sl .imm false 1 [.sl .imm n1 1 (u8s a), .sl .imm n2 1 (u8s b)]), (3, .lit (.int .i64 (two a b i).length)), (10, .lit (.int .i64 2)), (11, .lit (.int .i64 i))], [], 36⟩)
    (fun i => 2 - i) 0 (by simp) (by simp -implicitDefEqProofs -dsimp [two]) ?_
  intro i hi
  have w1 : IntKind.i64.wrap 1 = 1 := by decide
  have w2 : IntKind.i64.wrap 2 = 2 := by decide
  have w3 : IntKind.i64.wrap (a.length : Int) = a.length := wrap64 (by omega) (by omega)
  have w4 : IntKind.i64.wrap ((a.length : Int) + b.length) = a.length + b.length := wrap64 (by omega) (by omega)
  have g1 : ¬ (a.length : Int) < 0 := by omega
  have g2 : ¬ ((a.length : Int) + b.length) < 0 := by omega
  rcases (by omega : i = 0 ∨ i = 1 ∨ i = 2) with rfl | rfl | rfl
  · simp -implicitDefEqProofs -dsimp [two, w1, w3, g1]
    exact .mk 1 (by omega) (by omega) (by simp -implicitDefEqProofs -dsimp [two])
  · simp -implicitDefEqProofs -dsimp [two, w2, w4, g2]
    exact .mk 2 (by omega) (by omega) (by simp -implicitDefEqProofs -dsimp [two])
  · simp -implicitDefEqProofs -dsimp [two]
    refine CallK.fresh ?_
    simp -implicitDefEqProofs -dsimp
    refine CallQ.same (grow_fn (a.length + b.length) h0 h1) rfl ?_
    simp -implicitDefEqProofs -dsimp [fr_u8s]
    refine LpK.mk (anys _ [99]) mixed (fun i : Nat => i ≤ 2) (fun i => ⟨[(25, .sl .imm false 1 [.sl .imm n1 1 (u8s a), .sl .imm n2 1 (u8s b)]), (6, .sl (.own (.loc 1240)) false 1 (u8s (two a b i))), (26, .lit (.int .i64 2)), (27, .lit (.int .i64 i))], [], 36⟩)
      (fun i => 2 - i) 0 (by simp) (by simp -implicitDefEqProofs -dsimp [two]) ?_
    intro i hi
    rcases (by omega : i = 0 ∨ i = 1 ∨ i = 2) with rfl | rfl | rfl
    · have l1 : a.length ≤ 140737488355328 := by omega
      simp -implicitDefEqProofs -dsimp [two, w1, l1]
      exact .mk 1 (by omega) (by omega) (by simp -implicitDefEqProofs -dsimp [two])
    · have l1 : a.length + b.length ≤ 140737488355328 := by omega
      simp -implicitDefEqProofs -dsimp [two, w2, l1]
      exact .mk 2 (by omega) (by omega) (by simp -implicitDefEqProofs -dsimp [two])
    · simp -implicitDefEqProofs -dsimp [two]

set_option maxRecDepth 100000 in
set_option maxHeartbeats 4000000 in
theorem concat0_fn (n1 n2 : Bool) :
    Fc Tryd.prog 82 [.sl .imm false 1 [.sl .imm n1 1 (u8s []), .sl .imm n2 1 (u8s [])]] [] (.sl .imm true 1 []) [] := by
  refine Fc.of (anys _ [99]) [] mixed Tryd.func82 rfl (by rfl) (by simp [Tryd.ntmps82]) (by decide) ?_
  simp -implicitDefEqProofs -dsimp [Tryd.ntmps82]
  refine LpK.mk (anys _ [99]) mixed (fun i : Nat => i ≤ 2) (fun i => ⟨[(0, .sl .imm false 1 [.sl .imm n1 1 [], .sl .imm n2 1 []]), (9, .sl .imm false 1 [.sl .imm n1 1 [], .sl .imm n2 1 []]), (3, .lit (.int .i64 0)), (10, .lit (.int .i64 2)), (11, .lit (.int .i64 i))], [], 36⟩)
    (fun i => 2 - i) 0 (by simp) (by simp -implicitDefEqProofs -dsimp) ?_
  intro i hi
  have w1 : IntKind.i64.wrap 1 = 1 := by decide
  have w2 : IntKind.i64.wrap 2 = 2 := by decide
  rcases (by omega : i = 0 ∨ i = 1 ∨ i = 2) with rfl | rfl | rfl
  · simp -implicitDefEqProofs -dsimp [w1, wrap_0]
    exact .mk 1 (by omega) (by omega) (by simp -implicitDefEqProofs -dsimp)
  · simp -implicitDefEqProofs -dsimp [w2, wrap_0]
    exact .mk 2 (by omega) (by omega) (by simp -implicitDefEqProofs -dsimp)
  · simp -implicitDefEqProofs -dsimp
    refine CallK.fresh ?_
    simp -implicitDefEqProofs -dsimp
    refine CallQ.same (grow0_fn) rfl ?_
    simp -implicitDefEqProofs -dsimp [fr_u8s]
    refine LpK.mk (anys _ [99]) mixed (fun i : Nat => i ≤ 2) (fun i => ⟨[(25, .sl .imm false 1 [.sl .imm n1 1 [], .sl .imm n2 1 []]), (6, .sl .imm true 1 []), (26, .lit (.int .i64 2)), (27, .lit (.int .i64 i))], [], 36⟩)
      (fun i => 2 - i) 0 (by simp) (by simp -implicitDefEqProofs -dsimp) ?_
    intro i hi
    rcases (by omega : i = 0 ∨ i = 1 ∨ i = 2) with rfl | rfl | rfl
    · simp -implicitDefEqProofs -dsimp [w1]
      exact .mk 1 (by omega) (by omega) (by simp -implicitDefEqProofs -dsimp)
    · simp -implicitDefEqProofs -dsimp [w2]
      exact .mk 2 (by omega) (by omega) (by simp -implicitDefEqProofs -dsimp)
    · simp -implicitDefEqProofs -dsimp
end Go.Proofs.YtekokchejkjjjaaDoor

/-! Digests: New, Write. -/
namespace Go.Sy
def at8 (S : List Int) (i : Nat) : Int := S.getD i 0
/-- Eight numbers, as cells. -/
@[simp] def sv (S : List Int) : List PV := [.lit (.int .u32 (at8 S 0)), .lit (.int .u32 (at8 S 1)), .lit (.int .u32 (at8 S 2)), .lit (.int .u32 (at8 S 3)), .lit (.int .u32 (at8 S 4)), .lit (.int .u32 (at8 S 5)), .lit (.int .u32 (at8 S 6)), .lit (.int .u32 (at8 S 7))]
theorem plain_agg_iff (xs : List PV) : Plain (.agg xs) ↔ ∀ x, x ∈ xs → ∃ v, x = .lit v := ⟨fun h => by cases h; assumption, .agg xs⟩
@[simp] theorem plain_agg8 (a b c d e f g h : Value) : Plain (.agg [.lit a, .lit b, .lit c, .lit d, .lit e, .lit f, .lit g, .lit h]) := by
  rw [plain_agg_iff]
  intro x hx
  simp only [List.mem_cons, List.not_mem_nil, or_false] at hx
  rcases hx with rfl | rfl | rfl | rfl | rfl | rfl | rfl | rfl <;> exact ⟨_, rfl⟩
theorem sv_ints {S : List Int} (h : S.length = 8) : sv S = ints .u32 S := by
  match S, h with
  | [a, b, c, d, e, f, g, h], _ => rfl
theorem bhd_length {b S : List Int} (h : S.length = 8) : (bhd b S).length = 8 := smL_length (rnd_length h 64) 8 (by omega)
/-- The state behind the whole blocks, and what is left. -/
def absB (S l : List Int) : List Int × List Int := if 64 ≤ l.length then absB (bhd (l.take 64) S) (l.drop 64) else (S, l)
termination_by l.length
decreasing_by simp; omega
theorem absB_length {S l : List Int} (h : S.length = 8) : (absB S l).1.length = 8 := by
  unfold absB
  split
  · exact absB_length (bhd_length h)
  · exact h
termination_by l.length
decreasing_by simp; omega
end Go.Sy
namespace Go.Proofs.YtekokchejkjjjaaDoor
open Go.Sy
theorem behind_fn2 (nl : Bool) (b S : List Int) (hb : b.length = 64) (hS : S.length = 8) : Fc Tryd.prog 102 [.agg (sv S), .sl .imm nl 1 (u8s b)] [] (.agg (sv (bhd b S))) [] := by
  rw [sv_ints hS, sv_ints (bhd_length hS)]; exact behind_fn nl b S hb hS

theorem first_fn2 : Fc Tryd.prog 101 [] [] (.agg (sv st0)) [] := first_fn

set_option maxRecDepth 100000 in
set_option maxHeartbeats 4000000 in
theorem new_fn : Fc Tryd.prog 85 [] [] (.ptr 3 0) [(3, .cells (sv st0 ++ [.sl (.own (.cell 3 8)) true 1 [], .lit (.int .u64 0)]))] := by
  refine Fc.of (anys _ [101]) [] mixed Tryd.func85 rfl (by rfl) (by simp [Tryd.ntmps85]) (by decide) ?_
  simp -implicitDefEqProofs -dsimp [Tryd.ntmps85]
  refine CallK.reads ?_
  simp -implicitDefEqProofs -dsimp
  refine CallQ.same (first_fn2) rfl ?_
  simp -implicitDefEqProofs -dsimp

set_option maxRecDepth 100000 in
set_option maxHeartbeats 8000000 in
theorem write_fn (S r b : List Int) (m : Int) (n1 n2 : Bool) (hS : S.length = 8) (h0 : 0 < r.length + b.length) (h1 : r.length + b.length ≤ 1000000000) :
    Fc Tryd.prog 86 [.ptr 100000 0, .sl .imm n2 1 (u8s b)] [(100000, .cells (sv S ++ [.sl (.own (.cell 100000 8)) n1 1 (u8s r), .lit (.int .u64 m)]))] (.tup [])
      [(100000, .cells (sv (absB S (r ++ b)).1 ++ [.sl (.own (.cell 100000 8)) false 1 (u8s (absB S (r ++ b)).2), .lit (.int .u64 (IntKind.u64.wrap (m + b.length)))]))] := by
  have hb : IntKind.u64.wrap (b.length : Int) = b.length := by rw [wrap_is_u64]; omega
  refine Fc.of (anys _ [82, 102, 66]) sch86 mixed Tryd.func86 rfl (by rfl) (by simp [Tryd.ntmps86]) (by decide) ?_
  simp -implicitDefEqProofs -dsimp [Tryd.ntmps86]
  refine CallK.fresh ?_
  simp -implicitDefEqProofs -dsimp
  refine CallQ.same (concat_fn n1 n2 r b h0 h1) rfl ?_
  simp -implicitDefEqProofs -dsimp [fr_u8s, hb]
  refine LpK.mk (anys _ [82, 102, 66]) mixed (fun ((T, l) : List Int × List Int) => T.length = 8 ∧ l.length ≤ 1000000000 ∧ absB S (r ++ b) = absB T l)
    (fun ((T, l) : List Int × List Int) => ⟨[(0, .ptr 100000 0), (4, .sl (.vw (.loc 1210)) false 1 (u8s l))], [(100000, .cells (sv T ++ [.sl .imm n1 1 (u8s r), .lit (.int .u64 (IntKind.u64.wrap (m + b.length)))]))], 42⟩)
    (fun (_, l) => l.length) (S, r ++ b) ⟨hS, by simpa using h1, rfl⟩ (by simp -implicitDefEqProofs -dsimp) ?_
  rintro ⟨T, l⟩ ⟨hT, hl, he⟩
  by_cases h64 : 64 ≤ l.length
  · have e1 : (64 : Int) ≤ l.length := by omega
    have hlt : (l.take 64).length = 64 := by simp; omega
    have ha : absB T l = absB (bhd (l.take 64) T) (l.drop 64) := by rw [absB, if_pos h64]
    simp -implicitDefEqProofs -dsimp [e1]
    refine CallK.reads ?_
    simp -implicitDefEqProofs -dsimp
    refine CallQ.same (behind_fn2 false (l.take 64) T hlt hT) rfl ?_
    simp -implicitDefEqProofs -dsimp [e1]
    refine .mk (bhd (l.take 64) T, l.drop 64) ⟨bhd_length hT, by simp; omega, he.trans ha⟩ (by simp; omega) (by simp -implicitDefEqProofs -dsimp)
  · have e1 : ¬ (64 : Int) ≤ l.length := by omega
    have ha : absB T l = (T, l) := by rw [absB, if_neg h64]
    rw [ha] at he
    simp -implicitDefEqProofs -dsimp [e1]
    refine CallK.fresh ?_
    simp -implicitDefEqProofs -dsimp
    refine CallQ.same (clone_fn false l (by simp) (by omega)) rfl ?_
    simp -implicitDefEqProofs -dsimp [fr_u8s]
    simp [he]

set_option maxRecDepth 100000 in
set_option maxHeartbeats 8000000 in
theorem write0_fn (S : List Int) (m : Int) (n1 n2 : Bool) (hS : S.length = 8) :
    Fc Tryd.prog 86 [.ptr 100000 0, .sl .imm n2 1 (u8s [])] [(100000, .cells (sv S ++ [.sl (.own (.cell 100000 8)) n1 1 (u8s []), .lit (.int .u64 m)]))] (.tup [])
      [(100000, .cells (sv S ++ [.sl (.own (.cell 100000 8)) true 1 (u8s []), .lit (.int .u64 (IntKind.u64.wrap (m + 0)))]))] := by
  have hb : IntKind.u64.wrap 0 = 0 := by decide
  have hab : absB S [] = (S, []) := by rw [absB, if_neg (by simp)]
  refine Fc.of (anys _ [82, 102, 66]) sch86 mixed Tryd.func86 rfl (by rfl) (by simp [Tryd.ntmps86]) (by decide) ?_
  simp -implicitDefEqProofs -dsimp [Tryd.ntmps86]
  refine CallK.fresh ?_
  simp -implicitDefEqProofs -dsimp
  refine CallQ.same (concat0_fn n1 n2) rfl ?_
  simp -implicitDefEqProofs -dsimp [fr_u8s, hb]
  refine LpK.mk (anys _ [82, 102, 66]) mixed (fun _ : Unit => True)
    (fun _ => ⟨[(0, .ptr 100000 0), (4, .sl .imm true 1 [])], [(100000, .cells (sv S ++ [.sl .imm n1 1 [], .lit (.int .u64 (IntKind.u64.wrap (m + 0)))]))], 42⟩)
    (fun _ => 0) () trivial (by simp -implicitDefEqProofs -dsimp) ?_
  rintro ⟨⟩ -
  simp -implicitDefEqProofs -dsimp
  refine CallK.fresh ?_
  simp -implicitDefEqProofs -dsimp
  refine CallQ.same (clone_fn true [] (by simp) (by simp)) rfl ?_
  simp -implicitDefEqProofs -dsimp [fr_u8s]
end Go.Proofs.YtekokchejkjjjaaDoor
