/- Numbers as bytes: plain lemmas. (and what stands on it) -/
import Derived.Test.YtbialojkkhkjeaaM4
import Derived.Test.YtbialojkkhkjeaaM5

/-! Numbers as bytes: plain lemmas. -/
namespace Go.Sy

/-- A number's bytes. -/
def enc (n : Nat) : List Int := if h : n < 128 then [(n : Int)] else ((n % 128 + 128 : Nat) : Int) :: enc (n / 128)
termination_by n
decreasing_by omega

theorem enc_lt {n : Nat} (h : n < 128) : enc n = [(n : Int)] := by rw [enc, dif_pos h]
theorem enc_ge {n : Nat} (h : 128 ≤ n) : enc n = ((n % 128 + 128 : Nat) : Int) :: enc (n / 128) := by rw [enc, dif_neg (by omega)]

/-- What some bytes tell. -/
def val : List Int → Nat
  | [] => 0
  | x :: xs => (x % 128).toNat + 128 * val xs

theorem val_lt (l : List Int) : val l < 128 ^ l.length := by
  induction l with
  | nil => simp [val]
  | cons x xs ih =>
    simp only [val, List.length_cons, Nat.pow_succ]
    have : (x % 128).toNat < 128 := by omega
    omega
theorem val_snoc (l : List Int) (x : Int) : val (l ++ [x]) = val l + (x % 128).toNat * 128 ^ l.length := by
  induction l with
  | nil => simp [val]
  | cons y ys ih =>
    simp only [List.cons_append, val, ih, List.length_cons, Nat.pow_succ, Nat.mul_add]
    have : 128 * ((x % 128).toNat * 128 ^ ys.length) = (x % 128).toNat * (128 ^ ys.length * 128) := by
      rw [Nat.mul_comm (128 ^ ys.length) 128, ← Nat.mul_assoc, ← Nat.mul_assoc, Nat.mul_comm 128]
    omega

theorem val_enc (n : Nat) : val (enc n) = n := by
  induction n using Nat.strongRecOn with
  | _ n ih =>
    by_cases h : n < 128
    · rw [enc_lt h]; simp [val]; omega
    · rw [enc_ge (by omega), val, ih (n / 128) (by omega)]
      omega

/-- Bytes of which each but the last one goes on. -/
def goesOn : List Int → Bool
  | [] => false
  | [x] => decide (0 ≤ x ∧ x < 128)
  | x :: xs => decide (128 ≤ x ∧ x < 256) && goesOn xs
theorem goesOn_one (x : Int) : goesOn [x] = decide (0 ≤ x ∧ x < 128) := rfl
theorem goesOn_cons (x : Int) {xs : List Int} (h : xs ≠ []) : goesOn (x :: xs) = (decide (128 ≤ x ∧ x < 256) && goesOn xs) := by
  cases xs with
  | nil => exact absurd rfl h
  | cons y ys => rfl
theorem enc_ne (n : Nat) : enc n ≠ [] := by
  by_cases h : n < 128
  · rw [enc_lt h]; simp
  · rw [enc_ge (by omega)]; simp
theorem goesOn_enc (n : Nat) : goesOn (enc n) = true := by
  induction n using Nat.strongRecOn with
  | _ n ih =>
    by_cases h : n < 128
    · rw [enc_lt h, goesOn_one]; simp; omega
    · rw [enc_ge (by omega), goesOn_cons _ (enc_ne _), ih (n / 128) (by omega)]
      simp; omega

/-- The one form of a number. -/
theorem enc_val : ∀ {l : List Int}, goesOn l = true → (l.length = 1 ∨ l.getLast? ≠ some 0) → enc (val l) = l
  | [], h, _ => by cases h
  | [x], h, _ => by
    rw [goesOn_one, decide_eq_true_eq] at h
    simp only [val]
    rw [enc_lt (by omega)]
    simp; omega
  | x :: y :: ys, h, hl => by
    rw [goesOn_cons _ (by simp), Bool.and_eq_true, decide_eq_true_eq] at h
    obtain ⟨h1, h2⟩ := h
    have hl' : (y :: ys).getLast? ≠ some 0 := by
      rcases hl with hl | hl
      · simp at hl
      · simpa [List.getLast?_cons_cons] using hl
    have ih := enc_val h2 (.inr hl')
    have hpos : 0 < val (y :: ys) := by
      rcases Nat.eq_zero_or_pos (val (y :: ys)) with h0 | h0
      · rw [h0, enc_lt (by omega)] at ih
        rw [← ih] at hl'
        simp at hl'
      · exact h0
    have e : val (x :: y :: ys) = (x % 128).toNat + 128 * val (y :: ys) := rfl
    rw [e, enc_ge (by omega), show ((x % 128).toNat + 128 * val (y :: ys)) / 128 = val (y :: ys) by omega, ih]
    congr 1
    omega
theorem last_enc {n : Nat} : (enc n).length = 1 ∨ (enc n).getLast? ≠ some 0 := by
  induction n using Nat.strongRecOn with
  | _ n ih =>
    by_cases h : n < 128
    · rw [enc_lt h]; exact .inl rfl
    · right
      rw [enc_ge (by omega)]
      cases he : enc (n / 128) with
      | nil => exact absurd he (enc_ne _)
      | cons y ys =>
        rw [List.getLast?_cons_cons, ← he]
        rcases ih (n / 128) (by omega) with h1 | h1
        · have : n / 128 < 128 := by
            rcases Nat.lt_or_ge (n / 128) 128 with h2 | h2
            · exact h2
            · rw [enc_ge h2] at h1
              simp only [List.length_cons] at h1
              exact absurd (List.eq_nil_of_length_eq_zero (Nat.succ.inj h1)) (enc_ne _)
          rw [enc_lt this]
          simp; omega
        · exact h1
theorem enc_length {n k : Nat} (h : n < 128 ^ (k + 1)) : (enc n).length ≤ k + 1 := by
  induction k generalizing n with
  | zero => rw [enc_lt (by omega)]; simp
  | succ k ih =>
    by_cases h1 : n < 128
    · rw [enc_lt h1]; simp
    · rw [enc_ge (by omega)]
      have := ih (n := n / 128) (by rw [Nat.pow_succ] at h; omega)
      simp only [List.length_cons]; omega
theorem enc_u64 {n : Nat} (h : n < 18446744073709551616) : (enc n).length ≤ 10 := enc_length (k := 9) (by omega)


/-- How many of the first ones go on. -/
def lead : Nat → List Int → Nat
  | 0, _ => 0
  | _, [] => 0
  | n + 1, x :: xs => if 128 ≤ x then lead n xs + 1 else 0

theorem lead_spec : ∀ (n : Nat) (b : List Int), lead n b ≤ n ∧ lead n b ≤ b.length ∧ (∀ (i : Nat) (h : i < b.length), i < lead n b → 128 ≤ b[i]) ∧ (lead n b < n → ∀ (h : lead n b < b.length), b[lead n b] < 128)
  | 0, b => by simp [lead]
  | n + 1, [] => by simp [lead]
  | n + 1, x :: xs => by
    obtain ⟨h1, h2, h3, h4⟩ := lead_spec n xs
    by_cases hx : 128 ≤ x
    · have e : lead (n + 1) (x :: xs) = lead n xs + 1 := by rw [lead, if_pos hx]
      refine ⟨by omega, by simp; omega, fun i h hi => ?_, fun h5 h => ?_⟩
      · cases i with
        | zero => exact hx
        | succ i => exact h3 i (by simpa using h) (by omega)
      · simp only [e, List.getElem_cons_succ]
        exact h4 (by omega) (by simp only [e, List.length_cons] at h; omega)
    · have e : lead (n + 1) (x :: xs) = 0 := by rw [lead, if_neg hx]
      refine ⟨by omega, by omega, fun i h hi => by omega, fun h5 h => ?_⟩
      simp only [e, List.getElem_cons_zero]; omega
/-- .. and no other number is. -/
theorem lead_eq {n : Nat} {b : List Int} {k : Nat} (h1 : k ≤ n) (h2 : k ≤ b.length) (h3 : ∀ (i : Nat) (h : i < b.length), i < k → 128 ≤ b[i]) (h4 : k < n → ∀ (h : k < b.length), b[k] < 128) : lead n b = k := by
  obtain ⟨a1, a2, a3, a4⟩ := lead_spec n b
  rcases Nat.lt_trichotomy (lead n b) k with h | h | h
  · have := h3 (lead n b) (by omega) h
    have := a4 (by omega) (by omega)
    omega
  · exact h
  · have := a3 k (by omega) h
    have := h4 (by omega) (by omega)
    omega

/-- The number that bytes begin with, how many it has, and why there is none. -/
def tk (b : List Int) : Nat × Nat × Int :=
  if lead 10 b = 10 then (0, 0, 3)
  else if lead 10 b = b.length then (0, 0, 2)
  else if (0 < lead 10 b ∧ b.getD (lead 10 b) 0 = 0) ∨ (lead 10 b = 9 ∧ 1 < b.getD (lead 10 b) 0) then (0, 0, 3)
  else (val (b.take (lead 10 b + 1)), lead 10 b + 1, 0)

theorem take_goesOn : ∀ (b : List Int) (k : Nat), k < b.length → (∀ x, x ∈ b → 0 ≤ x ∧ x < 256) → (∀ (i : Nat) (h : i < b.length), i < k → 128 ≤ b[i]) → (∀ (h : k < b.length), b[k] < 128) → goesOn (b.take (k + 1)) = true
  | [], k, h, _, _, _ => by simp at h
  | x :: xs, 0, _, hb, _, h4 => by
    have := hb x (by simp)
    have := h4 (by simp)
    simp only [List.getElem_cons_zero] at this
    simp [goesOn]; omega
  | x :: xs, k + 1, h, hb, h3, h4 => by
    have h' : k < xs.length := by simpa using h
    have := take_goesOn xs k h' (fun y hy => hb y (by simp [hy])) (fun i hi hik => h3 (i + 1) (by simpa using hi) (by omega)) (fun hk => by have := h4 (by simpa using hk); simpa using this)
    have h0 := h3 0 (by simp) (by omega)
    have h1 := hb x (by simp)
    simp only [List.getElem_cons_zero] at h0
    rw [List.take_succ_cons, goesOn_cons _ (by
      intro e
      rcases List.take_eq_nil_iff.1 e with e | e
      · omega
      · rw [e] at h'; simp at h'), this]
    simp; omega

/-- Of which bytes a number is the one form. -/
theorem form_iff {b : List Int} (hb : ∀ x, x ∈ b → 0 ≤ x ∧ x < 256) {k : Nat} (hk : k < b.length) (hk9 : k ≤ 9) (h3 : ∀ (i : Nat) (h : i < b.length), i < k → 128 ≤ b[i]) (h4 : b[k] < 128) :
    enc (val (b.take (k + 1)) % 18446744073709551616) = b.take (k + 1) ↔ ¬ ((0 < k ∧ b[k] = 0) ∨ (k = 9 ∧ 1 < b[k])) := by
  have hg := take_goesOn b k hk hb h3 fun _ => h4
  have hlen : (b.take (k + 1)).length = k + 1 := by simp; omega
  have hlast : (b.take (k + 1)).getLast? = some b[k] := by
    rw [List.getLast?_eq_getElem?, hlen, List.getElem?_take_of_lt (by omega)]
    exact List.getElem?_eq_getElem hk
  have hsn : b.take (k + 1) = b.take k ++ [b[k]] := List.take_succ_eq_append_getElem hk
  have h0 := (hb b[k] (List.getElem_mem hk)).1
  constructor
  · intro he hc
    rcases hc with ⟨hc1, hc2⟩ | ⟨rfl, hc2⟩
    · have := last_enc (n := val (b.take (k + 1)) % 18446744073709551616)
      rw [he, hlen, hlast] at this
      rcases this with h | h
      · omega
      · exact h (by rw [hc2])
    · have h1 := val_enc (val (b.take (9 + 1)) % 18446744073709551616)
      rw [he, hsn, val_snoc] at h1
      have h2 : (b.take 9).length = 9 := by simp; omega
      rw [h2] at h1
      have h5 : (b[9] % 128).toNat = b[9].toNat := by omega
      rw [h5] at h1
      have h6 : 2 ≤ b[9].toNat := by omega
      have h7 : 2 * 128 ^ 9 ≤ b[9].toNat * 128 ^ 9 := Nat.mul_le_mul_right _ h6
      omega
  · intro hc
    have hlt : val (b.take (k + 1)) < 18446744073709551616 := by
      rcases Nat.lt_or_ge k 9 with h | h
      · have h1 := val_lt (b.take (k + 1))
        rw [hlen] at h1
        have h2 : 128 ^ (k + 1) ≤ 128 ^ 9 := Nat.pow_le_pow_right (by omega) (by omega)
        omega
      · have hk9' : k = 9 := by omega
        subst hk9'
        have h1 : ¬ 1 < b[9] := fun h => hc (.inr ⟨rfl, h⟩)
        rw [hsn, val_snoc]
        have h2 : (b.take 9).length = 9 := by simp; omega
        have h3 := val_lt (b.take 9)
        rw [h2] at h3 ⊢
        have h5 : (b[9] % 128).toNat ≤ 1 := by omega
        have h7 : (b[9] % 128).toNat * 128 ^ 9 ≤ 1 * 128 ^ 9 := Nat.mul_le_mul_right _ h5
        omega
    rw [Nat.mod_eq_of_lt hlt]
    refine enc_val hg ?_
    rw [hlen, hlast]
    by_cases hk0 : k = 0
    · left; omega
    · right
      intro e
      simp only [Option.some.injEq] at e
      exact hc (.inl ⟨by omega, e⟩)
end Go.Sy

/-! Bits of numbers. -/
namespace Go.Sy

theorem wrap_is_u8 (n : Int) : IntKind.u8.wrap n = n % 256 := by simp [IntKind.wrap, IntKind.signed, IntKind.bits]
theorem wrap_is_u16 (n : Int) : IntKind.u16.wrap n = n % 65536 := by simp [IntKind.wrap, IntKind.signed, IntKind.bits]
theorem wrap_is_u32 (n : Int) : IntKind.u32.wrap n = n % 4294967296 := by simp [IntKind.wrap, IntKind.signed, IntKind.bits]
theorem wrap_is_u64 (n : Int) : IntKind.u64.wrap n = n % 18446744073709551616 := by simp [IntKind.wrap, IntKind.signed, IntKind.bits]

theorem ofInt_toNat {w : Nat} {n : Int} (h0 : 0 ≤ n) (h : n < 2 ^ w) : (BitVec.ofInt w n).toNat = n.toNat := by
  rw [BitVec.toNat_ofInt]
  congr 1
  rw [Int.emod_eq_of_lt h0]
  exact_mod_cast h

theorem iand_nat {k : IntKind} (hk : k.signed = false) {a b : Int} (ha : 0 ≤ a) (ha2 : a < 2 ^ k.bits) (hb : 0 ≤ b) (hb2 : b < 2 ^ k.bits) : iand k a b = ((a.toNat &&& b.toNat : Nat) : Int) := by
  have h : (BitVec.ofInt k.bits a &&& BitVec.ofInt k.bits b).toNat = a.toNat &&& b.toNat := by rw [BitVec.toNat_and, ofInt_toNat ha ha2, ofInt_toNat hb hb2]
  unfold iand
  rw [h]
  have h2 : a.toNat &&& b.toNat < 2 ^ k.bits := by rw [← h]; exact BitVec.isLt _
  simp only [IntKind.wrap, hk, Bool.false_and, Bool.false_eq_true, if_false]
  exact Int.emod_eq_of_lt (by omega) (by exact_mod_cast h2)
theorem ior_nat {k : IntKind} (hk : k.signed = false) {a b : Int} (ha : 0 ≤ a) (ha2 : a < 2 ^ k.bits) (hb : 0 ≤ b) (hb2 : b < 2 ^ k.bits) : ior k a b = ((a.toNat ||| b.toNat : Nat) : Int) := by
  have h : (BitVec.ofInt k.bits a ||| BitVec.ofInt k.bits b).toNat = a.toNat ||| b.toNat := by rw [BitVec.toNat_or, ofInt_toNat ha ha2, ofInt_toNat hb hb2]
  unfold ior
  rw [h]
  have h2 : a.toNat ||| b.toNat < 2 ^ k.bits := by rw [← h]; exact BitVec.isLt _
  simp only [IntKind.wrap, hk, Bool.false_and, Bool.false_eq_true, if_false]
  exact Int.emod_eq_of_lt (by omega) (by exact_mod_cast h2)
theorem ixor_nat {k : IntKind} (hk : k.signed = false) {a b : Int} (ha : 0 ≤ a) (ha2 : a < 2 ^ k.bits) (hb : 0 ≤ b) (hb2 : b < 2 ^ k.bits) : ixor k a b = ((a.toNat ^^^ b.toNat : Nat) : Int) := by
  have h : (BitVec.ofInt k.bits a ^^^ BitVec.ofInt k.bits b).toNat = a.toNat ^^^ b.toNat := by rw [BitVec.toNat_xor, ofInt_toNat ha ha2, ofInt_toNat hb hb2]
  unfold ixor
  rw [h]
  have h2 : a.toNat ^^^ b.toNat < 2 ^ k.bits := by rw [← h]; exact BitVec.isLt _
  simp only [IntKind.wrap, hk, Bool.false_and, Bool.false_eq_true, if_false]
  exact Int.emod_eq_of_lt (by omega) (by exact_mod_cast h2)

theorem iand_127 {x : Int} (h0 : 0 ≤ x) (h : x < 256) : iand .u8 x 127 = x % 128 := by
  rw [iand_nat rfl h0 (by simpa [IntKind.bits] using h) (by omega) (by decide)]
  have := Nat.and_two_pow_sub_one_eq_mod x.toNat 7
  have e : ((127 : Int).toNat) = 2 ^ 7 - 1 := rfl
  rw [e, this]; omega
set_option maxRecDepth 100000 in
theorem ior_128 {n : Int} (h0 : 0 ≤ n) (h : n < 256) : ior .u8 n 128 = n % 128 + 128 := by
  rw [ior_nat rfl h0 (by simpa [IntKind.bits] using h) (by omega) (by decide)]
  have key : ∀ m : Fin 256, (m.val ||| 128) = m.val % 128 + 128 := by decide
  have := key ⟨n.toNat, by omega⟩
  simp only at this
  have e : ((128 : Int).toNat) = 128 := rfl
  rw [e, this]; omega
theorem ishr_7 {n : Int} : ishr .u64 n 7 = n / 128 := by
  unfold ishr
  rw [Int.fdiv_eq_ediv_of_nonneg _ (by simp [IntKind.bits])]
  rfl
/-- What stands higher up is put behind. -/
theorem ior_add {a y s : Nat} (ha : a < 2 ^ s) (h : y * 2 ^ s < 18446744073709551616) (ha2 : a < 18446744073709551616) : ior .u64 (a : Int) ((y * 2 ^ s : Nat) : Int) = ((a + y * 2 ^ s : Nat) : Int) := by
  rw [ior_nat rfl (by omega) (by simp [IntKind.bits]; omega) (by omega) (by simp only [IntKind.bits]; omega)]
  have := Nat.shiftLeft_add_eq_or_of_lt ha y
  rw [Nat.shiftLeft_eq] at this
  simp only [Int.toNat_natCast]
  rw [Nat.or_comm, ← this, Nat.add_comm]
theorem ishl_u64 {y : Int} {s : Nat} (hs : s ≤ 64) : ishl .u64 y s = (y * 2 ^ s) % 18446744073709551616 := by
  unfold ishl
  rw [wrap_is_u64]
  have : min (s : Int).toNat IntKind.u64.bits = s := by simp [IntKind.bits]; omega
  rw [this]
end Go.Sy
namespace Go.Sy
/-- What a call leaves may be held as memory that turns no more. -/
theorem Fc.fz {P : Program} {k : FuncId} {al : List PV} {h : List (Nat × Ob)} {x : PV} {h1 : List (Nat × Ob)} (hf : Fc P k al h x h1) (ts : List Tk) : Fc P k al h (x.scrub (Ffz (fzOf ts)) some) (scrubO (Ffz (fzOf ts)) some h1) := by
  refine ⟨hf.ok, fun g w vs a1 a2 a3 => CallsIn.mono (hf.run g w vs a1 a2 a3) ?_⟩
  rintro e w' ⟨v, y, g', h', rfl, ⟨rfl, rfl⟩, b1, b2, b3, b4⟩
  have hs0 : Sim g' ⟨[], h', 0⟩ ⟨#[], []⟩ w' := ⟨fun s => by show Rep g' w' .dead _; exact .dead _, rfl, b2⟩
  exact ⟨v, _, g'.fz (fzOf ts), _, rfl, ⟨rfl, rfl⟩, b1.scrub (Turns.fz g' (fzOf ts) w'), (hs0.fz (fzOf ts)).heap, b3.fz _, b4.trans (Ext.fz g' _ w')⟩
end Go.Sy

/-! Readers, as plain values. -/
namespace Go.Sy

structure WS where
  nl : Bool
  b : List Int
  fail : Int
structure WS.Ok (s : WS) : Prop where
  nil : s.nl = true → s.b = []
  bytes : InB s.b
  len : s.b.length ≤ 1000000
def WS.num (s : WS) : Nat × WS := if s.fail ≠ 0 then (0, s) else if (tk s.b).2.2 ≠ 0 then (0, { s with fail := (tk s.b).2.2 }) else ((tk s.b).1, { s with b := s.b.drop (tk s.b).2.1 })
def WS.text (s : WS) (limit : Int) : (Bool × List Int) × WS :=
  if s.fail ≠ 0 then ((true, []), s)
  else if (tk s.b).2.2 ≠ 0 then ((true, []), { s with fail := (tk s.b).2.2 })
  else if max 0 limit < ((tk s.b).1 : Int) then ((true, []), { s with fail := 4 })
  else if (s.b.length : Int) - (tk s.b).2.1 < ((tk s.b).1 : Int) then ((true, []), { s with fail := 2 })
  else ((false, (s.b.drop (tk s.b).2.1).take (tk s.b).1), { s with b := s.b.drop ((tk s.b).2.1 + (tk s.b).1) })
def WS.fin (s : WS) : Int := if s.fail = 0 ∧ 0 < s.b.length then 5 else s.fail

theorem tk_spec (b : List Int) (hb : InB b) : (tk b).2.1 ≤ b.length ∧ (tk b).2.1 ≤ 10 ∧ (tk b).1 < 18446744073709551616 ∧ ((tk b).2.2 = 0 ∨ (tk b).2.2 = 2 ∨ (tk b).2.2 = 3) ∧ ((tk b).2.2 ≠ 0 → (tk b).1 = 0 ∧ (tk b).2.1 = 0) ∧ ((tk b).2.2 = 0 → 0 < (tk b).2.1) := by
  obtain ⟨h1, h2, h3, h4⟩ := lead_spec 10 b
  unfold tk
  split
  · simp
  · split
    · simp
    · split
      · simp
      · rename_i a1 a2 a3
        refine ⟨by simp; omega, by simp; omega, ?_, .inl rfl, by simp, by simp⟩
        have hk : lead 10 b < b.length := by omega
        have := (form_iff (fun x hx => hb x hx) hk (by omega) (fun i h hi => h3 i h hi) (h4 (by omega) hk)).2 (by
          rw [List.getD_eq_getElem?_getD, List.getElem?_eq_getElem hk] at a3
          simpa using a3)
        have hv := congrArg val this
        rw [val_enc] at hv
        simp only
        omega
theorem WS.num_ok {s : WS} (h : s.Ok) : s.num.2.Ok := by
  obtain ⟨h1, h2, h3⟩ := id h
  unfold WS.num
  split
  · exact h
  · split
    · exact ⟨h1, h2, h3⟩
    · exact ⟨fun e => by simp [h1 e], h2.drop _, by simp; omega⟩
theorem WS.text_ok {s : WS} (h : s.Ok) (limit : Int) : (s.text limit).2.Ok := by
  obtain ⟨h1, h2, h3⟩ := id h
  unfold WS.text
  split
  · exact h
  · split
    · exact ⟨h1, h2, h3⟩
    · split
      · exact ⟨h1, h2, h3⟩
      · split
        · exact ⟨h1, h2, h3⟩
        · exact ⟨fun e => by simp [h1 e], h2.drop _, by simp; omega⟩
end Go.Sy

/-! Rows: copies, comparison. -/
namespace Go.Proofs.Ytbialojkkhkjeaa
open Go.Sy
theorem mixed : Try.prog.follows .mixedOrders = true := by rfl
theorem wrap64 {n : Int} (h1 : -9223372036854775808 ≤ n) (h2 : n < 9223372036854775808) : IntKind.i64.wrap n = n := by
  simp [IntKind.wrap, IntKind.signed, IntKind.bits]
  omega

theorem max_i64 (P : Program) (ty : TypeId) (ats : Array TypeId) (a b : Int) : pureOf P (Builtin.max_ ats ty #[.int .i64 a, .int .i64 b]) = some (.int .i64 (max a b)) := by
  simp [Builtin.max_, Builtin.max2]
  show some (Value.int IntKind.i64 (if a < b then b else a)) = _
  by_cases h : a < b
  · rw [if_pos h, Int.max_eq_right (by omega)]
  · rw [if_neg h, Int.max_eq_left (by omega)]

set_option maxRecDepth 100000 in
theorem clone_fn (nl : Bool) (xs : List Int) (hn : nl = true → xs = []) (hl : xs.length ≤ 140737488355328) : Fc Try.prog 51 [.sl .imm nl 1 (u8s xs)] [] (.sl (.own (.loc 5)) nl 1 (u8s xs)) [] := by
  refine Fc.of (anys _ []) [] mixed Try.func51 rfl (by rfl) (by simp [Try.ntmps51]) (by decide) ?_
  simp -implicitDefEqProofs -dsimp [Try.ntmps51, binPV]
  refine Cnd.mk (fun h => ?_) (fun h => ?_)
  · subst h
    simp [hn rfl]
  · subst h
    simp [hl]

theorem fr_u8s (n : Nat) (nl : Bool) (xs : List Int) : Fr (.sl (.own (.loc n)) nl 1 (u8s xs)) := .row n _ _ _ fun x hx y hy => by
  simp only [u8s, ints, List.mem_map] at hx
  obtain ⟨n, _, rfl⟩ := hx
  simp [PV.comps] at hy
  exact ⟨_, hy⟩

theorem take_same {xs ys : List Int} {i : Nat} (h1 : i < xs.length) (h2 : i < ys.length) (ht : xs.take i = ys.take i) (he : xs[i] = ys[i]) : xs.take (i + 1) = ys.take (i + 1) := by
  rw [List.take_succ_eq_append_getElem h1, List.take_succ_eq_append_getElem h2, ht, he]

set_option maxRecDepth 100000 in
set_option maxHeartbeats 1000000 in
theorem same_fn (n1 n2 : Bool) (xs ys : List Int) (hl : xs.length < 9223372036854775807) : Fc Try.prog 15 [.sl .imm n1 1 (u8s xs), .sl .imm n2 1 (u8s ys)] [] (.lit (.bool (decide (xs = ys)))) [] := by
  refine Fc.of (anys _ []) sch15 mixed Try.func15 rfl (by rfl) (by simp [Try.ntmps15]) (by decide) ?_
  simp -implicitDefEqProofs -dsimp [Try.ntmps15]
  refine Cnd.mk (fun h => ?_) (fun h => ?_)
  · have h : ¬ xs = ys := by rintro rfl; simp at h
    simp -implicitDefEqProofs -dsimp [h]
  · have h : xs.length = ys.length := by simp at h; omega
    simp -implicitDefEqProofs -dsimp
    refine LpK.mk (anys _ []) mixed (fun i : Nat => i ≤ xs.length ∧ xs.take i = ys.take i) (fun i => ⟨[(0, .sl .imm n1 1 (u8s xs)), (1, .sl .imm n2 1 (u8s ys)), (5, .lit (.int .i64 i))], [], 26⟩) (fun i => xs.length - i) 0 (by simp) (by simp -implicitDefEqProofs -dsimp) ?_
    rintro i ⟨hi, ht⟩
    by_cases hlt : i < xs.length
    · have hlt2 : i < ys.length := by omega
      by_cases he : xs[i] = ys[i]
      · have hw : IntKind.i64.wrap ((i : Int) + 1) = ((i + 1 : Nat) : Int) := wrap64 (by omega) (by omega)
        simp -implicitDefEqProofs -dsimp [hlt, hlt2, he, hw]
        exact .mk (i + 1) ⟨by omega, take_same hlt hlt2 ht he⟩ (by omega) (by simp -implicitDefEqProofs -dsimp)
      · have hn : ¬ xs = ys := by rintro rfl; exact he rfl
        simp -implicitDefEqProofs -dsimp [hlt, hlt2, he, hn]
    · have hn : xs = ys := by rwa [List.take_of_length_le (by omega), List.take_of_length_le (by omega)] at ht
      subst hn
      simp -implicitDefEqProofs -dsimp [hlt]
end Go.Proofs.Ytbialojkkhkjeaa

/-! The wire: numbers and texts as bytes. -/
namespace Go.Proofs.Ytbialojkkhkjeaa
open Go.Sy

set_option maxRecDepth 100000 in
set_option maxHeartbeats 1000000 in
theorem num_fn (nl : Bool) (b : List Int) (n : Nat) (hn : nl = true → b = []) (hb : b.length ≤ 10000000) (h : n < 18446744073709551616) :
    Fc Try.prog 42 [.sl .imm nl 1 (u8s b), .lit (.int .u64 n)] [] (.sl (.own (.loc 1070)) false 1 (u8s (b ++ enc n))) [] := by
  refine Fc.of (anys _ [51]) [] mixed Try.func42 rfl (by rfl) (by simp [Try.ntmps42]) (by decide) ?_
  simp -implicitDefEqProofs -dsimp [Try.ntmps42]
  refine CallK.fresh ?_
  simp -implicitDefEqProofs -dsimp
  refine CallQ.same (clone_fn nl b hn (by omega)) rfl ?_
  simp -implicitDefEqProofs -dsimp [fr_u8s]
  refine LpK.mk (anys _ []) mixed (fun (m, n', l) => m < 18446744073709551616 ∧ l ++ enc m = b ++ enc n ∧ l.length + (enc m).length = b.length + (enc n).length)
    (fun ((m, n', l) : Nat × Bool × List Int) => ⟨[(1, .lit (.int .u64 m)), (5, .sl (.own (.loc 1070)) n' 1 (u8s l))], [], 23⟩) (fun (m, _) => m) (n, nl, b) ⟨h, rfl, rfl⟩ (by simp -implicitDefEqProofs -dsimp) ?_
  rintro ⟨m, n', l⟩ ⟨hm, he, hlen⟩
  have hle := enc_u64 h
  have ht : l.length + 1 ≤ 140737488355328 := by omega
  have hc : IntKind.u8.wrap (m : Int) = (m : Int) % 256 := wrap_is_u8 _
  by_cases h1 : 128 ≤ (m : Int)
  · have h2 : ior .u8 ((m : Int) % 256) 128 = (m : Int) % 128 + 128 := by rw [ior_128 (by omega) (by omega)]; omega
    have h3 : ishr .u64 (m : Int) 7 = ((m / 128 : Nat) : Int) := by rw [ishr_7]; omega
    simp -implicitDefEqProofs -dsimp [h1, hc, h2, h3, ht]
    have e1 : enc m = ((m % 128 + 128 : Nat) : Int) :: enc (m / 128) := enc_ge (by omega)
    refine .mk (m / 128, false, l ++ [(m : Int) % 128 + 128]) ⟨by omega, ?_, ?_⟩ (by simp; omega) (by simp -implicitDefEqProofs -dsimp [ints])
    · rw [← he, e1]; simp
    · rw [← hlen, e1]; simp; omega
  · have h2 : (m : Int) % 256 = m := by omega
    have e1 : enc m = [(m : Int)] := enc_lt (by omega)
    have e2 : u8s l ++ [PV.lit (.int .u8 (m : Int))] = u8s (b ++ enc n) := by rw [← he, e1]; simp [ints]
    simp -implicitDefEqProofs -dsimp [h1, hc, h2, ht, e2]

theorem num_fn' (nl : Bool) (b : List Int) (n : Int) (hn : nl = true → b = []) (hb : b.length ≤ 10000000) (h0 : 0 ≤ n) (h : n < 18446744073709551616) :
    Fc Try.prog 42 [.sl .imm nl 1 (u8s b), .lit (.int .u64 n)] [] (.sl (.own (.loc 1070)) false 1 (u8s (b ++ enc n.toNat))) [] := by
  have := num_fn nl b n.toNat hn hb (by omega)
  rwa [show ((n.toNat : Nat) : Int) = n by omega] at this

set_option maxRecDepth 100000 in
set_option maxHeartbeats 1000000 in
theorem rnum_fn (nl : Bool) (b : List Int) (n : Nat) (hb : b.length ≤ 10000000) (h : n < 18446744073709551616) :
    Fc Try.prog 46 [.sl .imm nl 1 (u8s b), .lit (.int .u64 n)] [] (.sl (.own (.loc 6)) false 1 (u8s (b ++ enc n))) [] := by
  refine Fc.of (anys _ []) [] mixed Try.func46 rfl (by rfl) (by simp [Try.ntmps46]) (by decide) ?_
  have hb1 : b.length ≤ 140737488355328 := by omega
  simp -implicitDefEqProofs -dsimp [Try.ntmps46, hb1]
  refine LpK.mk (anys _ []) mixed (fun (m, l) => m < 18446744073709551616 ∧ l ++ enc m = b ++ enc n ∧ l.length + (enc m).length = b.length + (enc n).length)
    (fun ((m, l) : Nat × List Int) => ⟨[(1, .lit (.int .u64 m)), (5, .sl (.own (.loc 6)) false 1 (u8s l))], [], 25⟩) (fun (m, _) => m) (n, b) ⟨h, rfl, rfl⟩ (by simp -implicitDefEqProofs -dsimp) ?_
  rintro ⟨m, l⟩ ⟨hm, he, hlen⟩
  have hle := enc_u64 h
  have ht : l.length + 1 ≤ 140737488355328 := by omega
  have hc : IntKind.u8.wrap (m : Int) = (m : Int) % 256 := wrap_is_u8 _
  by_cases h1 : 127 < (m : Int)
  · have h3 : (m : Int).tmod 128 = (m : Int) % 128 := Int.tmod_eq_emod_of_nonneg (by omega)
    have h4 : IntKind.u64.wrap (128 + (m : Int) % 128) = 128 + (m : Int) % 128 := by rw [wrap_is_u64]; omega
    have h5 : IntKind.u8.wrap (128 + (m : Int) % 128) = 128 + (m : Int) % 128 := by rw [wrap_is_u8]; omega
    have h6 : iquo .u64 (m : Int) 128 = (m : Int) / 128 := by
      unfold iquo
      rw [wrap_is_u64, Int.tdiv_eq_ediv_of_nonneg (by omega)]; omega
    simp -implicitDefEqProofs -dsimp [h1, h3, h4, h5, h6, ht]
    have e1 : enc m = ((m % 128 + 128 : Nat) : Int) :: enc (m / 128) := enc_ge (by omega)
    refine .mk (m / 128, l ++ [128 + (m : Int) % 128]) ⟨by omega, ?_, ?_⟩ (by simp; omega) (by simp -implicitDefEqProofs -dsimp [ints])
    · rw [← he, e1]; simp; omega
    · rw [← hlen, e1]; simp; omega
  · have h2 : (m : Int) % 256 = m := by omega
    have e1 : enc m = [(m : Int)] := enc_lt (by omega)
    have e2 : u8s l ++ [PV.lit (.int .u8 (m : Int))] = u8s (b ++ enc n) := by rw [← he, e1]; simp [ints]
    simp -implicitDefEqProofs -dsimp [h1, hc, h2, ht, e2]

set_option maxRecDepth 100000 in
set_option maxHeartbeats 1000000 in
theorem text_fn (nl n2 : Bool) (b x : List Int) (hn : nl = true → b = []) (hb : b.length ≤ 10000000) (hx : x.length ≤ 10000000) :
    Fc Try.prog 45 [.sl .imm nl 1 (u8s b), .sl .imm n2 1 (u8s x)] [] (.sl (.own (.loc 1090)) false 1 (u8s (b ++ enc x.length ++ x))) [] := by
  have hw : IntKind.u64.wrap (x.length : Int) = x.length := by rw [wrap_is_u64]; omega
  have hle := enc_u64 (n := x.length) (by omega)
  have ht : b.length + (enc x.length).length + x.length ≤ 140737488355328 := by omega
  have ht2 : b.length + ((enc x.length).length + x.length) ≤ 140737488355328 := by omega
  refine Fc.of (anys _ [42]) [] mixed Try.func45 rfl (by rfl) (by simp [Try.ntmps45]) (by decide) ?_
  simp -implicitDefEqProofs -dsimp [Try.ntmps45, hw]
  refine CallK.fresh ?_
  simp -implicitDefEqProofs -dsimp
  refine CallQ.same (num_fn nl b x.length hn hb (by omega)) rfl ?_
  simp -implicitDefEqProofs -dsimp [fr_u8s, ht, ht2]

set_option maxRecDepth 100000 in
set_option maxHeartbeats 1000000 in
theorem rtext_fn (nl n2 : Bool) (b x : List Int) (hb : b.length ≤ 10000000) (hx : x.length ≤ 10000000) :
    Fc Try.prog 47 [.sl .imm nl 1 (u8s b), .sl .imm n2 1 (u8s x)] [] (.sl (.own (.loc 1090)) false 1 (u8s (b ++ enc x.length ++ x))) [] := by
  have hw : IntKind.u64.wrap (x.length : Int) = x.length := by rw [wrap_is_u64]; omega
  have hle := enc_u64 (n := x.length) (by omega)
  have ht : b.length + (enc x.length).length + x.length ≤ 140737488355328 := by omega
  have ht2 : b.length + ((enc x.length).length + x.length) ≤ 140737488355328 := by omega
  refine Fc.of (anys _ [46]) [] mixed Try.func47 rfl (by rfl) (by simp [Try.ntmps47]) (by decide) ?_
  simp -implicitDefEqProofs -dsimp [Try.ntmps47, hw]
  refine CallK.fresh ?_
  simp -implicitDefEqProofs -dsimp
  refine CallQ.same (rnum_fn nl b x.length hb (by omega)) rfl ?_
  simp -implicitDefEqProofs -dsimp [fr_u8s, ht, ht2]
end Go.Proofs.Ytbialojkkhkjeaa

/-! The wire: the number that bytes begin with. -/
namespace Go.Proofs.Ytbialojkkhkjeaa
open Go.Sy

theorem min_i64 (P : Program) (ty : TypeId) (ats : Array TypeId) (a b : Int) : pureOf P (Builtin.min_ ats ty #[.int .i64 a, .int .i64 b]) = some (.int .i64 (min a b)) := by
  simp [Builtin.min_, Builtin.min2]
  show some (Value.int IntKind.i64 (if b < a then b else a)) = _
  by_cases h : b < a
  · rw [if_pos h, Int.min_eq_right (by omega)]
  · rw [if_neg h, Int.min_eq_left (by omega)]

set_option maxRecDepth 100000 in
set_option maxHeartbeats 4000000 in
theorem take_fn (nl : Bool) (b : List Int) (hb : InB b) (hl : b.length ≤ 10000000) :
    Fc Try.prog 62 [.sl .imm nl 1 (u8s b)] [] (.tup [.lit (.int .u64 (tk b).1), .lit (.int .i64 (tk b).2.1), .lit (.int .i64 (tk b).2.2)]) [] := by
  refine Fc.of (anys _ []) [] mixed Try.func62 rfl (by rfl) (by simp [Try.ntmps62]) (by decide) ?_
  obtain ⟨q, hq⟩ : ∃ q : Nat, q = min b.length 10 := ⟨_, rfl⟩
  have hq1 : min (b.length : Int) 10 = q := by omega
  have hq2 : min q b.length = q := by omega
  have hq3 : (q : Int) ≤ b.length := by omega
  simp -implicitDefEqProofs -dsimp [Try.ntmps62, litL, min_i64, hq1, hq2, hq3]
  refine LpK.mk (anys _ []) mixed (fun ((i, n) : Nat × Int) => i ≤ q ∧ (∀ (j : Nat) (h : j < b.length), j < i → 128 ≤ b[j]) ∧ (i ≤ 9 → n = (val (b.take i) : Int)))
    (fun ((i, n) : Nat × Int) => ⟨[(0, .sl .imm nl 1 (u8s b)), (5, .lit (.int .u64 n)), (12, .sl .imm nl 1 (u8s (b.take q))), (13, .lit (.int .i64 q)), (14, .lit (.int .i64 i))], [], 52⟩) (fun (i, _) => q - i) ((0, 0) : Nat × Int) ?_ (by simp -implicitDefEqProofs -dsimp) ?_
  · exact ⟨by omega, fun j _ h => by omega, fun _ => rfl⟩
  rintro ⟨i, n⟩ ⟨hi, hall, hn⟩
  by_cases hlt : i < q
  · have hib : i < b.length := by omega
    have hlt2 : (i : Int) < q := by omega
    have hx := hb b[i] (List.getElem_mem hib)
    obtain ⟨x, hxe⟩ : ∃ x, x = b[i] := ⟨_, rfl⟩
    rw [← hxe] at hx
    have hg : (b.take q)[i]? = some x := by rw [List.getElem?_take_of_lt hlt, List.getElem?_eq_getElem hib, hxe]
    have hw1 : IntKind.i64.wrap (7 * (i : Int)) = 7 * i := wrap64 (by omega) (by omega)
    have hw2 : IntKind.i64.wrap ((i : Int) + 1) = (i : Int) + 1 := wrap64 (by omega) (by omega)
    have h127 := iand_127 hx.1 hx.2
    have hc : IntKind.u64.wrap (x % 128) = x % 128 := by rw [wrap_is_u64]; omega
    have h7 : (0 : Int) ≤ 7 * (i : Int) := by omega
    have hn' := hn (by omega)
    have hs : ishl .u64 (x % 128) (7 * (i : Int)) = ((x % 128) * 2 ^ (7 * i)) % 18446744073709551616 := by
      have := ishl_u64 (y := x % 128) (s := 7 * i) (by omega)
      rwa [show ((7 * i : Nat) : Int) = 7 * (i : Int) by omega] at this
    have hv := val_snoc (b.take i) x
    rw [show (b.take i).length = i by rw [List.length_take]; omega, show b.take i ++ [x] = b.take (i + 1) by rw [List.take_succ_eq_append_getElem hib, hxe]] at hv
    have hp : 128 ^ i = 2 ^ (7 * i) := by rw [show (128 : Nat) = 2 ^ 7 from rfl, ← Nat.pow_mul]
    have hvl := val_lt (b.take i)
    rw [show (b.take i).length = i by rw [List.length_take]; omega, hp] at hvl
    -- what the number becomes, where it fits
    have hor : (x % 128).toNat * 2 ^ (7 * i) < 18446744073709551616 → ior .u64 n (ishl .u64 (x % 128) (7 * (i : Int))) = val (b.take (i + 1)) := by
      intro hfit
      have hbig : (2 : Nat) ^ (7 * i) ≤ 2 ^ 63 := Nat.pow_le_pow_right (by omega) (by omega)
      have e1 : (x % 128) * 2 ^ (7 * i) = (((x % 128).toNat * 2 ^ (7 * i) : Nat) : Int) := by
        rw [Int.natCast_mul, Int.natCast_pow, Int.toNat_of_nonneg (by omega)]; rfl
      have e2 : (((x % 128).toNat * 2 ^ (7 * i) : Nat) : Int) % 18446744073709551616 = (((x % 128).toNat * 2 ^ (7 * i) : Nat) : Int) := Int.emod_eq_of_lt (Int.natCast_nonneg _) (Int.ofNat_lt.2 hfit)
      rw [hs, e1, e2, hn', ior_add hvl hfit (by omega), hv, hp]
    by_cases hx128 : 128 ≤ x
    · simp -implicitDefEqProofs -dsimp [hlt2, hlt, hg, hw1, hw2, h127, hc, h7, hx128]
      refine .mk (i + 1, ior .u64 n (ishl .u64 (x % 128) (7 * (i : Int)))) ⟨by omega, fun j h hj => ?_, fun h9 => ?_⟩ (by simp; omega) (by simp -implicitDefEqProofs -dsimp)
      · rcases Nat.lt_or_ge j i with h' | h'
        · exact hall j h h'
        · have : j = i := by omega
          subst this
          omega
      · refine hor ?_
        have h1 : (x % 128).toNat ≤ 127 := by omega
        have h2 : (2 : Nat) ^ (7 * i) ≤ 2 ^ 56 := Nat.pow_le_pow_right (by omega) (by omega)
        have := Nat.mul_le_mul h1 h2
        omega
    · have hlead : lead 10 b = i := lead_eq (by omega) (by omega) (fun j h hj => hall j h hj) (fun _ h => by omega)
      have hgd : b.getD i 0 = x := by rw [List.getD_eq_getElem?_getD, List.getElem?_eq_getElem hib, hxe]; rfl
      have hx128' : ¬ 128 ≤ x := hx128
      have hne1 : ¬ i = 10 := by omega
      have hne2 : ¬ i = b.length := by omega
      by_cases hbad : (0 < i ∧ x = 0) ∨ (i = 9 ∧ 1 < x)
      · have hT : tk b = (0, 0, 3) := by
          simp only [tk, hlead, hgd, if_neg hne1, if_neg hne2, if_pos hbad]
        by_cases hb1 : 0 < i ∧ x = 0
        · have g1 : 0 < i := hb1.1
          have g2 : x = 0 := hb1.2
          have g3 : (i : Int) ≠ 0 := by omega
          subst g2
          simp -implicitDefEqProofs -dsimp [hlt2, hlt, hg, hw1, hw2, hc, h7, g1, g3, hT]
        · have g2 : 1 < x := by omega
          have g3 : ¬ x = 0 := by omega
          have g4 : 0 < i := by omega
          have g5 : i = 9 := by omega
          have g7 : decide ((i : Int) = 9) = true := by simp; omega
          simp -implicitDefEqProofs -dsimp [hlt2, hlt, hg, hw1, hw2, h127, hc, h7, hx128, g2, g3, g4, g7, hT]
      · have hT : tk b = (val (b.take (i + 1)), i + 1, 0) := by
          simp only [tk, hlead, hgd, if_neg hne1, if_neg hne2, if_neg hbad]
        have hfit : (x % 128).toNat * 2 ^ (7 * i) < 18446744073709551616 := by
          rcases Nat.lt_or_ge i 9 with h | h
          · have h1 : (x % 128).toNat ≤ 127 := by omega
            have h2 : (2 : Nat) ^ (7 * i) ≤ 2 ^ 56 := Nat.pow_le_pow_right (by omega) (by omega)
            have := Nat.mul_le_mul h1 h2
            omega
          · have h9 : i = 9 := by omega
            have h1 : (x % 128).toNat ≤ 1 := by omega
            subst h9
            omega
        have ho := hor hfit
        by_cases g1 : i = 0
        · have g3 : ¬ 0 < i := by omega
          have g7 : ¬ (i : Int) = 9 := by omega
          simp -implicitDefEqProofs -dsimp [hlt2, hlt, hg, hw1, hw2, h127, hc, h7, hx128, hT, ho, g3, g7]
        · have g2 : ¬ x = 0 := by omega
          have g3 : 0 < i := by omega
          have g4 : (i : Int) ≠ 0 := by omega
          by_cases g5 : i = 9
          · have g6 : ¬ 1 < x := by omega
            have g7 : decide ((i : Int) = 9) = true := by simp; omega
            simp -implicitDefEqProofs -dsimp [hlt2, hlt, hg, hw1, hw2, h127, hc, h7, hx128, hT, ho, g2, g3, g4, g6, g7]
          · have g7 : ¬ (i : Int) = 9 := by omega
            simp -implicitDefEqProofs -dsimp [hlt2, hlt, hg, hw1, hw2, h127, hc, h7, hx128, hT, ho, g2, g3, g4, g5, g7]
  · have hi : i = q := by omega
    subst hi
    by_cases h10 : 10 ≤ (b.length : Int)
    · have hlead : lead 10 b = 10 := lead_eq (by omega) (by omega) (fun j h hj => hall j h (by omega)) (by omega)
      have hT : tk b = (0, 0, 3) := by simp [tk, hlead]
      simp -implicitDefEqProofs -dsimp [h10, hT]
    · have hlead : lead 10 b = b.length := lead_eq (by omega) (by omega) (fun j h hj => hall j h (by omega)) (by omega)
      have hT : tk b = (0, 0, 2) := by
        have : ¬ b.length = 10 := by omega
        simp [tk, hlead, this]
      simp -implicitDefEqProofs -dsimp [h10, hT]
end Go.Proofs.Ytbialojkkhkjeaa

/-! The wire: readers. -/
namespace Go.Proofs.Ytbialojkkhkjeaa
open Go.Sy

def wcells (s : WS) : List PV := [.sl .imm s.nl 1 (u8s s.b), .lit (.int .i64 s.fail)]
def wcellsO (s : WS) : Option Own → List PV
  | some o => [.sl o s.nl 1 (u8s s.b), .lit (.int .i64 s.fail)]
  | none => [.dead, .lit (.int .i64 s.fail)]
@[simp] theorem wcellsO_imm (s : WS) : wcellsO s (some .imm) = wcells s := (rfl)
@[simp ↓] theorem ws_scrub (F : Own → Option Own) (p : Nat → Option Nat) (s : WS) : PV.scrubL F p (wcells s) = wcellsO s (F .imm) := by
  simp only [wcells, PV.scrubL, PV.scrub, wcellsO]
  cases F .imm <;> rfl
@[simp ↓] theorem ws_lend (s : WS) : lendCells (wcells s) = some (wcells s) := by
  simp [wcells, lendCells, lendCell, Value.oneCell']
@[simp ↓] theorem ws_ids (s : WS) : idsOfL (wcells s) = [] := by simp [wcells]
@[simp ↓] theorem ws_toks (s : WS) : toksOfL (wcells s) = [] := by simp [wcells]
@[simp] theorem ws_get0 (s : WS) : (wcells s)[0]? = some (.sl .imm s.nl 1 (u8s s.b)) := rfl
@[simp] theorem ws_get1 (s : WS) : (wcells s)[1]? = some (.lit (.int .i64 s.fail)) := rfl

set_option maxRecDepth 100000 in
theorem fail_fn (s : WS) : Fc Try.prog 53 [.cur .imm (wcells s)] [] (.lit (.int .i64 s.fail)) [] := by
  refine Fc.of (anys _ []) [] mixed Try.func53 rfl (by rfl) (by simp [Try.ntmps53]) (by decide) ?_
  simp -implicitDefEqProofs -dsimp [Try.ntmps53, wcells]
set_option maxRecDepth 100000 in
theorem end_fn (s : WS) : Fc Try.prog 38 [.cur .imm (wcells s)] [] (.lit (.int .i64 s.fin)) [] := by
  refine Fc.of (anys _ []) [] mixed Try.func38 rfl (by rfl) (by simp [Try.ntmps38]) (by decide) ?_
  by_cases h : s.fail = 0
  · by_cases h2 : 0 < s.b.length
    · simp -implicitDefEqProofs -dsimp [Try.ntmps38, wcells, h, h2, WS.fin]
    · simp -implicitDefEqProofs -dsimp [Try.ntmps38, wcells, h, h2, WS.fin]
  · simp -implicitDefEqProofs -dsimp [Try.ntmps38, wcells, h, WS.fin]

set_option maxRecDepth 100000 in
theorem open_fn0 (nl : Bool) (b : List Int) (hn : nl = true → b = []) (hb : b.length ≤ 1000000) : Fc Try.prog 32 [.sl .imm nl 1 (u8s b)] [] (.ptr 6 0) [(6, .cells [.sl (.own (.cell 6 0)) nl 1 (u8s b), .lit (.int .i64 0)])] := by
  refine Fc.of (anys _ [51]) [] mixed Try.func32 rfl (by rfl) (by simp [Try.ntmps32]) (by decide) ?_
  simp -implicitDefEqProofs -dsimp [Try.ntmps32]
  refine CallK.fresh ?_
  simp -implicitDefEqProofs -dsimp
  refine CallQ.same (clone_fn nl b hn (by omega)) rfl ?_
  simp -implicitDefEqProofs -dsimp [fr_u8s]
theorem open_fn (nl : Bool) (b : List Int) (hn : nl = true → b = []) (hb : b.length ≤ 1000000) : Fc Try.prog 32 [.sl .imm nl 1 (u8s b)] [] (.ptr 6 0) [(6, .cells (wcells ⟨nl, b, 0⟩))] := by
  have := (open_fn0 nl b hn hb).fz [.cell 6 0]
  simpa [fzOf, wcells] using this

set_option maxRecDepth 100000 in
set_option maxHeartbeats 1000000 in
theorem num1_fn (s : WS) (hs : s.Ok) (v : Int) : Fc Try.prog 61 [.ptr 100000 0, .ptr 100001 0] [(100000, .cells [.ptr 100002 0]), (100001, .cells [.lit (.int .u64 v)]), (100002, .cells (wcells s))]
    (.lit (.int .i64 (tk s.b).2.2)) [(100000, .cells [.ptr 100002 0]), (100001, .cells [.lit (.int .u64 (tk s.b).1)]), (100002, .cells (wcells { s with b := s.b.drop (tk s.b).2.1 }))] := by
  obtain ⟨h1, h2, h3, h4, h5⟩ := tk_spec s.b hs.bytes
  have hk : ((tk s.b).2.1 : Int) ≤ s.b.length := by omega
  refine Fc.of (anys _ [62]) sch61 mixed Try.func61 rfl (by rfl) (by simp [Try.ntmps61]) (by decide) ?_
  simp -implicitDefEqProofs -dsimp [Try.ntmps61]
  refine CallK.reads ?_
  simp -implicitDefEqProofs -dsimp
  refine CallQ.same (take_fn s.nl s.b hs.bytes (by have := hs.len; omega)) rfl ?_
  simp -implicitDefEqProofs -dsimp [plain_tup, h1, wcells]

set_option maxRecDepth 100000 in
set_option maxHeartbeats 1000000 in
theorem try1_fn (s : WS) (hs : s.Ok) : Fc Try.prog 60 [.ptr 100000 0, .fn (.func 61) [] [.ptr 100001 0, .ptr 100002 0]] [(100000, .cells (wcells s)), (100001, .cells [.ptr 100000 0]), (100002, .cells [.lit (.int .u64 0)])]
    (.tup []) [(100000, .cells (wcells s.num.2)), (100001, .cells [.ptr 100000 0]), (100002, .cells [.lit (.int .u64 s.num.1)])] := by
  obtain ⟨h1, h2, h3, h4, h5, h6⟩ := tk_spec s.b hs.bytes
  refine Fc.of (anys _ [61]) [] mixed Try.func60 rfl (by rfl) (by simp [Try.ntmps60]) (by decide) ?_
  by_cases hf : s.fail = 0
  · by_cases he : (tk s.b).2.2 = 0
    · have e : s.num = ((tk s.b).1, ⟨s.nl, s.b.drop (tk s.b).2.1, 0⟩) := by simp [WS.num, hf, he]
      simp -implicitDefEqProofs -dsimp [Try.ntmps60, hf]
      refine CallK.works ?_
      simp -implicitDefEqProofs -dsimp
      refine CallQ.mk (num1_fn s hs 0) (by simp) ?_
      simp -implicitDefEqProofs -dsimp [he, hf, e, wcells]
    · have e : s.num = (0, ⟨s.nl, s.b, (tk s.b).2.2⟩) := by simp [WS.num, hf, he]
      simp -implicitDefEqProofs -dsimp [Try.ntmps60, hf]
      refine CallK.works ?_
      simp -implicitDefEqProofs -dsimp
      refine CallQ.mk (num1_fn s hs 0) (by simp) ?_
      simp -implicitDefEqProofs -dsimp [he, hf, e, wcells, (h5 he).1]
  · have e : s.num = (0, s) := by simp [WS.num, hf]
    simp -implicitDefEqProofs -dsimp [Try.ntmps60, hf, e]

set_option maxRecDepth 100000 in
set_option maxHeartbeats 1000000 in
theorem wnum_fn (s : WS) (hs : s.Ok) : Fc Try.prog 52 [.ptr 100000 0] [(100000, .cells (wcells s))] (.lit (.int .u64 s.num.1)) [(100000, .cells (wcells s.num.2))] := by
  refine Fc.of (anys _ [60]) [] mixed Try.func52 rfl (by rfl) (by simp [Try.ntmps52]) (by decide) ?_
  simp -implicitDefEqProofs -dsimp [Try.ntmps52]
  refine CallK.works ?_
  simp -implicitDefEqProofs -dsimp
  refine CallQ.mk (try1_fn s hs) (by simp) ?_
  simp -implicitDefEqProofs -dsimp

set_option maxRecDepth 100000 in
set_option maxHeartbeats 1000000 in
theorem text1_fn (s : WS) (hs : s.Ok) (hf : s.fail = 0) (limit : Int) (hl : -9223372036854775808 ≤ limit) (hl2 : limit < 9223372036854775808) :
    Fc Try.prog 63 [.ptr 100000 0, .ptr 100001 0, .ptr 100002 0] [(100000, .cells [.ptr 100003 0]), (100001, .cells [.lit (.int .i64 limit)]), (100002, .cells [.sl .imm true 0 []]), (100003, .cells (wcells s))]
    (.lit (.int .i64 (s.text limit).2.fail)) [(100000, .cells [.ptr 100003 0]), (100001, .cells [.lit (.int .i64 limit)]), (100002, .cells [.sl .imm (s.text limit).1.1 1 (u8s (s.text limit).1.2)]), (100003, .cells (wcells { (s.text limit).2 with fail := 0 }))] := by
  obtain ⟨h1, h2, h3, h4, h5, h6⟩ := tk_spec s.b hs.bytes
  have hlen := hs.len
  have q := Fc.of (P := Try.prog) (args := [.ptr 100000 0, .ptr 100001 0, .ptr 100002 0]) (h := [(100000, .cells [.ptr 100003 0]), (100001, .cells [.lit (.int .i64 limit)]), (100002, .cells [.sl .imm true 0 []]), (100003, .cells (wcells s))])
    (X := .lit (.int .i64 (s.text limit).2.fail)) (H := [(100000, .cells [.ptr 100003 0]), (100001, .cells [.lit (.int .i64 limit)]), (100002, .cells [.sl (.own (.cell 100002 0)) (s.text limit).1.1 1 (u8s (s.text limit).1.2)]), (100003, .cells (wcells { (s.text limit).2 with fail := 0 }))])
    (anys _ [62, 51]) sch63 mixed Try.func63 rfl (by rfl) (by simp [Try.ntmps63]) (by decide) ?_
  · have := q.fz [.cell 100002 0]
    simpa [fzOf] using this
  · simp -implicitDefEqProofs -dsimp [Try.ntmps63]
    refine CallK.reads ?_
    simp -implicitDefEqProofs -dsimp
    refine CallQ.same (take_fn s.nl s.b hs.bytes (by omega)) rfl ?_
    simp -implicitDefEqProofs -dsimp [plain_tup]
    by_cases he : (tk s.b).2.2 = 0
    · have hnl : s.nl = false := by
        cases hn : s.nl with
        | false => rfl
        | true =>
          have h7 := h6 he
          have h8 : s.b.length = 0 := by rw [hs.nil hn]; rfl
          omega
      have hlm : IntKind.u64.wrap (max 0 limit) = max 0 limit := by rw [wrap_is_u64]; omega
      by_cases hlim : max 0 limit < ((tk s.b).1 : Int)
      · have e : s.text limit = ((true, []), ⟨s.nl, s.b, 4⟩) := by simp [WS.text, hf, he, hlim]
        simp -implicitDefEqProofs -dsimp [he, e, litL, max_i64, hlm, hlim, wcells, hf]
      · have hlim' : ¬ max 0 limit < ((tk s.b).1 : Int) := hlim
        have hw1 : IntKind.i64.wrap ((s.b.length : Int) - ((tk s.b).2.1 : Int)) = (s.b.length : Int) - ((tk s.b).2.1 : Int) := wrap64 (by omega) (by omega)
        have hw2 : IntKind.u64.wrap ((s.b.length : Int) - ((tk s.b).2.1 : Int)) = (s.b.length : Int) - ((tk s.b).2.1 : Int) := by rw [wrap_is_u64]; omega
        by_cases hsh : (s.b.length : Int) - ((tk s.b).2.1 : Int) < ((tk s.b).1 : Int)
        · have e : s.text limit = ((true, []), ⟨s.nl, s.b, 2⟩) := by simp only [WS.text, hf, he, ne_eq, not_true, if_false, if_neg hlim, if_pos hsh]
          simp -implicitDefEqProofs -dsimp [he, e, litL, max_i64, hlm, hlim, wcells, hf, hw1, hw2, hsh]
        · have e : s.text limit = ((false, (s.b.drop (tk s.b).2.1).take (tk s.b).1), ⟨s.nl, s.b.drop ((tk s.b).2.1 + (tk s.b).1), 0⟩) := by simp only [WS.text, hf, he, ne_eq, not_true, if_false, if_neg hlim, if_neg hsh]
          have hw3 : IntKind.i64.wrap ((tk s.b).1 : Int) = ((tk s.b).1 : Int) := wrap64 (by omega) (by omega)
          have hw4 : IntKind.i64.wrap (((tk s.b).2.1 : Int) + ((tk s.b).1 : Int)) = (((tk s.b).2.1 + (tk s.b).1 : Nat) : Int) := by rw [wrap64 (by omega) (by omega)]; omega
          generalize tk s.b = T at *
          obtain ⟨n, k, ee⟩ := T
          simp only at *
          have c1 : (k : Int) ≤ (k : Int) + (n : Int) := by omega
          have c2 : (k : Int) + (n : Int) ≤ s.b.length := by omega
          have c3 : ((k : Int) + (n : Int)).toNat = k + n := by omega
          have c4 : (s.b.take (k + n)).drop k = (s.b.drop k).take n := by rw [List.drop_take]; congr 1; omega
          have c5 : ((s.b.drop k).take n).length ≤ 140737488355328 := by simp; omega
          have c6 : (0 : Int) ≤ (k : Int) + (n : Int) := by omega
          simp -implicitDefEqProofs -dsimp [he, e, litL, max_i64, hlm, hlim, wcells, hf, hw1, hw2, hw3, hw4, hsh, c1, c2, c3, c4, c6]
          refine CallK.fresh ?_
          simp -implicitDefEqProofs -dsimp
          refine CallQ.same (clone_fn s.nl ((s.b.drop k).take n) (by rw [hnl]; simp) c5) rfl ?_
          simp -implicitDefEqProofs -dsimp [fr_u8s, c1, c2, c3, c4, c6, hnl, e, wcells]
    · have e : s.text limit = ((true, []), ⟨s.nl, s.b, (tk s.b).2.2⟩) := by simp [WS.text, hf, he]
      simp -implicitDefEqProofs -dsimp [he, e, wcells, hf]

set_option maxRecDepth 100000 in
set_option maxHeartbeats 1000000 in
theorem try2_fn (s : WS) (hs : s.Ok) (limit : Int) (hl : -9223372036854775808 ≤ limit) (hl2 : limit < 9223372036854775808) :
    Fc Try.prog 60 [.ptr 100000 0, .fn (.func 63) [] [.ptr 100001 0, .ptr 100002 0, .ptr 100003 0]] [(100000, .cells (wcells s)), (100001, .cells [.ptr 100000 0]), (100002, .cells [.lit (.int .i64 limit)]), (100003, .cells [.sl .imm true 0 []])]
    (.tup []) [(100000, .cells (wcells (s.text limit).2)), (100001, .cells [.ptr 100000 0]), (100002, .cells [.lit (.int .i64 limit)]), (100003, .cells [.sl .imm (s.text limit).1.1 1 (u8s (s.text limit).1.2)])] := by
  refine Fc.of (anys _ [63]) [] mixed Try.func60 rfl (by rfl) (by simp [Try.ntmps60]) (by decide) ?_
  by_cases hf : s.fail = 0
  · have hT := text1_fn s hs hf limit hl hl2
    simp -implicitDefEqProofs -dsimp [Try.ntmps60, hf]
    refine CallK.works ?_
    simp -implicitDefEqProofs -dsimp
    refine CallQ.mk hT (by simp) ?_
    by_cases he : (s.text limit).2.fail = 0
    · simp -implicitDefEqProofs -dsimp [he, hf, wcells]
    · have e : (s.text limit).2.b = s.b ∧ (s.text limit).2.nl = s.nl := by
        unfold WS.text at he ⊢
        split
        · exact ⟨rfl, rfl⟩
        · split
          · exact ⟨rfl, rfl⟩
          · split
            · exact ⟨rfl, rfl⟩
            · split
              · exact ⟨rfl, rfl⟩
              · simp_all
      simp -implicitDefEqProofs -dsimp [he, hf, e.1, e.2, wcells]
  · have e : s.text limit = ((true, []), s) := by simp [WS.text, hf]
    simp -implicitDefEqProofs -dsimp [Try.ntmps60, hf, e]

set_option maxRecDepth 100000 in
set_option maxHeartbeats 1000000 in
theorem wtext_fn (s : WS) (hs : s.Ok) (limit : Int) (hl : -9223372036854775808 ≤ limit) (hl2 : limit < 9223372036854775808) :
    Fc Try.prog 56 [.ptr 100000 0, .lit (.int .i64 limit)] [(100000, .cells (wcells s))] (.sl .imm (s.text limit).1.1 1 (u8s (s.text limit).1.2)) [(100000, .cells (wcells (s.text limit).2))] := by
  refine Fc.of (anys _ [60]) [] mixed Try.func56 rfl (by rfl) (by simp [Try.ntmps56]) (by decide) ?_
  simp -implicitDefEqProofs -dsimp [Try.ntmps56]
  refine CallK.works ?_
  simp -implicitDefEqProofs -dsimp
  refine CallQ.mk (try2_fn s hs limit hl hl2) (by simp) ?_
  simp -implicitDefEqProofs -dsimp
end Go.Proofs.Ytbialojkkhkjeaa

/-! The wire: the document's readers. -/
namespace Go.Sy
/-- A contract holds of arguments that say more. -/
theorem Fc.args {P : Program} {k : FuncId} {xs ys : List PV} {h : List (Nat × Ob)} {x : PV} {h1 : List (Nat × Ob)} (hf : Fc P k xs h x h1) (hw : weakL ys xs) : Fc P k ys h x h1 := by
  refine ⟨hf.ok, fun g w vs a1 a2 a3 => hf.run g w vs a1 a2 ⟨?_, fun i y u hy hu => ?_⟩⟩
  · rw [a3.1, (weakL_get hw).1]
  · obtain ⟨z, hz, hw2⟩ := (weakL_get hw).2 i y hy
    exact hw2.rep (a3.2 i z u hz hu)
end Go.Sy
namespace Go.Proofs.Ytbialojkkhkjeaa
open Go.Sy

/-- What the document's reader has. -/
structure RR where
  nl : Bool
  b : List Int
  pos : Nat
  fail : Int
def rcells (s : RR) : List PV := [.sl .imm s.nl 1 (u8s s.b), .lit (.int .i64 s.pos), .lit (.int .i64 s.fail)]
def rcellsO (s : RR) : Option Own → List PV
  | some o => [.sl o s.nl 1 (u8s s.b), .lit (.int .i64 s.pos), .lit (.int .i64 s.fail)]
  | none => [.dead, .lit (.int .i64 s.pos), .lit (.int .i64 s.fail)]
@[simp] theorem rcellsO_imm (s : RR) : rcellsO s (some .imm) = rcells s := (rfl)
@[simp ↓] theorem rr_scrub (F : Own → Option Own) (p : Nat → Option Nat) (s : RR) : PV.scrubL F p (rcells s) = rcellsO s (F .imm) := by
  simp only [rcells, PV.scrubL, PV.scrub, rcellsO]
  cases F .imm <;> rfl
@[simp ↓] theorem rr_lend (s : RR) : lendCells (rcells s) = some (rcells s) := by
  simp [rcells, lendCells, lendCell, Value.oneCell']
@[simp ↓] theorem rr_ids (s : RR) : idsOfL (rcells s) = [] := by simp [rcells]
@[simp ↓] theorem rr_toks (s : RR) : toksOfL (rcells s) = [] := by simp [rcells]
@[simp] theorem rr_get0 (s : RR) : (rcells s)[0]? = some (.sl .imm s.nl 1 (u8s s.b)) := rfl
@[simp] theorem rr_get1 (s : RR) : (rcells s)[1]? = some (.lit (.int .i64 s.pos)) := rfl
@[simp] theorem rr_get2 (s : RR) : (rcells s)[2]? = some (.lit (.int .i64 s.fail)) := rfl

@[simp] theorem rr_len (s : RR) : (rcells s).length = 3 := rfl
@[simp] theorem rr_tail (s : RR) : (rcells s).tail = [.lit (.int .i64 s.pos), .lit (.int .i64 s.fail)] := rfl
@[simp] theorem rr_drop1 (s : RR) : (rcells s).drop 1 = [.lit (.int .i64 s.pos), .lit (.int .i64 s.fail)] := rfl
@[simp] theorem rr_drop2 (s : RR) : (rcells s).drop 2 = [.lit (.int .i64 s.fail)] := rfl

structure RR.Ok (s : RR) : Prop where
  bytes : InB s.b
  pos : s.pos ≤ s.b.length
  len : s.b.length ≤ 1000000

set_option maxRecDepth 100000 in
theorem rleft_fn (s : RR) (hs : s.Ok) : Fc Try.prog 59 [.cur .imm (rcells s)] [] (.lit (.int .i64 ((s.b.length : Int) - s.pos))) [] := by
  have h1 := hs.pos
  have h2 := hs.len
  have hw : IntKind.i64.wrap ((s.b.length : Int) - (s.pos : Int)) = (s.b.length : Int) - s.pos := wrap64 (by omega) (by omega)
  refine Fc.of (anys _ []) sch59 mixed Try.func59 rfl (by rfl) (by simp [Try.ntmps59]) (by decide) ?_
  simp -implicitDefEqProofs -dsimp [Try.ntmps59, rcells, hw]

theorem rnil_fn (n : Nat) (h : n < 18446744073709551616) : Fc Try.prog 46 [.sl .imm true 0 [], .lit (.int .u64 n)] [] (.sl (.own (.loc 6)) false 1 (u8s (enc n))) [] := by
  have := rnum_fn true [] n (by simp) h
  exact this.args (by simp)

set_option maxRecDepth 100000 in
set_option maxHeartbeats 4000000 in
theorem next_fn (s : RR) (hs : s.Ok) : Fc Try.prog 64 [.cur .imm (rcells s)] [] (.tup [.lit (.int .u64 (tk (s.b.drop s.pos)).1), .lit (.int .i64 (tk (s.b.drop s.pos)).2.1), .lit (.int .i64 (tk (s.b.drop s.pos)).2.2)]) [] := by
  have h1 := hs.pos
  have h2 := hs.len
  have hb := hs.bytes
  obtain ⟨D, hD⟩ : ∃ D, D = s.b.drop s.pos := ⟨_, rfl⟩
  have hDl : D.length = s.b.length - s.pos := by rw [hD]; simp
  have hDb : InB D := by rw [hD]; exact hb.drop _
  have hDg : ∀ (j : Nat) (h : j < D.length), s.b[s.pos + j]? = some D[j] := fun j h => by
    rw [← List.getElem?_drop, ← hD]; exact List.getElem?_eq_getElem h
  rw [← hD]
  refine Fc.of (anys _ [59, 46, 15]) sch64 mixed Try.func64 rfl (by rfl) (by simp [Try.ntmps64]) (by decide) ?_
  simp -implicitDefEqProofs -dsimp [Try.ntmps64]
  refine LpK.mk (anys _ [59]) mixed (fun k : Nat => k ≤ 10 ∧ k ≤ D.length ∧ ∀ (j : Nat) (h : j < D.length), j < k → 128 ≤ D[j]) (fun k => ⟨[(0, .cur .imm (rcells s)), (5, .lit (.int .i64 k))], [], 86⟩) (fun k => 10 - k) 0 ⟨by omega, by omega, fun j _ h => by omega⟩ (by simp -implicitDefEqProofs -dsimp) ?_
  rintro k ⟨hk1, hk2, hall⟩
  have hw1 : IntKind.i64.wrap ((k : Int) + 1) = (k : Int) + 1 := wrap64 (by omega) (by omega)
  by_cases hkl : k = D.length
  · have c1 : ¬ (k : Int) < (s.b.length : Int) - (s.pos : Int) := by omega
    have c2 : (k : Int) = (s.b.length : Int) - (s.pos : Int) := by omega
    have hlead : lead 10 D = k := lead_eq hk1 hk2 hall (fun _ h => by omega)
    simp -implicitDefEqProofs -dsimp
    refine CallK.reads ?_
    simp -implicitDefEqProofs -dsimp
    refine CallQ.same (rleft_fn s hs) rfl ?_
    simp -implicitDefEqProofs -dsimp [c1]
    by_cases h10 : k = 10
    · have c3 : (k : Int) = 10 := by omega
      have hT : tk D = (0, 0, 3) := by simp [tk, hlead, h10]
      simp -implicitDefEqProofs -dsimp [c3, hT]
    · have c3 : ¬ (k : Int) = 10 := by omega
      have hT : tk D = (0, 0, 2) := by
        have : ¬ D.length = 10 := by omega
        simp only [tk, hlead, hkl, this, if_false, if_true]
      simp -implicitDefEqProofs -dsimp [c3]
      refine CallK.reads ?_
      simp -implicitDefEqProofs -dsimp
      refine CallQ.same (rleft_fn s hs) rfl ?_
      simp -implicitDefEqProofs -dsimp
      simp -implicitDefEqProofs -dsimp [c2, hT]
  · have c1 : (k : Int) < (s.b.length : Int) - (s.pos : Int) := by omega
    have c2 : ¬ (k : Int) = (s.b.length : Int) - (s.pos : Int) := by omega
    have hkD : k < D.length := by omega
    by_cases h10 : k = 10
    · have c3 : ¬ (k : Int) < 10 := by omega
      have c4 : decide ((k : Int) = 10) = true := by simp; omega
      have hlead : lead 10 D = k := lead_eq hk1 hk2 hall (fun h => by omega)
      have hT : tk D = (0, 0, 3) := by simp [tk, hlead, h10]
      simp -implicitDefEqProofs -dsimp
      refine CallK.reads ?_
      simp -implicitDefEqProofs -dsimp
      refine CallQ.same (rleft_fn s hs) rfl ?_
      simp -implicitDefEqProofs -dsimp [c1, c3]
      simp -implicitDefEqProofs -dsimp [c4, hT]
    · have c3 : (k : Int) < 10 := by omega
      have c4 : ¬ (k : Int) = 10 := by omega
      have c5 : IntKind.i64.wrap ((s.pos : Int) + (k : Int)) = (s.pos : Int) + (k : Int) := wrap64 (by omega) (by omega)
      have c6 : ((s.pos : Int) + (k : Int)).toNat = s.pos + k := by omega
      have c7 := hDg k hkD
      have c8 : (0 : Int) ≤ (s.pos : Int) + (k : Int) := by omega
      by_cases hx : 127 < D[k]
      · simp -implicitDefEqProofs -dsimp
        refine CallK.reads ?_
        simp -implicitDefEqProofs -dsimp
        refine CallQ.same (rleft_fn s hs) rfl ?_
        simp -implicitDefEqProofs -dsimp [c1, c3, rcells, c5, c6, c7, c8, hx, hw1]
        exact .mk (k + 1) ⟨by omega, by omega, fun j h hj => by
          rcases Nat.lt_or_ge j k with h' | h'
          · exact hall j h h'
          · have : j = k := by omega
            subst this
            omega⟩ (by omega) (by simp -implicitDefEqProofs -dsimp [rcells])
      · have hx0 : D[k] < 128 := by omega
        have hlead : lead 10 D = k := lead_eq hk1 hk2 hall (fun _ _ => hx0)
        have hform := form_iff (fun x hx => hDb x hx) hkD (by omega) hall hx0
        have hgd : D.getD k 0 = D[k] := by rw [List.getD_eq_getElem?_getD, List.getElem?_eq_getElem hkD]; rfl
        have hlt : val (D.take (k + 1)) % 18446744073709551616 < 18446744073709551616 := Nat.mod_lt _ (by omega)
        simp -implicitDefEqProofs -dsimp
        refine CallK.reads ?_
        simp -implicitDefEqProofs -dsimp
        refine CallQ.same (rleft_fn s hs) rfl ?_
        simp -implicitDefEqProofs -dsimp [c1, c3, rcells, c5, c6, c7, c8, hx, hw1]
        simp -implicitDefEqProofs -dsimp [c4]
        refine CallK.reads ?_
        simp -implicitDefEqProofs -dsimp
        have hrl := rleft_fn s hs
        simp only [rcells] at hrl
        refine CallQ.same hrl rfl ?_
        simp -implicitDefEqProofs -dsimp [c2]
        refine LpK.mk (anys _ []) mixed (fun t : Nat => t ≤ k + 1) (fun t => ⟨[(0, .cur .imm (rcells s)), (5, .lit (.int .i64 k)), (6, .lit (.int .u64 ((val ((D.take (k + 1)).drop t) % 18446744073709551616 : Nat) : Int))), (7, .lit (.int .i64 ((t : Int) - 1)))], [], 86⟩) (fun t => t) (k + 1) (Nat.le_refl _) ?_ ?_
        · simp -implicitDefEqProofs -dsimp [rcells, val]
        rintro t ht
        have hlenT : (D.take (k + 1)).length = k + 1 := by rw [List.length_take]; omega
        by_cases ht0 : t = 0
        · have q1 : ¬ (0 : Int) ≤ (t : Int) - 1 := by omega
          subst ht0
          rw [List.drop_zero]
          obtain ⟨m, hm⟩ : ∃ m, m = val (D.take (k + 1)) % 18446744073709551616 := ⟨_, rfl⟩
          rw [← hm] at hlt hform ⊢
          have e1 : IntKind.i64.wrap ((s.pos : Int) + (k : Int) + 1) = (s.pos : Int) + (k : Int) + 1 := wrap64 (by omega) (by omega)
          have e2 : (s.pos : Int) ≤ (s.pos : Int) + (k : Int) + 1 := by omega
          have e3 : (s.pos : Int) + (k : Int) + 1 ≤ s.b.length := by omega
          have e4 : ((s.pos : Int) + (k : Int) + 1).toNat = s.pos + k + 1 := by omega
          have e5 : (s.b.take (s.pos + k + 1)).drop s.pos = D.take (k + 1) := by rw [hD, List.drop_take]; congr 1; omega
          have hel := enc_u64 hlt
          simp -implicitDefEqProofs -dsimp [q1, rcells, c5, e1, e2, e3, e4, e5]
          refine CallK.fresh ?_
          simp -implicitDefEqProofs -dsimp
          refine CallQ.same (rnil_fn m hlt) rfl ?_
          simp -implicitDefEqProofs -dsimp [fr_u8s, rcells, c5, e1, e2, e3, e4, e5]
          refine CallK.reads ?_
          simp -implicitDefEqProofs -dsimp
          refine CallQ.same (same_fn _ _ (enc m) (D.take (k + 1)) (by omega)) rfl ?_
          simp -implicitDefEqProofs -dsimp
          by_cases hbad : (0 < k ∧ D[k] = 0) ∨ (k = 9 ∧ 1 < D[k])
          · have hne : ¬ enc m = D.take (k + 1) := fun e => (hform.1 e) hbad
            have hT : tk D = (0, 0, 3) := by
              have n1 : ¬ k = D.length := hkl
              simp only [tk, hlead, hgd, if_neg h10, if_neg n1, if_pos hbad]
            simp -implicitDefEqProofs -dsimp [hne, hT]
          · have hye : enc m = D.take (k + 1) := hform.2 hbad
            have hT : tk D = (val (D.take (k + 1)), k + 1, 0) := by
              have n1 : ¬ k = D.length := hkl
              simp only [tk, hlead, hgd, if_neg h10, if_neg n1, if_neg hbad]
            have hmv : m = val (D.take (k + 1)) := by rw [← hye, val_enc]
            rw [← hmv] at hT
            simp -implicitDefEqProofs -dsimp [hye, hT, hw1]
        · obtain ⟨u, rfl⟩ : ∃ u, t = u + 1 := ⟨t - 1, by omega⟩
          have huD : u < D.length := by omega
          have q1 : (0 : Int) ≤ ((u + 1 : Nat) : Int) - 1 := by omega
          have q2 : ((u + 1 : Nat) : Int) - 1 = (u : Int) := by omega
          have hu := hDb _ (List.getElem_mem huD)
          have e1 : IntKind.i64.wrap ((s.pos : Int) + (u : Int)) = (s.pos : Int) + (u : Int) := wrap64 (by omega) (by omega)
          have e2 : (0 : Int) ≤ (s.pos : Int) + (u : Int) := by omega
          have e3 : ((s.pos : Int) + (u : Int)).toNat = s.pos + u := by omega
          have e4 := hDg u huD
          have e5 : D[u].tmod 128 = D[u] % 128 := Int.tmod_eq_emod_of_nonneg hu.1
          have e6 : IntKind.u64.wrap (D[u] % 128) = D[u] % 128 := by rw [wrap_is_u64]; omega
          have e7 : IntKind.i64.wrap ((u : Int) - 1) = (u : Int) - 1 := wrap64 (by omega) (by omega)
          have e9 : (D.take (k + 1)).drop u = D[u] :: (D.take (k + 1)).drop (u + 1) := by
            have hu2 : u < (D.take (k + 1)).length := by omega
            rw [List.drop_eq_getElem_cons hu2, List.getElem_take]
          have e8 : IntKind.u64.wrap (IntKind.u64.wrap (128 * ((val ((D.take (k + 1)).drop (u + 1)) % 18446744073709551616 : Nat) : Int)) + D[u] % 128) = ((val ((D.take (k + 1)).drop u) % 18446744073709551616 : Nat) : Int) := by
            rw [wrap_is_u64, wrap_is_u64, e9, val]
            omega
          generalize hV : ((val ((D.take (k + 1)).drop (u + 1)) % 18446744073709551616 : Nat) : Int) = V at *
          simp -implicitDefEqProofs -dsimp [q2, rcells, e1, e2, e3, e4, e5, e6, e7, e8]
          exact .mk u (by omega) (by omega) (by simp -implicitDefEqProofs -dsimp [rcells])
end Go.Proofs.Ytbialojkkhkjeaa

/-! The wire: the document's readers, their reads. -/
namespace Go.Proofs.Ytbialojkkhkjeaa
open Go.Sy

def RR.rest (s : RR) : List Int := s.b.drop s.pos
def RR.num (s : RR) : Nat × RR := if s.fail ≠ 0 then (0, s) else if (tk s.rest).2.2 ≠ 0 then (0, { s with fail := (tk s.rest).2.2 }) else ((tk s.rest).1, { s with pos := s.pos + (tk s.rest).2.1 })
def RR.text (s : RR) (limit : Int) : (Bool × List Int) × RR :=
  if s.fail ≠ 0 then ((true, []), s)
  else if (tk s.rest).2.2 ≠ 0 then ((true, []), { s with fail := (tk s.rest).2.2 })
  else if max 0 limit < ((tk s.rest).1 : Int) then ((true, []), { s with fail := 4 })
  else if (s.rest.length : Int) - (tk s.rest).2.1 < ((tk s.rest).1 : Int) then ((true, []), { s with fail := 2 })
  else ((false, (s.rest.drop (tk s.rest).2.1).take (tk s.rest).1), { s with pos := s.pos + (tk s.rest).2.1 + (tk s.rest).1 })
def RR.fin (s : RR) : Int := if s.fail = 0 ∧ s.pos < s.b.length then 5 else s.fail

theorem RR.rest_len {s : RR} : s.rest.length = s.b.length - s.pos := by simp [RR.rest]
theorem RR.num_ok {s : RR} (h : s.Ok) : s.num.2.Ok := by
  obtain ⟨h1, h2, h3⟩ := id h
  have ht := tk_spec s.rest (h1.drop _)
  have hl := RR.rest_len (s := s)
  unfold RR.num
  split
  · exact h
  · split
    · exact ⟨h1, h2, h3⟩
    · exact ⟨h1, by simp only; omega, h3⟩
theorem RR.text_ok {s : RR} (h : s.Ok) (limit : Int) : (s.text limit).2.Ok := by
  obtain ⟨h1, h2, h3⟩ := id h
  have ht := tk_spec s.rest (h1.drop _)
  have hl := RR.rest_len (s := s)
  unfold RR.text
  split
  · exact h
  · split
    · exact ⟨h1, h2, h3⟩
    · split
      · exact ⟨h1, h2, h3⟩
      · split
        · exact ⟨h1, h2, h3⟩
        · exact ⟨h1, by simp only; omega, h3⟩

set_option maxRecDepth 100000 in
set_option maxHeartbeats 1000000 in
theorem rrnum_fn (s : RR) (hs : s.Ok) : Fc Try.prog 57 [.ptr 100000 0] [(100000, .cells (rcells s))] (.lit (.int .u64 s.num.1)) [(100000, .cells (rcells s.num.2))] := by
  have h1 := hs.pos
  have h2 := hs.len
  have ht := tk_spec s.rest (hs.bytes.drop _)
  have hl := RR.rest_len (s := s)
  have hN := next_fn s hs
  rw [show s.b.drop s.pos = s.rest from rfl] at hN
  refine Fc.of (anys _ [64]) [] mixed Try.func57 rfl (by rfl) (by simp [Try.ntmps57]) (by decide) ?_
  by_cases hf : s.fail = 0
  · simp -implicitDefEqProofs -dsimp [Try.ntmps57, hf]
    refine CallK.reads ?_
    simp -implicitDefEqProofs -dsimp
    refine CallQ.same (hN) rfl ?_
    simp -implicitDefEqProofs -dsimp [plain_tup]
    by_cases he : (tk s.rest).2.2 = 0
    · have e : s.num = ((tk s.rest).1, ⟨s.nl, s.b, s.pos + (tk s.rest).2.1, 0⟩) := by simp [RR.num, hf, he]
      have c : IntKind.i64.wrap ((s.pos : Int) + ((tk s.rest).2.1 : Int)) = (s.pos : Int) + ((tk s.rest).2.1 : Int) := wrap64 (by omega) (by omega)
      simp -implicitDefEqProofs -dsimp [he, e, rcells, c, hf]
    · have e : s.num = (0, ⟨s.nl, s.b, s.pos, (tk s.rest).2.2⟩) := by simp [RR.num, hf, he]
      simp -implicitDefEqProofs -dsimp [he, e, rcells]
  · have e : s.num = (0, s) := by simp [RR.num, hf]
    simp -implicitDefEqProofs -dsimp [Try.ntmps57, hf, e]

set_option maxRecDepth 100000 in
set_option maxHeartbeats 4000000 in
theorem rrtext_fn (s : RR) (hs : s.Ok) (limit : Int) (hlm1 : -9223372036854775808 ≤ limit) (hlm2 : limit < 9223372036854775808) :
    Fc Try.prog 58 [.ptr 100000 0, .lit (.int .i64 limit)] [(100000, .cells (rcells s))] (.sl .imm (s.text limit).1.1 1 (u8s (s.text limit).1.2)) [(100000, .cells (rcells (s.text limit).2))] := by
  have h1 := hs.pos
  have h2 := hs.len
  obtain ⟨t1, t2, t3, t4, t5, t6⟩ := tk_spec s.rest (hs.bytes.drop _)
  have hl := RR.rest_len (s := s)
  have hN := next_fn s hs
  have hL := rleft_fn s hs
  rw [show s.b.drop s.pos = s.rest from rfl] at hN
  have q := Fc.of (P := Try.prog) (args := [.ptr 100000 0, .lit (.int .i64 limit)]) (h := [(100000, .cells (rcells s))])
    (X := .sl (.own (.loc 59)) (s.text limit).1.1 1 (u8s (s.text limit).1.2)) (H := [(100000, .cells (rcells (s.text limit).2))])
    (anys _ [64, 59]) sch58 mixed Try.func58 rfl (by rfl) (by simp [Try.ntmps58]) (by decide) ?_
  · have := q.fz [.loc 59]
    simpa [fzOf] using this
  · by_cases hf : s.fail = 0
    · simp -implicitDefEqProofs -dsimp [Try.ntmps58, hf]
      refine CallK.reads ?_
      simp -implicitDefEqProofs -dsimp
      refine CallQ.same (hN) rfl ?_
      simp -implicitDefEqProofs -dsimp [plain_tup]
      by_cases he : (tk s.rest).2.2 = 0
      · have hlm : IntKind.u64.wrap (max 0 limit) = max 0 limit := by rw [wrap_is_u64]; omega
        by_cases hlim : max 0 limit < ((tk s.rest).1 : Int)
        · have e : s.text limit = ((true, []), ⟨s.nl, s.b, s.pos, 4⟩) := by simp [RR.text, hf, he, hlim]
          simp -implicitDefEqProofs -dsimp [he, e, litL, max_i64, hlm, hlim, rcells, hf]
        · have hw1 : IntKind.i64.wrap ((s.b.length : Int) - (s.pos : Int) - ((tk s.rest).2.1 : Int)) = (s.rest.length : Int) - ((tk s.rest).2.1 : Int) := by rw [wrap64 (by omega) (by omega)]; omega
          have hw2 : IntKind.u64.wrap ((s.rest.length : Int) - ((tk s.rest).2.1 : Int)) = (s.rest.length : Int) - ((tk s.rest).2.1 : Int) := by rw [wrap_is_u64]; omega
          simp -implicitDefEqProofs -dsimp [he, litL, max_i64, hlm, hlim]
          refine CallK.reads ?_
          simp -implicitDefEqProofs -dsimp
          refine CallQ.same (hL) rfl ?_
          simp -implicitDefEqProofs -dsimp [hw1, hw2]
          by_cases hsh : (s.rest.length : Int) - ((tk s.rest).2.1 : Int) < ((tk s.rest).1 : Int)
          · have e : s.text limit = ((true, []), ⟨s.nl, s.b, s.pos, 2⟩) := by simp only [RR.text, hf, he, ne_eq, not_true, if_false, if_neg hlim, if_pos hsh]
            simp -implicitDefEqProofs -dsimp [hsh, e, rcells, hf]
          · have e : s.text limit = ((false, (s.rest.drop (tk s.rest).2.1).take (tk s.rest).1), ⟨s.nl, s.b, s.pos + (tk s.rest).2.1 + (tk s.rest).1, 0⟩) := by simp only [RR.text, hf, he, ne_eq, not_true, if_false, if_neg hlim, if_neg hsh]
            have hw3 : IntKind.i64.wrap ((tk s.rest).1 : Int) = ((tk s.rest).1 : Int) := wrap64 (by omega) (by omega)
            have hw4 : IntKind.i64.wrap ((s.pos : Int) + ((tk s.rest).2.1 : Int)) = (s.pos : Int) + ((tk s.rest).2.1 : Int) := wrap64 (by omega) (by omega)
            have hw5 : IntKind.i64.wrap ((s.pos : Int) + ((tk s.rest).2.1 : Int) + ((tk s.rest).1 : Int)) = (s.pos : Int) + ((tk s.rest).2.1 : Int) + ((tk s.rest).1 : Int) := wrap64 (by omega) (by omega)
            have c0 : s.rest = s.b.drop s.pos := rfl
            generalize hT : tk s.rest = T at *
            obtain ⟨n, k, ee⟩ := T
            simp only at *
            have c1 : (s.pos : Int) + (k : Int) ≤ (s.pos : Int) + (k : Int) + (n : Int) := by omega
            have c2 : (s.pos : Int) + (k : Int) + (n : Int) ≤ s.b.length := by omega
            have c3 : ((s.pos : Int) + (k : Int) + (n : Int)).toNat = s.pos + k + n := by omega
            have c4 : ((s.pos : Int) + (k : Int)).toNat = s.pos + k := by omega
            have c5 : (0 : Int) ≤ (s.pos : Int) + (k : Int) := by omega
            have c6 : (s.b.take (s.pos + k + n)).drop (s.pos + k) = (s.rest.drop k).take n := by
              rw [c0, List.drop_drop, List.drop_take]; congr 1; omega
            have c7 : min n (s.rest.length - k) ≤ 140737488355328 := by omega
            simp -implicitDefEqProofs -dsimp [hsh, e, rcells, hf, hw3, hw4, hw5, c1, c2, c3, c4, c5, c6, c7]
      · have e : s.text limit = ((true, []), ⟨s.nl, s.b, s.pos, (tk s.rest).2.2⟩) := by simp [RR.text, hf, he]
        simp -implicitDefEqProofs -dsimp [he, e, rcells, hf]
    · have e : s.text limit = ((true, []), s) := by simp [RR.text, hf]
      simp -implicitDefEqProofs -dsimp [Try.ntmps58, hf, e]
end Go.Proofs.Ytbialojkkhkjeaa
