/- Numbers as bytes: plain lemmas. -/
import Derived.Test.YtgpcphddjapceaaSs
namespace Go.Sy

/-- A number's bytes. -/
def enc (n : Nat) : List Int := if h : n < 128 then [(n : Int)] else ((n % 128 + 128 : Nat) : Int) :: enc (n / 128)
termination_by n
decreasing_by omega

theorem enc_lt {n : Nat} (h : n < 128) : enc n = [(n : Int)] := by rw [enc, dif_pos h]
theorem enc_ge {n : Nat} (h : 128 ≤ n) : enc n = ((n % 128 + 128 : Nat) : Int) :: enc (n / 128) := by rw [enc, dif_neg (by omega)]

/-- What some bytes tell. -/
def val : List Int → Nat
  | [] => 0
  | x :: xs => (x % 128).toNat + 128 * val xs

theorem val_lt (l : List Int) : val l < 128 ^ l.length := by
  induction l with
  | nil => simp [val]
  | cons x xs ih =>
    simp only [val, List.length_cons, Nat.pow_succ]
    have : (x % 128).toNat < 128 := by omega
    omega
theorem val_snoc (l : List Int) (x : Int) : val (l ++ [x]) = val l + (x % 128).toNat * 128 ^ l.length := by
  induction l with
  | nil => simp [val]
  | cons y ys ih =>
    simp only [List.cons_append, val, ih, List.length_cons, Nat.pow_succ, Nat.mul_add]
    have : 128 * ((x % 128).toNat * 128 ^ ys.length) = (x % 128).toNat * (128 ^ ys.length * 128) := by
      rw [Nat.mul_comm (128 ^ ys.length) 128, ← Nat.mul_assoc, ← Nat.mul_assoc, Nat.mul_comm 128]
    omega

theorem val_enc (n : Nat) : val (enc n) = n := by
  induction n using Nat.strongRecOn with
  | _ n ih =>
    by_cases h : n < 128
    · rw [enc_lt h]; simp [val]; omega
    · rw [enc_ge (by omega), val, ih (n / 128) (by omega)]
      omega

/-- Bytes of which each but the last one goes on. -/
def goesOn : List Int → Bool
  | [] => false
  | [x] => decide (0 ≤ x ∧ x < 128)
  | x :: xs => decide (128 ≤ x ∧ x < 256) && goesOn xs
theorem goesOn_one (x : Int) : goesOn [x] = decide (0 ≤ x ∧ x < 128) := rfl
theorem goesOn_cons (x : Int) {xs : List Int} (h : xs ≠ []) : goesOn (x :: xs) = (decide (128 ≤ x ∧ x < 256) && goesOn xs) := by
  cases xs with
  | nil => exact absurd rfl h
  | cons y ys => rfl
theorem enc_ne (n : Nat) : enc n ≠ [] := by
  by_cases h : n < 128
  · rw [enc_lt h]; simp
  · rw [enc_ge (by omega)]; simp
theorem goesOn_enc (n : Nat) : goesOn (enc n) = true := by
  induction n using Nat.strongRecOn with
  | _ n ih =>
    by_cases h : n < 128
    · rw [enc_lt h, goesOn_one]; simp; omega
    · rw [enc_ge (by omega), goesOn_cons _ (enc_ne _), ih (n / 128) (by omega)]
      simp; omega

/-- The one form of a number. -/
theorem enc_val : ∀ {l : List Int}, goesOn l = true → (l.length = 1 ∨ l.getLast? ≠ some 0) → enc (val l) = l
  | [], h, _ => by cases h
  | [x], h, _ => by
    rw [goesOn_one, decide_eq_true_eq] at h
    simp only [val]
    rw [enc_lt (by omega)]
    simp; omega
  | x :: y :: ys, h, hl => by
    rw [goesOn_cons _ (by simp), Bool.and_eq_true, decide_eq_true_eq] at h
    obtain ⟨h1, h2⟩ := h
    have hl' : (y :: ys).getLast? ≠ some 0 := by
      rcases hl with hl | hl
      · simp at hl
      · simpa [List.getLast?_cons_cons] using hl
    have ih := enc_val h2 (.inr hl')
    have hpos : 0 < val (y :: ys) := by
      rcases Nat.eq_zero_or_pos (val (y :: ys)) with h0 | h0
      · rw [h0, enc_lt (by omega)] at ih
        rw [← ih] at hl'
        simp at hl'
      · exact h0
    have e : val (x :: y :: ys) = (x % 128).toNat + 128 * val (y :: ys) := rfl
    rw [e, enc_ge (by omega), show ((x % 128).toNat + 128 * val (y :: ys)) / 128 = val (y :: ys) by omega, ih]
    congr 1
    omega
theorem last_enc {n : Nat} : (enc n).length = 1 ∨ (enc n).getLast? ≠ some 0 := by
  induction n using Nat.strongRecOn with
  | _ n ih =>
    by_cases h : n < 128
    · rw [enc_lt h]; exact .inl rfl
    · right
      rw [enc_ge (by omega)]
      cases he : enc (n / 128) with
      | nil => exact absurd he (enc_ne _)
      | cons y ys =>
        rw [List.getLast?_cons_cons, ← he]
        rcases ih (n / 128) (by omega) with h1 | h1
        · have : n / 128 < 128 := by
            rcases Nat.lt_or_ge (n / 128) 128 with h2 | h2
            · exact h2
            · rw [enc_ge h2] at h1
              simp only [List.length_cons] at h1
              exact absurd (List.eq_nil_of_length_eq_zero (Nat.succ.inj h1)) (enc_ne _)
          rw [enc_lt this]
          simp; omega
        · exact h1
theorem enc_length {n k : Nat} (h : n < 128 ^ (k + 1)) : (enc n).length ≤ k + 1 := by
  induction k generalizing n with
  | zero => rw [enc_lt (by omega)]; simp
  | succ k ih =>
    by_cases h1 : n < 128
    · rw [enc_lt h1]; simp
    · rw [enc_ge (by omega)]
      have := ih (n := n / 128) (by rw [Nat.pow_succ] at h; omega)
      simp only [List.length_cons]; omega
theorem enc_u64 {n : Nat} (h : n < 18446744073709551616) : (enc n).length ≤ 10 := enc_length (k := 9) (by omega)


/-- How many of the first ones go on. -/
def lead : Nat → List Int → Nat
  | 0, _ => 0
  | _, [] => 0
  | n + 1, x :: xs => if 128 ≤ x then lead n xs + 1 else 0

theorem lead_spec : ∀ (n : Nat) (b : List Int), lead n b ≤ n ∧ lead n b ≤ b.length ∧ (∀ (i : Nat) (h : i < b.length), i < lead n b → 128 ≤ b[i]) ∧ (lead n b < n → ∀ (h : lead n b < b.length), b[lead n b] < 128)
  | 0, b => by simp [lead]
  | n + 1, [] => by simp [lead]
  | n + 1, x :: xs => by
    obtain ⟨h1, h2, h3, h4⟩ := lead_spec n xs
    by_cases hx : 128 ≤ x
    · have e : lead (n + 1) (x :: xs) = lead n xs + 1 := by rw [lead, if_pos hx]
      refine ⟨by omega, by simp; omega, fun i h hi => ?_, fun h5 h => ?_⟩
      · cases i with
        | zero => exact hx
        | succ i => exact h3 i (by simpa using h) (by omega)
      · simp only [e, List.getElem_cons_succ]
        exact h4 (by omega) (by simp only [e, List.length_cons] at h; omega)
    · have e : lead (n + 1) (x :: xs) = 0 := by rw [lead, if_neg hx]
      refine ⟨by omega, by omega, fun i h hi => by omega, fun h5 h => ?_⟩
      simp only [e, List.getElem_cons_zero]; omega
/-- .. and no other number is. -/
theorem lead_eq {n : Nat} {b : List Int} {k : Nat} (h1 : k ≤ n) (h2 : k ≤ b.length) (h3 : ∀ (i : Nat) (h : i < b.length), i < k → 128 ≤ b[i]) (h4 : k < n → ∀ (h : k < b.length), b[k] < 128) : lead n b = k := by
  obtain ⟨a1, a2, a3, a4⟩ := lead_spec n b
  rcases Nat.lt_trichotomy (lead n b) k with h | h | h
  · have := h3 (lead n b) (by omega) h
    have := a4 (by omega) (by omega)
    omega
  · exact h
  · have := a3 k (by omega) h
    have := h4 (by omega) (by omega)
    omega

/-- The number that bytes begin with, how many it has, and why there is none. -/
def tk (b : List Int) : Nat × Nat × Int :=
  if lead 10 b = 10 then (0, 0, 3)
  else if lead 10 b = b.length then (0, 0, 2)
  else if (0 < lead 10 b ∧ b.getD (lead 10 b) 0 = 0) ∨ (lead 10 b = 9 ∧ 1 < b.getD (lead 10 b) 0) then (0, 0, 3)
  else (val (b.take (lead 10 b + 1)), lead 10 b + 1, 0)

theorem take_goesOn : ∀ (b : List Int) (k : Nat), k < b.length → (∀ x, x ∈ b → 0 ≤ x ∧ x < 256) → (∀ (i : Nat) (h : i < b.length), i < k → 128 ≤ b[i]) → (∀ (h : k < b.length), b[k] < 128) → goesOn (b.take (k + 1)) = true
  | [], k, h, _, _, _ => by simp at h
  | x :: xs, 0, _, hb, _, h4 => by
    have := hb x (by simp)
    have := h4 (by simp)
    simp only [List.getElem_cons_zero] at this
    simp [goesOn]; omega
  | x :: xs, k + 1, h, hb, h3, h4 => by
    have h' : k < xs.length := by simpa using h
    have := take_goesOn xs k h' (fun y hy => hb y (by simp [hy])) (fun i hi hik => h3 (i + 1) (by simpa using hi) (by omega)) (fun hk => by have := h4 (by simpa using hk); simpa using this)
    have h0 := h3 0 (by simp) (by omega)
    have h1 := hb x (by simp)
    simp only [List.getElem_cons_zero] at h0
    rw [List.take_succ_cons, goesOn_cons _ (by
      intro e
      rcases List.take_eq_nil_iff.1 e with e | e
      · omega
      · rw [e] at h'; simp at h'), this]
    simp; omega

/-- Of which bytes a number is the one form. -/
theorem form_iff {b : List Int} (hb : ∀ x, x ∈ b → 0 ≤ x ∧ x < 256) {k : Nat} (hk : k < b.length) (hk9 : k ≤ 9) (h3 : ∀ (i : Nat) (h : i < b.length), i < k → 128 ≤ b[i]) (h4 : b[k] < 128) :
    enc (val (b.take (k + 1)) % 18446744073709551616) = b.take (k + 1) ↔ ¬ ((0 < k ∧ b[k] = 0) ∨ (k = 9 ∧ 1 < b[k])) := by
  have hg := take_goesOn b k hk hb h3 fun _ => h4
  have hlen : (b.take (k + 1)).length = k + 1 := by simp; omega
  have hlast : (b.take (k + 1)).getLast? = some b[k] := by
    rw [List.getLast?_eq_getElem?, hlen, List.getElem?_take_of_lt (by omega)]
    exact List.getElem?_eq_getElem hk
  have hsn : b.take (k + 1) = b.take k ++ [b[k]] := List.take_succ_eq_append_getElem hk
  have h0 := (hb b[k] (List.getElem_mem hk)).1
  constructor
  · intro he hc
    rcases hc with ⟨hc1, hc2⟩ | ⟨rfl, hc2⟩
    · have := last_enc (n := val (b.take (k + 1)) % 18446744073709551616)
      rw [he, hlen, hlast] at this
      rcases this with h | h
      · omega
      · exact h (by rw [hc2])
    · have h1 := val_enc (val (b.take (9 + 1)) % 18446744073709551616)
      rw [he, hsn, val_snoc] at h1
      have h2 : (b.take 9).length = 9 := by simp; omega
      rw [h2] at h1
      have h5 : (b[9] % 128).toNat = b[9].toNat := by omega
      rw [h5] at h1
      have h6 : 2 ≤ b[9].toNat := by omega
      have h7 : 2 * 128 ^ 9 ≤ b[9].toNat * 128 ^ 9 := Nat.mul_le_mul_right _ h6
      omega
  · intro hc
    have hlt : val (b.take (k + 1)) < 18446744073709551616 := by
      rcases Nat.lt_or_ge k 9 with h | h
      · have h1 := val_lt (b.take (k + 1))
        rw [hlen] at h1
        have h2 : 128 ^ (k + 1) ≤ 128 ^ 9 := Nat.pow_le_pow_right (by omega) (by omega)
        omega
      · have hk9' : k = 9 := by omega
        subst hk9'
        have h1 : ¬ 1 < b[9] := fun h => hc (.inr ⟨rfl, h⟩)
        rw [hsn, val_snoc]
        have h2 : (b.take 9).length = 9 := by simp; omega
        have h3 := val_lt (b.take 9)
        rw [h2] at h3 ⊢
        have h5 : (b[9] % 128).toNat ≤ 1 := by omega
        have h7 : (b[9] % 128).toNat * 128 ^ 9 ≤ 1 * 128 ^ 9 := Nat.mul_le_mul_right _ h5
        omega
    rw [Nat.mod_eq_of_lt hlt]
    refine enc_val hg ?_
    rw [hlen, hlast]
    by_cases hk0 : k = 0
    · left; omega
    · right
      intro e
      simp only [Option.some.injEq] at e
      exact hc (.inl ⟨by omega, e⟩)
end Go.Sy
