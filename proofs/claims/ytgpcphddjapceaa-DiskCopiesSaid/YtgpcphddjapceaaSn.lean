/- Calls that change what they are handed: names go in, and come out. -/
import Derived.Test.YtgpcphddjapceaaSm
namespace Go.Sy

/-- How names go into a call, and come out: objects; rows that may grow; what the call makes: objects, rows. -/
structure Way where
  ids : List (Nat × Nat)
  tks : List (Tk × Nat)
  new : List (Nat × Nat)
  rows : List (Nat × Nat)

def lookN : List (Nat × Nat) → Nat → Option Nat
  | [], _ => none
  | (a, b) :: l, k => if a = k then some b else lookN l k
def lookR : List (Nat × Nat) → Nat → Option Nat
  | [], _ => none
  | (a, b) :: l, k => if b = k then some a else lookR l k
def lookT : List (Tk × Nat) → Tk → Option Nat
  | [], _ => none
  | (a, b) :: l, k => if a = k then some b else lookT l k
def lookU : List (Tk × Nat) → Nat → Option Tk
  | [], _ => none
  | (a, b) :: l, k => if b = k then some a else lookU l k

namespace Way
variable (W : Way)
def inI (i : Nat) : Option Nat := lookN W.ids i
def inT : Tk → Option Tk
  | .loc n => (lookT W.tks (.loc n)).map .loc
  | .wk n => (lookT W.tks (.wk n)).map .wk
  | .cell id off => match lookN W.ids id with
    | some j => some (.cell j off)
    | none => (lookT W.tks (.cell id off)).map .wk
def outI (j : Nat) : Option Nat := match lookR W.ids j with
  | some i => some i
  | none => lookN W.new j
def outT : Tk → Option Tk
  | .loc n => match lookU W.tks n with
    | some t => if t.weak then none else some t
    | none => (lookN W.rows n).map .loc
  | .wk n => match lookU W.tks n with
    | some t => if t.weak then some t else none
    | none => (lookN W.rows n).map .wk
  | .cell id off => (W.outI id).map (.cell · off)
def isI (k : Nat) : Bool := (lookN W.ids k).isSome
def imgI (k : Nat) : Bool := W.isI k || (lookR W.new k).isSome
def imgT : Tk → Bool
  | .loc n => (lookT W.tks (.loc n)).isSome || (lookR W.rows n).isSome
  | .wk n => (lookT W.tks (.wk n)).isSome || (lookR W.rows n).isSome
  | .cell id off => W.imgI id || (lookT W.tks (.cell id off)).isSome
def tkOK : Tk → Bool
  | .loc n => (lookR W.rows n).isNone
  | .wk n => (lookR W.rows n).isNone
  | .cell id _ => !W.imgI id
def ok : Bool :=
  decide (W.ids.map (·.1)).Nodup && decide (W.ids.map (·.2)).Nodup && decide (W.tks.map (·.1)).Nodup && decide (W.tks.map (·.2)).Nodup &&
  decide (W.new.map (·.2)).Nodup && decide (W.rows.map (·.2)).Nodup && (W.new.all fun p => !W.isI p.2 && decide (p.2 < 100000)) && (W.ids.all fun p => decide (100000 ≤ p.2)) &&
  W.tks.all fun p => W.tkOK p.1
end Way

theorem lookN_mem {l : List (Nat × Nat)} {k b : Nat} (h : lookN l k = some b) : (k, b) ∈ l := by
  induction l with
  | nil => cases h
  | cons c l ih =>
    obtain ⟨a, d⟩ := c
    simp only [lookN] at h
    split at h
    · rename_i e; cases h; subst e; exact List.mem_cons_self ..
    · exact List.mem_cons_of_mem _ (ih h)
theorem lookR_mem {l : List (Nat × Nat)} {k a : Nat} (h : lookR l k = some a) : (a, k) ∈ l := by
  induction l with
  | nil => cases h
  | cons c l ih =>
    obtain ⟨a, d⟩ := c
    simp only [lookR] at h
    split at h
    · rename_i e; cases h; subst e; exact List.mem_cons_self ..
    · exact List.mem_cons_of_mem _ (ih h)
theorem lookT_mem {l : List (Tk × Nat)} {k : Tk} {b : Nat} (h : lookT l k = some b) : (k, b) ∈ l := by
  induction l with
  | nil => cases h
  | cons c l ih =>
    obtain ⟨a, d⟩ := c
    simp only [lookT] at h
    split at h
    · rename_i e; cases h; subst e; exact List.mem_cons_self ..
    · exact List.mem_cons_of_mem _ (ih h)
theorem lookU_mem {l : List (Tk × Nat)} {k : Nat} {a : Tk} (h : lookU l k = some a) : (a, k) ∈ l := by
  induction l with
  | nil => cases h
  | cons c l ih =>
    obtain ⟨a, d⟩ := c
    simp only [lookU] at h
    split at h
    · rename_i e; cases h; subst e; exact List.mem_cons_self ..
    · exact List.mem_cons_of_mem _ (ih h)
theorem lookN_some {l : List (Nat × Nat)} {k b : Nat} (h : (k, b) ∈ l) : (lookN l k).isSome = true := by
  induction l with
  | nil => cases h
  | cons c l ih =>
    obtain ⟨a, d⟩ := c
    simp only [lookN]
    split
    · rfl
    · rename_i e
      rcases List.mem_cons.1 h with h | h
      · cases h; exact absurd rfl e
      · exact ih h
theorem lookR_some {l : List (Nat × Nat)} {k a : Nat} (h : (a, k) ∈ l) : (lookR l k).isSome = true := by
  induction l with
  | nil => cases h
  | cons c l ih =>
    obtain ⟨a, d⟩ := c
    simp only [lookR]
    split
    · rfl
    · rename_i e
      rcases List.mem_cons.1 h with h | h
      · cases h; exact absurd rfl e
      · exact ih h
theorem lookT_some {l : List (Tk × Nat)} {k : Tk} {b : Nat} (h : (k, b) ∈ l) : (lookT l k).isSome = true := by
  induction l with
  | nil => cases h
  | cons c l ih =>
    obtain ⟨a, d⟩ := c
    simp only [lookT]
    split
    · rfl
    · rename_i e
      rcases List.mem_cons.1 h with h | h
      · cases h; exact absurd rfl e
      · exact ih h

theorem nodup_fst {α β : Type} {l : List (α × β)} (h : (l.map (·.1)).Nodup) {a : α} {b c : β} (h1 : (a, b) ∈ l) (h2 : (a, c) ∈ l) : b = c := by
  induction l with
  | nil => cases h1
  | cons p l ih =>
    simp only [List.map_cons, List.nodup_cons] at h
    rcases List.mem_cons.1 h1 with rfl | h3 <;> rcases List.mem_cons.1 h2 with h4 | h4
    · cases h4; rfl
    · exact absurd (List.mem_map.2 ⟨_, h4, rfl⟩) h.1
    · subst h4; exact absurd (show a ∈ l.map (·.1) from List.mem_map.2 ⟨(a, b), h3, rfl⟩) h.1
    · exact ih h.2 h3 h4
theorem nodup_snd {α β : Type} {l : List (α × β)} (h : (l.map (·.2)).Nodup) {a c : α} {b : β} (h1 : (a, b) ∈ l) (h2 : (c, b) ∈ l) : a = c := by
  induction l with
  | nil => cases h1
  | cons p l ih =>
    simp only [List.map_cons, List.nodup_cons] at h
    rcases List.mem_cons.1 h1 with rfl | h3 <;> rcases List.mem_cons.1 h2 with h4 | h4
    · cases h4; rfl
    · exact absurd (List.mem_map.2 ⟨_, h4, rfl⟩) h.1
    · subst h4; exact absurd (show b ∈ l.map (·.2) from List.mem_map.2 ⟨(a, b), h3, rfl⟩) h.1
    · exact ih h.2 h3 h4

namespace Way
variable {W : Way}

structure Good (W : Way) : Prop where
  ids1 : (W.ids.map (·.1)).Nodup
  ids2 : (W.ids.map (·.2)).Nodup
  tks1 : (W.tks.map (·.1)).Nodup
  tks2 : (W.tks.map (·.2)).Nodup
  new2 : (W.new.map (·.2)).Nodup
  rows2 : (W.rows.map (·.2)).Nodup
  newI : ∀ a b, (a, b) ∈ W.new → W.isI b = false ∧ b < 100000
  big : ∀ a b, (a, b) ∈ W.ids → 100000 ≤ b
  tk : ∀ t n, (t, n) ∈ W.tks → W.tkOK t = true

theorem ok_good (h : W.ok = true) : W.Good := by
  simp only [ok, Bool.and_eq_true, decide_eq_true_eq, List.all_eq_true, Bool.not_eq_true'] at h
  obtain ⟨⟨⟨⟨⟨⟨⟨⟨h1, h2⟩, h3⟩, h4⟩, h5⟩, h6⟩, h7⟩, h8⟩, h9⟩ := h
  exact ⟨h1, h2, h3, h4, h5, h6, fun a b hm => h7 (a, b) hm, fun a b hm => h8 (a, b) hm, fun t n hm => h9 (t, n) hm⟩

theorem inT_cases {t k : Tk} (ht : W.inT t = some k) : (∃ n, k = .loc n ∧ t.weak = false ∧ (t, n) ∈ W.tks) ∨ (∃ n, k = .wk n ∧ (t, n) ∈ W.tks) ∨ ∃ id j off, t = .cell id off ∧ k = .cell j off ∧ (id, j) ∈ W.ids := by
  cases t with
  | loc n =>
    simp only [inT, Option.map_eq_some_iff] at ht
    obtain ⟨m, hm, rfl⟩ := ht
    exact .inl ⟨m, rfl, rfl, lookT_mem hm⟩
  | wk n =>
    simp only [inT, Option.map_eq_some_iff] at ht
    obtain ⟨m, hm, rfl⟩ := ht
    exact .inr (.inl ⟨m, rfl, lookT_mem hm⟩)
  | cell id off =>
    simp only [inT] at ht
    cases hl : lookN W.ids id with
    | some j => rw [hl] at ht; cases ht; exact .inr (.inr ⟨id, j, off, rfl, rfl, lookN_mem hl⟩)
    | none =>
      rw [hl] at ht
      simp only [Option.map_eq_some_iff] at ht
      obtain ⟨m, hm, rfl⟩ := ht
      exact .inr (.inl ⟨m, rfl, lookT_mem hm⟩)

theorem inj_in (h : W.Good) : Inj W.inT W.inI := by
  refine ⟨fun t u k h1 h2 => ?_, fun i j k h1 h2 => nodup_snd h.ids2 (lookN_mem h1) (lookN_mem h2), fun t u ht hw => ?_⟩
  · rcases inT_cases h1 with ⟨n, rfl, _, e1⟩ | ⟨n, rfl, e1⟩ | ⟨id, j, off, rfl, rfl, e1⟩ <;> rcases inT_cases h2 with ⟨n', e2, _, e3⟩ | ⟨n', e2, e3⟩ | ⟨id', j', off', rfl, e2, e3⟩
    · cases e2; exact nodup_snd h.tks2 e1 e3
    · cases e2
    · cases e2
    · cases e2
    · cases e2; exact nodup_snd h.tks2 e1 e3
    · cases e2
    · cases e2
    · cases e2
    · cases e2; rw [nodup_snd h.ids2 e1 e3]
  · rcases inT_cases ht with ⟨n, rfl, e0, e1⟩ | ⟨n, rfl, e1⟩ | ⟨id, j, off, rfl, rfl, e1⟩
    · rw [e0] at hw; cases hw
    · rfl
    · rfl

theorem outI_cases {j i : Nat} (h : W.outI j = some i) : (i, j) ∈ W.ids ∨ (j, i) ∈ W.new := by
  simp only [outI] at h
  cases hl : lookR W.ids j with
  | some k => rw [hl] at h; cases h; exact .inl (lookR_mem hl)
  | none => rw [hl] at h; exact .inr (lookN_mem h)

theorem outI_img {j i : Nat} (h : W.outI j = some i) : W.imgI i = true := by
  rcases outI_cases h with h | h
  · simp [imgI, isI, lookN_some h]
  · simp [imgI, lookR_some h]

theorem outI_inj (hg : W.Good) {i j k : Nat} (h1 : W.outI i = some k) (h2 : W.outI j = some k) : i = j := by
  have no : ∀ a b, (k, a) ∈ W.ids → (b, k) ∈ W.new → False := fun a b m1 m2 => by
    have := (hg.newI b k m2).1
    simp [isI] at this
    have h := lookN_some m1
    rw [this] at h; cases h
  rcases outI_cases h1 with h1 | h1 <;> rcases outI_cases h2 with h2 | h2
  · exact nodup_fst hg.ids1 h1 h2
  · exact (no _ _ h1 h2).elim
  · exact (no _ _ h2 h1).elim
  · exact nodup_snd hg.new2 h1 h2

theorem outT_cases {t u : Tk} (h : W.outT t = some u) : (∃ n, (t = .loc n ∧ u.weak = false ∨ t = .wk n ∧ u.weak = true) ∧ (u, n) ∈ W.tks) ∨ (∃ n m, (t = .loc n ∧ u = .loc m ∨ t = .wk n ∧ u = .wk m) ∧ (n, m) ∈ W.rows) ∨ ∃ id off k, t = .cell id off ∧ u = .cell k off ∧ W.outI id = some k := by
  cases t with
  | loc n =>
    simp only [outT] at h
    cases hl : lookU W.tks n with
    | some t =>
      rw [hl] at h
      simp only at h
      split at h
      · cases h
      · rename_i hw; cases h; exact .inl ⟨n, .inl ⟨rfl, by simpa using hw⟩, lookU_mem hl⟩
    | none =>
      rw [hl] at h
      simp only [Option.map_eq_some_iff] at h
      obtain ⟨m, hm, rfl⟩ := h
      exact .inr (.inl ⟨n, m, .inl ⟨rfl, rfl⟩, lookN_mem hm⟩)
  | wk n =>
    simp only [outT] at h
    cases hl : lookU W.tks n with
    | some t =>
      rw [hl] at h
      simp only at h
      split at h
      · rename_i hw; cases h; exact .inl ⟨n, .inr ⟨rfl, hw⟩, lookU_mem hl⟩
      · cases h
    | none =>
      rw [hl] at h
      simp only [Option.map_eq_some_iff] at h
      obtain ⟨m, hm, rfl⟩ := h
      exact .inr (.inl ⟨n, m, .inr ⟨rfl, rfl⟩, lookN_mem hm⟩)
  | cell id off =>
    simp only [outT, Option.map_eq_some_iff] at h
    obtain ⟨k, hk, rfl⟩ := h
    exact .inr (.inr ⟨id, off, k, rfl, rfl, hk⟩)

theorem outT_img {t u : Tk} (h : W.outT t = some u) : W.imgT u = true := by
  rcases outT_cases h with ⟨n, _, e⟩ | ⟨n, m, ⟨rfl, rfl⟩ | ⟨rfl, rfl⟩, e⟩ | ⟨id, off, k, rfl, rfl, e⟩
  · cases u with
    | loc m => simp [imgT, lookT_some e]
    | wk m => simp [imgT, lookT_some e]
    | cell id off => simp [imgT, lookT_some e]
  · simp [imgT, lookR_some e]
  · simp [imgT, lookR_some e]
  · simp [imgT, outI_img e]

theorem inj_out (hg : W.Good) : Inj W.outT W.outI := by
  refine ⟨fun t u k h1 h2 => ?_, fun i j k h1 h2 => outI_inj hg h1 h2, fun t u ht hw => ?_⟩
  · have n1 : ∀ (m n n' : Nat), (Tk.loc m, n) ∈ W.tks → (n', m) ∈ W.rows → False := fun m n n' e1 e2 => by
      have := hg.tk _ _ e1
      simp only [tkOK, Option.isNone_iff_eq_none] at this
      have h := lookR_some e2
      rw [this] at h; cases h
    have n3 : ∀ (m n n' : Nat), (Tk.wk m, n) ∈ W.tks → (n', m) ∈ W.rows → False := fun m n n' e1 e2 => by
      have := hg.tk _ _ e1
      simp only [tkOK, Option.isNone_iff_eq_none] at this
      have h := lookR_some e2
      rw [this] at h; cases h
    have n2 : ∀ (id off n j : Nat), (Tk.cell id off, n) ∈ W.tks → W.outI j = some id → False := fun id off n j e1 e2 => by
      have := hg.tk _ _ e1
      simp only [tkOK, Bool.not_eq_true'] at this
      rw [outI_img e2] at this; cases this
    rcases outT_cases h1 with ⟨n, c, e⟩ | ⟨n, m, c, e⟩ | ⟨id, off, k, rfl, rfl, e⟩ <;> rcases outT_cases h2 with ⟨n', c', e'⟩ | ⟨n', m', c', e'⟩ | ⟨id', off', k', rfl, c', e'⟩
    · have := nodup_fst hg.tks1 e e'
      subst this
      rcases c with ⟨rfl, w1⟩ | ⟨rfl, w1⟩ <;> rcases c' with ⟨rfl, w2⟩ | ⟨rfl, w2⟩
      · rfl
      · rw [w1] at w2; cases w2
      · rw [w1] at w2; cases w2
      · rfl
    · rcases c' with ⟨_, rfl⟩ | ⟨_, rfl⟩
      · exact (n1 _ _ _ e e').elim
      · exact (n3 _ _ _ e e').elim
    · subst c'; exact (n2 _ _ _ _ e e').elim
    · rcases c with ⟨_, rfl⟩ | ⟨_, rfl⟩
      · exact (n1 _ _ _ e' e).elim
      · exact (n3 _ _ _ e' e).elim
    · rcases c with ⟨rfl, rfl⟩ | ⟨rfl, rfl⟩ <;> rcases c' with ⟨rfl, c'⟩ | ⟨rfl, c'⟩ <;> cases c' <;> rw [nodup_snd hg.rows2 e e']
    · subst c'; rcases c with ⟨_, c⟩ | ⟨_, c⟩ <;> cases c
    · exact (n2 _ _ _ _ e' e).elim
    · rcases c' with ⟨_, c'⟩ | ⟨_, c'⟩ <;> cases c'
    · cases c'; rw [outI_inj hg e e']
  · rcases outT_cases ht with ⟨n, ⟨rfl, c⟩ | ⟨rfl, c⟩, e⟩ | ⟨n, m, ⟨rfl, rfl⟩ | ⟨rfl, rfl⟩, e⟩ | ⟨id, off, k, rfl, rfl, e⟩
    · cases hw
    · exact c
    · cases hw
    · rfl
    · rfl

theorem inI_img {i j : Nat} (h : W.inI i = some j) : W.imgI i = true := by
  have : lookN W.ids i = some j := h
  simp [imgI, isI, this]

theorem inT_img {t u : Tk} (h : W.inT t = some u) : W.imgT t = true := by
  rcases inT_cases h with ⟨n, rfl, e0, e1⟩ | ⟨n, rfl, e1⟩ | ⟨id, j, off, rfl, rfl, e1⟩
  · cases t <;> simp [imgT, lookT_some e1]
  · cases t <;> simp [imgT, lookT_some e1]
  · simp [imgT, imgI, isI, lookN_some e1]

theorem isI_in (hg : W.Good) {i : Nat} (h : W.isI i = true) : ∃ j, W.inI i = some j ∧ W.outI j = some i ∧ 100000 ≤ j := by
  simp only [isI, Option.isSome_iff_exists] at h
  obtain ⟨j, hj⟩ := h
  have hm := lookN_mem hj
  refine ⟨j, hj, ?_, hg.big _ _ hm⟩
  simp only [outI]
  cases hl : lookR W.ids j with
  | some k => simp only; rw [nodup_snd hg.ids2 (lookR_mem hl) hm]
  | none => have := lookR_some hm; rw [hl] at this; cases this

end Way
end Go.Sy
