/- Names change, memory is made: what that does to a symbolic state. -/
import Derived.Test.YtgpcphddjapceaaS2
namespace Go.Sy

theorem getR_scrubR (F : Own → Option Own) (p : Nat → Option Nat) (r : List (Nat × PV)) (s : Nat) : getR (scrubR F p r) s = (getR r s).scrub F p := by
  induction r with
  | nil => rfl
  | cons k r ih =>
    obtain ⟨k, x⟩ := k
    simp only [scrubR, getR]
    split
    · rfl
    · exact ih

theorem getO_scrubO {F : Own → Option Own} {p : Nat → Option Nat} {h : List (Nat × Ob)} {k' : Nat} {ob' : Ob} (hg : getO (scrubO F p h) k' = some ob') :
    ∃ k ob, p k = some k' ∧ getO h k = some ob ∧ ob' = ob.scrub F p := by
  induction h with
  | nil => simp [scrubO, getO] at hg
  | cons c r ih =>
    obtain ⟨k, x⟩ := c
    simp only [scrubO] at hg
    cases hk : p k with
    | none =>
      rw [hk] at hg
      obtain ⟨k2, ob, h1, h2, h3⟩ := ih hg
      refine ⟨k2, ob, h1, ?_, h3⟩
      simp only [getO]
      rw [if_neg (fun e => by rw [e, h1] at hk; cases hk)]; exact h2
    | some k1 =>
      rw [hk] at hg
      simp only [getO] at hg
      by_cases e : k1 = k'
      · rw [if_pos e] at hg
        cases hg
        exact ⟨k, x, e ▸ hk, by simp [getO], rfl⟩
      · rw [if_neg e] at hg
        obtain ⟨k2, ob, h1, h2, h3⟩ := ih hg
        refine ⟨k2, ob, h1, ?_, h3⟩
        simp only [getO]
        rw [if_neg (fun e2 => by rw [e2, h1] at hk; cases hk; exact e rfl)]; exact h2

/-- The same state by other names, in a world in which what it speaks of is as it was. -/
theorem Sim.turn {g g' : G} {st : St} {a : Act} {w w' : World} {F : Own → Option Own} {p : Nat → Option Nat} (h : Sim g st a w) (ht : Turns g w g' w' F p) (hD : ∀ i j, p i = some j → g.D i → g'.D j ∧ w'.heap[g'.μ j]? = w.heap[g.μ i]?) : Sim g' (st.scrub F p) a w' := by
  refine ⟨fun s => ?_, h.nt, fun k' ob' ho => ?_⟩
  · show Rep g' w' (getR (scrubR F p st.regs) s) _
    rw [getR_scrubR]; exact (h.regs s).scrub ht
  · obtain ⟨k, ob, h1, h2, rfl⟩ := getO_scrubO ho
    have hk := h.heap k ob h2
    cases ob with
    | cells xs =>
      obtain ⟨hd, cs, T, hb, hl, hr⟩ := hk
      obtain ⟨d', hb'⟩ := hD k k' h1 hd
      refine ⟨d', cs, T, hb'.trans hb, by simp [scrubL_eq, hl], fun i x u hx hu => ?_⟩
      rw [scrubL_eq, List.getElem?_map, Option.map_eq_some_iff] at hx
      obtain ⟨y, hy, rfl⟩ := hx
      exact (hr i y u hy hu).scrub ht

def Fren (ρ : Tk → Option Tk) : Own → Option Own
  | .imm => some .imm
  | .own t => (ρ t).map .own
  | .vw t => (ρ t).map .vw

open Classical in
noncomputable def G.ren (g : G) (ρ : Tk → Option Tk) (p : Nat → Option Nat) : G where
  μ := fun j => if h : ∃ i, p i = some j ∧ g.D i then g.μ (Classical.choose h) else if h : ∃ i, p i = some j then g.μ (Classical.choose h) else 0
  ν := fun u => if h : ∃ t, ρ t = some u then g.ν (Classical.choose h) else 0
  fr := fun u => if h : ∃ t, ρ t = some u then g.fr (Classical.choose h) else 0
  L := fun u => ∃ t, ρ t = some u ∧ g.L t
  D := fun j => ∃ i, p i = some j ∧ g.D i
  I := g.I

structure Inj (ρ : Tk → Option Tk) (p : Nat → Option Nat) : Prop where
  tk : ∀ t u k, ρ t = some k → ρ u = some k → t = u
  ob : ∀ i j k, p i = some k → p j = some k → i = j
  wk : ∀ t u, ρ t = some u → t.weak = true → u.weak = true

section
variable {g : G} {ρ : Tk → Option Tk} {p : Nat → Option Nat} (hi : Inj ρ p)
include hi
theorem G.ren_μ {i j : Nat} (h : p i = some j) : (g.ren ρ p).μ j = g.μ i := by
  simp only [G.ren]
  split
  · rename_i hx
    exact congrArg g.μ (hi.ob _ _ _ (Classical.choose_spec hx).1 h)
  · split
    · rename_i hx
      exact congrArg g.μ (hi.ob _ _ _ (Classical.choose_spec hx) h)
    · rename_i hx; exact absurd ⟨i, h⟩ hx
theorem G.ren_ν {t u : Tk} (h : ρ t = some u) : (g.ren ρ p).ν u = g.ν t := by
  simp only [G.ren]
  split
  · rename_i hx
    exact congrArg g.ν (hi.tk _ _ _ (Classical.choose_spec hx) h)
  · rename_i hx; exact absurd ⟨t, h⟩ hx
theorem G.ren_fr {t u : Tk} (h : ρ t = some u) : (g.ren ρ p).fr u = g.fr t := by
  simp only [G.ren]
  split
  · rename_i hx
    exact congrArg g.fr (hi.tk _ _ _ (Classical.choose_spec hx) h)
  · rename_i hx; exact absurd ⟨t, h⟩ hx

theorem lax_ren : ∀ o o' : Own, Fren ρ o = some o' → o.lax = true → o'.lax = true := fun o o' h hl => by
  cases o with
  | imm => simp only [Fren, Option.some.injEq] at h; subst h; rfl
  | own t =>
    simp only [Fren, Option.map_eq_some_iff] at h
    obtain ⟨u, hu, rfl⟩ := h
    exact hi.wk t u hu hl
  | vw t =>
    simp only [Fren, Option.map_eq_some_iff] at h
    obtain ⟨u, hu, rfl⟩ := h
    exact hi.wk t u hu hl

theorem Turns.ren (w : World) : Turns g w (g.ren ρ p) w (Fren ρ) p where
  lax := lax_ren hi
  imm := fun _ h => ⟨h, rfl⟩
  acc := by
    intro o o' b off n c hF ha
    refine ⟨?_, fun _ _ _ => rfl⟩
    cases o with
    | imm => simp only [Fren, Option.some.injEq] at hF; subst hF; exact ha
    | own t =>
      simp only [Fren, Option.map_eq_some_iff] at hF
      obtain ⟨u, hu, rfl⟩ := hF
      rcases ha with ⟨h1, h2, h3, h4⟩ | h
      · exact .inl ⟨⟨t, hu, h1⟩, by rw [G.ren_ν hi hu]; exact h2, by rw [G.ren_fr hi hu]; exact h3, h4⟩
      · exact .inr ⟨h.1, h.2.1, hi.wk _ _ hu h.2.2⟩
    | vw t =>
      simp only [Fren, Option.map_eq_some_iff] at hF
      obtain ⟨u, hu, rfl⟩ := hF
      rcases ha with h | ⟨h1, h2, h3⟩
      · exact .inl h
      · exact .inr ⟨⟨t, hu, h1⟩, by rw [G.ren_ν hi hu]; exact h2, by rw [G.ren_fr hi hu]; exact h3⟩
  ptr := fun _ _ h => G.ren_μ hi h

theorem Sim.ren {st : St} {a : Act} {w : World} (h : Sim g st a w) : Sim (g.ren ρ p) (st.scrub (Fren ρ) p) a w :=
  h.turn (Turns.ren hi w) fun i j hp hd => ⟨⟨i, hp, hd⟩, by rw [G.ren_μ hi hp]⟩

theorem WF.ren {w : World} (h : WF g w) : WF (g.ren ρ p) w where
  dlt := fun j ⟨i, hp, hd⟩ => by rw [G.ren_μ hi hp]; exact h.dlt i hd
  llt := fun u ⟨t, hp, hd⟩ => by rw [G.ren_ν hi hp]; exact h.llt t hd
  ilt := h.ilt
  dinj := by
    rintro j j' ⟨i, hp, hd⟩ ⟨i', hp', hd'⟩ he
    rw [G.ren_μ hi hp, G.ren_μ hi hp'] at he
    have := h.dinj i i' hd hd' he
    subst this; rw [hp] at hp'; cases hp'; rfl
  linj := by
    rintro j j' ⟨i, hp, hd⟩ ⟨i', hp', hd'⟩ he
    rw [G.ren_ν hi hp, G.ren_ν hi hp'] at he
    have := h.linj i i' hd hd' he
    subst this; rw [hp] at hp'; cases hp'; rfl
  dl := by
    rintro j u ⟨i, hp, hd⟩ ⟨t, hp', hd'⟩
    rw [G.ren_μ hi hp, G.ren_ν hi hp']; exact h.dl i t hd hd'
  di := by rintro j ⟨i, hp, hd⟩; rw [G.ren_μ hi hp]; exact h.di i hd
  li := by rintro u ⟨t, hp, hd⟩; rw [G.ren_ν hi hp]; exact h.li t hd

theorem Ext.ren (hx : ∀ i, 100000 ≤ i → p i = some i) (w : World) : Ext g w (g.ren ρ p) w where
  ext := fun i h => ⟨G.ren_μ hi (hx i h), fun hd => ⟨i, hx i h, hd⟩⟩
  os := rfl
  tape := rfl
  output := rfl
  size := Nat.le_refl _
  keep := fun _ _ _ => rfl
  own := by
    rintro b (⟨j, ⟨i, hp, hd⟩, rfl⟩ | ⟨u, ⟨t, hp, hd⟩, rfl⟩)
    · exact .inl (.inl ⟨i, hd, by rw [G.ren_μ hi hp]⟩)
    · exact .inl (.inr ⟨t, hd, by rw [G.ren_ν hi hp]⟩)
  imm := fun _ h => .inl h
end

/-! ### A row is its own no more: what lies in it turns no more. -/
def Ffz (ts : Tk → Bool) : Own → Option Own
  | .imm => some .imm
  | .own t => if ts t then some .imm else some (.own t)
  | .vw t => if ts t then some .imm else some (.vw t)

def G.fz (g : G) (ts : Tk → Bool) : G := { g with L := fun t => g.L t ∧ ts t = false, I := fun b => g.I b ∨ ∃ t, ts t = true ∧ g.L t ∧ g.ν t = b }

theorem lax_fz (ts : Tk → Bool) : ∀ o o' : Own, Ffz ts o = some o' → o.lax = true → o'.lax = true := fun o o' h hl => by
  cases o with
  | imm => simp only [Ffz, Option.some.injEq] at h; subst h; rfl
  | own t => simp only [Ffz] at h; split at h <;> cases h <;> first | rfl | exact hl
  | vw t => simp only [Ffz] at h; split at h <;> cases h <;> first | rfl | exact hl

theorem Turns.fz (g : G) (ts : Tk → Bool) (w : World) : Turns g w (g.fz ts) w (Ffz ts) some where
  lax := lax_fz ts
  imm := fun _ h => ⟨.inl h, rfl⟩
  acc := by
    intro o o' b off n c hF ha
    refine ⟨?_, fun _ _ _ => rfl⟩
    cases o with
    | imm => simp only [Ffz, Option.some.injEq] at hF; subst hF; exact .inl ha
    | own t =>
      simp only [Ffz] at hF
      split at hF
      · rename_i ht
        cases hF
        rcases ha with ⟨h1, h2, _⟩ | ⟨h, _⟩
        · exact .inr ⟨t, ht, h1, h2.symm⟩
        · exact .inl h
      · rename_i ht
        cases hF
        rcases ha with ⟨h1, h2, h3⟩ | ⟨h, h'⟩
        · exact .inl ⟨⟨h1, by simpa using ht⟩, h2, h3⟩
        · exact .inr ⟨.inl h, h'⟩
    | vw t =>
      simp only [Ffz] at hF
      split at hF
      · rename_i ht
        cases hF
        rcases ha with h | ⟨h1, h2, _⟩
        · exact .inl h
        · exact .inr ⟨t, ht, h1, h2.symm⟩
      · rename_i ht
        cases hF
        rcases ha with h | ⟨h1, h2, h3⟩
        · exact .inl (.inl h)
        · exact .inr ⟨⟨h1, by simpa using ht⟩, h2, h3⟩
  ptr := fun _ _ h => by cases h; rfl

theorem Sim.fz {g : G} {st : St} {a : Act} {w : World} (h : Sim g st a w) (ts : Tk → Bool) : Sim (g.fz ts) (st.scrub (Ffz ts) some) a w :=
  h.turn (Turns.fz g ts w) fun i j hp hd => by cases hp; exact ⟨hd, rfl⟩

theorem WF.fz {g : G} {w : World} (h : WF g w) (ts : Tk → Bool) : WF (g.fz ts) w where
  dlt := h.dlt
  llt := fun t ht => h.llt t ht.1
  ilt := by
    rintro b (hb | ⟨t, _, hl, rfl⟩)
    · exact h.ilt b hb
    · exact h.llt t hl
  dinj := h.dinj
  linj := fun t u ht hu => h.linj t u ht.1 hu.1
  dl := fun i t hi ht => h.dl i t hi ht.1
  di := by
    rintro i hi (hb | ⟨t, _, hl, he⟩)
    · exact h.di i hi hb
    · exact h.dl i t hi hl he.symm
  li := by
    rintro t ⟨hl, ht⟩ (hb | ⟨u, hu, hl', he⟩)
    · exact h.li t hl hb
    · have := h.linj u t hl' hl he
      subst this; rw [hu] at ht; cases ht

theorem Ext.fz (g : G) (ts : Tk → Bool) (w : World) : Ext g w (g.fz ts) w where
  ext := fun _ _ => ⟨rfl, fun h => h⟩
  os := rfl
  tape := rfl
  output := rfl
  size := Nat.le_refl _
  keep := fun _ _ _ => rfl
  own := by
    rintro b (⟨i, hd, rfl⟩ | ⟨t, hl, rfl⟩)
    · exact .inl (.inl ⟨i, hd, rfl⟩)
    · exact .inl (.inr ⟨t, hl.1, rfl⟩)
  imm := by
    rintro b (hb | ⟨t, _, hl, rfl⟩)
    · exact .inl hb
    · exact .inr (.inl (.inr ⟨t, hl, rfl⟩))

end Go.Sy
