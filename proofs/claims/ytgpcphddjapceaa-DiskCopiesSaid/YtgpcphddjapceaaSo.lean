/- Calls that change what they are handed: the rule. -/
import Derived.Test.YtgpcphddjapceaaSn
namespace Go.Sy
open Classical in
noncomputable def G.join (g1 g3 : G) (s : Nat → Bool) (q : Tk → Bool) : G where
  μ := fun k => if s k = true then g3.μ k else g1.μ k
  ν := fun t => if q t = true then g3.ν t else g1.ν t
  fr := fun t => if q t = true then g3.fr t else g1.fr t
  L := fun t => if q t = true then g3.L t else g1.L t
  D := fun k => if s k = true then g3.D k else g1.D k
  I := fun b => g1.I b ∨ g3.I b

/-- What the call leaves of the caller's descriptions. -/
def Way.killT (W : Way) : Own → Option Own
  | .imm => some .imm
  | .own t => if W.imgT t then none else some (.own t)
  | .vw t => if W.imgT t then none else some (.vw t)
theorem lax_killT (W : Way) : ∀ o o' : Own, W.killT o = some o' → o.lax = true → o'.lax = true := fun o o' h hl => by
  cases o with
  | imm => simp only [Way.killT, Option.some.injEq] at h; subst h; rfl
  | own u => simp only [Way.killT] at h; split at h <;> cases h; exact hl
  | vw u => simp only [Way.killT] at h; split at h <;> cases h; exact hl
def Way.killI (W : Way) (k : Nat) : Option Nat := if W.isI k then some k else if W.imgI k then none else some k

def dropO (s : Nat → Bool) : List (Nat × Ob) → List (Nat × Ob)
  | [] => []
  | (k, x) :: l => if s k then dropO s l else (k, x) :: dropO s l

theorem getO_dropO {s : Nat → Bool} {h : List (Nat × Ob)} {k : Nat} {ob : Ob} (hg : getO (dropO s h) k = some ob) : s k = false ∧ getO h k = some ob := by
  induction h with
  | nil => cases hg
  | cons c l ih =>
    obtain ⟨i, x⟩ := c
    simp only [dropO] at hg
    by_cases hs : s i = true
    · rw [if_pos hs] at hg
      obtain ⟨h1, h2⟩ := ih hg
      refine ⟨h1, ?_⟩
      simp only [getO]
      rw [if_neg (fun e => by rw [e, h1] at hs; cases hs)]; exact h2
    · rw [if_neg hs] at hg
      simp only [getO] at hg ⊢
      by_cases e : i = k
      · rw [if_pos e] at hg ⊢
        exact ⟨by rw [← e]; simpa using hs, hg⟩
      · rw [if_neg e] at hg ⊢; exact ih hg

theorem getO_append {a b : List (Nat × Ob)} {k : Nat} {ob : Ob} (h : getO (a ++ b) k = some ob) : getO a k = some ob ∨ getO b k = some ob := by
  induction a with
  | nil => exact .inr h
  | cons c l ih =>
    obtain ⟨i, x⟩ := c
    simp only [List.cons_append, getO] at h ⊢
    by_cases e : i = k
    · rw [if_pos e] at h ⊢; exact .inl h
    · rw [if_neg e] at h ⊢; exact ih h

section
variable {W : Way} {g1 g2 : G} {w w' : World}

structure Joins (W : Way) (g1 : G) (w : World) (g2 : G) (w' : World) : Prop where
  good : W.Good
  wf1 : WF g1 w
  wf2 : WF g2 w'
  ext : Ext (g1.ren W.inT W.inI) w g2 w'

noncomputable def Way.out (W : Way) (g1 g2 : G) : G := g1.join (g2.ren W.outT W.outI) W.imgI W.imgT

theorem Joins.owned (h : Joins W g1 w g2 w') {b : Nat} (hb : Owned (g1.ren W.inT W.inI) b) : Owned g1 b := by
  rcases hb with ⟨j, ⟨i, hp, hd⟩, rfl⟩ | ⟨u, ⟨t, hp, hl⟩, rfl⟩
  · exact .inl ⟨i, hd, by rw [G.ren_μ (Way.inj_in h.good) hp]⟩
  · exact .inr ⟨t, hl, by rw [G.ren_ν (Way.inj_in h.good) hp]⟩

theorem Owned.notI {g : G} {w : World} (hw : WF g w) {b : Nat} (h : Owned g b) : ¬ g.I b := by
  rcases h with ⟨i, hd, rfl⟩ | ⟨t, hl, rfl⟩
  · exact hw.di i hd
  · exact hw.li t hl
theorem Owned.lt {g : G} {w : World} (hw : WF g w) {b : Nat} (h : Owned g b) : b < w.heap.size := by
  rcases h with ⟨i, hd, rfl⟩ | ⟨t, hl, rfl⟩
  · exact hw.dlt i hd
  · exact hw.llt t hl

theorem Joins.keepI (h : Joins W g1 w g2 w') {b : Nat} (hb : g1.I b) : w'.heap[b]? = w.heap[b]? :=
  h.ext.keep b (h.wf1.ilt b hb) fun ho => (h.owned ho).notI h.wf1 hb

theorem Joins.freeT (h : Joins W g1 w g2 w') {t : Tk} (hl : g1.L t) (hq : W.imgT t = false) : ¬ Owned (g1.ren W.inT W.inI) (g1.ν t) := by
  rintro (⟨j, ⟨i, hp, hd⟩, he⟩ | ⟨u, ⟨t', hp, hl'⟩, he⟩)
  · rw [G.ren_μ (Way.inj_in h.good) hp] at he; exact h.wf1.dl i t hd hl he
  · rw [G.ren_ν (Way.inj_in h.good) hp] at he
    have := h.wf1.linj t' t hl' hl he
    subst this; rw [Way.inT_img hp] at hq; cases hq
theorem Joins.freeD (h : Joins W g1 w g2 w') {k : Nat} (hd : g1.D k) (hq : W.imgI k = false) : ¬ Owned (g1.ren W.inT W.inI) (g1.μ k) := by
  rintro (⟨j, ⟨i, hp, hd'⟩, he⟩ | ⟨u, ⟨t', hp, hl'⟩, he⟩)
  · rw [G.ren_μ (Way.inj_in h.good) hp] at he
    have := h.wf1.dinj i k hd' hd he
    subst this; rw [Way.inI_img hp] at hq; cases hq
  · rw [G.ren_ν (Way.inj_in h.good) hp] at he; exact h.wf1.dl k t' hd hl' he.symm

theorem Joins.wf3 (h : Joins W g1 w g2 w') : WF (g2.ren W.outT W.outI) w' := h.wf2.ren (Way.inj_out h.good)

theorem Joins.owned3 (h : Joins W g1 w g2 w') {b : Nat} (hb : Owned (g2.ren W.outT W.outI) b) : Owned (g1.ren W.inT W.inI) b ∨ w.heap.size ≤ b := by
  refine h.ext.own b ?_
  rcases hb with ⟨j, ⟨i, hp, hd⟩, rfl⟩ | ⟨u, ⟨t, hp, hl⟩, rfl⟩
  · exact .inl ⟨i, hd, by rw [G.ren_μ (Way.inj_out h.good) hp]⟩
  · exact .inr ⟨t, hl, by rw [G.ren_ν (Way.inj_out h.good) hp]⟩

theorem Joins.I3 (h : Joins W g1 w g2 w') {b : Nat} (hb : (g2.ren W.outT W.outI).I b) : g1.I b ∨ Owned (g1.ren W.inT W.inI) b ∨ w.heap.size ≤ b := h.ext.imm b hb

theorem Joins.μin (h : Joins W g1 w g2 w') {k : Nat} (hk : W.isI k = true) : (W.out g1 g2).μ k = g1.μ k ∧ (g1.D k → (W.out g1 g2).D k) := by
  obtain ⟨j, h1, h2, h3⟩ := Way.isI_in h.good hk
  have hi : W.imgI k = true := Way.inI_img h1
  have he := h.ext.ext j h3
  constructor
  · show (if W.imgI k = true then _ else _) = _
    rw [if_pos hi, G.ren_μ (Way.inj_out h.good) h2, he.1, G.ren_μ (Way.inj_in h.good) h1]
  · intro hd
    show (if W.imgI k = true then _ else _)
    rw [if_pos hi]
    exact ⟨j, h2, he.2 ⟨k, h1, hd⟩⟩

theorem Joins.turn1 (h : Joins W g1 w g2 w') : Turns g1 w (W.out g1 g2) w' W.killT W.killI where
  lax := lax_killT W
  imm := fun b hb => ⟨.inl hb, h.keepI hb⟩
  acc := by
    intro o o' b off n c hF ha
    cases o with
    | imm =>
      simp only [Way.killT, Option.some.injEq] at hF; subst hF
      exact ⟨.inl ha, fun k _ _ => cell_of_heap (h.keepI ha)⟩
    | own t =>
      simp only [Way.killT] at hF
      split at hF
      · cases hF
      · rename_i hq
        cases hF
        have hq' : W.imgT t = false := by simpa using hq
        rcases ha with ⟨a1, a2, a3, a4⟩ | ⟨ha, hc⟩
        · have hs : w'.heap[b]? = w.heap[b]? := h.ext.keep b (a2 ▸ h.wf1.llt t a1) (a2 ▸ h.freeT a1 hq')
          refine ⟨.inl ⟨?_, ?_, ?_, a4.same hs⟩, fun k _ _ => cell_of_heap hs⟩
          · show (if W.imgT t = true then _ else _); rw [if_neg hq]; exact a1
          · show _ = (if W.imgT t = true then _ else _); rw [if_neg hq]; exact a2
          · show _ = (if W.imgT t = true then _ else _); rw [if_neg hq]; exact a3
        · exact ⟨.inr ⟨.inl ha, hc⟩, fun k _ _ => cell_of_heap (h.keepI ha)⟩
    | vw t =>
      simp only [Way.killT] at hF
      split at hF
      · cases hF
      · rename_i hq
        cases hF
        have hq' : W.imgT t = false := by simpa using hq
        rcases ha with ha | ⟨a1, a2, a3⟩
        · exact ⟨.inl (.inl ha), fun k _ _ => cell_of_heap (h.keepI ha)⟩
        · have hs : w'.heap[b]? = w.heap[b]? := h.ext.keep b (a2 ▸ h.wf1.llt t a1) (a2 ▸ h.freeT a1 hq')
          refine ⟨.inr ⟨?_, ?_, ?_⟩, fun k _ _ => cell_of_heap hs⟩
          · show (if W.imgT t = true then _ else _); rw [if_neg hq]; exact a1
          · show _ = (if W.imgT t = true then _ else _); rw [if_neg hq]; exact a2
          · show _ ≤ (if W.imgT t = true then _ else _); rw [if_neg hq]; exact a3
  ptr := by
    intro i j hp
    simp only [Way.killI] at hp
    split at hp
    · rename_i hi; cases hp; exact (h.μin hi).1
    · split at hp
      · cases hp
      · rename_i hi
        cases hp
        show (if W.imgI i = true then _ else _) = _
        rw [if_neg hi]

theorem Joins.turn2 (h : Joins W g1 w g2 w') : Turns g2 w' (W.out g1 g2) w' (Fren W.outT) W.outI where
  lax := lax_ren (Way.inj_out h.good)
  imm := fun b hb => ⟨.inr hb, rfl⟩
  acc := by
    intro o o' b off n c hF ha
    refine ⟨?_, fun _ _ _ => rfl⟩
    have hi := Way.inj_out h.good
    cases o with
    | imm => simp only [Fren, Option.some.injEq] at hF; subst hF; exact .inr ha
    | own t =>
      simp only [Fren, Option.map_eq_some_iff] at hF
      obtain ⟨u, hu, rfl⟩ := hF
      have hq := Way.outT_img hu
      rcases ha with ⟨h1, h2, h3, h4⟩ | ⟨ha, hc⟩
      · refine .inl ⟨?_, ?_, ?_, h4⟩
        · show (if W.imgT u = true then _ else _); rw [if_pos hq]; exact ⟨t, hu, h1⟩
        · show _ = (if W.imgT u = true then _ else _); rw [if_pos hq, G.ren_ν hi hu]; exact h2
        · show _ = (if W.imgT u = true then _ else _); rw [if_pos hq, G.ren_fr hi hu]; exact h3
      · exact .inr ⟨.inr ha, hc.1, hi.wk _ _ hu hc.2⟩
    | vw t =>
      simp only [Fren, Option.map_eq_some_iff] at hF
      obtain ⟨u, hu, rfl⟩ := hF
      have hq := Way.outT_img hu
      rcases ha with ha | ⟨h1, h2, h3⟩
      · exact .inl (.inr ha)
      · refine .inr ⟨?_, ?_, ?_⟩
        · show (if W.imgT u = true then _ else _); rw [if_pos hq]; exact ⟨t, hu, h1⟩
        · show _ = (if W.imgT u = true then _ else _); rw [if_pos hq, G.ren_ν hi hu]; exact h2
        · show _ ≤ (if W.imgT u = true then _ else _); rw [if_pos hq, G.ren_fr hi hu]; exact h3
  ptr := by
    intro i j hp
    show (if W.imgI j = true then _ else _) = _
    rw [if_pos (Way.outI_img hp), G.ren_μ (Way.inj_out h.good) hp]

theorem Joins.D_cases {k : Nat} (hd : (W.out g1 g2).D k) : (W.imgI k = true ∧ (g2.ren W.outT W.outI).D k ∧ (W.out g1 g2).μ k = (g2.ren W.outT W.outI).μ k) ∨ (W.imgI k = false ∧ g1.D k ∧ (W.out g1 g2).μ k = g1.μ k) := by
  have hd' : if W.imgI k = true then (g2.ren W.outT W.outI).D k else g1.D k := hd
  by_cases hi : W.imgI k = true
  · rw [if_pos hi] at hd'
    exact .inl ⟨hi, hd', by show (if W.imgI k = true then _ else _) = _; rw [if_pos hi]⟩
  · rw [if_neg hi] at hd'
    exact .inr ⟨by simpa using hi, hd', by show (if W.imgI k = true then _ else _) = _; rw [if_neg hi]⟩
theorem Joins.L_cases {t : Tk} (hd : (W.out g1 g2).L t) : (W.imgT t = true ∧ (g2.ren W.outT W.outI).L t ∧ (W.out g1 g2).ν t = (g2.ren W.outT W.outI).ν t) ∨ (W.imgT t = false ∧ g1.L t ∧ (W.out g1 g2).ν t = g1.ν t) := by
  have hd' : if W.imgT t = true then (g2.ren W.outT W.outI).L t else g1.L t := hd
  by_cases hi : W.imgT t = true
  · rw [if_pos hi] at hd'
    exact .inl ⟨hi, hd', by show (if W.imgT t = true then _ else _) = _; rw [if_pos hi]⟩
  · rw [if_neg hi] at hd'
    exact .inr ⟨by simpa using hi, hd', by show (if W.imgT t = true then _ else _) = _; rw [if_neg hi]⟩

theorem Joins.wf (h : Joins W g1 w g2 w') : WF (W.out g1 g2) w' := by
  have w3 := h.wf3
  have own3 : ∀ b, Owned (g2.ren W.outT W.outI) b → ¬ g1.I b := fun b hb hI => by
    rcases h.owned3 hb with ho | ho
    · exact (h.owned ho).notI h.wf1 hI
    · have := h.wf1.ilt b hI; omega
  have i3 : ∀ b, Owned g1 b → ¬ Owned (g1.ren W.inT W.inI) b → ¬ (g2.ren W.outT W.outI).I b := fun b ho hn hI => by
    rcases h.I3 hI with h1 | h1 | h1
    · exact ho.notI h.wf1 h1
    · exact hn h1
    · have := ho.lt h.wf1; omega
  have ne : ∀ b b', Owned (g2.ren W.outT W.outI) b → Owned g1 b' → ¬ Owned (g1.ren W.inT W.inI) b' → b ≠ b' := fun b b' hb ho hn e => by
    subst e
    rcases h.owned3 hb with h1 | h1
    · exact hn h1
    · have := ho.lt h.wf1; omega
  constructor
  · intro i hd
    rcases Joins.D_cases hd with ⟨_, h1, e⟩ | ⟨_, h1, e⟩ <;> rw [e]
    · exact w3.dlt i h1
    · exact Nat.lt_of_lt_of_le (h.wf1.dlt i h1) h.ext.size
  · intro t hl
    rcases Joins.L_cases hl with ⟨_, h1, e⟩ | ⟨_, h1, e⟩ <;> rw [e]
    · exact w3.llt t h1
    · exact Nat.lt_of_lt_of_le (h.wf1.llt t h1) h.ext.size
  · rintro b (hb | hb)
    · exact Nat.lt_of_lt_of_le (h.wf1.ilt b hb) h.ext.size
    · exact w3.ilt b hb
  · intro i j hi hj he
    rcases Joins.D_cases hi with ⟨q1, h1, e1⟩ | ⟨q1, h1, e1⟩ <;> rcases Joins.D_cases hj with ⟨q2, h2, e2⟩ | ⟨q2, h2, e2⟩ <;> rw [e1, e2] at he
    · exact w3.dinj i j h1 h2 he
    · exact (ne _ _ (.inl ⟨i, h1, rfl⟩) (.inl ⟨j, h2, rfl⟩) (h.freeD h2 q2) he).elim
    · exact (ne _ _ (.inl ⟨j, h2, rfl⟩) (.inl ⟨i, h1, rfl⟩) (h.freeD h1 q1) he.symm).elim
    · exact h.wf1.dinj i j h1 h2 he
  · intro i j hi hj he
    rcases Joins.L_cases hi with ⟨q1, h1, e1⟩ | ⟨q1, h1, e1⟩ <;> rcases Joins.L_cases hj with ⟨q2, h2, e2⟩ | ⟨q2, h2, e2⟩ <;> rw [e1, e2] at he
    · exact w3.linj i j h1 h2 he
    · exact (ne _ _ (.inr ⟨i, h1, rfl⟩) (.inr ⟨j, h2, rfl⟩) (h.freeT h2 q2) he).elim
    · exact (ne _ _ (.inr ⟨j, h2, rfl⟩) (.inr ⟨i, h1, rfl⟩) (h.freeT h1 q1) he.symm).elim
    · exact h.wf1.linj i j h1 h2 he
  · intro i t hi ht he
    rcases Joins.D_cases hi with ⟨q1, h1, e1⟩ | ⟨q1, h1, e1⟩ <;> rcases Joins.L_cases ht with ⟨q2, h2, e2⟩ | ⟨q2, h2, e2⟩ <;> rw [e1, e2] at he
    · exact w3.dl i t h1 h2 he
    · exact ne _ _ (.inl ⟨i, h1, rfl⟩) (.inr ⟨t, h2, rfl⟩) (h.freeT h2 q2) he
    · exact ne _ _ (.inr ⟨t, h2, rfl⟩) (.inl ⟨i, h1, rfl⟩) (h.freeD h1 q1) he.symm
    · exact h.wf1.dl i t h1 h2 he
  · rintro i hi (hI | hI)
    · rcases Joins.D_cases hi with ⟨q1, h1, e1⟩ | ⟨q1, h1, e1⟩ <;> rw [e1] at hI
      · exact own3 _ (.inl ⟨i, h1, rfl⟩) hI
      · exact h.wf1.di i h1 hI
    · rcases Joins.D_cases hi with ⟨q1, h1, e1⟩ | ⟨q1, h1, e1⟩ <;> rw [e1] at hI
      · exact w3.di i h1 hI
      · exact i3 _ (.inl ⟨i, h1, rfl⟩) (h.freeD h1 q1) hI
  · rintro i hi (hI | hI)
    · rcases Joins.L_cases hi with ⟨q1, h1, e1⟩ | ⟨q1, h1, e1⟩ <;> rw [e1] at hI
      · exact own3 _ (.inr ⟨i, h1, rfl⟩) hI
      · exact h.wf1.li i h1 hI
    · rcases Joins.L_cases hi with ⟨q1, h1, e1⟩ | ⟨q1, h1, e1⟩ <;> rw [e1] at hI
      · exact w3.li i h1 hI
      · exact i3 _ (.inr ⟨i, h1, rfl⟩) (h.freeT h1 q1) hI

theorem Joins.ext1 (h : Joins W g1 w g2 w') : Ext g1 w (W.out g1 g2) w' where
  os := h.ext.os
  tape := h.ext.tape
  output := h.ext.output
  size := h.ext.size
  keep := fun b hb ho => h.ext.keep b hb fun h1 => ho (h.owned h1)
  own := by
    have go : ∀ b, Owned (g2.ren W.outT W.outI) b → Owned g1 b ∨ w.heap.size ≤ b := fun b hb => (h.owned3 hb).imp h.owned id
    rintro b (⟨i, hd, rfl⟩ | ⟨t, hl, rfl⟩)
    · rcases Joins.D_cases hd with ⟨_, h1, e⟩ | ⟨_, h1, e⟩ <;> rw [e]
      · exact go _ (.inl ⟨i, h1, rfl⟩)
      · exact .inl (.inl ⟨i, h1, rfl⟩)
    · rcases Joins.L_cases hl with ⟨_, h1, e⟩ | ⟨_, h1, e⟩ <;> rw [e]
      · exact go _ (.inr ⟨t, h1, rfl⟩)
      · exact .inl (.inr ⟨t, h1, rfl⟩)
  imm := by
    rintro b (hb | hb)
    · exact .inl hb
    · rcases h.I3 hb with h1 | h1 | h1
      · exact .inl h1
      · exact .inr (.inl (h.owned h1))
      · exact .inr (.inr h1)
  ext := by
    intro i hi
    by_cases hs : W.isI i = true
    · exact h.μin hs
    · have hn : W.imgI i = false := by
        cases hx : W.imgI i with
        | false => rfl
        | true =>
          simp only [Way.imgI, Bool.or_eq_true] at hx
          rcases hx with hx | hx
          · exact absurd hx hs
          · obtain ⟨j, hj⟩ := Option.isSome_iff_exists.1 hx
            have := (h.good.newI _ _ (lookR_mem hj)).2
            omega
      exact ⟨by show (if W.imgI i = true then _ else _) = _; rw [if_neg (by simp [hn])], fun hd => by show (if W.imgI i = true then _ else _); rw [if_neg (by simp [hn])]; exact hd⟩

theorem Joins.heap1 (h : Joins W g1 w g2 w') {hp : List (Nat × Ob)} (hh : HeapSim g1 w hp) : HeapSim (W.out g1 g2) w' (scrubO W.killT W.killI (dropO W.isI hp)) := by
  intro k' ob' ho
  obtain ⟨k, ob, h1, h2, rfl⟩ := getO_scrubO ho
  obtain ⟨h3, h4⟩ := getO_dropO h2
  have hk : k' = k ∧ W.imgI k = false := by
    simp only [Way.killI, h3, Bool.false_eq_true, if_false] at h1
    split at h1
    · cases h1
    · rename_i hn; cases h1; exact ⟨rfl, by simpa using hn⟩
  obtain ⟨rfl, hn⟩ := hk
  have := hh k' ob h4
  cases ob with
  | cells xs =>
    obtain ⟨hd, cs, T, hb, hl, hr⟩ := this
    have e : (W.out g1 g2).μ k' = g1.μ k' := by show (if W.imgI k' = true then _ else _) = _; rw [if_neg (by simp [hn])]
    refine ⟨by show (if W.imgI k' = true then _ else _); rw [if_neg (by simp [hn])]; exact hd, cs, T, ?_, by simp [scrubL_eq, hl], fun i x u hx hu => ?_⟩
    · rw [e, h.ext.keep _ (h.wf1.dlt k' hd) (h.freeD hd hn)]; exact hb
    · rw [scrubL_eq, List.getElem?_map, Option.map_eq_some_iff] at hx
      obtain ⟨y, hy, rfl⟩ := hx
      exact (hr i y u hy hu).scrub h.turn1

theorem Joins.heap2 (h : Joins W g1 w g2 w') {hp : List (Nat × Ob)} (hh : HeapSim g2 w' hp) : HeapSim (W.out g1 g2) w' (scrubO (Fren W.outT) W.outI hp) := by
  intro k' ob' ho
  obtain ⟨k, ob, h1, h2, rfl⟩ := getO_scrubO ho
  have := hh k ob h2
  cases ob with
  | cells xs =>
    obtain ⟨hd, cs, T, hb, hl, hr⟩ := this
    have hi := Way.outI_img h1
    have e : (W.out g1 g2).μ k' = g2.μ k := by show (if W.imgI k' = true then _ else _) = _; rw [if_pos hi, G.ren_μ (Way.inj_out h.good) h1]
    refine ⟨by show (if W.imgI k' = true then _ else _); rw [if_pos hi]; exact ⟨k, h1, hd⟩, cs, T, by rw [e]; exact hb, by simp [scrubL_eq, hl], fun i x u hx hu => ?_⟩
    rw [scrubL_eq, List.getElem?_map, Option.map_eq_some_iff] at hx
    obtain ⟨y, hy, rfl⟩ := hx
    exact (hr i y u hy hu).scrub h.turn2
end

/-- Each object of the one is in the other. -/
def subO : List (Nat × Ob) → List (Nat × Ob) → Prop
  | [], _ => True
  | (k, x) :: l, h => getO h k = some x ∧ subO l h

theorem subO_get {a h : List (Nat × Ob)} (hs : subO a h) {k : Nat} {ob : Ob} (hg : getO a k = some ob) : getO h k = some ob := by
  induction a with
  | nil => cases hg
  | cons c l ih =>
    obtain ⟨i, x⟩ := c
    simp only [getO] at hg
    by_cases e : i = k
    · rw [if_pos e] at hg; cases hg; exact e ▸ hs.1
    · rw [if_neg e] at hg; exact ih hs.2 hg

def Way.argIn (W : Way) (ts : List Tk) (x : PV) : PV := (x.scrub (Ffz (fzOf ts)) some).scrub (Fren W.inT) W.inI
def Way.heapIn (W : Way) (ts : List Tk) (h : List (Nat × Ob)) : List (Nat × Ob) := scrubO (Fren W.inT) W.inI (scrubO (Ffz (fzOf ts)) some h)
def Way.left (W : Way) (ts : List Tk) (x : PV) : PV := (x.scrub (Ffz (fzOf ts)) some).scrub W.killT W.killI
def Way.res (W : Way) (x : PV) : PV := x.scrub (Fren W.outT) W.outI
def Way.heapOut (W : Way) (ts : List Tk) (H h : List (Nat × Ob)) : List (Nat × Ob) := scrubO (Fren W.outT) W.outI H ++ scrubO W.killT W.killI (dropO W.isI (scrubO (Ffz (fzOf ts)) some h))

theorem CallT.of {P : Program} {h : List (Nat × Ob)} {k : FuncId} {args args' : List PV} {X : PV} {H h' : List (Nat × Ob)} (W : Way) (ts : List Tk) (hW : W.ok = true) (hc : TrC P k args' h' fun x hx => x = X ∧ hx = H)
    (ha : args' = args.map (W.argIn ts)) (hh : subO h' (W.heapIn ts h)) : CallT P h k args (W.left ts) (W.heapOut ts H h) (W.res X) := by
  intro g w vs hhs hw hr
  have hg := Way.ok_good hW
  have ht1 := Turns.fz g (fzOf ts) w
  have ht2 := Turns.ren (g := g.fz (fzOf ts)) (Way.inj_in hg) w
  have hw1 := hw.fz (fzOf ts)
  have hwc := hw1.ren (Way.inj_in hg)
  have hs0 : Sim g ⟨[], h, 0⟩ ⟨#[], []⟩ w := ⟨fun s => by show Rep g w .dead _; exact .dead _, rfl, hhs⟩
  have hs1 := hs0.fz (fzOf ts)
  have hs2 := hs1.ren (Way.inj_in hg)
  have hargs : RepArgs ((g.fz (fzOf ts)).ren W.inT W.inI) w args' vs := by
    subst ha
    refine ⟨by simp [hr.1], fun i x u hx hu => ?_⟩
    rw [List.getElem?_map, Option.map_eq_some_iff] at hx
    obtain ⟨y, hy, rfl⟩ := hx
    exact ((hr.2 i y u hy hu).scrub ht1).scrub ht2
  refine CallsIn.mono (hc _ w vs (fun id ob ho => hs2.heap id ob (subO_get hh ho)) hwc hargs) fun e w' hp => ?_
  obtain ⟨v, x, g2, hx, rfl, ⟨rfl, rfl⟩, h1, h2, h3, h4⟩ := hp
  have hj : Joins W (g.fz (fzOf ts)) w g2 w' := ⟨hg, hw1, h3, h4⟩
  refine ⟨v, W.out (g.fz (fzOf ts)) g2, rfl, fun y u hy => (hy.scrub ht1).scrub hj.turn1, fun id ob ho => ?_, h1.scrub hj.turn2, hj.wf, (Ext.fz g _ w).trans hj.ext1⟩
  rcases getO_append ho with ho | ho
  · exact hj.heap2 h2 id ob ho
  · exact hj.heap1 hs1.heap id ob ho

end Go.Sy
