/- Memory is made and written: what that does to a symbolic state. -/
import Derived.Test.YtgpcphddjapceaaS3
import Derived.Deep.AppendSrc
namespace Go.Sy

theorem Acc.lt {g : G} {w : World} (hw : WF g w) {o : Own} {b off n c : Nat} (h : Acc g w o b off n c) : b < w.heap.size := by
  cases o with
  | imm => exact hw.ilt b h
  | own t => rcases h with ⟨h1, rfl, _⟩ | ⟨h, _⟩ <;> first | exact hw.llt t h1 | exact hw.ilt b h
  | vw t => rcases h with h | ⟨h1, rfl, _⟩ <;> first | exact hw.ilt b h | exact hw.llt t h1

/-- 'w' with one block more. -/
structure Made (w w' : World) (o : Obj) : Prop where
  os : w'.os = w.os
  tape : w'.tape = w.tape
  output : w'.output = w.output
  size : w'.heap.size = w.heap.size + 1
  old : ∀ b, b < w.heap.size → w'.heap[b]? = w.heap[b]?
  new : w'.heap[w.heap.size]? = some o

theorem Made.alloc (w : World) (o : Obj) : Made w (w.alloc o) o :=
  ⟨rfl, rfl, rfl, by show (w.heap.push o).size = _; simp, fun b hb => by show (w.heap.push o)[b]? = _; rw [Array.getElem?_push, if_neg (by omega)], by show (w.heap.push o)[w.heap.size]? = _; simp⟩
theorem Made.drew (w : World) (o : Obj) : Made w (w.drew.alloc o) o := Made.alloc w o |> fun h => ⟨h.os, h.tape, h.output, h.size, h.old, h.new⟩

def G.addD (g : G) (d b : Nat) : G := { g with μ := fun i => if i = d then b else g.μ i, D := fun i => g.D i ∨ i = d }
def G.addL (g : G) (u : Tk) (b f : Nat) : G := { g with ν := fun t => if t = u then b else g.ν t, fr := fun t => if t = u then f else g.fr t, L := fun t => g.L t ∨ t = u }

section
variable {g g1 : G} {w w' : World} {F : Own → Option Own} {p : Nat → Option Nat} {o : Obj}

theorem Turns.addD (ht : Turns g w g1 w F p) (hw : WF g w) (hw1 : WF g1 w) (hm : Made w w' o) {d : Nat} (hp : ∀ i, p i ≠ some d) : Turns g w (g1.addD d w.heap.size) w' F p where
  lax := ht.lax
  imm := fun b hb => ⟨(ht.imm b hb).1, hm.old _ (hw.ilt b hb)⟩
  acc := by
    intro q q' b off n c hF ha
    obtain ⟨h1, h2⟩ := ht.acc q q' b off n c hF ha
    have hb := h1.lt hw1
    have hsame := hm.old _ hb
    refine ⟨?_, fun k _ _ => cell_of_heap hsame⟩
    cases q' with
    | imm => exact h1
    | own t =>
      rcases h1 with ⟨a1, a2, a3, a4⟩ | h
      · exact .inl ⟨a1, a2, a3, a4.same hsame⟩
      · exact .inr h
    | vw t => exact h1
  ptr := fun i j hj => by
    have : j ≠ d := fun e => hp i (e ▸ hj)
    show (if j = d then _ else _) = _
    rw [if_neg this]; exact ht.ptr i j hj

theorem WF.addD (h : WF g w) (hm : Made w w' o) {d : Nat} (hd : ¬ g.D d) : WF (g.addD d w.heap.size) w' := by
  have hs := hm.size
  have hμ : ∀ i, g.D i → (g.addD d w.heap.size).μ i = g.μ i := fun i hi => by
    show (if i = d then _ else _) = _
    rw [if_neg (show ¬ i = d from fun e => hd (e ▸ hi))]
  have hμd : (g.addD d w.heap.size).μ d = w.heap.size := by show (if d = d then _ else _) = _; rw [if_pos rfl]
  refine ⟨?_, fun t ht => ?_, fun b hb => ?_, ?_, h.linj, ?_, ?_, h.li⟩
  · rintro i (hi | rfl)
    · rw [hμ i hi, hs]; exact Nat.lt_succ_of_lt (h.dlt i hi)
    · rw [hμd, hs]; exact Nat.lt_succ_self _
  · rw [hs]; exact Nat.lt_succ_of_lt (h.llt t ht)
  · rw [hs]; exact Nat.lt_succ_of_lt (h.ilt b hb)
  · rintro i j (hi | rfl) (hj | rfl) he
    · rw [hμ i hi, hμ j hj] at he; exact h.dinj i j hi hj he
    · rw [hμ i hi, hμd] at he; have := h.dlt i hi; omega
    · rw [hμ j hj, hμd] at he; have := h.dlt j hj; omega
    · rfl
  · rintro i t (hi | rfl) ht
    · rw [hμ i hi]; exact h.dl i t hi ht
    · rw [hμd]; have := h.llt t ht; show _ ≠ g.ν t; omega
  · rintro i (hi | rfl)
    · rw [hμ i hi]; exact h.di i hi
    · rw [hμd]; exact fun hb => by have := h.ilt _ hb; omega

theorem Ext.addD (hm : Made w w' o) {d : Nat} (hd1 : d < 100000) (hd : ¬ g.D d) : Ext g w (g.addD d w.heap.size) w' := by
  refine ⟨hm.os, hm.tape, hm.output, by rw [hm.size]; omega, fun b hb _ => hm.old _ hb, ?_, fun b hb => .inl hb, fun i hi => ⟨if_neg (by omega), .inl⟩⟩
  rintro b (⟨i, hi | rfl, rfl⟩ | ⟨t, ht, rfl⟩)
  · refine .inl (.inl ⟨i, hi, ?_⟩)
    show _ = (if i = d then _ else _); rw [if_neg (show ¬ i = d from fun e => hd (e ▸ hi))]
  · refine .inr ?_
    show _ ≤ (if i = i then _ else _); rw [if_pos rfl]; exact Nat.le_refl _
  · exact .inl (.inr ⟨t, ht, rfl⟩)

theorem Turns.addL (ht : Turns g w g1 w F p) (hw : WF g w) (hw1 : WF g1 w) (hm : Made w w' o) {u : Tk} {f : Nat} (hF : ∀ q, F q ≠ some (.own u) ∧ F q ≠ some (.vw u)) : Turns g w (g1.addL u w.heap.size f) w' F p where
  lax := ht.lax
  imm := fun b hb => ⟨(ht.imm b hb).1, hm.old _ (hw.ilt b hb)⟩
  acc := by
    intro q q' b off n c hq ha
    obtain ⟨h1, h2⟩ := ht.acc q q' b off n c hq ha
    have hb := h1.lt hw1
    have hsame := hm.old _ hb
    refine ⟨?_, fun k _ _ => cell_of_heap hsame⟩
    cases q' with
    | imm => exact h1
    | own t =>
      have hne : t ≠ u := fun e => (hF q).1 (e ▸ hq)
      rcases h1 with ⟨a1, a2, a3, a4⟩ | h
      · refine .inl ⟨.inl a1, ?_, ?_, a4.same hsame⟩
        · show _ = (if t = u then _ else _); rw [if_neg hne]; exact a2
        · show _ = (if t = u then _ else _); rw [if_neg hne]; exact a3
      · exact .inr h
    | vw t =>
      have hne : t ≠ u := fun e => (hF q).2 (e ▸ hq)
      rcases h1 with h | ⟨a1, a2, a3⟩
      · exact .inl h
      · refine .inr ⟨.inl a1, ?_, ?_⟩
        · show _ = (if t = u then _ else _); rw [if_neg hne]; exact a2
        · show _ ≤ (if t = u then _ else _); rw [if_neg hne]; exact a3
  ptr := ht.ptr

theorem WF.addL (h : WF g w) (hm : Made w w' o) {u : Tk} (hu : ¬ g.L u) (f : Nat) : WF (g.addL u w.heap.size f) w' := by
  have hs := hm.size
  have hν : ∀ t, g.L t → (g.addL u w.heap.size f).ν t = g.ν t := fun t ht => by
    show (if t = u then _ else _) = _
    rw [if_neg (show ¬ t = u from fun e => hu (e ▸ ht))]
  have hνu : (g.addL u w.heap.size f).ν u = w.heap.size := by show (if u = u then _ else _) = _; rw [if_pos rfl]
  refine ⟨fun i hi => ?_, ?_, fun b hb => ?_, h.dinj, ?_, ?_, h.di, ?_⟩
  · rw [hs]; exact Nat.lt_succ_of_lt (h.dlt i hi)
  · rintro t (ht | rfl)
    · rw [hν t ht, hs]; exact Nat.lt_succ_of_lt (h.llt t ht)
    · rw [hνu, hs]; exact Nat.lt_succ_self _
  · rw [hs]; exact Nat.lt_succ_of_lt (h.ilt b hb)
  · rintro i j (hi | rfl) (hj | rfl) he
    · rw [hν i hi, hν j hj] at he; exact h.linj i j hi hj he
    · rw [hν i hi, hνu] at he; have := h.llt i hi; omega
    · rw [hν j hj, hνu] at he; have := h.llt j hj; omega
    · rfl
  · rintro i t hi (ht | rfl)
    · rw [hν t ht]; exact h.dl i t hi ht
    · rw [hνu]; have := h.dlt i hi; show g.μ i ≠ _; omega
  · rintro t (ht | rfl)
    · rw [hν t ht]; exact h.li t ht
    · rw [hνu]; exact fun hb => by have := h.ilt _ hb; omega

theorem Ext.addL (hm : Made w w' o) {u : Tk} (hu : ¬ g.L u) (f : Nat) : Ext g w (g.addL u w.heap.size f) w' := by
  refine ⟨hm.os, hm.tape, hm.output, by rw [hm.size]; omega, fun b hb _ => hm.old _ hb, ?_, fun b hb => .inl hb, fun _ _ => ⟨rfl, fun h => h⟩⟩
  rintro b (⟨i, hi, rfl⟩ | ⟨t, ht | rfl, rfl⟩)
  · exact .inl (.inl ⟨i, hi, rfl⟩)
  · refine .inl (.inr ⟨t, ht, ?_⟩)
    show _ = (if t = u then _ else _); rw [if_neg (show ¬ t = u from fun e => hu (e ▸ ht))]
  · refine .inr ?_
    show _ ≤ (if t = t then _ else _); rw [if_pos rfl]; exact Nat.le_refl _
end

/-- The names that are free for what slot d makes. -/
def offTk (d : Nat) : Tk → Option Tk
  | .loc n => if n = d then none else some (.loc n)
  | .cell id off => if id = d then none else some (.cell id off)
  | .wk n => if n = d then none else some (.wk n)
def offId (d : Nat) (i : Nat) : Option Nat := if i = d then none else some i

theorem offTk_inj {d : Nat} {t u : Tk} (h : offTk d t = some u) : u = t := by
  cases t <;> simp only [offTk] at h <;> split at h <;> cases h <;> rfl
theorem offTk_ne {d : Nat} {t : Tk} {n : Nat} (h : offTk d t = some (.loc n)) : n ≠ d := by
  cases t <;> simp only [offTk] at h <;> split at h <;> cases h; assumption
theorem offTk_ne' {d : Nat} {t : Tk} {n f : Nat} (h : offTk d t = some (.cell n f)) : n ≠ d := by
  cases t <;> simp only [offTk] at h <;> split at h <;> cases h; assumption
theorem offId_eq {d i j : Nat} (h : offId d i = some j) : j = i ∧ i ≠ d := by
  simp only [offId] at h; split at h <;> cases h; exact ⟨rfl, by assumption⟩

theorem inj_off (d : Nat) : Inj (offTk d) (offId d) :=
  ⟨fun _ _ _ h1 h2 => (offTk_inj h1).symm.trans (offTk_inj h2), fun _ _ _ h1 h2 => (offId_eq h1).1.symm.trans (offId_eq h2).1, fun _ _ h hw => (offTk_inj h) ▸ hw⟩

end Go.Sy
