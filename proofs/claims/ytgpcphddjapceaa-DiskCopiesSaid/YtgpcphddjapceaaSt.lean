/- A store through a row's element. -/
import Derived.Test.YtgpcphddjapceaaSd
namespace Go.Sy

def noTk (t u : Tk) : Option Tk := if u = t then none else some u

/-- A row whose cell, so far ahead of its end, is another. -/
def pokeL (k : Nat) (x : PV) (zs : List PV) : List PV := if k ≤ zs.length then zs.set (zs.length - k) x else zs

def pokeV (t : Tk) (k : Nat) (x : PV) (y : PV) : PV :=
  match y with
  | .sl (.own u) nl 1 zs => if u = t then .sl (.own u) nl 1 (pokeL k x zs) else .sl (.own u) nl 1 zs
  | y => y.scrub (Fren (noTk t)) some

def pokeR (t : Tk) (k : Nat) (x : PV) : List (Nat × PV) → List (Nat × PV)
  | [] => []
  | (i, y) :: r => (i, pokeV t k x y) :: pokeR t k x r

def St.poke (t : Tk) (k : Nat) (x : PV) (st : St) : St := { st with regs := pokeR t k x st.regs, heap := scrubO (Fren (noTk t)) some st.heap }

theorem pokeV_dead (t : Tk) (k : Nat) (x : PV) : pokeV t k x .dead = .dead := by simp [pokeV, PV.scrub]
theorem getR_pokeR (t : Tk) (k : Nat) (x : PV) (r : List (Nat × PV)) (s : Nat) : getR (pokeR t k x r) s = pokeV t k x (getR r s) := by
  induction r with
  | nil => exact (pokeV_dead t k x).symm
  | cons c r ih =>
    obtain ⟨i, y⟩ := c
    simp only [pokeR, getR]
    split
    · rfl
    · exact ih

theorem Turns.poke {g : G} {w : World} (hw : WF g w) {t : Tk} (hl : g.L t) (o : Nat) (v : Value) : Turns g w g (w.setCell ⟨g.ν t, o, none⟩ v) (Fren (noTk t)) some where
  lax := fun o o' h hl => by
    cases o with
    | imm => simp only [Fren, Option.some.injEq] at h; subst h; rfl
    | own u => simp only [Fren, noTk] at h; split at h <;> cases h; exact hl
    | vw u => simp only [Fren, noTk] at h; split at h <;> cases h; exact hl
  imm := fun b hb => ⟨hb, heap_setCell fun e => hw.li t hl ((show b = g.ν t from e) ▸ hb)⟩
  acc := by
    intro q q' b off n c hF ha
    have key : b ≠ g.ν t ∧ q' = q := by
      cases q with
      | imm =>
        simp only [Fren, Option.some.injEq] at hF; subst hF
        exact ⟨fun e => hw.li t hl (e ▸ (show g.I b from ha)), rfl⟩
      | own u =>
        simp only [Fren, noTk] at hF
        split at hF
        · cases hF
        · rename_i hne
          cases hF
          refine ⟨?_, rfl⟩
          rcases ha with ⟨a1, a2, _⟩ | ⟨h, _⟩
          · exact fun e => hne (hw.linj u t a1 hl (a2.symm.trans e))
          · exact fun e => hw.li t hl (e ▸ h)
      | vw u =>
        simp only [Fren, noTk] at hF
        split at hF
        · cases hF
        · rename_i hne
          cases hF
          refine ⟨?_, rfl⟩
          rcases ha with h | ⟨a1, a2, _⟩
          · exact fun e => hw.li t hl (e ▸ h)
          · exact fun e => hne (hw.linj u t a1 hl (a2.symm.trans e))
    obtain ⟨hne, rfl⟩ := key
    have hsame := heap_setCell (w := w) (a := ⟨g.ν t, o, none⟩) (u := v) hne
    refine ⟨?_, fun k _ _ => cell_of_heap hsame⟩
    cases q' with
    | imm => exact ha
    | own u =>
      rcases ha with ⟨a1, a2, a3, a4⟩ | h
      · exact .inl ⟨a1, a2, a3, a4.same hsame⟩
      · exact .inr h
    | vw u => exact ha
  ptr := fun i j h => by cases h; rfl

theorem Data.same {F : Own → Option Own} (hF : F .imm = some .imm) {x : PV} (h : Data x) : x.scrub F some = x := by
  induction h with
  | lit v hv => simp only [PV.scrub]
  | sl nl s xs h ih => simp only [PV.scrub, hF]
  | agg xs h hf ih =>
    simp only [PV.scrub, scrubL_eq]
    congr 1
    exact (List.map_congr_left fun x hx => ih x hx).trans (List.map_id _)

theorem pokeV_rep {g : G} {w : World} (hw : WF g w) {n : Nat} (hl : g.L (.loc n)) {k : Nat} (hk0 : 0 < k) (hk : k ≤ g.fr (.loc n)) {v : Value} (hv : v.oneCell' = true)
    {cs : Array Value} {T : TypeId} {fz : Nat × Nat} (hb : w.heap[g.ν (.loc n)]? = some (.cells cs T fz)) (hsz : g.fr (.loc n) ≤ cs.size)
    {y : PV} {u : Value} (h : Rep g w y u) : Rep g (w.setCell ⟨g.ν (.loc n), g.fr (.loc n) - k, none⟩ v) (pokeV (.loc n) k (.lit v) y) u := by
  have ht := Turns.poke hw hl (g.fr (.loc n) - k) v
  have hbase := h.scrub ht
  unfold pokeV
  split
  · rename_i q nl zs
    split
    · rename_i e
      subst e
      have hnew : (w.setCell ⟨g.ν (.loc n), g.fr (.loc n) - k, none⟩ v).heap[g.ν (.loc n)]? = some (.cells (cs.setIfInBounds (g.fr (.loc n) - k) v) T fz) := by
        show (w.heap.modify _ _)[g.ν (.loc n)]? = _
        rw [Array.getElem?_modify, if_pos rfl, hb]; rfl
      cases h with
      | nils => simp only [pokeL, List.length_nil, if_neg (show ¬ k ≤ 0 by omega)]; exact .nils _ _
      | sle _ _ a hlax => exact absurd hlax (by simp [Own.lax, Tk.weak])
      | sl _ _ _ b off c U hc hm hacc hd hs hcell hrep =>
        rcases hacc with ⟨a1, a2, a3, a4⟩ | ⟨_, _, a3⟩
        · subst a2
          simp only [Nat.mul_one] at a3 a4
          have hrep' : ∀ (j : Nat) (x : PV), zs[j]? = some x → ∀ (i : Nat) (y : PV), x.comps[i]? = some y → Rep g (w.setCell ⟨g.ν (.loc n), g.fr (.loc n) - k, none⟩ v) y (U j i) := fun j x hx i y hy => by
            have h1 := (hrep j x hx i y hy).scrub ht
            rwa [((hd x (mem_of_get hx)).comp hy).same (F := Fren (noTk (.loc n))) rfl] at h1
          have hlen : (pokeL k (.lit v) zs).length = zs.length := by unfold pokeL; split <;> simp
          have hget : ∀ (j : Nat) (x : PV), (pokeL k (.lit v) zs)[j]? = some x → (j + k = zs.length ∧ x = .lit v) ∨ (j + k ≠ zs.length ∧ zs[j]? = some x) := by
            intro j x hx
            unfold pokeL at hx
            split at hx
            · rename_i hle
              rw [List.getElem?_set] at hx
              by_cases e : zs.length - k = j
              · rw [if_pos e] at hx
                split at hx
                · simp only [Option.some.injEq] at hx; exact .inl ⟨by omega, hx.symm⟩
                · cases hx
              · rw [if_neg e] at hx
                have := (List.getElem?_eq_some_iff.1 hx).1
                exact .inr ⟨by omega, hx⟩
            · have := (List.getElem?_eq_some_iff.1 hx).1
              exact .inr ⟨by omega, hx⟩
          have hR : Rep g (w.setCell ⟨g.ν (.loc n), g.fr (.loc n) - k, none⟩ v) (.sl (.own (.loc n)) false 1 (pokeL k (.lit v) zs)) (.slice (some ⟨g.ν (.loc n), off, none⟩) (pokeL k (.lit v) zs).length c) := by
            refine .sl _ 1 _ _ off c (fun j i => if j + k = zs.length then v else U j i) (by rw [hlen]; exact hc) hm (.inl ⟨a1, rfl, by rw [hlen]; simpa using a3, ?_⟩) ?_ ?_ ?_ ?_
            · obtain ⟨cs', T', fz', r1, r2, r3⟩ := a4
              rw [hb] at r1; cases r1
              exact ⟨_, T, fz, hnew, by simpa using r2, by simpa using r3⟩
            · intro x hx
              obtain ⟨j, hj⟩ := List.getElem?_of_mem hx
              rcases hget j x hj with ⟨_, rfl⟩ | ⟨_, h2⟩
              · exact .lit v hv
              · exact hd x (mem_of_get h2)
            · intro x hx
              obtain ⟨j, hj⟩ := List.getElem?_of_mem hx
              rcases hget j x hj with ⟨_, rfl⟩ | ⟨_, h2⟩
              · rfl
              · exact hs x (mem_of_get h2)
            · intro j x hx i hi
              obtain rfl : i = 0 := by omega
              rw [cell_row hnew]
              rw [Array.getElem?_setIfInBounds]
              rcases hget j x hx with ⟨h1, rfl⟩ | ⟨h1, h2⟩
              · rw [if_pos (by omega), if_pos (by omega), if_pos h1]
              · have hlt := (List.getElem?_eq_some_iff.1 h2).1
                rw [if_neg (by omega), if_neg h1]
                have := hcell j x h2 0 (by omega)
                rwa [cell_row hb] at this
            · intro j x hx i y hy
              rcases hget j x hx with ⟨h1, rfl⟩ | ⟨h1, h2⟩
              · rw [if_pos h1]
                match i, hy with
                | 0, hy => simp [PV.comps] at hy; subst hy; exact .lit v
              · rw [if_neg h1]; exact hrep' j x h2 i y hy
          rwa [hlen] at hR
        · simp [Tk.weak] at a3
    · rename_i hne
      have e : (PV.sl (.own q) nl 1 zs).scrub (Fren (noTk (.loc n))) some = .sl (.own q) nl 1 zs := by simp [PV.scrub, Fren, noTk, hne]
      rwa [e] at hbase
  · exact hbase

theorem Sim.poke {g : G} {st : St} {a : Act} {w : World} (h : Sim g st a w) (hw : WF g w) {n : Nat} {zs : List PV} {p : Value} (hp : Rep g w (.cur (.own (.loc n)) zs) p) (hz : 0 < zs.length) {v : Value} (hv : v.oneCell' = true) :
    ∃ o, p = .pointer (some ⟨g.ν (.loc n), o, none⟩) ∧ Sim g (st.poke (.loc n) zs.length (.lit v)) a (w.setCell ⟨g.ν (.loc n), o, none⟩ v) ∧ WF g (w.setCell ⟨g.ν (.loc n), o, none⟩ v) ∧ Ext g w g (w.setCell ⟨g.ν (.loc n), o, none⟩ v) ∧
      (∃ u, w.cell? ⟨g.ν (.loc n), o, none⟩ = some u) ∧ w.frozen? ⟨g.ν (.loc n), o, none⟩ = false := by
  cases hp with
  | cur _ _ b off U hacc hd hcell hrep =>
    rcases hacc with ⟨a1, a2, a3, a4⟩ | ⟨_, _, a3⟩
    · subst a2
      obtain ⟨cs, T, fz, r1, r2, r3⟩ := a4
      have ho : off = g.fr (.loc n) - zs.length := by omega
      have ht := Turns.poke hw a1 off v
      refine ⟨off, rfl, ⟨fun s => ?_, h.nt, ?_⟩, hw.sameSize (size_setCell _ _ _), ⟨rfl, rfl, rfl, by rw [size_setCell]; exact Nat.le_refl _, fun b _ hbo => heap_setCell fun e => hbo (.inr ⟨_, a1, (show b = g.ν (.loc n) from e).symm⟩), fun b hb => .inl hb, fun b hb => .inl hb, fun _ _ => ⟨rfl, fun h => h⟩⟩, ?_, ?_⟩
      · show Rep g _ (getR (pokeR _ _ _ st.regs) s) _
        rw [getR_pokeR]
        have := pokeV_rep hw a1 hz (by omega) hv r1 (by omega) (h.regs s)
        rwa [← ho] at this
      · exact (h.turn ht fun i j hp hd => by cases hp; exact ⟨hd, heap_setCell fun e => hw.dl i _ hd a1 e⟩).heap
      · have : off < cs.size := by omega
        exact ⟨cs[off], by simp [World.cell?, r1, this]⟩
      · simp only [World.frozen?, r1]
        obtain ⟨f1, f2⟩ := fz
        simp only at r3
        rw [Bool.and_eq_false_iff, decide_eq_false_iff_not, decide_eq_false_iff_not]
        omega
    · simp [Tk.weak] at a3
end Go.Sy
