/- New objects, new rows, stores, appends. -/
import Derived.Test.YtgpcphddjapceaaS4
namespace Go.Sy

def St.addO (st : St) (d : Nat) (ob : Ob) : St := { st with heap := (d, ob) :: st.heap }

theorem Sim.newOb {g : G} {st : St} {a : Act} {w w' : World} (h : Sim g st a w) (hw : WF g w) {cs : Array Value} {T : TypeId} (hm : Made w w' (.cells cs T (0, 0))) {xs : List PV} (hl : cs.size = xs.length)
    (hx : ∀ (i : Nat) (x : PV) (u : Value), xs[i]? = some x → cs[i]? = some u → Rep g w x u) {ρ : Tk → Option Tk} {p : Nat → Option Nat} (hi : Inj ρ p) (hx2 : ∀ i, 100000 ≤ i → p i = some i) {d : Nat} (hd1 : d < 100000) (hp : ∀ i, p i ≠ some d) :
    ∃ g', Sim g' ((st.scrub (Fren ρ) p).addO d (.cells (PV.scrubL (Fren ρ) p xs))) a w' ∧ WF g' w' ∧ Ext g w g' w' ∧ g'.μ d = w.heap.size ∧ Turns g w g' w' (Fren ρ) p := by
  have hw1 := hw.ren hi
  have hnd : ¬ (g.ren ρ p).D d := fun ⟨i, hpi, _⟩ => hp i hpi
  have ht := (Turns.ren (g := g) hi w).addD hw hw1 hm hp
  have hs := h.turn ht fun i j hpij hd => ⟨.inl ⟨i, hpij, hd⟩, by
    rw [ht.ptr i j hpij]
    exact hm.old _ (hw.dlt i hd)⟩
  have hμd : ((g.ren ρ p).addD d w.heap.size).μ d = w.heap.size := by show (if d = d then _ else _) = _; rw [if_pos rfl]
  refine ⟨_, ⟨hs.regs, hs.nt, fun id ob ho => ?_⟩, hw1.addD hm hnd, (Ext.ren hi hx2 w).trans (Ext.addD hm hd1 hnd), hμd, ht⟩
  simp only [St.addO, getO] at ho
  by_cases e : d = id
  · subst e
    rw [if_pos rfl] at ho
    cases ho
    refine ⟨.inr rfl, cs, T, by rw [hμd]; exact hm.new, by simp [scrubL_eq, hl], fun i x u hx' hu => ?_⟩
    rw [scrubL_eq, List.getElem?_map, Option.map_eq_some_iff] at hx'
    obtain ⟨y, hy, rfl⟩ := hx'
    exact (hx i y u hy hu).scrub ht
  · rw [if_neg e] at ho; exact hs.heap id ob ho

theorem getO_setO (h : List (Nat × Ob)) (id : Nat) (y : Ob) (k : Nat) (ob : Ob) (ho : getO (setO h id y) k = some ob) : (k = id ∧ ob = y) ∨ (k ≠ id ∧ getO h k = some ob) := by
  induction h with
  | nil => simp [setO, getO] at ho
  | cons c r ih =>
    obtain ⟨q, z⟩ := c
    simp only [setO] at ho
    by_cases e : q = id
    · rw [if_pos e] at ho
      simp only [getO] at ho
      by_cases e2 : q = k
      · rw [if_pos e2] at ho; cases ho; exact .inl ⟨e2 ▸ e, rfl⟩
      · rw [if_neg e2] at ho; exact .inr ⟨fun e3 => e2 (e.trans e3.symm), by simp only [getO]; rw [if_neg e2]; exact ho⟩
    · rw [if_neg e] at ho
      simp only [getO] at ho
      by_cases e2 : q = k
      · rw [if_pos e2] at ho; cases ho; exact .inr ⟨fun e3 => e (e2.trans e3), by simp only [getO]; rw [if_pos e2]⟩
      · rw [if_neg e2] at ho
        rcases ih ho with h1 | ⟨h1, h2⟩
        · exact .inl h1
        · exact .inr ⟨h1, by simp only [getO]; rw [if_neg e2]; exact h2⟩

theorem id_scrub_fn : (∀ x : PV, x.scrub some some = x) ∧ ∀ xs : List PV, PV.scrubL some some xs = xs := by
  refine ⟨fun x => ?_, fun xs => ?_⟩
  · exact PV.rec (motive_1 := fun x => x.scrub some some = x) (motive_2 := fun xs => PV.scrubL some some xs = xs)
      (fun _ => by simp only [PV.scrub]) (by simp only [PV.scrub]) (fun _ _ _ _ _ => by simp only [PV.scrub]) (fun _ _ => by simp only [PV.scrub]) (fun _ _ _ => by simp only [PV.scrub])
      (fun _ h => by simp only [PV.scrub, h]) (fun _ h => by simp only [PV.scrub, h]) (fun _ _ _ h1 h2 => by simp only [PV.scrub, h1, h2]) (fun _ => by simp only [PV.scrub])
      rfl (fun _ _ h1 h2 => by simp only [PV.scrubL, h1, h2]) x
  · exact PV.rec_1 (motive_1 := fun x => x.scrub some some = x) (motive_2 := fun xs => PV.scrubL some some xs = xs)
      (fun _ => by simp only [PV.scrub]) (by simp only [PV.scrub]) (fun _ _ _ _ _ => by simp only [PV.scrub]) (fun _ _ => by simp only [PV.scrub]) (fun _ _ _ => by simp only [PV.scrub])
      (fun _ h => by simp only [PV.scrub, h]) (fun _ h => by simp only [PV.scrub, h]) (fun _ _ _ h1 h2 => by simp only [PV.scrub, h1, h2]) (fun _ => by simp only [PV.scrub])
      rfl (fun _ _ h1 h2 => by simp only [PV.scrubL, h1, h2]) xs

theorem id_scrub_st (st : St) : st.scrub some some = st := by
  have h1 : ∀ r : List (Nat × PV), scrubR some some r = r := fun r => by
    induction r with
    | nil => rfl
    | cons c r ih => obtain ⟨k, x⟩ := c; simp only [scrubR, ih, id_scrub_fn.1]
  have h2 : ∀ r : List (Nat × Ob), scrubO some some r = r := fun r => by
    induction r with
    | nil => rfl
    | cons c r ih => obtain ⟨k, x⟩ := c; cases x; simp only [scrubO, ih, Ob.scrub, id_scrub_fn.2]
  simp only [St.scrub, h1, h2]

theorem heap_setCell {w : World} {a : Addr} {u : Value} {b : Nat} (h : b ≠ a.block) : (w.setCell a u).heap[b]? = w.heap[b]? := Go.RowKit.Below.heap_setCell w a u b h

/-- A store into an object. -/
theorem Turns.setD {g : G} {w : World} (hw : WF g w) {id off : Nat} (hd : g.D id) (v : Value) : Turns g w g (w.setCell ⟨g.μ id, off, none⟩ v) some some where
  lax := lax_some
  imm := fun b hb => ⟨hb, heap_setCell fun e => hw.di id hd ((show b = g.μ id from e) ▸ hb)⟩
  acc := by
    intro o o' b off' n c hF ha
    cases hF
    have hne : b ≠ g.μ id := by
      cases o with
      | imm => exact fun e => hw.di id hd (e ▸ ha)
      | own t =>
        rcases ha with ⟨h1, h2, _⟩ | ⟨h, _⟩
        · exact fun e => hw.dl id t hd h1 (e.symm.trans h2)
        · exact fun e => hw.di id hd (e ▸ h)
      | vw t =>
        rcases ha with h | ⟨h1, h2, _⟩
        · exact fun e => hw.di id hd (e ▸ h)
        · exact fun e => hw.dl id t hd h1 (e.symm.trans h2)
    have hsame := heap_setCell (w := w) (a := ⟨g.μ id, off, none⟩) (u := v) hne
    refine ⟨?_, fun k _ _ => cell_of_heap hsame⟩
    cases o with
    | imm => exact ha
    | own t =>
      rcases ha with ⟨a1, a2, a3, a4⟩ | h
      · exact .inl ⟨a1, a2, a3, a4.same hsame⟩
      · exact .inr h
    | vw t => exact ha
  ptr := fun i j h => by cases h; rfl

theorem size_setCell (w : World) (a : Addr) (u : Value) : (w.setCell a u).heap.size = w.heap.size := by simp [World.setCell]

theorem WF.sameSize {g : G} {w w' : World} (h : WF g w) (hs : w'.heap.size = w.heap.size) : WF g w' :=
  ⟨fun i hi => hs ▸ h.dlt i hi, fun t ht => hs ▸ h.llt t ht, fun b hb => hs ▸ h.ilt b hb, h.dinj, h.linj, h.dl, h.di, h.li⟩

def St.setOb (st : St) (id : Nat) (ob : Ob) : St := { st with heap := setO st.heap id ob }

theorem Sim.store {g : G} {st : St} {a : Act} {w : World} (h : Sim g st a w) (hw : WF g w) {id off : Nat} {xs : List PV} (ho : getO st.heap id = some (.cells xs)) (hlt : off < xs.length) {x : PV} {v : Value} (hx : Rep g w x v) :
    Sim g (st.setOb id (.cells (xs.set off x))) a (w.setCell ⟨g.μ id, off, none⟩ v) ∧ WF g (w.setCell ⟨g.μ id, off, none⟩ v) ∧ Ext g w g (w.setCell ⟨g.μ id, off, none⟩ v) ∧
      (∃ u, w.cell? ⟨g.μ id, off, none⟩ = some u) ∧ w.frozen? ⟨g.μ id, off, none⟩ = false := by
  obtain ⟨hd, cs, T, hb, hl, hr⟩ := h.heap id _ ho
  have ht := Turns.setD hw hd (off := off) v
  have hrep : ∀ {y : PV} {u : Value}, Rep g w y u → Rep g (w.setCell ⟨g.μ id, off, none⟩ v) y u := fun {y u} hy => by
    have := hy.scrub ht
    rwa [id_scrub_fn.1] at this
  have hnew : (w.setCell ⟨g.μ id, off, none⟩ v).heap[g.μ id]? = some (.cells (cs.setIfInBounds off v) T (0, 0)) := by
    show (w.heap.modify _ _)[g.μ id]? = _
    rw [Array.getElem?_modify, if_pos rfl, hb]; rfl
  refine ⟨⟨fun s => hrep (h.regs s), h.nt, fun k ob hk => ?_⟩, hw.sameSize (size_setCell _ _ _), ⟨rfl, rfl, rfl, by rw [size_setCell]; exact Nat.le_refl _, fun b _ hbo => heap_setCell fun e => hbo (.inl ⟨id, hd, (show b = g.μ id from e).symm⟩), fun b hb => .inl hb, fun b hb => .inl hb, fun _ _ => ⟨rfl, fun h => h⟩⟩, ?_, ?_⟩
  · rcases getO_setO _ _ _ _ _ hk with ⟨rfl, rfl⟩ | ⟨hne, hk'⟩
    · refine ⟨hd, _, T, hnew, by simp [hl], fun i y u hy hu => ?_⟩
      rw [List.getElem?_set] at hy
      rw [Array.getElem?_setIfInBounds] at hu
      by_cases e : off = i
      · subst e
        rw [if_pos rfl, if_pos hlt] at hy
        rw [if_pos rfl, if_pos (hl ▸ hlt)] at hu
        cases hy; cases hu; exact hrep hx
      · rw [if_neg e] at hy hu
        exact hrep (hr i y u hy hu)
    · have hk2 := h.heap k ob hk'
      cases ob with
      | cells ys =>
        obtain ⟨hd2, cs2, T2, hb2, hl2, hr2⟩ := hk2
        exact ⟨hd2, cs2, T2, (heap_setCell fun e => hne (hw.dinj k id hd2 hd e)).trans hb2, hl2, fun i y u hy hu => hrep (hr2 i y u hy hu)⟩
  · have : off < cs.size := hl ▸ hlt
    exact ⟨cs[off], by simp [World.cell?, hb, this]⟩
  · simp [World.frozen?, hb]
end Go.Sy
