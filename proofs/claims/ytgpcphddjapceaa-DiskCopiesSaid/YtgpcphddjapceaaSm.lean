/- Calls that only read: all that they are handed is lent. -/
import Derived.Test.YtgpcphddjapceaaSl
namespace Go.Sy

def lendCell : PV → Option PV
  | .lit v => if v.oneCell' = true then some (.lit v) else none
  | .sl _ nl s xs => some (.sl .imm nl s xs)
  | _ => none

def lendCells : List PV → Option (List PV)
  | [] => some []
  | x :: xs => match lendCell x, lendCells xs with
    | some y, some ys => some (y :: ys)
    | _, _ => none

def lend (h : List (Nat × Ob)) : PV → Option PV
  | .lit v => some (.lit v)
  | .sl _ nl s xs => some (.sl .imm nl s xs)
  | .ptr id off => match getO h id with
    | some (.cells xs) => (lendCells (xs.drop off)).map (.cur .imm ·)
    | none => none
  | .cur _ xs => some (.cur .imm xs)
  | .agg xs => (lendCells xs).map .agg
  | _ => none

def lendL (h : List (Nat × Ob)) : List PV → Option (List PV)
  | [] => some []
  | x :: xs => match lend h x, lendL h xs with
    | some y, some ys => some (y :: ys)
    | _, _ => none

/-- All is lent. -/
def G.lent (g : G) : G := { g with L := fun _ => False, D := fun _ => False, I := fun b => g.I b ∨ Owned g b }

theorem WF.lent {g : G} {w : World} (h : WF g w) : WF g.lent w where
  dlt := fun _ h => h.elim
  llt := fun _ h => h.elim
  ilt := by
    rintro b (hb | ⟨i, hd, rfl⟩ | ⟨t, hl, rfl⟩)
    · exact h.ilt b hb
    · exact h.dlt i hd
    · exact h.llt t hl
  dinj := fun _ _ h => h.elim
  linj := fun _ _ h => h.elim
  dl := fun _ _ h => h.elim
  di := fun _ h => h.elim
  li := fun _ h => h.elim

theorem Acc.lent {g : G} {w : World} {o : Own} {b off n c : Nat} (h : Acc g w o b off n c) : g.lent.I b := by
  cases o with
  | imm => exact .inl h
  | own t => rcases h with ⟨h1, rfl, _⟩ | ⟨h, _⟩ <;> first | exact .inr (.inr ⟨t, h1, rfl⟩) | exact .inl h
  | vw t => rcases h with h | ⟨h1, rfl, _⟩ <;> first | exact .inl h | exact .inr (.inr ⟨t, h1, rfl⟩)

theorem Rep.lentData {g : G} {w : World} {x : PV} {v : Value} (h : Rep g w x v) (hd : Data x) : Rep g.lent w x v := h.data (fun _ hb => ⟨Or.inl hb, rfl⟩) hd

theorem Rep.sl_lent {g : G} {w : World} {o : Own} {nl : Bool} {s : Nat} {xs : List PV} {v : Value} (h : Rep g w (.sl o nl s xs) v) : Rep g.lent w (.sl .imm nl s xs) v ∧ Data (.sl .imm nl s xs) := by
  cases h with
  | nils => exact ⟨.nils _ _, by simp⟩
  | sle _ _ a hlx => exact ⟨.sle _ _ a rfl, by simp⟩
  | sl _ _ _ b off c U hc hm hacc hd hs hcell hrep =>
    exact ⟨.sl .imm s xs b off c U hc hm hacc.lent hd hs hcell fun j x hj i y hy => (hrep j x hj i y hy).lentData ((hd x (mem_of_get hj)).comp hy), by simpa using hd⟩

theorem lendCell_rep {g : G} {w : World} {x y : PV} {v : Value} (hl : lendCell x = some y) (h : Rep g w x v) : Rep g.lent w y v ∧ Data y ∧ y.isAgg = false := by
  cases x <;> simp only [lendCell, reduceCtorEq] at hl
  · split at hl
    · cases hl; rename_i hc; cases h; exact ⟨.lit _, by simpa using hc, rfl⟩
    · cases hl
  · cases hl; exact ⟨h.sl_lent.1, h.sl_lent.2, rfl⟩

theorem lendCells_get {xs ys : List PV} (h : lendCells xs = some ys) : ys.length = xs.length ∧ ∀ (i : Nat) (y : PV), ys[i]? = some y → ∃ x, xs[i]? = some x ∧ lendCell x = some y := by
  induction xs generalizing ys with
  | nil => simp only [lendCells, Option.some.injEq] at h; subst h; exact ⟨rfl, fun _ _ h => by simp at h⟩
  | cons x xs ih =>
    simp only [lendCells] at h
    split at h
    · rename_i y' ys' h1 h2
      cases h
      obtain ⟨e1, e2⟩ := ih h2
      refine ⟨by simp [e1], fun i y hy => ?_⟩
      cases i with
      | zero => simp at hy; subst hy; exact ⟨x, rfl, h1⟩
      | succ i => exact e2 i y (by simpa using hy)
    · cases h

theorem lend_rep {g : G} {w : World} {h : List (Nat × Ob)} (hh : HeapSim g w h) {x y : PV} {v : Value} (hl : lend h x = some y) (hr : Rep g w x v) : Rep g.lent w y v := by
  cases x with
  | lit u => simp only [lend, Option.some.injEq] at hl; subst hl; cases hr; exact .lit _
  | sl o nl s xs => simp only [lend, Option.some.injEq] at hl; subst hl; exact hr.sl_lent.1
  | ptr id off =>
    simp only [lend] at hl
    cases ho : getO h id with
    | none => rw [ho] at hl; cases hl
    | some ob =>
      cases ob with
      | cells xs =>
        rw [ho] at hl
        simp only [Option.map_eq_some_iff] at hl
        obtain ⟨ys, hys, rfl⟩ := hl
        obtain ⟨hd, cs, T, hb, hlen, hcr⟩ := hh id _ ho
        obtain ⟨e1, e2⟩ := lendCells_get hys
        cases hr
        have key : ∀ (j : Nat) (y : PV), ys[j]? = some y → ∃ (u : Value), cs[off + j]? = some u ∧ Rep g.lent w y u ∧ Data y := by
          intro j y hy
          obtain ⟨x, hx, hxy⟩ := e2 j y hy
          rw [List.getElem?_drop] at hx
          have hlt : off + j < cs.size := by rw [hlen]; exact (List.getElem?_eq_some_iff.1 hx).1
          obtain ⟨a1, a2, _⟩ := lendCell_rep hxy (hcr _ _ _ hx (Array.getElem?_eq_getElem hlt))
          exact ⟨_, Array.getElem?_eq_getElem hlt, a1, a2⟩
        refine .cur .imm ys (g.μ id) off (fun j => (cs[off + j]?).getD undef) (.inr (.inl ⟨id, hd, rfl⟩)) (fun y hy => ?_) (fun j y hy => ?_) (fun j y hy => ?_)
        · obtain ⟨j, hj, rfl⟩ := List.mem_iff_getElem.1 hy
          obtain ⟨u, _, _, h⟩ := key j _ (List.getElem?_eq_getElem hj)
          exact h
        · obtain ⟨u, h1, _⟩ := key j y hy
          simp [World.cell?, hb, h1]
        · obtain ⟨u, h1, h2, _⟩ := key j y hy
          simp only [h1]; exact h2
  | cur o xs =>
    simp only [lend, Option.some.injEq] at hl; subst hl
    cases hr with
    | cur _ _ b off U hacc hd hcell hrep =>
      exact .cur .imm xs b off U hacc.lent hd hcell fun j x hj => (hrep j x hj).lentData (hd x (mem_of_get hj))
  | agg xs =>
    simp only [lend, Option.map_eq_some_iff] at hl
    obtain ⟨ys, hys, rfl⟩ := hl
    obtain ⟨e1, e2⟩ := lendCells_get hys
    cases hr with
    | agg _ us hlen h =>
      refine .agg ys us (by rw [hlen, e1]) fun i y u hy hu => ?_
      obtain ⟨x, hx, hxy⟩ := e2 i y hy
      exact (lendCell_rep hxy (h i x u hx hu)).1
  | _ => simp [lend] at hl

theorem lendL_rep {g : G} {w : World} {h : List (Nat × Ob)} (hh : HeapSim g w h) {xs ys : List PV} (hl : lendL h xs = some ys) {vs : Array Value} (hr : RepArgs g w xs vs) : RepArgs g.lent w ys vs := by
  have : ys.length = xs.length ∧ ∀ (i : Nat) (y : PV), ys[i]? = some y → ∃ x, xs[i]? = some x ∧ lend h x = some y := by
    clear hr
    induction xs generalizing ys with
    | nil => simp only [lendL, Option.some.injEq] at hl; subst hl; exact ⟨rfl, fun _ _ h => by simp at h⟩
    | cons x xs ih =>
      simp only [lendL] at hl
      split at hl
      · rename_i y' ys' h1 h2
        cases hl
        obtain ⟨e1, e2⟩ := ih h2
        refine ⟨by simp [e1], fun i y hy => ?_⟩
        cases i with
        | zero => simp at hy; subst hy; exact ⟨x, rfl, h1⟩
        | succ i => exact e2 i y (by simpa using hy)
      · cases hl
  refine ⟨by rw [hr.1, this.1], fun i y u hy hu => ?_⟩
  obtain ⟨x, hx, hxy⟩ := this.2 i y hy
  exact lend_rep hh hxy (hr.2 i x u hx hu)

/-- Nothing that is old has turned. -/
theorem Turns.grown {g : G} {w w' : World} (hw : WF g w) (hk : ∀ b, b < w.heap.size → w'.heap[b]? = w.heap[b]?) : Turns g w g w' some some where
  lax := lax_some
  imm := fun b hb => ⟨hb, hk b (hw.ilt b hb)⟩
  acc := by
    intro o o' b off n c hF ha
    cases hF
    have hb := hk b (ha.lt hw)
    refine ⟨?_, fun k _ _ => cell_of_heap hb⟩
    cases o with
    | imm => exact ha
    | own t =>
      rcases ha with ⟨a1, a2, a3, a4⟩ | ha
      · exact .inl ⟨a1, a2, a3, a4.same hb⟩
      · exact .inr ha
    | vw t => exact ha
  ptr := fun i j h => by cases h; rfl

/-- What is told that is no place. -/
inductive Plain : PV → Prop
  | lit (v : Value) : Plain (.lit v)
  | tup (xs : List PV) : (∀ x, x ∈ xs → ∃ v, x = .lit v) → Plain (.tup xs)
  | agg (xs : List PV) : (∀ x, x ∈ xs → ∃ v, x = .lit v) → Plain (.agg xs)

theorem Plain.rep {g g' : G} {w w' : World} {x : PV} {v : Value} (h : Plain x) (hr : Rep g w x v) : Rep g' w' x v := by
  cases h with
  | lit => cases hr; exact .lit _
  | tup xs hx =>
    cases hr with
    | tup _ us hl h =>
      refine .tup xs us hl fun i x u hi hu => ?_
      obtain ⟨z, rfl⟩ := hx x (mem_of_get hi)
      rw [(h i _ u hi hu).lit_inv]
      exact .lit _
  | agg xs hx =>
    cases hr with
    | agg _ us hl h =>
      refine .agg xs us hl fun i x u hi hu => ?_
      obtain ⟨z, rfl⟩ := hx x (mem_of_get hi)
      rw [(h i _ u hi hu).lit_inv]
      exact .lit _

theorem CallT.read {P : Program} {h : List (Nat × Ob)} {k : FuncId} {args args' : List PV} {y : PV} (hc : TrC P k args' [] fun x _ => x = y) (hl : lendL h args = some args') (hy : Plain y) : CallT P h k args (fun x => x) h y := by
  intro g w vs hh hw hr
  refine CallsIn.mono (hc g.lent w vs (fun _ _ h => by simp [getO] at h) hw.lent (lendL_rep hh hl hr)) fun e w' hp => ?_
  obtain ⟨v, x, g', h', rfl, rfl, h1, h2, h3, h4⟩ := hp
  have hk : ∀ b, b < w.heap.size → w'.heap[b]? = w.heap[b]? := fun b hb => h4.keep b hb (by rintro (⟨i, hd, _⟩ | ⟨t, ht, _⟩) <;> assumption)
  have ht := Turns.grown hw hk
  refine ⟨v, g, rfl, fun z u hz => ?_, fun id ob ho => ?_, hy.rep h1, ?_, ?_⟩
  · have := hz.scrub ht; rwa [id_scrub_fn.1] at this
  · have := hh id ob ho
    cases ob with
    | cells xs =>
      obtain ⟨hd, cs, T, hb, hlen, hcr⟩ := this
      refine ⟨hd, cs, T, (hk _ (hw.dlt id hd)).trans hb, hlen, fun i x u hx hu => ?_⟩
      have := (hcr i x u hx hu).scrub ht
      rwa [id_scrub_fn.1] at this
  · exact ⟨fun i hi => Nat.lt_of_lt_of_le (hw.dlt i hi) h4.size, fun t ht => Nat.lt_of_lt_of_le (hw.llt t ht) h4.size, fun b hb => Nat.lt_of_lt_of_le (hw.ilt b hb) h4.size, hw.dinj, hw.linj, hw.dl, hw.di, hw.li⟩
  · exact ⟨h4.os, h4.tape, h4.output, h4.size, fun b hb _ => hk b hb, fun _ h => .inl h, fun _ h => .inl h, fun _ _ => ⟨rfl, fun h => h⟩⟩

end Go.Sy
