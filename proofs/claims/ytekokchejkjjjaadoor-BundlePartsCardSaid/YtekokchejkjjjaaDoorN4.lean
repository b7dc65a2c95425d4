/- Calls that only read: all that they are handed is lent. (and what stands on it) -/
import Derived.Test.YtekokchejkjjjaaDoorN3
import Derived.Laws.Strings
import Derived.ProofKit
import Derived.Deep.Slices
import Derived.Handed
set_option linter.unusedSimpArgs false
set_option linter.unusedVariables false

/-! Calls that only read: all that they are handed is lent. -/
namespace Go.Sy

def lendCell : PV → Option PV
  | .lit v => if v.oneCell' = true then some (.lit v) else none
  | .sl _ nl s xs => some (.sl .imm nl s xs)
  | _ => none

def lendCells : List PV → Option (List PV)
  | [] => some []
  | x :: xs => match lendCell x, lendCells xs with
    | some y, some ys => some (y :: ys)
    | _, _ => none

def lend (h : List (Nat × Ob)) : PV → Option PV
  | .lit v => some (.lit v)
  | .sl _ nl s xs => some (.sl .imm nl s xs)
  | .ptr id off => match getO h id with
    | some (.cells xs) => (lendCells (xs.drop off)).map (.cur .imm ·)
    | _ => none
  | .cur _ xs => some (.cur .imm xs)
  | .agg xs => (lendCells xs).map .agg
  | _ => none

def lendL (h : List (Nat × Ob)) : List PV → Option (List PV)
  | [] => some []
  | x :: xs => match lend h x, lendL h xs with
    | some y, some ys => some (y :: ys)
    | _, _ => none

/-- All is lent. -/
def G.lent (g : G) : G := { g with L := fun _ => False, D := fun _ => False, I := fun b => g.I b ∨ Owned g b, R := fun _ => False }

theorem WF.lent {g : G} {w : World} (h : WF g w) : WF g.lent w where
  dlt := fun _ h => h.elim
  llt := fun _ h => h.elim
  ilt := by
    rintro b (hb | ⟨i, hd, rfl⟩ | ⟨t, hl, rfl⟩)
    · exact h.ilt b hb
    · exact h.dlt i hd
    · exact h.llt t hl
  dinj := fun _ _ h => h.elim
  linj := fun _ _ h => h.elim
  dl := fun _ _ h => h.elim
  di := fun _ h => h.elim
  li := fun _ h => h.elim
  glob := fun q hq => by
    obtain ⟨h1, h2⟩ := h.glob q hq
    exact ⟨⟨.inl h1.1, fun h => h⟩, h2⟩
  ri := fun _ h => h.elim

theorem Acc.lent {g : G} {w : World} {o : Own} {b off n c : Nat} (h : Acc g w o b off n c) : g.lent.I b := by
  cases o with
  | imm => exact .inl h.1
  | rd => exact .inl h
  | own t => rcases h with ⟨h1, rfl, _⟩ | ⟨h, _⟩ <;> first | exact .inr (.inr ⟨t, h1, rfl⟩) | exact .inl h.1
  | vw t => rcases h with h | ⟨h1, rfl, _⟩ <;> first | exact .inl h.1 | exact .inr (.inr ⟨t, h1, rfl⟩)

theorem Rep.lentData {g : G} {w : World} {x : PV} {v : Value} (h : Rep g w x v) (hd : Data x) : Rep g.lent w x v := Rep.data' (g' := g.lent) (fun _ hb => ⟨Or.inl hb, rfl⟩) (fun _ _ _ h => h) h hd

theorem Rep.sl_lent {g : G} {w : World} {o : Own} {nl : Bool} {s : Nat} {xs : List PV} {v : Value} (h : Rep g w (.sl o nl s xs) v) : Rep g.lent w (.sl .imm nl s xs) v ∧ Data (.sl .imm nl s xs) := by
  cases h with
  | nils => exact ⟨.nils _ _, by simp⟩
  | sle _ _ a hlx => exact ⟨.sle _ _ a rfl, by simp⟩
  | sl _ _ _ b off c U hc hm hacc hd hs hcell hrep =>
    exact ⟨.sl .imm s xs b off c U hc hm ⟨hacc.lent, fun h => h⟩ hd hs hcell fun j x hj i y hy => (hrep j x hj i y hy).lentData ((hd x (mem_of_get hj)).comp hy), by simpa using hd⟩

theorem lendCell_rep {g : G} {w : World} {x y : PV} {v : Value} (hl : lendCell x = some y) (h : Rep g w x v) : Rep g.lent w y v ∧ Data y ∧ y.isAgg = false := by
  cases x <;> simp only [lendCell, reduceCtorEq] at hl
  · split at hl
    · cases hl; rename_i hc; cases h; exact ⟨.lit _, by simpa using hc, rfl⟩
    · cases hl
  · cases hl; exact ⟨h.sl_lent.1, h.sl_lent.2, rfl⟩

theorem lendCells_get {xs ys : List PV} (h : lendCells xs = some ys) : ys.length = xs.length ∧ ∀ (i : Nat) (y : PV), ys[i]? = some y → ∃ x, xs[i]? = some x ∧ lendCell x = some y := by
  induction xs generalizing ys with
  | nil => simp only [lendCells, Option.some.injEq] at h; subst h; exact ⟨rfl, fun _ _ h => by simp at h⟩
  | cons x xs ih =>
    simp only [lendCells] at h
    split at h
    · rename_i y' ys' h1 h2
      cases h
      obtain ⟨e1, e2⟩ := ih h2
      refine ⟨by simp [e1], fun i y hy => ?_⟩
      cases i with
      | zero => simp at hy; subst hy; exact ⟨x, rfl, h1⟩
      | succ i => exact e2 i y (by simpa using hy)
    · cases h

theorem lend_rep {g : G} {w : World} {h : List (Nat × Ob)} (hh : HeapSim g w h) {x y : PV} {v : Value} (hl : lend h x = some y) (hr : Rep g w x v) : Rep g.lent w y v := by
  cases x with
  | lit u => simp only [lend, Option.some.injEq] at hl; subst hl; cases hr; exact .lit _
  | sl o nl s xs => simp only [lend, Option.some.injEq] at hl; subst hl; exact hr.sl_lent.1
  | ptr id off =>
    simp only [lend] at hl
    cases ho : getO h id with
    | none => rw [ho] at hl; cases hl
    | some ob =>
      cases ob with
      | map es => rw [ho] at hl; cases hl
      | loop => rw [ho] at hl; cases hl
      | ghost => rw [ho] at hl; cases hl
      | cells xs =>
        rw [ho] at hl
        simp only [Option.map_eq_some_iff] at hl
        obtain ⟨ys, hys, rfl⟩ := hl
        obtain ⟨hd, cs, T, hb, hlen, hcr⟩ := hh id _ ho
        obtain ⟨e1, e2⟩ := lendCells_get hys
        cases hr
        have key : ∀ (j : Nat) (y : PV), ys[j]? = some y → ∃ (u : Value), cs[off + j]? = some u ∧ Rep g.lent w y u ∧ Data y := by
          intro j y hy
          obtain ⟨x, hx, hxy⟩ := e2 j y hy
          rw [List.getElem?_drop] at hx
          have hlt : off + j < cs.size := by rw [hlen]; exact (List.getElem?_eq_some_iff.1 hx).1
          obtain ⟨a1, a2, _⟩ := lendCell_rep hxy (hcr _ _ _ hx (Array.getElem?_eq_getElem hlt))
          exact ⟨_, Array.getElem?_eq_getElem hlt, a1, a2⟩
        refine .cur .imm ys (g.μ id) off (fun j => (cs[off + j]?).getD undef) ⟨.inr (.inl ⟨id, hd, rfl⟩), fun h => h⟩ (fun y hy => ?_) (fun j y hy => ?_) (fun j y hy => ?_)
        · obtain ⟨j, hj, rfl⟩ := List.mem_iff_getElem.1 hy
          obtain ⟨u, _, _, h⟩ := key j _ (List.getElem?_eq_getElem hj)
          exact h
        · obtain ⟨u, h1, _⟩ := key j y hy
          simp [World.cell?, hb, h1]
        · obtain ⟨u, h1, h2, _⟩ := key j y hy
          simp only [h1]; exact h2
  | cur o xs =>
    simp only [lend, Option.some.injEq] at hl; subst hl
    cases hr with
    | cur _ _ b off U hacc hd hcell hrep =>
      exact .cur .imm xs b off U ⟨hacc.lent, fun h => h⟩ hd hcell fun j x hj => (hrep j x hj).lentData (hd x (mem_of_get hj))
  | agg xs =>
    simp only [lend, Option.map_eq_some_iff] at hl
    obtain ⟨ys, hys, rfl⟩ := hl
    obtain ⟨e1, e2⟩ := lendCells_get hys
    cases hr with
    | agg _ us hlen h =>
      refine .agg ys us (by rw [hlen, e1]) fun i y u hy hu => ?_
      obtain ⟨x, hx, hxy⟩ := e2 i y hy
      exact (lendCell_rep hxy (h i x u hx hu)).1
  | _ => simp [lend] at hl

theorem lendL_rep {g : G} {w : World} {h : List (Nat × Ob)} (hh : HeapSim g w h) {xs ys : List PV} (hl : lendL h xs = some ys) {vs : Array Value} (hr : RepArgs g w xs vs) : RepArgs g.lent w ys vs := by
  have : ys.length = xs.length ∧ ∀ (i : Nat) (y : PV), ys[i]? = some y → ∃ x, xs[i]? = some x ∧ lend h x = some y := by
    clear hr
    induction xs generalizing ys with
    | nil => simp only [lendL, Option.some.injEq] at hl; subst hl; exact ⟨rfl, fun _ _ h => by simp at h⟩
    | cons x xs ih =>
      simp only [lendL] at hl
      split at hl
      · rename_i y' ys' h1 h2
        cases hl
        obtain ⟨e1, e2⟩ := ih h2
        refine ⟨by simp [e1], fun i y hy => ?_⟩
        cases i with
        | zero => simp at hy; subst hy; exact ⟨x, rfl, h1⟩
        | succ i => exact e2 i y (by simpa using hy)
      · cases hl
  refine ⟨by rw [hr.1, this.1], fun i y u hy hu => ?_⟩
  obtain ⟨x, hx, hxy⟩ := this.2 i y hy
  exact lend_rep hh hxy (hr.2 i x u hx hu)

/-- Nothing that is old has turned. -/
theorem Turns.grown {g : G} {w w' : World} (hw : WF g w) (hk : ∀ b, b < w.heap.size → w'.heap[b]? = w.heap[b]?) : Turns g w g w' some some where
  lax := lax_some
  rr := rfl
  imm := fun b hb => ⟨hb, hk b (hw.ilt b hb)⟩
  acc := by
    intro o o' b off n c hF ha
    cases hF
    have hb := hk b (ha.lt hw)
    refine ⟨?_, fun k _ _ => cell_of_heap hb⟩
    cases o with
    | imm => exact ha
    | rd => exact ha
    | own t =>
      rcases ha with ⟨a1, a2, a3, a4⟩ | ha
      · exact .inl ⟨a1, a2, a3, a4.same hb⟩
      · exact .inr ha
    | vw t => exact ha
  ptr := fun i j h => by cases h; rfl

/-- What is told that is no place. -/
inductive Plain : PV → Prop
  | lit (v : Value) : Plain (.lit v)
  | tup (xs : List PV) : (∀ x, x ∈ xs → ∃ v, x = .lit v) → Plain (.tup xs)
  | agg (xs : List PV) : (∀ x, x ∈ xs → ∃ v, x = .lit v) → Plain (.agg xs)

theorem Plain.rep {g g' : G} {w w' : World} {x : PV} {v : Value} (h : Plain x) (hr : Rep g w x v) : Rep g' w' x v := by
  cases h with
  | lit => cases hr; exact .lit _
  | tup xs hx =>
    cases hr with
    | tup _ us hl h =>
      refine .tup xs us hl fun i x u hi hu => ?_
      obtain ⟨z, rfl⟩ := hx x (mem_of_get hi)
      rw [(h i _ u hi hu).lit_inv]
      exact .lit _
  | agg xs hx =>
    cases hr with
    | agg _ us hl h =>
      refine .agg xs us hl fun i x u hi hu => ?_
      obtain ⟨z, rfl⟩ := hx x (mem_of_get hi)
      rw [(h i _ u hi hu).lit_inv]
      exact .lit _

theorem CallT.read {P : Program} {h : List (Nat × Ob)} {k : FuncId} {args args' : List PV} {y : PV} (hc : TrC P k args' [] fun x _ => x = y) (hl : lendL h args = some args') (hy : Plain y) : CallT P h k args (fun x => x) h y := by
  intro g w vs hh hw hr
  refine CallsIn.mono (hc g.lent w vs (fun _ _ h => by simp [getO] at h) hw.lent (lendL_rep hh hl hr)) fun e w' hp => ?_
  obtain ⟨v, x, g', h', rfl, rfl, h1, h2, h3, h4⟩ := hp
  have hk : ∀ b, b < w.heap.size → w'.heap[b]? = w.heap[b]? := fun b hb => h4.keep b hb (by rintro (⟨i, hd, _⟩ | ⟨t, ht, _⟩) <;> assumption)
  have ht := Turns.grown hw hk
  refine ⟨v, g, rfl, fun z u hz => ?_, fun id ob ho => ?_, hy.rep h1, ?_, ?_⟩
  · have := hz.scrub ht; rwa [id_scrub_fn.1] at this
  · have h0 := hh id ob ho
    have := h0.turn ht fun hd => ⟨hd, hk _ (hw.dlt id hd)⟩
    rwa [id_scrub_ob] at this
  · exact ⟨fun i hi => Nat.lt_of_lt_of_le (hw.dlt i hi) h4.size, fun t ht => Nat.lt_of_lt_of_le (hw.llt t ht) h4.size, fun b hb => Nat.lt_of_lt_of_le (hw.ilt b hb) h4.size, hw.dinj, hw.linj, hw.dl, hw.di, hw.li, hw.glob.mono (fun b hb => ⟨hb, hk b (hw.ilt b hb)⟩) rfl, hw.ri⟩
  · exact ⟨h4.os, h4.tape, h4.output, h4.size, fun b hb _ => hk b hb, fun _ h => .inl h, fun _ h => .inl h, fun _ _ => ⟨rfl, fun h => h⟩, rfl⟩

end Go.Sy

/-! Calls that change what they are handed: names go in, and come out. -/
namespace Go.Sy

/-- How names go into a call, and come out: objects; rows that may grow; what the call makes: objects, rows. -/
structure Way where
  ids : List (Nat × Nat)
  tks : List (Tk × Nat)
  new : List (Nat × Nat)
  rows : List (Nat × Nat)

def lookN : List (Nat × Nat) → Nat → Option Nat
  | [], _ => none
  | (a, b) :: l, k => if a = k then some b else lookN l k
def lookR : List (Nat × Nat) → Nat → Option Nat
  | [], _ => none
  | (a, b) :: l, k => if b = k then some a else lookR l k
def lookT : List (Tk × Nat) → Tk → Option Nat
  | [], _ => none
  | (a, b) :: l, k => if a = k then some b else lookT l k
def lookU : List (Tk × Nat) → Nat → Option Tk
  | [], _ => none
  | (a, b) :: l, k => if b = k then some a else lookU l k

namespace Way
variable (W : Way)
def inI (i : Nat) : Option Nat := lookN W.ids i
def inT : Tk → Option Tk
  | .loc n => (lookT W.tks (.loc n)).map .loc
  | .wk n => (lookT W.tks (.wk n)).map .wk
  | .cell id off => match lookN W.ids id with
    | some j => some (.cell j off)
    | none => (lookT W.tks (.cell id off)).map .wk
def outI (j : Nat) : Option Nat := match lookR W.ids j with
  | some i => some i
  | none => lookN W.new j
def outT : Tk → Option Tk
  | .loc n => match lookU W.tks n with
    | some t => if t.weak then none else some t
    | none => (lookN W.rows n).map .loc
  | .wk n => match lookU W.tks n with
    | some t => if t.weak then some t else none
    | none => (lookN W.rows n).map .wk
  | .cell id off => (W.outI id).map (.cell · off)
def isI (k : Nat) : Bool := (lookN W.ids k).isSome
def imgI (k : Nat) : Bool := W.isI k || (lookR W.new k).isSome
def imgT : Tk → Bool
  | .loc n => (lookT W.tks (.loc n)).isSome || (lookR W.rows n).isSome
  | .wk n => (lookT W.tks (.wk n)).isSome || (lookR W.rows n).isSome
  | .cell id off => W.imgI id || (lookT W.tks (.cell id off)).isSome
def tkOK : Tk → Bool
  | .loc n => (lookR W.rows n).isNone
  | .wk n => (lookR W.rows n).isNone
  | .cell id _ => !W.imgI id
def ok : Bool :=
  decide (W.ids.map (·.1)).Nodup && decide (W.ids.map (·.2)).Nodup && decide (W.tks.map (·.1)).Nodup && decide (W.tks.map (·.2)).Nodup &&
  decide (W.new.map (·.2)).Nodup && decide (W.rows.map (·.2)).Nodup && (W.new.all fun p => !W.isI p.2 && decide (p.2 < 100000)) && (W.ids.all fun p => decide (100000 ≤ p.2)) &&
  W.tks.all fun p => W.tkOK p.1
end Way

theorem lookN_mem {l : List (Nat × Nat)} {k b : Nat} (h : lookN l k = some b) : (k, b) ∈ l := by
  induction l with
  | nil => cases h
  | cons c l ih =>
    obtain ⟨a, d⟩ := c
    simp only [lookN] at h
    split at h
    · rename_i e; cases h; subst e; exact List.mem_cons_self ..
    · exact List.mem_cons_of_mem _ (ih h)
theorem lookR_mem {l : List (Nat × Nat)} {k a : Nat} (h : lookR l k = some a) : (a, k) ∈ l := by
  induction l with
  | nil => cases h
  | cons c l ih =>
    obtain ⟨a, d⟩ := c
    simp only [lookR] at h
    split at h
    · rename_i e; cases h; subst e; exact List.mem_cons_self ..
    · exact List.mem_cons_of_mem _ (ih h)
theorem lookT_mem {l : List (Tk × Nat)} {k : Tk} {b : Nat} (h : lookT l k = some b) : (k, b) ∈ l := by
  induction l with
  | nil => cases h
  | cons c l ih =>
    obtain ⟨a, d⟩ := c
    simp only [lookT] at h
    split at h
    · rename_i e; cases h; subst e; exact List.mem_cons_self ..
    · exact List.mem_cons_of_mem _ (ih h)
theorem lookU_mem {l : List (Tk × Nat)} {k : Nat} {a : Tk} (h : lookU l k = some a) : (a, k) ∈ l := by
  induction l with
  | nil => cases h
  | cons c l ih =>
    obtain ⟨a, d⟩ := c
    simp only [lookU] at h
    split at h
    · rename_i e; cases h; subst e; exact List.mem_cons_self ..
    · exact List.mem_cons_of_mem _ (ih h)
theorem lookN_some {l : List (Nat × Nat)} {k b : Nat} (h : (k, b) ∈ l) : (lookN l k).isSome = true := by
  induction l with
  | nil => cases h
  | cons c l ih =>
    obtain ⟨a, d⟩ := c
    simp only [lookN]
    split
    · rfl
    · rename_i e
      rcases List.mem_cons.1 h with h | h
      · cases h; exact absurd rfl e
      · exact ih h
theorem lookR_some {l : List (Nat × Nat)} {k a : Nat} (h : (a, k) ∈ l) : (lookR l k).isSome = true := by
  induction l with
  | nil => cases h
  | cons c l ih =>
    obtain ⟨a, d⟩ := c
    simp only [lookR]
    split
    · rfl
    · rename_i e
      rcases List.mem_cons.1 h with h | h
      · cases h; exact absurd rfl e
      · exact ih h
theorem lookT_some {l : List (Tk × Nat)} {k : Tk} {b : Nat} (h : (k, b) ∈ l) : (lookT l k).isSome = true := by
  induction l with
  | nil => cases h
  | cons c l ih =>
    obtain ⟨a, d⟩ := c
    simp only [lookT]
    split
    · rfl
    · rename_i e
      rcases List.mem_cons.1 h with h | h
      · cases h; exact absurd rfl e
      · exact ih h

theorem nodup_fst {α β : Type} {l : List (α × β)} (h : (l.map (·.1)).Nodup) {a : α} {b c : β} (h1 : (a, b) ∈ l) (h2 : (a, c) ∈ l) : b = c := by
  induction l with
  | nil => cases h1
  | cons p l ih =>
    simp only [List.map_cons, List.nodup_cons] at h
    rcases List.mem_cons.1 h1 with rfl | h3 <;> rcases List.mem_cons.1 h2 with h4 | h4
    · cases h4; rfl
    · exact absurd (List.mem_map.2 ⟨_, h4, rfl⟩) h.1
    · subst h4; exact absurd (show a ∈ l.map (·.1) from List.mem_map.2 ⟨(a, b), h3, rfl⟩) h.1
    · exact ih h.2 h3 h4
theorem nodup_snd {α β : Type} {l : List (α × β)} (h : (l.map (·.2)).Nodup) {a c : α} {b : β} (h1 : (a, b) ∈ l) (h2 : (c, b) ∈ l) : a = c := by
  induction l with
  | nil => cases h1
  | cons p l ih =>
    simp only [List.map_cons, List.nodup_cons] at h
    rcases List.mem_cons.1 h1 with rfl | h3 <;> rcases List.mem_cons.1 h2 with h4 | h4
    · cases h4; rfl
    · exact absurd (List.mem_map.2 ⟨_, h4, rfl⟩) h.1
    · subst h4; exact absurd (show b ∈ l.map (·.2) from List.mem_map.2 ⟨(a, b), h3, rfl⟩) h.1
    · exact ih h.2 h3 h4

namespace Way
variable {W : Way}

structure Good (W : Way) : Prop where
  ids1 : (W.ids.map (·.1)).Nodup
  ids2 : (W.ids.map (·.2)).Nodup
  tks1 : (W.tks.map (·.1)).Nodup
  tks2 : (W.tks.map (·.2)).Nodup
  new2 : (W.new.map (·.2)).Nodup
  rows2 : (W.rows.map (·.2)).Nodup
  newI : ∀ a b, (a, b) ∈ W.new → W.isI b = false ∧ b < 100000
  big : ∀ a b, (a, b) ∈ W.ids → 100000 ≤ b
  tk : ∀ t n, (t, n) ∈ W.tks → W.tkOK t = true

theorem ok_good (h : W.ok = true) : W.Good := by
  simp only [ok, Bool.and_eq_true, decide_eq_true_eq, List.all_eq_true, Bool.not_eq_true'] at h
  obtain ⟨⟨⟨⟨⟨⟨⟨⟨h1, h2⟩, h3⟩, h4⟩, h5⟩, h6⟩, h7⟩, h8⟩, h9⟩ := h
  exact ⟨h1, h2, h3, h4, h5, h6, fun a b hm => h7 (a, b) hm, fun a b hm => h8 (a, b) hm, fun t n hm => h9 (t, n) hm⟩

theorem inT_cases {t k : Tk} (ht : W.inT t = some k) : (∃ n, k = .loc n ∧ t.weak = false ∧ (t, n) ∈ W.tks) ∨ (∃ n, k = .wk n ∧ (t, n) ∈ W.tks) ∨ ∃ id j off, t = .cell id off ∧ k = .cell j off ∧ (id, j) ∈ W.ids := by
  cases t with
  | loc n =>
    simp only [inT, Option.map_eq_some_iff] at ht
    obtain ⟨m, hm, rfl⟩ := ht
    exact .inl ⟨m, rfl, rfl, lookT_mem hm⟩
  | wk n =>
    simp only [inT, Option.map_eq_some_iff] at ht
    obtain ⟨m, hm, rfl⟩ := ht
    exact .inr (.inl ⟨m, rfl, lookT_mem hm⟩)
  | cell id off =>
    simp only [inT] at ht
    cases hl : lookN W.ids id with
    | some j => rw [hl] at ht; cases ht; exact .inr (.inr ⟨id, j, off, rfl, rfl, lookN_mem hl⟩)
    | none =>
      rw [hl] at ht
      simp only [Option.map_eq_some_iff] at ht
      obtain ⟨m, hm, rfl⟩ := ht
      exact .inr (.inl ⟨m, rfl, lookT_mem hm⟩)

theorem inj_in (h : W.Good) : Inj W.inT W.inI := by
  refine ⟨fun t u k h1 h2 => ?_, fun i j k h1 h2 => nodup_snd h.ids2 (lookN_mem h1) (lookN_mem h2), fun t u ht hw => ?_⟩
  · rcases inT_cases h1 with ⟨n, rfl, _, e1⟩ | ⟨n, rfl, e1⟩ | ⟨id, j, off, rfl, rfl, e1⟩ <;> rcases inT_cases h2 with ⟨n', e2, _, e3⟩ | ⟨n', e2, e3⟩ | ⟨id', j', off', rfl, e2, e3⟩
    · cases e2; exact nodup_snd h.tks2 e1 e3
    · cases e2
    · cases e2
    · cases e2
    · cases e2; exact nodup_snd h.tks2 e1 e3
    · cases e2
    · cases e2
    · cases e2
    · cases e2; rw [nodup_snd h.ids2 e1 e3]
  · rcases inT_cases ht with ⟨n, rfl, e0, e1⟩ | ⟨n, rfl, e1⟩ | ⟨id, j, off, rfl, rfl, e1⟩
    · rw [e0] at hw; cases hw
    · rfl
    · rfl

theorem outI_cases {j i : Nat} (h : W.outI j = some i) : (i, j) ∈ W.ids ∨ (j, i) ∈ W.new := by
  simp only [outI] at h
  cases hl : lookR W.ids j with
  | some k => rw [hl] at h; cases h; exact .inl (lookR_mem hl)
  | none => rw [hl] at h; exact .inr (lookN_mem h)

theorem outI_img {j i : Nat} (h : W.outI j = some i) : W.imgI i = true := by
  rcases outI_cases h with h | h
  · simp [imgI, isI, lookN_some h]
  · simp [imgI, lookR_some h]

theorem outI_inj (hg : W.Good) {i j k : Nat} (h1 : W.outI i = some k) (h2 : W.outI j = some k) : i = j := by
  have no : ∀ a b, (k, a) ∈ W.ids → (b, k) ∈ W.new → False := fun a b m1 m2 => by
    have := (hg.newI b k m2).1
    simp [isI] at this
    have h := lookN_some m1
    rw [this] at h; cases h
  rcases outI_cases h1 with h1 | h1 <;> rcases outI_cases h2 with h2 | h2
  · exact nodup_fst hg.ids1 h1 h2
  · exact (no _ _ h1 h2).elim
  · exact (no _ _ h2 h1).elim
  · exact nodup_snd hg.new2 h1 h2

theorem outT_cases {t u : Tk} (h : W.outT t = some u) : (∃ n, (t = .loc n ∧ u.weak = false ∨ t = .wk n ∧ u.weak = true) ∧ (u, n) ∈ W.tks) ∨ (∃ n m, (t = .loc n ∧ u = .loc m ∨ t = .wk n ∧ u = .wk m) ∧ (n, m) ∈ W.rows) ∨ ∃ id off k, t = .cell id off ∧ u = .cell k off ∧ W.outI id = some k := by
  cases t with
  | loc n =>
    simp only [outT] at h
    cases hl : lookU W.tks n with
    | some t =>
      rw [hl] at h
      simp only at h
      split at h
      · cases h
      · rename_i hw; cases h; exact .inl ⟨n, .inl ⟨rfl, by simpa using hw⟩, lookU_mem hl⟩
    | none =>
      rw [hl] at h
      simp only [Option.map_eq_some_iff] at h
      obtain ⟨m, hm, rfl⟩ := h
      exact .inr (.inl ⟨n, m, .inl ⟨rfl, rfl⟩, lookN_mem hm⟩)
  | wk n =>
    simp only [outT] at h
    cases hl : lookU W.tks n with
    | some t =>
      rw [hl] at h
      simp only at h
      split at h
      · rename_i hw; cases h; exact .inl ⟨n, .inr ⟨rfl, hw⟩, lookU_mem hl⟩
      · cases h
    | none =>
      rw [hl] at h
      simp only [Option.map_eq_some_iff] at h
      obtain ⟨m, hm, rfl⟩ := h
      exact .inr (.inl ⟨n, m, .inr ⟨rfl, rfl⟩, lookN_mem hm⟩)
  | cell id off =>
    simp only [outT, Option.map_eq_some_iff] at h
    obtain ⟨k, hk, rfl⟩ := h
    exact .inr (.inr ⟨id, off, k, rfl, rfl, hk⟩)

theorem outT_img {t u : Tk} (h : W.outT t = some u) : W.imgT u = true := by
  rcases outT_cases h with ⟨n, _, e⟩ | ⟨n, m, ⟨rfl, rfl⟩ | ⟨rfl, rfl⟩, e⟩ | ⟨id, off, k, rfl, rfl, e⟩
  · cases u with
    | loc m => simp [imgT, lookT_some e]
    | wk m => simp [imgT, lookT_some e]
    | cell id off => simp [imgT, lookT_some e]
  · simp [imgT, lookR_some e]
  · simp [imgT, lookR_some e]
  · simp [imgT, outI_img e]

theorem inj_out (hg : W.Good) : Inj W.outT W.outI := by
  refine ⟨fun t u k h1 h2 => ?_, fun i j k h1 h2 => outI_inj hg h1 h2, fun t u ht hw => ?_⟩
  · have n1 : ∀ (m n n' : Nat), (Tk.loc m, n) ∈ W.tks → (n', m) ∈ W.rows → False := fun m n n' e1 e2 => by
      have := hg.tk _ _ e1
      simp only [tkOK, Option.isNone_iff_eq_none] at this
      have h := lookR_some e2
      rw [this] at h; cases h
    have n3 : ∀ (m n n' : Nat), (Tk.wk m, n) ∈ W.tks → (n', m) ∈ W.rows → False := fun m n n' e1 e2 => by
      have := hg.tk _ _ e1
      simp only [tkOK, Option.isNone_iff_eq_none] at this
      have h := lookR_some e2
      rw [this] at h; cases h
    have n2 : ∀ (id off n j : Nat), (Tk.cell id off, n) ∈ W.tks → W.outI j = some id → False := fun id off n j e1 e2 => by
      have := hg.tk _ _ e1
      simp only [tkOK, Bool.not_eq_true'] at this
      rw [outI_img e2] at this; cases this
    rcases outT_cases h1 with ⟨n, c, e⟩ | ⟨n, m, c, e⟩ | ⟨id, off, k, rfl, rfl, e⟩ <;> rcases outT_cases h2 with ⟨n', c', e'⟩ | ⟨n', m', c', e'⟩ | ⟨id', off', k', rfl, c', e'⟩
    · have := nodup_fst hg.tks1 e e'
      subst this
      rcases c with ⟨rfl, w1⟩ | ⟨rfl, w1⟩ <;> rcases c' with ⟨rfl, w2⟩ | ⟨rfl, w2⟩
      · rfl
      · rw [w1] at w2; cases w2
      · rw [w1] at w2; cases w2
      · rfl
    · rcases c' with ⟨_, rfl⟩ | ⟨_, rfl⟩
      · exact (n1 _ _ _ e e').elim
      · exact (n3 _ _ _ e e').elim
    · subst c'; exact (n2 _ _ _ _ e e').elim
    · rcases c with ⟨_, rfl⟩ | ⟨_, rfl⟩
      · exact (n1 _ _ _ e' e).elim
      · exact (n3 _ _ _ e' e).elim
    · rcases c with ⟨rfl, rfl⟩ | ⟨rfl, rfl⟩ <;> rcases c' with ⟨rfl, c'⟩ | ⟨rfl, c'⟩ <;> cases c' <;> rw [nodup_snd hg.rows2 e e']
    · subst c'; rcases c with ⟨_, c⟩ | ⟨_, c⟩ <;> cases c
    · exact (n2 _ _ _ _ e' e).elim
    · rcases c' with ⟨_, c'⟩ | ⟨_, c'⟩ <;> cases c'
    · cases c'; rw [outI_inj hg e e']
  · rcases outT_cases ht with ⟨n, ⟨rfl, c⟩ | ⟨rfl, c⟩, e⟩ | ⟨n, m, ⟨rfl, rfl⟩ | ⟨rfl, rfl⟩, e⟩ | ⟨id, off, k, rfl, rfl, e⟩
    · cases hw
    · exact c
    · cases hw
    · rfl
    · rfl

theorem inI_img {i j : Nat} (h : W.inI i = some j) : W.imgI i = true := by
  have : lookN W.ids i = some j := h
  simp [imgI, isI, this]

theorem inT_img {t u : Tk} (h : W.inT t = some u) : W.imgT t = true := by
  rcases inT_cases h with ⟨n, rfl, e0, e1⟩ | ⟨n, rfl, e1⟩ | ⟨id, j, off, rfl, rfl, e1⟩
  · cases t <;> simp [imgT, lookT_some e1]
  · cases t <;> simp [imgT, lookT_some e1]
  · simp [imgT, imgI, isI, lookN_some e1]

theorem isI_in (hg : W.Good) {i : Nat} (h : W.isI i = true) : ∃ j, W.inI i = some j ∧ W.outI j = some i ∧ 100000 ≤ j := by
  simp only [isI, Option.isSome_iff_exists] at h
  obtain ⟨j, hj⟩ := h
  have hm := lookN_mem hj
  refine ⟨j, hj, ?_, hg.big _ _ hm⟩
  simp only [outI]
  cases hl : lookR W.ids j with
  | some k => simp only; rw [nodup_snd hg.ids2 (lookR_mem hl) hm]
  | none => have := lookR_some hm; rw [hl] at this; cases this

end Way
end Go.Sy

/-! Calls that change what they are handed: the rule. -/
namespace Go.Sy
open Classical in
noncomputable def G.join (g1 g3 : G) (s : Nat → Bool) (q : Tk → Bool) : G where
  μ := fun k => if s k = true then g3.μ k else g1.μ k
  ν := fun t => if q t = true then g3.ν t else g1.ν t
  fr := fun t => if q t = true then g3.fr t else g1.fr t
  L := fun t => if q t = true then g3.L t else g1.L t
  D := fun k => if s k = true then g3.D k else g1.D k
  I := fun b => g1.I b ∨ g3.I b
  R := g1.R

/-- What the call leaves of the caller's descriptions. -/
def Way.killT (W : Way) : Own → Option Own
  | .imm => some .imm
  | .own t => if W.imgT t then none else some (.own t)
  | .vw t => if W.imgT t then none else some (.vw t)
  | .rd => some .rd
theorem lax_killT (W : Way) : ∀ o o' : Own, W.killT o = some o' → o.lax = true → o'.lax = true := fun o o' h hl => by
  cases o with
  | imm => simp only [Way.killT, Option.some.injEq] at h; subst h; rfl
  | rd => simp only [Way.killT, Option.some.injEq] at h; subst h; rfl
  | own u => simp only [Way.killT] at h; split at h <;> cases h; exact hl
  | vw u => simp only [Way.killT] at h; split at h <;> cases h; exact hl
def Way.killI (W : Way) (k : Nat) : Option Nat := if W.isI k then some k else if W.imgI k then none else some k

def dropO (s : Nat → Bool) : List (Nat × Ob) → List (Nat × Ob)
  | [] => []
  | (k, x) :: l => if s k then dropO s l else (k, x) :: dropO s l

theorem getO_dropO {s : Nat → Bool} {h : List (Nat × Ob)} {k : Nat} {ob : Ob} (hg : getO (dropO s h) k = some ob) : s k = false ∧ getO h k = some ob := by
  induction h with
  | nil => cases hg
  | cons c l ih =>
    obtain ⟨i, x⟩ := c
    simp only [dropO] at hg
    by_cases hs : s i = true
    · rw [if_pos hs] at hg
      obtain ⟨h1, h2⟩ := ih hg
      refine ⟨h1, ?_⟩
      simp only [getO]
      rw [if_neg (fun e => by rw [e, h1] at hs; cases hs)]; exact h2
    · rw [if_neg hs] at hg
      simp only [getO] at hg ⊢
      by_cases e : i = k
      · rw [if_pos e] at hg ⊢
        exact ⟨by rw [← e]; simpa using hs, hg⟩
      · rw [if_neg e] at hg ⊢; exact ih hg

theorem getO_append {a b : List (Nat × Ob)} {k : Nat} {ob : Ob} (h : getO (a ++ b) k = some ob) : getO a k = some ob ∨ getO b k = some ob := by
  induction a with
  | nil => exact .inr h
  | cons c l ih =>
    obtain ⟨i, x⟩ := c
    simp only [List.cons_append, getO] at h ⊢
    by_cases e : i = k
    · rw [if_pos e] at h ⊢; exact .inl h
    · rw [if_neg e] at h ⊢; exact ih h

section
variable {W : Way} {g1 g2 : G} {w w' : World}

structure Joins (W : Way) (g1 : G) (w : World) (g2 : G) (w' : World) : Prop where
  good : W.Good
  wf1 : WF g1 w
  wf2 : WF g2 w'
  ext : Ext (g1.ren W.inT W.inI) w g2 w'

noncomputable def Way.out (W : Way) (g1 g2 : G) : G := g1.join (g2.ren W.outT W.outI) W.imgI W.imgT

theorem Joins.owned (h : Joins W g1 w g2 w') {b : Nat} (hb : Owned (g1.ren W.inT W.inI) b) : Owned g1 b := by
  rcases hb with ⟨j, ⟨i, hp, hd⟩, rfl⟩ | ⟨u, ⟨t, hp, hl⟩, rfl⟩
  · exact .inl ⟨i, hd, by rw [G.ren_μ (Way.inj_in h.good) hp]⟩
  · exact .inr ⟨t, hl, by rw [G.ren_ν (Way.inj_in h.good) hp]⟩

theorem Owned.notI {g : G} {w : World} (hw : WF g w) {b : Nat} (h : Owned g b) : ¬ g.I b := by
  rcases h with ⟨i, hd, rfl⟩ | ⟨t, hl, rfl⟩
  · exact hw.di i hd
  · exact hw.li t hl
theorem Owned.lt {g : G} {w : World} (hw : WF g w) {b : Nat} (h : Owned g b) : b < w.heap.size := by
  rcases h with ⟨i, hd, rfl⟩ | ⟨t, hl, rfl⟩
  · exact hw.dlt i hd
  · exact hw.llt t hl

theorem Joins.keepI (h : Joins W g1 w g2 w') {b : Nat} (hb : g1.I b) : w'.heap[b]? = w.heap[b]? :=
  h.ext.keep b (h.wf1.ilt b hb) fun ho => (h.owned ho).notI h.wf1 hb

theorem Joins.freeT (h : Joins W g1 w g2 w') {t : Tk} (hl : g1.L t) (hq : W.imgT t = false) : ¬ Owned (g1.ren W.inT W.inI) (g1.ν t) := by
  rintro (⟨j, ⟨i, hp, hd⟩, he⟩ | ⟨u, ⟨t', hp, hl'⟩, he⟩)
  · rw [G.ren_μ (Way.inj_in h.good) hp] at he; exact h.wf1.dl i t hd hl he
  · rw [G.ren_ν (Way.inj_in h.good) hp] at he
    have := h.wf1.linj t' t hl' hl he
    subst this; rw [Way.inT_img hp] at hq; cases hq
theorem Joins.freeD (h : Joins W g1 w g2 w') {k : Nat} (hd : g1.D k) (hq : W.imgI k = false) : ¬ Owned (g1.ren W.inT W.inI) (g1.μ k) := by
  rintro (⟨j, ⟨i, hp, hd'⟩, he⟩ | ⟨u, ⟨t', hp, hl'⟩, he⟩)
  · rw [G.ren_μ (Way.inj_in h.good) hp] at he
    have := h.wf1.dinj i k hd' hd he
    subst this; rw [Way.inI_img hp] at hq; cases hq
  · rw [G.ren_ν (Way.inj_in h.good) hp] at he; exact h.wf1.dl k t' hd hl' he.symm

theorem Joins.wf3 (h : Joins W g1 w g2 w') : WF (g2.ren W.outT W.outI) w' := h.wf2.ren (Way.inj_out h.good)

theorem Joins.owned3 (h : Joins W g1 w g2 w') {b : Nat} (hb : Owned (g2.ren W.outT W.outI) b) : Owned (g1.ren W.inT W.inI) b ∨ w.heap.size ≤ b := by
  refine h.ext.own b ?_
  rcases hb with ⟨j, ⟨i, hp, hd⟩, rfl⟩ | ⟨u, ⟨t, hp, hl⟩, rfl⟩
  · exact .inl ⟨i, hd, by rw [G.ren_μ (Way.inj_out h.good) hp]⟩
  · exact .inr ⟨t, hl, by rw [G.ren_ν (Way.inj_out h.good) hp]⟩

theorem Joins.I3 (h : Joins W g1 w g2 w') {b : Nat} (hb : (g2.ren W.outT W.outI).I b) : g1.I b ∨ Owned (g1.ren W.inT W.inI) b ∨ w.heap.size ≤ b := h.ext.imm b hb

theorem Joins.μin (h : Joins W g1 w g2 w') {k : Nat} (hk : W.isI k = true) : (W.out g1 g2).μ k = g1.μ k ∧ (g1.D k → (W.out g1 g2).D k) := by
  obtain ⟨j, h1, h2, h3⟩ := Way.isI_in h.good hk
  have hi : W.imgI k = true := Way.inI_img h1
  have he := h.ext.ext j h3
  constructor
  · show (if W.imgI k = true then _ else _) = _
    rw [if_pos hi, G.ren_μ (Way.inj_out h.good) h2, he.1, G.ren_μ (Way.inj_in h.good) h1]
  · intro hd
    show (if W.imgI k = true then _ else _)
    rw [if_pos hi]
    exact ⟨j, h2, he.2 ⟨k, h1, hd⟩⟩

theorem Joins.outR (h : Joins W g1 w g2 w') {b : Nat} (hb : ¬ g2.R b) : ¬ (W.out g1 g2).R b := fun hr => hb (by rw [h.ext.rd]; exact hr)

theorem Joins.turn1 (h : Joins W g1 w g2 w') : Turns g1 w (W.out g1 g2) w' W.killT W.killI where
  lax := lax_killT W
  rr := rfl
  imm := fun b hb => ⟨.inl hb, h.keepI hb⟩
  acc := by
    intro o o' b off n c hF ha
    cases o with
    | imm =>
      simp only [Way.killT, Option.some.injEq] at hF; subst hF
      exact ⟨⟨.inl ha.1, ha.2⟩, fun k _ _ => cell_of_heap (h.keepI ha.1)⟩
    | rd =>
      simp only [Way.killT, Option.some.injEq] at hF; subst hF
      exact ⟨.inl ha, fun k _ _ => cell_of_heap (h.keepI ha)⟩
    | own t =>
      simp only [Way.killT] at hF
      split at hF
      · cases hF
      · rename_i hq
        cases hF
        have hq' : W.imgT t = false := by simpa using hq
        rcases ha with ⟨a1, a2, a3, a4⟩ | ⟨ha, hc⟩
        · have hs : w'.heap[b]? = w.heap[b]? := h.ext.keep b (a2 ▸ h.wf1.llt t a1) (a2 ▸ h.freeT a1 hq')
          refine ⟨.inl ⟨?_, ?_, ?_, a4.same hs⟩, fun k _ _ => cell_of_heap hs⟩
          · show (if W.imgT t = true then _ else _); rw [if_neg hq]; exact a1
          · show _ = (if W.imgT t = true then _ else _); rw [if_neg hq]; exact a2
          · show _ = (if W.imgT t = true then _ else _); rw [if_neg hq]; exact a3
        · exact ⟨.inr ⟨⟨.inl ha.1, ha.2⟩, hc⟩, fun k _ _ => cell_of_heap (h.keepI ha.1)⟩
    | vw t =>
      simp only [Way.killT] at hF
      split at hF
      · cases hF
      · rename_i hq
        cases hF
        have hq' : W.imgT t = false := by simpa using hq
        rcases ha with ha | ⟨a1, a2, a3⟩
        · exact ⟨.inl ⟨.inl ha.1, ha.2⟩, fun k _ _ => cell_of_heap (h.keepI ha.1)⟩
        · have hs : w'.heap[b]? = w.heap[b]? := h.ext.keep b (a2 ▸ h.wf1.llt t a1) (a2 ▸ h.freeT a1 hq')
          refine ⟨.inr ⟨?_, ?_, ?_⟩, fun k _ _ => cell_of_heap hs⟩
          · show (if W.imgT t = true then _ else _); rw [if_neg hq]; exact a1
          · show _ = (if W.imgT t = true then _ else _); rw [if_neg hq]; exact a2
          · show _ ≤ (if W.imgT t = true then _ else _); rw [if_neg hq]; exact a3
  ptr := by
    intro i j hp
    simp only [Way.killI] at hp
    split at hp
    · rename_i hi; cases hp; exact (h.μin hi).1
    · split at hp
      · cases hp
      · rename_i hi
        cases hp
        show (if W.imgI i = true then _ else _) = _
        rw [if_neg hi]

theorem Joins.turn2 (h : Joins W g1 w g2 w') : Turns g2 w' (W.out g1 g2) w' (Fren W.outT) W.outI where
  lax := lax_ren (Way.inj_out h.good)
  rr := h.ext.rd.symm
  imm := fun b hb => ⟨.inr hb, rfl⟩
  acc := by
    intro o o' b off n c hF ha
    refine ⟨?_, fun _ _ _ => rfl⟩
    have hi := Way.inj_out h.good
    cases o with
    | imm => simp only [Fren, Option.some.injEq] at hF; subst hF; exact ⟨.inr ha.1, h.outR ha.2⟩
    | rd => simp only [Fren, Option.some.injEq] at hF; subst hF; exact .inr ha
    | own t =>
      simp only [Fren, Option.map_eq_some_iff] at hF
      obtain ⟨u, hu, rfl⟩ := hF
      have hq := Way.outT_img hu
      rcases ha with ⟨h1, h2, h3, h4⟩ | ⟨ha, hc⟩
      · refine .inl ⟨?_, ?_, ?_, h4⟩
        · show (if W.imgT u = true then _ else _); rw [if_pos hq]; exact ⟨t, hu, h1⟩
        · show _ = (if W.imgT u = true then _ else _); rw [if_pos hq, G.ren_ν hi hu]; exact h2
        · show _ = (if W.imgT u = true then _ else _); rw [if_pos hq, G.ren_fr hi hu]; exact h3
      · exact .inr ⟨⟨.inr ha.1, h.outR ha.2⟩, hc.1, hi.wk _ _ hu hc.2⟩
    | vw t =>
      simp only [Fren, Option.map_eq_some_iff] at hF
      obtain ⟨u, hu, rfl⟩ := hF
      have hq := Way.outT_img hu
      rcases ha with ha | ⟨h1, h2, h3⟩
      · exact .inl ⟨.inr ha.1, h.outR ha.2⟩
      · refine .inr ⟨?_, ?_, ?_⟩
        · show (if W.imgT u = true then _ else _); rw [if_pos hq]; exact ⟨t, hu, h1⟩
        · show _ = (if W.imgT u = true then _ else _); rw [if_pos hq, G.ren_ν hi hu]; exact h2
        · show _ ≤ (if W.imgT u = true then _ else _); rw [if_pos hq, G.ren_fr hi hu]; exact h3
  ptr := by
    intro i j hp
    show (if W.imgI j = true then _ else _) = _
    rw [if_pos (Way.outI_img hp), G.ren_μ (Way.inj_out h.good) hp]

theorem Joins.D_cases {k : Nat} (hd : (W.out g1 g2).D k) : (W.imgI k = true ∧ (g2.ren W.outT W.outI).D k ∧ (W.out g1 g2).μ k = (g2.ren W.outT W.outI).μ k) ∨ (W.imgI k = false ∧ g1.D k ∧ (W.out g1 g2).μ k = g1.μ k) := by
  have hd' : if W.imgI k = true then (g2.ren W.outT W.outI).D k else g1.D k := hd
  by_cases hi : W.imgI k = true
  · rw [if_pos hi] at hd'
    exact .inl ⟨hi, hd', by show (if W.imgI k = true then _ else _) = _; rw [if_pos hi]⟩
  · rw [if_neg hi] at hd'
    exact .inr ⟨by simpa using hi, hd', by show (if W.imgI k = true then _ else _) = _; rw [if_neg hi]⟩
theorem Joins.L_cases {t : Tk} (hd : (W.out g1 g2).L t) : (W.imgT t = true ∧ (g2.ren W.outT W.outI).L t ∧ (W.out g1 g2).ν t = (g2.ren W.outT W.outI).ν t) ∨ (W.imgT t = false ∧ g1.L t ∧ (W.out g1 g2).ν t = g1.ν t) := by
  have hd' : if W.imgT t = true then (g2.ren W.outT W.outI).L t else g1.L t := hd
  by_cases hi : W.imgT t = true
  · rw [if_pos hi] at hd'
    exact .inl ⟨hi, hd', by show (if W.imgT t = true then _ else _) = _; rw [if_pos hi]⟩
  · rw [if_neg hi] at hd'
    exact .inr ⟨by simpa using hi, hd', by show (if W.imgT t = true then _ else _) = _; rw [if_neg hi]⟩

theorem Joins.wf (h : Joins W g1 w g2 w') : WF (W.out g1 g2) w' := by
  have w3 := h.wf3
  have own3 : ∀ b, Owned (g2.ren W.outT W.outI) b → ¬ g1.I b := fun b hb hI => by
    rcases h.owned3 hb with ho | ho
    · exact (h.owned ho).notI h.wf1 hI
    · have := h.wf1.ilt b hI; omega
  have i3 : ∀ b, Owned g1 b → ¬ Owned (g1.ren W.inT W.inI) b → ¬ (g2.ren W.outT W.outI).I b := fun b ho hn hI => by
    rcases h.I3 hI with h1 | h1 | h1
    · exact ho.notI h.wf1 h1
    · exact hn h1
    · have := ho.lt h.wf1; omega
  have ne : ∀ b b', Owned (g2.ren W.outT W.outI) b → Owned g1 b' → ¬ Owned (g1.ren W.inT W.inI) b' → b ≠ b' := fun b b' hb ho hn e => by
    subst e
    rcases h.owned3 hb with h1 | h1
    · exact hn h1
    · have := ho.lt h.wf1; omega
  constructor
  · intro i hd
    rcases Joins.D_cases hd with ⟨_, h1, e⟩ | ⟨_, h1, e⟩ <;> rw [e]
    · exact w3.dlt i h1
    · exact Nat.lt_of_lt_of_le (h.wf1.dlt i h1) h.ext.size
  · intro t hl
    rcases Joins.L_cases hl with ⟨_, h1, e⟩ | ⟨_, h1, e⟩ <;> rw [e]
    · exact w3.llt t h1
    · exact Nat.lt_of_lt_of_le (h.wf1.llt t h1) h.ext.size
  · rintro b (hb | hb)
    · exact Nat.lt_of_lt_of_le (h.wf1.ilt b hb) h.ext.size
    · exact w3.ilt b hb
  · intro i j hi hj he
    rcases Joins.D_cases hi with ⟨q1, h1, e1⟩ | ⟨q1, h1, e1⟩ <;> rcases Joins.D_cases hj with ⟨q2, h2, e2⟩ | ⟨q2, h2, e2⟩ <;> rw [e1, e2] at he
    · exact w3.dinj i j h1 h2 he
    · exact (ne _ _ (.inl ⟨i, h1, rfl⟩) (.inl ⟨j, h2, rfl⟩) (h.freeD h2 q2) he).elim
    · exact (ne _ _ (.inl ⟨j, h2, rfl⟩) (.inl ⟨i, h1, rfl⟩) (h.freeD h1 q1) he.symm).elim
    · exact h.wf1.dinj i j h1 h2 he
  · intro i j hi hj he
    rcases Joins.L_cases hi with ⟨q1, h1, e1⟩ | ⟨q1, h1, e1⟩ <;> rcases Joins.L_cases hj with ⟨q2, h2, e2⟩ | ⟨q2, h2, e2⟩ <;> rw [e1, e2] at he
    · exact w3.linj i j h1 h2 he
    · exact (ne _ _ (.inr ⟨i, h1, rfl⟩) (.inr ⟨j, h2, rfl⟩) (h.freeT h2 q2) he).elim
    · exact (ne _ _ (.inr ⟨j, h2, rfl⟩) (.inr ⟨i, h1, rfl⟩) (h.freeT h1 q1) he.symm).elim
    · exact h.wf1.linj i j h1 h2 he
  · intro i t hi ht he
    rcases Joins.D_cases hi with ⟨q1, h1, e1⟩ | ⟨q1, h1, e1⟩ <;> rcases Joins.L_cases ht with ⟨q2, h2, e2⟩ | ⟨q2, h2, e2⟩ <;> rw [e1, e2] at he
    · exact w3.dl i t h1 h2 he
    · exact ne _ _ (.inl ⟨i, h1, rfl⟩) (.inr ⟨t, h2, rfl⟩) (h.freeT h2 q2) he
    · exact ne _ _ (.inr ⟨t, h2, rfl⟩) (.inl ⟨i, h1, rfl⟩) (h.freeD h1 q1) he.symm
    · exact h.wf1.dl i t h1 h2 he
  · rintro i hi (hI | hI)
    · rcases Joins.D_cases hi with ⟨q1, h1, e1⟩ | ⟨q1, h1, e1⟩ <;> rw [e1] at hI
      · exact own3 _ (.inl ⟨i, h1, rfl⟩) hI
      · exact h.wf1.di i h1 hI
    · rcases Joins.D_cases hi with ⟨q1, h1, e1⟩ | ⟨q1, h1, e1⟩ <;> rw [e1] at hI
      · exact w3.di i h1 hI
      · exact i3 _ (.inl ⟨i, h1, rfl⟩) (h.freeD h1 q1) hI
  · rintro i hi (hI | hI)
    · rcases Joins.L_cases hi with ⟨q1, h1, e1⟩ | ⟨q1, h1, e1⟩ <;> rw [e1] at hI
      · exact own3 _ (.inr ⟨i, h1, rfl⟩) hI
      · exact h.wf1.li i h1 hI
    · rcases Joins.L_cases hi with ⟨q1, h1, e1⟩ | ⟨q1, h1, e1⟩ <;> rw [e1] at hI
      · exact w3.li i h1 hI
      · exact i3 _ (.inr ⟨i, h1, rfl⟩) (h.freeT h1 q1) hI
  · exact h.wf1.glob.mono h.turn1.imm rfl
  · exact fun b hb => .inl (h.wf1.ri b hb)

theorem Joins.ext1 (h : Joins W g1 w g2 w') : Ext g1 w (W.out g1 g2) w' where
  os := h.ext.os
  tape := h.ext.tape
  output := h.ext.output
  size := h.ext.size
  keep := fun b hb ho => h.ext.keep b hb fun h1 => ho (h.owned h1)
  own := by
    have go : ∀ b, Owned (g2.ren W.outT W.outI) b → Owned g1 b ∨ w.heap.size ≤ b := fun b hb => (h.owned3 hb).imp h.owned id
    rintro b (⟨i, hd, rfl⟩ | ⟨t, hl, rfl⟩)
    · rcases Joins.D_cases hd with ⟨_, h1, e⟩ | ⟨_, h1, e⟩ <;> rw [e]
      · exact go _ (.inl ⟨i, h1, rfl⟩)
      · exact .inl (.inl ⟨i, h1, rfl⟩)
    · rcases Joins.L_cases hl with ⟨_, h1, e⟩ | ⟨_, h1, e⟩ <;> rw [e]
      · exact go _ (.inr ⟨t, h1, rfl⟩)
      · exact .inl (.inr ⟨t, h1, rfl⟩)
  imm := by
    rintro b (hb | hb)
    · exact .inl hb
    · rcases h.I3 hb with h1 | h1 | h1
      · exact .inl h1
      · exact .inr (.inl (h.owned h1))
      · exact .inr (.inr h1)
  rd := rfl
  ext := by
    intro i hi
    by_cases hs : W.isI i = true
    · exact h.μin hs
    · have hn : W.imgI i = false := by
        cases hx : W.imgI i with
        | false => rfl
        | true =>
          simp only [Way.imgI, Bool.or_eq_true] at hx
          rcases hx with hx | hx
          · exact absurd hx hs
          · obtain ⟨j, hj⟩ := Option.isSome_iff_exists.1 hx
            have := (h.good.newI _ _ (lookR_mem hj)).2
            omega
      exact ⟨by show (if W.imgI i = true then _ else _) = _; rw [if_neg (by simp [hn])], fun hd => by show (if W.imgI i = true then _ else _); rw [if_neg (by simp [hn])]; exact hd⟩

theorem Joins.heap1 (h : Joins W g1 w g2 w') {hp : List (Nat × Ob)} (hh : HeapSim g1 w hp) : HeapSim (W.out g1 g2) w' (scrubO W.killT W.killI (dropO W.isI hp)) := by
  intro k' ob' ho
  obtain ⟨k, ob, h1, h2, rfl⟩ := getO_scrubO ho
  obtain ⟨h3, h4⟩ := getO_dropO h2
  have hk : k' = k ∧ W.imgI k = false := by
    simp only [Way.killI, h3, Bool.false_eq_true, if_false] at h1
    split at h1
    · cases h1
    · rename_i hn; cases h1; exact ⟨rfl, by simpa using hn⟩
  obtain ⟨rfl, hn⟩ := hk
  have h0 := hh k' ob h4
  refine h0.turn h.turn1 fun hd => ?_
  have e : (W.out g1 g2).μ k' = g1.μ k' := by show (if W.imgI k' = true then _ else _) = _; rw [if_neg (by simp [hn])]
  refine ⟨by show (if W.imgI k' = true then _ else _); rw [if_neg (by simp [hn])]; exact hd, ?_⟩
  rw [e, h.ext.keep _ (h.wf1.dlt k' hd) (h.freeD hd hn)]

theorem Joins.heap2 (h : Joins W g1 w g2 w') {hp : List (Nat × Ob)} (hh : HeapSim g2 w' hp) : HeapSim (W.out g1 g2) w' (scrubO (Fren W.outT) W.outI hp) := by
  intro k' ob' ho
  obtain ⟨k, ob, h1, h2, rfl⟩ := getO_scrubO ho
  have h0 := hh k ob h2
  have hi := Way.outI_img h1
  have e : (W.out g1 g2).μ k' = g2.μ k := by show (if W.imgI k' = true then _ else _) = _; rw [if_pos hi, G.ren_μ (Way.inj_out h.good) h1]
  exact h0.turn h.turn2 fun hd => ⟨by show (if W.imgI k' = true then _ else _); rw [if_pos hi]; exact ⟨k, h1, hd⟩, by rw [e]⟩
end

/-- Each object of the one is in the other. -/
def subO : List (Nat × Ob) → List (Nat × Ob) → Prop
  | [], _ => True
  | (k, x) :: l, h => getO h k = some x ∧ subO l h

theorem subO_get {a h : List (Nat × Ob)} (hs : subO a h) {k : Nat} {ob : Ob} (hg : getO a k = some ob) : getO h k = some ob := by
  induction a with
  | nil => cases hg
  | cons c l ih =>
    obtain ⟨i, x⟩ := c
    simp only [getO] at hg
    by_cases e : i = k
    · rw [if_pos e] at hg; cases hg; exact e ▸ hs.1
    · rw [if_neg e] at hg; exact ih hs.2 hg

def Way.argIn (W : Way) (ts : List Tk) (x : PV) : PV := (x.scrub (Ffz (fzOf ts)) some).scrub (Fren W.inT) W.inI
def Way.heapIn (W : Way) (ts : List Tk) (h : List (Nat × Ob)) : List (Nat × Ob) := scrubO (Fren W.inT) W.inI (scrubO (Ffz (fzOf ts)) some h)
def Way.left (W : Way) (ts : List Tk) (x : PV) : PV := (x.scrub (Ffz (fzOf ts)) some).scrub W.killT W.killI
def Way.res (W : Way) (x : PV) : PV := x.scrub (Fren W.outT) W.outI
def Way.heapOut (W : Way) (ts : List Tk) (H h : List (Nat × Ob)) : List (Nat × Ob) := scrubO (Fren W.outT) W.outI H ++ scrubO W.killT W.killI (dropO W.isI (scrubO (Ffz (fzOf ts)) some h))

theorem CallT.of {P : Program} {h : List (Nat × Ob)} {k : FuncId} {args args' : List PV} {X : PV} {H h' : List (Nat × Ob)} (W : Way) (ts : List Tk) (hW : W.ok = true) (hc : TrC P k args' h' fun x hx => x = X ∧ hx = H)
    (ha : args' = args.map (W.argIn ts)) (hh : subO h' (W.heapIn ts h)) : CallT P h k args (W.left ts) (W.heapOut ts H h) (W.res X) := by
  intro g w vs hhs hw hr
  have hg := Way.ok_good hW
  have ht1 := Turns.fz hw (fzOf ts)
  have ht2 := Turns.ren (g := g.fz (fzOf ts)) (Way.inj_in hg) w
  have hw1 := hw.fz (fzOf ts)
  have hwc := hw1.ren (Way.inj_in hg)
  have hs0 : Sim g ⟨[], h, 0⟩ ⟨#[], []⟩ w := ⟨fun s => by show Rep g w .dead _; exact .dead _, rfl, hhs⟩
  have hs1 := hs0.fz hw (fzOf ts)
  have hs2 := hs1.ren (Way.inj_in hg)
  have hargs : RepArgs ((g.fz (fzOf ts)).ren W.inT W.inI) w args' vs := by
    subst ha
    refine ⟨by simp [hr.1], fun i x u hx hu => ?_⟩
    rw [List.getElem?_map, Option.map_eq_some_iff] at hx
    obtain ⟨y, hy, rfl⟩ := hx
    exact ((hr.2 i y u hy hu).scrub ht1).scrub ht2
  refine CallsIn.mono (hc _ w vs (fun id ob ho => hs2.heap id ob (subO_get hh ho)) hwc hargs) fun e w' hp => ?_
  obtain ⟨v, x, g2, hx, rfl, ⟨rfl, rfl⟩, h1, h2, h3, h4⟩ := hp
  have hj : Joins W (g.fz (fzOf ts)) w g2 w' := ⟨hg, hw1, h3, h4⟩
  refine ⟨v, W.out (g.fz (fzOf ts)) g2, rfl, fun y u hy => (hy.scrub ht1).scrub hj.turn1, fun id ob ho => ?_, h1.scrub hj.turn2, hj.wf, (Ext.fz g _ w).trans hj.ext1⟩
  rcases getO_append ho with ho | ho
  · exact hj.heap2 h2 id ob ho
  · exact hj.heap1 hs1.heap id ob ho

end Go.Sy

/-! Calls to which rows of one's own are lent: behind them they are one's own again. -/
namespace Go.Sy

def Flnd (ts : Tk → Bool) : Own → Option Own
  | .imm => some .imm
  | .own t => if ts t then some .rd else some (.own t)
  | .vw t => if ts t then some .rd else some (.vw t)
  | .rd => some .rd
def Fnot (ts : Tk → Bool) : Own → Option Own
  | .imm => some .imm
  | .own t => if ts t then none else some (.own t)
  | .vw t => if ts t then none else some (.vw t)
  | .rd => none

/-- Blocks that are lent. -/
def G.lentB (g : G) (ts : Tk → Bool) (b : Nat) : Prop := ∃ t, ts t = true ∧ g.L t ∧ g.ν t = b
def G.lnd (g : G) (ts : Tk → Bool) : G := { g with L := fun t => g.L t ∧ ts t = false, I := fun b => g.I b ∨ g.lentB ts b, R := fun b => g.R b ∨ g.lentB ts b }

section
variable {g : G} {w : World} {ts : Tk → Bool}

theorem lentB_notI (hw : WF g w) {b : Nat} (h : g.lentB ts b) : ¬ g.I b := by
  obtain ⟨t, _, hl, rfl⟩ := h
  exact hw.li t hl
theorem lentB_notR (hw : WF g w) {b : Nat} (h : g.lentB ts b) : ¬ g.R b := fun hr => lentB_notI hw h (hw.ri b hr)
theorem lnd_notR (hw : WF g w) {b : Nat} (hI : g.I b) (hR : ¬ g.R b) : ¬ (g.lnd ts).R b := fun h => h.elim hR fun h => lentB_notI hw h hI

theorem Turn1.lnd (hw : WF g w) (ts : Tk → Bool) : Turn1 g w (g.lnd ts) w (Flnd ts) some where
  lax := fun o o' h hl => by
    cases o with
    | imm => simp only [Flnd, Option.some.injEq] at h; subst h; rfl
    | rd => simp only [Flnd, Option.some.injEq] at h; subst h; rfl
    | own t => simp only [Flnd] at h; split at h <;> cases h <;> first | rfl | exact hl
    | vw t => simp only [Flnd] at h; split at h <;> cases h <;> first | rfl | exact hl
  imm := fun b h1 => ⟨.inl h1, rfl⟩
  rr := fun b h1 h2 => lnd_notR hw h1 h2
  acc := by
    intro o o' b off n c hF ha
    refine ⟨?_, fun _ _ _ => rfl⟩
    cases o with
    | imm => simp only [Flnd, Option.some.injEq] at hF; subst hF; exact ⟨.inl ha.1, lnd_notR hw ha.1 ha.2⟩
    | rd => simp only [Flnd, Option.some.injEq] at hF; subst hF; exact .inl ha
    | own t =>
      simp only [Flnd] at hF
      split at hF
      · rename_i ht
        cases hF
        rcases ha with ⟨h1, h2, _⟩ | ⟨h, _⟩
        · exact .inr ⟨t, ht, h1, h2.symm⟩
        · exact .inl h.1
      · rename_i ht
        cases hF
        rcases ha with ⟨h1, h2, h3⟩ | ⟨h, h'⟩
        · exact .inl ⟨⟨h1, by simpa using ht⟩, h2, h3⟩
        · exact .inr ⟨⟨.inl h.1, lnd_notR hw h.1 h.2⟩, h'⟩
    | vw t =>
      simp only [Flnd] at hF
      split at hF
      · rename_i ht
        cases hF
        rcases ha with h | ⟨h1, h2, _⟩
        · exact .inl h.1
        · exact .inr ⟨t, ht, h1, h2.symm⟩
      · rename_i ht
        cases hF
        rcases ha with h | ⟨h1, h2, h3⟩
        · exact .inl ⟨.inl h.1, lnd_notR hw h.1 h.2⟩
        · exact .inr ⟨⟨h1, by simpa using ht⟩, h2, h3⟩
  ptr := fun _ _ h => by cases h; rfl

theorem WF.lnd (h : WF g w) (ts : Tk → Bool) : WF (g.lnd ts) w where
  dlt := h.dlt
  llt := fun t ht => h.llt t ht.1
  ilt := by
    rintro b (hb | ⟨t, _, hl, rfl⟩)
    · exact h.ilt b hb
    · exact h.llt t hl
  dinj := h.dinj
  linj := fun t u ht hu => h.linj t u ht.1 hu.1
  dl := fun i t hi ht => h.dl i t hi ht.1
  di := by
    rintro i hi (hb | ⟨t, _, hl, he⟩)
    · exact h.di i hi hb
    · exact h.dl i t hi hl he.symm
  li := by
    rintro t ⟨hl, ht⟩ (hb | ⟨u, hu, hl', he⟩)
    · exact h.li t hl hb
    · have := h.linj u t hl' hl he
      subst this; rw [hu] at ht; cases ht
  glob := fun q hq => by
    obtain ⟨h1, h2⟩ := h.glob q hq
    exact ⟨⟨.inl h1.1, lnd_notR h h1.1 h1.2⟩, h2⟩
  ri := fun b hb => hb.imp (h.ri b) id

theorem lnd_owned {b : Nat} (h : Owned (g.lnd ts) b) : Owned g b := by
  rcases h with ⟨i, hd, rfl⟩ | ⟨t, hl, rfl⟩
  · exact .inl ⟨i, hd, rfl⟩
  · exact .inr ⟨t, hl.1, rfl⟩
end

/-- Behind the call: what was lent is the caller's again. -/
def G.back (g g2 : G) (ts : Tk → Bool) : G where
  μ := g2.μ
  ν := fun t => if ts t = true then g.ν t else g2.ν t
  fr := fun t => if ts t = true then g.fr t else g2.fr t
  L := fun t => if ts t = true then g.L t else g2.L t
  D := g2.D
  I := fun b => g2.I b ∧ ¬ g.lentB ts b
  R := g.R

/-- What the call leaves of the caller's descriptions. -/
def Way.Fall (W : Way) (ts fs : Tk → Bool) : Own → Option Own
  | .imm => some .imm
  | .own t => if ts t then some (.own t) else if fs t then some .imm else if W.imgT t then none else some (.own t)
  | .vw t => if ts t then some (.vw t) else if fs t then some .imm else if W.imgT t then none else some (.vw t)
  | .rd => some .rd

section
variable {W : Way} {g g2 : G} {w w' : World} {ts fs : Tk → Bool}

/-- What is known behind the call. -/
structure Lends (g : G) (w : World) (g2 : G) (w' : World) (ts : Tk → Bool) : Prop where
  wf : WF g w
  wf2 : WF g2 w'
  ext : Ext (g.lnd ts) w g2 w'
  imm : ∀ b, (g.lnd ts).I b → g2.I b ∧ w'.heap[b]? = w.heap[b]?

theorem Lends.I (h : Lends g w g2 w' ts) {b : Nat} (h1 : g.I b) : (g.back g2 ts).I b ∧ w'.heap[b]? = w.heap[b]? :=
  ⟨⟨(h.imm b (.inl h1)).1, fun hl => lentB_notI h.wf hl h1⟩, (h.imm b (.inl h1)).2⟩
theorem Lends.I2 (h : Lends g w g2 w' ts) {b : Nat} (h1 : g2.I b) (h2 : ¬ g2.R b) : (g.back g2 ts).I b ∧ ¬ (g.back g2 ts).R b := by
  rw [h.ext.rd] at h2
  exact ⟨⟨h1, fun hl => h2 (.inr hl)⟩, fun hr => h2 (.inl hr)⟩
theorem Lends.lent (h : Lends g w g2 w' ts) {t : Tk} (ht : ts t = true) (hl : g.L t) : g2.I (g.ν t) ∧ w'.heap[g.ν t]? = w.heap[g.ν t]? := h.imm _ (.inr ⟨t, ht, hl, rfl⟩)

/-- What comes out of the call. -/
theorem Lends.turn2 (h : Lends g w g2 w' ts) : Turn0 g2 w' (g.back g2 ts) w' (Fnot ts) some where
  lax := fun o o' hF hl => by
    cases o with
    | imm => simp only [Fnot, Option.some.injEq] at hF; subst hF; rfl
    | rd => simp [Fnot] at hF
    | own t => simp only [Fnot] at hF; split at hF <;> cases hF; exact hl
    | vw t => simp only [Fnot] at hF; split at hF <;> cases hF; exact hl
  imm := fun b h1 h2 => ⟨h.I2 h1 h2, rfl⟩
  acc := by
    intro o o' b off n c hF ha
    refine ⟨?_, fun _ _ _ => rfl⟩
    cases o with
    | imm => simp only [Fnot, Option.some.injEq] at hF; subst hF; exact h.I2 ha.1 ha.2
    | rd => simp [Fnot] at hF
    | own t =>
      simp only [Fnot] at hF
      split at hF
      · cases hF
      · rename_i ht
        cases hF
        rcases ha with ⟨h1, h2, h3, h4⟩ | ⟨h1, h'⟩
        · refine .inl ⟨?_, ?_, ?_, h4⟩
          · show (if ts t = true then _ else _); rw [if_neg ht]; exact h1
          · show _ = (if ts t = true then _ else _); rw [if_neg ht]; exact h2
          · show _ = (if ts t = true then _ else _); rw [if_neg ht]; exact h3
        · exact .inr ⟨h.I2 h1.1 h1.2, h'⟩
    | vw t =>
      simp only [Fnot] at hF
      split at hF
      · cases hF
      · rename_i ht
        cases hF
        rcases ha with h1 | ⟨h1, h2, h3⟩
        · exact .inl (h.I2 h1.1 h1.2)
        · refine .inr ⟨?_, ?_, ?_⟩
          · show (if ts t = true then _ else _); rw [if_neg ht]; exact h1
          · show _ = (if ts t = true then _ else _); rw [if_neg ht]; exact h2
          · show _ ≤ (if ts t = true then _ else _); rw [if_neg ht]; exact h3
  ptr := fun _ _ h => by cases h; rfl

theorem Lends.L_cases {t : Tk} (hl : (g.back g2 ts).L t) : (ts t = true ∧ g.L t ∧ (g.back g2 ts).ν t = g.ν t) ∨ (ts t = false ∧ g2.L t ∧ (g.back g2 ts).ν t = g2.ν t) := by
  have hl' : if ts t = true then g.L t else g2.L t := hl
  by_cases hi : ts t = true
  · rw [if_pos hi] at hl'
    exact .inl ⟨hi, hl', by show (if ts t = true then _ else _) = _; rw [if_pos hi]⟩
  · rw [if_neg hi] at hl'
    exact .inr ⟨by simpa using hi, hl', by show (if ts t = true then _ else _) = _; rw [if_neg hi]⟩

theorem Lends.wf3 (h : Lends g w g2 w' ts) : WF (g.back g2 ts) w' where
  dlt := h.wf2.dlt
  llt := fun t hl => by
    rcases Lends.L_cases hl with ⟨_, h1, e⟩ | ⟨_, h1, e⟩ <;> rw [e]
    · exact Nat.lt_of_lt_of_le (h.wf.llt t h1) h.ext.size
    · exact h.wf2.llt t h1
  ilt := fun b hb => h.wf2.ilt b hb.1
  dinj := h.wf2.dinj
  linj := fun t u ht hu he => by
    rcases Lends.L_cases ht with ⟨q1, h1, e1⟩ | ⟨q1, h1, e1⟩ <;> rcases Lends.L_cases hu with ⟨q2, h2, e2⟩ | ⟨q2, h2, e2⟩ <;> rw [e1, e2] at he
    · exact h.wf.linj t u h1 h2 he
    · exact absurd (he ▸ (h.lent q1 h1).1) (h.wf2.li u h2)
    · exact absurd (he ▸ (h.lent q2 h2).1) (h.wf2.li t h1)
    · exact h.wf2.linj t u h1 h2 he
  dl := fun i t hi ht he => by
    have he : g2.μ i = _ := he
    rcases Lends.L_cases ht with ⟨q1, h1, e1⟩ | ⟨q1, h1, e1⟩ <;> rw [e1] at he
    · exact h.wf2.di i hi (he ▸ (h.lent q1 h1).1)
    · exact h.wf2.dl i t hi h1 he
  di := fun i hi hb => h.wf2.di i hi hb.1
  li := fun t ht hb => by
    rcases Lends.L_cases ht with ⟨q1, h1, e1⟩ | ⟨q1, h1, e1⟩ <;> rw [e1] at hb
    · exact hb.2 ⟨t, q1, h1, rfl⟩
    · exact h.wf2.li t h1 hb.1
  glob := fun q hq => by
    obtain ⟨h1, T, fz, h2⟩ := h.wf2.glob q hq
    exact ⟨h.I2 h1.1 h1.2, T, fz, h2⟩
  ri := fun b hb => (h.I (h.wf.ri b hb)).1

theorem Lends.ext3 (h : Lends g w g2 w' ts) : Ext g w (g.back g2 ts) w' where
  os := h.ext.os
  tape := h.ext.tape
  output := h.ext.output
  size := h.ext.size
  keep := fun b hb ho => h.ext.keep b hb fun h1 => ho (lnd_owned h1)
  own := by
    rintro b (⟨i, hd, rfl⟩ | ⟨t, hl, rfl⟩)
    · exact (h.ext.own _ (.inl ⟨i, hd, rfl⟩)).imp lnd_owned id
    · rcases Lends.L_cases hl with ⟨_, h1, e⟩ | ⟨_, h1, e⟩ <;> rw [e]
      · exact .inl (.inr ⟨t, h1, rfl⟩)
      · exact (h.ext.own _ (.inr ⟨t, h1, rfl⟩)).imp lnd_owned id
  imm := by
    rintro b ⟨hb, hn⟩
    rcases h.ext.imm b hb with (h1 | h1) | h1 | h1
    · exact .inl h1
    · exact absurd h1 hn
    · exact .inr (.inl (lnd_owned h1))
    · exact .inr (.inr h1)
  ext := fun i hi => ⟨(h.ext.ext i hi).1, (h.ext.ext i hi).2⟩
  rd := rfl

/-- What the caller has goes on. -/
theorem Lends.turn1 (h : Lends g w g2 w' ts) (ht : Turns (g.lnd ts) w g2 w' (fun o => (Ffz fs o).bind W.killT) W.killI) : Turn1 g w (g.back g2 ts) w' (W.Fall ts fs) W.killI where
  lax := fun o o' hF hl => by
    cases o with
    | imm => simp only [Way.Fall, Option.some.injEq] at hF; subst hF; rfl
    | rd => simp only [Way.Fall, Option.some.injEq] at hF; subst hF; rfl
    | own t => simp only [Way.Fall] at hF; split at hF <;> (try split at hF) <;> (try split at hF) <;> cases hF <;> first | rfl | exact hl
    | vw t => simp only [Way.Fall] at hF; split at hF <;> (try split at hF) <;> (try split at hF) <;> cases hF <;> first | rfl | exact hl
  imm := fun b h1 => h.I h1
  rr := fun b _ h2 => h2
  acc := by
    intro o o' b off n c hF ha
    cases o with
    | imm => simp only [Way.Fall, Option.some.injEq] at hF; subst hF; exact ⟨⟨(h.I ha.1).1, ha.2⟩, fun k _ _ => cell_of_heap (h.I ha.1).2⟩
    | rd => simp only [Way.Fall, Option.some.injEq] at hF; subst hF; exact ⟨(h.I ha).1, fun k _ _ => cell_of_heap (h.I ha).2⟩
    | own t =>
      simp only [Way.Fall] at hF
      by_cases hts : ts t = true
      · rw [if_pos hts] at hF
        cases hF
        rcases ha with ⟨h1, h2, h3, h4⟩ | ⟨h1, h'⟩
        · obtain ⟨-, hs⟩ := h.lent hts h1
          rw [← h2] at hs
          refine ⟨.inl ⟨?_, ?_, ?_, h4.same hs⟩, fun k _ _ => cell_of_heap hs⟩
          · show (if ts t = true then _ else _); rw [if_pos hts]; exact h1
          · show _ = (if ts t = true then _ else _); rw [if_pos hts]; exact h2
          · show _ = (if ts t = true then _ else _); rw [if_pos hts]; exact h3
        · exact ⟨.inr ⟨⟨(h.I h1.1).1, h1.2⟩, h'⟩, fun k _ _ => cell_of_heap (h.I h1.1).2⟩
      · rw [if_neg hts] at hF
        have ha0 := ((Turn1.lnd h.wf ts).acc (.own t) (.own t) b off n c (by simp [Flnd, hts]) ha).1
        by_cases hfs : fs t = true
        · rw [if_pos hfs] at hF
          cases hF
          obtain ⟨k1, k2⟩ := ht.acc (.own t) .imm b off n c (by simp [Ffz, hfs, Way.killT]) ha0
          exact ⟨h.I2 k1.1 k1.2, k2⟩
        · rw [if_neg hfs] at hF
          by_cases him : W.imgT t = true
          · rw [if_pos him] at hF; cases hF
          · rw [if_neg him] at hF
            cases hF
            obtain ⟨k1, k2⟩ := ht.acc (.own t) (.own t) b off n c (by simp [Ffz, hfs, Way.killT, him]) ha0
            exact ⟨(h.turn2.acc (.own t) (.own t) b off n c (by simp [Fnot, hts]) k1).1, k2⟩
    | vw t =>
      simp only [Way.Fall] at hF
      by_cases hts : ts t = true
      · rw [if_pos hts] at hF
        cases hF
        rcases ha with h1 | ⟨h1, h2, h3⟩
        · exact ⟨.inl ⟨(h.I h1.1).1, h1.2⟩, fun k _ _ => cell_of_heap (h.I h1.1).2⟩
        · obtain ⟨-, hs⟩ := h.lent hts h1
          rw [← h2] at hs
          refine ⟨.inr ⟨?_, ?_, ?_⟩, fun k _ _ => cell_of_heap hs⟩
          · show (if ts t = true then _ else _); rw [if_pos hts]; exact h1
          · show _ = (if ts t = true then _ else _); rw [if_pos hts]; exact h2
          · show _ ≤ (if ts t = true then _ else _); rw [if_pos hts]; exact h3
      · rw [if_neg hts] at hF
        have ha0 := ((Turn1.lnd h.wf ts).acc (.vw t) (.vw t) b off n c (by simp [Flnd, hts]) ha).1
        by_cases hfs : fs t = true
        · rw [if_pos hfs] at hF
          cases hF
          obtain ⟨k1, k2⟩ := ht.acc (.vw t) .imm b off n c (by simp [Ffz, hfs, Way.killT]) ha0
          exact ⟨h.I2 k1.1 k1.2, k2⟩
        · rw [if_neg hfs] at hF
          by_cases him : W.imgT t = true
          · rw [if_pos him] at hF; cases hF
          · rw [if_neg him] at hF
            cases hF
            obtain ⟨k1, k2⟩ := ht.acc (.vw t) (.vw t) b off n c (by simp [Ffz, hfs, Way.killT, him]) ha0
            exact ⟨(h.turn2.acc (.vw t) (.vw t) b off n c (by simp [Fnot, hts]) k1).1, k2⟩
  ptr := ht.ptr
end

theorem Turns.comp {g g1 g2 : G} {w w1 w2 : World} {F F' : Own → Option Own} {p : Nat → Option Nat} (h : Turns g w g1 w1 F some) (k : Turns g1 w1 g2 w2 F' p) : Turns g w g2 w2 (fun o => (F o).bind F') p where
  imm := fun b hb => ⟨(k.imm b (h.imm b hb).1).1, (k.imm b (h.imm b hb).1).2.trans (h.imm b hb).2⟩
  acc := by
    intro o o' b off n c hF ha
    obtain ⟨o1, h1, h2⟩ := Option.bind_eq_some_iff.1 hF
    obtain ⟨a1, a2⟩ := h.acc o o1 b off n c h1 ha
    obtain ⟨b1, b2⟩ := k.acc o1 o' b off n c h2 a1
    exact ⟨b1, fun i h3 h4 => (b2 i h3 h4).trans (a2 i h3 h4)⟩
  ptr := fun i j hp => (k.ptr i j hp).trans (h.ptr i i rfl)
  lax := fun o o' hF hl => by
    obtain ⟨o1, h1, h2⟩ := Option.bind_eq_some_iff.1 hF
    exact k.lax o1 o' h2 (h.lax o o1 h1 hl)
  rr := k.rr.trans h.rr

def Way.argLn (W : Way) (ts fs : List Tk) (x : PV) : PV := ((x.scrub (Flnd (fzOf ts)) some).scrub (Ffz (fzOf fs)) some).scrub (Fren W.inT) W.inI
def Way.heapLn (W : Way) (ts fs : List Tk) (h : List (Nat × Ob)) : List (Nat × Ob) := scrubO (Fren W.inT) W.inI (scrubO (Ffz (fzOf fs)) some (scrubO (Flnd (fzOf ts)) some h))
def Way.leftLn (W : Way) (ts fs : List Tk) (x : PV) : PV := x.scrub (W.Fall (fzOf ts) (fzOf fs)) W.killI
def Way.resLn (W : Way) (ts : List Tk) (x : PV) : PV := (x.scrub (Fren W.outT) W.outI).scrub (Fnot (fzOf ts)) some
def Way.heapOutLn (W : Way) (ts fs : List Tk) (H h : List (Nat × Ob)) : List (Nat × Ob) := scrubO (Fnot (fzOf ts)) some (scrubO (Fren W.outT) W.outI H) ++ scrubO (W.Fall (fzOf ts) (fzOf fs)) W.killI (dropO W.isI h)

theorem HeapSim.turn1 {g g' : G} {w w' : World} {F : Own → Option Own} (ht : Turn1 g w g' w' F some) (hD : ∀ i, g.D i → g'.D i ∧ w'.heap[g'.μ i]? = w.heap[g.μ i]?) {h : List (Nat × Ob)} (hh : HeapSim g w h) : HeapSim g' w' (scrubO F some h) := by
  intro id ob ho
  obtain ⟨k, ob', e1, ho', rfl⟩ := getO_scrubO ho
  cases e1
  exact (hh id ob' ho').turn1 ht (hD id)

def cleanO : List (Nat × Ob) → Prop
  | [] => True
  | (_, x) :: l => x.clean ∧ cleanO l
theorem getO_clean {h : List (Nat × Ob)} (hc : cleanO h) {k : Nat} {ob : Ob} (hg : getO h k = some ob) : ob.clean := by
  induction h with
  | nil => cases hg
  | cons c l ih =>
    obtain ⟨i, x⟩ := c
    simp only [getO] at hg
    split at hg
    · cases hg; exact hc.1
    · exact ih hc.2 hg
theorem HeapSim.turn0 {g g' : G} {w w' : World} {F : Own → Option Own} (ht : Turn0 g w g' w' F some) (hD : ∀ i, g.D i → g'.D i ∧ w'.heap[g'.μ i]? = w.heap[g.μ i]?) {h : List (Nat × Ob)} (hh : HeapSim g w h) (hc : cleanO h) : HeapSim g' w' (scrubO F some h) := by
  intro id ob ho
  obtain ⟨k, ob', e1, ho', rfl⟩ := getO_scrubO ho
  cases e1
  exact (hh id ob' ho').turn0 ht (getO_clean hc ho') (hD id)

theorem Clean.scrub {F : Own → Option Own} {p : Nat → Option Nat} {x : PV} (h : Clean x) : Clean (x.scrub F p) := by
  induction h with
  | lit => simp only [PV.scrub]; exact .lit _
  | dead => simp only [PV.scrub]; exact .dead
  | sl o nl s xs h => simp only [PV.scrub]; split <;> first | exact .sl _ _ _ _ h | exact .dead
  | ptr => simp only [PV.scrub]; split <;> first | exact .ptr _ _ | exact .dead
  | cur o xs h => simp only [PV.scrub]; split <;> first | exact .cur _ _ h | exact .dead
  | agg xs _ ih =>
    simp only [PV.scrub, scrubL_eq]
    refine .agg _ fun x hx => ?_
    obtain ⟨y, hy, rfl⟩ := List.mem_map.1 hx
    exact ih y hy
  | tup xs _ ih =>
    simp only [PV.scrub, scrubL_eq]
    refine .tup _ fun x hx => ?_
    obtain ⟨y, hy, rfl⟩ := List.mem_map.1 hx
    exact ih y hy
  | fn f xs ys _ _ ih ih' =>
    simp only [PV.scrub, scrubL_eq]
    refine .fn _ _ _ (fun x hx => ?_) (fun x hx => ?_)
    · obtain ⟨y, hy, rfl⟩ := List.mem_map.1 hx
      exact ih y hy
    · obtain ⟨y, hy, rfl⟩ := List.mem_map.1 hx
      exact ih' y hy
  | mp => simp only [PV.scrub]; split <;> first | exact .mp _ | exact .dead
  | yl => simp only [PV.scrub]; split <;> first | exact .yl _ | exact .dead
theorem scrubR_mem {F : Own → Option Own} {p : Nat → Option Nat} {r : List (Nat × PV)} {q : Nat × PV} (h : q ∈ scrubR F p r) : ∃ q', q' ∈ r ∧ q.2 = q'.2.scrub F p := by
  induction r with
  | nil => simp [scrubR] at h
  | cons c l ih =>
    obtain ⟨k, x⟩ := c
    simp only [scrubR, List.mem_cons] at h
    rcases h with rfl | h
    · exact ⟨(k, x), by simp, rfl⟩
    · obtain ⟨q', h1, h2⟩ := ih h
      exact ⟨q', by simp [h1], h2⟩
theorem Ob.clean_scrub {F : Own → Option Own} {p : Nat → Option Nat} {ob : Ob} (h : ob.clean) : (ob.scrub F p).clean := by
  cases ob with
  | cells xs =>
    simp only [Ob.scrub, scrubL_eq]
    intro x hx
    obtain ⟨y, hy, rfl⟩ := List.mem_map.1 hx
    exact (h y hy).scrub
  | map es =>
    simp only [Ob.scrub, scrubM]
    intro x hx
    obtain ⟨y, hy, rfl⟩ := List.mem_map.1 hx
    exact ⟨(h y hy).1.scrub, (h y hy).2.scrub⟩
  | loop rs n cd s j =>
    intro q hq
    obtain ⟨q', h1, h2⟩ := scrubR_mem hq
    rw [h2]; exact (h q' h1).scrub
  | ghost rs vs =>
    intro q hq
    obtain ⟨q', h1, h2⟩ := scrubR_mem hq
    rw [h2]; exact (h q' h1).scrub
theorem cleanO_scrub {F : Own → Option Own} {p : Nat → Option Nat} {h : List (Nat × Ob)} (hc : cleanO h) : cleanO (scrubO F p h) := by
  induction h with
  | nil => exact hc
  | cons c l ih =>
    obtain ⟨k, x⟩ := c
    simp only [scrubO]
    split
    · exact ⟨Ob.clean_scrub hc.1, ih hc.2⟩
    · exact ih hc.2

theorem CallT.lends {P : Program} {h : List (Nat × Ob)} {k : FuncId} {args args' : List PV} {X : PV} {H h' : List (Nat × Ob)} (W : Way) (ts fs : List Tk) (hW : W.ok = true) (hc : TrC P k args' h' fun x hx => x = X ∧ hx = H)
    (hcX : Clean X) (hcH : cleanO H) (ha : args' = args.map (W.argLn ts fs)) (hh : subO h' (W.heapLn ts fs h)) : CallT P h k args (W.leftLn ts fs) (W.heapOutLn ts fs H h) (W.resLn ts X) := by
  intro g w vs hhs hw hr
  have hg := Way.ok_good hW
  have ht0 := Turn1.lnd hw (fzOf ts)
  have hw0 := hw.lnd (fzOf ts)
  have ht1 := Turns.fz hw0 (fzOf fs)
  have hw1 := hw0.fz (fzOf fs)
  have ht2 := Turns.ren (g := (g.lnd (fzOf ts)).fz (fzOf fs)) (Way.inj_in hg) w
  have hwc := hw1.ren (Way.inj_in hg)
  have hh0 : HeapSim (g.lnd (fzOf ts)) w (scrubO (Flnd (fzOf ts)) some h) := HeapSim.turn1 ht0 (fun i hd => ⟨hd, rfl⟩) hhs
  have hs0 : Sim (g.lnd (fzOf ts)) ⟨[], scrubO (Flnd (fzOf ts)) some h, 0⟩ ⟨#[], []⟩ w := ⟨fun s => by show Rep _ w .dead _; exact .dead _, rfl, hh0⟩
  have hs1 := hs0.fz hw0 (fzOf fs)
  have hs2 := hs1.ren (Way.inj_in hg)
  have hargs : RepArgs (((g.lnd (fzOf ts)).fz (fzOf fs)).ren W.inT W.inI) w args' vs := by
    subst ha
    refine ⟨by simp [hr.1], fun i x u hx hu => ?_⟩
    rw [List.getElem?_map, Option.map_eq_some_iff] at hx
    obtain ⟨y, hy, rfl⟩ := hx
    exact (((hr.2 i y u hy hu).scrub1 ht0).scrub ht1).scrub ht2
  refine CallsIn.mono (hc _ w vs (fun id ob ho => hs2.heap id ob (subO_get hh ho)) hwc hargs) fun e w' hp => ?_
  obtain ⟨v, x, g2, hx, rfl, ⟨rfl, rfl⟩, h1, h2, h3, h4⟩ := hp
  have hj : Joins W ((g.lnd (fzOf ts)).fz (fzOf fs)) w g2 w' := ⟨hg, hw1, h3, h4⟩
  have htt := ht1.comp hj.turn1
  have hL : Lends g w (W.out ((g.lnd (fzOf ts)).fz (fzOf fs)) g2) w' (fzOf ts) := ⟨hw, hj.wf, (Ext.fz _ _ w).trans hj.ext1, htt.imm⟩
  have hl1 := hL.turn1 htt
  refine ⟨v, g.back (W.out ((g.lnd (fzOf ts)).fz (fzOf fs)) g2) (fzOf ts), rfl, fun y u hy => hy.scrub1 hl1, fun id ob ho => ?_, (h1.scrub hj.turn2).scrub0 hL.turn2 hcX.scrub, hL.wf3, hL.ext3⟩
  rcases getO_append ho with ho | ho
  · exact HeapSim.turn0 hL.turn2 (fun i hd => ⟨hd, rfl⟩) (hj.heap2 h2) (cleanO_scrub hcH) id ob ho
  · obtain ⟨k', ob', p1, p2, rfl⟩ := getO_scrubO ho
    obtain ⟨p3, p4⟩ := getO_dropO p2
    have hk : id = k' ∧ W.imgI k' = false := by
      simp only [Way.killI, p3, Bool.false_eq_true, if_false] at p1
      split at p1
      · cases p1
      · rename_i hn; cases p1; exact ⟨rfl, by simpa using hn⟩
    obtain ⟨rfl, hn⟩ := hk
    refine (hhs id ob' p4).turn1 hl1 fun hd => ?_
    have e : (W.out ((g.lnd (fzOf ts)).fz (fzOf fs)) g2).μ id = g.μ id := by show (if W.imgI id = true then _ else _) = _; rw [if_neg (by simp [hn])]; rfl
    have hd' : ((g.lnd (fzOf ts)).fz (fzOf fs)).D id := hd
    refine ⟨by show (if W.imgI id = true then _ else _); rw [if_neg (by simp [hn])]; exact hd, ?_⟩
    show w'.heap[(W.out ((g.lnd (fzOf ts)).fz (fzOf fs)) g2).μ id]? = _
    rw [e]
    exact hj.ext.keep _ (hw.dlt id hd) (hj.freeD hd' hn)

end Go.Sy

/-! Calls that only read, and tell rows of their own. -/
namespace Go.Sy

inductive Fr : PV → Prop
  | lit (v : Value) : Fr (.lit v)
  | row (n : Nat) (nl : Bool) (s : Nat) (xs : List PV) : (∀ x, x ∈ xs → ∀ y, y ∈ x.comps → ∃ v, y = .lit v) → Fr (.sl (.own (.loc n)) nl s xs)
  | nil (o : Own) (s : Nat) : Fr (.sl o true s [])
  | tup (xs : List PV) : (∀ x, x ∈ xs → Fr x) → Fr (.tup xs)

open Classical in
noncomputable def G.gain (g g3 : G) (q : Tk → Bool) : G where
  μ := g.μ
  ν := fun t => if q t = true then g3.ν t else g.ν t
  fr := fun t => if q t = true then g3.fr t else g.fr t
  L := fun t => if q t = true then g3.L t else g.L t
  D := g.D
  I := g.I
  R := g.R

def rowsWay (rows : List (Nat × Nat)) : Way := ⟨[], [], [], rows⟩

theorem Fr.out (W : Way) {g g2 : G} {w' : World} (hg : W.Good) {x : PV} (h : Fr x) : ∀ {v : Value}, Rep g2 w' x v → Rep (g.gain (g2.ren W.outT W.outI) W.imgT) w' (x.scrub (Fren W.outT) (fun _ => none)) v := by
  induction h with
  | lit u => intro v hr; simp only [PV.scrub]; cases hr; exact .lit _
  | nil o s =>
    intro v hr
    simp only [PV.scrub]
    cases hr with
    | nils =>
      cases Fren W.outT o with
      | none => exact .dead _
      | some o' => exact .nils _ _
  | row n nl s xs hx =>
    intro v hr
    simp only [PV.scrub]
    cases hF : Fren W.outT (.own (.loc n)) with
    | none => exact .dead _
    | some o' =>
      simp only [Fren, Option.map_eq_some_iff] at hF
      obtain ⟨u, hu, rfl⟩ := hF
      cases hr with
      | nils => exact .nils _ _
      | sle _ _ _ hlx => cases hlx
      | sl _ _ _ b off c U hc hm hacc hd hs hcell hrep =>
        rcases hacc with ⟨h1, h2, h3, h4⟩ | ⟨_, _, hw⟩
        · have hq := Way.outT_img hu
          have hi := Way.inj_out hg
          refine .sl _ s xs b off c U hc hm (.inl ⟨?_, ?_, ?_, h4⟩) hd hs hcell fun j x hj i y hy => ?_
          · show (if W.imgT u = true then _ else _); rw [if_pos hq]; exact ⟨_, hu, h1⟩
          · show _ = (if W.imgT u = true then _ else _); rw [if_pos hq, G.ren_ν hi hu]; exact h2
          · show _ = (if W.imgT u = true then _ else _); rw [if_pos hq, G.ren_fr hi hu]; exact h3
          · obtain ⟨z, rfl⟩ := hx x (mem_of_get hj) y (mem_of_get hy)
            rw [(hrep j x hj i _ hy).lit_inv]; exact .lit _
        · cases hw
  | tup xs hx ih =>
    intro v hr
    simp only [PV.scrub, scrubL_eq]
    cases hr with
    | tup _ us hl h =>
      refine .tup _ us (by simpa using hl) fun i x u hi hu => ?_
      rw [List.getElem?_map, Option.map_eq_some_iff] at hi
      obtain ⟨y, hy, rfl⟩ := hi
      exact ih y (mem_of_get hy) (h i y u hy hu)

theorem CallT.fresh {P : Program} {h : List (Nat × Ob)} {k : FuncId} {args args' : List PV} {y : PV} (rows : List (Nat × Nat)) (hW : (rowsWay rows).ok = true) (hc : TrC P k args' [] fun x _ => x = y) (hl : lendL h args = some args') (hy : Fr y) :
    CallT P h k args (PV.scrub (rowsWay rows).killT some) (scrubO (rowsWay rows).killT some h) (y.scrub (Fren (rowsWay rows).outT) (fun _ => none)) := by
  intro g w vs hh hw hr
  have hg := Way.ok_good hW
  refine CallsIn.mono (hc g.lent w vs (fun _ _ h => by simp [getO] at h) hw.lent (lendL_rep hh hl hr)) fun e w' hp => ?_
  obtain ⟨v, x, g2, h', rfl, rfl, h1, h2, h3, h4⟩ := hp
  have hk : ∀ b, b < w.heap.size → w'.heap[b]? = w.heap[b]? := fun b hb => h4.keep b hb (by rintro (⟨i, hd, _⟩ | ⟨t, ht, _⟩) <;> assumption)
  have w3 := h3.ren (Way.inj_out hg)
  have fresh : ∀ t, (g2.ren (rowsWay rows).outT (rowsWay rows).outI).L t → w.heap.size ≤ (g2.ren (rowsWay rows).outT (rowsWay rows).outI).ν t := fun u hl => by
    obtain ⟨t, hp, hl⟩ := hl
    rw [G.ren_ν (Way.inj_out hg) hp]
    rcases h4.own _ (.inr ⟨t, hl, rfl⟩) with (⟨i, hd, _⟩ | ⟨t, ht, _⟩) | h
    · exact hd.elim
    · exact ht.elim
    · exact h
  generalize hW' : rowsWay rows = W at *
  have L_cases : ∀ {t : Tk}, (g.gain (g2.ren W.outT W.outI) W.imgT).L t → (W.imgT t = true ∧ (g2.ren W.outT W.outI).L t ∧ (g.gain (g2.ren W.outT W.outI) W.imgT).ν t = (g2.ren W.outT W.outI).ν t) ∨ (W.imgT t = false ∧ g.L t ∧ (g.gain (g2.ren W.outT W.outI) W.imgT).ν t = g.ν t) := fun {t} hd => by
    have hd' : if W.imgT t = true then (g2.ren W.outT W.outI).L t else g.L t := hd
    by_cases hi : W.imgT t = true
    · rw [if_pos hi] at hd'
      exact .inl ⟨hi, hd', by show (if W.imgT t = true then _ else _) = _; rw [if_pos hi]⟩
    · rw [if_neg hi] at hd'
      exact .inr ⟨by simpa using hi, hd', by show (if W.imgT t = true then _ else _) = _; rw [if_neg hi]⟩
  have ht : Turns g w (g.gain (g2.ren W.outT W.outI) W.imgT) w' W.killT some := by
    refine ⟨fun b hb => ⟨hb, hk b (hw.ilt b hb)⟩, fun o o' b off n c hF ha => ?_, fun i j h => by cases h; rfl, lax_killT W, rfl⟩
    have hb := hk b (ha.lt hw)
    refine ⟨?_, fun k _ _ => cell_of_heap hb⟩
    cases o with
    | imm => simp only [Way.killT, Option.some.injEq] at hF; subst hF; exact ha
    | rd => simp only [Way.killT, Option.some.injEq] at hF; subst hF; exact ha
    | own t =>
      simp only [Way.killT] at hF
      split at hF
      · cases hF
      · rename_i hq
        cases hF
        rcases ha with ⟨a1, a2, a3, a4⟩ | ha
        · refine .inl ⟨?_, ?_, ?_, a4.same hb⟩
          · show (if W.imgT t = true then _ else _); rw [if_neg hq]; exact a1
          · show _ = (if W.imgT t = true then _ else _); rw [if_neg hq]; exact a2
          · show _ = (if W.imgT t = true then _ else _); rw [if_neg hq]; exact a3
        · exact .inr ha
    | vw t =>
      simp only [Way.killT] at hF
      split at hF
      · cases hF
      · rename_i hq
        cases hF
        rcases ha with ha | ⟨a1, a2, a3⟩
        · exact .inl ha
        · refine .inr ⟨?_, ?_, ?_⟩
          · show (if W.imgT t = true then _ else _); rw [if_neg hq]; exact a1
          · show _ = (if W.imgT t = true then _ else _); rw [if_neg hq]; exact a2
          · show _ ≤ (if W.imgT t = true then _ else _); rw [if_neg hq]; exact a3
  refine ⟨v, g.gain (g2.ren W.outT W.outI) W.imgT, rfl, fun z u hz => hz.scrub ht, fun id ob ho => ?_, hy.out W hg h1, ?_, ?_⟩
  · obtain ⟨k, ob', e1, ho', rfl⟩ := getO_scrubO ho
    cases e1
    have h0 := hh id ob' ho'
    exact h0.turn ht fun hd => ⟨hd, hk _ (hw.dlt id hd)⟩
  · refine ⟨fun i hi => Nat.lt_of_lt_of_le (hw.dlt i hi) h4.size, fun t hl => ?_, fun b hb => Nat.lt_of_lt_of_le (hw.ilt b hb) h4.size, hw.dinj, fun t u hl hu he => ?_, fun i t hi hl he => ?_, hw.di, fun t hl hI => ?_, hw.glob.mono (fun b hb => ⟨hb, hk b (hw.ilt b hb)⟩) rfl, hw.ri⟩
    · rcases L_cases hl with ⟨_, h1, e⟩ | ⟨_, h1, e⟩ <;> rw [e]
      · exact w3.llt t h1
      · exact Nat.lt_of_lt_of_le (hw.llt t h1) h4.size
    · rcases L_cases hl with ⟨q1, h1, e1⟩ | ⟨q1, h1, e1⟩ <;> rcases L_cases hu with ⟨q2, h2, e2⟩ | ⟨q2, h2, e2⟩ <;> rw [e1, e2] at he
      · exact w3.linj t u h1 h2 he
      · have := fresh t h1; have := hw.llt u h2; omega
      · have := fresh u h2; have := hw.llt t h1; omega
      · exact hw.linj t u h1 h2 he
    · have he : g.μ i = _ := he
      rcases L_cases hl with ⟨q1, h1, e1⟩ | ⟨q1, h1, e1⟩ <;> rw [e1] at he
      · have := fresh t h1; have := hw.dlt i hi; omega
      · exact hw.dl i t hi h1 he
    · have hI : g.I _ := hI
      rcases L_cases hl with ⟨q1, h1, e1⟩ | ⟨q1, h1, e1⟩ <;> rw [e1] at hI
      · have := fresh t h1; have := hw.ilt _ hI; omega
      · exact hw.li t h1 hI
  · refine ⟨h4.os, h4.tape, h4.output, h4.size, fun b hb _ => hk b hb, ?_, fun _ h => .inl h, fun _ _ => ⟨rfl, fun h => h⟩, rfl⟩
    rintro b (⟨i, hd, rfl⟩ | ⟨t, hl, rfl⟩)
    · exact .inl (.inl ⟨i, hd, rfl⟩)
    · rcases L_cases hl with ⟨_, h1, e⟩ | ⟨_, h1, e⟩ <;> rw [e]
      · exact .inr (fresh t h1)
      · exact .inl (.inr ⟨t, h1, rfl⟩)

end Go.Sy

/-! Rows of numbers; what is known of functions that only read. -/
namespace Go.Sy

def ints (k : IntKind) (xs : List Int) : List PV := xs.map fun n => .lit (.int k n)
abbrev u8s (xs : List Int) : List PV := ints .u8 xs

section
variable {k : IntKind} {xs ys : List Int}
@[simp] theorem ints_length : (ints k xs).length = xs.length := by simp [ints]
@[simp] theorem ints_nil : ints k [] = [] := (rfl)
@[simp] theorem ints_append : ints k xs ++ ints k ys = ints k (xs ++ ys) := by simp [ints]
@[simp] theorem ints_take (n : Nat) : (ints k xs).take n = ints k (xs.take n) := by simp [ints, List.map_take]
@[simp] theorem ints_drop (n : Nat) : (ints k xs).drop n = ints k (xs.drop n) := by simp [ints, List.map_drop]
@[simp] theorem ints_getElem (n : Nat) (h : n < (ints k xs).length) : (ints k xs)[n] = .lit (.int k (xs[n]'(by simpa using h))) := by simp [ints]
@[simp high] theorem ints_get (n : Nat) : (ints k xs)[n]? = (xs[n]?).map fun n => .lit (.int k n) := by simp [ints]
@[simp] theorem ints_inj : ints k xs = ints k ys ↔ xs = ys := by
  constructor
  · intro h
    induction xs generalizing ys with
    | nil => cases ys <;> simp [ints] at h ⊢
    | cons x xs ih =>
      cases ys with
      | nil => simp [ints] at h
      | cons y ys =>
        simp only [ints, List.map_cons, List.cons.injEq, PV.lit.injEq, Value.int.injEq, true_and] at h
        rw [h.1, ih h.2]
  · rintro rfl; rfl
@[simp] theorem ints_nil_iff : ints k xs = [] ↔ xs = [] := by cases xs <;> simp [ints]
@[simp] theorem ints_empty : (ints k xs).isEmpty = xs.isEmpty := by cases xs <;> simp [ints]
theorem ints_data (x : PV) (h : x ∈ ints k xs) : Data x := by
  simp only [ints, List.mem_map] at h
  obtain ⟨n, _, rfl⟩ := h
  simp [Value.oneCell']
@[simp] theorem ints_allData : (∀ x, x ∈ ints k xs → Data x) = True := eq_true fun _ => ints_data _
end

/-- The numbers of a row. -/
def unInts (k : IntKind) : List PV → Option (List Int)
  | [] => some []
  | .lit (.int k' n) :: xs => if k' = k then (unInts k xs).map (n :: ·) else none
  | _ :: _ => none
@[simp] theorem unInts_ints (k : IntKind) (xs : List Int) : unInts k (ints k xs) = some xs := by
  induction xs with
  | nil => rfl
  | cons x xs ih =>
    have : ints k (x :: xs) = .lit (.int k x) :: ints k xs := rfl
    simp [this, unInts, ih]
theorem unInts_eq {k : IntKind} {xs : List PV} {ys : List Int} (h : unInts k xs = some ys) : xs = ints k ys := by
  induction xs generalizing ys with
  | nil => simp only [unInts, Option.some.injEq] at h; subst h; rfl
  | cons x xs ih =>
    unfold unInts at h
    split at h
    · rename_i h'; cases h'
    · rename_i k' n xs' he
      cases he
      split at h
      · rename_i e
        subst e
        rw [Option.map_eq_some_iff] at h
        obtain ⟨zs, hz, rfl⟩ := h
        rw [ih hz]; rfl
      · cases h
    · cases h

/-- A function that only reads: what it tells. -/
def Spec.reads {P : Program} {α : Type} (k : FuncId) (hk : Callable P k) (parse : List PV → Option α) (args : α → List PV) (y : α → PV) (hp : ∀ as a, parse as = some a → as = args a) (hy : ∀ a, Plain (y a)) (hc : ∀ a, TrC P k (args a) [] fun x _ => x = y a) : Spec P where
  k := k
  pre := fun as h _ KX => onSome ((lendL h as).bind parse) fun a => KX (fun x => x) h (y a)
  ok := by
    intro as h d KX hx
    obtain ⟨a, h1, h2⟩ := onSome_iff.1 hx
    obtain ⟨bs, h3, h4⟩ := Option.bind_eq_some_iff.1 h1
    obtain rfl := hp bs a h4
    exact ⟨hk, fun x => x, h, y a, rfl, h2, CallT.read (hc a) h3 (hy a)⟩

@[simp] theorem plain_lit (v : Value) : Plain (.lit v) := .lit v

mutual
def idsOf : PV → List Nat
  | .ptr id _ => [id]
  | .agg xs => idsOfL xs
  | .tup xs => idsOfL xs
  | .fn _ a b => idsOfL a ++ idsOfL b
  | .mp id => [id]
  | .yl id => [id]
  | _ => []
def idsOfL : List PV → List Nat
  | [] => []
  | x :: xs => idsOf x ++ idsOfL xs
end

def idsOfR : List (Nat × PV) → List Nat
  | [] => []
  | x :: xs => idsOf x.2 ++ idsOfR xs

/-- The objects that a call may come to. -/
def reach (h : List (Nat × Ob)) : Nat → List Nat → List Nat → List Nat
  | 0, _, seen => seen
  | _ + 1, [], seen => seen
  | n + 1, i :: todo, seen => if seen.contains i then reach h n todo seen else match getO h i with
    | some (.cells xs) => reach h n (todo ++ idsOfL xs) (seen ++ [i])
    | some (.map _) => reach h n todo (seen ++ [i])
    | some (.loop rs _ _ _ _) => reach h n (todo ++ idsOfR rs) (seen ++ [i])
    | some (.ghost rs _) => reach h n (todo ++ idsOfR rs) (seen ++ [i])
    | none => reach h n todo seen

def numb (b : Nat) : List Nat → List (Nat × Nat)
  | [] => []
  | i :: l => (i, b) :: numb (b + 1) l

/-- The ways of names into a call and out of it. -/
def wayOf (h : List (Nat × Ob)) (as : List PV) (new rows : List Nat) (d : Option Tmp) : Way :=
  ⟨numb 100000 (reach h 30 (idsOfL as) []), [], numb (1000 + 10 * d.getD 0) new, numb (1000 + 10 * d.getD 0) rows⟩

mutual
def toksOf : PV → List Tk
  | .sl (.own t) _ _ _ => [t]
  | .sl (.vw t) _ _ _ => [t]
  | .cur (.own t) _ => [t]
  | .cur (.vw t) _ => [t]
  | .agg xs => toksOfL xs
  | .tup xs => toksOfL xs
  | .fn _ a b => toksOfL a ++ toksOfL b
  | _ => []
def toksOfL : List PV → List Tk
  | [] => []
  | x :: xs => toksOf x ++ toksOfL xs
end
/-- A function that changes what it is handed. -/
def Spec.works {P : Program} {α : Type} (k : FuncId) (hk : Callable P k) (new rows : List Nat) (parse : List PV → List (Nat × Ob) → Option α) (args : α → List PV) (h0 : α → List (Nat × Ob)) (y : α → PV) (h1 : α → List (Nat × Ob))
    (hp : ∀ as h a, parse as h = some a → as = args a ∧ subO (h0 a) h) (hc : ∀ a, TrC P k (args a) (h0 a) fun x h' => x = y a ∧ h' = h1 a) : Spec P where
  k := k
  pre := fun as h d KX => onSome (parse (as.map ((wayOf h as new rows d).argIn (toksOfL as))) ((wayOf h as new rows d).heapIn (toksOfL as) h)) fun a => (wayOf h as new rows d).ok = true ∧
    KX ((wayOf h as new rows d).left (toksOfL as)) ((wayOf h as new rows d).heapOut (toksOfL as) (h1 a) h) ((wayOf h as new rows d).res (y a))
  ok := by
    intro as h d KX hx
    obtain ⟨a, h1, hW, hk2⟩ := onSome_iff.1 hx
    obtain ⟨ha, hh⟩ := hp _ _ a h1
    refine ⟨hk, _, _, _, ?_, hk2, CallT.of _ _ hW (hc a) ha.symm hh⟩
    simp only [Way.left, PV.scrub]

/-- A function that only reads, and tells rows of its own. -/
def Spec.fresh {P : Program} {α : Type} (k : FuncId) (hk : Callable P k) (rows : List Nat) (parse : List PV → Option α) (args : α → List PV) (y : α → PV) (hp : ∀ as a, parse as = some a → as = args a) (hy : ∀ a, Fr (y a)) (hc : ∀ a, TrC P k (args a) [] fun x _ => x = y a) : Spec P where
  k := k
  pre := fun as h d KX => onSome ((lendL h as).bind parse) fun a => (rowsWay (numb (1000 + 10 * d.getD 0) rows)).ok = true ∧
    KX (PV.scrub (rowsWay (numb (1000 + 10 * d.getD 0) rows)).killT some) (scrubO (rowsWay (numb (1000 + 10 * d.getD 0) rows)).killT some h) ((y a).scrub (Fren (rowsWay (numb (1000 + 10 * d.getD 0) rows)).outT) (fun _ => none))
  ok := by
    intro as h d KX hx
    obtain ⟨a, h1, hW, h2⟩ := onSome_iff.1 hx
    obtain ⟨bs, h3, h4⟩ := Option.bind_eq_some_iff.1 h1
    obtain rfl := hp bs a h4
    refine ⟨hk, _, _, _, ?_, h2, CallT.fresh _ hW (hc a) h3 (hy a)⟩
    simp only [PV.scrub]

def isNilS : PV → Prop
  | .sl _ nl _ xs => nl = true ∧ xs = []
  | _ => False
/-- A row of one's own, and a part of it. -/
def isVw : PV → PV → Prop
  | .sl (.own t) nl s xs, .sl (.vw u) nl' s' ys => t = u ∧ nl = nl' ∧ s = s' ∧ xs = ys
  | _, _ => False
/-- What the one says the other says too. -/
def Weak (x y : PV) : Prop := x = y ∨ (isNilS x ∧ isNilS y) ∨ isVw x y
theorem Weak.rep {x y : PV} (h : Weak x y) {g : G} {w : World} {v : Value} (hr : Rep g w x v) : Rep g w y v := by
  rcases h with rfl | ⟨h1, h2⟩ | h
  · exact hr
  · cases x <;> simp only [isNilS] at h1
    cases y <;> simp only [isNilS] at h2
    obtain ⟨rfl, rfl⟩ := h1
    obtain ⟨rfl, rfl⟩ := h2
    cases hr
    exact .nils _ _
  · unfold isVw at h
    split at h
    · obtain ⟨rfl, rfl, rfl, rfl⟩ := h
      exact hr.view
    · exact h.elim
def weakL : List PV → List PV → Prop
  | [], [] => True
  | x :: xs, y :: ys => Weak x y ∧ weakL xs ys
  | _, _ => False
theorem weakL_get {xs ys : List PV} (h : weakL xs ys) : xs.length = ys.length ∧ ∀ (i : Nat) (y : PV), ys[i]? = some y → ∃ x, xs[i]? = some x ∧ Weak x y := by
  induction xs generalizing ys with
  | nil => cases ys with
    | nil => exact ⟨rfl, fun _ _ h => by simp at h⟩
    | cons y ys => exact h.elim
  | cons x xs ih => cases ys with
    | nil => exact h.elim
    | cons y ys =>
      obtain ⟨h1, h2⟩ := ih h.2
      refine ⟨by simp [h1], fun i z hz => ?_⟩
      cases i with
      | zero => simp at hz; subst hz; exact ⟨x, rfl, h.1⟩
      | succ i => exact h2 i z (by simpa using hz)
/-- Slots that say no more than others. -/
def subR : List (Nat × PV) → List (Nat × PV) → Prop
  | [], _ => True
  | (k, x) :: l, r => Weak (getR r k) x ∧ subR l r
theorem subR_rep {R r : List (Nat × PV)} (hs : subR R r) {g : G} {w : World} {vs : Array Value} (hh : ∀ t, Rep g w (getR r t) (vs.getD t undef)) : ∀ t, Rep g w (getR R t) (vs.getD t undef) := by
  induction R with
  | nil => intro s; exact .dead _
  | cons c l ih =>
    obtain ⟨k, x⟩ := c
    intro s
    simp only [getR]
    by_cases e : k = s
    · rw [if_pos e]; subst e; exact hs.1.rep (hh k)
    · rw [if_neg e]; exact ih hs.2 s
def subW : List (Nat × Ob) → List (Nat × Ob) → Prop
  | [], _ => True
  | (k, .cells ys) :: l, h => (∃ xs, getO h k = some (.cells xs) ∧ weakL xs ys) ∧ subW l h
  | (k, .map es) :: l, h => getO h k = some (.map es) ∧ subW l h
  | (k, .loop rs n cd s j) :: l, h => (∃ rs0, getO h k = some (.loop rs0 n cd s j) ∧ subR rs rs0) ∧ subW l h
  | (k, .ghost rs vs) :: l, h => getO h k = some (.ghost rs vs) ∧ subW l h
theorem subW_sim {H h' : List (Nat × Ob)} (hs : subW H h') {g : G} {w : World} (hh : HeapSim g w h') : HeapSim g w H := by
  induction H with
  | nil => exact fun _ _ h => by simp [getO] at h
  | cons c l ih =>
    obtain ⟨k, ob⟩ := c
    cases ob with
    | cells ys =>
      obtain ⟨⟨xs, h1, h2⟩, h3⟩ := hs
      intro id ob ho
      simp only [getO] at ho
      by_cases e : k = id
      · rw [if_pos e] at ho
        cases ho
        subst e
        obtain ⟨hd, cs, T, hb, hl, hr⟩ := hh k _ h1
        obtain ⟨e1, e2⟩ := weakL_get h2
        refine ⟨hd, cs, T, hb, by omega, fun i y u hy hu => ?_⟩
        obtain ⟨x, hx, hw⟩ := e2 i y hy
        exact hw.rep (hr i x u hx hu)
      · rw [if_neg e] at ho; exact ih h3 id ob ho
    | map es =>
      obtain ⟨h1, h3⟩ := hs
      intro id ob ho
      simp only [getO] at ho
      by_cases e : k = id
      · rw [if_pos e] at ho
        cases ho
        subst e
        exact hh k _ h1
      · rw [if_neg e] at ho; exact ih h3 id ob ho
    | loop rs n cd s j =>
      obtain ⟨⟨rs0, h1, h2⟩, h3⟩ := hs
      intro id ob ho
      simp only [getO] at ho
      by_cases e : k = id
      · rw [if_pos e] at ho
        cases ho
        subst e
        obtain ⟨a1, fn, tmps, df, a2, a3, a4⟩ := hh k _ h1
        exact ⟨a1, fn, tmps, df, a2, a3, subR_rep h2 a4⟩
      · rw [if_neg e] at ho; exact ih h3 id ob ho
    | ghost rs vs =>
      obtain ⟨h1, h3⟩ := hs
      intro id ob ho
      simp only [getO] at ho
      by_cases e : k = id
      · rw [if_pos e] at ho
        cases ho
        subst e
        exact hh k _ h1
      · rw [if_neg e] at ho; exact ih h3 id ob ho

theorem TrC.sub {P : Program} {f : FuncId} {args : List PV} {h : List (Nat × Ob)} {X : PV} {H : List (Nat × Ob)} (hc : TrC P f args h fun x h' => Weak x X ∧ subW H h') : TrC P f args h fun x h' => x = X ∧ h' = H := by
  intro g w vs h1 h2 h3
  refine CallsIn.mono (hc g w vs h1 h2 h3) fun e w' hp => ?_
  obtain ⟨v, x, g', h', rfl, ⟨hx, hs⟩, a1, a2, a3, a4⟩ := hp
  exact ⟨v, _, g', H, rfl, ⟨rfl, rfl⟩, hx.rep a1, subW_sim hs a2, a3, a4⟩

theorem TrC.tells {P : Program} {f : FuncId} {args : List PV} {h : List (Nat × Ob)} {X : PV} (hc : TrC P f args h fun x _ => Weak x X) : TrC P f args h fun x _ => x = X := by
  intro g w vs h1 h2 h3
  refine CallsIn.mono (hc g w vs h1 h2 h3) fun e w' hp => ?_
  obtain ⟨v, x, g', h', rfl, hx, a1, a2, a3, a4⟩ := hp
  exact ⟨v, _, g', h', rfl, rfl, hx.rep a1, a2, a3, a4⟩

section
variable {P : Program} {α : Type} {k : FuncId} {hk : Callable P k} {d : Option Tmp} {bs : List PV} {h : List (Nat × Ob)} {KX : (PV → PV) → List (Nat × Ob) → PV → Prop}
@[simp] theorem reads_k {parse : List PV → Option α} {args : α → List PV} {y : α → PV} {hp} {hy} {hc} : (Spec.reads k hk parse args y hp hy hc).k = k := (rfl)
@[simp] theorem fresh_k {rows : List Nat} {parse : List PV → Option α} {args : α → List PV} {y : α → PV} {hp} {hy} {hc} : (Spec.fresh k hk rows parse args y hp hy hc).k = k := (rfl)
@[simp] theorem works_k {new rows : List Nat} {parse : List PV → List (Nat × Ob) → Option α} {args : α → List PV} {h0 : α → List (Nat × Ob)} {y : α → PV} {h1 : α → List (Nat × Ob)} {hp} {hc} : (Spec.works k hk new rows parse args h0 y h1 hp hc).k = k := (rfl)
@[simp] theorem reads_pre {parse : List PV → Option α} {args : α → List PV} {y : α → PV} {hp} {hy} {hc} : (Spec.reads k hk parse args y hp hy hc).pre bs h d KX = onSome ((lendL h bs).bind parse) fun a => KX (fun x => x) h (y a) := (rfl)
@[simp] theorem fresh_pre {rows : List Nat} {parse : List PV → Option α} {args : α → List PV} {y : α → PV} {hp} {hy} {hc} : (Spec.fresh k hk rows parse args y hp hy hc).pre bs h d KX = onSome ((lendL h bs).bind parse) fun a => (rowsWay (numb (1000 + 10 * d.getD 0) rows)).ok = true ∧
    KX (PV.scrub (rowsWay (numb (1000 + 10 * d.getD 0) rows)).killT some) (scrubO (rowsWay (numb (1000 + 10 * d.getD 0) rows)).killT some h) ((y a).scrub (Fren (rowsWay (numb (1000 + 10 * d.getD 0) rows)).outT) (fun _ => none)) := rfl
@[simp] theorem works_pre {new rows : List Nat} {parse : List PV → List (Nat × Ob) → Option α} {args : α → List PV} {h0 : α → List (Nat × Ob)} {y : α → PV} {h1 : α → List (Nat × Ob)} {hp} {hc} : (Spec.works k hk new rows parse args h0 y h1 hp hc).pre bs h d KX =
    onSome (parse (bs.map ((wayOf h bs new rows d).argIn (toksOfL bs))) ((wayOf h bs new rows d).heapIn (toksOfL bs) h)) fun a => (wayOf h bs new rows d).ok = true ∧
    KX ((wayOf h bs new rows d).left (toksOfL bs)) ((wayOf h bs new rows d).heapOut (toksOfL bs) (h1 a) h) ((wayOf h bs new rows d).res (y a)) := rfl
end
attribute [simp ↓] reads_k fresh_k works_k reads_pre fresh_pre works_pre

section
variable {P : Program} {α : Type} (d : Option Tmp) (bs : List PV) (h : List (Nat × Ob)) (KX : (PV → PV) → List (Nat × Ob) → PV → Prop)
/-- What is asked of a call, by itself. -/
def readsPre (parse : List PV → Option α) (y : α → PV) : Prop := onSome ((lendL h bs).bind parse) fun a => KX (fun x => x) h (y a)
def freshPre (rows : List Nat) (parse : List PV → Option α) (y : α → PV) : Prop := onSome ((lendL h bs).bind parse) fun a => (rowsWay (numb (1000 + 10 * d.getD 0) rows)).ok = true ∧
    KX (PV.scrub (rowsWay (numb (1000 + 10 * d.getD 0) rows)).killT some) (scrubO (rowsWay (numb (1000 + 10 * d.getD 0) rows)).killT some h) ((y a).scrub (Fren (rowsWay (numb (1000 + 10 * d.getD 0) rows)).outT) (fun _ => none))
def worksPre (new rows : List Nat) (parse : List PV → List (Nat × Ob) → Option α) (y : α → PV) (h1 : α → List (Nat × Ob)) : Prop :=
    onSome (parse (bs.map ((wayOf h bs new rows d).argIn (toksOfL bs))) ((wayOf h bs new rows d).heapIn (toksOfL bs) h)) fun a => (wayOf h bs new rows d).ok = true ∧
    KX ((wayOf h bs new rows d).left (toksOfL bs)) ((wayOf h bs new rows d).heapOut (toksOfL bs) (h1 a) h) ((wayOf h bs new rows d).res (y a))
end
attribute [simp ↓] readsPre freshPre worksPre

attribute [simp] capPV cutPV Weak isNilS isVw weakL subW elemsOf reps chunks wideB buildRow litL rowsWay Tk.weak slice3PV Own.toks nilPV fieldAddrPV loadPV St.cellsAt ofCells lenPV Own.part ownT lendL lend lendCells lendCell Value.oneCell' appPV appDst appSrc Fkill PV.scrub PV.scrubL scrubO Ob.scrub storeSt PV.plain PV.comps writeAt St.setOb setO
  boxSt tokAt offTk offId Fren St.addO slicePV boundPV extractPV adoptTk noOwn PV.isAgg idsOf idsOfL idsOfR reach numb toksOf toksOfL Way.argIn Way.heapIn Way.left Way.res Way.heapOut fzOf Ffz Way.inT Way.inI Way.outT Way.outI Way.killT Way.killI Way.imgT Way.imgI Way.isI lookN lookR lookT lookU dropO wayOf Way.ok Way.tkOK
  buildPV fillPV St.fz PV.fz St.off toksP PV.toks St.keep keepR keepO PV.view PV.viewL subO
end Go.Sy

/-! Calls by contracts that are named where they are used; loops. -/
namespace Go.Sy

/-- What is asked behind a call. -/
def CallK (P : Program) (k : FuncId) (as : List PV) (h : List (Nat × Ob)) (d : Option Tmp) (KX : (PV → PV) → List (Nat × Ob) → PV → Prop) (_ : Tag KX := .mk) : Prop :=
  Callable P k ∧ ∃ T h' x, T .dead = .dead ∧ KX T h' x ∧ CallT P h k as T h' x

def anyS (P : Program) (k : FuncId) : Spec P := ⟨k, fun as h d KX => CallK P k as h d KX, fun _ _ _ _ h => h⟩
def anys (P : Program) : List FuncId → List (Spec P)
  | [] => []
  | k :: l => anyS P k :: anys P l

/-- What a function makes of its arguments and of the objects that it is handed. -/
structure Fc (P : Program) (k : FuncId) (as : List PV) (h : List (Nat × Ob)) (x : PV) (h1 : List (Nat × Ob)) : Prop where
  ok : Callable P k
  run : TrC P k as h fun y h' => y = x ∧ h' = h1

def toksM : List (PV × PV) → List Tk
  | [] => []
  | e :: l => toksOf e.1 ++ toksOf e.2 ++ toksM l
def toksR : List (Nat × PV) → List Tk
  | [] => []
  | x :: xs => toksOf x.2 ++ toksR xs
def toksO : List (Nat × Ob) → List Tk
  | [] => []
  | (_, .cells xs) :: l => toksOfL xs ++ toksO l
  | (_, .map es) :: l => toksM es ++ toksO l
  | (_, .loop rs _ _ _ _) :: l => toksR rs ++ toksO l
  | (_, .ghost rs _) :: l => toksR rs ++ toksO l
def rowsOf : List Tk → List Nat
  | [] => []
  | .loc n :: l => n :: rowsOf l
  | .wk n :: l => n :: rowsOf l
  | .cell _ _ :: l => rowsOf l
def newIds : List (Nat × Ob) → List Nat
  | [] => []
  | (i, _) :: l => if i < 100000 then i :: newIds l else newIds l

/-- The names that come out of a call. -/
def wayX (h : List (Nat × Ob)) (as : List PV) (d : Option Tmp) (x : PV) (h1 : List (Nat × Ob)) : Way := wayOf h as (newIds h1) (rowsOf (toksOf x ++ toksO h1)) d
def wayR (d : Option Tmp) (x : PV) : Way := rowsWay (numb (1000 + 10 * d.getD 0) (rowsOf (toksOf x)))

/-- A call, its names turned. -/
def CallQ (P : Program) (k : FuncId) (as : List PV) (h : List (Nat × Ob)) (KQ : PV → List (Nat × Ob) → Prop) (_ : Tag KQ := .mk) : Prop :=
  ∃ h0 x h1, Fc P k as h0 x h1 ∧ subO h0 h ∧ KQ x h1

section
variable {P : Program} {k : FuncId} {as : List PV} {h : List (Nat × Ob)} {d : Option Tmp} {KX : (PV → PV) → List (Nat × Ob) → PV → Prop} {t : Tag KX}
theorem CallQ.mk {KQ : PV → List (Nat × Ob) → Prop} {u : Tag KQ} {h0 : List (Nat × Ob)} {x : PV} {h1 : List (Nat × Ob)} (hf : Fc P k as h0 x h1) (hs : subO h0 h) (hq : KQ x h1) : CallQ P k as h KQ u := ⟨h0, x, h1, hf, hs, hq⟩
theorem getO_head_ne {l : List (Nat × Ob)} {k : Nat} {ob : Ob} (h : subO l ((k, ob) :: l)) : True := trivial
/-- No name stands twice. -/
def nodupO : List (Nat × Ob) → Bool
  | [] => true
  | (k, _) :: l => (l.all fun p => p.1 != k) && nodupO l
theorem subO_cons {a l : List (Nat × Ob)} {k : Nat} {ob : Ob} (hn : a.all (fun p => p.1 != k) = true) (hs : subO a l) : subO a ((k, ob) :: l) := by
  induction a with
  | nil => trivial
  | cons c a ih =>
    obtain ⟨i, x⟩ := c
    simp only [List.all_cons, Bool.and_eq_true, bne_iff_ne, ne_eq] at hn
    refine ⟨?_, ih (by simpa using hn.2) hs.2⟩
    simp only [getO]
    rw [if_neg (fun e => hn.1 e.symm)]
    exact hs.1
theorem subO_refl : ∀ (l : List (Nat × Ob)), nodupO l = true → subO l l
  | [], _ => trivial
  | (k, ob) :: l, h => by
    simp only [nodupO, Bool.and_eq_true] at h
    exact ⟨by simp [getO], subO_cons h.1 (subO_refl l h.2)⟩
/-- Where the objects are the contract's own. -/
theorem CallQ.same {KQ : PV → List (Nat × Ob) → Prop} {u : Tag KQ} {x : PV} {h1 : List (Nat × Ob)} (hf : Fc P k as h x h1) (hs : nodupO h = true) (hq : KQ x h1) : CallQ P k as h KQ u := ⟨h, x, h1, hf, subO_refl h hs, hq⟩

theorem CallK.works (hq : CallQ P k (as.map ((wayOf h as [] [] d).argIn (toksOfL as))) ((wayOf h as [] [] d).heapIn (toksOfL as) h) fun x h1 => (wayX h as d x h1).ok = true ∧
    KX ((wayX h as d x h1).left (toksOfL as)) ((wayX h as d x h1).heapOut (toksOfL as) h1 h) ((wayX h as d x h1).res x)) : CallK P k as h d KX t := by
  obtain ⟨h0, x, h1, hf, hs, hW, hk⟩ := hq
  exact ⟨hf.ok, _, _, _, by simp only [Way.left, PV.scrub], hk, CallT.of _ _ hW hf.run rfl hs⟩

/-- The rows that are frozen where some are lent. -/
def restT (ts : List Tk) : List Tk → List Tk
  | [] => []
  | t :: l => if ts.contains t then restT ts l else t :: restT ts l
/-- Some rows are lent: they are '.rd' in the contract, and one's own again behind the call. -/
theorem CallK.lends (ts : List Tk) (hq : CallQ P k (as.map ((wayOf h as [] [] d).argLn ts (restT ts (toksOfL as)))) ((wayOf h as [] [] d).heapLn ts (restT ts (toksOfL as)) h) fun x h1 => Clean x ∧ cleanO h1 ∧ (wayX h as d x h1).ok = true ∧
    KX ((wayX h as d x h1).leftLn ts (restT ts (toksOfL as))) ((wayX h as d x h1).heapOutLn ts (restT ts (toksOfL as)) h1 h) ((wayX h as d x h1).resLn ts x)) : CallK P k as h d KX t := by
  obtain ⟨h0, x, h1, hf, hs, hc1, hc2, hW, hk⟩ := hq
  exact ⟨hf.ok, _, _, _, by simp only [Way.leftLn, PV.scrub], hk, CallT.lends _ _ _ hW hf.run hc1 hc2 rfl hs⟩

theorem CallK.fresh (hq : onSome (lendL h as) fun bs => CallQ P k bs [] fun x _ => Fr x ∧ (wayR d x).ok = true ∧
    KX (PV.scrub (wayR d x).killT some) (scrubO (wayR d x).killT some h) (x.scrub (Fren (wayR d x).outT) (fun _ => none))) : CallK P k as h d KX t := by
  obtain ⟨bs, hl, hq⟩ := onSome_iff.1 hq
  obtain ⟨h0, x, h1, hf, hs, hr, hW, hk⟩ := hq
  match h0, hs with
  | [], _ => exact ⟨hf.ok, _, _, _, by simp only [PV.scrub], hk, CallT.fresh _ hW (hf.run.mono fun _ _ h => h.1) hl hr⟩
  | (i, x) :: l, hs => exact absurd hs.1 (by simp [getO])

theorem CallK.reads (hq : onSome (lendL h as) fun bs => CallQ P k bs [] fun x _ => Plain x ∧ KX (fun x => x) h x) : CallK P k as h d KX t := by
  obtain ⟨bs, hl, hq⟩ := onSome_iff.1 hq
  obtain ⟨h0, x, h1, hf, hs, hr, hk⟩ := hq
  match h0, hs with
  | [], _ => exact ⟨hf.ok, fun x => x, _, _, rfl, hk, CallT.read (hf.run.mono fun _ _ h => h.1) hl hr⟩
  | (i, x) :: l, hs => exact absurd hs.1 (by simp [getO])
end

/-- A state that says no more than another one. -/
def subS (S s : St) : Prop := S.nt = s.nt ∧ subR S.regs s.regs ∧ subW S.heap s.heap

theorem subR_sim {R r : List (Nat × PV)} (hs : subR R r) {g : G} {w : World} {a : Act} (hh : RegSim g w r a) : RegSim g w R a := by
  induction R with
  | nil => intro s; exact .dead _
  | cons c l ih =>
    obtain ⟨k, x⟩ := c
    intro s
    simp only [getR]
    by_cases e : k = s
    · rw [if_pos e]; subst e; exact hs.1.rep (hh k)
    · rw [if_neg e]; exact ih hs.2 s
theorem subS_sim {S s : St} (h : subS S s) {g : G} {a : Act} {w : World} (hs : Sim g s a w) : Sim g S a w :=
  ⟨subR_sim h.2.1 hs.regs, hs.nt.trans h.1.symm, subW_sim h.2.2 hs.heap⟩

theorem Tr.sub {P : Program} {r : Option Nat} {c : Code} {S s : St} {Q : Exit → St → Prop} (hs : subS S s) (h : Tr P r c S Q) : Tr P r c s Q :=
  fun g a w h1 h2 => h g a w (subS_sim hs h1) h2

/-- A LOOP: 'S x' is the state at a round's head; each round leads to another head, below it, or out. -/
theorem Tr.loopS {P : Program} {r : Option Nat} {st : St} {Q : Exit → St → Prop} {α : Type} {c : Code} (S : α → St) (m : α → Nat) (x0 : α) (h0 : subS (S x0) st)
    (hr : ∀ x, Tr P r c (S x) fun e s => match e with
      | .normal => ∃ y, m y < m x ∧ subS (S y) s
      | e => Q e s) : Tr P r (.loop c) st Q := by
  intro g a w hs hw
  have h00 : Sim g (S x0) a w := subS_sim h0 hs
  let N : Nat → Act → World → Prop := fun n a1 w1 => ∃ x g1, m x = n ∧ Sim g1 (S x) a1 w1 ∧ WF g1 w1 ∧ Ext g w g1 w1 ∧ Coll w.heap.size g1 w1 a.defers a1.defers
  classical
  let μ : Act → World → Nat := fun a1 w1 => if h : ∃ n, N n a1 w1 then Classical.choose (least h) else 0
  have hμ : ∀ n a1 w1, N n a1 w1 → μ a1 w1 ≤ n := fun n a1 w1 hn => by
    have h : ∃ n, N n a1 w1 := ⟨n, hn⟩
    show (if h : ∃ n, N n a1 w1 then Classical.choose (least h) else 0) ≤ n
    rw [dif_pos h]; exact (Classical.choose_spec (least h)).2 n hn
  have hN : ∀ a1 w1, (∃ n, N n a1 w1) → N (μ a1 w1) a1 w1 := fun a1 w1 h => by
    show N (if h : ∃ n, N n a1 w1 then Classical.choose (least h) else 0) a1 w1
    rw [dif_pos h]; exact (Classical.choose_spec (least h)).1
  refine wpIn_loop (fun a1 w1 => ∃ n, N n a1 w1) μ ⟨m x0, x0, g, rfl, h00, hw, Ext.refl g w, .same rfl⟩ ?_
  intro a1 w1 hn
  obtain ⟨x, g1, hx, hs1, hw1, he1, hd1⟩ := hN a1 w1 hn
  refine wpIn_mono (hr x g1 a1 w1 hs1 hw1) fun e a2 w2 hp => ?_
  obtain ⟨g2, st2, hq2, hs2, hw2, he2, hd2⟩ := hp
  cases e with
  | normal =>
    obtain ⟨y, hy, hS⟩ := hq2
    have hny : N (m y) a2 w2 := ⟨y, g2, rfl, subS_sim hS hs2, hw2, he1.trans he2, hd1.trans he1.size he2 hd2⟩
    exact ⟨⟨m y, hny⟩, Nat.lt_of_le_of_lt (hμ _ _ _ hny) (hx ▸ hy)⟩
  | exit id => exact ⟨g2, st2, hq2, hs2, hw2, he1.trans he2, hd1.trans he1.size he2 hd2⟩
  | goto t => exact ⟨g2, st2, hq2, hs2, hw2, he1.trans he2, hd1.trans he1.size he2 hd2⟩
  | ret => exact ⟨g2, st2, hq2, hs2, hw2, he1.trans he2, hd1.trans he1.size he2 hd2⟩
  | panic t => exact ⟨g2, st2, hq2, hs2, hw2, he1.trans he2, hd1.trans he1.size he2 hd2⟩
  | outgrown => exact ⟨g2, st2, hq2, hs2, hw2, he1.trans he2, hd1.trans he1.size he2 hd2⟩

/-- Another head, below. -/
def NextK {β : Type} (I : β → Prop) (S : β → St) (m : β → Nat) (n : Nat) (s : St) (_ : Tag (I, S, m, n) := .mk) : Prop := ∃ y, I y ∧ m y < n ∧ subS (S y) s
theorem NextK.mk {β : Type} {I : β → Prop} {S : β → St} {m : β → Nat} {n : Nat} {s : St} {u : Tag (I, S, m, n)} (y : β) (h1 : I y) (h2 : m y < n) (h3 : subS (S y) s) : NextK I S m n s u := ⟨y, h1, h2, h3⟩

/-- What is asked behind a round: 'I' holds at the next head, 'm' is less there. -/
def roundK {β : Type} (I : β → Prop) (S : β → St) (m : β → Nat) (n : Nat) (Q : Exit → St → Prop) : Exit → St → Prop
  | .normal, s => ∃ y, I y ∧ m y < n ∧ subS (S y) s
  | e, s => Q e s

theorem LpK.mk {P : Program} (E : List (Spec P)) {sc : List (Nat × Sch)} {r : Option Nat} {st : St} {Q : Exit → St → Prop} {t : Tag Q} (hm : P.follows .mixedOrders = true) {β : Type} {c : Code} (I : β → Prop) (S : β → St) (m : β → Nat) (x0 : β) (hI : I x0) (h0 : subS (S x0) st)
    (hr : ∀ x, I x → pwC P E sc r c (S x) (roundK I S m (m x) Q)) : LpK P sc r c st Q t := fun hc => Tr.loopS (α := { x // I x }) (fun x => S x.1) (fun x => m x.1) ⟨x0, hI⟩ h0 fun x => Tr.mono (pwC_ok hm c (by simpa only [schOK] using hc) (hr x.1 x.2)) fun e s h => by
      cases e with
      | normal => obtain ⟨y, h1, h2, h3⟩ := h; exact ⟨⟨y, h1⟩, h2, h3⟩
      | _ => exact h

/-- What is asked at a function's end. -/
def retK (P : Program) (rs : List ResultVar) (X : PV) (H : List (Nat × Ob)) : Exit → St → Prop
  | .normal, s => onSome (resPV P s rs) fun xs => Weak (retPV xs) X ∧ subW H s.heap
  | .ret, s => onSome (resPV P s rs) fun xs => Weak (retPV xs) X ∧ subW H s.heap
  | _, _ => False
@[simp ↓] theorem retK_normal (P : Program) (rs : List ResultVar) (X : PV) (H : List (Nat × Ob)) (s : St) : retK P rs X H .normal s = onSome (resPV P s rs) fun xs => Weak (retPV xs) X ∧ subW H s.heap := (rfl)
@[simp ↓] theorem retK_ret (P : Program) (rs : List ResultVar) (X : PV) (H : List (Nat × Ob)) (s : St) : retK P rs X H .ret s = onSome (resPV P s rs) fun xs => Weak (retPV xs) X ∧ subW H s.heap := (rfl)

/-- The contract of a function, by its code. -/
theorem Fc.of {P : Program} (E : List (Spec P)) (sc : List (Nat × Sch)) {f : FuncId} {fn : Func} {c : Code} {args : List PV} {h : List (Nat × Ob)} {X : PV} {H : List (Nat × Ob)} (hm : P.follows .mixedOrders = true) (hf : P.funcs[f]? = some fn) (hb : fn.body = some c) (hc : schOK P sc c = true) (hn : args.length ≤ fn.ntmps) (hnm : fn.name ≠ "runtime.NumGoroutine")
    (ht : pwC P E sc none c ⟨argR 0 args, h, fn.ntmps⟩ (retK P fn.results.toList X H)) : Fc P f args h X H := by
  refine ⟨fun args w => by simp [callFunc, hf, hb, hnm], ?_⟩
  refine TrC.sub ?_
  refine TrC.intro (R := fun x h' => Weak x X ∧ subW H h') hf hb hn (Tr.mono (pwC_ok hm c hc ht) ?_)
  intro e s h
  cases e with
  | normal => have h : onSome (resPV P s fn.results.toList) fun xs => Weak (retPV xs) X ∧ subW H s.heap := h; exact onSome_iff.1 h
  | ret => have h : onSome (resPV P s fn.results.toList) fun xs => Weak (retPV xs) X ∧ subW H s.heap := h; exact onSome_iff.1 h
  | _ => exact h
section
variable {P : Program} {k : FuncId} {d : Option Tmp} {h : List (Nat × Ob)} {KX : (PV → PV) → List (Nat × Ob) → PV → Prop}
@[simp ↓] theorem anyS_k : (anyS P k).k = k := (rfl)
@[simp ↓] theorem anyS_pre {as : List PV} : (anyS P k).pre as h d KX = CallK P k as h d KX := (rfl)
@[simp ↓] theorem anys_nil : anys P [] = [] := (rfl)
@[simp ↓] theorem anys_cons {l : List FuncId} : anys P (k :: l) = anyS P k :: anys P l := (rfl)
@[congr] theorem CallK_congr {as as' : List PV} {h h' : List (Nat × Ob)} {t : Tag KX} (h1 : as = as') (h2 : h = h') : CallK P k as h d KX t = CallK P k as' h' d KX t := by rw [h1, h2]
@[congr] theorem CallQ_congr {KQ : PV → List (Nat × Ob) → Prop} {as as' : List PV} {h h' : List (Nat × Ob)} {t : Tag KQ} (h1 : as = as') (h2 : h = h') : CallQ P k as h KQ t = CallQ P k as' h' KQ t := by rw [h1, h2]
@[simp ↓] theorem getR_mapS (F : Own → Option Own) (p : Nat → Option Nat) (rs : List (Nat × PV)) (s : Nat) : getR (mapR (PV.scrub F p) rs) s = PV.scrub F p (getR rs s) := getR_mapR (by simp only [PV.scrub]) rs s
@[simp ↓] theorem getR_mapW (W : Way) (ts : List Tk) (rs : List (Nat × PV)) (s : Nat) : getR (mapR (W.left ts) rs) s = W.left ts (getR rs s) := getR_mapR (by simp only [Way.left, PV.scrub]) rs s
@[simp ↓] theorem getR_mapL (W : Way) (ts fs : List Tk) (rs : List (Nat × PV)) (s : Nat) : getR (mapR (W.leftLn ts fs) rs) s = W.leftLn ts fs (getR rs s) := getR_mapR (by simp only [Way.leftLn, PV.scrub]) rs s
@[simp] theorem scrub_mk (F : Own → Option Own) (p : Nat → Option Nat) (rs : List (Nat × PV)) (n : Nat) : (St.mk rs h n).scrub F p = ⟨mapR (PV.scrub F p) rs, scrubO F p h, n⟩ := by simp only [St.scrub, scrubR_eq]
@[simp ↓] theorem roundK_normal {β : Type} (I : β → Prop) (S : β → St) (m : β → Nat) (n : Nat) (Q : Exit → St → Prop) (s : St) : roundK I S m n Q .normal s = NextK I S m n s := (rfl)
@[congr] theorem NextK_congr {β : Type} {I : β → Prop} {S : β → St} {m : β → Nat} {n : Nat} {u : Tag (I, S, m, n)} {s s' : St} (h : s = s') : NextK I S m n s u = NextK I S m n s' u := by rw [h]
@[simp ↓] theorem roundK_ret {β : Type} (I : β → Prop) (S : β → St) (m : β → Nat) (n : Nat) (Q : Exit → St → Prop) (s : St) : roundK I S m n Q .ret s = Q .ret s := (rfl)
@[simp ↓] theorem roundK_exit {β : Type} (I : β → Prop) (S : β → St) (m : β → Nat) (n : Nat) (Q : Exit → St → Prop) (i : Nat) (s : St) : roundK I S m n Q (.exit i) s = Q (.exit i) s := (rfl)
theorem weakL_refl (xs : List PV) : weakL xs xs := by
  induction xs with
  | nil => trivial
  | cons x xs ih => exact ⟨.inl rfl, ih⟩
@[simp ↓] theorem weakL_same (xs : List PV) : weakL xs xs = True := eq_true (weakL_refl xs)
theorem plain_tup {xs : List PV} : Plain (.tup xs) ↔ ∀ x, x ∈ xs → ∃ v, x = .lit v := ⟨fun h => by cases h; assumption, .tup xs⟩
theorem plain_agg {xs : List PV} : Plain (.agg xs) ↔ ∀ x, x ∈ xs → ∃ v, x = .lit v := ⟨fun h => by cases h; assumption, .agg xs⟩
end
attribute [simp] Ob.clean cleanO restT Way.argLn Way.heapLn Way.leftLn Way.resLn Way.heapOutLn Flnd Fnot Way.Fall Own.isRd toksO rowsOf newIds wayX wayR nodupO subR subS

/-- The range over a function in some code. -/
def rfOf : Code → Option (Array Tmp × Code × Code)
  | .rangeFunc _ ps x y => some (ps, x, y)
  | .seq x y => match rfOf x with
    | some q => some q
    | none => rfOf y
  | .cond _ x y => match rfOf x with
    | some q => some q
    | none => rfOf y
  | .block _ x => rfOf x
  | .loop x => rfOf x
  | .scope x => rfOf x
  | _ => none

theorem HeapSim.lessLoop {lid : Nat} {rs rs0 : List (Nat × PV)} {n : Nat} {cd : Array Tmp × Code × Code} {s : LoopState} {j : Option Code} {h : List (Nat × Ob)} (hs : subR rs rs0) {g : G} {w : World} (hh : HeapSim g w ((lid, .loop rs0 n cd s j) :: h)) : HeapSim g w ((lid, .loop rs n cd s j) :: h) := by
  intro id ob ho
  simp only [getO] at ho
  split at ho
  · rename_i e
    cases ho
    subst e
    obtain ⟨a1, fn, tmps, df, a2, a3, a4⟩ := hh lid (.loop rs0 n cd s j) (by simp [getO])
    exact ⟨a1, fn, tmps, df, a2, a3, subR_rep hs a4⟩
  · rename_i e
    exact hh id ob (by simp only [getO]; rw [if_neg e]; exact ho)

theorem RfK.mk {P : Program} {sc : List (Nat × Sch)} {f : Operand} {ps : Array Tmp} {x y : Code} {st : St} {Q : Exit → St → Prop} {t : Tag Q} (lid : Nat) (cd : Array Tmp × Code × Code) (rs : List (Nat × PV)) {k : FuncId} {first cap : List PV} (hcd : cd = (ps, x, y)) (hf : st.ev f = .fn (.func k) first cap) (hlid : lid < 100000)
    (hrs : subR rs (st.off lid).regs)
    (hk : CallK P k (PV.scrubL (Fren (offTk lid)) (offId lid) first ++ [.yl lid] ++ PV.scrubL (Fren (offTk lid)) (offId lid) cap) ((lid, .loop rs st.nt cd .ready none) :: (st.off lid).heap) none
      fun T h' _ => T (.yl lid) = .yl lid ∧ onLoop (getO h' lid) fun _ _ _ s j => s ≠ .busy ∧ jumpK Q ⟨mapR T (st.off lid).regs, delO h' lid, st.nt⟩ j) : RfK P sc none f ps x y st Q t := by
  intro _
  subst hcd
  obtain ⟨hcall, T, h', z, hT, ⟨hTy, hq⟩, hok⟩ := hk
  exact Tr.rangeFunc hf hlid hcall hT hTy hq fun g w vs hh hw ha => hok g w vs (hh.lessLoop hrs) hw ha

/-- Behind what comes in to a round: its body. -/
def yieldB (P : Program) (E : List (Spec P)) (sc : List (Nat × Sch)) (r : Option Nat) (st : St) (id gid n : Nat) (vals : Array Value) (cd : Array Tmp × Code × Code) (y : Code) (dst : Option Tmp) (K : St → Prop) : Exit → St → Prop
  | .normal, s => onLoop (getO s.heap id) fun rs' n' cd' s' j' => (s' = .ready ∧ j' = none ∧ n' = n ∧ cd' = cd) ∧
      pwC P E sc r y ⟨s.regs, setO s.heap id (.loop rs' n cd .busy none), s.nt⟩ (yieldQ st id gid n vals cd dst K)
  | _, _ => False

theorem YlK.mk {P : Program} (E : List (Spec P)) (sc : List (Nat × Sch)) {id : Nat} {vs : List PV} {st : St} {dst : Option Tmp} {K : St → Prop} {t : Tag K} (hm : P.follows .mixedOrders = true) (gid : Nat) {rs : List (Nat × PV)} {n : Nat} {cd : Array Tmp × Code × Code} {ps : Array Tmp} {x y : Code}
    (hg : getO st.heap id = some (.loop rs n cd .ready none)) (hcd : cd = (ps, x, y)) (hc : (schOK P sc x && schOK P sc y) = true) (hp : ps.size = vs.length) (hid : 100000 ≤ id) (hgid : getO st.heap gid = none)
    (hr : ∀ r vals, pwC P E sc r x ⟨setRs n ps.toList vs rs, (gid, .ghost st.regs vals) :: st.heap, n⟩ (yieldB P E sc r st id gid n vals cd y dst K)) : YlK P id vs st dst K t := by
  simp only [Bool.and_eq_true] at hc
  refine onLoop_iff.2 ⟨rs, n, cd, .ready, none, hg, ⟨rfl, rfl, by rw [hcd]; exact hp, hid⟩, gid, hgid, fun r vals => ?_⟩
  subst hcd
  refine Tr.mono (pwC_ok hm x hc.1 (hr r vals)) fun e s h => ?_
  cases e with
  | normal =>
    obtain ⟨rs', n', cd', s', j', h1, h2, h3⟩ := onLoop_iff.1 h
    exact onLoop_iff.2 ⟨rs', n', cd', s', j', h1, h2, pwC_ok hm y hc.2 h3⟩
  | _ => exact h.elim

section
variable {P : Program} {E : List (Spec P)} {sc : List (Nat × Sch)} {r : Option Nat} {st : St} {id gid n : Nat} {vals : Array Value} {cd : Array Tmp × Code × Code} {y : Code} {dst : Option Tmp} {K : St → Prop} {s : St}
@[simp ↓] theorem yieldB_normal : yieldB P E sc r st id gid n vals cd y dst K .normal s = onLoop (getO s.heap id) fun rs' n' cd' s' j' => (s' = .ready ∧ j' = none ∧ n' = n ∧ cd' = cd) ∧
      pwC P E sc r y ⟨s.regs, setO s.heap id (.loop rs' n cd .busy none), s.nt⟩ (yieldQ st id gid n vals cd dst K) := (rfl)
@[simp ↓] theorem yieldQ_normal : yieldQ st id gid n vals cd dst K .normal s = yieldE st id gid n vals cd dst K none s := (rfl)
@[simp ↓] theorem yieldQ_exit (i : Nat) : yieldQ st id gid n vals cd dst K (.exit i) s = yieldE st id gid n vals cd dst K (some (.exit i)) s := (rfl)
@[simp ↓] theorem yieldQ_ret : yieldQ st id gid n vals cd dst K .ret s = yieldE st id gid n vals cd dst K (some .ret) s := (rfl)
@[simp] theorem onLoop_loop (rs : List (Nat × PV)) (n : Nat) (cd : Array Tmp × Code × Code) (s : LoopState) (j : Option Code) (f : List (Nat × PV) → Nat → (Array Tmp × Code × Code) → LoopState → Option Code → Prop) : onLoop (some (.loop rs n cd s j)) f = f rs n cd s j := (rfl)
@[simp] theorem onGhost_ghost (rs : List (Nat × PV)) (vs : Array Value) (f : List (Nat × PV) → Array Value → Prop) : onGhost (some (.ghost rs vs)) f = f rs vs := (rfl)
@[simp] theorem jumpK_none {Q : Exit → St → Prop} : jumpK Q s none = Q .normal s := (rfl)
@[simp] theorem jumpK_ret {Q : Exit → St → Prop} : jumpK Q s (some .ret) = Q .ret s := (rfl)
@[simp] theorem jumpK_exit {Q : Exit → St → Prop} (i : Nat) : jumpK Q s (some (.exit i)) = Q (.exit i) s := (rfl)
end
@[simp] theorem scrubR_nil (F : Own → Option Own) (p : Nat → Option Nat) : scrubR F p [] = [] := (rfl)
@[simp] theorem scrubR_cons (F : Own → Option Own) (p : Nat → Option Nat) (k : Nat) (x : PV) (l : List (Nat × PV)) : scrubR F p ((k, x) :: l) = (k, x.scrub F p) :: scrubR F p l := (rfl)
attribute [simp] delO setRs yieldE
end Go.Sy

/-! Loops at whose heads rows are frozen. -/
namespace Go.Sy
theorem Post.fz {g : G} {w : World} {ds : List Deferred} {Q' Q : Exit → St → Prop} (hq : ∀ e s, Q' e s → ∃ ts, Q e (s.fz ts)) {e : Exit} {a : Act} {w' : World} (h : Post g w ds Q' e a w') : Post g w ds Q e a w' := by
  obtain ⟨g1, st1, hq1, s1, w1, x1, c1⟩ := h
  obtain ⟨ts, hq2⟩ := hq _ _ hq1
  obtain ⟨g2, s2, w2, x2, _⟩ := s1.fzL w1 ts
  exact ⟨g2, _, hq2, s2, w2, x1.trans x2, c1.trans x1.size x2 (.same rfl)⟩
theorem Tr.monoF {P : Program} {r : Option Nat} {c : Code} {st : St} {Q' Q : Exit → St → Prop} (h : Tr P r c st Q') (hq : ∀ e s, Q' e s → ∃ ts, Q e (s.fz ts)) : Tr P r c st Q :=
  fun g a w h1 h2 => wpIn_mono (h g a w h1 h2) fun _ _ _ hp => hp.fz hq
theorem Tr.fz {P : Program} {r : Option Nat} {c : Code} {st : St} {Q : Exit → St → Prop} (ts : List Tk) (h : Tr P r c (st.fz ts) Q) : Tr P r c st Q := by
  intro g a w h1 h2
  obtain ⟨g1, s1, w1, x1, _⟩ := h1.fzL h2 ts
  refine wpIn_mono (h g1 a w s1 w1) fun e a' w' hp => ?_
  obtain ⟨g2, st2, hq, s2, w2, x2, c2⟩ := hp
  exact ⟨g2, st2, hq, s2, w2, x1.trans x2, c2⟩
/-- Another head, below, some rows frozen. -/
def NextF {β : Type} (I : β → Prop) (S : β → St) (m : β → Nat) (n : Nat) (s : St) (_ : Tag (I, S, m, n) := .mk) : Prop := ∃ ts y, I y ∧ m y < n ∧ subS (S y) (s.fz ts)
theorem NextF.mk {β : Type} {I : β → Prop} {S : β → St} {m : β → Nat} {n : Nat} {s : St} {u : Tag (I, S, m, n)} (ts : List Tk) (y : β) (h1 : I y) (h2 : m y < n) (h3 : subS (S y) (s.fz ts)) : NextF I S m n s u := ⟨ts, y, h1, h2, h3⟩
def roundF {β : Type} (I : β → Prop) (S : β → St) (m : β → Nat) (n : Nat) (Q : Exit → St → Prop) : Exit → St → Prop
  | .normal, s => NextF I S m n s
  | e, s => Q e s
theorem LpK.mkF {P : Program} (E : List (Spec P)) {sc : List (Nat × Sch)} {r : Option Nat} {st : St} {Q : Exit → St → Prop} {t : Tag Q} (hm : P.follows .mixedOrders = true) {β : Type} {c : Code} (ts : List Tk) (I : β → Prop) (S : β → St) (m : β → Nat) (x0 : β) (hI : I x0) (h0 : subS (S x0) (st.fz ts))
    (hr : ∀ x, I x → pwC P E sc r c (S x) (roundF I S m (m x) Q)) : LpK P sc r c st Q t := fun hc => Tr.fz ts <| Tr.loopS (α := { x // I x }) (fun x => S x.1) (fun x => m x.1) ⟨x0, hI⟩ h0 fun x => Tr.monoF (pwC_ok hm c (by simpa only [schOK] using hc) (hr x.1 x.2)) fun e s h => by
      cases e with
      | normal => obtain ⟨ts, y, h1, h2, h3⟩ := h; exact ⟨ts, ⟨y, h1⟩, h2, h3⟩
      | _ => exact ⟨[], h⟩
@[simp ↓] theorem roundF_normal {β : Type} (I : β → Prop) (S : β → St) (m : β → Nat) (n : Nat) (Q : Exit → St → Prop) (s : St) : roundF I S m n Q .normal s = NextF I S m n s := (rfl)
@[congr] theorem NextF_congr {β : Type} {I : β → Prop} {S : β → St} {m : β → Nat} {n : Nat} {u : Tag (I, S, m, n)} {s s' : St} (h : s = s') : NextF I S m n s u = NextF I S m n s' u := by rw [h]
@[simp ↓] theorem roundF_ret {β : Type} (I : β → Prop) (S : β → St) (m : β → Nat) (n : Nat) (Q : Exit → St → Prop) (s : St) : roundF I S m n Q .ret s = Q .ret s := (rfl)
@[simp ↓] theorem roundF_exit {β : Type} (I : β → Prop) (S : β → St) (m : β → Nat) (n : Nat) (Q : Exit → St → Prop) (i : Nat) (s : St) : roundF I S m n Q (.exit i) s = Q (.exit i) s := (rfl)

/-- A row of one's own gets another name. -/
def moveTk (a b : Nat) (q : Tk) : Option Tk := if q = .loc a then some (.loc b) else if q = .loc b then none else some q
theorem inj_move (a b : Nat) : Inj (moveTk a b) some := by
  refine ⟨fun q r k h1 h2 => ?_, fun i j k h1 h2 => by cases h1; cases h2; rfl, fun q u h hw => by
    simp only [moveTk] at h
    split at h
    · rename_i e; subst e; cases hw
    · split at h
      · cases h
      · cases h; exact hw⟩
  simp only [moveTk] at h1 h2
  split at h1
  · rename_i e1
    cases h1
    split at h2
    · rename_i e2; rw [e1, e2]
    · split at h2
      · cases h2
      · rename_i e3; cases h2; exact absurd rfl e3
  · split at h1
    · cases h1
    · rename_i e1 e2
      cases h1
      split at h2
      · cases h2; exact absurd rfl e2
      · split at h2
        · cases h2
        · cases h2; rfl
inductive Adj where
  | fz (ts : List Tk)
  | mv (a b : Nat)
def St.adj1 (s : St) : Adj → St
  | .fz ts => s.fz ts
  | .mv a b => s.scrub (Fren (moveTk a b)) some
def St.adj (s : St) : List Adj → St
  | [] => s
  | a :: l => (s.adj1 a).adj l
theorem Sim.adj1 {g : G} {st : St} {a : Act} {w : World} (h : Sim g st a w) (hw : WF g w) (x : Adj) : ∃ g', Sim g' (st.adj1 x) a w ∧ WF g' w ∧ Ext g w g' w := by
  cases x with
  | fz ts => obtain ⟨g', h1, h2, h3, _⟩ := h.fzL hw ts; exact ⟨g', h1, h2, h3⟩
  | mv i j => exact ⟨_, h.ren (inj_move i j), hw.ren (inj_move i j), Ext.ren (inj_move i j) (fun _ _ => rfl) w⟩
theorem Sim.adj {a : Act} {w : World} : ∀ (l : List Adj) {g : G} {st : St}, Sim g st a w → WF g w → ∃ g', Sim g' (st.adj l) a w ∧ WF g' w ∧ Ext g w g' w
  | [], g, _, h, hw => ⟨g, h, hw, Ext.refl g w⟩
  | x :: l, g, st, h, hw => by
    obtain ⟨g1, s1, w1, x1⟩ := h.adj1 hw x
    obtain ⟨g2, s2, w2, x2⟩ := Sim.adj l s1 w1
    exact ⟨g2, s2, w2, x1.trans x2⟩
theorem Tr.adj {P : Program} {r : Option Nat} {c : Code} {st : St} {Q : Exit → St → Prop} (l : List Adj) (h : Tr P r c (st.adj l) Q) : Tr P r c st Q := by
  intro g a w h1 h2
  obtain ⟨g1, s1, w1, x1⟩ := Sim.adj l h1 h2
  refine wpIn_mono (h g1 a w s1 w1) fun e a' w' hp => ?_
  obtain ⟨g2, st2, hq, s2, w2, x2, c2⟩ := hp
  exact ⟨g2, st2, hq, s2, w2, x1.trans x2, c2⟩
theorem Tr.monoA {P : Program} {r : Option Nat} {c : Code} {st : St} {Q' Q : Exit → St → Prop} (h : Tr P r c st Q') (hq : ∀ e s, Q' e s → ∃ l, Q e (s.adj l)) : Tr P r c st Q :=
  fun g a w h1 h2 => wpIn_mono (h g a w h1 h2) fun e _ _ hp => by
    obtain ⟨g1, st1, hq1, s1, w1, x1, c1⟩ := hp
    obtain ⟨l, hq2⟩ := hq _ _ hq1
    obtain ⟨g2, s2, w2, x2⟩ := Sim.adj l s1 w1
    exact ⟨g2, _, hq2, s2, w2, x1.trans x2, c1.trans x1.size x2 (.same rfl)⟩
/-- Another head, below, some rows frozen, or under other names. -/
def NextA {β : Type} (I : β → Prop) (S : β → St) (m : β → Nat) (n : Nat) (s : St) (_ : Tag (I, S, m, n) := .mk) : Prop := ∃ l y, I y ∧ m y < n ∧ subS (S y) (s.adj l)
theorem NextA.mk {β : Type} {I : β → Prop} {S : β → St} {m : β → Nat} {n : Nat} {s : St} {u : Tag (I, S, m, n)} (l : List Adj) (y : β) (h1 : I y) (h2 : m y < n) (h3 : subS (S y) (s.adj l)) : NextA I S m n s u := ⟨l, y, h1, h2, h3⟩
def roundA {β : Type} (I : β → Prop) (S : β → St) (m : β → Nat) (n : Nat) (Q : Exit → St → Prop) : Exit → St → Prop
  | .normal, s => NextA I S m n s
  | e, s => Q e s
theorem LpK.mkA {P : Program} (E : List (Spec P)) {sc : List (Nat × Sch)} {r : Option Nat} {st : St} {Q : Exit → St → Prop} {t : Tag Q} (hm : P.follows .mixedOrders = true) {β : Type} {c : Code} (l : List Adj) (I : β → Prop) (S : β → St) (m : β → Nat) (x0 : β) (hI : I x0) (h0 : subS (S x0) (st.adj l))
    (hr : ∀ x, I x → pwC P E sc r c (S x) (roundA I S m (m x) Q)) : LpK P sc r c st Q t := fun hc => Tr.adj l <| Tr.loopS (α := { x // I x }) (fun x => S x.1) (fun x => m x.1) ⟨x0, hI⟩ h0 fun x => Tr.monoA (pwC_ok hm c (by simpa only [schOK] using hc) (hr x.1 x.2)) fun e s h => by
      cases e with
      | normal => obtain ⟨l, y, h1, h2, h3⟩ := h; exact ⟨l, ⟨y, h1⟩, h2, h3⟩
      | _ => exact ⟨[], h⟩
@[simp ↓] theorem roundA_normal {β : Type} (I : β → Prop) (S : β → St) (m : β → Nat) (n : Nat) (Q : Exit → St → Prop) (s : St) : roundA I S m n Q .normal s = NextA I S m n s := (rfl)
@[congr] theorem NextA_congr {β : Type} {I : β → Prop} {S : β → St} {m : β → Nat} {n : Nat} {u : Tag (I, S, m, n)} {s s' : St} (h : s = s') : NextA I S m n s u = NextA I S m n s' u := by rw [h]
@[simp ↓] theorem roundA_ret {β : Type} (I : β → Prop) (S : β → St) (m : β → Nat) (n : Nat) (Q : Exit → St → Prop) (s : St) : roundA I S m n Q .ret s = Q .ret s := (rfl)
@[simp ↓] theorem roundA_exit {β : Type} (I : β → Prop) (S : β → St) (m : β → Nat) (n : Nat) (Q : Exit → St → Prop) (i : Nat) (s : St) : roundA I S m n Q (.exit i) s = Q (.exit i) s := (rfl)
attribute [simp] moveTk St.adj1 St.adj
/-- What a call leaves may bear another name. -/
theorem Fc.mv {P : Program} {k : FuncId} {al : List PV} {h : List (Nat × Ob)} {x : PV} {h1 : List (Nat × Ob)} (hf : Fc P k al h x h1) (a b : Nat) : Fc P k al h (x.scrub (Fren (moveTk a b)) some) (scrubO (Fren (moveTk a b)) some h1) := by
  refine ⟨hf.ok, fun g w vs a1 a2 a3 => CallsIn.mono (hf.run g w vs a1 a2 a3) ?_⟩
  rintro e w' ⟨v, y, g', h', rfl, ⟨rfl, rfl⟩, b1, b2, b3, b4⟩
  have hs0 : Sim g' ⟨[], h', 0⟩ ⟨#[], []⟩ w' := ⟨fun s => by show Rep g' w' .dead _; exact .dead _, rfl, b2⟩
  exact ⟨v, _, _, _, rfl, ⟨rfl, rfl⟩, b1.scrub (Turns.ren (inj_move a b) w'), (hs0.ren (inj_move a b)).heap, b3.ren (inj_move a b), b4.trans (Ext.ren (inj_move a b) (fun _ _ => rfl) w')⟩
end Go.Sy

/-! More operations on plain values: numbers, bits, texts. -/
namespace Go.Sy

/-- A text's bytes as numbers. -/
def bs (b : ByteArray) : List Int := b.data.toList.map fun c => (c.toNat : Int)
def ofBs (l : List Int) : ByteArray := ⟨(l.map fun n => UInt8.ofNat n.toNat).toArray⟩
/-- Numbers that are bytes. -/
def InB (l : List Int) : Prop := ∀ x, x ∈ l → 0 ≤ x ∧ x < 256

theorem inB_bs (b : ByteArray) : InB (bs b) := by
  intro x hx
  simp only [bs, List.mem_map] at hx
  obtain ⟨c, _, rfl⟩ := hx
  have := c.toNat_lt
  omega
theorem ofBs_bs (b : ByteArray) : ofBs (bs b) = b := by
  obtain ⟨d⟩ := b
  simp [ofBs, bs, Function.comp_def]
theorem bs_ofBs {l : List Int} (h : InB l) : bs (ofBs l) = l := by
  simp only [ofBs, bs, List.map_map]
  refine (List.map_congr_left fun x hx => ?_).trans (List.map_id l)
  have := h x hx
  simp only [Function.comp, id, UInt8.toNat_ofNat']
  omega
theorem bs_inj {a b : ByteArray} : bs a = bs b ↔ a = b := ⟨fun h => by rw [← ofBs_bs a, h, ofBs_bs], fun h => h ▸ rfl⟩
theorem bs_length (b : ByteArray) : (bs b).length = b.size := by simp [bs]
@[simp] theorem bs_length' (b : ByteArray) : ((bs b).length : Int) = b.size := by rw [bs_length]
@[simp] theorem bs_fold (b : ByteArray) : (b.data.toList.map fun c => PV.lit (.int .u8 (c.toNat : Int))) = u8s (bs b) := by simp [bs, ints, Function.comp_def]
theorem strOf_u8s (l : List Int) : strOf (u8s l) = ofBs l := by simp [strOf, ofBs, ints, byteOf, Function.comp_def]
theorem isByte_u8s {l : List Int} (h : InB l) : (u8s l).all isByte = true := by
  simp only [ints, List.all_map, List.all_eq_true, Function.comp, isByte, Bool.and_eq_true, decide_eq_true_eq]
  exact h

def iand (k : IntKind) (a b : Int) : Int := k.wrap (BitVec.ofInt k.bits a &&& BitVec.ofInt k.bits b).toNat
def ior (k : IntKind) (a b : Int) : Int := k.wrap (BitVec.ofInt k.bits a ||| BitVec.ofInt k.bits b).toNat
def ixor (k : IntKind) (a b : Int) : Int := k.wrap (BitVec.ofInt k.bits a ^^^ BitVec.ofInt k.bits b).toNat
def inot (k : IntKind) (a : Int) : Int := ixor k (if k.signed then -1 else k.max) a
def ishl (k : IntKind) (a b : Int) : Int := k.wrap (a * 2 ^ (min b.toNat k.bits))
def ishr (k : IntKind) (a b : Int) : Int := a.fdiv (2 ^ (min b.toNat k.bits))
def iquo (k : IntKind) (a b : Int) : Int := k.wrap (a.tdiv b)

section
variable {P : Program} {t : TypeId} {x y : Operand} {op : BinOp} {k k' : IntKind} {a b : Int}
@[simp] theorem bin_ptr_nil (i o : Nat) : binPV P op t x y (.ptr i o) (.lit (.pointer none)) = match P.underlying t, op with
    | some (.pointer _), .eql => some (.lit (.bool false))
    | some (.pointer _), .neq => some (.lit (.bool true))
    | _, _ => none := (rfl)
@[simp] theorem bin_sl_nil (o o' : Own) (nl : Bool) (s s' : Nat) (xs : List PV) : binPV P op t x y (.sl o nl s xs) (.sl o' true s' []) = match P.underlying t, op with
    | some (.slice _), .eql => some (.lit (.bool nl))
    | some (.slice _), .neq => some (.lit (.bool (!nl)))
    | _, _ => none := (rfl)
theorem pureOf_pure {α : Type} (v : α) : pureOf P (pure v) = some v := (rfl)
theorem underlying_bind {α : Type} {u : TypeDesc} (ht : P.underlying t = some u) (f : TypeDesc → Sem α) : pureOf P (underlying t >>= f) = pureOf P (f u) := by
  rw [pureOf_bind]
  have : pureOf P (underlying t) = some u := by
    have e : pureOf P (underlying t) = pureOf P (match P.underlying t with | some d => (pure d : Sem TypeDesc) | none => stuck "no such type") := rfl
    rw [e, ht]; rfl
  rw [this]; rfl
theorem equal_bool (ht : P.underlying t = some .bool) (p q : Bool) : pureOf P (Op.equal t (.bool p) (.bool q)) = some (p == q) := by
  have : ∀ d, pureOf P (Op.equalIn (d + 1) t (.bool p) (.bool q)) = some (p == q) := fun d => by
    unfold Op.equalIn
    rw [underlying_bind ht]; rfl
  exact this 9999
theorem equal_nilp {e : TypeId} (ht : P.underlying t = some (.pointer e)) : pureOf P (Op.equal t (.pointer none) (.pointer none)) = some true := by
  have : ∀ d, pureOf P (Op.equalIn (d + 1) t (.pointer none) (.pointer none)) = some true := fun d => by
    unfold Op.equalIn
    rw [underlying_bind ht]; rfl
  exact this 9999
theorem bin_eql_of {p q : Value} {r : Bool} (hp : binPV P .eql t x y (.lit p) (.lit q) = (pureOf P (do eqGuard .eql t x y p q; binOp .eql t p q)).map .lit) (hg : eqGuard .eql t x y p q = pure ()) (hb : binOp .eql t p q = do pure (.bool (← Op.equal t p q)))
    (h : pureOf P (Op.equal t p q) = some r) : binPV P .eql t x y (.lit p) (.lit q) = some (.lit (.bool r)) := by
  rw [hp, hg, hb, pureOf_bind, pureOf_bind, h]; rfl
theorem bin_neq_of {p q : Value} {r : Bool} (hp : binPV P .neq t x y (.lit p) (.lit q) = (pureOf P (do eqGuard .neq t x y p q; binOp .neq t p q)).map .lit) (hg : eqGuard .neq t x y p q = pure ()) (hb : binOp .neq t p q = do pure (.bool (!(← Op.equal t p q))))
    (h : pureOf P (Op.equal t p q) = some r) : binPV P .neq t x y (.lit p) (.lit q) = some (.lit (.bool (!r))) := by
  rw [hp, hg, hb, pureOf_bind, pureOf_bind, h]; rfl
@[simp] theorem bin_eql_bool (ht : P.underlying t = some .bool) (p q : Bool) : binPV P .eql t x y (.lit (.bool p)) (.lit (.bool q)) = some (.lit (.bool (p == q))) := bin_eql_of rfl rfl rfl (equal_bool ht p q)
@[simp] theorem bin_neq_bool (ht : P.underlying t = some .bool) (p q : Bool) : binPV P .neq t x y (.lit (.bool p)) (.lit (.bool q)) = some (.lit (.bool (!(p == q)))) := bin_neq_of rfl rfl rfl (equal_bool ht p q)
@[simp] theorem bin_eql_nilp {e : TypeId} (ht : P.underlying t = some (.pointer e)) : binPV P .eql t x y (.lit (.pointer none)) (.lit (.pointer none)) = some (.lit (.bool true)) := bin_eql_of rfl rfl rfl (equal_nilp ht)
@[simp] theorem bin_neq_nilp {e : TypeId} (ht : P.underlying t = some (.pointer e)) : binPV P .neq t x y (.lit (.pointer none)) (.lit (.pointer none)) = some (.lit (.bool false)) := bin_neq_of rfl rfl rfl (equal_nilp ht)
theorem ba_eq (p q : ByteArray) : (p.toList == q.toList) = decide (p = q) := by
  rw [Bool.eq_iff_iff]
  simp only [beq_iff_eq, decide_eq_true_eq, ByteArray.toList_eq]
  refine ⟨fun h => ?_, fun h => by rw [h]⟩
  obtain ⟨p⟩ := p; obtain ⟨q⟩ := q
  simpa using h
@[simp] theorem bin_eql_str (p q : ByteArray) : binPV P .eql t x y (.lit (.string p)) (.lit (.string q)) = some (.lit (.bool (decide (p = q)))) := by
  simp [binPV, valOf, eqGuard, binOp, Op.stringOp, pureOf_pure, ba_eq]
@[simp] theorem bin_neq_str (p q : ByteArray) : binPV P .neq t x y (.lit (.string p)) (.lit (.string q)) = some (.lit (.bool (!decide (p = q)))) := by
  simp [binPV, valOf, eqGuard, binOp, Op.stringOp, pureOf_pure, ba_eq]
@[simp] theorem bin_and : binPV P .and t x y (.lit (.int k a)) (.lit (.int k b)) = some (.lit (.int k (iand k a b))) := by cases k <;> rfl
@[simp] theorem bin_or : binPV P .or t x y (.lit (.int k a)) (.lit (.int k b)) = some (.lit (.int k (ior k a b))) := by cases k <;> rfl
@[simp] theorem bin_xor : binPV P .xor t x y (.lit (.int k a)) (.lit (.int k b)) = some (.lit (.int k (ixor k a b))) := by cases k <;> rfl
@[simp] theorem bin_quo (h : b ≠ 0) : binPV P .quo t x y (.lit (.int k a)) (.lit (.int k b)) = some (.lit (.int k (iquo k a b))) := by
  simp [binPV, valOf, eqGuard, binOp, Op.intDiv, pureOf_pure, h, iquo]
@[simp] theorem bin_rem (h : b ≠ 0) : binPV P .rem t x y (.lit (.int k a)) (.lit (.int k b)) = some (.lit (.int k (a.tmod b))) := by
  simp [binPV, valOf, eqGuard, binOp, Op.intDiv, pureOf_pure, h]
@[simp] theorem bin_shl (h : 0 ≤ b) : binPV P .shl t x y (.lit (.int k a)) (.lit (.int k' b)) = some (.lit (.int k (ishl k a b))) := by
  have : ¬ b < 0 := by omega
  simp [binPV, valOf, eqGuard, binOp, Op.shift, pureOf_pure, this, ishl]
@[simp] theorem bin_shr (h : 0 ≤ b) : binPV P .shr t x y (.lit (.int k a)) (.lit (.int k' b)) = some (.lit (.int k (ishr k a b))) := by
  have : ¬ b < 0 := by omega
  simp [binPV, valOf, eqGuard, binOp, Op.shift, pureOf_pure, this, ishr]
@[simp] theorem un_not (p : Bool) : unPV P (Op.unary .not) (.lit (.bool p)) = some (.lit (.bool (!p))) := (rfl)
@[simp] theorem un_xor : unPV P (Op.unary .xor) (.lit (.int k a)) = some (.lit (.int k (inot k a))) := (rfl)
@[simp] theorem un_neg : unPV P (Op.unary .neg) (.lit (.int k a)) = some (.lit (.int k (k.wrap (0 - a)))) := (rfl)
/-- Numbers of another kind. -/
@[simp] theorem conv_int {s d : TypeId} (hs : ∀ e, P.underlying s ≠ some (.slice e)) {u : TypeDesc} (hs' : P.underlying s = some u) (hd : P.underlying d = some (.int k')) : convPV P s d (.lit (.int k a)) = some (.lit (.int k' (k'.wrap a))) := by
  unfold convPV
  rw [hs', hd]
  split
  · simp_all
  · simp_all
  · simp_all
  · rename_i h; simp only [Option.some.injEq] at h
    simp only [unPV, valOf]
    have e : pureOf P (convert s d (.int k a)) = some (.int k' (k'.wrap a)) := by
      unfold convert
      rw [underlying_bind hs', underlying_bind hd]
      cases u <;> rfl
    rw [e]; rfl
@[simp] theorem conv_str {s d : TypeId} (hs : P.underlying s = some .string) (hd : P.underlying d = some .string) (b : ByteArray) : convPV P s d (.lit (.string b)) = some (.lit (.string b)) := by
  unfold convPV
  rw [hs, hd]
  simp only [unPV, valOf]
  have e : pureOf P (convert s d (.string b)) = some (.string b) := by
    unfold convert
    rw [underlying_bind hs, underlying_bind hd]; rfl
  rw [e]; rfl
@[simp] theorem convK_str' {s t e : TypeId} {n : Nat} {b : ByteArray} {st : St} {K : St → Prop} (h : P.underlying t = some (.slice e)) : convK P s t (some n) st (.lit (.string b)) K = ((P.underlying s).isSome = true ∧ P.underlying e = some (.int .u8) ∧ b.size ≤ 140737488355328 ∧ n < 100000 ∧
        K ((st.off n).put (some n) (.sl (.own (.loc n)) false 1 (u8s (bs b))))) := by
  rw [convK_str h, bs_fold]
@[simp] theorem convK_slice' {s t e : TypeId} {d : Option Tmp} {st : St} {K : St → Prop} {n sz : Nat} {xs : List PV} (h : P.underlying t = some (.slice e)) : convK P s t d st (.sl (.own (.loc n)) false sz xs) K = (s = t ∧ P.underlying e = some (.int .u8) ∧ K (st.put d (.sl (.own (.loc n)) false sz xs))) := convK_slice h
@[simp] theorem convK_else' {s t : TypeId} {d : Option Tmp} {st : St} {K : St → Prop} {p : PV} (h : ∀ e, P.underlying t ≠ some (.slice e)) : convK P s t d st p K = onSome (convPV P s t p) fun r => K (st.put d r) := convK_else h
@[simp] theorem conv_bytes {s d e : TypeId} {o : Own} {nl : Bool} {l : List Int} (hs : P.underlying s = some (.slice e)) (hd : P.underlying d = some .string) (he : P.underlying e = some (.int .u8)) (hb : InB l) :
    convPV P s d (.sl o nl 1 (u8s l)) = some (.lit (.string (ofBs l))) := by
  simp only [convPV, hs, hd, he, isByte_u8s hb, strOf_u8s, if_true]
@[simp ↓] theorem inB_nil : InB [] = True := eq_true fun _ h => by simp at h
@[simp ↓] theorem inB_cons (x : Int) (l : List Int) : InB (x :: l) = ((0 ≤ x ∧ x < 256) ∧ InB l) := by simp [InB]
@[simp ↓] theorem inB_append (l m : List Int) : InB (l ++ m) = (InB l ∧ InB m) := by
  simp only [InB, List.mem_append, eq_iff_iff]
  exact ⟨fun h => ⟨fun x hx => h x (.inl hx), fun x hx => h x (.inr hx)⟩, fun h x hx => hx.elim (h.1 x) (h.2 x)⟩
theorem InB.take {l : List Int} (h : InB l) (n : Nat) : InB (l.take n) := fun x hx => h x (List.mem_of_mem_take hx)
theorem InB.drop {l : List Int} (h : InB l) (n : Nat) : InB (l.drop n) := fun x hx => h x (List.mem_of_mem_drop hx)
theorem ofBs_inj {l m : List Int} (hl : InB l) (hm : InB m) : ofBs l = ofBs m ↔ l = m := ⟨fun h => by rw [← bs_ofBs hl, h, bs_ofBs hm], fun h => h ▸ rfl⟩
end
attribute [simp] indexAddrPV
section
variable {s i m k : Nat} {xs : List PV} {x : PV} {t u : Tk}
@[simp ↓] theorem tailOf_imm : tailOf .imm s xs i x = .cur .imm x.comps := by unfold tailOf; rfl
@[simp ↓] theorem tailOf_vw : tailOf (.vw t) s xs i x = .cur (.vw t) x.comps := by unfold tailOf; rfl
@[simp ↓] theorem tailOf_cell {a b : Nat} : tailOf (.own (.cell a b)) s xs i x = .cur (.vw (.cell a b)) x.comps := by unfold tailOf; rfl
@[simp ↓] theorem tailOf_wk {a : Nat} : tailOf (.own (.wk a)) s xs i x = .cur (.vw (.wk a)) x.comps := by unfold tailOf; rfl
@[simp ↓] theorem tailOf_one : tailOf (.own (.loc m)) 1 xs i x = if (xs.all fun y => !y.isAgg) = true then .cur (.own (.loc m)) (xs.drop i) else .cur (.vw (.loc m)) x.comps := by unfold tailOf; rfl
@[simp ↓] theorem tailOf_more : tailOf (.own (.loc m)) (s + 2) xs i x = .cur (.vw (.loc m)) x.comps := by unfold tailOf; rfl
@[simp ↓] theorem tailOf_three : tailOf (.own (.loc m)) 3 xs i x = .cur (.vw (.loc m)) x.comps := by unfold tailOf; rfl
@[simp ↓] theorem ints_flat {κ : IntKind} {l : List Int} : ((ints κ l).all fun y => !y.isAgg) = true := by simp [ints, PV.isAgg]
@[simp ↓] theorem pokeV_lit {v : Value} : pokeV t k x (.lit v) = .lit v := by simp [pokeV, PV.scrub]
@[simp ↓] theorem pokeV_none : pokeV t k x .dead = .dead := pokeV_dead t k x
@[simp ↓] theorem pokeV_ptr {a b : Nat} : pokeV t k x (.ptr a b) = .ptr a b := by simp [pokeV, PV.scrub]
@[simp ↓] theorem pokeV_imm {nl : Bool} : pokeV t k x (.sl .imm nl s xs) = .sl .imm nl s xs := by simp [pokeV, PV.scrub, Fren]
@[simp ↓] theorem pokeV_vw {nl : Bool} : pokeV t k x (.sl (.vw u) nl s xs) = if u = t then .dead else .sl (.vw u) nl s xs := by
  by_cases h : u = t <;> simp [pokeV, PV.scrub, Fren, noTk, h]
@[simp ↓] theorem pokeV_own {nl : Bool} : pokeV t k x (.sl (.own u) nl 1 xs) = if u = t then .sl (.own u) nl 1 (pokeL k x xs) else .sl (.own u) nl 1 xs := (rfl)
@[simp ↓] theorem pokeV_cur {o : Own} : pokeV t k x (.cur o xs) = (PV.cur o xs).scrub (Fren (noTk t)) some := (rfl)
@[simp ↓] theorem pokeV_agg : pokeV t k x (.agg xs) = (PV.agg xs).scrub (Fren (noTk t)) some := (rfl)
@[simp ↓] theorem pokeV_tup : pokeV t k x (.tup xs) = (PV.tup xs).scrub (Fren (noTk t)) some := (rfl)
@[simp ↓] theorem pokeV_fn {f : Fn} {a b : List PV} : pokeV t k x (.fn f a b) = (PV.fn f a b).scrub (Fren (noTk t)) some := (rfl)
theorem pokeL_ints {κ : IntKind} {l : List Int} {n : Nat} {v : Int} (h : n < l.length) : pokeL (l.length - n) (.lit (.int κ v)) (ints κ l) = ints κ (l.set n v) := by
  rw [pokeL, ints_length, if_pos (by omega), show l.length - (l.length - n) = n by omega, ints, ints, List.map_set]
@[simp ↓] theorem getR_mapP (rs : List (Nat × PV)) (n : Nat) : getR (mapR (pokeV t k x) rs) n = pokeV t k x (getR rs n) := getR_mapR (pokeV_dead t k x) rs n
@[simp] theorem poke_mk {rs : List (Nat × PV)} {h : List (Nat × Ob)} {n : Nat} : (St.mk rs h n).poke t k x = ⟨mapR (pokeV t k x) rs, scrubO (Fren (noTk t)) some h, n⟩ := by simp only [St.poke, pokeR_eq]
end
@[simp] theorem roomOf_is {P : Program} {e : TypeId} : roomOf P e = bytesOf P e := (rfl)
@[simp] theorem makePV_is {P : Program} {t e : TypeId} {kl kc : IntKind} {n m : Int} {zs : List PV} (he : P.underlying t = some (.slice e)) (hz : zerosOf P e = some zs) : makePV P t (.lit (.int kl n)) (.lit (.int kc m)) =
    if zs.length = szOf P e ∧ szOf P e ≠ 0 ∧ 0 ≤ n ∧ n ≤ m ∧ m ≤ 9223372036854775807 ∧ (bytesOf P e : Int) * m ≤ 281474976710656 then
        match elemsOf P e n.toNat (reps n.toNat zs) with
        | some xs => if xs.length = n.toNat ∧ (xs.all (wideB (szOf P e))) = true then some (szOf P e, xs) else none
        | none => none
      else none := by
  unfold makePV
  rw [show elemOf P t = some e by simp [elemOf, he]]
  simp only [hz]; rfl
attribute [simp] noTk
section
variable {F : Own → Option Own} {p : Nat → Option Nat} {x y z : PV} {es : List (PV × PV)} {c : List Int} {P : Program} {kt : TypeId}
@[simp] theorem scrubM_nil : scrubM F p [] = [] := (rfl)
@[simp] theorem scrubM_cons : scrubM F p ((x, y) :: es) = (x.scrub F p, y.scrub F p) :: scrubM F p es := (rfl)
@[simp] theorem findC_nil : findC c [] = none := (rfl)
@[simp] theorem findC_cons : findC c ((x, y) :: es) = if keyC x = c then some 0 else (findC c es).map (· + 1) := by
  simp [findC, List.findIdx?_cons]
@[simp] theorem keysB_nil : keysB P kt [] = true := (rfl)
@[simp] theorem keysB_cons : keysB P kt ((x, y) :: es) = (keyB P kt x && keysB P kt es) := by simp [keysB]
@[simp] theorem scrubM_length : (scrubM F p es).length = es.length := by simp [scrubM]
@[simp] theorem putV_length {n : Nat} : (putV es n z).length = es.length := by simp [putV]
@[simp] theorem scrubM_append {fs : List (PV × PV)} : scrubM F p (es ++ fs) = scrubM F p es ++ scrubM F p fs := by simp [scrubM]
@[simp] theorem putV_zero : putV ((x, y) :: es) 0 z = (x, z) :: es := (rfl)
@[simp] theorem putV_succ {n : Nat} : putV ((x, y) :: es) (n + 1) z = (x, y) :: putV es n z := (rfl)
@[simp] theorem keysB_append {fs : List (PV × PV)} : keysB P kt (es ++ fs) = (keysB P kt es && keysB P kt fs) := by simp [keysB]
/-- Entries without rows of one's own stay. -/
theorem scrubM_data (hF : F .imm = some .imm) {q : Nat → Option Nat} : ∀ es : List (PV × PV), (∀ e, e ∈ es → e.1.scrub F q = e.1 ∧ e.2.scrub F q = e.2) → scrubM F q es = es
  | [], _ => rfl
  | e :: es, h => by
    have h1 := h e (by simp)
    have ih := scrubM_data hF (q := q) es fun e' he => h e' (by simp [he])
    simp only [scrubM, List.map_cons, h1.1, h1.2] at ih ⊢
    rw [ih]
end
@[simp] theorem atPV_ints {P : Program} {t : TypeId} {o : Own} {nl : Bool} {κ : IntKind} {l : List Int} :
    atPV P t (.sl o nl 1 (ints κ l)) = match P.underlying t with
      | some (.array n _) => if 0 < n ∧ n ≤ l.length then some (.cur o.part (ints κ (l.take n))) else none
      | _ => none := by
  unfold atPV
  cases P.underlying t with
  | none => rfl
  | some d => cases d with
    | array n e =>
      have e1 : ints κ (l.take n) = (ints κ l).take n := by simp
      have : ((ints κ l).take n).all (fun x => !x.isAgg) = true := by rw [← e1]; exact ints_flat
      simp only [ints_length, this, and_true, e1]
    | _ => rfl
@[simp] theorem scrubL_ints {F : Own → Option Own} {p : Nat → Option Nat} {κ : IntKind} {l : List Int} : PV.scrubL F p (ints κ l) = ints κ l := by
  simp [scrubL_eq, ints, PV.scrub, Function.comp_def]
@[simp] theorem ints_forall {κ : IntKind} {l : List Int} {p : PV → Prop} : (∀ x, x ∈ ints κ l → p x) ↔ ∀ n, n ∈ l → p (.lit (.int κ n)) := by simp [ints]
@[simp] theorem viewL_ints {κ : IntKind} {l : List Int} : PV.viewL (ints κ l) = ints κ l := by
  induction l with
  | nil => rfl
  | cons a l ih => simp only [ints, List.map_cons, PV.viewL] at ih ⊢; rw [ih]; rfl
@[simp] theorem noOwn_ints {κ : IntKind} {l : List Int} : noOwn (ints κ l) = true := by
  induction l with
  | nil => rfl
  | cons a l ih => simpa [ints, noOwn] using ih
@[simp] theorem plain_ints {κ : IntKind} {l : List Int} : ((ints κ l).all fun y => y.plain && !y.isAgg) = true := by simp [ints, PV.plain, PV.isAgg]
attribute [simp] toksR lookupPV mapEntryPV entrySt mapUpdSt mapSt keyB keyC isInt isStr intOfPV flatB toksM
end Go.Sy

/-! What comes in, as symbolic values; a statement, from the contract of its function. -/
namespace Go.Sy
open Go.ChangeShapes Go.WideShapes Go.ChangeAt Go.RowKit

/-- Fields that lie one behind the other. -/
def tileB (P : Program) : List Field → Nat → Nat → Bool
  | [], a, n => a == n
  | f :: l, a, n => f.offset == a && tileB P l (a + P.cellsOf f.type) n

/-- Types that are numbers, truth values, texts, rows and structs of them. -/
def goodT (P : Program) : Nat → TypeId → Bool
  | 0, _ => false
  | n + 1, t => match P.underlying t with
    | some .bool => true
    | some (.int _) => true
    | some .string => true
    | some (.slice e) => decide (0 < P.cellsOf e) && goodT P n e
    | some (.struct fs) => tileB P fs.toList 0 (P.cellsOf t) && fs.toList.all fun f => goodT P n f.type
    | _ => false

def packE (P : Program) (t : TypeId) (ys : List PV) : PV := if aggT P t = some true then .agg ys else ys.headD .dead

/-- What cells of a type look like. -/
def Shp (P : Program) : Nat → TypeId → List PV → Prop
  | 0, _, _ => False
  | n + 1, t, ys => match P.underlying t with
    | some .bool => ∃ b, ys = [.lit (.bool b)]
    | some (.int k) => ∃ m, ys = [.lit (.int k m)] ∧ (Lit.int k m).wf = true
    | some .string => ∃ s, ys = [.lit (.string s)] ∧ s.size ≤ maxLen
    | some (.slice e) => ∃ nl xs, ys = [.sl .imm nl (P.cellsOf e) xs] ∧ (nl = true → xs = []) ∧ xs.length ≤ maxLen ∧ ∀ x, x ∈ xs → ∃ zs, Shp P n e zs ∧ x = packE P e zs
    | some (.struct fs) => ys.length = P.cellsOf t ∧ ∀ f, f ∈ fs.toList → Shp P n f.type ((ys.drop f.offset).take (P.cellsOf f.type))
    | _ => False

def g0 (w : World) : G := ⟨fun _ => 0, fun _ => 0, fun _ => 0, fun _ => False, fun _ => False, fun b => b < w.heap.size, fun _ => False⟩
/-- The tables lie there. -/
def Tabs (w : World) : Prop := ∀ q, q ∈ globs → ∃ T fz, w.heap[q.1]? = some (.cells (q.2.2.map (Value.int q.2.1)).toArray T fz)
theorem lt_of_get {w : World} {b : Nat} {o : Obj} (h : w.heap[b]? = some o) : b < w.heap.size := by
  rcases Nat.lt_or_ge b w.heap.size with h' | h'
  · exact h'
  · rw [Array.getElem?_eq_none h'] at h; cases h
theorem wf_g0 {w : World} (ht : Tabs w) : WF (g0 w) w where
  glob := fun q hq => by
    obtain ⟨T, fz, h⟩ := ht q hq
    exact ⟨⟨show q.1 < w.heap.size from lt_of_get h, fun h => h⟩, T, fz, h⟩
  ri := fun _ h => h.elim
  dlt := fun _ h => h.elim
  llt := fun _ h => h.elim
  ilt := fun _ h => h
  dinj := fun _ _ h => h.elim
  linj := fun _ _ h => h.elim
  dl := fun _ _ h => h.elim
  di := fun _ h => h.elim
  li := fun _ h => h.elim

section
variable {H : Type} {enc : TypeId × Value → H} {P : Program} {w : World} {base : Nat} {held : Bool}

/-- Cells that are told, each a plain datum. -/
def CellsRep (w : World) (ys : List PV) (cs : List Value) : Prop :=
  ys.length = cs.length ∧ ∀ (i : Nat) (y : PV) (u : Value), ys[i]? = some y → cs[i]? = some u → Rep (g0 w) w y u ∧ Data y ∧ y.isAgg = false

theorem CellsRep.one {y : PV} {u : Value} (h : Rep (g0 w) w y u) (hd : Data y) (hf : y.isAgg = false) : CellsRep w [y] [u] := by
  refine ⟨rfl, fun i z v hz hv => ?_⟩
  match i, hz, hv with
  | 0, hz, hv => simp at hz hv; subst hz; subst hv; exact ⟨h, hd, hf⟩
  | i + 1, hz, hv => simp at hz

theorem cell_addr {w : World} {a : Addr} {v : Value} (h : w.cell? a = some v) : a = ⟨a.block, a.off, none⟩ ∧ a.block < w.heap.size := by
  unfold World.cell? at h
  split at h
  · rename_i c t f hb
    have hlt : a.block < w.heap.size := by
      rcases Nat.lt_or_ge a.block w.heap.size with h | h
      · exact h
      · rw [Array.getElem?_eq_none h] at hb; cases hb
    split at h
    · cases h
    · rename_i hs
      refine ⟨?_, hlt⟩
      obtain ⟨b, o, s⟩ := a
      cases s with
      | none => rfl
      | some _ => simp at hs
  · cases h

theorem add_lit' (b o n : Nat) : (⟨b, o, none⟩ : Addr).add n = ⟨b, o + n, none⟩ := by
  unfold Addr.add; split
  · rename_i h; subst h; rfl
  · rfl

theorem CellsRep.append {ys zs : List PV} {cs ds : List Value} (h : CellsRep w ys cs) (k : CellsRep w zs ds) : CellsRep w (ys ++ zs) (cs ++ ds) := by
  refine ⟨by simp [h.1, k.1], fun i y u hy hu => ?_⟩
  rw [List.getElem?_append] at hy hu
  rw [h.1] at hy
  split at hy
  · rename_i hlt; rw [if_pos hlt] at hu; exact h.2 i y u hy hu
  · rename_i hlt; rw [if_neg hlt] at hu; exact k.2 _ y u hy hu

theorem tile_shp {m : Nat} {cs : List Value} : ∀ (l : List Field) (a : Nat), a ≤ cs.length → tileB P l a cs.length = true →
    (∀ f, f ∈ l → ∃ ys, CellsRep w ys ((cs.drop f.offset).take (P.cellsOf f.type)) ∧ Shp P m f.type ys) →
    ∃ ys, CellsRep w ys (cs.drop a) ∧ ∀ f, f ∈ l → a ≤ f.offset ∧ Shp P m f.type ((ys.drop (f.offset - a)).take (P.cellsOf f.type)) := by
  intro l
  induction l with
  | nil =>
    intro a ha ht _
    simp only [tileB, beq_iff_eq] at ht
    refine ⟨[], ⟨by simp; omega, fun i y u hy => by simp at hy⟩, fun f hf => by simp at hf⟩
  | cons f l ih =>
    intro a ha ht hf
    simp only [tileB, Bool.and_eq_true, beq_iff_eq] at ht
    obtain ⟨h1, h2⟩ := ht
    have mono : ∀ (l : List Field) (a n : Nat), tileB P l a n = true → a ≤ n := by
      intro l
      induction l with
      | nil => intro a n h; simp only [tileB, beq_iff_eq] at h; omega
      | cons g l ih => intro a n h; simp only [tileB, Bool.and_eq_true] at h; have := ih _ _ h.2; omega
    have hle := mono _ _ _ h2
    obtain ⟨ys, e1, e2⟩ := hf f (by simp)
    obtain ⟨zs, e3, e4⟩ := ih _ hle h2 fun g hg => hf g (by simp [hg])
    rw [h1] at e1
    have hyl : ys.length = P.cellsOf f.type := by rw [e1.1]; simp; omega
    refine ⟨ys ++ zs, ?_, fun g hg => ?_⟩
    · have := e1.append e3
      rwa [show (cs.drop a).take (P.cellsOf f.type) ++ cs.drop (a + P.cellsOf f.type) = cs.drop a by rw [← List.drop_drop, List.take_append_drop]] at this
    · rcases List.mem_cons.1 hg with rfl | hg
      · refine ⟨by omega, ?_⟩
        rw [h1, Nat.sub_self, List.drop_zero, List.take_append_of_le_length (by omega), List.take_of_length_le (by omega)]
        exact e2
      · obtain ⟨q1, q2⟩ := e4 g hg
        refine ⟨by omega, ?_⟩
        rw [List.drop_append, hyl, List.drop_eq_nil_of_le (by omega), List.nil_append, show g.offset - a - P.cellsOf f.type = g.offset - (a + P.cellsOf f.type) by omega]
        exact q2

theorem open_shp : ∀ (m fuel : Nat) (t : TypeId) (cs : List Value) (x : DataW H × List MemPlace), goodT P m t = true → DataW.trod enc P w base (fun _ => true) held fuel t cs = some x →
    ∃ ys, CellsRep w ys cs ∧ Shp P m t ys ∧ (aggT P t = some true ∨ (aggT P t = some false ∧ ∃ y, ys = [y])) := by
  intro m
  induction m with
  | zero => intro fuel t cs x hg; simp [goodT] at hg
  | succ m ih =>
    intro fuel t cs x hg h
    simp only [goodT] at hg
    split at hg
    · rename_i ht
      obtain ⟨b, rfl, -⟩ := DataW.trod_bool ht h
      exact ⟨_, CellsRep.one (.lit (.bool b)) (by simp [Value.oneCell']) rfl, by simp [Shp, ht], .inr ⟨by simp [aggT, ht], _, rfl⟩⟩
    · rename_i k ht
      obtain ⟨n, rfl, -, hwf⟩ := DataW.trod_int ht h
      exact ⟨_, CellsRep.one (.lit (.int k n)) (by simp [Value.oneCell']) rfl, by simp [Shp, ht, hwf], .inr ⟨by simp [aggT, ht], _, rfl⟩⟩
    · rename_i ht
      obtain ⟨s, rfl, -, hs⟩ := DataW.trod_string ht h
      exact ⟨_, CellsRep.one (.lit (.string s)) (by simp [Value.oneCell']) rfl, by simp [Shp, ht, hs], .inr ⟨by simp [aggT, ht], _, rfl⟩⟩
    · rename_i e ht
      simp only [Bool.and_eq_true, decide_eq_true_eq] at hg
      rcases Deep.open_slice ht h with ⟨rfl, -⟩ | ⟨a, len, cap, q, n, D, Pl, rfl, hb, hl, hm, hq, -, hel⟩
      · exact ⟨[.sl .imm true (P.cellsOf e) []], CellsRep.one (.nils _ _) (by simp) rfl, by simp [Shp, ht], .inr ⟨by simp [aggT, ht], _, rfl⟩⟩
      · simp only [if_true] at hq
        subst hq
        by_cases hc0 : q = 0
        · subst hc0
          have hl0 : len = 0 := by omega
          subst hl0
          exact ⟨[.sl .imm false (P.cellsOf e) []], CellsRep.one (.sle _ _ a rfl) (by simp) rfl, by simp [Shp, ht], .inr ⟨by simp [aggT, ht], _, rfl⟩⟩
        · have key : ∀ i, i < q → ∃ cs' ys, w.cells? base (a.add (i * P.cellsOf e)) (P.cellsOf e) = some cs' ∧ CellsRep w ys cs' ∧ Shp P m e ys ∧ (aggT P e = some true ∨ (aggT P e = some false ∧ ∃ y, ys = [y])) := by
            intro i hi
            obtain ⟨cs', h1, h2⟩ := hel i hi
            obtain ⟨ys, h3⟩ := ih n e cs' _ hg.2 h2
            exact ⟨cs', ys, h1, h3⟩
          obtain ⟨C, hC⟩ := Deep.choose_lt key
          obtain ⟨Y, hY⟩ := Deep.choose_lt hC
          obtain ⟨h01, -, -, -⟩ := hY 0 (by omega)
          obtain ⟨-, hl01, hc01⟩ := World.cells?_some h01
          have hcell0 := hc01 0 hg.1
          rw [List.getElem?_eq_getElem (by omega)] at hcell0
          rw [Nat.zero_mul] at hcell0
          obtain ⟨hadr, hblk⟩ := cell_addr hcell0
          have hadr' : a = ⟨a.block, a.off, none⟩ := hadr
          have hblk' : a.block < w.heap.size := hblk
          have hcells : ∀ i, i < q → ∀ j, j < P.cellsOf e → w.cell? ⟨a.block, a.off + i * P.cellsOf e + j, none⟩ = (C i)[j]? := by
            intro i hi j hj
            have := (World.cells?_some (hY i hi).1).2.2 j hj
            rw [hadr', add_lit', add_lit'] at this
            exact this
          have hlenC : ∀ i, i < q → (C i).length = P.cellsOf e := fun i hi => (World.cells?_some (hY i hi).1).2.1
          have hcomps : ∀ i, i < q → (packE P e (Y i)).comps = Y i := by
            intro i hi
            obtain ⟨-, h2, h3, h4⟩ := hY i hi
            rcases h4 with h4 | ⟨h4, y, hy⟩
            · simp [packE, h4, PV.comps]
            · simp only [packE, h4, hy]
              have hya := (h2.2 0 y ((C i)[0]'(by rw [hlenC i hi]; exact hg.1)) (by simp [hy]) (List.getElem?_eq_getElem _)).2.2
              simp only [Option.some.injEq, Bool.false_eq_true, if_false, List.headD_cons]
              cases y <;> first | rfl | (simp [PV.isAgg] at hya)
          have hdat : ∀ i, i < q → Data (packE P e (Y i)) := by
            intro i hi
            obtain ⟨-, h2, h3, h4⟩ := hY i hi
            have all : ∀ y, y ∈ Y i → Data y ∧ y.isAgg = false := fun y hy => by
              obtain ⟨j, hj⟩ := List.getElem?_of_mem hy
              have hjl : j < (C i).length := by rw [← h2.1]; exact (List.getElem?_eq_some_iff.1 hj).1
              exact (h2.2 j y _ hj (List.getElem?_eq_getElem hjl)).2
            rcases h4 with h4 | ⟨h4, y, hy⟩
            · simp only [packE, h4, if_true]
              exact (data_agg' _).2 all
            · have := (all y (by simp [hy])).1
              simpa [packE, h4, hy] using this
          have hlen : ((List.range len).map fun i => packE P e (Y i)).length = len := by simp
          refine ⟨[.sl .imm false (P.cellsOf e) ((List.range len).map fun i => packE P e (Y i))], CellsRep.one ?_ ?_ rfl, ?_, .inr ⟨by simp [aggT, ht], _, rfl⟩⟩
          · have := Rep.sl (g := g0 w) (w := w) .imm (P.cellsOf e) ((List.range len).map fun i => packE P e (Y i)) a.block a.off q (fun i j => ((C i)[j]?).getD undef) (by rw [hlen]; exact hl) hm ⟨hblk', fun h => h⟩
              (fun x hx => by obtain ⟨i, hi, rfl⟩ := List.mem_map.1 hx; exact hdat i (by have := List.mem_range.1 hi; omega))
              (fun x hx => by
                obtain ⟨i, hi, rfl⟩ := List.mem_map.1 hx
                have hi' : i < q := by have := List.mem_range.1 hi; omega
                rw [hcomps i hi', (hY i hi').2.1.1, hlenC i hi'])
              (fun j x hx i hi => by
                have hj : j < len := by have := (List.getElem?_eq_some_iff.1 hx).1; simpa using this
                rw [hcells j (by omega) i hi, List.getElem?_eq_getElem (by rw [hlenC j (by omega)]; exact hi)]
                rfl)
              (fun j x hx i y hy => by
                have hj : j < len := by have := (List.getElem?_eq_some_iff.1 hx).1; simpa using this
                rw [List.getElem?_map, List.getElem?_range hj] at hx
                simp only [Option.map_some, Option.some.injEq] at hx
                subst hx
                rw [hcomps j (by omega)] at hy
                have hil : i < (C j).length := by rw [← (hY j (by omega)).2.1.1]; exact (List.getElem?_eq_some_iff.1 hy).1
                rw [List.getElem?_eq_getElem hil]
                exact ((hY j (by omega)).2.1.2 i y _ hy (List.getElem?_eq_getElem hil)).1)
            rw [hlen] at this
            rw [hadr']
            exact this
          · simp only [data_sl]
            intro x hx
            obtain ⟨i, hi, rfl⟩ := List.mem_map.1 hx
            exact hdat i (by have := List.mem_range.1 hi; omega)
          · simp only [Shp, ht]
            refine ⟨false, _, rfl, by simp, by rw [hlen]; omega, fun x hx => ?_⟩
            obtain ⟨i, hi, rfl⟩ := List.mem_map.1 hx
            exact ⟨Y i, (hY i (by have := List.mem_range.1 hi; omega)).2.2.1, rfl⟩
    · rename_i fs ht
      simp only [Bool.and_eq_true, List.all_eq_true] at hg
      obtain ⟨xs, n, -, -, hcl, hxl, hx⟩ := DataW.trod_struct ht h
      obtain ⟨ys, h1, h2⟩ := tile_shp (w := w) (P := P) (m := m) (cs := cs) fs.toList 0 (Nat.zero_le _) (hcl ▸ hg.1) fun f hf => by
        obtain ⟨i, hi⟩ := List.getElem?_of_mem hf
        have hi' : fs[i]? = some f := by rwa [Array.getElem?_toList] at hi
        have hlt : i < xs.length := by rw [hxl]; exact (Array.getElem?_eq_some_iff.1 hi').1
        have := hx i f hi'
        rw [List.getElem?_eq_getElem hlt] at this
        obtain ⟨ys, a1, a2, _⟩ := ih n f.type _ _ (hg.2 f hf) this
        exact ⟨ys, a1, a2⟩
      rw [List.drop_zero] at h1
      exact ⟨ys, h1, by simp only [Shp, ht]; exact ⟨by rw [h1.1, hcl], fun f hf => by simpa using (h2 f hf).2⟩, .inl (by simp [aggT, ht])⟩
    · cases hg

/-- What is handed to a function. -/
def ShpAll (P : Program) (m : Nat) : List TypeId → List PV → Prop
  | [], [] => True
  | t :: ts, x :: xs => (∃ ys, Shp P m t ys ∧ x = packE P t ys) ∧ ShpAll P m ts xs
  | _, _ => False

theorem pack_rep {t : TypeId} {v : Value} {ys : List PV} {r : Reach} {b : Nat} (hval : Value.okWide P w r b t v) (h : CellsRep w ys v.cells.toList) (ha : aggT P t = some true ∨ (aggT P t = some false ∧ ∃ y, ys = [y])) : Rep (g0 w) w (packE P t ys) v := by
  rcases ha with ha | ⟨ha, y, rfl⟩
  · have : ∃ cs, v = .agg cs := by
      unfold aggT at ha
      unfold Value.okWide at hval
      split at hval
      · obtain ⟨cs, h, _⟩ := hval; exact ⟨cs, h⟩
      · obtain ⟨cs, h, _⟩ := hval; exact ⟨cs, h⟩
      · split at ha <;> first | (exfalso; simp_all; done) | cases ha
    obtain ⟨cs, rfl⟩ := this
    simp only [packE, ha, if_true]
    have hcs : (Value.agg cs).cells = cs := rfl
    rw [hcs] at h
    exact .agg ys cs (by rw [h.1]; simp) fun i x u hx hu => (h.2 i x u hx (by simpa using hu)).1
  · simp only [packE, ha, Option.some.injEq, Bool.false_eq_true, if_false, List.headD_cons]
    have hl := h.1
    by_cases hv : ∃ cs, v = .agg cs
    · obtain ⟨cs, rfl⟩ := hv
      exfalso
      unfold aggT at ha
      unfold Value.okWide at hval
      split at hval
      · rename_i hu; rw [hu] at ha; cases ha
      · rename_i hu; rw [hu] at ha; cases ha
      · unfold Cell.okWide at hval
        split at hval <;> try (simp_all; done)
        unfold Cell.ok at hval
        split at hval <;> simp_all
    · have hc : v.cells = #[v] := by cases v <;> first | rfl | exact absurd ⟨_, rfl⟩ hv
      rw [hc] at h
      exact (h.2 0 y v rfl rfl).1

theorem open_args {m : Nat} : ∀ (ts : List TypeId) (vs : List Value) (ds : List (DataW H)) (ps : List MemPlace), (∀ t, t ∈ ts → goodT P m t = true) → DataW.TrodAll enc P w base (fun _ => true) held ts vs ds ps →
    (∀ (j : Nat) t v, ts[j]? = some t → vs[j]? = some v → Value.okWide P w .any base t v) →
    ∃ xs : List PV, xs.length = vs.length ∧ (∀ (i : Nat) (x : PV) (u : Value), xs[i]? = some x → vs[i]? = some u → Rep (g0 w) w x u) ∧ ShpAll P m ts xs ∧ ds.length = ts.length := by
  intro ts
  induction ts with
  | nil =>
    intro vs ds ps _ h _
    obtain ⟨rfl, rfl, rfl⟩ := trodAll_nil h
    exact ⟨[], rfl, fun _ _ _ h => by simp at h, trivial, rfl⟩
  | cons t ts ih =>
    intro vs ds ps hg h hv
    obtain ⟨v, vs', d, ds', p, q, rfl, rfl, rfl, h1, h2⟩ := trodAll_cons h
    obtain ⟨fuel, h1⟩ := h1
    obtain ⟨ys, a1, a2, a3⟩ := open_shp (w := w) m fuel t _ _ (hg t (by simp)) h1
    obtain ⟨xs, b1, b2, b3, b4⟩ := ih vs' ds' q (fun t ht => hg t (by simp [ht])) h2 fun j t v ht hv' => hv (j + 1) t v (by simpa using ht) (by simpa using hv')
    refine ⟨packE P t ys :: xs, by simp [b1], fun i x u hx hu => ?_, ⟨⟨ys, a2, rfl⟩, b3⟩, by simp [b4]⟩
    cases i with
    | zero => simp at hx hu; subst hx; subst hu; exact pack_rep (hv 0 t v rfl rfl) a1 a3
    | succ i => exact b2 i x u (by simpa using hx) (by simpa using hu)
end

theorem Fc.calls {P : Program} {k : FuncId} {xs : List PV} {v : Value} (hf : Fc P k xs [] (.lit v) []) {w : World} (ht : Tabs w) {args : Array Value} (hr : RepArgs (g0 w) w xs args) :
    Calls P k args w fun e w' => e = .returned v ∧ Below w.heap.size w w' := by
  refine CallsIn.calls (CallsIn.mono (hf.run (g0 w) w args (fun _ _ h => by simp [getO] at h) (wf_g0 ht) hr) ?_) (room_FR none)
  rintro e w' ⟨u, x, g', h', rfl, ⟨rfl, rfl⟩, h1, h2, h3, h4⟩
  refine ⟨by rw [h1.lit_inv], h4.os, h4.tape, h4.output, h4.size, fun b hb => h4.keep b hb ?_⟩
  rintro (⟨i, hd, _⟩ | ⟨t, ht, _⟩)
  · exact hd
  · exact ht

section
variable {H : Type} {enc : TypeId × Value → H} {P : Program}
theorem post_below {f : Func} {s : ChangeSpec} {apart fresh handsOn again : Bool} {W W' : World} {args : Array Value} {v : Value} {ds gs : List (DataW H)} {before pa pv : List MemPlace}
    (hW : DataW.Whole enc P f.params.toList s.vars apart W args.toList ds gs before)
    (hres : ∀ (b : Nat) (sp : Nat → Bool) (hd : Bool), DataW.TrodAll enc P W' b sp hd f.resultTypes.toList (v.resultList f.resultTypes.size) (s.fn H (ds ++ gs)).results [])
    (hargs : ∀ sp : Nat → Bool, (∀ p ∈ before, sp p.block = true) → DataW.TrodAll enc P W' 0 sp true f.params.toList args.toList (s.fn H (ds ++ gs)).args pa)
    (hvars : ∀ sp : Nat → Bool, (∀ p ∈ before, sp p.block = true) → DataW.TrodVars enc P W' sp s.vars (s.fn H (ds ++ gs)).vars pv)
    (hps : before = pa ++ pv) (hb : Below W.heap.size W W')
    (hok : ∀ (j : Nat) (t : TypeId) (r : Value), f.resultTypes[j]? = some t → (v.resultList f.resultTypes.size)[j]? = some r → Value.okWide P W' .any 0 t r) :
    s.post enc P f apart fresh handsOn again W args v W' := by
  have hlt : ∀ p ∈ before, p.block < W.heap.size := fun p hp => hW.lt p hp
  have hold : ∀ p ∈ before, (fun b => decide (b < W.heap.size)) p.block = true := fun p hp => by simpa using hlt p hp
  refine ⟨ds, gs, before, [], pa, pv, hW, hres _ _ _, hargs _ hold, hvars _ hold, World.keptBut_mono (fun p hp => ⟨hp, ?_⟩) (hb.frame (· ∈ before)), fun _ => ?_⟩
  · rw [hps, List.mem_append] at hp
    exact Or.inr hp
  · obtain ⟨_, _, _, _, _, hz, hn⟩ := hW
    refine ⟨hok, _, _, ([] ++ pa) ++ pv, ⟨[] ++ pa, pv, trodAll_append (hargs _ (fun _ _ => rfl)) (hres _ _ _), hvars _ (fun _ _ => rfl), rfl, ?_, ?_⟩, ?_⟩
    · intro b off hp
      have hin : MemPlace.cell b off ∈ before := by rw [hps]; simpa using hp
      rw [hb.frozen (hlt _ hin)]
      exact hz b off hin
    · intro ha
      have := hn ha
      rw [hps] at this
      simpa using this
    · intro p hp _
      rw [hps]
      simpa using hp

/-- What was read reads on. -/
theorem trodAll_stays (hl : laidOutB P = true) {W W' : World} (hb : Below W.heap.size W W') (sp : Nat → Bool) : ∀ (ts : List TypeId) (vs : List Value) (ds : List (DataW H)) (ps : List MemPlace),
    (∀ t, t ∈ ts → P.readableRec t = true ∧ t < P.types.size) → DataW.TrodAll enc P W 0 (fun _ => true) true ts vs ds ps → (∀ x ∈ ps, x.block < W.heap.size ∧ sp x.block = true) → DataW.TrodAll enc P W' 0 sp true ts vs ds ps := by
  intro ts
  induction ts with
  | nil =>
    intro vs ds ps _ h _
    obtain ⟨rfl, rfl, rfl⟩ := trodAll_nil h
    rfl
  | cons t ts ih =>
    intro vs ds ps hr h hlt
    obtain ⟨v, vs', d, ds', p, q, rfl, rfl, rfl, h1, h2⟩ := trodAll_cons h
    exact ⟨p, q, WideElems.Trod_stays hl (hr t (by simp)).1 (hr t (by simp)).2 h1 (fun x hx => hb.same (hlt x (by simp [hx])).1) (fun x hx => (hlt x (by simp [hx])).2),
      ih vs' ds' q (fun t ht => hr t (by simp [ht])) h2 (fun x hx => hlt x (by simp [hx])), rfl⟩

/-- A statement of a law, from its function's contract. -/
theorem law_contract (m : Nat) {f : FuncId} {fn : Func} {s : ChangeSpec} {apart fresh handsOn again : Bool} {tb : TypeId} (hl : laidOutB P = true) (hv : s.vars = [])
    (hs : ∀ ds : List (DataW H), ds.length = fn.params.toList.length → s.fn H ds = { results := [.lit (.bool true)], args := ds })
    (hg : (fn.params.toList.all fun t => goodT P m t && P.readableRec t && decide (t < P.types.size)) = true)
    (hr : fn.resultTypes = #[tb]) (htb : P.underlying tb = some .bool)
    (hlaw : ∀ xs, ShpAll P m fn.params.toList xs → Fc P f xs [] (.lit (.bool true)) [])
    (W : World) (htab : Tabs W) (base : Nat) (args : Array Value) (ds gs : List (DataW H)) (before : List MemPlace)
    (hval : ∀ (j : Nat) t v, fn.params[j]? = some t → args[j]? = some v → Value.okWide P W .any base t v)
    (hW : DataW.Whole enc P fn.params.toList s.vars apart W args.toList ds gs before) :
    Calls P f args W fun e W' => ∃ v, e = .returned v ∧ s.post enc P fn apart fresh handsOn again W args v W' := by
  have hg' : ∀ t, t ∈ fn.params.toList → goodT P m t = true ∧ P.readableRec t = true ∧ t < P.types.size := fun t ht => by
    have := List.all_eq_true.1 hg t ht
    simp only [Bool.and_eq_true, decide_eq_true_eq] at this
    exact ⟨this.1.1, this.1.2, this.2⟩
  have hW' := hW
  obtain ⟨p, q, hA, hV, rfl, hz, hn⟩ := hW
  rw [hv] at hV
  obtain ⟨rfl, rfl⟩ := trodVars_none hV
  obtain ⟨xs, h1, h2, h3, h4⟩ := open_args (w := W) (m := m) _ _ _ _ (fun t ht => (hg' t ht).1) hA fun j t v ht hv => hval j t v (by rwa [Array.getElem?_toList] at ht) (by rwa [Array.getElem?_toList] at hv)
  refine (Fc.calls (hlaw xs h3) (w := W) htab (args := args) ⟨by simpa using h1.symm, fun i x u hx hu => h2 i x u hx (by rwa [Array.getElem?_toList])⟩).mono ?_
  rintro e W' ⟨rfl, hb⟩
  refine ⟨_, rfl, post_below (pa := p) (pv := []) hW' ?_ ?_ ?_ rfl hb ?_⟩
  · intro b sp hd
    rw [List.append_nil, hs ds h4, hr]
    exact trodAll_mk1 (shut_bool htb true)
  · intro sp hsp
    rw [List.append_nil, hs ds h4]
    exact trodAll_stays hl hb sp _ _ _ _ (fun t ht => (hg' t ht).2) hA fun x hx => ⟨hW'.lt x (by simpa using hx), hsp x (by simpa using hx)⟩
  · intro sp _
    rw [List.append_nil, hs ds h4, hv]
    rfl
  · exact ok_one hr rfl (okWide_bool_mk htb true)
end

section
variable {P : Program} {m : Nat} {t e : TypeId} {x : PV}
theorem list_choose {α : Type} {p : α → Prop} {f : α → PV} : ∀ {xs : List PV}, (∀ x, x ∈ xs → ∃ a, p a ∧ x = f a) → ∃ l : List α, xs = l.map f ∧ ∀ a, a ∈ l → p a
  | [], _ => ⟨[], rfl, fun _ h => by simp at h⟩
  | x :: xs, h => by
    obtain ⟨a, h1, rfl⟩ := h x (by simp)
    obtain ⟨l, rfl, h2⟩ := list_choose (xs := xs) fun y hy => h y (by simp [hy])
    exact ⟨a :: l, rfl, fun b hb => by
      rcases List.mem_cons.1 hb with rfl | hb
      · exact h1
      · exact h2 b hb⟩
theorem arg_int {k : IntKind} (ht : P.underlying t = some (.int k)) (h : ∃ ys, Shp P (m + 1) t ys ∧ x = packE P t ys) : ∃ n, x = .lit (.int k n) ∧ (Lit.int k n).wf = true := by
  obtain ⟨ys, h, rfl⟩ := h
  simp only [Shp, ht] at h
  obtain ⟨n, rfl, hn⟩ := h
  exact ⟨n, by simp [packE, aggT, ht], hn⟩
theorem arg_bool (ht : P.underlying t = some .bool) (h : ∃ ys, Shp P (m + 1) t ys ∧ x = packE P t ys) : ∃ b, x = .lit (.bool b) := by
  obtain ⟨ys, h, rfl⟩ := h
  simp only [Shp, ht] at h
  obtain ⟨n, rfl⟩ := h
  exact ⟨n, by simp [packE, aggT, ht]⟩
theorem arg_str (ht : P.underlying t = some .string) (h : ∃ ys, Shp P (m + 1) t ys ∧ x = packE P t ys) : ∃ s, x = .lit (.string s) ∧ s.size ≤ maxLen := by
  obtain ⟨ys, h, rfl⟩ := h
  simp only [Shp, ht] at h
  obtain ⟨n, rfl, hn⟩ := h
  exact ⟨n, by simp [packE, aggT, ht], hn⟩
theorem arg_rows (ht : P.underlying t = some (.slice e)) (h : ∃ ys, Shp P (m + 1) t ys ∧ x = packE P t ys) : ∃ nl xs, x = .sl .imm nl (P.cellsOf e) xs ∧ (nl = true → xs = []) ∧ xs.length ≤ maxLen ∧ ∀ x, x ∈ xs → ∃ zs, Shp P m e zs ∧ x = packE P e zs := by
  obtain ⟨ys, h, rfl⟩ := h
  simp only [Shp, ht] at h
  obtain ⟨nl, xs, rfl, h1, h2, h3⟩ := h
  exact ⟨nl, xs, by simp [packE, aggT, ht], h1, h2, h3⟩
theorem arg_ints {k : IntKind} (ht : P.underlying t = some (.slice e)) (he : P.underlying e = some (.int k)) (hc : P.cellsOf e = 1) (h : ∃ ys, Shp P (m + 2) t ys ∧ x = packE P t ys) :
    ∃ nl l, x = .sl .imm nl 1 (ints k l) ∧ (nl = true → l = []) ∧ l.length ≤ maxLen ∧ ∀ n, n ∈ l → (Lit.int k n).wf = true := by
  obtain ⟨nl, xs, rfl, h1, h2, h3⟩ := arg_rows ht h
  obtain ⟨l, rfl, h4⟩ := list_choose (p := fun n => (Lit.int k n).wf = true) (f := fun n => PV.lit (.int k n)) (xs := xs) fun x hx => by
    obtain ⟨n, h5, h6⟩ := arg_int he (h3 x hx)
    exact ⟨n, h6, h5⟩
  exact ⟨nl, l, by rw [hc]; rfl, fun h => by have := h1 h; simpa using this, by simpa using h2, h4⟩
theorem shp_one {ys : List PV} (ha : aggT P t = some false) (h : ∃ y, ys = [y]) : ys = [packE P t ys] := by
  obtain ⟨y, rfl⟩ := h
  simp [packE, ha]
theorem shp_int {ys : List PV} {k : IntKind} (ht : P.underlying t = some (.int k)) (h : Shp P (m + 1) t ys) : ∃ n, ys = [.lit (.int k n)] ∧ (Lit.int k n).wf = true := by
  simpa [Shp, ht] using h
theorem shp_str {ys : List PV} (ht : P.underlying t = some .string) (h : Shp P (m + 1) t ys) : ∃ s, ys = [.lit (.string s)] ∧ s.size ≤ maxLen := by
  simpa [Shp, ht] using h
theorem shp_ints {ys : List PV} {k : IntKind} (ht : P.underlying t = some (.slice e)) (he : P.underlying e = some (.int k)) (hc : P.cellsOf e = 1) (h : Shp P (m + 2) t ys) :
    ∃ (nl : Bool) (l : List Int), ys = [.sl .imm nl 1 (ints k l)] ∧ (nl = true → l = []) ∧ l.length ≤ maxLen ∧ ∀ n, n ∈ l → (Lit.int k n).wf = true := by
  have h1 : ∃ y, ys = [y] := by
    have h' := h
    simp only [Shp, ht] at h'
    obtain ⟨nl, xs, rfl, _⟩ := h'
    exact ⟨_, rfl⟩
  obtain ⟨nl, l, e1, e2⟩ := arg_ints ht he hc ⟨ys, h, rfl⟩
  exact ⟨nl, l, (shp_one (P := P) (t := t) (by simp [aggT, ht]) h1).trans (by rw [e1]), e2⟩
theorem shp_struct {fs : Array Field} {ys : List PV} (ht : P.underlying t = some (.struct fs)) (h : Shp P (m + 1) t ys) : ys.length = P.cellsOf t ∧ ∀ f, f ∈ fs.toList → Shp P m f.type ((ys.drop f.offset).take (P.cellsOf f.type)) := by
  simpa only [Shp, ht] using h
theorem shp_nil {xs : List PV} (h : ShpAll P m [] xs) : xs = [] := by
  cases xs with
  | nil => rfl
  | cons x xs => exact h.elim
theorem shp_cons {ts : List TypeId} {xs : List PV} (h : ShpAll P m (t :: ts) xs) : ∃ x xs', xs = x :: xs' ∧ (∃ ys, Shp P m t ys ∧ x = packE P t ys) ∧ ShpAll P m ts xs' := by
  cases xs with
  | nil => exact h.elim
  | cons x xs => exact ⟨x, xs, rfl, h.1, h.2⟩
theorem shp_args1 {xs : List PV} (h : ShpAll P m [t] xs) : ∃ x, xs = [x] ∧ (∃ ys, Shp P m t ys ∧ x = packE P t ys) := by
  obtain ⟨x, _, rfl, h1, h⟩ := shp_cons h
  obtain rfl := shp_nil h
  exact ⟨x, rfl, h1⟩
theorem shp_args2 {t2 : TypeId} {xs : List PV} (h : ShpAll P m [t, t2] xs) : ∃ x y, xs = [x, y] ∧ (∃ ys, Shp P m t ys ∧ x = packE P t ys) ∧ (∃ ys, Shp P m t2 ys ∧ y = packE P t2 ys) := by
  obtain ⟨x, _, rfl, h1, h⟩ := shp_cons h
  obtain ⟨y, rfl, h2⟩ := shp_args1 h
  exact ⟨x, y, rfl, h1, h2⟩
theorem shp_args3 {t2 t3 : TypeId} {xs : List PV} (h : ShpAll P m [t, t2, t3] xs) : ∃ x y z, xs = [x, y, z] ∧ (∃ ys, Shp P m t ys ∧ x = packE P t ys) ∧ (∃ ys, Shp P m t2 ys ∧ y = packE P t2 ys) ∧ (∃ ys, Shp P m t3 ys ∧ z = packE P t3 ys) := by
  obtain ⟨x, _, rfl, h1, h⟩ := shp_cons h
  obtain ⟨y, z, rfl, h2⟩ := shp_args2 h
  exact ⟨x, y, z, rfl, h1, h2⟩
theorem shp_args4 {t2 t3 t4 : TypeId} {xs : List PV} (h : ShpAll P m [t, t2, t3, t4] xs) : ∃ x y z u, xs = [x, y, z, u] ∧ (∃ ys, Shp P m t ys ∧ x = packE P t ys) ∧ (∃ ys, Shp P m t2 ys ∧ y = packE P t2 ys) ∧ (∃ ys, Shp P m t3 ys ∧ z = packE P t3 ys) ∧ (∃ ys, Shp P m t4 ys ∧ u = packE P t4 ys) := by
  obtain ⟨x, _, rfl, h1, h⟩ := shp_cons h
  obtain ⟨y, z, u, rfl, h2⟩ := shp_args3 h
  exact ⟨x, y, z, u, rfl, h1, h2⟩
theorem wf_u8 {n : Int} (h : (Lit.int .u8 n).wf = true) : 0 ≤ n ∧ n < 256 := by
  simp [Lit.wf, IntKind.min, IntKind.max, IntKind.signed, IntKind.bits] at h; omega
theorem wf_u16 {n : Int} (h : (Lit.int .u16 n).wf = true) : 0 ≤ n ∧ n < 65536 := by
  simp [Lit.wf, IntKind.min, IntKind.max, IntKind.signed, IntKind.bits] at h; omega
theorem wf_u32 {n : Int} (h : (Lit.int .u32 n).wf = true) : 0 ≤ n ∧ n < 4294967296 := by
  simp [Lit.wf, IntKind.min, IntKind.max, IntKind.signed, IntKind.bits] at h; omega
theorem wf_u64 {n : Int} (h : (Lit.int .u64 n).wf = true) : 0 ≤ n ∧ n < 18446744073709551616 := by
  simp [Lit.wf, IntKind.min, IntKind.max, IntKind.signed, IntKind.bits] at h; omega
theorem wf_i64 {n : Int} (h : (Lit.int .i64 n).wf = true) : -9223372036854775808 ≤ n ∧ n < 9223372036854775808 := by
  simp [Lit.wf, IntKind.min, IntKind.max, IntKind.signed, IntKind.bits] at h; omega
end
end Go.Sy
