/- The operations that make no memory, over symbolic states. -/
import Derived.Test.YtgpcphddjapceaaS7
namespace Go.Sy

def pureOf (P : Program) {α : Type} : Sem α → Option α
  | .pure a => some a
  | .program k => pureOf P (k P)
  | .mark _ k => pureOf P k
  | _ => none

theorem pureOf_run {P : Program} {α : Type} {s : Sem α} {a : α} (h : pureOf P s = some a) (w : World) : s.run P w = .ok a w := by
  induction s with
  | pure b => simp only [pureOf, Option.some.injEq] at h; subst h; rfl
  | program k ih => exact ih P h
  | mark m k ih => exact ih h
  | load m a k ih => cases h
  | store m a v k ih => cases h
  | new o k ih => cases h
  | shape r k ih => cases h
  | freeze a n k ih => cases h
  | frozen a k ih => cases h
  | getObj r k ih => cases h
  | setObj r o k ih => cases h
  | choose q k ih => cases h
  | sys c k ih => cases h
  | halt h' => cases h

theorem pureOf_bind {P : Program} {α β : Type} (s : Sem α) (f : α → Sem β) : pureOf P (s >>= f) = (pureOf P s).bind fun a => pureOf P (f a) := by
  induction s with
  | pure b => rfl
  | program k ih => exact ih P
  | mark m k ih => exact ih
  | load m a k ih => rfl
  | store m a v k ih => rfl
  | new o k ih => rfl
  | shape r k ih => rfl
  | freeze a n k ih => rfl
  | frozen a k ih => rfl
  | getObj r k ih => rfl
  | setObj r o k ih => rfl
  | choose q k ih => rfl
  | sys c k ih => rfl
  | halt h' => rfl

def litOf : PV → Option Value
  | .lit v => some v
  | _ => none

def litsOf : List PV → Option (List Value)
  | [] => some []
  | x :: xs => match litOf x, litsOf xs with
    | some v, some vs => some (v :: vs)
    | _, _ => none

def valOf : PV → Option Value
  | .lit v => some v
  | .agg xs => (litsOf xs).map fun vs => .agg vs.toArray
  | _ => none

theorem litsOf_get {xs : List PV} {vs : List Value} (h : litsOf xs = some vs) : vs.length = xs.length ∧ ∀ (i : Nat) (x : PV) (v : Value), xs[i]? = some x → vs[i]? = some v → x = .lit v := by
  induction xs generalizing vs with
  | nil => simp only [litsOf, Option.some.injEq] at h; subst h; exact ⟨rfl, fun _ _ _ h => by simp at h⟩
  | cons x xs ih =>
    simp only [litsOf] at h
    cases hx : litOf x with
    | none => rw [hx] at h; simp at h
    | some v =>
      cases hxs : litsOf xs with
      | none => rw [hx, hxs] at h; simp at h
      | some us =>
        rw [hx, hxs] at h
        simp only [Option.some.injEq] at h
        subst h
        obtain ⟨h1, h2⟩ := ih hxs
        refine ⟨by simp [h1], fun i y u hy hu => ?_⟩
        cases i with
        | zero =>
          simp only [List.getElem?_cons_zero, Option.some.injEq] at hy hu
          subst hy; subst hu
          cases x <;> simp only [litOf, Option.some.injEq, reduceCtorEq] at hx
          rw [hx]
        | succ i => exact h2 i y u (by simpa using hy) (by simpa using hu)

theorem valOf_rep {g : G} {w : World} {x : PV} {u v : Value} (h : valOf x = some v) (hr : Rep g w x u) : u = v := by
  cases hr with
  | lit => simpa [valOf] using h
  | agg xs us hl hx =>
    simp only [valOf, Option.map_eq_some_iff] at h
    obtain ⟨vs, hvs, rfl⟩ := h
    obtain ⟨h1, h2⟩ := litsOf_get hvs
    congr 1
    apply Array.ext
    · simp [hl, h1]
    · intro i hi hi'
      have hx' := List.getElem?_eq_getElem (l := xs) (i := i) (by omega)
      have hv' := List.getElem?_eq_getElem (l := vs) (i := i) (by simpa using hi')
      have e := h2 i _ _ hx' hv'
      have := hx i _ _ hx' (Array.getElem?_eq_getElem hi)
      rw [e] at this
      rw [this.lit_inv]; simp
  | _ => simp [valOf] at h

def szOf (P : Program) (t : TypeId) : Nat := ((P.info? t).map (·.size)).getD 0

def aggT (P : Program) (t : TypeId) : Option Bool :=
  match P.underlying t with
  | some (.struct _) | some (.array _ _) => some true
  | some _ => some false
  | none => none

mutual
/-- Of a row of one's own: a part of it. -/
def PV.view : PV → PV
  | .sl (.own t) nl s xs => .sl (.vw t) nl s xs
  | .agg xs => .agg (PV.viewL xs)
  | x => x
def PV.viewL : List PV → List PV
  | [] => []
  | x :: xs => x.view :: PV.viewL xs
end

/-- A value of type t that begins with these cells. -/
def ofCells (P : Program) (t : TypeId) (xs : List PV) : Option PV :=
  match aggT P t with
  | some true => if szOf P t ≤ xs.length then some (.agg (xs.take (szOf P t))) else none
  | some false => xs[0]?
  | none => none

def St.cellsAt (st : St) : PV → Option (List PV)
  | .ptr id off => match getO st.heap id with
    | some (.cells xs) => some (xs.drop off)
    | _ => none
  | .cur _ xs => some xs
  | _ => none

theorem Acc.toVw {g : G} {w : World} {t : Tk} {b off n c : Nat} (h : Acc g w (.own t) b off n c) {off' n' c' : Nat} (h2 : off' + n' ≤ off + n) : Acc g w (.vw t) b off' n' c' := by
  rcases h with ⟨a1, a2, a3, _⟩ | ⟨h, _⟩
  · exact .inr ⟨a1, a2, by omega⟩
  · exact .inl h

theorem Acc.part {g : G} {w : World} {t : Tk} {b off n c : Nat} (h : Acc g w (.vw t) b off n c) {off' n' c' : Nat} (h2 : off' + n' ≤ off + n) : Acc g w (.vw t) b off' n' c' := by
  rcases h with h | ⟨a1, a2, a3⟩
  · exact .inl h
  · exact .inr ⟨a1, a2, by omega⟩

/-- Whose a part of it is. -/
def Own.part : Own → Own
  | .own t => .vw t
  | o => o

theorem Acc.sub {g : G} {w : World} {o : Own} {b off n c : Nat} (h : Acc g w o b off n c) {off' n' c' : Nat} (h2 : off' + n' ≤ off + n) : Acc g w o.part b off' n' c' := by
  cases o with
  | imm => exact h
  | own t => exact h.toVw h2
  | vw t => exact h.part h2

theorem viewL_eq (xs : List PV) : PV.viewL xs = xs.map PV.view := by
  induction xs with
  | nil => rfl
  | cons x xs ih => simp [PV.viewL, ih]

theorem Rep.view {g : G} {w : World} {x : PV} {u : Value} (h : Rep g w x u) : Rep g w x.view u := by
  induction h with
  | lit v => exact .lit v
  | dead u => exact .dead u
  | nils o s => cases o <;> exact .nils _ s
  | sle o s a hl => cases o <;> exact .sle _ s a hl
  | sl o s xs b off c U hc hm hacc hd hs hcell hrep ih =>
    cases o with
    | imm => exact .sl .imm s xs b off c U hc hm hacc hd hs hcell hrep
    | own t => exact .sl (.vw t) s xs b off c U hc hm (hacc.toVw (Nat.le_refl _)) hd hs hcell hrep
    | vw t => exact .sl (.vw t) s xs b off c U hc hm hacc hd hs hcell hrep
  | ptr id off => exact .ptr id off
  | cur o xs b off U hacc hd hcell hrep ih => exact .cur o xs b off U hacc hd hcell hrep
  | agg xs us hl h ih =>
    simp only [PV.view, viewL_eq]
    refine .agg _ us (by simpa using hl) (fun i x u hx hu => ?_)
    rw [List.getElem?_map, Option.map_eq_some_iff] at hx
    obtain ⟨y, hy, rfl⟩ := hx
    exact ih i y u hy hu
  | tup xs us hl h ih => exact .tup xs us hl h
  | fn f xs ys us vs hl hl' h h' ih ih' => exact .fn f xs ys us vs hl hl' h h'
  | mp id => exact .mp id

theorem Act.put_eq (a : Act) (d : Option Tmp) (v : Value) : (a.put d v).defers = a.defers := by cases d <;> rfl

theorem Sim.put {g : G} {st : St} {a : Act} {w : World} (h : Sim g st a w) {x : PV} {v : Value} (hr : Rep g w x v) (d : Option Tmp) : Sim g (st.put d x) (a.put d v) w := by
  cases d with
  | none => exact h
  | some d =>
    simp only [St.put, Act.put]
    by_cases hd : d < st.nt
    · rw [if_pos hd]
      refine ⟨fun s => ?_, by simpa using h.nt, h.heap⟩
      show Rep g w (getR ((d, x) :: st.regs) s) ((a.tmps.setIfInBounds d v).getD s undef)
      simp only [getR]
      by_cases e : d = s
      · subst e
        rw [if_pos rfl]
        have hd' : d < a.tmps.size := h.nt ▸ hd
        have : (a.tmps.setIfInBounds d v).getD d undef = v := by simp [Array.getD, hd']
        rw [this]; exact hr
      · rw [if_neg e]
        have : (a.tmps.setIfInBounds d v).getD s undef = a.tmps.getD s undef := by
          simp only [Array.getD_eq_getD_getElem?]
          rw [Array.getElem?_setIfInBounds_ne e]
        rw [this]; exact h.regs s
    · rw [if_neg hd]
      have hle : a.tmps.size ≤ d := by rw [h.nt]; exact Nat.le_of_not_lt hd
      have : a.tmps.setIfInBounds d v = a.tmps := Array.setIfInBounds_eq_of_size_le hle
      rw [this]; exact h

/-- What an operation that is no call does. -/
def OpOK (P : Program) (r : Option Nat) (o : Oper) (st : St) (R : St → Prop) : Prop :=
  ∀ g a w, Sim g st a w → WF g w → ∀ (K : Act → World → Prop) (Q : Exit → Act → World → Prop),
    (∀ g' st' a' w', R st' → Sim g' st' a' w' → WF g' w' → Ext g w g' w' → a'.defers = a.defers → K a' w') → o.wpIn (FR r) 0 P a w K Q

def Oper.plainOp : Op → Bool
  | .defer _ => false
  | _ => true

theorem Oper.semAt_plain {o : Oper} (h : Oper.plainOp o.op = true) (r : Option Nat) (ρ : Operand → Value) : o.semAt r ρ = execOp ρ o :=
  Oper.semAt_eq r ρ o fun c e => by rw [e] at h; cases h

theorem OpOK.val {P : Program} {r : Option Nat} {o : Oper} {st st1 : St} {x : PV} (hp : Oper.plainOp o.op = true)
    (h : ∀ g a w, Sim g st a w → WF g w → ∃ v w' g', (execOp a.eval o).run P w = .ok (.value v) w' ∧ Sim g' st1 a w' ∧ WF g' w' ∧ Ext g w g' w' ∧ Rep g' w' x v) : OpOK P r o st (· = st1.put o.dst x) := by
  intro g a w hs hw K Q hk
  obtain ⟨v, w', g', h1, h2, h3, h4, h5⟩ := h g a w hs hw
  refine ⟨fun _ _ => trivial, ?_⟩
  rw [Oper.semAt_plain hp, h1]
  exact hk g' _ _ _ rfl (h2.put h5 _) h3 h4 (Act.put_eq _ _ _)

theorem OpOK.pureVal {P : Program} {r : Option Nat} {o : Oper} {st : St} {x : PV} (hp : Oper.plainOp o.op = true)
    (h : ∀ g a w, Sim g st a w → WF g w → ∃ v, (execOp a.eval o).run P w = .ok (.value v) w ∧ Rep g w x v) : OpOK P r o st (· = st.put o.dst x) :=
  .val hp fun g a w hs hw => let ⟨v, h1, h2⟩ := h g a w hs hw; ⟨v, w, g, h1, hs, hw, Ext.refl g w, h2⟩

theorem OpOK.skip {P : Program} {r : Option Nat} {o : Oper} {st st1 : St} (hp : Oper.plainOp o.op = true)
    (h : ∀ g a w, Sim g st a w → WF g w → ∃ w' g', (execOp a.eval o).run P w = .ok .skip w' ∧ Sim g' st1 a w' ∧ WF g' w' ∧ Ext g w g' w') : OpOK P r o st (· = st1.put o.dst (.lit undef)) := by
  intro g a w hs hw K Q hk
  obtain ⟨w', g', h1, h2, h3, h4⟩ := h g a w hs hw
  refine ⟨fun _ _ => trivial, ?_⟩
  rw [Oper.semAt_plain hp, h1]
  exact hk g' _ _ _ rfl (h2.put (.lit undef) _) h3 h4 (Act.put_eq _ _ _)

/-! ### Values out of cells -/
section
variable {P : Program}

theorem aggT_run {t : TypeId} {b : Bool} (h : aggT P t = some b) (w : World) : (isAgg t).run P w = .ok b w := by
  unfold aggT at h
  cases hu : P.underlying t with
  | none => rw [hu] at h; cases h
  | some d =>
    rw [hu] at h
    simp only [isAgg, Sem.run_bind, run_underlying hu, Result.andThen_ok]
    cases d <;> first | (simp only [Option.some.injEq] at h; subst h; rfl)

theorem szOf_run {t : TypeId} {b : Bool} (h : aggT P t = some b) (w : World) : (sizeOf t).run P w = .ok (szOf P t) w := by
  have : ∃ i, P.info? t = some i := by
    unfold aggT Program.underlying at h
    cases hi : P.info? t with
    | none => rw [hi] at h; simp at h
    | some i => exact ⟨i, rfl⟩
  obtain ⟨i, hi⟩ := this
  simp [sizeOf, typeInfo, szOf, hi]

end
end Go.Sy
