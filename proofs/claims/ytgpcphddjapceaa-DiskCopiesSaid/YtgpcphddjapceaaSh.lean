/- Lists of operations, regions; functions. -/
import Derived.Test.YtgpcphddjapceaaSg
namespace Go.Sy

def slotOf (ops : Array Oper) (j : Nat) : Option Nat := (ops[j]?).bind (·.dst)

/-- What a guard's slot says. -/
def yldOf : PV → Option (Option Bool)
  | .lit (.bool b) => some (some b)
  | .lit (.tuple _) => some none
  | _ => none
def yldPV (st : St) : Option Nat → Option (Option Bool)
  | none => some none
  | some d => yldOf (getR st.regs d)

def onYld : Option (Option Bool) → (Option Bool → Prop) → Prop
  | some y, f => f y
  | none, _ => False

theorem onYld_iff {x : Option (Option Bool)} {f : Option Bool → Prop} : onYld x f ↔ ∃ y, x = some y ∧ f y := by
  cases x <;> simp [onYld]

theorem cnd_y {y : Option Bool} {b : Bool} {A B : Prop} : Cnd (y == some b) A B ↔ (y = some b → A) ∧ (y ≠ some b → B) := by
  by_cases h : y = some b
  · simp [h]
  · have : (y == some b) = false := by simpa using h
    rw [this]; simp [h]

def pwL (P : Program) (E : List (Spec P)) (ops : Array Oper) : List Oper → St → (St → Prop) → Prop
  | [], st, K => K st
  | o :: rest, st, K => match o.guard with
    | none => pw1 P E o st fun s => pwL P E ops rest s K
    | some (j, b) => onYld (yldPV st (slotOf ops j)) fun y => Cnd (y == some b) (pw1 P E o st fun s => pwL P E ops rest s K) (pwL P E ops rest (st.put o.dst (.lit undef)) K)

def wpL (P : Program) (r : Option Nat) (ops : Array Oper) (Q : Exit → Act → World → Prop) : List Oper → Act → World → Prop
  | [], a, w => Q .normal a w
  | o :: rest, a, w => if Region.wanted o (yielded ops a.tmps) then o.wpIn (FR r) 0 P a w (wpL P r ops Q rest) Q else wpL P r ops Q rest (a.put o.dst undef) w

section
variable {P : Program} {E : List (Spec P)} {r : Option Nat}

theorem wpOpsIn_wpL {ops : Array Oper} {Q : Exit → Act → World → Prop} (l : List Oper) : ∀ k, (∀ j, l[j]? = ops[k + j]?) → ∀ a w, wpL P r ops Q l a w → wpOpsIn (FR r) 0 P ops Q (List.range' k l.length) a w := by
  induction l with
  | nil => exact fun k _ a w h => h
  | cons o l ih =>
    intro k h a w hw
    have h0 : ops[k]? = some o := by simpa using (h 0).symm
    have ih' := ih (k + 1) (fun j => by have := h (j + 1); simpa [Nat.add_assoc, Nat.add_comm 1 j] using this)
    simp only [List.length_cons, List.range'_succ, wpOpsIn, h0]
    simp only [wpL] at hw
    split
    · rename_i hg
      rw [if_pos hg] at hw
      obtain ⟨h1, h2⟩ := hw
      refine ⟨h1, ?_⟩
      revert h2
      unfold Oper.uponIn
      split
      · exact ih' _ _
      · exact ih' _ _
      · exact ih' _ _
      · rintro ⟨h3, h4⟩
        refine ⟨h3, CallsIn.mono h4 fun e w' => ?_⟩
        cases e with
        | returned v => exact ih' _ _
        | panicked c => exact id
        | outgrown => exact id
      · rintro ⟨h3, h4⟩
        exact ⟨h3, RowsIn.mono h4 fun v w' => ih' _ _⟩
      · rintro ⟨h3, h4⟩
        refine ⟨h3, RoundIn.mono h4 fun e w' => ?_⟩
        cases e with
        | returned v => exact ih' _ _
        | panicked c => exact id
        | outgrown => exact id
      · exact id
      · exact id
    · rename_i hg
      rw [if_neg hg] at hw
      exact ⟨fun _ _ => trivial, ih' _ _ hw⟩

theorem yldPV_ok {st : St} {g : G} {a : Act} {w : World} (hs : Sim g st a w) {ops : Array Oper} {j : Nat} {y : Option Bool} (h : yldPV st (slotOf ops j) = some y) : yielded ops a.tmps j = y := by
  unfold yielded
  have e : (ops[j]?).bind (fun x => x.dst) = slotOf ops j := rfl
  rw [e]
  cases hd : slotOf ops j with
  | none => rw [hd] at h; simp [yldPV] at h; subst h; rfl
  | some d =>
    rw [hd] at h
    have hr := hs.regs d
    simp only [Option.bind_some]
    by_cases hlt : d < a.tmps.size
    · have hget : a.tmps.getD d undef = a.tmps[d] := by simp [Array.getD, hlt]
      rw [hget] at hr
      simp only [Array.getElem?_eq_getElem hlt]
      simp only [yldPV, yldOf] at h
      split at h
      · rename_i b hx
        cases h
        rw [hx] at hr
        rw [hr.lit_inv]
      · rename_i vs hx
        cases h
        rw [hx] at hr
        rw [hr.lit_inv]
      · cases h
    · have hget : a.tmps.getD d undef = undef := by simp [Array.getD, hlt]
      rw [hget] at hr
      rw [Array.getElem?_eq_none (by omega)]
      simp only [yldPV, yldOf] at h
      split at h
      · rename_i b hx
        rw [hx] at hr
        have := hr.lit_inv
        cases this
      · cases h; rfl
      · cases h

theorem pwL_ok {ops : Array Oper} (l : List Oper) : ∀ (st : St) (K : St → Prop), pwL P E ops l st K → ∀ g a w (ds : List Deferred) (g0 : G) (w0 : World) (Q : Exit → St → Prop), (∀ s, K s → Q .normal s) →
    Sim g st a w → WF g w → Ext g0 w0 g w → a.defers = ds → wpL P r ops (Post g0 w0 ds Q) l a w := by
  induction l with
  | nil => exact fun st K h g a w ds g0 w0 Q hq hs hw he hd => ⟨g, st, hq _ h, hs, hw, he, hd⟩
  | cons o l ih =>
    intro st K h g a w ds g0 w0 Q hq hs hw he hd
    have go : (pw1 P E o st fun s => pwL P E ops l s K) → o.wpIn (FR r) 0 P a w (wpL P r ops (Post g0 w0 ds Q) l) (Post g0 w0 ds Q) := fun h =>
      pw1_ok h g a w hs hw _ _ fun g' st' a' w' hk hs' hw' he' hd' => ih st' K hk g' a' w' ds g0 w0 Q hq hs' hw' (he.trans he') (hd'.trans hd)
    simp only [wpL]
    simp only [pwL] at h
    split at h
    · rename_i hg
      rw [if_pos (by simp [Region.wanted, hg])]
      exact go h
    · rename_i j b hg
      obtain ⟨y, hy, h12⟩ := onYld_iff.1 h
      obtain ⟨h1, h2⟩ := cnd_y.1 h12
      have hyl := yldPV_ok hs hy
      have hwant : Region.wanted o (yielded ops a.tmps) = (y == some b) := by simp [Region.wanted, hg, hyl]
      rw [hwant]
      by_cases e : y = some b
      · rw [if_pos (by simp [e])]; exact go (h1 e)
      · rw [if_neg (by simpa using e)]
        exact ih _ K (h2 e) g _ w ds g0 w0 Q hq (hs.put (.lit undef) _) hw he (by rw [Act.put_eq]; exact hd)

theorem Tr.region {id : Nat} {ops : Array Oper} {st : St} {Q : Exit → St → Prop} (h : pwL P E ops ops.toList st fun s => Q .normal s) : Tr P r (.region id ops false) st Q := by
  intro g a w hs hw
  refine wpIn_region ?_
  rw [List.range_eq_range', ← Array.length_toList]
  exact wpOpsIn_wpL ops.toList 0 (by simp) a w (pwL_ok ops.toList st _ h g a w a.defers g w Q (fun _ h => h) hs hw (Ext.refl g w) rfl)

/-! ### Functions -/

/-- What a function makes of its arguments and of the objects that it is handed. -/
def TrC (P : Program) (f : FuncId) (args : List PV) (h : List (Nat × Ob)) (R : PV → List (Nat × Ob) → Prop) : Prop :=
  ∀ g w vs, HeapSim g w h → WF g w → RepArgs g w args vs → CallsIn (FR none) 0 P f vs w fun e w' => ∃ v x g' h', e = .returned v ∧ R x h' ∧ Rep g' w' x v ∧ HeapSim g' w' h' ∧ WF g' w' ∧ Ext g w g' w'

theorem TrC.mono {f : FuncId} {args : List PV} {h : List (Nat × Ob)} {R R' : PV → List (Nat × Ob) → Prop} (hc : TrC P f args h R) (hr : ∀ x h', R x h' → R' x h') : TrC P f args h R' :=
  fun g w vs h1 h2 h3 => CallsIn.mono (hc g w vs h1 h2 h3) fun _ _ ⟨v, x, g', h', a1, a2, a3⟩ => ⟨v, x, g', h', a1, hr _ _ a2, a3⟩

def argR : Nat → List PV → List (Nat × PV)
  | _, [] => []
  | k, x :: xs => (k, x) :: argR (k + 1) xs

theorem getR_argR (xs : List PV) : ∀ k s, getR (argR k xs) s = if k ≤ s then xs[s - k]?.getD .dead else .dead := by
  induction xs with
  | nil => intro k s; simp [argR, getR]
  | cons x xs ih =>
    intro k s
    simp only [argR, getR]
    by_cases e : k = s
    · subst e; simp
    · rw [if_neg e, ih]
      by_cases h : k ≤ s
      · rw [if_pos h, if_pos (by omega), show s - k = s - (k + 1) + 1 by omega]; rfl
      · rw [if_neg h, if_neg (by omega)]

/-- The results' variables. -/
def resPV (P : Program) (st : St) : List ResultVar → Option (List PV)
  | [] => some []
  | .tmp t :: rs => (resPV P st rs).map (getR st.regs t :: ·)
  | .cell a t :: rs => match st.cellsAt (getR st.regs a) with
    | some xs => match ofCells P t xs, resPV P st rs with
      | some x, some ys => some (x :: ys)
      | _, _ => none
    | none => none

def retPV : List PV → PV
  | [x] => x
  | xs => .tup xs

def resOne (tmps : Array Value) : ResultVar → Sem Value
  | .tmp t => pure (tmps.getD t undef)
  | .cell a t => do loadVar t (← asAddr (tmps.getD a undef))

theorem resPV_run {st : St} {g : G} {a : Act} {w : World} (hs : Sim g st a w) : ∀ (rs : List ResultVar) (xs : List PV), resPV P st rs = some xs →
    ∃ vs : List Value, (rs.mapM (resOne a.tmps)).run P w = .ok vs w ∧ vs.length = xs.length ∧ ∀ (i : Nat) (x : PV) (v : Value), xs[i]? = some x → vs[i]? = some v → Rep g w x v := by
  intro rs
  induction rs with
  | nil => intro xs h; simp only [resPV, Option.some.injEq] at h; subst h; exact ⟨[], rfl, rfl, fun _ _ _ h => by simp at h⟩
  | cons q rs ih =>
    intro xs h
    have fin : ∀ (x : PV) (ys : List PV) (v : Value), xs = x :: ys → resPV P st rs = some ys → Rep g w x v →
        (resOne a.tmps q).run P w = .ok v w →
        ∃ vs : List Value, ((q :: rs).mapM (resOne a.tmps)).run P w = .ok vs w ∧ vs.length = xs.length ∧ ∀ (i : Nat) (x : PV) (v : Value), xs[i]? = some x → vs[i]? = some v → Rep g w x v := by
      intro x ys v hx hys hr hrun
      obtain ⟨vs, h1, h2, h3⟩ := ih ys hys
      subst hx
      refine ⟨v :: vs, ?_, by simp [h2], fun i z u hz hu => ?_⟩
      · rw [List.mapM_cons, Sem.run_bind]
        rw [hrun]
        simp only [Result.andThen_ok, Sem.run_bind, h1, Sem.run_pure]
      · cases i with
        | zero => simp at hz hu; subst hz; subst hu; exact hr
        | succ i => exact h3 i z u (by simpa using hz) (by simpa using hu)
    cases q with
    | tmp t =>
      simp only [resPV, Option.map_eq_some_iff] at h
      obtain ⟨ys, hys, rfl⟩ := h
      exact fin _ ys _ rfl hys (hs.regs t) rfl
    | cell q t =>
      simp only [resPV] at h
      cases hc : st.cellsAt (getR st.regs q) with
      | none => rw [hc] at h; simp at h
      | some zs =>
        rw [hc] at h
        simp only at h
        cases ho : ofCells P t zs with
        | none => rw [ho] at h; simp at h
        | some x =>
          cases hys : resPV P st rs with
          | none => rw [ho, hys] at h; simp at h
          | some ys =>
            rw [ho, hys] at h
            simp only [Option.some.injEq] at h
            obtain ⟨b, off, hb, hcells⟩ := cellsAt_rep hs hc (hs.regs q)
            obtain ⟨v, h1, h2⟩ := ofCells_load ho hcells
            exact fin x ys v h.symm hys h2 (by simp [resOne, hb, asAddr, h1])

theorem TrC.intro {f : FuncId} {fn : Func} {c : Code} {args : List PV} {h : List (Nat × Ob)} {R : PV → List (Nat × Ob) → Prop} (hf : P.funcs[f]? = some fn) (hb : fn.body = some c) (hn : args.length ≤ fn.ntmps)
    (ht : Tr P none c ⟨argR 0 args, h, fn.ntmps⟩ fun e s => match e with
      | .normal => ∃ xs, resPV P s fn.results.toList = some xs ∧ R (retPV xs) s.heap
      | .ret => ∃ xs, resPV P s fn.results.toList = some xs ∧ R (retPV xs) s.heap
      | _ => False) : TrC P f args h R := by
  intro g w vs hh hw ha
  have hsz : vs.size = args.length := ha.1
  have hs : Sim g ⟨argR 0 args, h, fn.ntmps⟩ { tmps := vs ++ Array.replicate (fn.ntmps - vs.size) undef, defers := [] } w := by
    refine ⟨fun s => ?_, by simp; omega, hh⟩
    show Rep g w (getR (argR 0 args) s) _
    rw [getR_argR, if_pos (Nat.zero_le _), Nat.sub_zero]
    by_cases hlt : s < args.length
    · have hx := List.getElem?_eq_getElem hlt
      have hv := Array.getElem?_eq_getElem (xs := vs) (i := s) (by omega)
      rw [hx]
      have : (vs ++ Array.replicate (fn.ntmps - vs.size) undef).getD s undef = vs[s]'(by omega) := by
        simp only [Array.getD_eq_getD_getElem?]
        rw [Array.getElem?_append_left (by omega), hv]; rfl
      rw [this]
      exact ha.2 s _ _ hx hv
    · rw [List.getElem?_eq_none (by omega)]; exact .dead _
  refine callsIn_of_wp hf hb trivial (wpIn_mono (ht g _ w hs hw) fun e a' w' hp => ?_)
  obtain ⟨g', st', h1, h2, h3, h4, h5⟩ := hp
  have fin : (∃ xs, resPV P st' fn.results.toList = some xs ∧ R (retPV xs) st'.heap) → a'.defers = [] ∧ ∃ v, (results fn a'.tmps).run P w' = .ok v w' ∧ ∃ v' x g'' h', Ending.returned v = .returned v' ∧ R x h' ∧ Rep g'' w' x v' ∧ HeapSim g'' w' h' ∧ WF g'' w' ∧ Ext g w g'' w' := by
    rintro ⟨xs, hx, hR⟩
    obtain ⟨us, e1, e2, e3⟩ := resPV_run h2 _ xs hx
    have hres : (results fn a'.tmps).run P w' = .ok (if h : us.length = 1 then us[0] else .tuple us.toArray) w' := by
      have e1' : (fn.results.mapM (resOne a'.tmps)).run P w' = .ok us.toArray w' := by
        rw [Array.mapM_eq_mapM_toList]
        simp [e1]
      have er : results fn a'.tmps = (do
        let vs ← fn.results.mapM (resOne a'.tmps)
        pure (if h : vs.size = 1 then vs[0] else .tuple vs)) := rfl
      rw [er, Sem.run_bind, e1']
      simp only [Result.andThen_ok, Sem.run_pure, List.size_toArray]
      split <;> rfl
    refine ⟨h5, _, hres, _, retPV xs, g', st'.heap, rfl, hR, ?_, h2.heap, h3, h4⟩
    split
    · rename_i hl
      match us, xs, hl, e2, e3 with
      | [u], [x], _, _, e3 => exact e3 0 x u rfl rfl
    · rename_i hl
      have : retPV xs = .tup xs := by
        match xs, e2 with
        | [], _ => rfl
        | [x], e2 => exact absurd e2 hl
        | _ :: _ :: _, _ => rfl
      rw [this]
      exact .tup xs us.toArray (by simpa using e2) (fun i x u hx' hu => e3 i x u hx' (by simpa using hu))
  cases e with
  | normal => exact fin h1
  | ret => exact fin h1
  | exit id => exact h1.elim
  | goto l => exact h1.elim
  | panic c => exact h1.elim
  | outgrown => exact h1.elim
end
end Go.Sy
