/- Lists of operations, regions; functions. (and what stands on it) -/
import Derived.Test.YtekokchejkjjjaaDoorN2
import Derived.RangeFuncLeaves
import Derived.OrdersIn
import Derived.Test.YtekokchejkjjjaaDoorN1
set_option linter.unusedSimpArgs false
set_option linter.unusedVariables false

/-! Lists of operations, regions; functions. -/
namespace Go.Sy

def slotOf (ops : Array Oper) (j : Nat) : Option Nat := (ops[j]?).bind (·.dst)

/-- What a guard's slot says. -/
def yldOf : PV → Option (Option Bool)
  | .lit (.bool b) => some (some b)
  | .lit (.tuple _) => some none
  | _ => none
def yldPV (st : St) : Option Nat → Option (Option Bool)
  | none => some none
  | some d => yldOf (getR st.regs d)

def onYld : Option (Option Bool) → (Option Bool → Prop) → Prop
  | some y, f => f y
  | none, _ => False

theorem onYld_iff {x : Option (Option Bool)} {f : Option Bool → Prop} : onYld x f ↔ ∃ y, x = some y ∧ f y := by
  cases x <;> simp [onYld]

theorem cnd_y {y : Option Bool} {b : Bool} {A B : Prop} : Cnd (y == some b) A B ↔ (y = some b → A) ∧ (y ≠ some b → B) := by
  by_cases h : y = some b
  · simp [h]
  · have : (y == some b) = false := by simpa using h
    rw [this]; simp [h]

def pwL (P : Program) (E : List (Spec P)) (ops : Array Oper) : List Oper → St → (St → Prop) → Prop
  | [], st, K => K st
  | o :: rest, st, K => match o.guard with
    | none => pwO P E o st fun s => pwL P E ops rest s K
    | some (j, b) => onYld (yldPV st (slotOf ops j)) fun y => Cnd (y == some b) (pwO P E o st fun s => pwL P E ops rest s K) (pwL P E ops rest (st.put o.dst (.lit undef)) K)

def wpL (P : Program) (r : Option Nat) (ops : Array Oper) (Q : Exit → Act → World → Prop) : List Oper → Act → World → Prop
  | [], a, w => Q .normal a w
  | o :: rest, a, w => if Region.wanted o (yielded ops a.tmps) then o.wpIn (FR r) 0 P a w (wpL P r ops Q rest) Q else wpL P r ops Q rest (a.put o.dst undef) w

section
variable {P : Program} {E : List (Spec P)} {r : Option Nat}

theorem wpOpsIn_wpL {ops : Array Oper} {Q : Exit → Act → World → Prop} (l : List Oper) : ∀ k, (∀ j, l[j]? = ops[k + j]?) → ∀ a w, wpL P r ops Q l a w → wpOpsIn (FR r) 0 P ops Q (List.range' k l.length) a w := by
  induction l with
  | nil => exact fun k _ a w h => h
  | cons o l ih =>
    intro k h a w hw
    have h0 : ops[k]? = some o := by simpa using (h 0).symm
    have ih' := ih (k + 1) (fun j => by have := h (j + 1); simpa [Nat.add_assoc, Nat.add_comm 1 j] using this)
    simp only [List.length_cons, List.range'_succ, wpOpsIn, h0]
    simp only [wpL] at hw
    split
    · rename_i hg
      rw [if_pos hg] at hw
      obtain ⟨h1, h2⟩ := hw
      refine ⟨h1, ?_⟩
      revert h2
      unfold Oper.uponIn
      split
      · exact ih' _ _
      · exact ih' _ _
      · exact ih' _ _
      · rintro ⟨h3, h4⟩
        refine ⟨h3, CallsIn.mono h4 fun e w' => ?_⟩
        cases e with
        | returned v => exact ih' _ _
        | panicked c => exact id
        | outgrown => exact id
      · rintro ⟨h3, h4⟩
        exact ⟨h3, RowsIn.mono h4 fun v w' => ih' _ _⟩
      · rintro ⟨h3, h4⟩
        refine ⟨h3, RoundIn.mono h4 fun e w' => ?_⟩
        cases e with
        | returned v => exact ih' _ _
        | panicked c => exact id
        | outgrown => exact id
      · exact id
      · exact id
    · rename_i hg
      rw [if_neg hg] at hw
      exact ⟨fun _ _ => trivial, ih' _ _ hw⟩

theorem yldPV_ok {st : St} {g : G} {a : Act} {w : World} (hs : Sim g st a w) {ops : Array Oper} {j : Nat} {y : Option Bool} (h : yldPV st (slotOf ops j) = some y) : yielded ops a.tmps j = y := by
  unfold yielded
  have e : (ops[j]?).bind (fun x => x.dst) = slotOf ops j := rfl
  rw [e]
  cases hd : slotOf ops j with
  | none => rw [hd] at h; simp [yldPV] at h; subst h; rfl
  | some d =>
    rw [hd] at h
    have hr := hs.regs d
    simp only [Option.bind_some]
    by_cases hlt : d < a.tmps.size
    · have hget : a.tmps.getD d undef = a.tmps[d] := by simp [Array.getD, hlt]
      rw [hget] at hr
      simp only [Array.getElem?_eq_getElem hlt]
      simp only [yldPV, yldOf] at h
      split at h
      · rename_i b hx
        cases h
        rw [hx] at hr
        rw [hr.lit_inv]
      · rename_i vs hx
        cases h
        rw [hx] at hr
        rw [hr.lit_inv]
      · cases h
    · have hget : a.tmps.getD d undef = undef := by simp [Array.getD, hlt]
      rw [hget] at hr
      rw [Array.getElem?_eq_none (by omega)]
      simp only [yldPV, yldOf] at h
      split at h
      · rename_i b hx
        rw [hx] at hr
        have := hr.lit_inv
        cases this
      · cases h; rfl
      · cases h

theorem pwL_ok {ops : Array Oper} (l : List Oper) : ∀ (st : St) (K : St → Prop), pwL P E ops l st K → ∀ g a w (ds : List Deferred) (g0 : G) (w0 : World) (Q : Exit → St → Prop), (∀ s, K s → Q .normal s) →
    Sim g st a w → WF g w → Ext g0 w0 g w → a.defers = ds → wpL P r ops (Post g0 w0 ds Q) l a w := by
  induction l with
  | nil => exact fun st K h g a w ds g0 w0 Q hq hs hw he hd => ⟨g, st, hq _ h, hs, hw, he, .same hd⟩
  | cons o l ih =>
    intro st K h g a w ds g0 w0 Q hq hs hw he hd
    have go : (pwO P E o st fun s => pwL P E ops l s K) → o.wpIn (FR r) 0 P a w (wpL P r ops (Post g0 w0 ds Q) l) (Post g0 w0 ds Q) := fun h =>
      pwO_ok h g a w hs hw _ _ fun g' st' a' w' hk hs' hw' he' hd' => ih st' K hk g' a' w' ds g0 w0 Q hq hs' hw' (he.trans he') (hd'.trans hd)
    simp only [wpL]
    simp only [pwL] at h
    split at h
    · rename_i hg
      rw [if_pos (by simp [Region.wanted, hg])]
      exact go h
    · rename_i j b hg
      obtain ⟨y, hy, h12⟩ := onYld_iff.1 h
      obtain ⟨h1, h2⟩ := cnd_y.1 h12
      have hyl := yldPV_ok hs hy
      have hwant : Region.wanted o (yielded ops a.tmps) = (y == some b) := by simp [Region.wanted, hg, hyl]
      rw [hwant]
      by_cases e : y = some b
      · rw [if_pos (by simp [e])]; exact go (h1 e)
      · rw [if_neg (by simpa using e)]
        exact ih _ K (h2 e) g _ w ds g0 w0 Q hq (hs.put (.lit undef) _) hw he (by rw [Act.put_eq]; exact hd)

theorem Tr.region {id : Nat} {ops : Array Oper} {st : St} {Q : Exit → St → Prop} (h : pwL P E ops ops.toList st fun s => Q .normal s) : Tr P r (.region id ops false) st Q := by
  intro g a w hs hw
  refine wpIn_region ?_
  rw [List.range_eq_range', ← Array.length_toList]
  exact wpOpsIn_wpL ops.toList 0 (by simp) a w (pwL_ok ops.toList st _ h g a w a.defers g w Q (fun _ h => h) hs hw (Ext.refl g w) rfl)

/-! ### Functions -/

/-- What a function makes of its arguments and of the objects that it is handed. -/
def TrC (P : Program) (f : FuncId) (args : List PV) (h : List (Nat × Ob)) (R : PV → List (Nat × Ob) → Prop) : Prop :=
  ∀ g w vs, HeapSim g w h → WF g w → RepArgs g w args vs → CallsIn (FR none) 0 P f vs w fun e w' => ∃ v x g' h', e = .returned v ∧ R x h' ∧ Rep g' w' x v ∧ HeapSim g' w' h' ∧ WF g' w' ∧ Ext g w g' w'

theorem TrC.mono {f : FuncId} {args : List PV} {h : List (Nat × Ob)} {R R' : PV → List (Nat × Ob) → Prop} (hc : TrC P f args h R) (hr : ∀ x h', R x h' → R' x h') : TrC P f args h R' :=
  fun g w vs h1 h2 h3 => CallsIn.mono (hc g w vs h1 h2 h3) fun _ _ ⟨v, x, g', h', a1, a2, a3⟩ => ⟨v, x, g', h', a1, hr _ _ a2, a3⟩

def argR : Nat → List PV → List (Nat × PV)
  | _, [] => []
  | k, x :: xs => (k, x) :: argR (k + 1) xs

theorem getR_argR (xs : List PV) : ∀ k s, getR (argR k xs) s = if k ≤ s then xs[s - k]?.getD .dead else .dead := by
  induction xs with
  | nil => intro k s; simp [argR, getR]
  | cons x xs ih =>
    intro k s
    simp only [argR, getR]
    by_cases e : k = s
    · subst e; simp
    · rw [if_neg e, ih]
      by_cases h : k ≤ s
      · rw [if_pos h, if_pos (by omega), show s - k = s - (k + 1) + 1 by omega]; rfl
      · rw [if_neg h, if_neg (by omega)]

/-- The results' variables. -/
def resPV (P : Program) (st : St) : List ResultVar → Option (List PV)
  | [] => some []
  | .tmp t :: rs => (resPV P st rs).map (getR st.regs t :: ·)
  | .cell a t :: rs => match st.cellsAt (getR st.regs a) with
    | some xs => match ofCells P t xs, resPV P st rs with
      | some x, some ys => some (x :: ys)
      | _, _ => none
    | none => none

def retPV : List PV → PV
  | [x] => x
  | xs => .tup xs

def resOne (tmps : Array Value) : ResultVar → Sem Value
  | .tmp t => pure (tmps.getD t undef)
  | .cell a t => do loadVar t (← asAddr (tmps.getD a undef))

theorem resPV_run {st : St} {g : G} {a : Act} {w : World} (hs : Sim g st a w) : ∀ (rs : List ResultVar) (xs : List PV), resPV P st rs = some xs →
    ∃ vs : List Value, (rs.mapM (resOne a.tmps)).run P w = .ok vs w ∧ vs.length = xs.length ∧ ∀ (i : Nat) (x : PV) (v : Value), xs[i]? = some x → vs[i]? = some v → Rep g w x v := by
  intro rs
  induction rs with
  | nil => intro xs h; simp only [resPV, Option.some.injEq] at h; subst h; exact ⟨[], rfl, rfl, fun _ _ _ h => by simp at h⟩
  | cons q rs ih =>
    intro xs h
    have fin : ∀ (x : PV) (ys : List PV) (v : Value), xs = x :: ys → resPV P st rs = some ys → Rep g w x v →
        (resOne a.tmps q).run P w = .ok v w →
        ∃ vs : List Value, ((q :: rs).mapM (resOne a.tmps)).run P w = .ok vs w ∧ vs.length = xs.length ∧ ∀ (i : Nat) (x : PV) (v : Value), xs[i]? = some x → vs[i]? = some v → Rep g w x v := by
      intro x ys v hx hys hr hrun
      obtain ⟨vs, h1, h2, h3⟩ := ih ys hys
      subst hx
      refine ⟨v :: vs, ?_, by simp [h2], fun i z u hz hu => ?_⟩
      · rw [List.mapM_cons, Sem.run_bind]
        rw [hrun]
        simp only [Result.andThen_ok, Sem.run_bind, h1, Sem.run_pure]
      · cases i with
        | zero => simp at hz hu; subst hz; subst hu; exact hr
        | succ i => exact h3 i z u (by simpa using hz) (by simpa using hu)
    cases q with
    | tmp t =>
      simp only [resPV, Option.map_eq_some_iff] at h
      obtain ⟨ys, hys, rfl⟩ := h
      exact fin _ ys _ rfl hys (hs.regs t) rfl
    | cell q t =>
      simp only [resPV] at h
      cases hc : st.cellsAt (getR st.regs q) with
      | none => rw [hc] at h; simp at h
      | some zs =>
        rw [hc] at h
        simp only at h
        cases ho : ofCells P t zs with
        | none => rw [ho] at h; simp at h
        | some x =>
          cases hys : resPV P st rs with
          | none => rw [ho, hys] at h; simp at h
          | some ys =>
            rw [ho, hys] at h
            simp only [Option.some.injEq] at h
            obtain ⟨b, off, hb, hcells⟩ := cellsAt_rep hs hc (hs.regs q)
            obtain ⟨v, h1, h2⟩ := ofCells_load ho hcells
            exact fin x ys v h.symm hys h2 (by simp [resOne, hb, asAddr, h1])

theorem TrC.intro {f : FuncId} {fn : Func} {c : Code} {args : List PV} {h : List (Nat × Ob)} {R : PV → List (Nat × Ob) → Prop} (hf : P.funcs[f]? = some fn) (hb : fn.body = some c) (hn : args.length ≤ fn.ntmps)
    (ht : Tr P none c ⟨argR 0 args, h, fn.ntmps⟩ fun e s => match e with
      | .normal => ∃ xs, resPV P s fn.results.toList = some xs ∧ R (retPV xs) s.heap
      | .ret => ∃ xs, resPV P s fn.results.toList = some xs ∧ R (retPV xs) s.heap
      | _ => False) : TrC P f args h R := by
  intro g w vs hh hw ha
  have hsz : vs.size = args.length := ha.1
  have hs : Sim g ⟨argR 0 args, h, fn.ntmps⟩ { tmps := vs ++ Array.replicate (fn.ntmps - vs.size) undef, defers := [] } w := by
    refine ⟨fun s => ?_, by simp; omega, hh⟩
    show Rep g w (getR (argR 0 args) s) _
    rw [getR_argR, if_pos (Nat.zero_le _), Nat.sub_zero]
    by_cases hlt : s < args.length
    · have hx := List.getElem?_eq_getElem hlt
      have hv := Array.getElem?_eq_getElem (xs := vs) (i := s) (by omega)
      rw [hx]
      have : (vs ++ Array.replicate (fn.ntmps - vs.size) undef).getD s undef = vs[s]'(by omega) := by
        simp only [Array.getD_eq_getD_getElem?]
        rw [Array.getElem?_append_left (by omega), hv]; rfl
      rw [this]
      exact ha.2 s _ _ hx hv
    · rw [List.getElem?_eq_none (by omega)]; exact .dead _
  refine callsIn_of_wp_marks hf hb trivial (wpIn_mono (ht g _ w hs hw) fun e a' w' hp => ?_)
  obtain ⟨g', st', h1, h2, h3, h4, rs, hdef0, hnod, hrs⟩ := hp
  have fin0 : (∃ xs, resPV P st' fn.results.toList = some xs ∧ R (retPV xs) st'.heap) → ∀ w', Sim g' st' a' w' → WF g' w' → Ext g w g' w' → ∃ v, (results fn a'.tmps).run P w' = .ok v w' ∧ ∃ v' x g'' h', Ending.returned v = .returned v' ∧ R x h' ∧ Rep g'' w' x v' ∧ HeapSim g'' w' h' ∧ WF g'' w' ∧ Ext g w g'' w' := by
    rintro ⟨xs, hx, hR⟩ w' h2 h3 h4
    obtain ⟨us, e1, e2, e3⟩ := resPV_run h2 _ xs hx
    have hres : (results fn a'.tmps).run P w' = .ok (if h : us.length = 1 then us[0] else .tuple us.toArray) w' := by
      have e1' : (fn.results.mapM (resOne a'.tmps)).run P w' = .ok us.toArray w' := by
        rw [Array.mapM_eq_mapM_toList]
        simp [e1]
      have er : results fn a'.tmps = (do
        let vs ← fn.results.mapM (resOne a'.tmps)
        pure (if h : vs.size = 1 then vs[0] else .tuple vs)) := rfl
      rw [er, Sem.run_bind, e1']
      simp only [Result.andThen_ok, Sem.run_pure, List.size_toArray]
      split <;> rfl
    refine ⟨_, hres, _, retPV xs, g', st'.heap, rfl, hR, ?_, h2.heap, h3, h4⟩
    split
    · rename_i hl
      match us, xs, hl, e2, e3 with
      | [u], [x], _, _, e3 => exact e3 0 x u rfl rfl
    · rename_i hl
      have : retPV xs = .tup xs := by
        match xs, e2 with
        | [], _ => rfl
        | [x], e2 => exact absurd e2 hl
        | _ :: _ :: _, _ => rfl
      rw [this]
      exact .tup xs us.toArray (by simpa using e2) (fun i x u hx' hu => e3 i x u hx' (by simpa using hu))
  have fin : (∃ xs, resPV P st' fn.results.toList = some xs ∧ R (retPV xs) st'.heap) → LeavesInM (FR none) 0 P fn a'.tmps (fun e w' => ∃ v x g' h', e = .returned v ∧ R x h' ∧ Rep g' w' x v ∧ HeapSim g' w' h' ∧ WF g' w' ∧ Ext g w g' w') a'.defers .returning w' := by
    intro hx
    have hdef : a'.defers = rs.map markOf := by rw [hdef0]; simp
    rw [hdef]
    clear hdef hdef0
    revert h2 h3 h4 hrs
    induction rs generalizing w' with
    | nil => exact fun h2 h3 h4 _ => fin0 hx w' h2 h3 h4
    | cons r rs ih =>
      intro h2 h3 h4 hrs
      obtain ⟨q1, q2, q3, q4, q5⟩ := hrs r (by simp)
      refine ⟨by simp, .inl ⟨r, w'.putObj r (.deferred none), rfl, run_takeDeferred q3, ?_⟩⟩
      have hk : ∀ b, b ≠ r → (w'.putObj r (.deferred none)).heap[b]? = w'.heap[b]? := fun b hb => World.putObj_heap_other hb
      have hne : ∀ o b off n c, Acc g' w' o b off n c → b ≠ r := fun o b off n c ha e => by
        subst e
        cases o with
        | imm => exact q5 ha.1
        | rd => exact q5 ha
        | own t => rcases ha with ⟨l1, l2, _⟩ | ⟨hI, _⟩ <;> first | exact q4 (.inr ⟨t, l1, l2.symm⟩) | exact q5 hI.1
        | vw t => rcases ha with hI | ⟨l1, l2, _⟩ <;> first | exact q5 hI.1 | exact q4 (.inr ⟨t, l1, l2.symm⟩)
      have ht' : Turns g' w' g' (w'.putObj r (.deferred none)) some some := by
        refine ⟨fun b hb => ⟨hb, hk b fun e => q5 (e ▸ hb)⟩, fun o o' b off n c hF ha => ?_, fun i j h => by cases h; rfl, lax_some, rfl⟩
        cases hF
        have hb := hk b (hne _ _ _ _ _ ha)
        refine ⟨?_, fun k _ _ => cell_of_heap hb⟩
        cases o with
        | imm => exact ha
        | rd => exact ha
        | own t =>
          rcases ha with ⟨a1, a2, a3, a4⟩ | ha
          · exact .inl ⟨a1, a2, a3, a4.same hb⟩
          · exact .inr ha
        | vw t => exact ha
      refine ih _ (List.nodup_cons.1 hnod).2 ?_ (h3.sameSize World.putObj_size fun b hb => hk b fun e => q5 (e ▸ hb)) ?_ fun r' hr' => ?_
      · have := h2.turn ht' fun i j hp hd => by cases hp; exact ⟨hd, hk _ fun e => q4 (.inl ⟨i, hd, e⟩)⟩
        rwa [id_scrub_st] at this
      · exact ⟨h4.os, h4.tape, h4.output, by rw [World.putObj_size]; exact h4.size, fun b hb ho => (hk b (by omega)).trans (h4.keep b hb ho), h4.own, h4.imm, h4.ext, h4.rd⟩
      · obtain ⟨p1, p2, p3, p4⟩ := hrs r' (by simp [hr'])
        have hrr : r' ≠ r := fun e => (List.nodup_cons.1 hnod).1 (e ▸ hr')
        exact ⟨p1, by rw [World.putObj_size]; exact p2, (hk r' hrr).trans p3, p4⟩
  cases e with
  | normal => exact fin h1
  | ret => exact fin h1
  | exit id => exact h1.elim
  | goto l => exact h1.elim
  | panic c => exact h1.elim
  | outgrown => exact h1.elim
end
end Go.Sy

/-! A region that draws its order of evaluation: one evaluation in an order of ours, where each operation is looked at wherever it may come up. -/
namespace Go.Sy

def pwG (P : Program) (E : List (Spec P)) (ops : Array Oper) (o : Oper) (st : St) (K : St → Prop) : Prop :=
  match o.guard with
  | none => pw1 P E o st K
  | some (j, b) => onYld (yldPV st (slotOf ops j)) fun y => Cnd (y == some b) (pw1 P E o st K) (K (st.put o.dst (.lit undef)))

def isPure (P : Program) (o : Oper) : Bool :=
  match o.op with
  | .store _ _ _ => false
  | .alloc _ => false
  | .slice _ _ _ _ (some _) => false
  | .box _ _ => false
  | .buildSlice _ _ _ => false
  | .makeSlice _ _ _ => false
  | .makeMap _ _ => false
  | .mapEntry _ _ _ => false
  | .entryStore _ _ _ _ => false
  | .mapUpdate _ _ _ _ => false
  | .insert _ _ _ _ => false
  | .convert _ d _ => match P.underlying d with
    | some (.slice _) => false
    | _ => true
  | .call c => match c.callee with
    | .builtin .append => false
    | .builtin _ => true
    | _ => false
  | _ => true

theorem mapT_id (st : St) : st.mapT (fun x => x) st.heap = st := by
  simp [St.mapT, mapR_id]

section
variable {P : Program} {E : List (Spec P)} {r : Option Nat} {ops : Array Oper}

theorem mem_looks {o : Oper} {t : Tmp} (h : Operand.tmp t ∈ o.op.operands) : t ∈ o.looksAt ops :=
  List.mem_append_left _ (List.mem_filterMap.2 ⟨.tmp t, by simpa using h, rfl⟩)

theorem ev_agree {o : Oper} {rs rs' : List (Nat × PV)} {h : List (Nat × Ob)} {n : Nat} (hg : ∀ s, s ∈ o.looksAt ops → getR rs' s = getR rs s) {x : Operand} (hx : x ∈ o.op.operands) :
    (St.mk rs' h n).ev x = (St.mk rs h n).ev x := by
  cases x with
  | tmp t => exact hg t (mem_looks hx)
  | const v => rfl
  | global gl => rfl
  | func f => rfl

/-- What stands behind an operation, said of any other slots. -/
def Spc (P : Program) (ops : Array Oper) (pw : St → (St → Prop) → Prop) (o : Oper) (st : St) (K : St → Prop) : Prop :=
  ∃ T h' x, T PV.dead = PV.dead ∧ K ((st.mapT T h').put o.dst x) ∧ (isPure P o = true → T = (fun x => x) ∧ h' = st.heap) ∧
    ∀ rs', (∀ s, s ∈ o.looksAt ops → getR rs' s = getR st.regs s) → pw ⟨rs', st.heap, st.nt⟩ (· = ((St.mk rs' st.heap st.nt).mapT T h').put o.dst x)

theorem Spc.pure {pw : St → (St → Prop) → Prop} {o : Oper} {st : St} {K : St → Prop} (x : PV) (hk : K (st.put o.dst x))
    (h : ∀ rs', (∀ s, s ∈ o.looksAt ops → getR rs' s = getR st.regs s) → pw ⟨rs', st.heap, st.nt⟩ (· = (St.mk rs' st.heap st.nt).put o.dst x)) : Spc P ops pw o st K := by
  refine ⟨fun x => x, st.heap, x, rfl, by rw [mapT_id]; exact hk, fun _ => ⟨rfl, rfl⟩, fun rs' hg => ?_⟩
  have e : (St.mk rs' st.heap st.nt).mapT (fun x => x) st.heap = St.mk rs' st.heap st.nt := mapT_id (St.mk rs' st.heap st.nt)
  rw [e]; exact h rs' hg

theorem mapR_mapR (S T : PV → PV) (r : List (Nat × PV)) : mapR S (mapR T r) = mapR (fun x => S (T x)) r := by
  induction r with
  | nil => rfl
  | cons c r ih => obtain ⟨k, x⟩ := c; simp only [mapR, ih]

/-- A change of names that is the same whatever else stands in slots. -/
def Nat1 (f : St → St) : Prop := ∀ h n, ∃ T h', T PV.dead = PV.dead ∧ ∀ rs, f ⟨rs, h, n⟩ = (St.mk rs h n).mapT T h'

theorem Nat1.scrub (F : Own → Option Own) (p : Nat → Option Nat) : Nat1 (fun st => st.scrub F p) :=
  fun h n => ⟨PV.scrub F p, scrubO F p h, by simp only [PV.scrub], fun rs => by simp only [St.scrub, St.mapT, scrubR_eq]⟩

theorem Nat1.comp {f k : St → St} (hf : Nat1 f) (hk : Nat1 k) : Nat1 (fun st => f (k st)) := by
  intro h n
  obtain ⟨T, h1, hT, e1⟩ := hk h n
  obtain ⟨S, h2, hS, e2⟩ := hf h1 n
  refine ⟨fun x => S (T x), h2, by simp only [hT, hS], fun rs => ?_⟩
  simp only [e1]
  have : (St.mk rs h n).mapT T h1 = St.mk (mapR T rs) h1 n := rfl
  rw [this, e2]
  simp [St.mapT, mapR_mapR]

theorem Nat1.heap (k : List (Nat × Ob) → List (Nat × Ob)) : Nat1 (fun st => { st with heap := k st.heap }) :=
  fun h n => ⟨fun x => x, k h, rfl, fun rs => by simp only [St.mapT, mapR_id]⟩

theorem Nat1.setOb (id : Nat) (ob : Ob) : Nat1 (fun st => st.setOb id ob) := Nat1.heap fun h => setO h id ob

theorem Nat1.self : Nat1 (fun st => st) := fun h n => ⟨fun x => x, h, rfl, fun rs => (mapT_id (St.mk rs h n)).symm⟩

theorem Spc.nat {pw : St → (St → Prop) → Prop} {o : Oper} {st : St} {K : St → Prop} {f : St → St} (hf : Nat1 f) (x : PV) (hk : K ((f st).put o.dst x)) (hp : isPure P o = false)
    (h : ∀ rs', (∀ s, s ∈ o.looksAt ops → getR rs' s = getR st.regs s) → pw ⟨rs', st.heap, st.nt⟩ (· = (f (St.mk rs' st.heap st.nt)).put o.dst x)) : Spc P ops pw o st K := by
  obtain ⟨T, h', hT, e⟩ := hf st.heap st.nt
  refine ⟨T, h', x, hT, ?_, fun h => (by rw [hp] at h; cases h), fun rs' hg => ?_⟩
  · have : f st = st.mapT T h' := e st.regs
    rw [← this]; exact hk
  · rw [← e rs']; exact h rs' hg

theorem Nat1.fz (ts : List Tk) : Nat1 (fun st => st.fz ts) := by
  unfold St.fz
  by_cases h : ts.isEmpty = true
  · simp only [h, if_true]; exact Nat1.self
  · simp only [h, if_false, Bool.false_eq_true]; exact Nat1.scrub _ _

theorem Nat1.off (d : Nat) : Nat1 (fun st => st.off d) := by
  unfold St.off; exact Nat1.scrub _ _

theorem Nat1.box (d : Nat) (xs : List PV) : Nat1 (boxSt d xs) :=
  (Nat1.heap fun h => (d, Ob.cells (PV.scrubL (Fren (tokAt d xs 0)) (offId d) xs)) :: h).comp (Nat1.scrub (Fren (tokAt d xs 0)) (offId d))

theorem pokeR_eq (t : Tk) (k : Nat) (x : PV) (r : List (Nat × PV)) : pokeR t k x r = mapR (pokeV t k x) r := by
  induction r with
  | nil => rfl
  | cons c r ih => obtain ⟨i, y⟩ := c; simp only [mapR, pokeR, ih]
theorem Nat1.poke (t : Tk) (k : Nat) (x : PV) : Nat1 (fun st => st.poke t k x) :=
  fun h n => ⟨pokeV t k x, scrubO (Fren (noTk t)) some h, pokeV_dead t k x, fun rs => by simp only [St.poke, St.mapT, pokeR_eq]⟩

theorem storeSt_nat {t : TypeId} {rs : List (Nat × PV)} {h : List (Nat × Ob)} {n : Nat} {p x : PV} {st' : St} (hs : storeSt P t ⟨rs, h, n⟩ p x = some st') :
    ∃ f, Nat1 f ∧ st' = f ⟨rs, h, n⟩ ∧ ∀ rs', storeSt P t ⟨rs', h, n⟩ p x = some (f ⟨rs', h, n⟩) := by
  unfold storeSt at hs
  split at hs
  · rename_i id off
    split at hs
    · rename_i xs ho
      split at hs
      · rename_i hc
        split at hs
        · rename_i q nl s ys
          split at hs
          · rename_i hq
            cases hs
            refine ⟨fun st => st.setOb id (.cells (writeAt xs off [.sl (.own q) nl s ys])), Nat1.setOb _ _, rfl, fun rs' => ?_⟩
            simp only [storeSt]
            rw [show getO h id = some (.cells xs) from ho]
            simp only
            rw [if_pos hc, if_pos hq]
          · rename_i hq
            cases hs
            refine ⟨fun st => (st.scrub (Fren (adoptTk id off q)) some).setOb id (.cells (writeAt (PV.scrubL (Fren (adoptTk id off q)) some xs) off [.sl (.own (.cell id off)) nl s ys])), (Nat1.setOb _ _).comp (Nat1.scrub _ _), rfl, fun rs' => ?_⟩
            simp only [storeSt]
            rw [show getO h id = some (.cells xs) from ho]
            simp only
            rw [if_pos hc, if_neg hq]
        · rename_i ys
          split at hs
          · rename_i hq
            cases hs
            refine ⟨fun st => st.setOb id (.cells (writeAt xs off ys)), Nat1.setOb _ _, rfl, fun rs' => ?_⟩
            simp only [storeSt]
            rw [show getO h id = some (.cells xs) from ho]
            simp only
            rw [if_pos hc, if_pos hq]
          · rename_i hq0
            split at hs
            · rename_i hq
              cases hs
              refine ⟨fun st => (st.scrub (Ffz (fzOf (ownT ys))) some).setOb id (.cells (writeAt (PV.scrubL (Ffz (fzOf (ownT ys))) some xs) off (PV.scrubL (Ffz (fzOf (ownT ys))) some ys))), (Nat1.setOb _ _).comp (Nat1.scrub _ _), rfl, fun rs' => ?_⟩
              simp only [storeSt]
              rw [show getO h id = some (.cells xs) from ho]
              simp only
              rw [if_pos hc, if_neg hq0, if_pos hq]
            · cases hs
        · rename_i h1 h2
          cases hs
          refine ⟨fun st => st.setOb id (.cells (writeAt xs off [x])), Nat1.setOb _ _, rfl, fun rs' => ?_⟩
          unfold storeSt
          simp only
          rw [show getO h id = some (.cells xs) from ho]
          simp only
          rw [if_pos hc]
          try rfl
      · cases hs
    · cases hs
  · rename_i n zs
    split at hs
    · rename_i v
      split at hs
      · rename_i hc
        cases hs
        refine ⟨fun st => st.poke (.loc n) zs.length (.lit v), Nat1.poke _ _ _, rfl, fun rs' => ?_⟩
        simp only [storeSt]
        rw [if_pos hc]
      · cases hs
    · cases hs
  · cases hs

theorem Nat1.mapSt (d : Nat) : Nat1 (mapSt d) := (Nat1.heap fun h => (d, Ob.map []) :: h).comp (Nat1.off d)
theorem mapEntry_nat {t : TypeId} {rs : List (Nat × PV)} {h : List (Nat × Ob)} {n : Nat} {m k x : PV} {st' : St} (hs : mapEntryPV P t ⟨rs, h, n⟩ m k = some (st', x)) :
    ∃ f, Nat1 f ∧ st' = f ⟨rs, h, n⟩ ∧ ∀ rs', mapEntryPV P t ⟨rs', h, n⟩ m k = some (f ⟨rs', h, n⟩, x) := by
  unfold mapEntryPV at hs
  split at hs
  · rename_i kt e id hu
    split at hs
    · rename_i es ho
      split at hs
      · rename_i hc
        split at hs
        · rename_i j hf
          rw [Option.map_eq_some_iff] at hs
          obtain ⟨y, hy, hx⟩ := hs
          cases hx
          refine ⟨fun st => st, Nat1.self, rfl, fun rs' => ?_⟩
          simp only [mapEntryPV, hu]
          rw [show getO h id = some (.map es) from ho]
          simp only
          rw [if_pos hc, hf]
          simp only [hy, Option.map_some]
        · rename_i hf
          rw [Option.map_eq_some_iff] at hs
          obtain ⟨y, hy, hx⟩ := hs
          cases hx
          refine ⟨fun st => st.setOb id (.map (es ++ [(k, y)])), Nat1.setOb _ _, rfl, fun rs' => ?_⟩
          simp only [mapEntryPV, hu]
          rw [show getO h id = some (.map es) from ho]
          simp only
          rw [if_pos hc, hf]
          simp only [hy, Option.map_some]
      · cases hs
    · cases hs
  · cases hs
theorem entrySt_nat {rs : List (Nat × PV)} {h : List (Nat × Ob)} {n : Nat} {m s x : PV} {st' : St} (hs : entrySt ⟨rs, h, n⟩ m s x = some st') :
    ∃ f, Nat1 f ∧ st' = f ⟨rs, h, n⟩ ∧ ∀ rs', entrySt ⟨rs', h, n⟩ m s x = some (f ⟨rs', h, n⟩) := by
  unfold entrySt at hs
  split at hs
  · rename_i id κ j
    split at hs
    · rename_i es ho
      split at hs
      · rename_i hc
        split at hs
        · rename_i q nl z ys
          split at hs
          · rename_i hq
            cases hs
            refine ⟨fun st => st.setOb id (.map (putV es j.toNat (.sl (.own q) nl z ys))), Nat1.setOb _ _, rfl, fun rs' => ?_⟩
            simp only [entrySt]
            rw [show getO h id = some (.map es) from ho]
            simp only
            rw [if_pos hc, if_pos hq]
          · rename_i hq
            cases hs
            refine ⟨fun st => (st.scrub (Fren (adoptTk id j.toNat q)) some).setOb id (.map (putV (scrubM (Fren (adoptTk id j.toNat q)) some es) j.toNat (.sl (.own (.cell id j.toNat)) nl z ys))), (Nat1.setOb _ _).comp (Nat1.scrub _ _), rfl, fun rs' => ?_⟩
            simp only [entrySt]
            rw [show getO h id = some (.map es) from ho]
            simp only
            rw [if_pos hc, if_neg hq]
        · rename_i hx
          split at hs
          · rename_i hfl
            cases hs
            refine ⟨fun st => st.setOb id (.map (putV es j.toNat x)), Nat1.setOb _ _, rfl, fun rs' => ?_⟩
            unfold entrySt
            simp only
            rw [show getO h id = some (.map es) from ho]
            simp only
            rw [if_pos hc, if_pos hfl]
            try rfl
          · cases hs
      · cases hs
    · cases hs
  · cases hs
theorem mapUpd_nat {t : TypeId} {rs : List (Nat × PV)} {h : List (Nat × Ob)} {n : Nat} {m k x : PV} {st' : St} (hs : mapUpdSt P t ⟨rs, h, n⟩ m k x = some st') :
    ∃ f, Nat1 f ∧ st' = f ⟨rs, h, n⟩ ∧ ∀ rs', mapUpdSt P t ⟨rs', h, n⟩ m k x = some (f ⟨rs', h, n⟩) := by
  unfold mapUpdSt at hs
  split at hs
  · rename_i st1 y s he
    obtain ⟨f, hf, rfl, hall⟩ := mapEntry_nat he
    obtain ⟨T, h', hT, e⟩ := hf h n
    have e1 : f ⟨rs, h, n⟩ = ⟨mapR T rs, h', n⟩ := e rs
    rw [e1] at hs
    obtain ⟨f2, hf2, rfl, hall2⟩ := entrySt_nat hs
    refine ⟨fun st => f2 (f st), hf2.comp hf, by simp only [e1], fun rs' => ?_⟩
    simp only [mapUpdSt, hall]
    have e2 : f ⟨rs', h, n⟩ = ⟨mapR T rs', h', n⟩ := e rs'
    rw [e2]
    exact hall2 _
  · cases hs

theorem pw1_spc {o : Oper} {st : St} {K : St → Prop} (h : pw1 P E o st K) : Spc P ops (OpOK P r o) o st K := by
  obtain ⟨rs, hp, n⟩ := st
  have hev : ∀ rs', (∀ s, s ∈ o.looksAt ops → getR rs' s = getR rs s) → ∀ x, x ∈ o.op.operands → (St.mk rs' hp n).ev x = (St.mk rs hp n).ev x := fun rs' hg x hx => ev_agree hg hx
  have hmap : ∀ rs', (∀ s, s ∈ o.looksAt ops → getR rs' s = getR rs s) → ∀ xs : Array Operand, (∀ x, x ∈ xs → x ∈ o.op.operands) → xs.toList.map (St.mk rs' hp n).ev = xs.toList.map (St.mk rs hp n).ev :=
    fun rs' hg xs hx => List.map_congr_left fun x hx' => hev rs' hg x (hx x (by simpa using hx'))
  unfold pw1 at h
  split at h
  · rename_i x ho
    refine Spc.pure _ h fun rs' hg => ?_
    refine pw1_ok (E := E) ?_
    unfold pw1; simp only [ho]; rw [hev rs' hg x (by simp [ho, Op.operands])]
  · rename_i x ho
    refine Spc.pure _ h fun rs' hg => ?_
    refine pw1_ok (E := E) ?_
    unfold pw1; simp only [ho]; rw [hev rs' hg x (by simp [ho, Op.operands])]
  · rename_i c x y ho
    obtain ⟨t, ht, hk⟩ := onBool_iff.1 h
    refine Spc.pure _ hk fun rs' hg => ?_
    refine pw1_ok (E := E) ?_
    unfold pw1; simp only [ho]
    refine onBool_iff.2 ⟨t, by rw [hev rs' hg c (by simp [ho, Op.operands])]; exact ht, ?_⟩
    rw [hev rs' hg x (by simp [ho, Op.operands]), hev rs' hg y (by simp [ho, Op.operands])]
  · rename_i op t x y yt ho
    obtain ⟨q, hq, hk⟩ := h
    refine Spc.pure _ hk fun rs' hg => ?_
    refine pw1_ok (E := E) ?_
    unfold pw1; simp only [ho]
    exact ⟨q, by rw [hev rs' hg x (by simp [ho, Op.operands]), hev rs' hg y (by simp [ho, Op.operands])]; exact hq, rfl⟩
  · rename_i op t x ho
    obtain ⟨q, hq, hk⟩ := h
    refine Spc.pure _ hk fun rs' hg => ?_
    refine pw1_ok (E := E) ?_
    unfold pw1; simp only [ho]
    exact ⟨q, by rw [hev rs' hg x (by simp [ho, Op.operands])]; exact hq, rfl⟩
  · rename_i s d x ho
    unfold convK at h
    split at h
    · rename_i e hd
      split at h
      · rename_i n' sz xs hx
        obtain ⟨he1, he, hk⟩ := h
        refine Spc.nat Nat1.self _ hk (by simp only [isPure, ho, hd]) fun rs' hg => ?_
        refine pw1_ok (E := E) ?_
        unfold pw1; simp only [ho]
        rw [hev rs' hg x (by simp [ho, Op.operands]), hx]
        unfold convK
        simp only [hd]
        exact ⟨he1, he, trivial⟩
      · rename_i b n' hx hdst
        obtain ⟨hu, he, hb, hn1, hk⟩ := h
        refine Spc.nat (Nat1.off n') (.sl (.own (.loc n')) false 1 (b.data.toList.map fun c => .lit (.int .u8 c.toNat))) hk (by simp only [isPure, ho, hd]) fun rs' hg => ?_
        refine pw1_ok (E := E) ?_
        unfold pw1; simp only [ho]
        rw [hev rs' hg x (by simp [ho, Op.operands]), hx, hdst]
        unfold convK
        simp only [hd]
        exact ⟨hu, he, hb, hn1, trivial⟩
      · exact h.elim
    · rename_i hne
      obtain ⟨q, hq, hk⟩ := h
      refine Spc.pure _ hk fun rs' hg => ?_
      refine pw1_ok (E := E) ?_
      unfold pw1; simp only [ho]
      rw [hev rs' hg x (by simp [ho, Op.operands])]
      unfold convK
      split
      · rename_i e hd; exact absurd hd (hne e)
      · exact ⟨q, hq, rfl⟩
  · rename_i t x ho
    obtain ⟨q, hq, hk⟩ := h
    refine Spc.pure _ hk fun rs' hg => ?_
    refine pw1_ok (E := E) ?_
    unfold pw1; simp only [ho]
    exact ⟨q, by rw [hev rs' hg x (by simp [ho, Op.operands])]; exact hq, rfl⟩
  · rename_i t x y ho
    obtain ⟨st', hq, hk⟩ := h
    obtain ⟨f, hf, rfl, hall⟩ := storeSt_nat hq
    refine Spc.nat hf _ hk (by simp only [isPure, ho]) fun rs' hg => ?_
    refine pw1_ok (E := E) ?_
    unfold pw1; simp only [ho]
    exact ⟨_, by rw [hev rs' hg x (by simp [ho, Op.operands]), hev rs' hg y (by simp [ho, Op.operands])]; exact hall rs', rfl⟩
  · rename_i x ho
    obtain ⟨q, hq, hk⟩ := h
    refine Spc.pure _ hk fun rs' hg => ?_
    refine pw1_ok (E := E) ?_
    unfold pw1; simp only [ho]
    exact ⟨q, by rw [hev rs' hg x (by simp [ho, Op.operands])]; exact hq, rfl⟩
  · rename_i s x f ho
    obtain ⟨q, hq, hk⟩ := h
    refine Spc.pure _ hk fun rs' hg => ?_
    refine pw1_ok (E := E) ?_
    unfold pw1; simp only [ho]
    exact ⟨q, by rw [hev rs' hg x (by simp [ho, Op.operands])]; exact hq, rfl⟩
  · rename_i s x f ho
    obtain ⟨q, hq, hk⟩ := h
    refine Spc.pure _ hk fun rs' hg => ?_
    refine pw1_ok (E := E) ?_
    unfold pw1; simp only [ho]
    exact ⟨q, by rw [hev rs' hg x (by simp [ho, Op.operands])]; exact hq, rfl⟩
  · rename_i t x i ho
    obtain ⟨q, hq, hk⟩ := h
    refine Spc.pure _ hk fun rs' hg => ?_
    refine pw1_ok (E := E) ?_
    unfold pw1; simp only [ho]
    exact ⟨q, by rw [hev rs' hg x (by simp [ho, Op.operands]), hev rs' hg i (by simp [ho, Op.operands])]; exact hq, rfl⟩
  · rename_i t x i ho
    obtain ⟨q, hq, hk⟩ := h
    refine Spc.pure _ hk fun rs' hg => ?_
    refine pw1_ok (E := E) ?_
    unfold pw1; simp only [ho]
    exact ⟨q, by rw [hev rs' hg x (by simp [ho, Op.operands]), hev rs' hg i (by simp [ho, Op.operands])]; exact hq, rfl⟩
  · rename_i t x lo hi ho
    obtain ⟨q, hq, hk⟩ := h
    refine Spc.pure _ hk fun rs' hg => ?_
    refine pw1_ok (E := E) ?_
    unfold pw1; simp only [ho]
    have e1 : lo.map (St.mk rs' hp n).ev = lo.map (St.mk rs hp n).ev := by
      cases lo with
      | none => rfl
      | some y => simp only [Option.map_some]; rw [hev rs' hg y (by simp [ho, Op.operands])]
    have e2 : hi.map (St.mk rs' hp n).ev = hi.map (St.mk rs hp n).ev := by
      cases hi with
      | none => rfl
      | some y => simp only [Option.map_some]; rw [hev rs' hg y (by simp [ho, Op.operands])]
    exact ⟨q, by rw [hev rs' hg x (by simp [ho, Op.operands]), e1, e2]; exact hq, rfl⟩
  · rename_i t x lo hi m ho
    obtain ⟨q, d, hd, hq, hk⟩ := h
    refine Spc.nat (f := fun st => st.fz q.1) (Nat1.fz _) _ hk (by simp only [isPure, ho]) fun rs' hg => ?_
    refine pw1_ok (E := E) ?_
    unfold pw1; simp only [ho]
    have e1 : lo.map (St.mk rs' hp n).ev = lo.map (St.mk rs hp n).ev := by
      cases lo with
      | none => rfl
      | some y => simp only [Option.map_some]; rw [hev rs' hg y (by simp [ho, Op.operands])]
    have e2 : hi.map (St.mk rs' hp n).ev = hi.map (St.mk rs hp n).ev := by
      cases hi with
      | none => rfl
      | some y => simp only [Option.map_some]; rw [hev rs' hg y (by simp [ho, Op.operands])]
    exact ⟨q, d, hd, by rw [hev rs' hg x (by simp [ho, Op.operands]), hev rs' hg m (by simp [ho, Op.operands]), e1, e2]; exact hq, rfl⟩
  · rename_i x i ho
    obtain ⟨q, hq, hk⟩ := h
    refine Spc.pure _ hk fun rs' hg => ?_
    refine pw1_ok (E := E) ?_
    unfold pw1; simp only [ho]
    exact ⟨q, by rw [hev rs' hg x (by simp [ho, Op.operands])]; exact hq, rfl⟩
  · rename_i fn first cap ho
    refine Spc.pure _ h fun rs' hg => ?_
    refine pw1_ok (E := E) ?_
    unfold pw1; simp only [ho]
    rw [hmap rs' hg first (fun x hx => by simp [ho, Op.operands, hx]), hmap rs' hg cap (fun x hx => by simp [ho, Op.operands, hx])]
  · rename_i t ho
    obtain ⟨zs, d, hz, hd, hd1, hk⟩ := h
    refine Spc.nat (f := boxSt d zs) (Nat1.box _ _) _ hk (by simp only [isPure, ho]) fun rs' hg => ?_
    refine pw1_ok (E := E) ?_
    unfold pw1; simp only [ho]
    exact ⟨zs, d, hz, hd, hd1, rfl⟩
  · rename_i t x ho
    obtain ⟨d, hd, hpl, hd1, hk⟩ := h
    refine Spc.nat (f := boxSt d ((St.mk rs hp n).ev x).comps) (Nat1.box _ _) _ hk (by simp only [isPure, ho]) fun rs' hg => ?_
    refine pw1_ok (E := E) ?_
    unfold pw1; simp only [ho]
    rw [hev rs' hg x (by simp [ho, Op.operands])]
    exact ⟨d, hd, hpl, hd1, rfl⟩
  · rename_i t ps ho
    obtain ⟨q, hq, hk⟩ := h
    refine Spc.pure _ hk fun rs' hg => ?_
    refine pw1_ok (E := E) ?_
    unfold pw1; simp only [ho]
    have e : partsOf (St.mk rs' hp n) ps = partsOf (St.mk rs hp n) ps := List.map_congr_left fun p hp' => by
      rw [hev rs' hg p.2 (by simp only [ho, Op.operands]; simp; exact ⟨p.1, by simpa using hp'⟩)]
    exact ⟨q, by rw [e]; exact hq, rfl⟩
  · rename_i t m ps ho
    obtain ⟨s, xs, d, hd, hb, hdat, hd1, hk⟩ := h
    have e : ∀ rs', (∀ s, s ∈ o.looksAt ops → getR rs' s = getR rs s) → partsOf (St.mk rs' hp n) ps = partsOf (St.mk rs hp n) ps := fun rs' hg => List.map_congr_left fun p hp' => by
      rw [hev rs' hg p.2 (by simp only [ho, Op.operands]; simp; exact ⟨p.1, by simpa using hp'⟩)]
    refine Spc.nat (f := fun st => (st.fz (toksP (partsOf (St.mk rs hp n) ps))).off d) ((Nat1.off d).comp (Nat1.fz _)) _ hk (by simp only [isPure, ho]) fun rs' hg => ?_
    refine pw1_ok (E := E) ?_
    unfold pw1; simp only [ho]
    rw [e rs' hg]
    exact ⟨s, xs, d, hd, hb, hdat, hd1, rfl⟩
  · rename_i t l c ho
    obtain ⟨s, xs, d, hd, hb, hdat, hd1, hk⟩ := h
    refine Spc.nat (f := fun st => st.off d) (Nat1.off d) _ hk (by simp only [isPure, ho]) fun rs' hg => ?_
    refine pw1_ok (E := E) ?_
    unfold pw1; simp only [ho]
    rw [hev rs' hg l (by simp [ho, Op.operands]), hev rs' hg c (by simp [ho, Op.operands])]
    exact ⟨s, xs, d, hd, hb, hdat, hd1, rfl⟩
  · rename_i t ho
    obtain ⟨d, hd, hd1, hk⟩ := h
    refine Spc.nat (f := mapSt d) (Nat1.mapSt d) _ hk (by simp only [isPure, ho]) fun rs' hg => ?_
    refine pw1_ok (E := E) ?_
    unfold pw1; simp only [ho]
    exact ⟨d, hd, hd1, rfl⟩
  · rename_i t m k ho
    obtain ⟨⟨st', q⟩, hq, hk⟩ := h
    obtain ⟨f, hf, rfl, hall⟩ := mapEntry_nat hq
    refine Spc.nat hf _ hk (by simp only [isPure, ho]) fun rs' hg => ?_
    refine pw1_ok (E := E) ?_
    unfold pw1; simp only [ho]
    exact ⟨_, by rw [hev rs' hg m (by simp [ho, Op.operands]), hev rs' hg k (by simp [ho, Op.operands])]; exact hall rs', rfl⟩
  · rename_i t m s x ho
    obtain ⟨st', hq, hk⟩ := h
    obtain ⟨f, hf, rfl, hall⟩ := entrySt_nat hq
    refine Spc.nat hf _ hk (by simp only [isPure, ho]) fun rs' hg => ?_
    refine pw1_ok (E := E) ?_
    unfold pw1; simp only [ho]
    exact ⟨_, by rw [hev rs' hg m (by simp [ho, Op.operands]), hev rs' hg s (by simp [ho, Op.operands]), hev rs' hg x (by simp [ho, Op.operands])]; exact hall rs', rfl⟩
  · rename_i t m k x ho
    obtain ⟨st', hq, hk⟩ := h
    obtain ⟨f, hf, rfl, hall⟩ := mapUpd_nat hq
    refine Spc.nat hf _ hk (by simp only [isPure, ho]) fun rs' hg => ?_
    refine pw1_ok (E := E) ?_
    unfold pw1; simp only [ho]
    exact ⟨_, by rw [hev rs' hg m (by simp [ho, Op.operands]), hev rs' hg k (by simp [ho, Op.operands]), hev rs' hg x (by simp [ho, Op.operands])]; exact hall rs', rfl⟩
  · rename_i t m k x ho
    obtain ⟨st', hq, hk⟩ := h
    obtain ⟨f, hf, rfl, hall⟩ := mapUpd_nat hq
    refine Spc.nat hf _ hk (by simp only [isPure, ho]) fun rs' hg => ?_
    refine pw1_ok (E := E) ?_
    unfold pw1; simp only [ho]
    exact ⟨_, by rw [hev rs' hg m (by simp [ho, Op.operands]), hev rs' hg k (by simp [ho, Op.operands]), hev rs' hg x (by simp [ho, Op.operands])]; exact hall rs', rfl⟩
  · rename_i t m k ok ho
    obtain ⟨q, hq, hk⟩ := h
    refine Spc.pure _ hk fun rs' hg => ?_
    refine pw1_ok (E := E) ?_
    unfold pw1; simp only [ho]
    refine ⟨q, ?_, rfl⟩
    rw [hev rs' hg m (by simp [ho, Op.operands]), hev rs' hg k (by simp [ho, Op.operands])]
    exact hq
  · rename_i t x ho
    obtain ⟨q, hq, hk⟩ := h
    refine Spc.pure _ hk fun rs' hg => ?_
    refine pw1_ok (E := E) ?_
    unfold pw1; simp only [ho]
    exact ⟨q, by rw [hev rs' hg x (by simp [ho, Op.operands])]; exact hq, rfl⟩
  · rename_i c ho
    split at h
    · rename_i b hc
      have hargs : ∀ rs', (∀ s, s ∈ o.looksAt ops → getR rs' s = getR rs s) → c.args.toList.map (St.mk rs' hp n).ev = c.args.toList.map (St.mk rs hp n).ev := fun rs' hg => hmap rs' hg c.args fun x hx => by
        simp [ho, Op.operands, Call.operands, hc, hx]
      have go : ∀ rs', pw1 P E o ⟨rs', hp, n⟩ = pwBuiltin P b c.argTypes.toList o.type (c.args.toList.map (St.mk rs' hp n).ev) o.dst ⟨rs', hp, n⟩ := fun rs' => by
        funext K'; unfold pw1; simp only [ho, hc]
      unfold pwBuiltin at h
      split at h
      · rename_i t p h1 h2
        obtain ⟨x, hx, hk⟩ := h
        refine Spc.pure _ hk fun rs' hg => ?_
        refine pw1_ok (E := E) ?_
        rw [go, hargs rs' hg, h2, h1]
        exact ⟨x, hx, rfl⟩
      · rename_i t p h1 h2
        obtain ⟨x, hx, hk⟩ := h
        refine Spc.pure _ hk fun rs' hg => ?_
        refine pw1_ok (E := E) ?_
        rw [go, hargs rs' hg, h2, h1]
        exact ⟨x, hx, rfl⟩
      · obtain ⟨vs, x, h1, h2, hk⟩ := h
        refine Spc.pure _ hk fun rs' hg => ?_
        refine pw1_ok (E := E) ?_
        rw [go, hargs rs' hg]
        exact ⟨vs, x, h1, h2, rfl⟩
      · obtain ⟨vs, x, h1, h2, hk⟩ := h
        refine Spc.pure _ hk fun rs' hg => ?_
        refine pw1_ok (E := E) ?_
        rw [go, hargs rs' hg]
        exact ⟨vs, x, h1, h2, rfl⟩
      · rename_i T tx p q h1 h2
        obtain ⟨d, t, x, hd, happ, hk⟩ := h
        refine Spc.nat (Nat1.scrub _ _) _ hk (by simp only [isPure, ho, hc]) fun rs' hg => ?_
        refine pw1_ok (E := E) ?_
        rw [go, hargs rs' hg, h2, h1]
        exact ⟨d, t, x, hd, happ, rfl⟩
      · exact h.elim
    · rename_i f hc
      obtain ⟨k, first, cap, hf, hsp⟩ := h
      obtain ⟨hcall, T, h', x, hT, hkx, hok⟩ := spOf_ok hsp
      have hargs : ∀ rs', (∀ s, s ∈ o.looksAt ops → getR rs' s = getR rs s) → c.args.toList.map (St.mk rs' hp n).ev = c.args.toList.map (St.mk rs hp n).ev := fun rs' hg => hmap rs' hg c.args fun x hx => by
        simp [ho, Op.operands, Call.operands, hc, hx]
      refine ⟨T, h', x, hT, hkx, fun h => (by simp only [isPure, ho, hc] at h; cases h), fun rs' hg => ?_⟩
      exact callT_ok ho hc (by rw [hev rs' hg f (by simp [ho, Op.operands, Call.operands, hc])]; exact hf) hcall hT (by rw [hargs rs' hg]; exact hok)
    · exact h.elim
  · exact h.elim

end
end Go.Sy

/-! The rule of a region that draws its order. -/
namespace Go.Sy

/-- An evaluation: stages of operations that change no memory, parted by those that do; 'true' where an operation is looked at first. -/
inductive Ev where
  | fin
  | nil
  | alt (e : Nat) (qs : List (Bool × Nat)) (sub other : Ev)

structure Sch where
  anc : List Nat
  first : List (Bool × Nat)
  rest : Ev

def ancB (A : List Nat) (j i : Nat) : Bool := (A.getD i 0).testBit j
def dstAt (ops : Array Oper) (i : Nat) : Option Tmp := (ops[i]?).bind (·.dst)
def looksOf (ops : Array Oper) (i : Nat) : List Tmp := match ops[i]? with
  | some o => o.looksAt ops
  | none => []

def okA (ops : Array Oper) (A : List Nat) : Bool := (List.range ops.size).all fun i => match ops[i]? with
  | none => true
  | some o => (o.after.toList.all fun e => !Region.binds .any e || decide (e.on < i)) && (List.range ops.size).all fun j => !ancB A j i || o.after.toList.any fun e => Region.binds .any e && (e.on == j || ancB A j e.on)

def newsOf : List (Bool × Nat) → List Nat
  | [] => []
  | (true, i) :: l => i :: newsOf l
  | (false, _) :: l => newsOf l

def stageOK (ops : Array Oper) : List (Bool × Nat) → Bool
  | [] => true
  | (_, i) :: l => ((newsOf l).all fun j => match dstAt ops j with
      | none => true
      | some d => !(looksOf ops i).contains d && dstAt ops i != some d) && stageOK ops l

def pureAt (P : Program) (ops : Array Oper) (i : Nat) : Bool := match ops[i]? with
  | some o => isPure P o
  | none => false

def readOK (ops : Array Oper) (A : List Nat) (N : List Nat) : Bool := N.all fun j => match dstAt ops j with
  | none => true
  | some d => (List.range ops.size).all fun i => !(looksOf ops i).contains d || (j != i && ancB A j i)

/-- The effects that may come next; the effects of one way to the end; what is told newly; of all stages. -/
def Ev.heads : Ev → List Nat
  | .alt e _ _ o => e :: o.heads
  | _ => []
def Ev.effs : Ev → List Nat
  | .alt e _ s _ => e :: s.effs
  | _ => []
def Ev.news : Ev → List Nat
  | .alt _ qs s o => newsOf qs ++ s.news ++ o.news
  | _ => []
def Ev.allB (p : List (Bool × Nat) → Bool) : Ev → Bool
  | .alt _ qs s o => p qs && s.allB p && o.allB p
  | _ => true

/-- What may be ready is told, has been, or is the next effect. -/
def nodeOK (ops : Array Oper) (A : List Nat) (D : List Nat) (ps : List (Bool × Nat)) : Ev → Bool
  | .fin => (List.range ops.size).all fun i => ps.any (·.2 == i) || D.contains i || D.any fun e => decide (e < ops.size) && ancB A i e
  | .nil => false
  | .alt e qs s o => (List.range ops.size).all fun i => ps.any (·.2 == i) || D.contains i || (D.any fun e => decide (e < ops.size) && ancB A i e) || (Ev.alt e qs s o).heads.contains i || (Ev.alt e qs s o).effs.any fun f => decide (f < ops.size) && ancB A f i
def covE (ops : Array Oper) (A : List Nat) : List Nat → Ev → Bool
  | D, .alt e qs s o => nodeOK ops A (e :: D) qs s && covE ops A (e :: D) s && covE ops A D o
  | _, _ => true

def allNews (s : Sch) : List Nat := newsOf s.first ++ s.rest.news
def sepE : List Nat → List Nat → Ev → Bool
  | D, M, .alt e qs s o => !D.contains e && !M.contains e && ((newsOf qs).all fun j => !D.contains j && !M.contains j && j != e) && (qs.all fun q => (newsOf qs ++ M).contains q.2) && sepE (e :: D) (newsOf qs ++ M) s && sepE D M o
  | _, _, _ => true

def Sch.ok (P : Program) (ops : Array Oper) (s : Sch) : Bool :=
  okA ops s.anc && readOK ops s.anc (allNews s) && (nodeOK ops s.anc [] s.first s.rest && covE ops s.anc [] s.rest) && sepE [] (newsOf s.first) s.rest && (s.first.all fun q => (newsOf s.first).contains q.2) &&
  (s.first.all fun q => pureAt P ops q.2) && (s.rest.allB fun qs => qs.all fun q => pureAt P ops q.2) && stageOK ops s.first && s.rest.allB fun qs => stageOK ops qs

def pwP (P : Program) (E : List (Spec P)) (ops : Array Oper) : List (Bool × Nat) → St → (St → Prop) → Prop
  | [], st, K => K st
  | (true, i) :: l, st, K => match ops[i]? with
    | some o => (∀ d, o.dst = some d → d < st.nt) ∧ pwG P E ops o st fun s => pwP P E ops l s K
    | none => False
  | (false, i) :: l, st, K => match ops[i]? with
    | some o => (∀ d, o.dst = some d → d < st.nt) ∧ (pwG P E ops o st fun s => ∀ d, o.dst = some d → getR s.regs d = getR st.regs d) ∧ pwP P E ops l st K
    | none => False

def pwE (P : Program) (E : List (Spec P)) (ops : Array Oper) : Ev → St → (St → Prop) → Prop
  | .fin, st, K => K st
  | .nil, _, _ => True
  | .alt e ps s o, st, K => (match ops[e]? with
    | some op => (∀ d, op.dst = some d → d < st.nt) ∧ pwG P E ops op st fun s' => pwP P E ops ps s' fun s' => pwE P E ops s s' K
    | none => False) ∧ pwE P E ops o st K

/-- An effect that may come next, with what is told behind it. -/
inductive Ev.Has : Ev → Nat → List (Bool × Nat) → Ev → Prop
  | here (e : Nat) (qs : List (Bool × Nat)) (s o : Ev) : Has (.alt e qs s o) e qs s
  | there {e : Nat} {qs : List (Bool × Nat)} {s o : Ev} {i : Nat} {ps : List (Bool × Nat)} {t : Ev} : Has o i ps t → Has (.alt e qs s o) i ps t
theorem Ev.has_of : ∀ {t : Ev} {i : Nat}, i ∈ t.heads → ∃ qs s, t.Has i qs s
  | .fin, _, h => by cases h
  | .nil, _, h => by cases h
  | .alt e qs s o, i, h => by
    rcases List.mem_cons.1 h with rfl | h
    · exact ⟨qs, s, .here ..⟩
    · obtain ⟨qs', s', h⟩ := Ev.has_of h
      exact ⟨qs', s', .there h⟩
theorem Ev.Has.pw {P : Program} {E : List (Spec P)} {ops : Array Oper} {st : St} {K : St → Prop} {t : Ev} {i : Nat} {qs : List (Bool × Nat)} {s : Ev} (h : t.Has i qs s) (hp : pwE P E ops t st K) : (match ops[i]? with
    | some op => (∀ d, op.dst = some d → d < st.nt) ∧ pwG P E ops op st fun s' => pwP P E ops qs s' fun s' => pwE P E ops s s' K
    | none => False) := by
  induction h with
  | here e qs s o => exact hp.1
  | there _ ih => exact ih hp.2
theorem Ev.Has.cov {ops : Array Oper} {A D : List Nat} {t : Ev} {i : Nat} {qs : List (Bool × Nat)} {s : Ev} (h : t.Has i qs s) (hc : covE ops A D t = true) : nodeOK ops A (i :: D) qs s = true ∧ covE ops A (i :: D) s = true := by
  induction h with
  | here e qs s o => simp only [covE, Bool.and_eq_true] at hc; exact hc.1
  | there _ ih => simp only [covE, Bool.and_eq_true] at hc; exact ih hc.2
theorem Ev.Has.sep {D M : List Nat} {t : Ev} {i : Nat} {qs : List (Bool × Nat)} {s : Ev} (h : t.Has i qs s) (hc : sepE D M t = true) :
    ((newsOf qs).all fun j => !D.contains j && !M.contains j && j != i) = true ∧ (qs.all fun q => (newsOf qs ++ M).contains q.2) = true ∧ sepE (i :: D) (newsOf qs ++ M) s = true := by
  induction h with
  | here e qs s o => simp only [sepE, Bool.and_eq_true] at hc; exact ⟨hc.1.1.1.2, hc.1.1.2, hc.1.2⟩
  | there _ ih => simp only [sepE, Bool.and_eq_true] at hc; exact ih hc.2
theorem Ev.Has.new {t : Ev} {i : Nat} {qs : List (Bool × Nat)} {s : Ev} (h : t.Has i qs s) : (∀ j, j ∈ newsOf qs → j ∈ t.news) ∧ ∀ j, j ∈ s.news → j ∈ t.news := by
  induction h with
  | here e qs s o => exact ⟨fun j hj => by simp [Ev.news, hj], fun j hj => by simp [Ev.news, hj]⟩
  | there _ ih => exact ⟨fun j hj => by simp [Ev.news, ih.1 j hj], fun j hj => by simp [Ev.news, ih.2 j hj]⟩
theorem Ev.Has.allB {p : List (Bool × Nat) → Bool} {t : Ev} {i : Nat} {qs : List (Bool × Nat)} {s : Ev} (h : t.Has i qs s) (hc : t.allB p = true) : p qs = true ∧ s.allB p = true := by
  induction h with
  | here e qs s o => simp only [Ev.allB, Bool.and_eq_true] at hc; exact hc.1
  | there _ ih => simp only [Ev.allB, Bool.and_eq_true] at hc; exact ih hc.2
theorem sepE_eff : ∀ {t : Ev} {D M : List Nat}, sepE D M t = true → ∀ f, f ∈ t.effs → f ∉ D ∧ f ∉ M
  | .fin, _, _, _, _, hf => by cases hf
  | .nil, _, _, _, _, hf => by cases hf
  | .alt e qs s o, D, M, h, f, hf => by
    simp only [sepE, Bool.and_eq_true, Bool.not_eq_true'] at h
    rcases List.mem_cons.1 hf with rfl | hf
    · exact ⟨fun hd => (by have := h.1.1.1.1.1; simp [hd] at this), fun hm => (by have := h.1.1.1.1.2; simp [hm] at this)⟩
    · obtain ⟨h1, h2⟩ := sepE_eff h.1.2 f hf
      exact ⟨fun hd => h1 (List.mem_cons_of_mem _ hd), fun hm => h2 (List.mem_append_right _ hm)⟩

section
variable {P : Program} {E : List (Spec P)} {r : Option Nat} {ops : Array Oper}

/-- What an operation that may be guarded does. -/
def OpG (P : Program) (r : Option Nat) (ops : Array Oper) (o : Oper) (st : St) (R : St → Prop) : Prop :=
  ∀ i, ops[i]? = some o → ∀ g a w, Sim g st a w → WF g w → ∀ (K : Act → World → Prop) (Q : Exit → Act → World → Prop),
    (∀ g' st' a' w', R st' → Sim g' st' a' w' → WF g' w' → Ext g w g' w' → a'.defers = a.defers → K a' w') → wpOpIn (FR r) 0 P ops Q i K a w

theorem OpG.of {o : Oper} {st : St} {R : St → Prop} (hg : o.guard = none) (h : OpOK P r o st R) : OpG P r ops o st R := by
  intro i hi g a w hs hw K Q hk
  unfold wpOpIn
  simp only [hi]
  rw [if_pos (by simp [Region.wanted, hg])]
  exact h g a w hs hw K Q hk

theorem Spc.map {pw pw' : St → (St → Prop) → Prop} {o : Oper} {st : St} {K : St → Prop} (h : Spc P ops pw o st K) (hp : ∀ rs', (∀ s, s ∈ o.looksAt ops → getR rs' s = getR st.regs s) → ∀ R, pw ⟨rs', st.heap, st.nt⟩ R → pw' ⟨rs', st.heap, st.nt⟩ R) : Spc P ops pw' o st K := by
  obtain ⟨T, h', x, a, b, c, d⟩ := h
  exact ⟨T, h', x, a, b, c, fun rs' hg => hp rs' hg _ (d rs' hg)⟩

theorem pwG_spc {o : Oper} {st : St} {K : St → Prop} (h : pwG P E ops o st K) : Spc P ops (OpG P r ops o) o st K := by
  unfold pwG at h
  split at h
  · rename_i hg
    exact (pw1_spc (r := r) (ops := ops) h).map fun rs' _ R hr => OpG.of hg hr
  · rename_i j b hg
    obtain ⟨y, hy, h12⟩ := onYld_iff.1 h
    obtain ⟨h1, h2⟩ := cnd_y.1 h12
    have hlook : ∀ d, slotOf ops j = some d → d ∈ o.looksAt ops := fun d hd => by
      have : ((ops[j]?).bind (·.dst)).toList = [d] := by
        have : (ops[j]?).bind (·.dst) = some d := hd
        rw [this]; rfl
      simp only [Oper.looksAt, hg, List.mem_append]
      exact .inr (by rw [this]; simp)
    have hyl : ∀ rs', (∀ s, s ∈ o.looksAt ops → getR rs' s = getR st.regs s) → yldPV ⟨rs', st.heap, st.nt⟩ (slotOf ops j) = some y := fun rs' hgr => by
      rw [← hy]
      cases hd : slotOf ops j with
      | none => rfl
      | some d => simp only [yldPV]; rw [hgr d (hlook d hd)]
    have hwant : ∀ rs', (∀ s, s ∈ o.looksAt ops → getR rs' s = getR st.regs s) → ∀ g a w, Sim g ⟨rs', st.heap, st.nt⟩ a w → Region.wanted o (yielded ops a.tmps) = (y == some b) := fun rs' hgr g a w hs => by
      have := yldPV_ok hs (hyl rs' hgr)
      simp [Region.wanted, hg, this]
    by_cases e : y = some b
    · refine (pw1_spc (r := r) (ops := ops) (h1 e)).map fun rs' hgr R hr i hi g a w hs hw K' Q hk => ?_
      unfold wpOpIn
      simp only [hi]
      rw [if_pos (by rw [hwant rs' hgr g a w hs]; simp [e])]
      exact hr g a w hs hw K' Q hk
    · refine Spc.pure _ (h2 e) fun rs' hgr i hi g a w hs hw K' Q hk => ?_
      unfold wpOpIn
      simp only [hi]
      rw [if_neg (by rw [hwant rs' hgr g a w hs]; simpa using e)]
      exact ⟨fun _ _ => trivial, hk g _ _ _ rfl (hs.put (.lit undef) _) hw (Ext.refl g w) (Act.put_eq _ _ _)⟩

/-! ### Which are listed -/

def Lst (listed : Array Bool) (i : Nat) : Prop := listed.getD i false = true

theorem lst_iff {listed : Array Bool} {i : Nat} (h : i < listed.size) : listed.getD i true = true ↔ Lst listed i := by
  simp [Lst, h]

theorem lst_set {listed : Array Bool} {i k : Nat} (h : i < listed.size) : Lst (listed.setIfInBounds i true) k ↔ k = i ∨ Lst listed k := by
  unfold Lst
  simp only [Array.getD_eq_getD_getElem?, Array.getElem?_setIfInBounds]
  by_cases e : i = k
  · subst e; simp [h]
  · rw [if_neg e]; simp [Ne.symm e]

def unl (listed : Array Bool) : Nat → Nat
  | 0 => 0
  | k + 1 => unl listed k + (if listed.getD k false = true then 0 else 1)

theorem unl_zero {listed : Array Bool} (n : Nat) (h : unl listed n = 0) : ∀ i, i < n → Lst listed i := by
  induction n with
  | zero => exact fun i hi => by omega
  | succ n ih =>
    intro i hi
    simp only [unl] at h
    by_cases e : i = n
    · subst e
      by_cases hl : listed.getD i false = true
      · exact hl
      · rw [if_neg hl] at h; omega
    · exact ih (by omega) i (by omega)

theorem unl_set {listed : Array Bool} {i : Nat} (hi : i < listed.size) (hl : ¬ Lst listed i) (n : Nat) : unl (listed.setIfInBounds i true) n + (if i < n then 1 else 0) = unl listed n := by
  induction n with
  | zero => simp [unl]
  | succ n ih =>
    simp only [unl]
    have hk := lst_set (listed := listed) (i := i) (k := n) hi
    unfold Lst at hk hl
    by_cases e : n = i
    · subst e
      rw [if_pos (hk.2 (.inl rfl)), if_neg hl, if_pos (by omega)]
      rw [if_neg (by omega)] at ih
      omega
    · by_cases h2 : listed.getD n false = true
      · rw [if_pos (hk.2 (.inr h2)), if_pos h2]
        by_cases h3 : i < n
        · rw [if_pos h3] at ih; rw [if_pos (by omega)]; omega
        · rw [if_neg h3] at ih; rw [if_neg (by omega)]; omega
      · rw [if_neg (fun h => h2 ((hk.1 h).resolve_left e)), if_neg h2]
        by_cases h3 : i < n
        · rw [if_pos h3] at ih; rw [if_pos (by omega)]; omega
        · rw [if_neg h3] at ih; rw [if_neg (by omega)]; omega

theorem unl_le (listed : Array Bool) (n : Nat) : unl listed n ≤ n := by
  induction n with
  | zero => exact Nat.le_refl _
  | succ n ih => simp only [unl]; split <;> omega

def Closed (ops : Array Oper) (listed : Array Bool) : Prop := ∀ i o, ops[i]? = some o → Lst listed i → ∀ e ∈ o.after, Region.binds .any e = true → Lst listed e.on

theorem anc_listed {A : List Nat} (hA : okA ops A = true) {listed : Array Bool} (hc : Closed ops listed) : ∀ i j, i < ops.size → j < ops.size → ancB A j i = true → Lst listed i → Lst listed j := by
  intro i
  induction i using Nat.strongRecOn with
  | _ i ih =>
    intro j hi hj ha hl
    have h := List.all_eq_true.1 hA i (List.mem_range.2 hi)
    rw [Array.getElem?_eq_getElem hi] at h
    simp only [Bool.and_eq_true] at h
    have h2 := List.all_eq_true.1 h.2 j (List.mem_range.2 hj)
    rw [ha] at h2
    simp only [Bool.not_true, Bool.false_or, List.any_eq_true, Bool.and_eq_true, Bool.or_eq_true, beq_iff_eq] at h2
    obtain ⟨e, he, hb, h3⟩ := h2
    have hlt : e.on < i := by
      have := List.all_eq_true.1 h.1 e he
      rw [hb] at this
      simpa using this
    have hle := hc i ops[i] (Array.getElem?_eq_getElem hi) hl e (by simpa using he) hb
    rcases h3 with h3 | h3
    · exact h3 ▸ hle
    · exact ih e.on hlt j (by omega) hj h3 hle

/-- Where nothing is ready all is listed. -/
theorem all_listed {A : List Nat} (hA : okA ops A = true) {listed : Array Bool} (hs : listed.size = ops.size) (hr : Region.ready .any ops listed = []) : ∀ i, i < ops.size → Lst listed i := by
  intro i
  induction i using Nat.strongRecOn with
  | _ i ih =>
    intro hi
    have h := List.all_eq_true.1 hA i (List.mem_range.2 hi)
    rw [Array.getElem?_eq_getElem hi] at h
    simp only [Bool.and_eq_true] at h
    by_cases hl : Lst listed i
    · exact hl
    · have : i ∈ Region.ready .any ops listed := mem_ready.2 ⟨by
        have := lst_iff (listed := listed) (i := i) (by omega)
        cases hx : listed.getD i true
        · rfl
        · exact absurd (this.1 hx) hl, ops[i], Array.getElem?_eq_getElem hi, fun e he hb => by
        have := List.all_eq_true.1 h.1 e (by simpa using he)
        rw [hb] at this
        have hlt : e.on < i := by simpa using this
        exact ih e.on hlt (by omega)⟩
      rw [hr] at this; cases this

theorem ready_cases {listed : Array Bool} (hs : listed.size = ops.size) {i : Nat} (hr : i ∈ Region.ready .any ops listed) : i < ops.size ∧ ¬ Lst listed i ∧ ∃ o, ops[i]? = some o ∧ ∀ e ∈ o.after, Region.binds .any e = true → Lst listed e.on := by
  obtain ⟨h1, o, ho, h2⟩ := mem_ready.1 hr
  have hi := (Array.getElem?_eq_some_iff.1 ho).1
  exact ⟨hi, fun h => (by rw [(lst_iff (by omega)).2 h] at h1; cases h1), o, ho, h2⟩

theorem anc_ready {A : List Nat} (hA : okA ops A = true) {listed : Array Bool} (hc : Closed ops listed) (hs : listed.size = ops.size) {i j : Nat} (hr : i ∈ Region.ready .any ops listed) (hj : j < ops.size) (ha : ancB A j i = true) : Lst listed j := by
  obtain ⟨hi, _, o, ho, hp⟩ := ready_cases hs hr
  have h := List.all_eq_true.1 hA i (List.mem_range.2 hi)
  rw [ho] at h
  simp only [Bool.and_eq_true] at h
  have h2 := List.all_eq_true.1 h.2 j (List.mem_range.2 hj)
  rw [ha] at h2
  simp only [Bool.not_true, Bool.false_or, List.any_eq_true, Bool.and_eq_true, Bool.or_eq_true, beq_iff_eq] at h2
  obtain ⟨e, he, hb, h3⟩ := h2
  have hlt : e.on < i := by
    have := List.all_eq_true.1 h.1 e he
    rw [hb] at this
    simpa using this
  have hle := hp e (by simpa using he) hb
  rcases h3 with h3 | h3
  · exact h3 ▸ hle
  · exact anc_listed hA hc e.on j (by omega) hj h3 hle

theorem Closed.set {listed : Array Bool} (hc : Closed ops listed) (hs : listed.size = ops.size) {i : Nat} (hr : i ∈ Region.ready .any ops listed) : Closed ops (listed.setIfInBounds i true) := by
  obtain ⟨hi, _, o, ho, h2⟩ := ready_cases hs hr
  intro k ok hk hl e he hb
  rw [lst_set (by omega)] at hl ⊢
  rcases hl with rfl | hl
  · rw [ho] at hk; cases hk; exact .inr (h2 e he hb)
  · exact .inr (hc k ok hk hl e he hb)

end
end Go.Sy

/-! A region that draws its order: the rule holds. -/
namespace Go.Sy
section
variable {P : Program} {E : List (Spec P)} {r : Option Nat} {ops : Array Oper}

/-- What operation i tells at this stage, whatever else stands in slots. -/
def EvalAt (P : Program) (r : Option Nat) (ops : Array Oper) (R : List (Nat × PV)) (h : List (Nat × Ob)) (nt : Nat) (i : Nat) : Prop :=
  ∃ o x, ops[i]? = some o ∧ (∀ d, o.dst = some d → getR R d = x) ∧
    ∀ rs', (∀ s, s ∈ o.looksAt ops → getR rs' s = getR R s) → OpG P r ops o ⟨rs', h, nt⟩ (· = (St.mk rs' h nt).put o.dst x)

theorem newsOf_mem {ps : List (Bool × Nat)} {j : Nat} : j ∈ newsOf ps ↔ (true, j) ∈ ps := by
  induction ps with
  | nil => simp [newsOf]
  | cons q l ih =>
    obtain ⟨b, i⟩ := q
    cases b <;> simp [newsOf, ih]

theorem put_get {rs : List (Nat × PV)} {h : List (Nat × Ob)} {nt : Nat} {d : Option Tmp} {x : PV} (hd : ∀ k, d = some k → k < nt) :
    ∃ R, (St.mk rs h nt).put d x = ⟨R, h, nt⟩ ∧ ∀ s, getR R s = if d = some s then x else getR rs s := by
  cases d with
  | none => exact ⟨rs, rfl, fun s => by simp⟩
  | some k =>
    have hk : k < nt := hd k rfl
    refine ⟨(k, x) :: rs, by simp [St.put, hk], fun s => ?_⟩
    simp [getR]

/-- A stage, evaluated. -/
theorem stage {K : St → Prop} (ps : List (Bool × Nat)) : ∀ (R : List (Nat × PV)) (h : List (Nat × Ob)) (nt : Nat), pwP P E ops ps ⟨R, h, nt⟩ K → stageOK ops ps = true → (ps.all fun q => pureAt P ops q.2) = true → (∀ j d, j ∈ newsOf ps → dstAt ops j = some d → d ∉ looksOf ops j) →
    ∃ R', K ⟨R', h, nt⟩ ∧ (∀ q, q ∈ ps → EvalAt P r ops R' h nt q.2) ∧ (∀ s, (∀ j, j ∈ newsOf ps → dstAt ops j ≠ some s) → getR R' s = getR R s) ∧ (∀ q o d, q ∈ ps → ops[q.2]? = some o → o.dst = some d → d < nt) := by
  induction ps with
  | nil => exact fun R h nt hp _ _ _ => ⟨R, hp, fun q hq => (by cases hq), fun s _ => rfl, fun q _ _ hq => (by cases hq)⟩
  | cons q l ih =>
    intro R h nt hp hst hpu hself
    obtain ⟨b, i⟩ := q
    simp only [stageOK, Bool.and_eq_true] at hst
    simp only [List.all_cons, Bool.and_eq_true] at hpu
    have hpi : ∀ o, ops[i]? = some o → isPure P o = true := fun o ho => by
      have := hpu.1
      simpa [pureAt, ho] using this
    have hlater : ∀ j d, j ∈ newsOf l → dstAt ops j = some d → d ∉ looksOf ops i ∧ dstAt ops i ≠ some d := fun j d hj hd => by
      have := List.all_eq_true.1 hst.1 j hj
      simpa [hd] using this
    -- What was told at an earlier place of the stage still is.
    have lift : ∀ (R1 R' : List (Nat × PV)) (o : Oper) (x : PV), ops[i]? = some o → (∀ d, o.dst = some d → getR R1 d = x) → (∀ s, (∀ j, j ∈ newsOf l → dstAt ops j ≠ some s) → getR R' s = getR R1 s) →
        (∀ rs', (∀ s, s ∈ o.looksAt ops → getR rs' s = getR R1 s) → OpG P r ops o ⟨rs', h, nt⟩ (· = (St.mk rs' h nt).put o.dst x)) → EvalAt P r ops R' h nt i := by
      intro R1 R' o x ho hx hsame hev
      have hlo : looksOf ops i = o.looksAt ops := by simp [looksOf, ho]
      refine ⟨o, x, ho, fun d hd => ?_, fun rs' hg => hev rs' fun s hs => ?_⟩
      · rw [hsame d fun j hj hjd => (hlater j d hj hjd).2 (by simp [dstAt, ho, hd])]
        exact hx d hd
      · rw [hg s hs, hsame s fun j hj hjd => (hlater j s hj hjd).1 (by rw [hlo]; exact hs)]
    cases b with
    | true =>
      simp only [pwP] at hp
      cases ho : ops[i]? with
      | none => rw [ho] at hp; exact hp.elim
      | some o =>
        rw [ho] at hp
        obtain ⟨hd, hp⟩ := hp
        obtain ⟨T, h', x, hT, hk, hpure, hall⟩ := pwG_spc (r := r) hp
        obtain ⟨rfl, e0⟩ := hpure (hpi o ho)
        simp only at e0
        subst e0
        rw [mapT_id] at hk
        simp only at hd hall
        obtain ⟨R1, e1, e2⟩ := put_get (rs := R) (x := x) hd
        rw [e1] at hk
        obtain ⟨R', k1, k2, k3, k4⟩ := ih R1 _ nt hk hst.2 hpu.2 (fun j d hj => hself j d (by simp [newsOf, hj]))
        refine ⟨R', k1, fun q hq => ?_, fun s hs => ?_, fun q o' d hq ho' hd' => ?_⟩
        · rcases List.mem_cons.1 hq with rfl | hq
          · refine lift R1 R' o x ho (fun d hd => by rw [e2]; simp [hd]) k3 fun rs' hg => ?_
            -- the operands' slots are not its own
            have := hall rs' fun s hs => ?_
            · have e := mapT_id (St.mk rs' h' nt)
              simp only at e
              rw [e] at this
              exact this
            · rw [hg s hs, e2, if_neg]
              exact fun hds => hself i s (by simp [newsOf]) (by simp [dstAt, ho, hds]) (by simpa [looksOf, ho] using hs)
          · exact k2 q hq
        · rw [k3 s fun j hj => hs j (by simp [newsOf, hj]), e2, if_neg]
          exact fun h => hs i (by simp [newsOf]) (by simp [dstAt, ho, h])
        · rcases List.mem_cons.1 hq with rfl | hq
          · rw [ho] at ho'; cases ho'; exact hd d hd'
          · exact k4 q o' d hq ho' hd'
    | false =>
      simp only [pwP] at hp
      cases ho : ops[i]? with
      | none => rw [ho] at hp; exact hp.elim
      | some o =>
        rw [ho] at hp
        obtain ⟨hd, hp, hrest⟩ := hp
        obtain ⟨T, h', x, hT, hk, hpure, hall⟩ := pwG_spc (r := r) hp
        obtain ⟨rfl, e0⟩ := hpure (hpi o ho)
        simp only at e0
        subst e0
        rw [mapT_id] at hk
        simp only at hd hall hk
        obtain ⟨R1, e1, e2⟩ := put_get (rs := R) (x := x) hd
        rw [e1] at hk
        obtain ⟨R', k1, k2, k3, k4⟩ := ih R _ nt hrest hst.2 hpu.2 (fun j d hj => hself j d (by simpa [newsOf] using hj))
        refine ⟨R', k1, fun q hq => ?_, fun s hs => ?_, fun q o' d hq ho' hd' => ?_⟩
        · rcases List.mem_cons.1 hq with rfl | hq
          · refine lift R R' o x ho (fun d hd => ?_) k3 fun rs' hg => ?_
            · have := hk d hd
              rw [← this, e2]; simp [hd]
            · have := hall rs' hg
              have e := mapT_id (St.mk rs' h' nt)
              simp only at e
              rw [e] at this
              exact this
          · exact k2 q hq
        · exact k3 s fun j hj => hs j (by simpa [newsOf] using hj)
        · rcases List.mem_cons.1 hq with rfl | hq
          · rw [ho] at ho'; cases ho'; exact hd d hd'
          · exact k4 q o' d hq ho' hd'
theorem drawn {A N : List Nat} (hA : okA ops A = true) (hN : readOK ops A N = true) {K : St → Prop} {Q : Exit → St → Prop} (hQ : ∀ s, K s → Q .normal s) {g0 : G} {w0 : World} {ds : List Deferred} (fuel : Nat) :
    ∀ (listed : Array Bool) (R : List (Nat × PV)) (h : List (Nat × Ob)) (nt : Nat) (ps : List (Bool × Nat)) (L : Ev) (D M : List Nat) (g : G) (a : Act) (w : World) (V : List (Nat × PV)),
      listed.size = ops.size → unl listed ops.size ≤ fuel → Closed ops listed →
      (∀ q, q ∈ ps → EvalAt P r ops R h nt q.2) → (∀ q o d, q ∈ ps → ops[q.2]? = some o → o.dst = some d → d < nt) →
      pwE P E ops L ⟨R, h, nt⟩ K → Sim g ⟨V, h, nt⟩ a w → WF g w → Ext g0 w0 g w → a.defers = ds →
      (∀ s, (∀ j, j ∈ M → ¬ Lst listed j → dstAt ops j ≠ some s) → getR V s = getR R s) →
      (∀ i, Lst listed i → i ∈ D ∨ i ∈ M) → (∀ e, e ∈ D → Lst listed e) → (nodeOK ops A D ps L = true ∧ covE ops A D L = true) → sepE D M L = true → (∀ q, q ∈ ps → q.2 ∈ M) →
      (∀ j, j ∈ M → j ∈ N) → ((∀ j, j ∈ L.news → j ∈ N) ∧ (L.allB fun qs => qs.all fun q => pureAt P ops q.2) = true ∧ (L.allB fun qs => stageOK ops qs) = true) →
      wpAnyIn (FR r) 0 P .any ops (Post g0 w0 ds Q) fuel listed a w := by
  induction fuel with
  | zero =>
    intro listed R h nt ps L D M g a w V hsz hfu hcl hev hdl hpe hs hw he hds hag hsub heff hcov hsep hpm hMN hL
    have hall := unl_zero (listed := listed) ops.size (by omega)
    have hrd : Region.ready .any ops listed = [] := by
      cases hr : Region.ready .any ops listed with
      | nil => rfl
      | cons i l =>
        obtain ⟨hi, hn, _⟩ := ready_cases hsz (i := i) (by rw [hr]; exact List.mem_cons_self ..)
        exact absurd (hall i hi) hn
    refine ⟨hrd, ?_⟩
    cases L with
    | fin =>
      refine ⟨g, ⟨R, h, nt⟩, hQ _ hpe, ⟨fun s => ?_, hs.nt, hs.heap⟩, hw, he, .same hds⟩
      show Rep g w (getR R s) _
      rw [← hag s fun j hj hnl hd => hnl (hall j ?_)]
      · exact hs.regs s
      · cases ho : ops[j]? with
        | none => simp [dstAt, ho] at hd
        | some o => exact (Array.getElem?_eq_some_iff.1 ho).1
    | nil => simp [nodeOK] at hcov
    | alt e qs t u =>
      have hpe := hpe.1
      cases ho : ops[e]? with
      | none => rw [ho] at hpe; exact hpe.elim
      | some o =>
        have hlt := (Array.getElem?_eq_some_iff.1 ho).1
        obtain ⟨h1, h2⟩ := sepE_eff hsep e (List.mem_cons_self ..)
        exact absurd (hsub e (hall e hlt)) (fun h => h.elim h1 h2)
  | succ fuel ih =>
    intro listed R h nt ps L D M g a w V hsz hfu hcl hev hdl hpe hs hw he hds hag hsub heff hcov hsep hpm hMN hL
    refine ⟨fun hrd => ?_, fun i hi => ?_⟩
    · have hall := all_listed hA hsz hrd
      cases L with
      | fin =>
        refine ⟨g, ⟨R, h, nt⟩, hQ _ hpe, ⟨fun s => ?_, hs.nt, hs.heap⟩, hw, he, .same hds⟩
        show Rep g w (getR R s) _
        rw [← hag s fun j hj hnl hd => hnl (hall j ?_)]
        · exact hs.regs s
        · cases ho : ops[j]? with
          | none => simp [dstAt, ho] at hd
          | some o => exact (Array.getElem?_eq_some_iff.1 ho).1
      | nil => simp [nodeOK] at hcov
      | alt e qs t u =>
        have hpe := hpe.1
        cases ho : ops[e]? with
        | none => rw [ho] at hpe; exact hpe.elim
        | some o =>
          have hlt := (Array.getElem?_eq_some_iff.1 ho).1
          obtain ⟨h1, h2⟩ := sepE_eff hsep e (List.mem_cons_self ..)
          exact absurd (hsub e (hall e hlt)) (fun h => h.elim h1 h2)
    · obtain ⟨hil, hin, oi, hoi, hpred⟩ := ready_cases hsz hi
      have hanc : ∀ j, j < ops.size → ancB A j i = true → Lst listed j := fun j hj ha => anc_ready hA hcl hsz hi hj ha
      -- What it looks at is as it is told.
      have hlook : ∀ s, s ∈ oi.looksAt ops → getR V s = getR R s := fun s hs' => hag s fun j hj hnl hd => by
        have := List.all_eq_true.1 hN j (hMN j hj)
        rw [hd] at this
        have := List.all_eq_true.1 this i (List.mem_range.2 hil)
        simp only [looksOf, hoi, Bool.or_eq_true, Bool.not_eq_true', Bool.and_eq_true] at this
        rcases this with h1 | ⟨_, h1⟩
        · simp [hs'] at h1
        · refine hnl (hanc j ?_ h1)
          cases ho : ops[j]? with
          | none => simp [dstAt, ho] at hd
          | some o => exact (Array.getElem?_eq_some_iff.1 ho).1
      have hsz' : (listed.setIfInBounds i true).size = ops.size := by simp [hsz]
      have hfu' : unl (listed.setIfInBounds i true) ops.size ≤ fuel := by
        have := unl_set (listed := listed) (i := i) (by omega) hin ops.size
        rw [if_pos hil] at this
        omega
      have hcl' := hcl.set hsz hi
      have hl' : ∀ k, Lst (listed.setIfInBounds i true) k ↔ k = i ∨ Lst listed k := fun k => lst_set (by omega)
      -- Those of the stage.
      have pureCase : ∀ q, q ∈ ps → q.2 = i → wpOpIn (FR r) 0 P ops (Post g0 w0 ds Q) i (wpAnyIn (FR r) 0 P .any ops (Post g0 w0 ds Q) fuel (listed.setIfInBounds i true)) a w := by
        intro q hq hqi
        obtain ⟨o, x, ho, hx, hall⟩ := hev q hq
        rw [hqi, hoi] at ho
        cases ho
        refine hall V hlook i hoi g a w hs hw _ _ fun g' st' a' w' hst hs' hw' he' hd' => ?_
        subst hst
        obtain ⟨V', e1, e2⟩ := put_get (rs := V) (h := h) (x := x) (fun d hd => hdl q oi d hq (by rw [hqi]; exact hoi) hd)
        rw [e1] at hs'
        refine ih _ R h nt ps L D M g' a' w' V' hsz' hfu' hcl' hev hdl hpe hs' hw' (he.trans he') (hd'.trans hds) (fun s hs2 => ?_) (fun k hk => ?_) (fun e hE => (hl' e).2 (.inr (heff e hE))) hcov hsep hpm hMN hL
        · rw [e2]
          by_cases hd : oi.dst = some s
          · rw [if_pos hd]; exact (hx s hd).symm
          · rw [if_neg hd]
            refine hag s fun j hj hnl hjd => ?_
            by_cases hji : j = i
            · subst hji; exact hd (by simpa [dstAt, hoi] using hjd)
            · exact hs2 j hj (fun hk => ((hl' j).1 hk).elim hji hnl) hjd
        · rcases (hl' k).1 hk with rfl | hk
          · exact .inr (hqi ▸ hpm q hq)
          · exact hsub k hk
      have byD : i ∈ D → False := fun h => hin (heff i h)
      have byE : (D.any fun e => decide (e < ops.size) && ancB A i e) = true → False := fun h => by
        obtain ⟨e, heD, h⟩ := List.any_eq_true.1 h
        simp only [Bool.and_eq_true, decide_eq_true_eq] at h
        exact hin (anc_listed hA hcl e i h.1 hil h.2 (heff e heD))
      cases L with
      | fin =>
        have := List.all_eq_true.1 hcov.1 i (List.mem_range.2 hil)
        simp only [Bool.or_eq_true] at this
        rcases this with (h1 | h1) | h1
        · obtain ⟨q, hq, h1⟩ := List.any_eq_true.1 h1
          exact pureCase q hq (by simpa using h1)
        · exact (byD (by simpa using h1)).elim
        · exact (byE h1).elim
      | nil => simp [nodeOK] at hcov
      | alt e0 qs0 t0 u0 =>
        have := List.all_eq_true.1 hcov.1 i (List.mem_range.2 hil)
        simp only [Bool.or_eq_true] at this
        rcases this with (((h1 | h1) | h1) | h1) | h1
        · obtain ⟨q, hq, h1⟩ := List.any_eq_true.1 h1
          exact pureCase q hq (by simpa using h1)
        · exact (byD (by simpa using h1)).elim
        · exact (byE h1).elim
        · obtain ⟨qs, L', hH⟩ := Ev.has_of (by simpa using h1 : i ∈ (Ev.alt e0 qs0 t0 u0).heads)
          have hpe := hH.pw hpe
          rw [hoi] at hpe
          obtain ⟨hdn, hpe⟩ := hpe
          obtain ⟨T, h', x, hT, hk, _, hall⟩ := pwG_spc (r := r) hpe
          obtain ⟨hN1, hN2⟩ := hH.new
          obtain ⟨hLp, hLp'⟩ := hH.allB hL.2.1
          obtain ⟨hLs, hLs'⟩ := hH.allB hL.2.2
          have hLN := fun j hj => hL.1 j (hN1 j hj)
          obtain ⟨hsep1, hsep2, hsep3⟩ := hH.sep hsep
          have eR : ((St.mk R h nt).mapT T h') = ⟨mapR T R, h', nt⟩ := rfl
          obtain ⟨R1, e1, e2⟩ := put_get (rs := mapR T R) (h := h') (x := x) hdn
          rw [eR, e1] at hk
          obtain ⟨R', k1, k2, k3, k4⟩ := stage (r := r) qs R1 h' nt hk hLs hLp (fun j d hj hd hself => by
            have := List.all_eq_true.1 hN j (hLN j hj)
            rw [hd] at this
            have hjl : j < ops.size := by
              cases ho : ops[j]? with
              | none => simp [dstAt, ho] at hd
              | some o => exact (Array.getElem?_eq_some_iff.1 ho).1
            have := List.all_eq_true.1 this j (List.mem_range.2 hjl)
            simp [hself] at this)
          refine hall V hlook i hoi g a w hs hw _ _ fun g' st' a' w' hst hs' hw' he' hd' => ?_
          subst hst
          have eV : ((St.mk V h nt).mapT T h') = ⟨mapR T V, h', nt⟩ := rfl
          obtain ⟨V', f1, f2⟩ := put_get (rs := mapR T V) (h := h') (x := x) hdn
          rw [eV, f1] at hs'
          refine ih _ R' h' nt qs L' (i :: D) (newsOf qs ++ M) g' a' w' V' hsz' hfu' hcl' k2 k4 k1 hs' hw' (he.trans he') (hd'.trans hds) (fun s hs2 => ?_) (fun k hk => ?_) (fun e' hE => ?_) (hH.cov hcov.2) hsep3 (fun q hq => ?_) (fun j hj => ?_) ⟨fun j hj => hL.1 j (hN2 j hj), hLp', hLs'⟩
          · rw [k3 s fun j hj hjd => hs2 j (List.mem_append_left _ hj) (fun hk => ?_) hjd, e2, f2, getR_mapR hT, getR_mapR hT]
            · by_cases hd : oi.dst = some s
              · rw [if_pos hd, if_pos hd]
              · rw [if_neg hd, if_neg hd]
                rw [hag s fun j hj hnl hjd => hs2 j (List.mem_append_right _ hj) (fun hk => ((hl' j).1 hk).elim (fun hje => ?_) hnl) hjd]
                subst hje
                exact hd (by simpa [dstAt, hoi] using hjd)
            · have := List.all_eq_true.1 hsep1 j hj
              simp only [Bool.and_eq_true, Bool.not_eq_true', bne_iff_ne, ne_eq] at this
              rcases (hl' j).1 hk with hje | hk
              · exact this.2 hje
              · rcases hsub j hk with h1 | h1
                · have := this.1.1; simp [h1] at this
                · have := this.1.2; simp [h1] at this
          · rcases (hl' k).1 hk with rfl | hk
            · exact .inl (List.mem_cons_self ..)
            · exact (hsub k hk).imp (List.mem_cons_of_mem _) (List.mem_append_right _)
          · rcases List.mem_cons.1 hE with rfl | hE
            · exact (hl' _).2 (.inl rfl)
            · exact (hl' _).2 (.inr (heff _ hE))
          · have := List.all_eq_true.1 hsep2 q hq
            simpa using this
          · rcases List.mem_append.1 hj with hj | hj
            · exact hLN j hj
            · exact hMN j hj
        · obtain ⟨f, hf, h1⟩ := List.any_eq_true.1 h1
          simp only [Bool.and_eq_true, decide_eq_true_eq] at h1
          obtain ⟨h2, h3⟩ := sepE_eff hsep f hf
          exact absurd (hsub f (hanc f h1.1 h1.2)) (fun h => h.elim h2 h3)
theorem Sim.drawn {g : G} {st : St} {a : Act} {w w' : World} (h : Sim g st a w) (hw : WF g w) (hh : w'.heap = w.heap) : Sim g st a w' ∧ WF g w' := by
  have ht : Turns g w g w' some some := ⟨fun b hb => ⟨hb, by rw [hh]⟩, fun o o' b off n c hF ha => by
    cases hF
    refine ⟨?_, fun k _ _ => cell_of_heap (by rw [hh])⟩
    cases o with
    | imm => exact ha
    | rd => exact ha
    | own t =>
      rcases ha with ⟨a1, a2, a3, a4⟩ | ha
      · exact .inl ⟨a1, a2, a3, a4.same (by rw [hh])⟩
      · exact .inr ha
    | vw t => exact ha, fun i j h => by cases h; rfl, lax_some, rfl⟩
  have := h.turn ht fun i j hp hd => by cases hp; exact ⟨hd, by rw [hh]⟩
  rw [id_scrub_st] at this
  exact ⟨this, hw.sameSize (by rw [hh]) (fun b _ => by rw [hh])⟩

theorem Tr.draw {id : Nat} {st : St} {Q : Exit → St → Prop} (hm : P.follows .mixedOrders = true) (s : Sch) (hc : s.ok P ops = true) (h : pwP P E ops s.first st fun st' => pwE P E ops s.rest st' fun st'' => Q .normal st'') : Tr P r (.region id ops true) st Q := by
  intro g a w hs hw
  refine wpIn_region_any hm ?_
  obtain ⟨hs1, hw1⟩ := hs.drawn hw (w' := { w with drawn := w.drawn + 1 }) rfl
  have he : Ext g w g { w with drawn := w.drawn + 1 } := ⟨rfl, rfl, rfl, Nat.le_refl _, fun _ _ _ => rfl, fun _ h => .inl h, fun _ h => .inl h, fun _ _ => ⟨rfl, fun h => h⟩, rfl⟩
  simp only [Sch.ok, Bool.and_eq_true] at hc
  obtain ⟨⟨⟨⟨⟨⟨⟨⟨hA, hN⟩, hcov⟩, hsep⟩, hre⟩, hp1⟩, hp2⟩, hs1'⟩, hs2'⟩ := hc
  obtain ⟨rs, hp, nt⟩ := st
  have hN1 : ∀ j, j ∈ newsOf s.first → j ∈ allNews s := fun j hj => List.mem_append_left _ hj
  obtain ⟨R', k1, k2, k3, k4⟩ := stage (r := r) s.first rs hp nt h hs1' hp1 (fun j d hj hd hself => by
    have := List.all_eq_true.1 hN j (hN1 j hj)
    rw [hd] at this
    have hjl : j < ops.size := by
      cases ho : ops[j]? with
      | none => simp [dstAt, ho] at hd
      | some o => exact (Array.getElem?_eq_some_iff.1 ho).1
    have := List.all_eq_true.1 this j (List.mem_range.2 hjl)
    simp [hself] at this)
  have hnl : ∀ k, ¬ Lst (Array.replicate ops.size false) k := fun k => by
    unfold Lst
    simp only [Array.getD_eq_getD_getElem?, Array.getElem?_replicate]
    split <;> simp
  refine drawn hA hN (Q := Q) (fun _ h => h) ops.size _ R' hp nt s.first s.rest [] (newsOf s.first) g a _ rs (by simp) (unl_le _ _) (fun i o _ hl => absurd hl (hnl i)) k2 k4 k1 hs1 hw1 he rfl (fun x hx => ?_) (fun i hl => absurd hl (hnl i)) (fun e he => by cases he) hcov hsep (fun q hq => ?_) hN1 ⟨fun j hj => List.mem_append_right _ hj, hp2, hs2'⟩
  · exact (k3 x fun j hj => hx j hj (hnl j)).symm
  · simpa using List.all_eq_true.1 hre q hq
end
end Go.Sy

/-! A scope that no jump goes through. -/
namespace Go.Sy
def noGoto (Q : Exit → Act → World → Prop) : Exit → Act → World → Prop
  | .goto _, _, _ => False
  | e, a, w => Q e a w

section
variable {P : Program} {b : Frame} {a : Act} {k : List Item} {cs : List Frame} {w : World}
theorem stepR_scope {c : Code} : step P (lone (b.atR a (.code (.scope c) :: k)) cs w) = .next (lone (b.atR a (.code c :: .inScope c :: k)) cs w) :=
  step_lone_go (by simp [stepG, stepG.exec, Frame.atR])
theorem stepR_inScope {c : Code} : step P (lone (b.atR a (.inScope c :: k)) cs w) = .next (lone (b.atR a k) cs w) :=
  step_lone_go (by simp [stepG, stepG.exec, Frame.atR])
end

theorem wpIn_scope {F : Fence} {n : Nat} {P : Program} {Q : Exit → Act → World → Prop} {a : Act} {w : World} {c : Code} (h : c.wpIn F n P (noGoto Q) a w) : (Code.scope c).wpIn F n P Q a w := by
  intro b k cs hro hb hr
  have h0 : (lone (b.atR a (.code (.scope c) :: k)) cs w).fenced P F := fenced_calm hb hr rfl
  obtain ⟨e, a₁, w₁, hq, harr⟩ := h b (.inScope c :: k) cs hro hb hr
  cases e with
  | normal => exact ⟨.normal, a₁, w₁, hq, .head h0 stepR_scope (StepsIn.trans harr (.one (fenced_calm hb hr rfl) stepR_inScope))⟩
  | exit id' =>
    have hx : exitTo id' (.inScope c :: k) = exitTo id' k := by simp [exitTo]
    exact ⟨.exit id', a₁, w₁, hq, fun k' hk => .head h0 stepR_scope (harr.1 k' (by rw [hx]; exact hk)),
      fun hr' hk => let ⟨k₁, h1, h2⟩ := harr.2 hr' (by rw [hx]; exact hk); ⟨k₁, h1, .head h0 stepR_scope h2⟩⟩
  | goto l => exact hq.elim
  | ret => exact ⟨_, a₁, w₁, hq, .of_steps (.one h0 stepR_scope) harr⟩
  | panic ch => exact ⟨_, a₁, w₁, hq, .of_steps (.one h0 stepR_scope) harr⟩
  | outgrown => exact ⟨_, a₁, w₁, hq, .of_steps (.one h0 stepR_scope) harr⟩

def scopeK (Q : Exit → St → Prop) : Exit → St → Prop
  | .goto _, _ => False
  | e, s => Q e s
theorem Tr.scope {P : Program} {r : Option Nat} {st : St} {Q : Exit → St → Prop} {c : Code} (h : Tr P r c st (scopeK Q)) : Tr P r (.scope c) st Q := by
  intro g a w hs hw
  refine wpIn_scope (wpIn_mono (h g a w hs hw) fun e a' w' hp => ?_)
  obtain ⟨g', st', h1, h2, h3, h4, h5⟩ := hp
  cases e with
  | goto l => exact h1.elim
  | exit id' => exact ⟨g', st', h1, h2, h3, h4, h5⟩
  | normal => exact ⟨g', st', h1, h2, h3, h4, h5⟩
  | ret => exact ⟨g', st', h1, h2, h3, h4, h5⟩
  | panic c => exact ⟨g', st', h1, h2, h3, h4, h5⟩
  | outgrown => exact ⟨g', st', h1, h2, h3, h4, h5⟩
end Go.Sy

/-! Code as a proposition, for simp. -/
namespace Go.Sy

def seqC (k : St → Prop) (Q : Exit → St → Prop) : Exit → St → Prop
  | .normal, s => k s
  | e, s => Q e s

def lookS : List (Nat × Sch) → Nat → Option Sch
  | [], _ => none
  | (k, s) :: l, id => if k = id then some s else lookS l id

def schOK (P : Program) (sc : List (Nat × Sch)) : Code → Bool
  | .region id ops true => match lookS sc id with
    | some s => s.ok P ops
    | none => true
  | .seq x y => schOK P sc x && schOK P sc y
  | .cond _ x y => schOK P sc x && schOK P sc y
  | .block _ x => schOK P sc x
  | .loop x => schOK P sc x
  | .scope x => schOK P sc x
  | .rangeFunc _ _ x y => schOK P sc x && schOK P sc y
  | _ => true

/-- Code whose drawn regions have evaluations. -/
def TrS (P : Program) (sc : List (Nat × Sch)) (r : Option Nat) (c : Code) (st : St) (Q : Exit → St → Prop) : Prop := schOK P sc c = true → Tr P r c st Q

/-- A range over a function, as it stands. -/
def RfK (P : Program) (sc : List (Nat × Sch)) (r : Option Nat) (f : Operand) (ps : Array Tmp) (x y : Code) (st : St) (Q : Exit → St → Prop) (_ : Tag Q := .mk) : Prop := TrS P sc r (.rangeFunc f ps x y) st Q

def pwC (P : Program) (E : List (Spec P)) (sc : List (Nat × Sch)) (r : Option Nat) : Code → St → (Exit → St → Prop) → Prop
  | .skip, st, Q => Q .normal st
  | .label _, st, Q => Q .normal st
  | .region id ops b, st, Q => match b with
    | false => pwL P E ops ops.toList st fun s => Q .normal s
    | true => match lookS sc id with
      | some s => pwP P E ops s.first st fun st' => pwE P E ops s.rest st' fun st'' => Q .normal st''
      | none => TrS P sc r (.region id ops true) st Q
  | .seq x y, st, Q => pwC P E sc r x st (seqC (fun s => pwC P E sc r y s Q) Q)
  | .cond c x y, st, Q => onBool (st.ev c) fun t => Cnd t (pwC P E sc r x st Q) (pwC P E sc r y st Q)
  | .block id c, st, Q => pwC P E sc r c st (blockK id Q)
  | .scope c, st, Q => pwC P E sc r c st (scopeK Q)
  | .exit id, st, Q => Q (.exit id) st
  | .ret, st, Q => Q .ret st
  | .rangeFunc f ps x y, st, Q => RfK P sc r f ps x y st Q
  | c, st, Q => TrS P sc r c st Q

theorem seqK_of {P : Program} {r : Option Nat} {y : Code} {Q : Exit → St → Prop} {pw : St → Prop} (hy : ∀ s, pw s → Tr P r y s Q) : ∀ e s, seqC pw Q e s → seqK P r y Q e s := by
  intro e s h
  cases e with
  | normal => exact hy s h
  | _ => exact h

theorem pwC_ok {P : Program} {E : List (Spec P)} {sc : List (Nat × Sch)} {r : Option Nat} (hm : P.follows .mixedOrders = true) (c : Code) : ∀ {st : St} {Q : Exit → St → Prop}, schOK P sc c = true → pwC P E sc r c st Q → Tr P r c st Q := by
  induction c with
  | skip => exact fun _ h => Tr.skip h
  | label l => exact fun _ h => Tr.label h
  | region id ops b => cases b with
    | false => exact fun _ h => Tr.region h
    | true =>
      intro st Q hc h
      simp only [pwC] at h
      simp only [schOK] at hc
      cases hl : lookS sc id with
      | none => rw [hl] at h; exact h (by simp only [schOK, hl])
      | some s =>
        rw [hl] at h hc
        exact Tr.draw hm s hc h
  | seq x y ihx ihy =>
    intro st Q hc h
    simp only [schOK, Bool.and_eq_true] at hc
    exact Tr.seq (Tr.mono (ihx hc.1 h) (seqK_of fun s => ihy hc.2))
  | cond c x y ihx ihy =>
    intro st Q hc h
    simp only [schOK, Bool.and_eq_true] at hc
    obtain ⟨t, h1, h2, h3⟩ := onBool_iff.1 h
    exact Tr.cond h1 (fun e => ihx hc.1 (h2 e)) (fun e => ihy hc.2 (h3 e))
  | block id c ih => exact fun hc h => Tr.block (ih (by simpa only [schOK] using hc) h)
  | exit id => exact fun _ h => Tr.exit h
  | ret => exact fun _ h => Tr.ret h
  | loop c ih => exact fun hc h => h hc
  | rangeFunc f ps a b iha ihb => exact fun hc h => h hc
  | scope c ih => exact fun hc h => Tr.scope (ih (by simpa only [schOK] using hc) h)
  | goto l => exact fun hc h => h hc
  | refuse w => exact fun hc h => h hc

theorem TrS.loop {P : Program} (E : List (Spec P)) {sc : List (Nat × Sch)} {r : Option Nat} {st : St} {Q : Exit → St → Prop} (hm : P.follows .mixedOrders = true) {α : Type} {c : Code} (S : α → St) (m : α → Nat) (l ids : List Nat) (x0 : α) (h0 : st.keep l ids = S x0)
    (hr : ∀ x, pwC P E sc r c (S x) fun e s => match e with
      | .normal => ∃ y, m y < m x ∧ s.keep l ids = S y
      | e => Q e s) : TrS P sc r (.loop c) st Q := fun hc => Tr.loop S m l ids x0 h0 fun x => pwC_ok hm c (by simpa only [schOK] using hc) (hr x)

theorem TrS.loopI {P : Program} (E : List (Spec P)) {sc : List (Nat × Sch)} {r : Option Nat} {st : St} {Q : Exit → St → Prop} (hm : P.follows .mixedOrders = true) {β : Type} {c : Code} (I : β → Prop) (S : β → St) (m : β → Nat) (l ids : List Nat) (x0 : β) (hI : I x0) (h0 : st.keep l ids = S x0)
    (hr : ∀ x, I x → pwC P E sc r c (S x) fun e s => match e with
      | .normal => ∃ y, I y ∧ m y < m x ∧ s.keep l ids = S y
      | e => Q e s) : TrS P sc r (.loop c) st Q := fun hc => Tr.loop (α := { x // I x }) (fun x => S x.1) (fun x => m x.1) l ids ⟨x0, hI⟩ h0 fun x => Tr.mono (pwC_ok hm c (by simpa only [schOK] using hc) (hr x.1 x.2)) fun e s h => by
      cases e with
      | normal => obtain ⟨y, h1, h2, h3⟩ := h; exact ⟨⟨y, h1⟩, h2, h3⟩
      | _ => exact h

theorem TrC.of {P : Program} {E : List (Spec P)} {sc : List (Nat × Sch)} {f : FuncId} {fn : Func} {c : Code} {args : List PV} {h : List (Nat × Ob)} {R : PV → List (Nat × Ob) → Prop} (hm : P.follows .mixedOrders = true) (hf : P.funcs[f]? = some fn) (hb : fn.body = some c) (hc : schOK P sc c = true) (hn : args.length ≤ fn.ntmps)
    (ht : pwC P E sc none c ⟨argR 0 args, h, fn.ntmps⟩ fun e s => match e with
      | .normal => ∃ xs, resPV P s fn.results.toList = some xs ∧ R (retPV xs) s.heap
      | .ret => ∃ xs, resPV P s fn.results.toList = some xs ∧ R (retPV xs) s.heap
      | _ => False) : TrC P f args h R := TrC.intro hf hb hn (pwC_ok hm c hc ht)

def onSome {α : Type} (x : Option α) (f : α → Prop) (_ : Tag f := .mk) : Prop := match x with
  | some r => f r
  | none => False
theorem onSome_iff {α : Type} {x : Option α} {f : α → Prop} {u : Tag f} : onSome x f u ↔ ∃ r, x = some r ∧ f r := by
  cases x <;> simp [onSome]
@[simp] theorem onSome_some {α : Type} (r : α) (f : α → Prop) (u : Tag f) : onSome (some r) f u = f r := (rfl)
@[simp] theorem onSome_none {α : Type} (f : α → Prop) (u : Tag f) : onSome none f u = False := (rfl)
@[congr] theorem onBool_congr {a a' : PV} {f : Bool → Prop} (h : a = a') : onBool a f = onBool a' f := by rw [h]
@[congr] theorem onYld_congr {a a' : Option (Option Bool)} {f : Option Bool → Prop} (h : a = a') : onYld a f = onYld a' f := by rw [h]

def onFn : PV → (FuncId → List PV → List PV → Prop) → Prop
  | .fn (.func k) a b, f => f k a b
  | _, _ => False
theorem onFn_iff {x : PV} {f : FuncId → List PV → List PV → Prop} : onFn x f ↔ ∃ k a b, x = .fn (.func k) a b ∧ f k a b := by
  constructor
  · intro h
    unfold onFn at h
    split at h
    · exact ⟨_, _, _, rfl, h⟩
    · exact h.elim
  · rintro ⟨k, a, b, rfl, h⟩; exact h
@[simp] theorem onFn_fn (k : FuncId) (a b : List PV) (f : FuncId → List PV → List PV → Prop) : onFn (.fn (.func k) a b) f = f k a b := (rfl)
@[congr] theorem onFn_congr {a a' : PV} {f : FuncId → List PV → List PV → Prop} (h : a = a') : onFn a f = onFn a' f := by rw [h]

/-- A loop, as it stands. -/
def LpK (P : Program) (sc : List (Nat × Sch)) (r : Option Nat) (c : Code) (st : St) (Q : Exit → St → Prop) (_ : Tag Q := .mk) : Prop := TrS P sc r (.loop c) st Q

section
variable {P : Program} {E : List (Spec P)} {sc : List (Nat × Sch)} {r : Option Nat} {st : St} {Q : Exit → St → Prop} {K : St → Prop}
@[congr] theorem LpK_congr {c : Code} {st st' : St} {t : Tag Q} (h : st = st') : LpK P sc r c st Q t = LpK P sc r c st' Q t := by rw [h]
@[congr] theorem seqC_congr {k : St → Prop} {e : Exit} {st st' : St} (h : st = st') : seqC k Q e st = seqC k Q e st' := by rw [h]
@[congr] theorem scopeK_congr {e : Exit} {st st' : St} (h : st = st') : scopeK Q e st = scopeK Q e st' := by rw [h]
@[congr] theorem blockK_congr {id : Nat} {e : Exit} {st st' : St} (h : st = st') : blockK id Q e st = blockK id Q e st' := by rw [h]
def nthO : List Oper → Nat → Option Oper
  | [], _ => none
  | o :: _, 0 => some o
  | _ :: l, n + 1 => nthO l n
@[simp] theorem nthO_zero (o : Oper) (l : List Oper) : nthO (o :: l) 0 = some o := (rfl)
@[simp] theorem nthO_succ (o : Oper) (l : List Oper) (n : Nat) : nthO (o :: l) (n + 1) = nthO l n := (rfl)
theorem nthO_eq (l : List Oper) : ∀ n, nthO l n = l[n]? := by
  induction l with
  | nil => intro n; simp [nthO]
  | cons o l ih => intro n; cases n with
    | zero => rfl
    | succ n => simpa [nthO] using ih n
def dstLt : Option Tmp → Nat → Prop
  | none, _ => True
  | some d, n => d < n
@[simp] theorem dstLt_none (n : Nat) : dstLt none n = True := (rfl)
@[simp] theorem dstLt_some (d n : Nat) : dstLt (some d) n = (d < n) := (rfl)
theorem dstLt_iff (d : Option Tmp) (n : Nat) : (∀ k, d = some k → k < n) = dstLt d n := by cases d <;> simp [dstLt]
def sameAt : Option Tmp → St → St → Prop
  | none, _, _ => True
  | some d, s, t => getR s.regs d = getR t.regs d
@[simp] theorem sameAt_none (s t : St) : sameAt none s t = True := (rfl)
@[simp] theorem sameAt_some (d : Nat) (rs rs' : List (Nat × PV)) (h h' : List (Nat × Ob)) (n n' : Nat) : sameAt (some d) ⟨rs, h, n⟩ ⟨rs', h', n'⟩ = (getR rs d = getR rs' d) := (rfl)
theorem sameAt_iff (d : Option Tmp) (s t : St) : (∀ k, d = some k → getR s.regs k = getR t.regs k) = sameAt d s t := by cases d <;> simp [sameAt]
@[congr] theorem preS_congr {s : Spec P} {args args' : List PV} {h h' : List (Nat × Ob)} {d : Option Tmp} {KX : (PV → PV) → List (Nat × Ob) → PV → Prop} (h1 : args = args') (h2 : h = h') : s.pre args h d KX = s.pre args' h' d KX := by rw [h1, h2]
@[congr] theorem pwC_congr {c : Code} {st st' : St} (h : st = st') : pwC P E sc r c st Q = pwC P E sc r c st' Q := by rw [h]
@[congr] theorem pwL_congr {ops : Array Oper} {l : List Oper} {st st' : St} (h : st = st') : pwL P E ops l st K = pwL P E ops l st' K := by rw [h]
@[congr] theorem pwP_congr {ops : Array Oper} {l : List (Bool × Nat)} {st st' : St} (h : st = st') : pwP P E ops l st K = pwP P E ops l st' K := by rw [h]
@[congr] theorem pwE_congr {ops : Array Oper} {l : Ev} {st st' : St} (h : st = st') : pwE P E ops l st K = pwE P E ops l st' K := by rw [h]
@[congr] theorem pwG_congr {ops : Array Oper} {o : Oper} {st st' : St} (h : st = st') : pwG P E ops o st K = pwG P E ops o st' K := by rw [h]
@[congr] theorem pw1_congr {o : Oper} {st st' : St} (h : st = st') : pw1 P E o st K = pw1 P E o st' K := by rw [h]
@[congr] theorem TrS_congr {c : Code} {st st' : St} (h : st = st') : TrS P sc r c st Q = TrS P sc r c st' Q := by rw [h]
@[congr] theorem spOf_congr {l : List (Spec P)} {k : FuncId} {args args' : List PV} {h h' : List (Nat × Ob)} {d : Option Tmp} {KX : (PV → PV) → List (Nat × Ob) → PV → Prop} (h1 : args = args') (h2 : h = h') : spOf l k args h d KX = spOf l k args' h' d KX := by rw [h1, h2]
@[congr] theorem pwBuiltin_congr {b : Builtin} {ats : List TypeId} {ty : TypeId} {args args' : List PV} {d : Option Tmp} {st st' : St} (h1 : args = args') (h2 : st = st') : pwBuiltin P b ats ty args d st K = pwBuiltin P b ats ty args' d st' K := by rw [h1, h2]
@[simp] theorem pwC_skip : pwC P E sc r .skip st Q = Q .normal st := (rfl)
@[simp] theorem pwC_region (id : Nat) (ops : List Oper) : pwC P E sc r (.region id ops.toArray false) st Q = pwL P E ops.toArray ops st fun s => Q .normal s := by simp [pwC]
@[simp] theorem pwC_draw (id : Nat) (ops : Array Oper) : pwC P E sc r (.region id ops true) st Q = match lookS sc id with
      | some s => pwP P E ops s.first st fun st' => pwE P E ops s.rest st' fun st'' => Q .normal st''
      | none => TrS P sc r (.region id ops true) st Q := (rfl)
@[simp] theorem lookS_nil (id : Nat) : lookS [] id = none := (rfl)
@[simp] theorem lookS_cons (k : Nat) (s : Sch) (l : List (Nat × Sch)) (id : Nat) : lookS ((k, s) :: l) id = if k = id then some s else lookS l id := (rfl)
@[simp] theorem pwP_nil (ops : Array Oper) : pwP P E ops [] st K = K st := (rfl)
@[simp] theorem pwP_new (ops : List Oper) (i : Nat) (l : List (Bool × Nat)) : pwP P E ops.toArray ((true, i) :: l) st K = onSome (nthO ops i) fun o => dstLt o.dst st.nt ∧ pwG P E ops.toArray o st fun s => pwP P E ops.toArray l s K := by
  simp only [pwP, List.getElem?_toArray, nthO_eq]
  cases ops[i]? with
  | none => rfl
  | some o => simp only [onSome, dstLt_iff]
@[simp] theorem pwP_re (ops : List Oper) (i : Nat) (l : List (Bool × Nat)) : pwP P E ops.toArray ((false, i) :: l) st K = onSome (nthO ops i) fun o => dstLt o.dst st.nt ∧ (pwG P E ops.toArray o st fun s => sameAt o.dst s st) ∧ pwP P E ops.toArray l st K := by
  simp only [pwP, List.getElem?_toArray, nthO_eq]
  cases ops[i]? with
  | none => rfl
  | some o => simp only [onSome, dstLt_iff, sameAt_iff]
@[simp] theorem pwE_fin (ops : Array Oper) : pwE P E ops .fin st K = K st := (rfl)
theorem pwE_alt (ops : List Oper) (e : Nat) (ps : List (Bool × Nat)) (L o : Ev) : pwE P E ops.toArray (.alt e ps L o) st K = ((onSome (nthO ops e) fun o => dstLt o.dst st.nt ∧ pwG P E ops.toArray o st fun s => pwP P E ops.toArray ps s fun s => pwE P E ops.toArray L s K) ∧ pwE P E ops.toArray o st K) := by
  simp only [pwE, List.getElem?_toArray, nthO_eq]
  cases ops[e]? with
  | none => rfl
  | some o => simp only [onSome, dstLt_iff]
@[simp] theorem pwE_one (ops : List Oper) (e : Nat) (ps : List (Bool × Nat)) (L : Ev) : pwE P E ops.toArray (.alt e ps L .nil) st K = onSome (nthO ops e) fun o => dstLt o.dst st.nt ∧ pwG P E ops.toArray o st fun s => pwP P E ops.toArray ps s fun s => pwE P E ops.toArray L s K := by
  rw [pwE_alt, show pwE P E ops.toArray .nil st K = True from rfl, and_true]
/-- More than one effect may come next. -/
def AltK (P : Program) (E : List (Spec P)) (ops : Array Oper) (t u : Ev) (st : St) (K : St → Prop) (_ : Tag K := .mk) : Prop := pwE P E ops t st K ∧ pwE P E ops u st K
theorem AltK.mk {ops : Array Oper} {t u : Ev} {g : Tag K} (h1 : pwE P E ops t st K) (h2 : pwE P E ops u st K) : AltK P E ops t u st K g := ⟨h1, h2⟩
@[congr] theorem AltK_congr {ops : Array Oper} {t u : Ev} {st st' : St} {g : Tag K} (h : st = st') : AltK P E ops t u st K g = AltK P E ops t u st' K g := by rw [h]
@[simp] theorem pwE_more (ops : List Oper) (e e' : Nat) (ps ps' : List (Bool × Nat)) (L L' o : Ev) : pwE P E ops.toArray (.alt e ps L (.alt e' ps' L' o)) st K = AltK P E ops.toArray (.alt e ps L .nil) (.alt e' ps' L' o) st K := by
  rw [pwE_alt]
  unfold AltK
  rw [pwE_one]
@[simp] theorem pwG_none (ops : Array Oper) (d : Option Tmp) (op : Op) (t : TypeId) (p : String) (af : Array Edge) :
    pwG P E ops { dst := d, op := op, type := t, pos := p, after := af, guard := none } st K = pw1 P E { dst := d, op := op, type := t, pos := p, after := af, guard := none } st K := (rfl)
@[simp] theorem pwG_some (ops : List Oper) (d : Option Tmp) (op : Op) (t : TypeId) (p : String) (af : Array Edge) (j : Nat) (b : Bool) (rs : List (Nat × PV)) (h : List (Nat × Ob)) (n : Nat) :
    pwG P E ops.toArray { dst := d, op := op, type := t, pos := p, after := af, guard := some (j, b) } ⟨rs, h, n⟩ K =
      onYld (yldPV ⟨rs, h, n⟩ (slotOf ops.toArray j)) fun y => Cnd (y == some b) (pw1 P E { dst := d, op := op, type := t, pos := p, after := af, guard := some (j, b) } ⟨rs, h, n⟩ K) (K ((St.mk rs h n).put d (.lit undef))) := (rfl)
@[simp] theorem yldPV_none (st : St) : yldPV st none = some none := (rfl)
@[simp] theorem yldPV_some (rs : List (Nat × PV)) (h : List (Nat × Ob)) (n d : Nat) : yldPV ⟨rs, h, n⟩ (some d) = yldOf (getR rs d) := (rfl)
@[simp] theorem yldOf_bool (b : Bool) : yldOf (.lit (.bool b)) = some (some b) := (rfl)
@[simp] theorem yldOf_undef : yldOf (.lit undef) = some none := (rfl)
@[simp] theorem slotOf_list (ops : List Oper) (j : Nat) : slotOf ops.toArray j = (nthO ops j).bind (·.dst) := by simp [slotOf, nthO_eq]
@[simp] theorem pwC_seq (x y : Code) : pwC P E sc r (.seq x y) st Q = pwC P E sc r x st (seqC (fun s => pwC P E sc r y s Q) Q) := (rfl)
@[simp] theorem pwC_cond (c : Operand) (x y : Code) : pwC P E sc r (.cond c x y) st Q = onBool (st.ev c) fun t => Cnd t (pwC P E sc r x st Q) (pwC P E sc r y st Q) := (rfl)
@[simp] theorem onBool_lit (t : Bool) (f : Bool → Prop) : onBool (.lit (.bool t)) f = f t := (rfl)
@[simp] theorem onYld_some (y : Option Bool) (f : Option Bool → Prop) : onYld (some y) f = f y := (rfl)
@[simp] theorem pwC_block (id : Nat) (c : Code) : pwC P E sc r (.block id c) st Q = pwC P E sc r c st (blockK id Q) := (rfl)
@[simp] theorem pwC_scope (c : Code) : pwC P E sc r (.scope c) st Q = pwC P E sc r c st (scopeK Q) := (rfl)
@[simp] theorem pwC_label (l : Nat) : pwC P E sc r (.label l) st Q = Q .normal st := (rfl)
@[simp] theorem scopeK_normal (s : St) : scopeK Q .normal s = Q .normal s := (rfl)
@[simp] theorem scopeK_ret (s : St) : scopeK Q .ret s = Q .ret s := (rfl)
@[simp] theorem scopeK_exit (id : Nat) (s : St) : scopeK Q (.exit id) s = Q (.exit id) s := (rfl)
@[simp] theorem pwC_exit (id : Nat) : pwC P E sc r (.exit id) st Q = Q (.exit id) st := (rfl)
@[simp] theorem pwC_ret : pwC P E sc r .ret st Q = Q .ret st := (rfl)
@[simp] theorem pwC_loop (c : Code) : pwC P E sc r (.loop c) st Q = LpK P sc r c st Q := (rfl)
@[simp] theorem seqC_normal (k : St → Prop) (s : St) : seqC k Q .normal s = k s := (rfl)
@[simp] theorem seqC_exit (k : St → Prop) (id : Nat) (s : St) : seqC k Q (.exit id) s = Q (.exit id) s := (rfl)
@[simp] theorem seqC_ret (k : St → Prop) (s : St) : seqC k Q .ret s = Q .ret s := (rfl)
@[simp] theorem blockK_normal (id : Nat) (s : St) : blockK id Q .normal s = Q .normal s := (rfl)
@[simp] theorem blockK_ret (id : Nat) (s : St) : blockK id Q .ret s = Q .ret s := (rfl)
@[simp] theorem blockK_exit (id id' : Nat) (s : St) : blockK id Q (.exit id') s = if id' = id then Q .normal s else Q (.exit id') s := (rfl)

@[simp] theorem pwL_nil (ops : Array Oper) : pwL P E ops [] st K = K st := (rfl)
@[simp] theorem pwC_rangeFunc (f : Operand) (ps : Array Tmp) (x y : Code) : pwC P E sc r (.rangeFunc f ps x y) st Q = RfK P sc r f ps x y st Q := (rfl)
@[congr] theorem RfK_congr {f : Operand} {ps : Array Tmp} {x y : Code} {st st' : St} {t : Tag Q} (h : st = st') : RfK P sc r f ps x y st Q t = RfK P sc r f ps x y st' Q t := by rw [h]
@[simp] theorem pwL_none (ops : Array Oper) (d : Option Tmp) (op : Op) (t : TypeId) (p : String) (af : Array Edge) (rest : List Oper) (rs : List (Nat × PV)) (h : List (Nat × Ob)) (n : Nat) :
    pwL P E ops ({ dst := d, op := op, type := t, pos := p, after := af, guard := none } :: rest) ⟨rs, h, n⟩ K = pwO P E { dst := d, op := op, type := t, pos := p, after := af, guard := none } ⟨rs, h, n⟩ fun s => pwL P E ops rest s K := (rfl)
@[simp] theorem pwL_some (ops : List Oper) (d : Option Tmp) (op : Op) (t : TypeId) (p : String) (af : Array Edge) (j : Nat) (b : Bool) (rest : List Oper) (rs : List (Nat × PV)) (h : List (Nat × Ob)) (n : Nat) :
    pwL P E ops.toArray ({ dst := d, op := op, type := t, pos := p, after := af, guard := some (j, b) } :: rest) ⟨rs, h, n⟩ K =
      onYld (yldPV ⟨rs, h, n⟩ (slotOf ops.toArray j)) fun y => Cnd (y == some b) (pwO P E { dst := d, op := op, type := t, pos := p, after := af, guard := some (j, b) } ⟨rs, h, n⟩ fun s => pwL P E ops.toArray rest s K) (pwL P E ops.toArray rest ((St.mk rs h n).put d (.lit undef)) K) := (rfl)

variable {d : Option Tmp} {ty : TypeId} {pos : String} {af : Array Edge} {gd : Option (Nat × Bool)}
@[simp] theorem pwO_move (x : Operand) : pwO P E ⟨d, .move x, ty, pos, af, gd⟩ st K = pw1 P E ⟨d, .move x, ty, pos, af, gd⟩ st K := (rfl)
@[simp] theorem pwO_assign (x : Operand) : pwO P E ⟨d, .assign x, ty, pos, af, gd⟩ st K = pw1 P E ⟨d, .assign x, ty, pos, af, gd⟩ st K := (rfl)
@[simp] theorem pwO_pick (c a b : Operand) : pwO P E ⟨d, .pick c a b, ty, pos, af, gd⟩ st K = pw1 P E ⟨d, .pick c a b, ty, pos, af, gd⟩ st K := (rfl)
@[simp] theorem pwO_binOp (op : BinOp) (t t' : TypeId) (x y : Operand) : pwO P E ⟨d, .binOp op t x y t', ty, pos, af, gd⟩ st K = pw1 P E ⟨d, .binOp op t x y t', ty, pos, af, gd⟩ st K := (rfl)
@[simp] theorem pwO_unOp (op : UnOp) (t : TypeId) (x : Operand) : pwO P E ⟨d, .unOp op t x, ty, pos, af, gd⟩ st K = pw1 P E ⟨d, .unOp op t x, ty, pos, af, gd⟩ st K := (rfl)
@[simp] theorem pwO_convert (s t : TypeId) (x : Operand) : pwO P E ⟨d, .convert s t x, ty, pos, af, gd⟩ st K = pw1 P E ⟨d, .convert s t x, ty, pos, af, gd⟩ st K := (rfl)
@[simp] theorem pwO_load (t : TypeId) (x : Operand) : pwO P E ⟨d, .load t x, ty, pos, af, gd⟩ st K = pw1 P E ⟨d, .load t x, ty, pos, af, gd⟩ st K := (rfl)
@[simp] theorem pwO_store (t : TypeId) (a x : Operand) : pwO P E ⟨d, .store t a x, ty, pos, af, gd⟩ st K = pw1 P E ⟨d, .store t a x, ty, pos, af, gd⟩ st K := (rfl)
@[simp] theorem pwO_nilCheck (x : Operand) : pwO P E ⟨d, .nilCheck x, ty, pos, af, gd⟩ st K = pw1 P E ⟨d, .nilCheck x, ty, pos, af, gd⟩ st K := (rfl)
@[simp] theorem pwO_fieldAddr (s : TypeId) (x : Operand) (f : Nat) : pwO P E ⟨d, .fieldAddr s x f, ty, pos, af, gd⟩ st K = pw1 P E ⟨d, .fieldAddr s x f, ty, pos, af, gd⟩ st K := (rfl)
@[simp] theorem pwO_field (s : TypeId) (x : Operand) (f : Nat) : pwO P E ⟨d, .field s x f, ty, pos, af, gd⟩ st K = pw1 P E ⟨d, .field s x f, ty, pos, af, gd⟩ st K := (rfl)
@[simp] theorem pwO_indexAddr (t : TypeId) (x i : Operand) : pwO P E ⟨d, .indexAddr t x i, ty, pos, af, gd⟩ st K = pw1 P E ⟨d, .indexAddr t x i, ty, pos, af, gd⟩ st K := (rfl)
@[simp] theorem pwO_index (t : TypeId) (x i : Operand) : pwO P E ⟨d, .index t x i, ty, pos, af, gd⟩ st K = pw1 P E ⟨d, .index t x i, ty, pos, af, gd⟩ st K := (rfl)
@[simp] theorem pwO_slice_lo (t : TypeId) (x : Operand) (lo : Option Operand) : pwO P E ⟨d, .slice t x lo none none, ty, pos, af, gd⟩ st K = pw1 P E ⟨d, .slice t x lo none none, ty, pos, af, gd⟩ st K := (rfl)
@[simp] theorem pwO_slice3 (t : TypeId) (x m : Operand) (lo hi : Option Operand) : pwO P E ⟨d, .slice t x lo hi (some m), ty, pos, af, gd⟩ st K = pw1 P E ⟨d, .slice t x lo hi (some m), ty, pos, af, gd⟩ st K := by cases hi <;> rfl
@[simp] theorem pwO_extract (x : Operand) (i : Nat) : pwO P E ⟨d, .extract x i, ty, pos, af, gd⟩ st K = pw1 P E ⟨d, .extract x i, ty, pos, af, gd⟩ st K := (rfl)
@[simp] theorem pwO_makeFunc (fn : Fn) (a b : Array Operand) : pwO P E ⟨d, .makeFunc fn a b, ty, pos, af, gd⟩ st K = pw1 P E ⟨d, .makeFunc fn a b, ty, pos, af, gd⟩ st K := (rfl)
@[simp] theorem pwO_alloc (t : TypeId) : pwO P E ⟨d, .alloc t, ty, pos, af, gd⟩ st K = pw1 P E ⟨d, .alloc t, ty, pos, af, gd⟩ st K := (rfl)
@[simp] theorem pwO_box (t : TypeId) (x : Operand) : pwO P E ⟨d, .box t x, ty, pos, af, gd⟩ st K = pw1 P E ⟨d, .box t x, ty, pos, af, gd⟩ st K := (rfl)
@[simp] theorem pwO_build (t : TypeId) (ps : Array (Nat × Operand)) : pwO P E ⟨d, .build t ps, ty, pos, af, gd⟩ st K = pw1 P E ⟨d, .build t ps, ty, pos, af, gd⟩ st K := (rfl)
@[simp] theorem pwO_buildSlice (t : TypeId) (n : Nat) (ps : Array (Nat × Operand)) : pwO P E ⟨d, .buildSlice t n ps, ty, pos, af, gd⟩ st K = pw1 P E ⟨d, .buildSlice t n ps, ty, pos, af, gd⟩ st K := (rfl)
@[simp] theorem pwO_makeSlice (t : TypeId) (l c : Operand) : pwO P E ⟨d, .makeSlice t l c, ty, pos, af, gd⟩ st K = pw1 P E ⟨d, .makeSlice t l c, ty, pos, af, gd⟩ st K := (rfl)
@[simp] theorem pwO_makeMap (t : TypeId) (x : Option Operand) : pwO P E ⟨d, .makeMap t x, ty, pos, af, gd⟩ st K = pw1 P E ⟨d, .makeMap t x, ty, pos, af, gd⟩ st K := (rfl)
@[simp] theorem pwO_mapEntry (t : TypeId) (m k : Operand) : pwO P E ⟨d, .mapEntry t m k, ty, pos, af, gd⟩ st K = pw1 P E ⟨d, .mapEntry t m k, ty, pos, af, gd⟩ st K := (rfl)
@[simp] theorem pwO_entryStore (t : TypeId) (m s x : Operand) : pwO P E ⟨d, .entryStore t m s x, ty, pos, af, gd⟩ st K = pw1 P E ⟨d, .entryStore t m s x, ty, pos, af, gd⟩ st K := (rfl)
@[simp] theorem pwO_mapUpdate (t : TypeId) (m k x : Operand) : pwO P E ⟨d, .mapUpdate t m k x, ty, pos, af, gd⟩ st K = pw1 P E ⟨d, .mapUpdate t m k x, ty, pos, af, gd⟩ st K := (rfl)
@[simp] theorem pwO_insert (t : TypeId) (m k x : Operand) : pwO P E ⟨d, .insert t m k x, ty, pos, af, gd⟩ st K = pw1 P E ⟨d, .insert t m k x, ty, pos, af, gd⟩ st K := (rfl)
@[simp] theorem pwO_lookup (t : TypeId) (m k : Operand) (ok : Bool) : pwO P E ⟨d, .lookup t m k ok, ty, pos, af, gd⟩ st K = pw1 P E ⟨d, .lookup t m k ok, ty, pos, af, gd⟩ st K := (rfl)
@[simp] theorem pwO_sliceAt (t : TypeId) (x : Operand) : pwO P E ⟨d, .sliceToArrayPointer t x, ty, pos, af, gd⟩ st K = pw1 P E ⟨d, .sliceToArrayPointer t x, ty, pos, af, gd⟩ st K := (rfl)
@[simp] theorem pwO_builtin (b : Builtin) (xs : Array Operand) (ats : Array TypeId) : pwO P E ⟨d, .call { callee := .builtin b, args := xs, argTypes := ats }, ty, pos, af, gd⟩ st K = pw1 P E ⟨d, .call { callee := .builtin b, args := xs, argTypes := ats }, ty, pos, af, gd⟩ st K := (rfl)
/-- A function, or a loop's yield, is called. -/
def onYl : PV → (Nat → Prop) → Prop → Prop
  | .yl id, f, _ => f id
  | _, _, B => B
@[simp] theorem onYl_yl (id : Nat) (f : Nat → Prop) (B : Prop) : onYl (.yl id) f B = f id := (rfl)
@[simp] theorem onYl_fn (q : Fn) (a b : List PV) (f : Nat → Prop) (B : Prop) : onYl (.fn q a b) f B = B := (rfl)
@[simp] theorem pwO_call (f : Operand) (xs : List Operand) (ats : Array TypeId) : pwO P E ⟨d, .call { callee := .value f, args := xs.toArray, argTypes := ats }, ty, pos, af, gd⟩ st K =
    onYl (st.ev f) (fun id => YlK P id (xs.map st.ev) st d K) (pw1 P E ⟨d, .call { callee := .value f, args := xs.toArray, argTypes := ats }, ty, pos, af, gd⟩ st K) := by
  simp only [pwO]
  cases st.ev f <;> rfl
/-- Is it begun anew? -/
def onCut : Option (Nat × Nat) → (Nat × Nat → Prop) → Prop → Prop
  | some q, f, _ => f q
  | none, _, B => B
@[simp] theorem onCut_some (q : Nat × Nat) (f : Nat × Nat → Prop) (B : Prop) : onCut (some q) f B = f q := (rfl)
@[simp] theorem onCut_none (f : Nat × Nat → Prop) (B : Prop) : onCut none f B = B := (rfl)
@[simp] theorem pwO_slice_hi (t : TypeId) (x hi : Operand) : pwO P E ⟨d, .slice t x none (some hi) none, ty, pos, af, gd⟩ st K =
    onCut (cutPV P t (st.ev x) none (some (st.ev hi))) (fun q => K ((st.scrub (Fren (noTk (.loc q.1))) some).put d (.sl (.own (.loc q.1)) false q.2 []))) (pw1 P E ⟨d, .slice t x none (some hi) none, ty, pos, af, gd⟩ st K) := by
  simp only [pwO, Option.map_none]
  cases cutPV P t (st.ev x) none (some (st.ev hi)) with
  | none => rfl
  | some q => simp [onCut]
theorem cutPV_some {t : TypeId} {p q l : PV} : cutPV P t p (some l) q = none := by
  unfold cutPV
  split
  · contradiction
  · rfl
@[simp] theorem pwO_slice_both (t : TypeId) (x lo hi : Operand) : pwO P E ⟨d, .slice t x (some lo) (some hi) none, ty, pos, af, gd⟩ st K = pw1 P E ⟨d, .slice t x (some lo) (some hi) none, ty, pos, af, gd⟩ st K := by
  simp only [pwO, Option.map_some, cutPV_some]
@[simp] theorem pw1_move (x : Operand) : pw1 P E ⟨d, .move x, ty, pos, af, gd⟩ st K = K (st.put d (st.ev x)) := (rfl)
@[simp] theorem pw1_assign (x : Operand) : pw1 P E ⟨d, .assign x, ty, pos, af, gd⟩ st K = K (st.put d (st.ev x)) := (rfl)
@[simp] theorem pw1_pick (c a b : Operand) : pw1 P E ⟨d, .pick c a b, ty, pos, af, gd⟩ st K = onBool (st.ev c) fun t => K (st.put d (if t then st.ev a else st.ev b)) := (rfl)
@[simp] theorem pw1_binOp (op : BinOp) (t t' : TypeId) (x y : Operand) : pw1 P E ⟨d, .binOp op t x y t', ty, pos, af, gd⟩ st K = onSome (binPV P op t x y (st.ev x) (st.ev y)) fun r => K (st.put d r) := propext onSome_iff.symm
@[simp] theorem pw1_unOp (op : UnOp) (t : TypeId) (x : Operand) : pw1 P E ⟨d, .unOp op t x, ty, pos, af, gd⟩ st K = onSome (unPV P (Op.unary op) (st.ev x)) fun r => K (st.put d r) := propext onSome_iff.symm
@[congr] theorem convK_congr {s t : TypeId} {d : Option Tmp} {st st' : St} {p p' : PV} (h1 : st = st') (h2 : p = p') : convK P s t d st p K = convK P s t d st' p' K := by rw [h1, h2]
@[simp] theorem pw1_convert (s t : TypeId) (x : Operand) : pw1 P E ⟨d, .convert s t x, ty, pos, af, gd⟩ st K = convK P s t d st (st.ev x) K := (rfl)
theorem convK_slice {s t e : TypeId} {n sz : Nat} {xs : List PV} (h : P.underlying t = some (.slice e)) : convK P s t d st (.sl (.own (.loc n)) false sz xs) K = (s = t ∧ P.underlying e = some (.int .u8) ∧ K (st.put d (.sl (.own (.loc n)) false sz xs))) := by
  unfold convK; rw [h]
theorem convK_str {s t e : TypeId} {n : Nat} {b : ByteArray} (h : P.underlying t = some (.slice e)) : convK P s t (some n) st (.lit (.string b)) K = ((P.underlying s).isSome = true ∧ P.underlying e = some (.int .u8) ∧ b.size ≤ 140737488355328 ∧ n < 100000 ∧
        K ((st.off n).put (some n) (.sl (.own (.loc n)) false 1 (b.data.toList.map fun c => .lit (.int .u8 c.toNat))))) := by
  unfold convK; rw [h]
theorem convK_else {s t : TypeId} {p : PV} (h : ∀ e, P.underlying t ≠ some (.slice e)) : convK P s t d st p K = onSome (convPV P s t p) fun r => K (st.put d r) := by
  refine Eq.trans ?_ (propext onSome_iff.symm)
  unfold convK
  split
  · rename_i e he; exact absurd he (h e)
  · rfl
@[simp] theorem pw1_load (t : TypeId) (x : Operand) : pw1 P E ⟨d, .load t x, ty, pos, af, gd⟩ st K = onSome (loadPV P t st (st.ev x)) fun r => K (st.put d r) := propext onSome_iff.symm
@[simp] theorem pw1_store (t : TypeId) (a x : Operand) : pw1 P E ⟨d, .store t a x, ty, pos, af, gd⟩ st K = onSome (storeSt P t st (st.ev a) (st.ev x)) fun st' => K (st'.put d (.lit undef)) := propext onSome_iff.symm
@[simp] theorem pw1_nilCheck (x : Operand) : pw1 P E ⟨d, .nilCheck x, ty, pos, af, gd⟩ st K = onSome (nilPV (st.ev x)) fun r => K (st.put d r) := propext onSome_iff.symm
@[simp] theorem pw1_fieldAddr (s : TypeId) (x : Operand) (f : Nat) : pw1 P E ⟨d, .fieldAddr s x f, ty, pos, af, gd⟩ st K = onSome (fieldAddrPV P s f (st.ev x)) fun r => K (st.put d r) := propext onSome_iff.symm
@[simp] theorem pw1_field (s : TypeId) (x : Operand) (f : Nat) : pw1 P E ⟨d, .field s x f, ty, pos, af, gd⟩ st K = onSome (fieldPV P s f (st.ev x)) fun r => K (st.put d r) := propext onSome_iff.symm
@[simp] theorem pw1_indexAddr (t : TypeId) (x i : Operand) : pw1 P E ⟨d, .indexAddr t x i, ty, pos, af, gd⟩ st K = onSome (indexAddrPV P t (st.ev x) (st.ev i)) fun r => K (st.put d r) := propext onSome_iff.symm
@[simp] theorem pw1_index (t : TypeId) (x i : Operand) : pw1 P E ⟨d, .index t x i, ty, pos, af, gd⟩ st K = onSome (indexPV P t (st.ev x) (st.ev i)) fun r => K (st.put d r) := propext onSome_iff.symm
@[simp] theorem pw1_slice (t : TypeId) (x : Operand) (lo hi : Option Operand) : pw1 P E ⟨d, .slice t x lo hi none, ty, pos, af, gd⟩ st K = onSome (slicePV P t (st.ev x) (lo.map st.ev) (hi.map st.ev)) fun r => K (st.put d r) := propext onSome_iff.symm
@[simp] theorem pw1_slice3 (t : TypeId) (x m : Operand) (lo hi : Option Operand) (d : Tmp) : pw1 P E ⟨some d, .slice t x lo hi (some m), ty, pos, af, gd⟩ st K = onSome (slice3PV P t d (st.ev x) (lo.map st.ev) (hi.map st.ev) (st.ev m)) fun q => K ((st.fz q.1).put (some d) q.2) := by
  refine Eq.trans ?_ (propext onSome_iff.symm)
  simp [pw1]
@[simp] theorem pw1_extract (x : Operand) (i : Nat) : pw1 P E ⟨d, .extract x i, ty, pos, af, gd⟩ st K = onSome (extractPV (st.ev x) i) fun r => K (st.put d r) := propext onSome_iff.symm
@[simp] theorem pw1_makeFunc (fn : Fn) (a b : List Operand) : pw1 P E ⟨d, .makeFunc fn a.toArray b.toArray, ty, pos, af, gd⟩ st K = K (st.put d (.fn fn (a.map st.ev) (b.map st.ev))) := (rfl)
@[simp] theorem pw1_alloc (t : TypeId) (d : Tmp) : pw1 P E ⟨some d, .alloc t, ty, pos, af, gd⟩ st K = onSome (zerosOf P t) fun zs => d < 100000 ∧ K ((boxSt d zs st).put (some d) (.ptr d 0)) := by
  refine Eq.trans ?_ (propext onSome_iff.symm)
  simp [pw1]
@[simp] theorem pw1_box (t : TypeId) (x : Operand) (d : Tmp) : pw1 P E ⟨some d, .box t x, ty, pos, af, gd⟩ st K = ((st.ev x).plain = true ∧ d < 100000 ∧ K ((boxSt d (st.ev x).comps st).put (some d) (.ptr d 0))) := by
  simp [pw1]
@[simp] theorem pw1_build (t : TypeId) (ps : List (Nat × Operand)) : pw1 P E ⟨d, .build t ps.toArray, ty, pos, af, gd⟩ st K = onSome (buildPV P t (ps.map fun p => (p.1, st.ev p.2))) fun r => K (st.put d r) := propext onSome_iff.symm
@[simp] theorem pw1_buildSlice (t : TypeId) (n : Nat) (ps : List (Nat × Operand)) (d : Tmp) : pw1 P E ⟨some d, .buildSlice t n ps.toArray, ty, pos, af, gd⟩ st K =
    onSome (buildRow P t n ((ps.map fun p => (p.1, st.ev p.2)).map fun p => (p.1, p.2.fz (toksP (ps.map fun p => (p.1, st.ev p.2)))))) fun q => (∀ x, x ∈ q.2 → Data x) ∧ d < 100000 ∧
      K (((st.fz (toksP (ps.map fun p => (p.1, st.ev p.2)))).off d).put (some d) (.sl (.own (.loc d)) false q.1 q.2)) := by
  refine Eq.trans ?_ (propext onSome_iff.symm)
  simp [pw1, partsOf]
@[simp] theorem pw1_makeSlice (t : TypeId) (l c : Operand) (d : Tmp) : pw1 P E ⟨some d, .makeSlice t l c, ty, pos, af, gd⟩ st K =
    onSome (makePV P t (st.ev l) (st.ev c)) fun q => (∀ x, x ∈ q.2 → Data x) ∧ d < 100000 ∧ K ((st.off d).put (some d) (.sl (.own (.loc d)) false q.1 q.2)) := by
  refine Eq.trans ?_ (propext onSome_iff.symm)
  simp [pw1]
@[simp] theorem pw1_makeMap (t : TypeId) (d : Tmp) : pw1 P E ⟨some d, .makeMap t none, ty, pos, af, gd⟩ st K = (d < 100000 ∧ K ((mapSt d st).put (some d) (.mp d))) := by
  simp [pw1]
@[simp] theorem pw1_mapEntry (t : TypeId) (m k : Operand) : pw1 P E ⟨d, .mapEntry t m k, ty, pos, af, gd⟩ st K = onSome (mapEntryPV P t st (st.ev m) (st.ev k)) fun q => K (q.1.put d q.2) := propext onSome_iff.symm
@[simp] theorem pw1_entryStore (t : TypeId) (m s x : Operand) : pw1 P E ⟨d, .entryStore t m s x, ty, pos, af, gd⟩ st K = onSome (entrySt st (st.ev m) (st.ev s) (st.ev x)) fun st' => K (st'.put d (.lit undef)) := propext onSome_iff.symm
@[simp] theorem pw1_mapUpdate (t : TypeId) (m k x : Operand) : pw1 P E ⟨d, .mapUpdate t m k x, ty, pos, af, gd⟩ st K = onSome (mapUpdSt P t st (st.ev m) (st.ev k) (st.ev x)) fun st' => K (st'.put d (.lit undef)) := propext onSome_iff.symm
@[simp] theorem pw1_insert (t : TypeId) (m k x : Operand) : pw1 P E ⟨d, .insert t m k x, ty, pos, af, gd⟩ st K = onSome (mapUpdSt P t st (st.ev m) (st.ev k) (st.ev x)) fun st' => K (st'.put d (.lit undef)) := propext onSome_iff.symm
@[simp] theorem pw1_lookup (t : TypeId) (m k : Operand) (ok : Bool) : pw1 P E ⟨d, .lookup t m k ok, ty, pos, af, gd⟩ st K = onSome (lookupPV P t st (st.ev m) (st.ev k) ok) fun r => K (st.put d r) := propext onSome_iff.symm
@[simp] theorem pw1_sliceAt (t : TypeId) (x : Operand) : pw1 P E ⟨d, .sliceToArrayPointer t x, ty, pos, af, gd⟩ st K = onSome (atPV P t (st.ev x)) fun r => K (st.put d r) := propext onSome_iff.symm
@[simp] theorem pw1_builtin (b : Builtin) (xs : List Operand) (ats : List TypeId) : pw1 P E ⟨d, .call { callee := .builtin b, args := xs.toArray, argTypes := ats.toArray }, ty, pos, af, gd⟩ st K = pwBuiltin P b ats ty (xs.map st.ev) d st K := by
  simp [pw1]
@[simp] theorem pw1_call (f : Operand) (xs : List Operand) (ats : List TypeId) (rs : List (Nat × PV)) (h : List (Nat × Ob)) (n : Nat) : pw1 P E ⟨d, .call { callee := .value f, args := xs.toArray, argTypes := ats.toArray }, ty, pos, af, gd⟩ ⟨rs, h, n⟩ K =
    onFn ((St.mk rs h n).ev f) fun k first cap => spOf E k (first ++ xs.map (St.mk rs h n).ev ++ cap) h d fun T h' x => K ((St.mk (mapR T rs) h' n).put d x) := by
  refine Eq.trans ?_ (propext onFn_iff.symm)
  simp [pw1, St.mapT]
@[simp] theorem spOf_nil (k : FuncId) (args : List PV) (h : List (Nat × Ob)) (KX : (PV → PV) → List (Nat × Ob) → PV → Prop) : spOf (P := P) [] k args h d KX = False := (rfl)
@[simp] theorem spOf_cons (s : Spec P) (l : List (Spec P)) (k : FuncId) (args : List PV) (h : List (Nat × Ob)) (KX : (PV → PV) → List (Nat × Ob) → PV → Prop) : spOf (s :: l) k args h d KX = if s.k = k then s.pre args h d KX else spOf l k args h d KX := (rfl)
@[simp] theorem mapR_idl (rs : List (Nat × PV)) : mapR (fun x => x) rs = rs := mapR_id rs
@[simp] theorem mapR_nil (T : PV → PV) : mapR T [] = [] := (rfl)
theorem mapR_cons (T : PV → PV) (k : Nat) (x : PV) (rs : List (Nat × PV)) : mapR T ((k, x) :: rs) = (k, T x) :: mapR T rs := (rfl)
@[simp] theorem builtin_len (tt : TypeId) (p : PV) (ty : TypeId) : pwBuiltin P .len [tt] ty [p] d st K = onSome (lenPV P tt p) fun r => K (st.put d r) := propext onSome_iff.symm
@[simp] theorem builtin_cap (tt : TypeId) (p : PV) (ty : TypeId) : pwBuiltin P .cap [tt] ty [p] d st K = onSome (capPV P tt p) fun r => K (st.put d r) := propext onSome_iff.symm
@[simp] theorem builtin_append (T tx : TypeId) (p q : PV) (ty : TypeId) (d : Tmp) : pwBuiltin P .append [T, tx] ty [p, q] (some d) st K = onSome (appPV P T tx d p q) fun r => K ((st.scrub (Fkill r.1) some).put (some d) r.2) := by
  refine Eq.trans ?_ (propext onSome_iff.symm)
  simp [pwBuiltin]
@[simp] theorem builtin_min (ats : List TypeId) (args : List PV) (ty : TypeId) : pwBuiltin P .min ats ty args d st K = onSome ((litL args).bind fun vs => pureOf P (Builtin.min_ ats.toArray ty vs.toArray)) fun r => K (st.put d (.lit r)) := by
  refine Eq.trans ?_ (propext onSome_iff.symm)
  simp [pwBuiltin, Option.bind_eq_some_iff]
  exact ⟨fun ⟨vs, h1, r, h2, h3⟩ => ⟨r, ⟨vs, h1, h2⟩, h3⟩, fun ⟨r, ⟨vs, h1, h2⟩, h3⟩ => ⟨vs, h1, r, h2, h3⟩⟩
@[simp] theorem builtin_max (ats : List TypeId) (args : List PV) (ty : TypeId) : pwBuiltin P .max ats ty args d st K = onSome ((litL args).bind fun vs => pureOf P (Builtin.max_ ats.toArray ty vs.toArray)) fun r => K (st.put d (.lit r)) := by
  refine Eq.trans ?_ (propext onSome_iff.symm)
  simp [pwBuiltin, Option.bind_eq_some_iff]
  exact ⟨fun ⟨vs, h1, r, h2, h3⟩ => ⟨r, ⟨vs, h1, h2⟩, h3⟩, fun ⟨r, ⟨vs, h1, h2⟩, h3⟩ => ⟨vs, h1, r, h2, h3⟩⟩
@[simp] theorem ev_tmp (rs : List (Nat × PV)) (h : List (Nat × Ob)) (n : Nat) (t : Tmp) : (St.mk rs h n).ev (.tmp t) = getR rs t := (rfl)
@[simp] theorem ev_const (v : Value) : st.ev (.const v) = ofVal v := (rfl)
@[simp] theorem ev_func (f : FuncId) : st.ev (.func f) = .fn (.func f) [] [] := (rfl)
@[simp] theorem put_none (x : PV) : st.put none x = st := (rfl)
@[simp] theorem put_some (rs : List (Nat × PV)) (h : List (Nat × Ob)) (n d : Nat) (x : PV) : (St.mk rs h n).put (some d) x = if d < n then ⟨(d, x) :: rs, h, n⟩ else ⟨rs, h, n⟩ := (rfl)
@[simp] theorem getR_cons (k : Nat) (x : PV) (rs : List (Nat × PV)) (s : Nat) : getR ((k, x) :: rs) s = if k = s then x else getR rs s := (rfl)
@[simp] theorem getR_nil (s : Nat) : getR [] s = .dead := (rfl)
@[simp] theorem getO_cons (k : Nat) (x : Ob) (rs : List (Nat × Ob)) (s : Nat) : getO ((k, x) :: rs) s = if k = s then some x else getO rs s := (rfl)
@[simp] theorem getO_nil (s : Nat) : getO [] s = none := (rfl)
@[simp] theorem ofVal_int (k : IntKind) (n : Int) : ofVal (.int k n) = .lit (.int k n) := (rfl)
@[simp] theorem ofVal_bool (b : Bool) : ofVal (.bool b) = .lit (.bool b) := (rfl)
@[simp] theorem ofVal_string (b : ByteArray) : ofVal (.string b) = .lit (.string b) := (rfl)
@[simp] theorem ofVal_nilp : ofVal (.pointer none) = .lit (.pointer none) := (rfl)
@[simp] theorem ofVal_nilmap : ofVal (.map none) = .lit (.map none) := (rfl)
@[simp] theorem ofVal_nilsl : ofVal (.slice none 0 0) = .sl .imm true 0 [] := (rfl)
@[simp] theorem argR_nil (k : Nat) : argR k [] = [] := (rfl)
@[simp] theorem argR_cons (k : Nat) (x : PV) (xs : List PV) : argR k (x :: xs) = (k, x) :: argR (k + 1) xs := (rfl)
@[simp] theorem resPV_nil : resPV P st [] = some [] := (rfl)
/-- The result that is a variable of its own. -/
def resCell : Option PV → Option (List PV) → Option (List PV)
  | some x, some ys => some (x :: ys)
  | _, _ => none
@[simp] theorem resCell_some (x : PV) (ys : List PV) : resCell (some x) (some ys) = some (x :: ys) := (rfl)
@[simp] theorem resPV_cell (rs : List (Nat × PV)) (h : List (Nat × Ob)) (n : Nat) (t : Tmp) (ty : TypeId) (vs : List ResultVar) : resPV P ⟨rs, h, n⟩ (.cell t ty :: vs) = resCell ((St.cellsAt ⟨rs, h, n⟩ (getR rs t)).bind (ofCells P ty)) (resPV P ⟨rs, h, n⟩ vs) := by
  simp only [resPV]
  cases St.cellsAt ⟨rs, h, n⟩ (getR rs t) with
  | none => rfl
  | some xs =>
    simp only [Option.bind_some]
    cases ofCells P ty xs <;> cases resPV P ⟨rs, h, n⟩ vs <;> rfl
@[simp] theorem resPV_tmp (rs : List (Nat × PV)) (h : List (Nat × Ob)) (n : Nat) (t : Tmp) (vs : List ResultVar) : resPV P ⟨rs, h, n⟩ (.tmp t :: vs) = (resPV P ⟨rs, h, n⟩ vs).map (getR rs t :: ·) := (rfl)
@[simp] theorem retPV_one (x : PV) : retPV [x] = x := (rfl)
@[simp] theorem retPV_nil : retPV [] = .tup [] := (rfl)
@[simp] theorem retPV_two (x y : PV) (zs : List PV) : retPV (x :: y :: zs) = .tup (x :: y :: zs) := (rfl)

variable {t : TypeId} {x y : Operand} {k : IntKind} {a b : Int}
@[simp] theorem bin_add : binPV P .add t x y (.lit (.int k a)) (.lit (.int k b)) = some (.lit (.int k (k.wrap (a + b)))) := by cases k <;> rfl
@[simp] theorem bin_sub : binPV P .sub t x y (.lit (.int k a)) (.lit (.int k b)) = some (.lit (.int k (k.wrap (a - b)))) := by cases k <;> rfl
@[simp] theorem bin_mul : binPV P .mul t x y (.lit (.int k a)) (.lit (.int k b)) = some (.lit (.int k (k.wrap (a * b)))) := by cases k <;> rfl
@[simp] theorem bin_lss : binPV P .lss t x y (.lit (.int k a)) (.lit (.int k b)) = some (.lit (.bool (decide (a < b)))) := by cases k <;> rfl
@[simp] theorem bin_leq : binPV P .leq t x y (.lit (.int k a)) (.lit (.int k b)) = some (.lit (.bool (decide (a ≤ b)))) := by cases k <;> rfl
@[simp] theorem bin_gtr : binPV P .gtr t x y (.lit (.int k a)) (.lit (.int k b)) = some (.lit (.bool (decide (b < a)))) := by cases k <;> rfl
@[simp] theorem bin_geq : binPV P .geq t x y (.lit (.int k a)) (.lit (.int k b)) = some (.lit (.bool (decide (b ≤ a)))) := by cases k <;> rfl
@[simp] theorem bin_eql : binPV P .eql t x y (.lit (.int k a)) (.lit (.int k b)) = some (.lit (.bool (decide (a = b)))) := by cases k <;> rfl
@[simp] theorem bin_neq : binPV P .neq t x y (.lit (.int k a)) (.lit (.int k b)) = some (.lit (.bool (!decide (a = b)))) := by cases k <;> rfl
end
attribute [simp ↓] onSome_some onSome_none onFn_fn nthO_zero nthO_succ pwC_skip pwC_region pwC_draw lookS_nil lookS_cons pwP_nil pwP_new pwP_re pwE_fin pwE_one pwE_more pwG_none pwG_some pwC_seq pwC_cond onBool_lit onYld_some pwC_block pwC_scope pwC_label scopeK_normal scopeK_ret scopeK_exit pwC_exit pwC_ret pwC_loop seqC_normal seqC_exit seqC_ret blockK_normal blockK_ret blockK_exit pwL_nil pwL_none pwL_some pw1_move pw1_assign pw1_pick pw1_binOp pw1_unOp pw1_convert pw1_load pw1_store pw1_nilCheck pw1_fieldAddr pw1_field pw1_indexAddr pw1_index pw1_slice pw1_slice3 pw1_extract pw1_makeFunc pw1_alloc pw1_box pw1_build pw1_buildSlice pw1_makeSlice pwC_rangeFunc pwO_move pwO_assign pwO_pick pwO_binOp pwO_unOp pwO_convert pwO_load pwO_store pwO_nilCheck pwO_fieldAddr pwO_field pwO_indexAddr pwO_index pwO_slice_lo pwO_slice3 pwO_extract pwO_makeFunc pwO_alloc pwO_box pwO_build pwO_buildSlice pwO_makeSlice pwO_makeMap pwO_mapEntry pwO_entryStore pwO_mapUpdate pwO_insert pwO_lookup pwO_sliceAt pwO_builtin onYl_yl onYl_fn pwO_call onCut_some onCut_none pwO_slice_hi pwO_slice_both pw1_makeMap pw1_mapEntry pw1_entryStore pw1_mapUpdate pw1_insert pw1_lookup pw1_sliceAt pw1_builtin pw1_call spOf_nil spOf_cons mapR_idl builtin_len builtin_append builtin_min builtin_max cnd_true cnd_false
end Go.Sy
