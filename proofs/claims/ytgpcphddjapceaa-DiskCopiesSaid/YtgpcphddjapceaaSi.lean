/- Code as a proposition, for simp. -/
import Derived.Test.YtgpcphddjapceaaSl
namespace Go.Sy

def seqC (k : St → Prop) (Q : Exit → St → Prop) : Exit → St → Prop
  | .normal, s => k s
  | e, s => Q e s

def lookS : List (Nat × Sch) → Nat → Option Sch
  | [], _ => none
  | (k, s) :: l, id => if k = id then some s else lookS l id

def schOK (P : Program) (sc : List (Nat × Sch)) : Code → Bool
  | .region id ops true => match lookS sc id with
    | some s => s.ok P ops
    | none => true
  | .seq x y => schOK P sc x && schOK P sc y
  | .cond _ x y => schOK P sc x && schOK P sc y
  | .block _ x => schOK P sc x
  | .loop x => schOK P sc x
  | .scope x => schOK P sc x
  | .rangeFunc _ _ x y => schOK P sc x && schOK P sc y
  | _ => true

/-- Code whose drawn regions have evaluations. -/
def TrS (P : Program) (sc : List (Nat × Sch)) (r : Option Nat) (c : Code) (st : St) (Q : Exit → St → Prop) : Prop := schOK P sc c = true → Tr P r c st Q

def pwC (P : Program) (E : List (Spec P)) (sc : List (Nat × Sch)) (r : Option Nat) : Code → St → (Exit → St → Prop) → Prop
  | .skip, st, Q => Q .normal st
  | .label _, st, Q => Q .normal st
  | .region id ops b, st, Q => match b with
    | false => pwL P E ops ops.toList st fun s => Q .normal s
    | true => match lookS sc id with
      | some s => pwP P E ops s.first st fun st' => pwE P E ops s.rest st' fun st'' => Q .normal st''
      | none => TrS P sc r (.region id ops true) st Q
  | .seq x y, st, Q => pwC P E sc r x st (seqC (fun s => pwC P E sc r y s Q) Q)
  | .cond c x y, st, Q => onBool (st.ev c) fun t => Cnd t (pwC P E sc r x st Q) (pwC P E sc r y st Q)
  | .block id c, st, Q => pwC P E sc r c st (blockK id Q)
  | .exit id, st, Q => Q (.exit id) st
  | .ret, st, Q => Q .ret st
  | c, st, Q => TrS P sc r c st Q

theorem seqK_of {P : Program} {r : Option Nat} {y : Code} {Q : Exit → St → Prop} {pw : St → Prop} (hy : ∀ s, pw s → Tr P r y s Q) : ∀ e s, seqC pw Q e s → seqK P r y Q e s := by
  intro e s h
  cases e with
  | normal => exact hy s h
  | _ => exact h

theorem pwC_ok {P : Program} {E : List (Spec P)} {sc : List (Nat × Sch)} {r : Option Nat} (hm : P.follows .mixedOrders = true) (c : Code) : ∀ {st : St} {Q : Exit → St → Prop}, schOK P sc c = true → pwC P E sc r c st Q → Tr P r c st Q := by
  induction c with
  | skip => exact fun _ h => Tr.skip h
  | label l => exact fun _ h => Tr.label h
  | region id ops b => cases b with
    | false => exact fun _ h => Tr.region h
    | true =>
      intro st Q hc h
      simp only [pwC] at h
      simp only [schOK] at hc
      cases hl : lookS sc id with
      | none => rw [hl] at h; exact h (by simp only [schOK, hl])
      | some s =>
        rw [hl] at h hc
        exact Tr.draw hm s hc h
  | seq x y ihx ihy =>
    intro st Q hc h
    simp only [schOK, Bool.and_eq_true] at hc
    exact Tr.seq (Tr.mono (ihx hc.1 h) (seqK_of fun s => ihy hc.2))
  | cond c x y ihx ihy =>
    intro st Q hc h
    simp only [schOK, Bool.and_eq_true] at hc
    obtain ⟨t, h1, h2, h3⟩ := onBool_iff.1 h
    exact Tr.cond h1 (fun e => ihx hc.1 (h2 e)) (fun e => ihy hc.2 (h3 e))
  | block id c ih => exact fun hc h => Tr.block (ih (by simpa only [schOK] using hc) h)
  | exit id => exact fun _ h => Tr.exit h
  | ret => exact fun _ h => Tr.ret h
  | loop c ih => exact fun hc h => h hc
  | rangeFunc f ps a b iha ihb => exact fun hc h => h hc
  | scope c ih => exact fun hc h => h hc
  | goto l => exact fun hc h => h hc
  | refuse w => exact fun hc h => h hc

theorem TrS.loop {P : Program} (E : List (Spec P)) {sc : List (Nat × Sch)} {r : Option Nat} {st : St} {Q : Exit → St → Prop} (hm : P.follows .mixedOrders = true) {α : Type} {c : Code} (S : α → St) (m : α → Nat) (l ids : List Nat) (x0 : α) (h0 : st.keep l ids = S x0)
    (hr : ∀ x, pwC P E sc r c (S x) fun e s => match e with
      | .normal => ∃ y, m y < m x ∧ s.keep l ids = S y
      | e => Q e s) : TrS P sc r (.loop c) st Q := fun hc => Tr.loop S m l ids x0 h0 fun x => pwC_ok hm c (by simpa only [schOK] using hc) (hr x)

theorem TrS.loopI {P : Program} (E : List (Spec P)) {sc : List (Nat × Sch)} {r : Option Nat} {st : St} {Q : Exit → St → Prop} (hm : P.follows .mixedOrders = true) {β : Type} {c : Code} (I : β → Prop) (S : β → St) (m : β → Nat) (l ids : List Nat) (x0 : β) (hI : I x0) (h0 : st.keep l ids = S x0)
    (hr : ∀ x, I x → pwC P E sc r c (S x) fun e s => match e with
      | .normal => ∃ y, I y ∧ m y < m x ∧ s.keep l ids = S y
      | e => Q e s) : TrS P sc r (.loop c) st Q := fun hc => Tr.loop (α := { x // I x }) (fun x => S x.1) (fun x => m x.1) l ids ⟨x0, hI⟩ h0 fun x => Tr.mono (pwC_ok hm c (by simpa only [schOK] using hc) (hr x.1 x.2)) fun e s h => by
      cases e with
      | normal => obtain ⟨y, h1, h2, h3⟩ := h; exact ⟨⟨y, h1⟩, h2, h3⟩
      | _ => exact h

theorem TrC.of {P : Program} {E : List (Spec P)} {sc : List (Nat × Sch)} {f : FuncId} {fn : Func} {c : Code} {args : List PV} {h : List (Nat × Ob)} {R : PV → List (Nat × Ob) → Prop} (hm : P.follows .mixedOrders = true) (hf : P.funcs[f]? = some fn) (hb : fn.body = some c) (hc : schOK P sc c = true) (hn : args.length ≤ fn.ntmps)
    (ht : pwC P E sc none c ⟨argR 0 args, h, fn.ntmps⟩ fun e s => match e with
      | .normal => ∃ xs, resPV P s fn.results.toList = some xs ∧ R (retPV xs) s.heap
      | .ret => ∃ xs, resPV P s fn.results.toList = some xs ∧ R (retPV xs) s.heap
      | _ => False) : TrC P f args h R := TrC.intro hf hb hn (pwC_ok hm c hc ht)

def onSome {α : Type} (x : Option α) (f : α → Prop) (_ : Tag f := .mk) : Prop := match x with
  | some r => f r
  | none => False
theorem onSome_iff {α : Type} {x : Option α} {f : α → Prop} {u : Tag f} : onSome x f u ↔ ∃ r, x = some r ∧ f r := by
  cases x <;> simp [onSome]
@[simp] theorem onSome_some {α : Type} (r : α) (f : α → Prop) (u : Tag f) : onSome (some r) f u = f r := (rfl)
@[simp] theorem onSome_none {α : Type} (f : α → Prop) (u : Tag f) : onSome none f u = False := (rfl)
@[congr] theorem onBool_congr {a a' : PV} {f : Bool → Prop} (h : a = a') : onBool a f = onBool a' f := by rw [h]
@[congr] theorem onYld_congr {a a' : Option (Option Bool)} {f : Option Bool → Prop} (h : a = a') : onYld a f = onYld a' f := by rw [h]

def onFn : PV → (FuncId → List PV → List PV → Prop) → Prop
  | .fn (.func k) a b, f => f k a b
  | _, _ => False
theorem onFn_iff {x : PV} {f : FuncId → List PV → List PV → Prop} : onFn x f ↔ ∃ k a b, x = .fn (.func k) a b ∧ f k a b := by
  constructor
  · intro h
    unfold onFn at h
    split at h
    · exact ⟨_, _, _, rfl, h⟩
    · exact h.elim
  · rintro ⟨k, a, b, rfl, h⟩; exact h
@[simp] theorem onFn_fn (k : FuncId) (a b : List PV) (f : FuncId → List PV → List PV → Prop) : onFn (.fn (.func k) a b) f = f k a b := (rfl)
@[congr] theorem onFn_congr {a a' : PV} {f : FuncId → List PV → List PV → Prop} (h : a = a') : onFn a f = onFn a' f := by rw [h]

/-- A loop, as it stands. -/
def LpK (P : Program) (sc : List (Nat × Sch)) (r : Option Nat) (c : Code) (st : St) (Q : Exit → St → Prop) (_ : Tag Q := .mk) : Prop := TrS P sc r (.loop c) st Q

section
variable {P : Program} {E : List (Spec P)} {sc : List (Nat × Sch)} {r : Option Nat} {st : St} {Q : Exit → St → Prop} {K : St → Prop}
@[congr] theorem LpK_congr {c : Code} {st st' : St} {t : Tag Q} (h : st = st') : LpK P sc r c st Q t = LpK P sc r c st' Q t := by rw [h]
@[congr] theorem seqC_congr {k : St → Prop} {e : Exit} {st st' : St} (h : st = st') : seqC k Q e st = seqC k Q e st' := by rw [h]
@[congr] theorem blockK_congr {id : Nat} {e : Exit} {st st' : St} (h : st = st') : blockK id Q e st = blockK id Q e st' := by rw [h]
def nthO : List Oper → Nat → Option Oper
  | [], _ => none
  | o :: _, 0 => some o
  | _ :: l, n + 1 => nthO l n
@[simp] theorem nthO_zero (o : Oper) (l : List Oper) : nthO (o :: l) 0 = some o := (rfl)
@[simp] theorem nthO_succ (o : Oper) (l : List Oper) (n : Nat) : nthO (o :: l) (n + 1) = nthO l n := (rfl)
theorem nthO_eq (l : List Oper) : ∀ n, nthO l n = l[n]? := by
  induction l with
  | nil => intro n; simp [nthO]
  | cons o l ih => intro n; cases n with
    | zero => rfl
    | succ n => simpa [nthO] using ih n
def dstLt : Option Tmp → Nat → Prop
  | none, _ => True
  | some d, n => d < n
@[simp] theorem dstLt_none (n : Nat) : dstLt none n = True := (rfl)
@[simp] theorem dstLt_some (d n : Nat) : dstLt (some d) n = (d < n) := (rfl)
theorem dstLt_iff (d : Option Tmp) (n : Nat) : (∀ k, d = some k → k < n) = dstLt d n := by cases d <;> simp [dstLt]
def sameAt : Option Tmp → St → St → Prop
  | none, _, _ => True
  | some d, s, t => getR s.regs d = getR t.regs d
@[simp] theorem sameAt_none (s t : St) : sameAt none s t = True := (rfl)
@[simp] theorem sameAt_some (d : Nat) (rs rs' : List (Nat × PV)) (h h' : List (Nat × Ob)) (n n' : Nat) : sameAt (some d) ⟨rs, h, n⟩ ⟨rs', h', n'⟩ = (getR rs d = getR rs' d) := (rfl)
theorem sameAt_iff (d : Option Tmp) (s t : St) : (∀ k, d = some k → getR s.regs k = getR t.regs k) = sameAt d s t := by cases d <;> simp [sameAt]
@[congr] theorem preS_congr {s : Spec P} {args args' : List PV} {h h' : List (Nat × Ob)} {d : Option Tmp} {KX : (PV → PV) → List (Nat × Ob) → PV → Prop} (h1 : args = args') (h2 : h = h') : s.pre args h d KX = s.pre args' h' d KX := by rw [h1, h2]
@[congr] theorem pwC_congr {c : Code} {st st' : St} (h : st = st') : pwC P E sc r c st Q = pwC P E sc r c st' Q := by rw [h]
@[congr] theorem pwL_congr {ops : Array Oper} {l : List Oper} {st st' : St} (h : st = st') : pwL P E ops l st K = pwL P E ops l st' K := by rw [h]
@[congr] theorem pwP_congr {ops : Array Oper} {l : List (Bool × Nat)} {st st' : St} (h : st = st') : pwP P E ops l st K = pwP P E ops l st' K := by rw [h]
@[congr] theorem pwE_congr {ops : Array Oper} {l : List (Nat × List (Bool × Nat))} {st st' : St} (h : st = st') : pwE P E ops l st K = pwE P E ops l st' K := by rw [h]
@[congr] theorem pwG_congr {ops : Array Oper} {o : Oper} {st st' : St} (h : st = st') : pwG P E ops o st K = pwG P E ops o st' K := by rw [h]
@[congr] theorem pw1_congr {o : Oper} {st st' : St} (h : st = st') : pw1 P E o st K = pw1 P E o st' K := by rw [h]
@[congr] theorem TrS_congr {c : Code} {st st' : St} (h : st = st') : TrS P sc r c st Q = TrS P sc r c st' Q := by rw [h]
@[congr] theorem spOf_congr {l : List (Spec P)} {k : FuncId} {args args' : List PV} {h h' : List (Nat × Ob)} {d : Option Tmp} {KX : (PV → PV) → List (Nat × Ob) → PV → Prop} (h1 : args = args') (h2 : h = h') : spOf l k args h d KX = spOf l k args' h' d KX := by rw [h1, h2]
@[congr] theorem pwBuiltin_congr {b : Builtin} {ats : List TypeId} {ty : TypeId} {args args' : List PV} {d : Option Tmp} {st st' : St} (h1 : args = args') (h2 : st = st') : pwBuiltin P b ats ty args d st K = pwBuiltin P b ats ty args' d st' K := by rw [h1, h2]
@[simp] theorem pwC_skip : pwC P E sc r .skip st Q = Q .normal st := (rfl)
@[simp] theorem pwC_region (id : Nat) (ops : List Oper) : pwC P E sc r (.region id ops.toArray false) st Q = pwL P E ops.toArray ops st fun s => Q .normal s := by simp [pwC]
@[simp] theorem pwC_draw (id : Nat) (ops : Array Oper) : pwC P E sc r (.region id ops true) st Q = match lookS sc id with
      | some s => pwP P E ops s.first st fun st' => pwE P E ops s.rest st' fun st'' => Q .normal st''
      | none => TrS P sc r (.region id ops true) st Q := (rfl)
@[simp] theorem lookS_nil (id : Nat) : lookS [] id = none := (rfl)
@[simp] theorem lookS_cons (k : Nat) (s : Sch) (l : List (Nat × Sch)) (id : Nat) : lookS ((k, s) :: l) id = if k = id then some s else lookS l id := (rfl)
@[simp] theorem pwP_nil (ops : Array Oper) : pwP P E ops [] st K = K st := (rfl)
@[simp] theorem pwP_new (ops : List Oper) (i : Nat) (l : List (Bool × Nat)) : pwP P E ops.toArray ((true, i) :: l) st K = onSome (nthO ops i) fun o => dstLt o.dst st.nt ∧ pwG P E ops.toArray o st fun s => pwP P E ops.toArray l s K := by
  simp only [pwP, List.getElem?_toArray, nthO_eq]
  cases ops[i]? with
  | none => rfl
  | some o => simp only [onSome, dstLt_iff]
@[simp] theorem pwP_re (ops : List Oper) (i : Nat) (l : List (Bool × Nat)) : pwP P E ops.toArray ((false, i) :: l) st K = onSome (nthO ops i) fun o => dstLt o.dst st.nt ∧ (pwG P E ops.toArray o st fun s => sameAt o.dst s st) ∧ pwP P E ops.toArray l st K := by
  simp only [pwP, List.getElem?_toArray, nthO_eq]
  cases ops[i]? with
  | none => rfl
  | some o => simp only [onSome, dstLt_iff, sameAt_iff]
@[simp] theorem pwE_nil (ops : Array Oper) : pwE P E ops [] st K = K st := (rfl)
@[simp] theorem pwE_cons (ops : List Oper) (e : Nat) (ps : List (Bool × Nat)) (L : List (Nat × List (Bool × Nat))) : pwE P E ops.toArray ((e, ps) :: L) st K = onSome (nthO ops e) fun o => dstLt o.dst st.nt ∧ pwG P E ops.toArray o st fun s => pwP P E ops.toArray ps s fun s => pwE P E ops.toArray L s K := by
  simp only [pwE, List.getElem?_toArray, nthO_eq]
  cases ops[e]? with
  | none => rfl
  | some o => simp only [onSome, dstLt_iff]
@[simp] theorem pwG_none (ops : Array Oper) (d : Option Tmp) (op : Op) (t : TypeId) (p : String) (af : Array Edge) :
    pwG P E ops { dst := d, op := op, type := t, pos := p, after := af, guard := none } st K = pw1 P E { dst := d, op := op, type := t, pos := p, after := af, guard := none } st K := (rfl)
@[simp] theorem pwG_some (ops : List Oper) (d : Option Tmp) (op : Op) (t : TypeId) (p : String) (af : Array Edge) (j : Nat) (b : Bool) (rs : List (Nat × PV)) (h : List (Nat × Ob)) (n : Nat) :
    pwG P E ops.toArray { dst := d, op := op, type := t, pos := p, after := af, guard := some (j, b) } ⟨rs, h, n⟩ K =
      onYld (yldPV ⟨rs, h, n⟩ (slotOf ops.toArray j)) fun y => Cnd (y == some b) (pw1 P E { dst := d, op := op, type := t, pos := p, after := af, guard := some (j, b) } ⟨rs, h, n⟩ K) (K ((St.mk rs h n).put d (.lit undef))) := (rfl)
@[simp] theorem yldPV_none (st : St) : yldPV st none = some none := (rfl)
@[simp] theorem yldPV_some (rs : List (Nat × PV)) (h : List (Nat × Ob)) (n d : Nat) : yldPV ⟨rs, h, n⟩ (some d) = yldOf (getR rs d) := (rfl)
@[simp] theorem yldOf_bool (b : Bool) : yldOf (.lit (.bool b)) = some (some b) := (rfl)
@[simp] theorem yldOf_undef : yldOf (.lit undef) = some none := (rfl)
@[simp] theorem slotOf_list (ops : List Oper) (j : Nat) : slotOf ops.toArray j = (nthO ops j).bind (·.dst) := by simp [slotOf, nthO_eq]
@[simp] theorem pwC_seq (x y : Code) : pwC P E sc r (.seq x y) st Q = pwC P E sc r x st (seqC (fun s => pwC P E sc r y s Q) Q) := (rfl)
@[simp] theorem pwC_cond (c : Operand) (x y : Code) : pwC P E sc r (.cond c x y) st Q = onBool (st.ev c) fun t => Cnd t (pwC P E sc r x st Q) (pwC P E sc r y st Q) := (rfl)
@[simp] theorem onBool_lit (t : Bool) (f : Bool → Prop) : onBool (.lit (.bool t)) f = f t := (rfl)
@[simp] theorem onYld_some (y : Option Bool) (f : Option Bool → Prop) : onYld (some y) f = f y := (rfl)
@[simp] theorem pwC_block (id : Nat) (c : Code) : pwC P E sc r (.block id c) st Q = pwC P E sc r c st (blockK id Q) := (rfl)
@[simp] theorem pwC_exit (id : Nat) : pwC P E sc r (.exit id) st Q = Q (.exit id) st := (rfl)
@[simp] theorem pwC_ret : pwC P E sc r .ret st Q = Q .ret st := (rfl)
@[simp] theorem pwC_loop (c : Code) : pwC P E sc r (.loop c) st Q = LpK P sc r c st Q := (rfl)
@[simp] theorem seqC_normal (k : St → Prop) (s : St) : seqC k Q .normal s = k s := (rfl)
@[simp] theorem seqC_exit (k : St → Prop) (id : Nat) (s : St) : seqC k Q (.exit id) s = Q (.exit id) s := (rfl)
@[simp] theorem seqC_ret (k : St → Prop) (s : St) : seqC k Q .ret s = Q .ret s := (rfl)
@[simp] theorem blockK_normal (id : Nat) (s : St) : blockK id Q .normal s = Q .normal s := (rfl)
@[simp] theorem blockK_ret (id : Nat) (s : St) : blockK id Q .ret s = Q .ret s := (rfl)
@[simp] theorem blockK_exit (id id' : Nat) (s : St) : blockK id Q (.exit id') s = if id' = id then Q .normal s else Q (.exit id') s := (rfl)

@[simp] theorem pwL_nil (ops : Array Oper) : pwL P E ops [] st K = K st := (rfl)
@[simp] theorem pwL_none (ops : Array Oper) (d : Option Tmp) (op : Op) (t : TypeId) (p : String) (af : Array Edge) (rest : List Oper) (rs : List (Nat × PV)) (h : List (Nat × Ob)) (n : Nat) :
    pwL P E ops ({ dst := d, op := op, type := t, pos := p, after := af, guard := none } :: rest) ⟨rs, h, n⟩ K = pw1 P E { dst := d, op := op, type := t, pos := p, after := af, guard := none } ⟨rs, h, n⟩ fun s => pwL P E ops rest s K := (rfl)
@[simp] theorem pwL_some (ops : List Oper) (d : Option Tmp) (op : Op) (t : TypeId) (p : String) (af : Array Edge) (j : Nat) (b : Bool) (rest : List Oper) (rs : List (Nat × PV)) (h : List (Nat × Ob)) (n : Nat) :
    pwL P E ops.toArray ({ dst := d, op := op, type := t, pos := p, after := af, guard := some (j, b) } :: rest) ⟨rs, h, n⟩ K =
      onYld (yldPV ⟨rs, h, n⟩ (slotOf ops.toArray j)) fun y => Cnd (y == some b) (pw1 P E { dst := d, op := op, type := t, pos := p, after := af, guard := some (j, b) } ⟨rs, h, n⟩ fun s => pwL P E ops.toArray rest s K) (pwL P E ops.toArray rest ((St.mk rs h n).put d (.lit undef)) K) := (rfl)

variable {d : Option Tmp} {ty : TypeId} {pos : String} {af : Array Edge} {gd : Option (Nat × Bool)}
@[simp] theorem pw1_move (x : Operand) : pw1 P E ⟨d, .move x, ty, pos, af, gd⟩ st K = K (st.put d (st.ev x)) := (rfl)
@[simp] theorem pw1_assign (x : Operand) : pw1 P E ⟨d, .assign x, ty, pos, af, gd⟩ st K = K (st.put d (st.ev x)) := (rfl)
@[simp] theorem pw1_pick (c a b : Operand) : pw1 P E ⟨d, .pick c a b, ty, pos, af, gd⟩ st K = onBool (st.ev c) fun t => K (st.put d (if t then st.ev a else st.ev b)) := (rfl)
@[simp] theorem pw1_binOp (op : BinOp) (t t' : TypeId) (x y : Operand) : pw1 P E ⟨d, .binOp op t x y t', ty, pos, af, gd⟩ st K = onSome (binPV P op t x y (st.ev x) (st.ev y)) fun r => K (st.put d r) := propext onSome_iff.symm
@[simp] theorem pw1_unOp (op : UnOp) (t : TypeId) (x : Operand) : pw1 P E ⟨d, .unOp op t x, ty, pos, af, gd⟩ st K = onSome (unPV P (Op.unary op) (st.ev x)) fun r => K (st.put d r) := propext onSome_iff.symm
@[congr] theorem convK_congr {s t : TypeId} {d : Option Tmp} {st st' : St} {p p' : PV} (h1 : st = st') (h2 : p = p') : convK P s t d st p K = convK P s t d st' p' K := by rw [h1, h2]
@[simp] theorem pw1_convert (s t : TypeId) (x : Operand) : pw1 P E ⟨d, .convert s t x, ty, pos, af, gd⟩ st K = convK P s t d st (st.ev x) K := (rfl)
theorem convK_slice {s t e : TypeId} {n sz : Nat} {xs : List PV} (h : P.underlying t = some (.slice e)) : convK P s t d st (.sl (.own (.loc n)) false sz xs) K = (s = t ∧ P.underlying e = some (.int .u8) ∧ K (st.put d (.sl (.own (.loc n)) false sz xs))) := by
  unfold convK; rw [h]
theorem convK_str {s t e : TypeId} {n : Nat} {b : ByteArray} (h : P.underlying t = some (.slice e)) : convK P s t (some n) st (.lit (.string b)) K = ((P.underlying s).isSome = true ∧ P.underlying e = some (.int .u8) ∧ b.size ≤ 140737488355328 ∧ n < 100000 ∧
        K ((st.off n).put (some n) (.sl (.own (.loc n)) false 1 (b.data.toList.map fun c => .lit (.int .u8 c.toNat))))) := by
  unfold convK; rw [h]
theorem convK_else {s t : TypeId} {p : PV} (h : ∀ e, P.underlying t ≠ some (.slice e)) : convK P s t d st p K = onSome (convPV P s t p) fun r => K (st.put d r) := by
  refine Eq.trans ?_ (propext onSome_iff.symm)
  unfold convK
  split
  · rename_i e he; exact absurd he (h e)
  · rfl
@[simp] theorem pw1_load (t : TypeId) (x : Operand) : pw1 P E ⟨d, .load t x, ty, pos, af, gd⟩ st K = onSome (loadPV P t st (st.ev x)) fun r => K (st.put d r) := propext onSome_iff.symm
@[simp] theorem pw1_store (t : TypeId) (a x : Operand) : pw1 P E ⟨d, .store t a x, ty, pos, af, gd⟩ st K = onSome (storeSt P t st (st.ev a) (st.ev x)) fun st' => K (st'.put d (.lit undef)) := propext onSome_iff.symm
@[simp] theorem pw1_nilCheck (x : Operand) : pw1 P E ⟨d, .nilCheck x, ty, pos, af, gd⟩ st K = onSome (nilPV (st.ev x)) fun r => K (st.put d r) := propext onSome_iff.symm
@[simp] theorem pw1_fieldAddr (s : TypeId) (x : Operand) (f : Nat) : pw1 P E ⟨d, .fieldAddr s x f, ty, pos, af, gd⟩ st K = onSome (fieldAddrPV P s f (st.ev x)) fun r => K (st.put d r) := propext onSome_iff.symm
@[simp] theorem pw1_field (s : TypeId) (x : Operand) (f : Nat) : pw1 P E ⟨d, .field s x f, ty, pos, af, gd⟩ st K = onSome (fieldPV P s f (st.ev x)) fun r => K (st.put d r) := propext onSome_iff.symm
@[simp] theorem pw1_indexAddr (t : TypeId) (x i : Operand) : pw1 P E ⟨d, .indexAddr t x i, ty, pos, af, gd⟩ st K = onSome (indexAddrPV P t (st.ev x) (st.ev i)) fun r => K (st.put d r) := propext onSome_iff.symm
@[simp] theorem pw1_index (t : TypeId) (x i : Operand) : pw1 P E ⟨d, .index t x i, ty, pos, af, gd⟩ st K = onSome (indexPV P t (st.ev x) (st.ev i)) fun r => K (st.put d r) := propext onSome_iff.symm
@[simp] theorem pw1_slice (t : TypeId) (x : Operand) (lo hi : Option Operand) : pw1 P E ⟨d, .slice t x lo hi none, ty, pos, af, gd⟩ st K = onSome (slicePV P t (st.ev x) (lo.map st.ev) (hi.map st.ev)) fun r => K (st.put d r) := propext onSome_iff.symm
@[simp] theorem pw1_slice3 (t : TypeId) (x m : Operand) (lo hi : Option Operand) (d : Tmp) : pw1 P E ⟨some d, .slice t x lo hi (some m), ty, pos, af, gd⟩ st K = onSome (slice3PV P t d (st.ev x) (lo.map st.ev) (hi.map st.ev) (st.ev m)) fun q => K ((st.fz q.1).put (some d) q.2) := by
  refine Eq.trans ?_ (propext onSome_iff.symm)
  simp [pw1]
@[simp] theorem pw1_extract (x : Operand) (i : Nat) : pw1 P E ⟨d, .extract x i, ty, pos, af, gd⟩ st K = onSome (extractPV (st.ev x) i) fun r => K (st.put d r) := propext onSome_iff.symm
@[simp] theorem pw1_makeFunc (fn : Fn) (a b : List Operand) : pw1 P E ⟨d, .makeFunc fn a.toArray b.toArray, ty, pos, af, gd⟩ st K = K (st.put d (.fn fn (a.map st.ev) (b.map st.ev))) := (rfl)
@[simp] theorem pw1_alloc (t : TypeId) (d : Tmp) : pw1 P E ⟨some d, .alloc t, ty, pos, af, gd⟩ st K = onSome (zerosOf P t) fun zs => d < 100000 ∧ K ((boxSt d zs st).put (some d) (.ptr d 0)) := by
  refine Eq.trans ?_ (propext onSome_iff.symm)
  simp [pw1]
@[simp] theorem pw1_box (t : TypeId) (x : Operand) (d : Tmp) : pw1 P E ⟨some d, .box t x, ty, pos, af, gd⟩ st K = ((st.ev x).plain = true ∧ d < 100000 ∧ K ((boxSt d (st.ev x).comps st).put (some d) (.ptr d 0))) := by
  simp [pw1]
@[simp] theorem pw1_build (t : TypeId) (ps : List (Nat × Operand)) : pw1 P E ⟨d, .build t ps.toArray, ty, pos, af, gd⟩ st K = onSome (buildPV P t (ps.map fun p => (p.1, st.ev p.2))) fun r => K (st.put d r) := propext onSome_iff.symm
@[simp] theorem pw1_buildSlice (t : TypeId) (n : Nat) (ps : List (Nat × Operand)) (d : Tmp) : pw1 P E ⟨some d, .buildSlice t n ps.toArray, ty, pos, af, gd⟩ st K =
    onSome (buildRow P t n ((ps.map fun p => (p.1, st.ev p.2)).map fun p => (p.1, p.2.fz (toksP (ps.map fun p => (p.1, st.ev p.2)))))) fun q => (∀ x, x ∈ q.2 → Data x) ∧ d < 100000 ∧
      K (((st.fz (toksP (ps.map fun p => (p.1, st.ev p.2)))).off d).put (some d) (.sl (.own (.loc d)) false q.1 q.2)) := by
  refine Eq.trans ?_ (propext onSome_iff.symm)
  simp [pw1, partsOf]
@[simp] theorem pw1_builtin (b : Builtin) (xs : List Operand) (ats : List TypeId) : pw1 P E ⟨d, .call { callee := .builtin b, args := xs.toArray, argTypes := ats.toArray }, ty, pos, af, gd⟩ st K = pwBuiltin P b ats ty (xs.map st.ev) d st K := by
  simp [pw1]
@[simp] theorem pw1_call (f : Operand) (xs : List Operand) (ats : List TypeId) (rs : List (Nat × PV)) (h : List (Nat × Ob)) (n : Nat) : pw1 P E ⟨d, .call { callee := .value f, args := xs.toArray, argTypes := ats.toArray }, ty, pos, af, gd⟩ ⟨rs, h, n⟩ K =
    onFn ((St.mk rs h n).ev f) fun k first cap => spOf E k (first ++ xs.map (St.mk rs h n).ev ++ cap) h d fun T h' x => K ((St.mk (mapR T rs) h' n).put d x) := by
  refine Eq.trans ?_ (propext onFn_iff.symm)
  simp [pw1, St.mapT]
@[simp] theorem spOf_nil (k : FuncId) (args : List PV) (h : List (Nat × Ob)) (KX : (PV → PV) → List (Nat × Ob) → PV → Prop) : spOf (P := P) [] k args h d KX = False := (rfl)
@[simp] theorem spOf_cons (s : Spec P) (l : List (Spec P)) (k : FuncId) (args : List PV) (h : List (Nat × Ob)) (KX : (PV → PV) → List (Nat × Ob) → PV → Prop) : spOf (s :: l) k args h d KX = if s.k = k then s.pre args h d KX else spOf l k args h d KX := (rfl)
@[simp] theorem mapR_idl (rs : List (Nat × PV)) : mapR (fun x => x) rs = rs := mapR_id rs
theorem mapR_nil (T : PV → PV) : mapR T [] = [] := (rfl)
theorem mapR_cons (T : PV → PV) (k : Nat) (x : PV) (rs : List (Nat × PV)) : mapR T ((k, x) :: rs) = (k, T x) :: mapR T rs := (rfl)
@[simp] theorem builtin_len (tt : TypeId) (p : PV) (ty : TypeId) : pwBuiltin P .len [tt] ty [p] d st K = onSome (lenPV P tt p) fun r => K (st.put d r) := propext onSome_iff.symm
@[simp] theorem builtin_append (T tx : TypeId) (p q : PV) (ty : TypeId) (d : Tmp) : pwBuiltin P .append [T, tx] ty [p, q] (some d) st K = onSome (appPV P T tx d p q) fun r => K ((st.scrub (Fkill r.1) some).put (some d) r.2) := by
  refine Eq.trans ?_ (propext onSome_iff.symm)
  simp [pwBuiltin]
@[simp] theorem builtin_min (ats : List TypeId) (args : List PV) (ty : TypeId) : pwBuiltin P .min ats ty args d st K = onSome ((litL args).bind fun vs => pureOf P (Builtin.min_ ats.toArray ty vs.toArray)) fun r => K (st.put d (.lit r)) := by
  refine Eq.trans ?_ (propext onSome_iff.symm)
  simp [pwBuiltin, Option.bind_eq_some_iff]
  exact ⟨fun ⟨vs, h1, r, h2, h3⟩ => ⟨r, ⟨vs, h1, h2⟩, h3⟩, fun ⟨r, ⟨vs, h1, h2⟩, h3⟩ => ⟨vs, h1, r, h2, h3⟩⟩
@[simp] theorem builtin_max (ats : List TypeId) (args : List PV) (ty : TypeId) : pwBuiltin P .max ats ty args d st K = onSome ((litL args).bind fun vs => pureOf P (Builtin.max_ ats.toArray ty vs.toArray)) fun r => K (st.put d (.lit r)) := by
  refine Eq.trans ?_ (propext onSome_iff.symm)
  simp [pwBuiltin, Option.bind_eq_some_iff]
  exact ⟨fun ⟨vs, h1, r, h2, h3⟩ => ⟨r, ⟨vs, h1, h2⟩, h3⟩, fun ⟨r, ⟨vs, h1, h2⟩, h3⟩ => ⟨vs, h1, r, h2, h3⟩⟩
@[simp] theorem ev_tmp (rs : List (Nat × PV)) (h : List (Nat × Ob)) (n : Nat) (t : Tmp) : (St.mk rs h n).ev (.tmp t) = getR rs t := (rfl)
@[simp] theorem ev_const (v : Value) : st.ev (.const v) = ofVal v := (rfl)
@[simp] theorem ev_func (f : FuncId) : st.ev (.func f) = .fn (.func f) [] [] := (rfl)
@[simp] theorem put_none (x : PV) : st.put none x = st := (rfl)
@[simp] theorem put_some (rs : List (Nat × PV)) (h : List (Nat × Ob)) (n d : Nat) (x : PV) : (St.mk rs h n).put (some d) x = if d < n then ⟨(d, x) :: rs, h, n⟩ else ⟨rs, h, n⟩ := (rfl)
@[simp] theorem getR_cons (k : Nat) (x : PV) (rs : List (Nat × PV)) (s : Nat) : getR ((k, x) :: rs) s = if k = s then x else getR rs s := (rfl)
@[simp] theorem getR_nil (s : Nat) : getR [] s = .dead := (rfl)
@[simp] theorem getO_cons (k : Nat) (x : Ob) (rs : List (Nat × Ob)) (s : Nat) : getO ((k, x) :: rs) s = if k = s then some x else getO rs s := (rfl)
@[simp] theorem getO_nil (s : Nat) : getO [] s = none := (rfl)
@[simp] theorem ofVal_int (k : IntKind) (n : Int) : ofVal (.int k n) = .lit (.int k n) := (rfl)
@[simp] theorem ofVal_bool (b : Bool) : ofVal (.bool b) = .lit (.bool b) := (rfl)
@[simp] theorem ofVal_string (b : ByteArray) : ofVal (.string b) = .lit (.string b) := (rfl)
@[simp] theorem ofVal_nilp : ofVal (.pointer none) = .lit (.pointer none) := (rfl)
@[simp] theorem ofVal_nilsl : ofVal (.slice none 0 0) = .sl .imm true 0 [] := (rfl)
@[simp] theorem argR_nil (k : Nat) : argR k [] = [] := (rfl)
@[simp] theorem argR_cons (k : Nat) (x : PV) (xs : List PV) : argR k (x :: xs) = (k, x) :: argR (k + 1) xs := (rfl)
@[simp] theorem resPV_nil : resPV P st [] = some [] := (rfl)
@[simp] theorem resPV_tmp (rs : List (Nat × PV)) (h : List (Nat × Ob)) (n : Nat) (t : Tmp) (vs : List ResultVar) : resPV P ⟨rs, h, n⟩ (.tmp t :: vs) = (resPV P ⟨rs, h, n⟩ vs).map (getR rs t :: ·) := (rfl)
@[simp] theorem retPV_one (x : PV) : retPV [x] = x := (rfl)
@[simp] theorem retPV_nil : retPV [] = .tup [] := (rfl)
@[simp] theorem retPV_two (x y : PV) (zs : List PV) : retPV (x :: y :: zs) = .tup (x :: y :: zs) := (rfl)

variable {t : TypeId} {x y : Operand} {k : IntKind} {a b : Int}
@[simp] theorem bin_add : binPV P .add t x y (.lit (.int k a)) (.lit (.int k b)) = some (.lit (.int k (k.wrap (a + b)))) := by cases k <;> rfl
@[simp] theorem bin_sub : binPV P .sub t x y (.lit (.int k a)) (.lit (.int k b)) = some (.lit (.int k (k.wrap (a - b)))) := by cases k <;> rfl
@[simp] theorem bin_mul : binPV P .mul t x y (.lit (.int k a)) (.lit (.int k b)) = some (.lit (.int k (k.wrap (a * b)))) := by cases k <;> rfl
@[simp] theorem bin_lss : binPV P .lss t x y (.lit (.int k a)) (.lit (.int k b)) = some (.lit (.bool (decide (a < b)))) := by cases k <;> rfl
@[simp] theorem bin_leq : binPV P .leq t x y (.lit (.int k a)) (.lit (.int k b)) = some (.lit (.bool (decide (a ≤ b)))) := by cases k <;> rfl
@[simp] theorem bin_gtr : binPV P .gtr t x y (.lit (.int k a)) (.lit (.int k b)) = some (.lit (.bool (decide (b < a)))) := by cases k <;> rfl
@[simp] theorem bin_geq : binPV P .geq t x y (.lit (.int k a)) (.lit (.int k b)) = some (.lit (.bool (decide (b ≤ a)))) := by cases k <;> rfl
@[simp] theorem bin_eql : binPV P .eql t x y (.lit (.int k a)) (.lit (.int k b)) = some (.lit (.bool (decide (a = b)))) := by cases k <;> rfl
@[simp] theorem bin_neq : binPV P .neq t x y (.lit (.int k a)) (.lit (.int k b)) = some (.lit (.bool (!decide (a = b)))) := by cases k <;> rfl
end
attribute [simp ↓] onSome_some onSome_none onFn_fn nthO_zero nthO_succ pwC_skip pwC_region pwC_draw lookS_nil lookS_cons pwP_nil pwP_new pwP_re pwE_nil pwE_cons pwG_none pwG_some pwC_seq pwC_cond onBool_lit onYld_some pwC_block pwC_exit pwC_ret pwC_loop seqC_normal seqC_exit seqC_ret blockK_normal blockK_ret blockK_exit pwL_nil pwL_none pwL_some pw1_move pw1_assign pw1_pick pw1_binOp pw1_unOp pw1_convert pw1_load pw1_store pw1_nilCheck pw1_fieldAddr pw1_field pw1_indexAddr pw1_index pw1_slice pw1_slice3 pw1_extract pw1_makeFunc pw1_alloc pw1_box pw1_build pw1_buildSlice pw1_builtin pw1_call spOf_nil spOf_cons mapR_idl builtin_len builtin_append builtin_min builtin_max cnd_true cnd_false
end Go.Sy
