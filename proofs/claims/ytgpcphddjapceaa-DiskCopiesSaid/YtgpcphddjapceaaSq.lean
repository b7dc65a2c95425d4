/- Calls by contracts that are named where they are used; loops. -/
import Derived.Test.YtgpcphddjapceaaSp
namespace Go.Sy

/-- What is asked behind a call. -/
def CallK (P : Program) (k : FuncId) (as : List PV) (h : List (Nat × Ob)) (d : Option Tmp) (KX : (PV → PV) → List (Nat × Ob) → PV → Prop) (_ : Tag KX := .mk) : Prop :=
  Callable P k ∧ ∃ T h' x, T .dead = .dead ∧ KX T h' x ∧ CallT P h k as T h' x

def anyS (P : Program) (k : FuncId) : Spec P := ⟨k, fun as h d KX => CallK P k as h d KX, fun _ _ _ _ h => h⟩
def anys (P : Program) : List FuncId → List (Spec P)
  | [] => []
  | k :: l => anyS P k :: anys P l

/-- What a function makes of its arguments and of the objects that it is handed. -/
structure Fc (P : Program) (k : FuncId) (as : List PV) (h : List (Nat × Ob)) (x : PV) (h1 : List (Nat × Ob)) : Prop where
  ok : Callable P k
  run : TrC P k as h fun y h' => y = x ∧ h' = h1

def toksO : List (Nat × Ob) → List Tk
  | [] => []
  | (_, .cells xs) :: l => toksOfL xs ++ toksO l
def rowsOf : List Tk → List Nat
  | [] => []
  | .loc n :: l => n :: rowsOf l
  | .wk n :: l => n :: rowsOf l
  | .cell _ _ :: l => rowsOf l
def newIds : List (Nat × Ob) → List Nat
  | [] => []
  | (i, _) :: l => if i < 100000 then i :: newIds l else newIds l

/-- The names that come out of a call. -/
def wayX (h : List (Nat × Ob)) (as : List PV) (d : Option Tmp) (x : PV) (h1 : List (Nat × Ob)) : Way := wayOf h as (newIds h1) (rowsOf (toksOf x ++ toksO h1)) d
def wayR (d : Option Tmp) (x : PV) : Way := rowsWay (numb (1000 + 10 * d.getD 0) (rowsOf (toksOf x)))

/-- A call, its names turned. -/
def CallQ (P : Program) (k : FuncId) (as : List PV) (h : List (Nat × Ob)) (KQ : PV → List (Nat × Ob) → Prop) (_ : Tag KQ := .mk) : Prop :=
  ∃ h0 x h1, Fc P k as h0 x h1 ∧ subO h0 h ∧ KQ x h1

section
variable {P : Program} {k : FuncId} {as : List PV} {h : List (Nat × Ob)} {d : Option Tmp} {KX : (PV → PV) → List (Nat × Ob) → PV → Prop} {t : Tag KX}
theorem CallQ.mk {KQ : PV → List (Nat × Ob) → Prop} {u : Tag KQ} {h0 : List (Nat × Ob)} {x : PV} {h1 : List (Nat × Ob)} (hf : Fc P k as h0 x h1) (hs : subO h0 h) (hq : KQ x h1) : CallQ P k as h KQ u := ⟨h0, x, h1, hf, hs, hq⟩
theorem getO_head_ne {l : List (Nat × Ob)} {k : Nat} {ob : Ob} (h : subO l ((k, ob) :: l)) : True := trivial
/-- No name stands twice. -/
def nodupO : List (Nat × Ob) → Bool
  | [] => true
  | (k, _) :: l => (l.all fun p => p.1 != k) && nodupO l
theorem subO_cons {a l : List (Nat × Ob)} {k : Nat} {ob : Ob} (hn : a.all (fun p => p.1 != k) = true) (hs : subO a l) : subO a ((k, ob) :: l) := by
  induction a with
  | nil => trivial
  | cons c a ih =>
    obtain ⟨i, x⟩ := c
    simp only [List.all_cons, Bool.and_eq_true, bne_iff_ne, ne_eq] at hn
    refine ⟨?_, ih (by simpa using hn.2) hs.2⟩
    simp only [getO]
    rw [if_neg (fun e => hn.1 e.symm)]
    exact hs.1
theorem subO_refl : ∀ (l : List (Nat × Ob)), nodupO l = true → subO l l
  | [], _ => trivial
  | (k, ob) :: l, h => by
    simp only [nodupO, Bool.and_eq_true] at h
    exact ⟨by simp [getO], subO_cons h.1 (subO_refl l h.2)⟩
/-- Where the objects are the contract's own. -/
theorem CallQ.same {KQ : PV → List (Nat × Ob) → Prop} {u : Tag KQ} {x : PV} {h1 : List (Nat × Ob)} (hf : Fc P k as h x h1) (hs : nodupO h = true) (hq : KQ x h1) : CallQ P k as h KQ u := ⟨h, x, h1, hf, subO_refl h hs, hq⟩

theorem CallK.works (hq : CallQ P k (as.map ((wayOf h as [] [] d).argIn (toksOfL as))) ((wayOf h as [] [] d).heapIn (toksOfL as) h) fun x h1 => (wayX h as d x h1).ok = true ∧
    KX ((wayX h as d x h1).left (toksOfL as)) ((wayX h as d x h1).heapOut (toksOfL as) h1 h) ((wayX h as d x h1).res x)) : CallK P k as h d KX t := by
  obtain ⟨h0, x, h1, hf, hs, hW, hk⟩ := hq
  exact ⟨hf.ok, _, _, _, by simp only [Way.left, PV.scrub], hk, CallT.of _ _ hW hf.run rfl hs⟩

theorem CallK.fresh (hq : onSome (lendL h as) fun bs => CallQ P k bs [] fun x _ => Fr x ∧ (wayR d x).ok = true ∧
    KX (PV.scrub (wayR d x).killT some) (scrubO (wayR d x).killT some h) (x.scrub (Fren (wayR d x).outT) (fun _ => none))) : CallK P k as h d KX t := by
  obtain ⟨bs, hl, hq⟩ := onSome_iff.1 hq
  obtain ⟨h0, x, h1, hf, hs, hr, hW, hk⟩ := hq
  match h0, hs with
  | [], _ => exact ⟨hf.ok, _, _, _, by simp only [PV.scrub], hk, CallT.fresh _ hW (hf.run.mono fun _ _ h => h.1) hl hr⟩
  | (i, x) :: l, hs => exact absurd hs.1 (by simp [getO])

theorem CallK.reads (hq : onSome (lendL h as) fun bs => CallQ P k bs [] fun x _ => Plain x ∧ KX (fun x => x) h x) : CallK P k as h d KX t := by
  obtain ⟨bs, hl, hq⟩ := onSome_iff.1 hq
  obtain ⟨h0, x, h1, hf, hs, hr, hk⟩ := hq
  match h0, hs with
  | [], _ => exact ⟨hf.ok, fun x => x, _, _, rfl, hk, CallT.read (hf.run.mono fun _ _ h => h.1) hl hr⟩
  | (i, x) :: l, hs => exact absurd hs.1 (by simp [getO])
end

/-- A state that says no more than another one. -/
def subR : List (Nat × PV) → List (Nat × PV) → Prop
  | [], _ => True
  | (k, x) :: l, r => Weak (getR r k) x ∧ subR l r
def subS (S s : St) : Prop := S.nt = s.nt ∧ subR S.regs s.regs ∧ subW S.heap s.heap

theorem subR_sim {R r : List (Nat × PV)} (hs : subR R r) {g : G} {w : World} {a : Act} (hh : RegSim g w r a) : RegSim g w R a := by
  induction R with
  | nil => intro s; exact .dead _
  | cons c l ih =>
    obtain ⟨k, x⟩ := c
    intro s
    simp only [getR]
    by_cases e : k = s
    · rw [if_pos e]; subst e; exact hs.1.rep (hh k)
    · rw [if_neg e]; exact ih hs.2 s
theorem subS_sim {S s : St} (h : subS S s) {g : G} {a : Act} {w : World} (hs : Sim g s a w) : Sim g S a w :=
  ⟨subR_sim h.2.1 hs.regs, hs.nt.trans h.1.symm, subW_sim h.2.2 hs.heap⟩

theorem Tr.sub {P : Program} {r : Option Nat} {c : Code} {S s : St} {Q : Exit → St → Prop} (hs : subS S s) (h : Tr P r c S Q) : Tr P r c s Q :=
  fun g a w h1 h2 => h g a w (subS_sim hs h1) h2

/-- A LOOP: 'S x' is the state at a round's head; each round leads to another head, below it, or out. -/
theorem Tr.loopS {P : Program} {r : Option Nat} {st : St} {Q : Exit → St → Prop} {α : Type} {c : Code} (S : α → St) (m : α → Nat) (x0 : α) (h0 : subS (S x0) st)
    (hr : ∀ x, Tr P r c (S x) fun e s => match e with
      | .normal => ∃ y, m y < m x ∧ subS (S y) s
      | e => Q e s) : Tr P r (.loop c) st Q := by
  intro g a w hs hw
  have h00 : Sim g (S x0) a w := subS_sim h0 hs
  let N : Nat → Act → World → Prop := fun n a1 w1 => ∃ x g1, m x = n ∧ Sim g1 (S x) a1 w1 ∧ WF g1 w1 ∧ Ext g w g1 w1 ∧ a1.defers = a.defers
  classical
  let μ : Act → World → Nat := fun a1 w1 => if h : ∃ n, N n a1 w1 then Classical.choose (least h) else 0
  have hμ : ∀ n a1 w1, N n a1 w1 → μ a1 w1 ≤ n := fun n a1 w1 hn => by
    have h : ∃ n, N n a1 w1 := ⟨n, hn⟩
    show (if h : ∃ n, N n a1 w1 then Classical.choose (least h) else 0) ≤ n
    rw [dif_pos h]; exact (Classical.choose_spec (least h)).2 n hn
  have hN : ∀ a1 w1, (∃ n, N n a1 w1) → N (μ a1 w1) a1 w1 := fun a1 w1 h => by
    show N (if h : ∃ n, N n a1 w1 then Classical.choose (least h) else 0) a1 w1
    rw [dif_pos h]; exact (Classical.choose_spec (least h)).1
  refine wpIn_loop (fun a1 w1 => ∃ n, N n a1 w1) μ ⟨m x0, x0, g, rfl, h00, hw, Ext.refl g w, rfl⟩ ?_
  intro a1 w1 hn
  obtain ⟨x, g1, hx, hs1, hw1, he1, hd1⟩ := hN a1 w1 hn
  refine wpIn_mono (hr x g1 a1 w1 hs1 hw1) fun e a2 w2 hp => ?_
  obtain ⟨g2, st2, hq2, hs2, hw2, he2, hd2⟩ := hp
  cases e with
  | normal =>
    obtain ⟨y, hy, hS⟩ := hq2
    have hny : N (m y) a2 w2 := ⟨y, g2, rfl, subS_sim hS hs2, hw2, he1.trans he2, hd2.trans hd1⟩
    exact ⟨⟨m y, hny⟩, Nat.lt_of_le_of_lt (hμ _ _ _ hny) (hx ▸ hy)⟩
  | exit id => exact ⟨g2, st2, hq2, hs2, hw2, he1.trans he2, hd2.trans hd1⟩
  | goto t => exact ⟨g2, st2, hq2, hs2, hw2, he1.trans he2, hd2.trans hd1⟩
  | ret => exact ⟨g2, st2, hq2, hs2, hw2, he1.trans he2, hd2.trans hd1⟩
  | panic t => exact ⟨g2, st2, hq2, hs2, hw2, he1.trans he2, hd2.trans hd1⟩
  | outgrown => exact ⟨g2, st2, hq2, hs2, hw2, he1.trans he2, hd2.trans hd1⟩

/-- Another head, below. -/
def NextK {β : Type} (I : β → Prop) (S : β → St) (m : β → Nat) (n : Nat) (s : St) (_ : Tag (I, S, m, n) := .mk) : Prop := ∃ y, I y ∧ m y < n ∧ subS (S y) s
theorem NextK.mk {β : Type} {I : β → Prop} {S : β → St} {m : β → Nat} {n : Nat} {s : St} {u : Tag (I, S, m, n)} (y : β) (h1 : I y) (h2 : m y < n) (h3 : subS (S y) s) : NextK I S m n s u := ⟨y, h1, h2, h3⟩

/-- What is asked behind a round: 'I' holds at the next head, 'm' is less there. -/
def roundK {β : Type} (I : β → Prop) (S : β → St) (m : β → Nat) (n : Nat) (Q : Exit → St → Prop) : Exit → St → Prop
  | .normal, s => ∃ y, I y ∧ m y < n ∧ subS (S y) s
  | e, s => Q e s

theorem LpK.mk {P : Program} (E : List (Spec P)) {sc : List (Nat × Sch)} {r : Option Nat} {st : St} {Q : Exit → St → Prop} {t : Tag Q} (hm : P.follows .mixedOrders = true) {β : Type} {c : Code} (I : β → Prop) (S : β → St) (m : β → Nat) (x0 : β) (hI : I x0) (h0 : subS (S x0) st)
    (hr : ∀ x, I x → pwC P E sc r c (S x) (roundK I S m (m x) Q)) : LpK P sc r c st Q t := fun hc => Tr.loopS (α := { x // I x }) (fun x => S x.1) (fun x => m x.1) ⟨x0, hI⟩ h0 fun x => Tr.mono (pwC_ok hm c (by simpa only [schOK] using hc) (hr x.1 x.2)) fun e s h => by
      cases e with
      | normal => obtain ⟨y, h1, h2, h3⟩ := h; exact ⟨⟨y, h1⟩, h2, h3⟩
      | _ => exact h

/-- What is asked at a function's end. -/
def retK (P : Program) (rs : List ResultVar) (X : PV) (H : List (Nat × Ob)) : Exit → St → Prop
  | .normal, s => onSome (resPV P s rs) fun xs => Weak (retPV xs) X ∧ subW H s.heap
  | .ret, s => onSome (resPV P s rs) fun xs => Weak (retPV xs) X ∧ subW H s.heap
  | _, _ => False
@[simp ↓] theorem retK_normal (P : Program) (rs : List ResultVar) (X : PV) (H : List (Nat × Ob)) (s : St) : retK P rs X H .normal s = onSome (resPV P s rs) fun xs => Weak (retPV xs) X ∧ subW H s.heap := (rfl)
@[simp ↓] theorem retK_ret (P : Program) (rs : List ResultVar) (X : PV) (H : List (Nat × Ob)) (s : St) : retK P rs X H .ret s = onSome (resPV P s rs) fun xs => Weak (retPV xs) X ∧ subW H s.heap := (rfl)

/-- The contract of a function, by its code. -/
theorem Fc.of {P : Program} (E : List (Spec P)) (sc : List (Nat × Sch)) {f : FuncId} {fn : Func} {c : Code} {args : List PV} {h : List (Nat × Ob)} {X : PV} {H : List (Nat × Ob)} (hm : P.follows .mixedOrders = true) (hf : P.funcs[f]? = some fn) (hb : fn.body = some c) (hc : schOK P sc c = true) (hn : args.length ≤ fn.ntmps) (hnm : fn.name ≠ "runtime.NumGoroutine")
    (ht : pwC P E sc none c ⟨argR 0 args, h, fn.ntmps⟩ (retK P fn.results.toList X H)) : Fc P f args h X H := by
  refine ⟨fun args w => by simp [callFunc, hf, hb, hnm], ?_⟩
  refine TrC.sub ?_
  refine TrC.intro (R := fun x h' => Weak x X ∧ subW H h') hf hb hn (Tr.mono (pwC_ok hm c hc ht) ?_)
  intro e s h
  cases e with
  | normal => have h : onSome (resPV P s fn.results.toList) fun xs => Weak (retPV xs) X ∧ subW H s.heap := h; exact onSome_iff.1 h
  | ret => have h : onSome (resPV P s fn.results.toList) fun xs => Weak (retPV xs) X ∧ subW H s.heap := h; exact onSome_iff.1 h
  | _ => exact h
section
variable {P : Program} {k : FuncId} {d : Option Tmp} {h : List (Nat × Ob)} {KX : (PV → PV) → List (Nat × Ob) → PV → Prop}
@[simp ↓] theorem anyS_k : (anyS P k).k = k := (rfl)
@[simp ↓] theorem anyS_pre {as : List PV} : (anyS P k).pre as h d KX = CallK P k as h d KX := (rfl)
@[simp ↓] theorem anys_nil : anys P [] = [] := (rfl)
@[simp ↓] theorem anys_cons {l : List FuncId} : anys P (k :: l) = anyS P k :: anys P l := (rfl)
@[congr] theorem CallK_congr {as as' : List PV} {h h' : List (Nat × Ob)} {t : Tag KX} (h1 : as = as') (h2 : h = h') : CallK P k as h d KX t = CallK P k as' h' d KX t := by rw [h1, h2]
@[congr] theorem CallQ_congr {KQ : PV → List (Nat × Ob) → Prop} {as as' : List PV} {h h' : List (Nat × Ob)} {t : Tag KQ} (h1 : as = as') (h2 : h = h') : CallQ P k as h KQ t = CallQ P k as' h' KQ t := by rw [h1, h2]
@[simp ↓] theorem getR_mapS (F : Own → Option Own) (p : Nat → Option Nat) (rs : List (Nat × PV)) (s : Nat) : getR (mapR (PV.scrub F p) rs) s = PV.scrub F p (getR rs s) := getR_mapR (by simp only [PV.scrub]) rs s
@[simp ↓] theorem getR_mapW (W : Way) (ts : List Tk) (rs : List (Nat × PV)) (s : Nat) : getR (mapR (W.left ts) rs) s = W.left ts (getR rs s) := getR_mapR (by simp only [Way.left, PV.scrub]) rs s
@[simp] theorem scrub_mk (F : Own → Option Own) (p : Nat → Option Nat) (rs : List (Nat × PV)) (n : Nat) : (St.mk rs h n).scrub F p = ⟨mapR (PV.scrub F p) rs, scrubO F p h, n⟩ := by simp only [St.scrub, scrubR_eq]
@[simp ↓] theorem roundK_normal {β : Type} (I : β → Prop) (S : β → St) (m : β → Nat) (n : Nat) (Q : Exit → St → Prop) (s : St) : roundK I S m n Q .normal s = NextK I S m n s := (rfl)
@[congr] theorem NextK_congr {β : Type} {I : β → Prop} {S : β → St} {m : β → Nat} {n : Nat} {u : Tag (I, S, m, n)} {s s' : St} (h : s = s') : NextK I S m n s u = NextK I S m n s' u := by rw [h]
@[simp ↓] theorem roundK_ret {β : Type} (I : β → Prop) (S : β → St) (m : β → Nat) (n : Nat) (Q : Exit → St → Prop) (s : St) : roundK I S m n Q .ret s = Q .ret s := (rfl)
@[simp ↓] theorem roundK_exit {β : Type} (I : β → Prop) (S : β → St) (m : β → Nat) (n : Nat) (Q : Exit → St → Prop) (i : Nat) (s : St) : roundK I S m n Q (.exit i) s = Q (.exit i) s := (rfl)
theorem weakL_refl (xs : List PV) : weakL xs xs := by
  induction xs with
  | nil => trivial
  | cons x xs ih => exact ⟨.inl rfl, ih⟩
@[simp ↓] theorem weakL_same (xs : List PV) : weakL xs xs = True := eq_true (weakL_refl xs)
theorem plain_tup {xs : List PV} : Plain (.tup xs) ↔ ∀ x, x ∈ xs → ∃ v, x = .lit v := ⟨fun h => by cases h; assumption, .tup xs⟩
theorem plain_agg {xs : List PV} : Plain (.agg xs) ↔ ∀ x, x ∈ xs → ∃ v, x = .lit v := ⟨fun h => by cases h; assumption, .agg xs⟩
end
attribute [simp] toksO rowsOf newIds wayX wayR nodupO subR subS
end Go.Sy
