/- The symbolic states of a frame; what holds of code that starts in one. -/
import Derived.Test.YtgpcphddjapceaaS1
namespace Go.Sy

inductive Ob where
  | cells (xs : List PV)
  deriving Inhabited

def Ob.scrub (F : Own → Option Own) (p : Nat → Option Nat) : Ob → Ob
  | .cells xs => .cells (PV.scrubL F p xs)

def getR : List (Nat × PV) → Nat → PV
  | [], _ => .dead
  | (k, x) :: r, s => if k = s then x else getR r s

def getO : List (Nat × Ob) → Nat → Option Ob
  | [], _ => none
  | (k, x) :: r, s => if k = s then some x else getO r s

def setO : List (Nat × Ob) → Nat → Ob → List (Nat × Ob)
  | [], _, _ => []
  | (k, x) :: r, s, y => if k = s then (k, y) :: r else (k, x) :: setO r s y

def delO : List (Nat × Ob) → Nat → List (Nat × Ob)
  | [], _ => []
  | (k, x) :: r, s => if k = s then delO r s else (k, x) :: delO r s

def scrubR (F : Own → Option Own) (p : Nat → Option Nat) : List (Nat × PV) → List (Nat × PV)
  | [] => []
  | (k, x) :: r => (k, x.scrub F p) :: scrubR F p r

def scrubO (F : Own → Option Own) (p : Nat → Option Nat) : List (Nat × Ob) → List (Nat × Ob)
  | [] => []
  | (k, x) :: r => match p k with
    | some k' => (k', x.scrub F p) :: scrubO F p r
    | none => scrubO F p r

structure St where
  regs : List (Nat × PV)
  heap : List (Nat × Ob)
  nt : Nat

def St.put (st : St) (d : Option Tmp) (x : PV) : St :=
  match d with
  | none => st
  | some d => if d < st.nt then { st with regs := (d, x) :: st.regs } else st

def St.scrub (F : Own → Option Own) (p : Nat → Option Nat) (st : St) : St := { st with regs := scrubR F p st.regs, heap := scrubO F p st.heap }

def of1 : Value → PV
  | .slice none 0 0 => .sl .imm true 0 []
  | v => .lit v

def ofVal : Value → PV
  | .agg cs => .agg (cs.toList.map of1)
  | v => of1 v

def St.ev (st : St) : Operand → PV
  | .tmp t => getR st.regs t
  | .const v => ofVal v
  | .global gl => .lit (.pointer (some ⟨gl, 0, none⟩))
  | .func f => .fn (.func f) [] []

def ObAt (g : G) (w : World) (id : Nat) : Ob → Prop
  | .cells xs => g.D id ∧ ∃ cs T, w.heap[g.μ id]? = some (.cells cs T (0, 0)) ∧ cs.size = xs.length ∧ ∀ (i : Nat) (x : PV) (u : Value), xs[i]? = some x → cs[i]? = some u → Rep g w x u

def HeapSim (g : G) (w : World) (h : List (Nat × Ob)) : Prop := ∀ id ob, getO h id = some ob → ObAt g w id ob

def RegSim (g : G) (w : World) (r : List (Nat × PV)) (a : Act) : Prop := ∀ s, Rep g w (getR r s) (a.tmps.getD s undef)

structure Sim (g : G) (st : St) (a : Act) (w : World) : Prop where
  regs : RegSim g w st.regs a
  nt : a.tmps.size = st.nt
  heap : HeapSim g w st.heap

structure WF (g : G) (w : World) : Prop where
  dlt : ∀ i, g.D i → g.μ i < w.heap.size
  llt : ∀ t, g.L t → g.ν t < w.heap.size
  ilt : ∀ b, g.I b → b < w.heap.size
  dinj : ∀ i j, g.D i → g.D j → g.μ i = g.μ j → i = j
  linj : ∀ t u, g.L t → g.L u → g.ν t = g.ν u → t = u
  dl : ∀ i t, g.D i → g.L t → g.μ i ≠ g.ν t
  di : ∀ i, g.D i → ¬ g.I (g.μ i)
  li : ∀ t, g.L t → ¬ g.I (g.ν t)

def Owned (g : G) (b : Nat) : Prop := (∃ i, g.D i ∧ g.μ i = b) ∨ ∃ t, g.L t ∧ g.ν t = b

structure Ext (g : G) (w : World) (g' : G) (w' : World) : Prop where
  os : w'.os = w.os
  tape : w'.tape = w.tape
  output : w'.output = w.output
  size : w.heap.size ≤ w'.heap.size
  keep : ∀ b, b < w.heap.size → ¬ Owned g b → w'.heap[b]? = w.heap[b]?
  own : ∀ b, Owned g' b → Owned g b ∨ w.heap.size ≤ b
  imm : ∀ b, g'.I b → g.I b ∨ Owned g b ∨ w.heap.size ≤ b
  ext : ∀ i, 100000 ≤ i → g'.μ i = g.μ i ∧ (g.D i → g'.D i)

theorem Ext.refl (g : G) (w : World) : Ext g w g w := ⟨rfl, rfl, rfl, Nat.le_refl _, fun _ _ _ => rfl, fun _ h => .inl h, fun _ h => .inl h, fun _ _ => ⟨rfl, fun h => h⟩⟩

theorem Ext.trans {g g' g'' : G} {w w' w'' : World} (h : Ext g w g' w') (k : Ext g' w' g'' w'') : Ext g w g'' w'' := by
  refine ⟨k.os.trans h.os, k.tape.trans h.tape, k.output.trans h.output, Nat.le_trans h.size k.size, fun b hb ho => ?_, fun b hb => ?_, fun b hb => ?_, fun i hi => ⟨(k.ext i hi).1.trans (h.ext i hi).1, fun hd => (k.ext i hi).2 ((h.ext i hi).2 hd)⟩⟩
  · have : ¬ Owned g' b := fun h' => by
      rcases h.own b h' with h1 | h1
      · exact ho h1
      · omega
    rw [k.keep b (Nat.lt_of_lt_of_le hb h.size) this, h.keep b hb ho]
  · rcases k.own b hb with h1 | h1
    · exact h.own b h1
    · exact .inr (Nat.le_trans h.size h1)
  · rcases k.imm b hb with h1 | h1 | h1
    · exact h.imm b h1
    · rcases h.own b h1 with h2 | h2
      · exact .inr (.inl h2)
      · exact .inr (.inr h2)
    · exact .inr (.inr (Nat.le_trans h.size h1))

abbrev FR (r : Option Nat) : Fence := { Fence.wide with round := r }
theorem room_FR (r : Option Nat) (n : Nat) : (FR r).room n := fun _ h => by simp [Fence.wide] at h

/-- What stands behind a piece of code. -/
def Post (g : G) (w : World) (ds : List Deferred) (Q : Exit → St → Prop) : Exit → Act → World → Prop :=
  fun e a' w' => ∃ g' st', Q e st' ∧ Sim g' st' a' w' ∧ WF g' w' ∧ Ext g w g' w' ∧ a'.defers = ds

def Tr (P : Program) (r : Option Nat) (c : Code) (st : St) (Q : Exit → St → Prop) : Prop :=
  ∀ g a w, Sim g st a w → WF g w → c.wpIn (FR r) 0 P (Post g w a.defers Q) a w

section
variable {P : Program} {r : Option Nat} {st : St} {Q Q' : Exit → St → Prop}

theorem least {p : Nat → Prop} (h : ∃ n, p n) : ∃ n, p n ∧ ∀ m, p m → n ≤ m := by
  obtain ⟨n, hn⟩ := h
  induction n using Nat.strongRecOn with
  | _ n ih =>
    by_cases h : ∃ m, m < n ∧ p m
    · obtain ⟨m, h1, h2⟩ := h; exact ih m h1 h2
    · exact ⟨n, hn, fun m hm => Nat.le_of_not_lt fun hlt => h ⟨m, hlt, hm⟩⟩

theorem Post.ext {g g' : G} {w w' : World} {ds : List Deferred} (h : Ext g w g' w') {e : Exit} {a : Act} {v : World} (hp : Post g' w' ds Q e a v) : Post g w ds Q e a v := by
  obtain ⟨g'', st', h1, h2, h3, h4, h5⟩ := hp
  exact ⟨g'', st', h1, h2, h3, h.trans h4, h5⟩

theorem Tr.mono {c : Code} (h : Tr P r c st Q) (hq : ∀ e s, Q e s → Q' e s) : Tr P r c st Q' :=
  fun g a w hs hw => wpIn_mono (h g a w hs hw) fun _ _ _ ⟨g', st', h1, h2⟩ => ⟨g', st', hq _ _ h1, h2⟩

theorem Tr.now {g : G} {a : Act} {w : World} {e : Exit} (hq : Q e st) (hs : Sim g st a w) (hw : WF g w) : Post g w a.defers Q e a w := ⟨g, st, hq, hs, hw, Ext.refl g w, rfl⟩

theorem Tr.skip (h : Q .normal st) : Tr P r .skip st Q := fun _ _ _ hs hw => wpIn_skip (Tr.now h hs hw)
theorem Tr.label {l : Nat} (h : Q .normal st) : Tr P r (.label l) st Q := fun _ _ _ hs hw => wpIn_label (Tr.now h hs hw)
theorem Tr.exit {id : Nat} (h : Q (.exit id) st) : Tr P r (.exit id) st Q := fun _ _ _ hs hw => wpIn_exit (Tr.now h hs hw)
theorem Tr.ret (h : Q .ret st) : Tr P r .ret st Q := fun _ _ _ hs hw => wpIn_ret (Tr.now h hs hw)

/-- What is asked behind the first of two. -/
def seqK (P : Program) (r : Option Nat) (y : Code) (Q : Exit → St → Prop) : Exit → St → Prop
  | .normal, s => Tr P r y s Q
  | e, s => Q e s

theorem Tr.seq {x y : Code} (h : Tr P r x st (seqK P r y Q)) : Tr P r (.seq x y) st Q := by
  intro g a w hs hw
  refine wpIn_seq (wpIn_mono (h g a w hs hw) fun e a' w' hp => ?_)
  obtain ⟨g', st', h1, h2, h3, h4, h5⟩ := hp
  cases e with
  | normal =>
    refine wpIn_mono (h1 g' a' w' h2 h3) fun e a'' w'' hp => ?_
    rw [← h5]; exact Post.ext h4 hp
  | exit id => exact ⟨g', st', h1, h2, h3, h4, h5⟩
  | goto l => exact ⟨g', st', h1, h2, h3, h4, h5⟩
  | ret => exact ⟨g', st', h1, h2, h3, h4, h5⟩
  | panic c => exact ⟨g', st', h1, h2, h3, h4, h5⟩
  | outgrown => exact ⟨g', st', h1, h2, h3, h4, h5⟩

def blockK (id : Nat) (Q : Exit → St → Prop) : Exit → St → Prop
  | .exit id', s => if id' = id then Q .normal s else Q (.exit id') s
  | e, s => Q e s

theorem Tr.block {id : Nat} {c : Code} (h : Tr P r c st (blockK id Q)) : Tr P r (.block id c) st Q := by
  intro g a w hs hw
  refine wpIn_block (wpIn_mono (h g a w hs hw) fun e a' w' hp => ?_)
  obtain ⟨g', st', h1, h2, h3, h4, h5⟩ := hp
  cases e with
  | exit id' =>
    simp only [blockK] at h1
    simp only [Exit.inBlock]
    split
    · rename_i he; rw [if_pos he] at h1; exact ⟨g', st', h1, h2, h3, h4, h5⟩
    · rename_i he; rw [if_neg he] at h1; exact ⟨g', st', h1, h2, h3, h4, h5⟩
  | normal => exact ⟨g', st', h1, h2, h3, h4, h5⟩
  | goto l => exact ⟨g', st', h1, h2, h3, h4, h5⟩
  | ret => exact ⟨g', st', h1, h2, h3, h4, h5⟩
  | panic c => exact ⟨g', st', h1, h2, h3, h4, h5⟩
  | outgrown => exact ⟨g', st', h1, h2, h3, h4, h5⟩

theorem rep_of1 (g : G) (w : World) (v : Value) : Rep g w (of1 v) v := by
  unfold of1
  split
  · exact .nils .imm 0
  · exact .lit _

theorem rep_ofVal (g : G) (w : World) (v : Value) : Rep g w (ofVal v) v := by
  unfold ofVal
  split
  · refine .agg _ _ (by simp) (fun i x u hx hu => ?_)
    rw [List.getElem?_map, Option.map_eq_some_iff] at hx
    obtain ⟨y, hy, rfl⟩ := hx
    rw [Array.getElem?_toList, hu] at hy
    cases hy
    exact rep_of1 g w _
  · exact rep_of1 g w _

theorem Sim.ev {g : G} {a : Act} {w : World} (h : Sim g st a w) (x : Operand) : Rep g w (st.ev x) (a.eval x) := by
  cases x with
  | tmp t => exact h.regs t
  | const v => exact rep_ofVal g w v
  | global gl => exact .lit _
  | func f => exact .fn (.func f) [] [] #[] #[] rfl rfl (fun _ _ _ h => by simp at h) (fun _ _ _ h => by simp at h)

theorem Rep.lit_inv {g : G} {w : World} {v u : Value} (h : Rep g w (.lit v) u) : u = v := by cases h; rfl

theorem Sim.lit {g : G} {a : Act} {w : World} (h : Sim g st a w) {x : Operand} {v : Value} (hx : st.ev x = .lit v) : a.eval x = v := by
  have := h.ev x; rw [hx] at this; exact this.lit_inv

theorem Tr.cond {c : Operand} {x y : Code} {t : Bool} (hc : st.ev c = .lit (.bool t)) (h1 : t = true → Tr P r x st Q) (h2 : t = false → Tr P r y st Q) : Tr P r (.cond c x y) st Q := by
  intro g a w hs hw
  exact wpIn_cond_split (t := t) (hs.lit hc) (fun h => h1 h g a w hs hw) (fun h => h2 h g a w hs hw)

/-- A state with fewer slots. -/
def keepR (r : List (Nat × PV)) : List Nat → List (Nat × PV)
  | [] => []
  | s :: l => (s, getR r s) :: keepR r l

theorem getR_keepR (r : List (Nat × PV)) (l : List Nat) (s : Nat) : getR (keepR r l) s = getR r s ∨ getR (keepR r l) s = .dead := by
  induction l with
  | nil => exact .inr rfl
  | cons k l ih =>
    simp only [keepR, getR]
    by_cases h : k = s
    · subst h; simp
    · rw [if_neg h]; exact ih

def keepO (h : List (Nat × Ob)) : List Nat → List (Nat × Ob)
  | [] => []
  | s :: l => match getO h s with
    | some o => (s, o) :: keepO h l
    | none => keepO h l

theorem getO_keepO (h : List (Nat × Ob)) (l : List Nat) (s : Nat) : getO (keepO h l) s = getO h s ∨ getO (keepO h l) s = none := by
  induction l with
  | nil => exact .inr rfl
  | cons k l ih =>
    simp only [keepO]
    cases hk : getO h k with
    | none => exact ih
    | some o =>
      simp only [getO]
      by_cases e : k = s
      · subst e; simp [hk]
      · rw [if_neg e]; exact ih

/-- The slots and objects that are named. -/
def St.keep (st : St) (l ids : List Nat) : St := { st with regs := keepR st.regs l, heap := keepO st.heap ids }

theorem Sim.keep {g : G} {a : Act} {w : World} (h : Sim g st a w) (l ids : List Nat) : Sim g (st.keep l ids) a w := by
  refine ⟨fun s => ?_, h.nt, fun id ob ho => ?_⟩
  · rcases getR_keepR st.regs l s with e | e
    · show Rep g w (getR (keepR st.regs l) s) _; rw [e]; exact h.regs s
    · show Rep g w (getR (keepR st.regs l) s) _; rw [e]; exact .dead _
  · rcases getO_keepO st.heap ids id with e | e
    · exact h.heap id ob (e ▸ ho)
    · have ho' : getO (keepO st.heap ids) id = some ob := ho
      rw [e] at ho'; cases ho'

theorem Tr.forget {c : Code} (l ids : List Nat) (h : Tr P r c (st.keep l ids) Q) : Tr P r c st Q := fun g a w hs hw => h g a w (hs.keep l ids) hw

/-- A LOOP: 'S x' is the state at a round's head; each round leads to another head, below it, or out. -/
theorem Tr.loop {α : Type} {c : Code} (S : α → St) (m : α → Nat) (l ids : List Nat) (x0 : α) (h0 : st.keep l ids = S x0)
    (hr : ∀ x, Tr P r c (S x) fun e s => match e with
      | .normal => ∃ y, m y < m x ∧ s.keep l ids = S y
      | e => Q e s) : Tr P r (.loop c) st Q := by
  intro g a w hs hw
  have h00 : Sim g (S x0) a w := h0 ▸ hs.keep l ids
  let N : Nat → Act → World → Prop := fun n a1 w1 => ∃ x g1, m x = n ∧ Sim g1 (S x) a1 w1 ∧ WF g1 w1 ∧ Ext g w g1 w1 ∧ a1.defers = a.defers
  classical
  let μ : Act → World → Nat := fun a1 w1 => if h : ∃ n, N n a1 w1 then Classical.choose (least h) else 0
  have hμ : ∀ n a1 w1, N n a1 w1 → μ a1 w1 ≤ n := fun n a1 w1 hn => by
    have h : ∃ n, N n a1 w1 := ⟨n, hn⟩
    show (if h : ∃ n, N n a1 w1 then Classical.choose (least h) else 0) ≤ n
    rw [dif_pos h]; exact (Classical.choose_spec (least h)).2 n hn
  have hN : ∀ a1 w1, (∃ n, N n a1 w1) → N (μ a1 w1) a1 w1 := fun a1 w1 h => by
    show N (if h : ∃ n, N n a1 w1 then Classical.choose (least h) else 0) a1 w1
    rw [dif_pos h]; exact (Classical.choose_spec (least h)).1
  refine wpIn_loop (fun a1 w1 => ∃ n, N n a1 w1) μ ⟨m x0, x0, g, rfl, h00, hw, Ext.refl g w, rfl⟩ ?_
  intro a1 w1 hn
  obtain ⟨x, g1, hx, hs1, hw1, he1, hd1⟩ := hN a1 w1 hn
  refine wpIn_mono (hr x g1 a1 w1 hs1 hw1) fun e a2 w2 hp => ?_
  obtain ⟨g2, st2, hq2, hs2, hw2, he2, hd2⟩ := hp
  cases e with
  | normal =>
    obtain ⟨y, hy, hS⟩ := hq2
    have hny : N (m y) a2 w2 := ⟨y, g2, rfl, hS ▸ hs2.keep l ids, hw2, he1.trans he2, hd2.trans hd1⟩
    exact ⟨⟨m y, hny⟩, Nat.lt_of_le_of_lt (hμ _ _ _ hny) (hx ▸ hy)⟩
  | exit id => exact ⟨g2, st2, hq2, hs2, hw2, he1.trans he2, hd2.trans hd1⟩
  | goto t => exact ⟨g2, st2, hq2, hs2, hw2, he1.trans he2, hd2.trans hd1⟩
  | ret => exact ⟨g2, st2, hq2, hs2, hw2, he1.trans he2, hd2.trans hd1⟩
  | panic t => exact ⟨g2, st2, hq2, hs2, hw2, he1.trans he2, hd2.trans hd1⟩
  | outgrown => exact ⟨g2, st2, hq2, hs2, hw2, he1.trans he2, hd2.trans hd1⟩
end
end Go.Sy
