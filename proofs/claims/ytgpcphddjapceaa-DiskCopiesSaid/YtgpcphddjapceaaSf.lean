/- One operation; a list of them; a region. -/
import Derived.Test.YtgpcphddjapceaaSe
namespace Go.Sy
universe u

def bytesOf (P : Program) (t : TypeId) : Nat := ((P.info? t).map (·.bytes)).getD 0

/-- What is appended to, by which name. -/
def appDst (d : Nat) : PV → Option (Tk × Bool × List PV × Option Nat)
  | .sl (.own t) nl s xs => some (t, nl, xs, some s)
  | .sl _ true _ [] => some (.loc d, true, [], none)
  | _ => none

def appSrc (P : Program) (tx : TypeId) (s : Nat) : PV → Option (List PV)
  | .sl _ _ s' ys => if s' = s ∨ ys = [] then (elemOf P tx).map fun _ => ys else none
  | .lit (.string b) => match P.underlying tx with
    | some .string => if s = 1 then some (b.data.toList.map fun c => .lit (.int .u8 c.toNat)) else none
    | _ => none
  | _ => none

instance decNil (ys : List PV) : Decidable (ys = []) := match ys with
  | [] => .isTrue rfl
  | _ :: _ => .isFalse (by simp)

def appPV (P : Program) (T tx : TypeId) (d : Nat) (p q : PV) : Option (Tk × PV) :=
  match elemOf P T with
  | some e => match zerosOf P e, appDst d p, appSrc P tx (szOf P e) q with
    | some zs, some (t, nl, xs, so), some ys =>
      if zs.length = szOf P e ∧ szOf P e ≠ 0 ∧ (so = none ∨ so = some (szOf P e)) ∧ (xs.length + ys.length) * bytesOf P e ≤ 140737488355328 ∧ xs.length + ys.length ≤ 140737488355328 then
        some (t, .sl (.own t) (nl && ys.isEmpty) (szOf P e) (xs ++ ys))
      else none
    | _, _, _ => none
  | none => none

def partsOf (st : St) (ps : Array (Nat × Operand)) : List (Nat × PV) := ps.toList.map fun p => (p.1, st.ev p.2)

def toksP : List (Nat × PV) → List Tk
  | [] => []
  | p :: ps => p.2.toks ++ toksP ps

def Callable (P : Program) (k : FuncId) : Prop := ∀ args w, (callFunc k args).run P w = .ok (.enter k args) w

def RepArgs (g : G) (w : World) (xs : List PV) (vs : Array Value) : Prop := vs.size = xs.length ∧ ∀ (i : Nat) (x : PV) (u : Value), xs[i]? = some x → vs[i]? = some u → Rep g w x u

/-- A truth value. -/
def onBool : PV → (Bool → Prop) → Prop
  | .lit (.bool t), f => f t
  | _, _ => False

theorem onBool_iff {x : PV} {f : Bool → Prop} : onBool x f ↔ ∃ t, x = .lit (.bool t) ∧ f t := by
  constructor
  · intro h
    unfold onBool at h
    split at h
    · exact ⟨_, rfl, h⟩
    · exact h.elim
  · rintro ⟨t, rfl, h⟩; exact h

/-- What simp leaves as it stands. -/
inductive Tag {α : Sort u} (a : α) : Type
  | mk

/-- Two ways. -/
def Cnd (t : Bool) (A B : Prop) (_ : Tag A := .mk) (_ : Tag B := .mk) : Prop := (t = true → A) ∧ (t = false → B)
@[simp] theorem cnd_true (A B : Prop) (u : Tag A) (v : Tag B) : Cnd true A B u v = A := by simp [Cnd]
@[simp] theorem cnd_false (A B : Prop) (u : Tag A) (v : Tag B) : Cnd false A B u v = B := by simp [Cnd]
theorem Cnd.mk {t : Bool} {A B : Prop} {u : Tag A} {v : Tag B} (h1 : t = true → A) (h2 : t = false → B) : Cnd t A B u v := ⟨h1, h2⟩

def mapR (T : PV → PV) : List (Nat × PV) → List (Nat × PV)
  | [] => []
  | (k, x) :: r => (k, T x) :: mapR T r

def St.mapT (st : St) (T : PV → PV) (h : List (Nat × Ob)) : St := { st with regs := mapR T st.regs, heap := h }

/-- What a call of function k does to all that stands in slots, to the heap; what it tells. -/
def CallT (P : Program) (h : List (Nat × Ob)) (k : FuncId) (args : List PV) (T : PV → PV) (h' : List (Nat × Ob)) (x : PV) : Prop :=
  ∀ g w vs, HeapSim g w h → WF g w → RepArgs g w args vs → CallsIn (FR none) 0 P k vs w fun e w' =>
    ∃ v g', e = .returned v ∧ (∀ y u, Rep g w y u → Rep g' w' (T y) u) ∧ HeapSim g' w' h' ∧ Rep g' w' x v ∧ WF g' w' ∧ Ext g w g' w'

/-- What is known of a function: what is asked of a call of it. -/
structure Spec (P : Program) where
  k : FuncId
  pre : List PV → List (Nat × Ob) → Option Tmp → ((PV → PV) → List (Nat × Ob) → PV → Prop) → Prop
  ok : ∀ args h d KX, pre args h d KX → Callable P k ∧ ∃ T h' x, T .dead = .dead ∧ KX T h' x ∧ CallT P h k args T h' x

def spOf {P : Program} : List (Spec P) → FuncId → List PV → List (Nat × Ob) → Option Tmp → ((PV → PV) → List (Nat × Ob) → PV → Prop) → Prop
  | [], _, _, _, _, _ => False
  | s :: l, k, args, h, d, KX => if s.k = k then s.pre args h d KX else spOf l k args h d KX

theorem spOf_ok {P : Program} {E : List (Spec P)} {k : FuncId} {args : List PV} {h : List (Nat × Ob)} {d : Option Tmp} {KX : (PV → PV) → List (Nat × Ob) → PV → Prop} (hp : spOf E k args h d KX) :
    Callable P k ∧ ∃ T h' x, T .dead = .dead ∧ KX T h' x ∧ CallT P h k args T h' x := by
  induction E with
  | nil => exact hp.elim
  | cons s l ih =>
    simp only [spOf] at hp
    split at hp
    · rename_i e; subst e; exact s.ok _ _ _ _ hp
    · exact ih hp

theorem getR_mapR {T : PV → PV} (hT : T .dead = .dead) (r : List (Nat × PV)) (s : Nat) : getR (mapR T r) s = T (getR r s) := by
  induction r with
  | nil => exact hT.symm
  | cons c r ih =>
    obtain ⟨k, x⟩ := c
    simp only [mapR, getR]
    split
    · rfl
    · exact ih

theorem mapR_id (r : List (Nat × PV)) : mapR (fun x => x) r = r := by
  induction r with
  | nil => rfl
  | cons c r ih => obtain ⟨k, x⟩ := c; simp only [mapR, ih]

theorem scrubR_eq (F : Own → Option Own) (p : Nat → Option Nat) (r : List (Nat × PV)) : scrubR F p r = mapR (PV.scrub F p) r := by
  induction r with
  | nil => rfl
  | cons c r ih => obtain ⟨k, x⟩ := c; simp only [mapR, scrubR, ih]

def litL : List PV → Option (List Value)
  | [] => some []
  | .lit v :: xs => (litL xs).map (v :: ·)
  | _ :: _ => none

def pwBuiltin (P : Program) (b : Builtin) (ats : List TypeId) (ty : TypeId) (args : List PV) (dst : Option Tmp) (st : St) (K : St → Prop) : Prop :=
  match b, ats, args with
  | .len, [t], [p] => ∃ r, lenPV P t p = some r ∧ K (st.put dst r)
  | .min, _, args => ∃ vs r, litL args = some vs ∧ pureOf P (Builtin.min_ ats.toArray ty vs.toArray) = some r ∧ K (st.put dst (.lit r))
  | .max, _, args => ∃ vs r, litL args = some vs ∧ pureOf P (Builtin.max_ ats.toArray ty vs.toArray) = some r ∧ K (st.put dst (.lit r))
  | .append, [T, tx], [p, q] => ∃ d t r, dst = some d ∧ appPV P T tx d p q = some (t, r) ∧ K ((st.scrub (Fkill t) some).put dst r)
  | _, _, _ => False

def Own.toks : Own → List Tk
  | .imm => []
  | .own t => [t]
  | .vw t => [t]

/-- A slice that may not grow where it lies. -/
def slice3PV (P : Program) (t : TypeId) (d : Nat) (p : PV) (lo hi : Option PV) (mx : PV) : Option (List Tk × PV) :=
  match P.underlying t, p, hi with
  | some (.slice e), .sl o nl s xs, some hp => match boundPV 0 lo, boundPV 0 (some hp), boundPV 0 (some mx) with
    | some l, some h, some m => if 0 ≤ l ∧ l ≤ h ∧ h ≤ xs.length ∧ m = h ∧ s = szOf P e ∧ s ≠ 0 then some (o.toks, .sl (.own (.wk d)) nl s ((xs.take h.toNat).drop l.toNat)) else none
    | _, _, _ => none
  | _, _, _ => none

theorem bound_is {g : G} {w : World} {p : PV} {v : Value} {n m : Int} (h : boundPV n (some p) = some m) (hr : Rep g w p v) : ∃ k, v = .int k m := by
  obtain ⟨k, rfl⟩ := boundPV_some h
  exact ⟨k, hr.lit_inv⟩

theorem slice3_run {P : Program} {t : TypeId} {d : Nat} {o : Own} {nl : Bool} {s : Nat} {xs : List PV} {lo hi : Option PV} {mx r : PV} {ts : List Tk} (h : slice3PV P t d (.sl o nl s xs) lo hi mx = some (ts, r)) {g : G} {w : World} {u : Value} {lo' hi' : Option Value} {mx' : Value}
    (hp : Rep g w (.sl .imm nl s xs) u) (hl : BoundIs g w lo lo') (hh : BoundIs g w hi hi') (hm' : Rep g w mx mx') : ∃ v, (Instr.sliceAt t u lo' hi' (some mx')).run P w = .ok v w ∧ Rep g w r v := by
  unfold slice3PV at h
  split at h
  · rename_i e o' nl' s' xs' hp1 hu he
    cases he
    split at h
    · rename_i l hh2 m h1 h2 h3
      split at h
      · rename_i hc
        obtain ⟨c1, c2, c3, rfl, c4, c5⟩ := hc
        cases h
        obtain ⟨km, rfl⟩ := bound_is h3 hm'
        cases hi' with
        | none => exact hh.elim
        | some hv =>
        obtain ⟨kh, rfl⟩ := bound_is h2 hh
        have hlo : (lo' = none ∧ l = 0) ∨ ∃ k, lo' = some (.int k l) := by
          cases lo with
          | none => cases lo' with
            | none => exact .inl ⟨rfl, boundPV_none h1⟩
            | some _ => exact hl.elim
          | some q => cases lo' with
            | none => exact hl.elim
            | some v => obtain ⟨k, rfl⟩ := bound_is h1 hl; exact .inr ⟨k, rfl⟩
        have h0 : 0 ≤ m := by omega
        have e1 : (m.toNat : Int) = m := by omega
        have hb : ∀ cap : Nat, xs.length ≤ cap → (Instr.sliceBounds true xs.length cap lo' (some (.int kh m)) (some (.int km m))).run P w = .ok (l.toNat, m.toNat, m.toNat) w := by
          intro cap hcap
          have hcap' : m ≤ (cap : Int) := by omega
          have hself : max m 0 = m := by omega
          rcases hlo with ⟨rfl, rfl⟩ | ⟨k, rfl⟩
          · simp [Instr.sliceBounds, Instr.sliceBound, asIntOf, h0, hcap', hself]
          · simp [Instr.sliceBounds, Instr.sliceBound, asIntOf, h0, hcap', hself, c1, c2]
        cases hp with
        | nils =>
          have hl0 : l = 0 := by simp at c3; omega
          have hh0 : m = 0 := by simp at c3; omega
          subst hl0; subst hh0
          have hb := hb 0 (by simp)
          simp only [List.length_nil] at hb
          refine ⟨.slice none 0 0, ?_, ?_⟩
          · simp [Instr.sliceAt, Instr.slice, run_underlying hu, hb, szOf_run' (c4 ▸ c5)]
          · simpa using Rep.nils (g := g) (w := w) (.own (.wk d)) s
        | sle _ _ a hlx =>
          have hl0 : l = 0 := by simp at c3; omega
          have hh0 : m = 0 := by simp at c3; omega
          subst hl0; subst hh0
          have hb := hb 0 (by simp)
          simp only [List.length_nil] at hb
          refine ⟨.slice (some a) 0 0, ?_, ?_⟩
          · simp [Instr.sliceAt, Instr.slice, run_underlying hu, hb, szOf_run' (c4 ▸ c5)]
          · simpa using Rep.sle (g := g) (w := w) (.own (.wk d)) s a rfl
        | sl _ _ _ b off c U hcx hm hacc hd hs hcell hrep =>
          have hb := hb c hcx
          have hlen : ((xs.take m.toNat).drop l.toNat).length = m.toNat - l.toNat := by simp; omega
          refine ⟨.slice (some ⟨b, if m.toNat = l.toNat then off else off + l.toNat * s, none⟩) (m.toNat - l.toNat) (m.toNat - l.toNat), ?_, ?_⟩
          · simp [Instr.sliceAt, Instr.slice, run_underlying hu, hb, szOf_run' (c4 ▸ c5), ← c4]
            split <;> simp_all [addr_add]
          · have hget : ∀ (j : Nat) (x : PV), ((xs.take m.toNat).drop l.toNat)[j]? = some x → xs[l.toNat + j]? = some x ∧ l.toNat + j < m.toNat := fun j x hx => by
              have hj : j < m.toNat - l.toNat := by rw [← hlen]; exact (List.getElem?_eq_some_iff.1 hx).1
              rw [List.getElem?_drop, List.getElem?_take_of_lt (by omega)] at hx
              exact ⟨hx, by omega⟩
            have hmem : ∀ x, x ∈ (xs.take m.toNat).drop l.toNat → x ∈ xs := fun x hx => List.mem_of_mem_take (List.mem_of_mem_drop hx)
            have := Rep.sl (g := g) (w := w) (.own (.wk d)) s ((xs.take m.toNat).drop l.toNat) b (if m.toNat = l.toNat then off else off + l.toNat * s) (m.toNat - l.toNat) (fun j i => U (l.toNat + j) i) (by omega) (by omega)
              (.inr ⟨hacc, by rw [hlen], rfl⟩) (fun x hx => hd x (hmem x hx)) (fun x hx => hs x (hmem x hx))
              (fun j x hx i hi => by
                obtain ⟨h3, h4⟩ := hget j x hx
                rw [if_neg (by omega)]
                have := hcell _ x h3 i hi
                rw [Nat.add_mul] at this
                rw [show off + l.toNat * s + j * s + i = off + (l.toNat * s + j * s) + i by omega]
                exact this)
              (fun j x hx i y hy => hrep _ x (hget j x hx).1 i y hy)
            rwa [hlen] at this
      · cases h
    · cases h
  · cases h

/-- A row of one's own gets the run-time's mark behind its last cell. -/
theorem mark_run {P : Program} {t e : TypeId} (ht : P.underlying t = some (.slice e)) (he : P.underlying e = some (.int .u8)) {g : G} {st : St} {a : Act} {w : World} (hs : Sim g st a w) (hw : WF g w) {n sz : Nat} {xs : List PV} {v : Value}
    (hr : Rep g w (.sl (.own (.loc n)) false sz xs) v) : ∃ w', (convert t t v).run P w = .ok v w' ∧ Sim g st a w' ∧ WF g w' ∧ Ext g w g w' ∧ Rep g w' (.sl (.own (.loc n)) false sz xs) v := by
  cases hr with
  | sle _ _ a hlx => cases hlx
  | sl _ _ _ b off c U hc hm hacc hd hsz hcell hrep =>
    have hr : Rep g w (.sl (.own (.loc n)) false sz xs) (.slice (some ⟨b, off, none⟩) xs.length c) := .sl _ _ _ b off c U hc hm hacc hd hsz hcell hrep
    rcases hacc with ⟨hl, hb, hfr, cs, T, fz, h1, h2, h3⟩ | ⟨_, _, hwk⟩
    · let fz' : Nat × Nat := if fz.1 == fz.2 then (cs.size, cs.size + 1) else (min fz.1 cs.size, max fz.2 (cs.size + 1))
      let w' := w.freeze ⟨b, cs.size, none⟩ 1
      have hsh : w.shape? b = some (T, cs.size) := by simp [World.shape?, h1]
      have hnew : w'.heap[b]? = some (.cells cs T fz') := by
        show (w.freeze ⟨b, cs.size, none⟩ 1).heap[b]? = _
        unfold World.freeze
        rw [if_neg (by decide)]
        simp only [Array.getElem?_modify, if_pos, h1, Option.map_some]
        rfl
      have hold : ∀ k, k ≠ b → w'.heap[k]? = w.heap[k]? := fun k hk => by
        show (w.freeze ⟨b, cs.size, none⟩ 1).heap[k]? = _
        unfold World.freeze
        rw [if_neg (by decide)]
        simp only [Array.getElem?_modify]
        rw [if_neg (fun e => hk e.symm)]
      have hsize : w'.heap.size = w.heap.size := by
        show (w.freeze ⟨b, cs.size, none⟩ 1).heap.size = _
        unfold World.freeze
        rw [if_neg (by decide)]
        simp
      have hcells : ∀ k, w'.cell? ⟨b, k, none⟩ = w.cell? ⟨b, k, none⟩ := fun k => by simp [World.cell?, hnew, h1]
      have hfz : fz'.1 = fz'.2 ∨ cs.size ≤ fz'.1 := by
        refine .inr ?_
        show cs.size ≤ (if fz.1 == fz.2 then (cs.size, cs.size + 1) else (min fz.1 cs.size, max fz.2 (cs.size + 1))).1
        split
        · exact Nat.le_refl _
        · rename_i hne
          rcases h3 with h3 | h3
          · simp [h3] at hne
          · show cs.size ≤ min fz.1 cs.size
            omega
      have hother : ∀ k, w'.cell? k = w.cell? k := fun k => by
        obtain ⟨kb, ko, ks⟩ := k
        by_cases e : kb = b
        · subst e; simp [World.cell?, hnew, h1]
        · simp [World.cell?, hold kb e]
      have ht1 : Turns g w g w' some some := by
        refine ⟨fun k hk => ⟨hk, hold k fun e => hw.li _ hl (by rw [← hb, ← e]; exact hk)⟩, fun o o' bb oo nn cc hF ha => ?_, fun i j h => by cases h; rfl, lax_some⟩
        cases hF
        refine ⟨?_, fun k _ _ => hother _⟩
        cases o with
        | imm => exact ha
        | own u =>
          rcases ha with ⟨a1, a2, a3, cs', T', fz2, q1, q2, q3⟩ | ha
          · refine .inl ⟨a1, a2, a3, ?_⟩
            by_cases e : bb = b
            · subst e
              rw [h1] at q1
              cases q1
              exact ⟨cs, T, fz', hnew, q2, hfz⟩
            · exact ⟨cs', T', fz2, (hold bb e).trans q1, q2, q3⟩
          · exact .inr ha
        | vw u => exact ha
      have hrun : (convert t t (.slice (some ⟨b, off, none⟩) xs.length c)).run P w = .ok (.slice (some ⟨b, off, none⟩) xs.length c) w' := by
        simp [convert, run_underlying ht, run_underlying he, markStringish, hsh]
        rfl
      refine ⟨w', hrun, ?_, hw.sameSize hsize, ⟨rfl, rfl, rfl, Nat.le_of_eq hsize.symm, fun k _ ho => hold k fun e => ho (.inr ⟨_, hl, by rw [e, hb]⟩), fun _ h => .inl h, fun _ h => .inl h, fun _ _ => ⟨rfl, fun h => h⟩⟩, ?_⟩
      · have := hs.turn ht1 fun i j hp hd => by
          cases hp
          exact ⟨hd, hold _ fun e => hw.dl i _ hd hl (e.trans hb)⟩
        rwa [id_scrub_st] at this
      · have := hr.scrub ht1
        rwa [id_scrub_fn.1] at this
    · cases hwk

/-- A conversion. -/
def convK (P : Program) (s t : TypeId) (dst : Option Tmp) (st : St) (p : PV) (K : St → Prop) : Prop :=
  match P.underlying t with
  | some (.slice e) => match p, dst with
    | .sl (.own (.loc n)) false sz xs, _ => s = t ∧ P.underlying e = some (.int .u8) ∧ K (st.put dst (.sl (.own (.loc n)) false sz xs))
    | .lit (.string b), some n => (P.underlying s).isSome = true ∧ P.underlying e = some (.int .u8) ∧ b.size ≤ 140737488355328 ∧ n < 100000 ∧
        K ((st.off n).put dst (.sl (.own (.loc n)) false 1 (b.data.toList.map fun c => .lit (.int .u8 c.toNat))))
    | _, _ => False
  | _ => ∃ r, convPV P s t p = some r ∧ K (st.put dst r)

def pw1 (P : Program) (E : List (Spec P)) (o : Oper) (st : St) (K : St → Prop) : Prop :=
  match o.op with
  | .move x => K (st.put o.dst (st.ev x))
  | .assign x => K (st.put o.dst (st.ev x))
  | .pick c a b => onBool (st.ev c) fun t => K (st.put o.dst (if t then st.ev a else st.ev b))
  | .binOp op t x y _ => ∃ r, binPV P op t x y (st.ev x) (st.ev y) = some r ∧ K (st.put o.dst r)
  | .unOp op _ x => ∃ r, unPV P (Op.unary op) (st.ev x) = some r ∧ K (st.put o.dst r)
  | .convert s d x => convK P s d o.dst st (st.ev x) K
  | .load t x => ∃ r, loadPV P t st (st.ev x) = some r ∧ K (st.put o.dst r)
  | .store t a x => ∃ st', storeSt P t st (st.ev a) (st.ev x) = some st' ∧ K (st'.put o.dst (.lit undef))
  | .nilCheck x => ∃ r, nilPV (st.ev x) = some r ∧ K (st.put o.dst r)
  | .fieldAddr s x f => ∃ r, fieldAddrPV P s f (st.ev x) = some r ∧ K (st.put o.dst r)
  | .field t x f => ∃ r, fieldPV P t f (st.ev x) = some r ∧ K (st.put o.dst r)
  | .indexAddr t x i => ∃ r, indexAddrPV P t (st.ev x) (st.ev i) = some r ∧ K (st.put o.dst r)
  | .index t x i => ∃ r, indexPV P t (st.ev x) (st.ev i) = some r ∧ K (st.put o.dst r)
  | .slice t x lo hi none => ∃ r, slicePV P t (st.ev x) (lo.map st.ev) (hi.map st.ev) = some r ∧ K (st.put o.dst r)
  | .slice t x lo hi (some m) => ∃ q d, o.dst = some d ∧ slice3PV P t d (st.ev x) (lo.map st.ev) (hi.map st.ev) (st.ev m) = some q ∧ K ((st.fz q.1).put o.dst q.2)
  | .extract x i => ∃ r, extractPV (st.ev x) i = some r ∧ K (st.put o.dst r)
  | .makeFunc fn first cap => K (st.put o.dst (.fn fn (first.toList.map st.ev) (cap.toList.map st.ev)))
  | .alloc t => ∃ zs d, zerosOf P t = some zs ∧ o.dst = some d ∧ d < 100000 ∧ K ((boxSt d zs st).put o.dst (.ptr d 0))
  | .box _ x => ∃ d, o.dst = some d ∧ (st.ev x).plain = true ∧ d < 100000 ∧ K ((boxSt d (st.ev x).comps st).put o.dst (.ptr d 0))
  | .build t ps => ∃ r, buildPV P t (partsOf st ps) = some r ∧ K (st.put o.dst r)
  | .buildSlice t n ps => ∃ s xs d, o.dst = some d ∧ buildRow P t n ((partsOf st ps).map fun p => (p.1, p.2.fz (toksP (partsOf st ps)))) = some (s, xs) ∧ (∀ x, x ∈ xs → Data x) ∧ d < 100000 ∧
      K (((st.fz (toksP (partsOf st ps))).off d).put o.dst (.sl (.own (.loc d)) false s xs))
  | .call c => match c.callee with
    | .builtin b => pwBuiltin P b c.argTypes.toList o.type (c.args.toList.map st.ev) o.dst st K
    | .value f => ∃ k first cap, st.ev f = .fn (.func k) first cap ∧ spOf E k (first ++ c.args.toList.map st.ev ++ cap) st.heap o.dst fun T h' x => K ((st.mapT T h').put o.dst x)
    | _ => False
  | _ => False

section
variable {P : Program} {r : Option Nat}

theorem OpOK.mono {o : Oper} {st : St} {R R' : St → Prop} (h : OpOK P r o st R) (hr : ∀ s, R s → R' s) : OpOK P r o st R' :=
  fun g a w hs hw K Q hk => h g a w hs hw K Q fun g' st' a' w' h1 => hk g' st' a' w' (hr _ h1)

theorem OpOK.one {o : Oper} {st st' : St} {K : St → Prop} (h : OpOK P r o st (· = st')) (hk : K st') : OpOK P r o st K := h.mono fun _ e => e ▸ hk

theorem execVal {o : Oper} {a : Act} {w w' : World} {s : Sem Value} {v : Value} (h : execOp a.eval o = (do pure (.value (← s)))) (hs : s.run P w = .ok v w') : (execOp a.eval o).run P w = .ok (.value v) w' := by
  rw [h]; simp [hs]

theorem fz_nil (st : St) : st.fz [] = st := rfl

theorem Sim.fzL {g : G} {st : St} {a : Act} {w : World} (h : Sim g st a w) (hw : WF g w) (ts : List Tk) : ∃ g', Sim g' (st.fz ts) a w ∧ WF g' w ∧ Ext g w g' w ∧ ∀ {x : PV} {v : Value}, Rep g w x v → Rep g' w (x.fz ts) v := by
  unfold St.fz PV.fz
  by_cases he : ts.isEmpty = true
  · simp only [he, if_true]; exact ⟨g, h, hw, Ext.refl g w, fun h => h⟩
  · simp only [he, if_false, Bool.false_eq_true]
    exact ⟨g.fz (fzOf ts), h.fz _, hw.fz _, Ext.fz g _ w, fun hx => hx.scrub (Turns.fz g _ w)⟩

theorem litL_get {xs : List PV} {vs : List Value} (h : litL xs = some vs) : vs.length = xs.length ∧ ∀ (i : Nat) (x : PV) (v : Value), xs[i]? = some x → vs[i]? = some v → x = .lit v := by
  induction xs generalizing vs with
  | nil => simp only [litL, Option.some.injEq] at h; subst h; exact ⟨rfl, fun _ _ _ h => by simp at h⟩
  | cons x xs ih =>
    cases x <;> simp only [litL, reduceCtorEq] at h
    rename_i v
    rw [Option.map_eq_some_iff] at h
    obtain ⟨us, h1, rfl⟩ := h
    obtain ⟨e1, e2⟩ := ih h1
    refine ⟨by simp [e1], fun i x u hx hu => ?_⟩
    cases i with
    | zero => simp at hx hu; rw [← hx, ← hu]
    | succ i => exact e2 i x u (by simpa using hx) (by simpa using hu)

theorem ev_args {g : G} {st : St} {a : Act} {w : World} (h : Sim g st a w) (xs : Array Operand) : RepArgs g w (xs.toList.map st.ev) (xs.map a.eval) := by
  refine ⟨by simp, fun i x u hx hu => ?_⟩
  rw [List.getElem?_map, Option.map_eq_some_iff] at hx
  obtain ⟨y, hy, rfl⟩ := hx
  rw [Array.getElem?_map, Option.map_eq_some_iff] at hu
  obtain ⟨z, hz, rfl⟩ := hu
  rw [Array.getElem?_toList, hz] at hy
  cases hy
  exact h.ev _

theorem lit_args {g : G} {w : World} {xs : List PV} {us : Array Value} (h : RepArgs g w xs us) {vs : List Value} (hv : litL xs = some vs) : us = vs.toArray := by
  obtain ⟨h1, h2⟩ := litL_get hv
  apply Array.ext
  · simp [h.1, h1]
  · intro i hi hi'
    have hx := List.getElem?_eq_getElem (l := xs) (i := i) (by rw [← h.1]; exact hi)
    have hv' := List.getElem?_eq_getElem (l := vs) (i := i) (by simpa using hi')
    have e := h2 i _ _ hx hv'
    have := h.2 i _ _ hx (Array.getElem?_eq_getElem hi)
    rw [e] at this
    rw [this.lit_inv]; simp

theorem execBuiltin {o : Oper} {c : Call} {b : Builtin} {a : Act} (ho : o.op = .call c) (hc : c.callee = .builtin b) :
    execOp a.eval o = builtin b c.argTypes o.type (c.args.map fun | .const _ => true | _ => false) (c.args.map a.eval) := by
  obtain ⟨callee, args, ats⟩ := c
  simp only at hc
  subst hc
  simp only [execOp, ho]
  rfl

end
end Go.Sy
