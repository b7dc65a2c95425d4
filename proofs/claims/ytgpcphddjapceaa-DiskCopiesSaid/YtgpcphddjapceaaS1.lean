/- The symbolic states: what a frame's slots and the memory that a run owns hold, as plain values. -/
import Derived.WalkKit
import Derived.CallsIn
namespace Go.Sy

/-- Whose memory a slice lies in: nobody's that may still turn; the run's own, at whose end it may grow; the run's own, a part of it. -/
inductive Tk where
  | loc (n : Nat)
  | cell (id off : Nat)
  | wk (n : Nat)
  deriving DecidableEq, Inhabited

/-- May what a row's token names be memory that turns no more, and is full? -/
def Tk.weak : Tk → Bool
  | .loc _ => false
  | _ => true

inductive Own where
  | imm
  | own (t : Tk)
  | vw (t : Tk)
  deriving DecidableEq, Inhabited

/-- May it be an empty slice at any place at all? -/
def Own.lax : Own → Bool
  | .imm => true
  | .own t => t.weak
  | .vw t => t.weak

inductive PV where
  | lit (v : Value)
  | dead
  | sl (o : Own) (nl : Bool) (s : Nat) (xs : List PV)
  | ptr (id off : Nat)
  | cur (o : Own) (xs : List PV)
  | agg (xs : List PV)
  | tup (xs : List PV)
  | fn (f : Fn) (first cap : List PV)
  | mp (id : Nat)
  deriving Inhabited

def PV.comps : PV → List PV
  | .agg xs => xs
  | x => [x]

def PV.isAgg : PV → Bool
  | .agg _ => true
  | _ => false

inductive Data : PV → Prop
  | lit (v : Value) : v.oneCell' = true → Data (.lit v)
  | sl (nl : Bool) (s : Nat) (xs : List PV) : (∀ x, x ∈ xs → Data x) → Data (.sl .imm nl s xs)
  | agg (xs : List PV) : (∀ x, x ∈ xs → Data x) → (∀ x, x ∈ xs → x.isAgg = false) → Data (.agg xs)

@[simp] theorem data_lit (v : Value) : Data (.lit v) ↔ v.oneCell' = true := ⟨fun h => by cases h; assumption, .lit v⟩
@[simp] theorem data_sl (nl : Bool) (s : Nat) (xs : List PV) : Data (.sl .imm nl s xs) ↔ ∀ x, x ∈ xs → Data x :=
  ⟨fun h => by cases h; assumption, .sl nl s xs⟩
theorem data_agg (xs : List PV) : Data (.agg xs) ↔ (∀ x, x ∈ xs → Data x) ∧ ∀ x, x ∈ xs → x.isAgg = false := ⟨fun h => by cases h; exact ⟨by assumption, by assumption⟩, fun h => .agg xs h.1 h.2⟩
@[simp] theorem data_agg' (xs : List PV) : Data (.agg xs) ↔ ∀ x, x ∈ xs → Data x ∧ x.isAgg = false :=
  (data_agg xs).trans ⟨fun h x hx => ⟨h.1 x hx, h.2 x hx⟩, fun h => ⟨fun x hx => (h x hx).1, fun x hx => (h x hx).2⟩⟩

/-- How the names of a symbolic state lie in a world: objects, owned rows, how far each is in use; which live; which blocks turn no more. -/
structure G where
  μ : Nat → Nat
  ν : Tk → Nat
  fr : Tk → Nat
  L : Tk → Prop
  D : Nat → Prop
  I : Nat → Prop

/-- A block of cells, none of which may not be written. -/
def Rows (w : World) (b n : Nat) : Prop := ∃ cs T fz, w.heap[b]? = some (.cells cs T fz) ∧ n ≤ cs.size ∧ (fz.1 = fz.2 ∨ cs.size ≤ fz.1)

theorem Rows.same {w w' : World} {b n : Nat} (h : Rows w b n) (hs : w'.heap[b]? = w.heap[b]?) : Rows w' b n := by
  obtain ⟨cs, T, fz, h1, h2, h3⟩ := h
  exact ⟨cs, T, fz, hs.trans h1, h2, h3⟩

def Acc (g : G) (w : World) : Own → (b off n c : Nat) → Prop
  | .imm, b, _, _, _ => g.I b
  | .own t, b, off, n, c => (g.L t ∧ b = g.ν t ∧ off + n = g.fr t ∧ Rows w b (off + c)) ∨ (g.I b ∧ c = n ∧ t.weak = true)
  | .vw t, b, off, n, _ => g.I b ∨ (g.L t ∧ b = g.ν t ∧ off + n ≤ g.fr t)

inductive Rep (g : G) (w : World) : PV → Value → Prop
  | lit (v : Value) : Rep g w (.lit v) v
  | dead (u : Value) : Rep g w .dead u
  | nils (o : Own) (s : Nat) : Rep g w (.sl o true s []) (.slice none 0 0)
  | sle (o : Own) (s : Nat) (a : Addr) (hl : o.lax = true) : Rep g w (.sl o false s []) (.slice (some a) 0 0)
  | sl (o : Own) (s : Nat) (xs : List PV) (b off c : Nat) (U : Nat → Nat → Value) (hc : xs.length ≤ c) (hm : c ≤ maxLen)
      (hacc : Acc g w o b off (xs.length * s) (c * s)) (hd : ∀ x, x ∈ xs → Data x) (hs : ∀ x, x ∈ xs → x.comps.length = s)
      (hcell : ∀ (j : Nat) (x : PV), xs[j]? = some x → ∀ i, i < s → w.cell? ⟨b, off + j * s + i, none⟩ = some (U j i))
      (hrep : ∀ (j : Nat) (x : PV), xs[j]? = some x → ∀ (i : Nat) (y : PV), x.comps[i]? = some y → Rep g w y (U j i)) :
      Rep g w (.sl o false s xs) (.slice (some ⟨b, off, none⟩) xs.length c)
  | ptr (id off : Nat) : Rep g w (.ptr id off) (.pointer (some ⟨g.μ id, off, none⟩))
  | cur (o : Own) (xs : List PV) (b off : Nat) (U : Nat → Value) (hacc : Acc g w o b off xs.length xs.length) (hd : ∀ x, x ∈ xs → Data x)
      (hcell : ∀ (j : Nat) (x : PV), xs[j]? = some x → w.cell? ⟨b, off + j, none⟩ = some (U j)) (hrep : ∀ (j : Nat) (x : PV), xs[j]? = some x → Rep g w x (U j)) :
      Rep g w (.cur o xs) (.pointer (some ⟨b, off, none⟩))
  | agg (xs : List PV) (us : Array Value) (hl : us.size = xs.length) (h : ∀ (i : Nat) (x : PV) (u : Value), xs[i]? = some x → us[i]? = some u → Rep g w x u) : Rep g w (.agg xs) (.agg us)
  | tup (xs : List PV) (us : Array Value) (hl : us.size = xs.length) (h : ∀ (i : Nat) (x : PV) (u : Value), xs[i]? = some x → us[i]? = some u → Rep g w x u) : Rep g w (.tup xs) (.tuple us)
  | fn (f : Fn) (xs ys : List PV) (us vs : Array Value) (hl : us.size = xs.length) (hl' : vs.size = ys.length) (h : ∀ (i : Nat) (x : PV) (u : Value), xs[i]? = some x → us[i]? = some u → Rep g w x u)
      (h' : ∀ (i : Nat) (x : PV) (u : Value), ys[i]? = some x → vs[i]? = some u → Rep g w x u) : Rep g w (.fn f xs ys) (.func f us vs)
  | mp (id : Nat) : Rep g w (.mp id) (.map (some (g.μ id)))

theorem cell_of_heap {w w' : World} {b k : Nat} (h : w'.heap[b]? = w.heap[b]?) : w'.cell? ⟨b, k, none⟩ = w.cell? ⟨b, k, none⟩ := by simp [World.cell?, h]

theorem mem_of_get {α : Type} {xs : List α} {j : Nat} {x : α} (h : xs[j]? = some x) : x ∈ xs := List.mem_of_getElem? h

theorem Data.comp {x y : PV} {i : Nat} (h : Data x) (hy : x.comps[i]? = some y) : Data y := by
  cases x <;> simp only [PV.comps] at hy
  case agg xs => exact ((data_agg xs).1 h).1 _ (mem_of_get hy)
  all_goals (match i, hy with | 0, hy => simp at hy; subst hy; exact h)

theorem Data.comp_flat {x y : PV} {i : Nat} (h : Data x) (hy : x.comps[i]? = some y) : y.isAgg = false := by
  cases x <;> simp only [PV.comps] at hy
  case agg xs => exact ((data_agg xs).1 h).2 _ (mem_of_get hy)
  all_goals (match i, hy with | 0, hy => simp at hy; subst hy; rfl)

/-- What lies in one cell. -/
theorem Rep.one {g : G} {w : World} {x : PV} {u : Value} (h : Rep g w x u) (hd : Data x) (hf : x.isAgg = false) : u.oneCell' = true := by
  cases h with
  | lit => exact (data_lit _).1 hd
  | dead u => cases hd
  | nils o s => rfl
  | sle => rfl
  | sl => rfl
  | ptr => rfl
  | cur => rfl
  | agg => cases hf
  | tup => cases hd
  | fn => rfl
  | mp => rfl

/-- Data read on wherever the blocks that turn no more are as they were. -/
theorem Rep.data {g g' : G} {w w' : World} (hI : ∀ b, g.I b → g'.I b ∧ w'.heap[b]? = w.heap[b]?) {x : PV} {u : Value} (h : Rep g w x u) : Data x → Rep g' w' x u := by
  induction h with
  | lit v => exact fun _ => .lit v
  | dead u => exact fun _ => .dead u
  | nils o s => exact fun _ => .nils o s
  | sle o s a hl => exact fun _ => .sle o s a hl
  | sl o s xs b off c U hc hm hacc hd hs hcell hrep ih =>
    intro hD
    cases hD with
    | sl _ _ _ hD =>
      obtain ⟨h1, h2⟩ := hI b hacc
      exact .sl .imm s xs b off c U hc hm h1 hd hs (fun j x hj i hi => by rw [cell_of_heap h2]; exact hcell j x hj i hi)
        (fun j x hj i y hy => ih j x hj i y hy ((hd x (mem_of_get hj)).comp hy))
  | ptr id off => exact fun h => by cases h
  | cur o xs b off U hacc hd hcell hrep ih => exact fun h => by cases h
  | agg xs us hl h ih => exact fun hD => .agg xs us hl fun i x u hx hu => ih i x u hx hu (((data_agg xs).1 hD).1 _ (mem_of_get hx))
  | tup xs us hl h ih => exact fun h => by cases h
  | fn f xs ys us vs hl hl' h h' ih ih' => exact fun h => by cases h
  | mp id => exact fun h => by cases h

mutual
/-- Some names go (or change what they are): what bears them is dead (or changed). -/
def PV.scrub (F : Own → Option Own) (p : Nat → Option Nat) : PV → PV
  | .lit v => .lit v
  | .dead => .dead
  | .sl o nl s xs => match F o with
    | some o' => .sl o' nl s xs
    | none => .dead
  | .ptr id off => match p id with
    | some j => .ptr j off
    | none => .dead
  | .cur o xs => match F o with
    | some o' => .cur o' xs
    | none => .dead
  | .agg xs => .agg (PV.scrubL F p xs)
  | .tup xs => .tup (PV.scrubL F p xs)
  | .fn f a b => .fn f (PV.scrubL F p a) (PV.scrubL F p b)
  | .mp id => match p id with
    | some j => .mp j
    | none => .dead
def PV.scrubL (F : Own → Option Own) (p : Nat → Option Nat) : List PV → List PV
  | [] => []
  | x :: xs => x.scrub F p :: PV.scrubL F p xs
end

theorem scrubL_eq (F : Own → Option Own) (p : Nat → Option Nat) (xs : List PV) : PV.scrubL F p xs = xs.map (PV.scrub F p) := by
  induction xs with
  | nil => rfl
  | cons x xs ih => simp [PV.scrubL, ih]

/-- What the change of names asks of the worlds. -/
structure Turns (g : G) (w : World) (g' : G) (w' : World) (F : Own → Option Own) (p : Nat → Option Nat) : Prop where
  imm : ∀ b, g.I b → g'.I b ∧ w'.heap[b]? = w.heap[b]?
  acc : ∀ o o' b off n c, F o = some o' → Acc g w o b off n c → Acc g' w' o' b off n c ∧ ∀ k, off ≤ k → k < off + n → w'.cell? ⟨b, k, none⟩ = w.cell? ⟨b, k, none⟩
  ptr : ∀ i j, p i = some j → g'.μ j = g.μ i
  lax : ∀ o o', F o = some o' → o.lax = true → o'.lax = true

theorem lax_some : ∀ o o' : Own, some o = some o' → o.lax = true → o'.lax = true := fun o o' h hl => by cases h; exact hl

theorem Rep.scrub {g g' : G} {w w' : World} {F : Own → Option Own} {p : Nat → Option Nat} (ht : Turns g w g' w' F p) {x : PV} {u : Value} (h : Rep g w x u) : Rep g' w' (x.scrub F p) u := by
  induction h with
  | lit v => simp only [PV.scrub]; exact .lit v
  | dead u => simp only [PV.scrub]; exact .dead u
  | nils o s =>
    simp only [PV.scrub]
    cases F o with
    | none => exact .dead _
    | some o' => exact .nils o' s
  | sle o s a hl =>
    simp only [PV.scrub]
    cases hF : F o with
    | none => exact .dead _
    | some o' => exact .sle o' s a (ht.lax o o' hF hl)
  | sl o s xs b off c U hc hm hacc hd hs hcell hrep ih =>
    simp only [PV.scrub]
    cases hF : F o with
    | none => exact .dead _
    | some o' =>
      obtain ⟨h1, h2⟩ := ht.acc o o' b off _ _ hF hacc
      refine .sl o' s xs b off c U hc hm h1 hd hs (fun j x hj i hi => ?_) (fun j x hj i y hy => (hrep j x hj i y hy).data ht.imm ((hd x (mem_of_get hj)).comp hy))
      have hjl : j < xs.length := (List.getElem?_eq_some_iff.1 hj).1
      have hb : j * s + s ≤ xs.length * s := by
        rw [← Nat.succ_mul]; exact Nat.mul_le_mul_right s hjl
      rw [h2 _ (by omega) (by omega)]
      exact hcell j x hj i hi
  | ptr id off =>
    simp only [PV.scrub]
    cases hp : p id with
    | none => exact .dead _
    | some j => rw [← ht.ptr id j hp]; exact .ptr j off
  | cur o xs b off U hacc hd hcell hrep ih =>
    simp only [PV.scrub]
    cases hF : F o with
    | none => exact .dead _
    | some o' =>
      obtain ⟨h1, h2⟩ := ht.acc o o' b off _ _ hF hacc
      refine .cur o' xs b off U h1 hd (fun j x hj => ?_) (fun j x hj => (hrep j x hj).data ht.imm (hd x (mem_of_get hj)))
      have hjl : j < xs.length := (List.getElem?_eq_some_iff.1 hj).1
      rw [h2 _ (by omega) (by omega)]
      exact hcell j x hj
  | agg xs us hl h ih =>
    simp only [PV.scrub, scrubL_eq]
    refine .agg _ us (by simpa using hl) (fun i x u hx hu => ?_)
    rw [List.getElem?_map, Option.map_eq_some_iff] at hx
    obtain ⟨y, hy, rfl⟩ := hx
    exact ih i y u hy hu
  | tup xs us hl h ih =>
    simp only [PV.scrub, scrubL_eq]
    refine .tup _ us (by simpa using hl) (fun i x u hx hu => ?_)
    rw [List.getElem?_map, Option.map_eq_some_iff] at hx
    obtain ⟨y, hy, rfl⟩ := hx
    exact ih i y u hy hu
  | fn f xs ys us vs hl hl' h h' ih ih' =>
    simp only [PV.scrub, scrubL_eq]
    refine .fn f _ _ us vs (by simpa using hl) (by simpa using hl') (fun i x u hx hu => ?_) (fun i x u hx hu => ?_)
    · rw [List.getElem?_map, Option.map_eq_some_iff] at hx
      obtain ⟨y, hy, rfl⟩ := hx
      exact ih i y u hy hu
    · rw [List.getElem?_map, Option.map_eq_some_iff] at hx
      obtain ⟨y, hy, rfl⟩ := hx
      exact ih' i y u hy hu
  | mp id =>
    simp only [PV.scrub]
    cases hp : p id with
    | none => exact .dead _
    | some j => rw [← ht.ptr id j hp]; exact .mp j

end Go.Sy
