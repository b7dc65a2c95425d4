/- The package-level tables that are read: the block, the kind of the numbers, the numbers. (and what stands on it) -/
import Derived.WalkKit
import Derived.CallsIn
import Derived.Deep.AppendSrc
import Derived.Deep.Upon
import Derived.WalkSpells
set_option linter.unusedSimpArgs false
set_option linter.unusedVariables false

/-! The package-level tables that are read: the block, the kind of the numbers, the numbers. -/
namespace Go.Sy
def keys : List Int := [1116352408, 1899447441, 3049323471, 3921009573, 961987163, 1508970993, 2453635748, 2870763221, 3624381080, 310598401, 607225278, 1426881987, 1925078388, 2162078206, 2614888103, 3248222580, 3835390401, 4022224774, 264347078, 604807628, 770255983, 1249150122, 1555081692, 1996064986, 2554220882, 2821834349, 2952996808, 3210313671, 3336571891, 3584528711, 113926993, 338241895, 666307205, 773529912, 1294757372, 1396182291, 1695183700, 1986661051, 2177026350, 2456956037, 2730485921, 2820302411, 3259730800, 3345764771, 3516065817, 3600352804, 4094571909, 275423344, 430227734, 506948616, 659060556, 883997877, 958139571, 1322822218, 1537002063, 1747873779, 1955562222, 2024104815, 2227730452, 2361852424, 2428436474, 2756734187, 3204031479, 3329325298]
def globs : List (Nat × IntKind × List Int) := [(0, .u32, keys), (1, .u32, keys)]
end Go.Sy

/-! The symbolic states: what a frame's slots and the memory that a run owns hold, as plain values. -/
namespace Go.Sy

/-- Whose memory a slice lies in: nobody's that may still turn; the run's own, at whose end it may grow; the run's own, a part of it. -/
inductive Tk where
  | loc (n : Nat)
  | cell (id off : Nat)
  | wk (n : Nat)
  deriving DecidableEq, Inhabited

/-- May what a row's token names be memory that turns no more, and is full? -/
def Tk.weak : Tk → Bool
  | .loc _ => false
  | _ => true

inductive Own where
  | imm
  | own (t : Tk)
  | vw (t : Tk)
  | rd
  deriving DecidableEq, Inhabited

/-- May it be an empty slice at any place at all? -/
def Own.lax : Own → Bool
  | .imm => true
  | .own t => t.weak
  | .vw t => t.weak
  | .rd => true

inductive PV where
  | lit (v : Value)
  | dead
  | sl (o : Own) (nl : Bool) (s : Nat) (xs : List PV)
  | ptr (id off : Nat)
  | cur (o : Own) (xs : List PV)
  | agg (xs : List PV)
  | tup (xs : List PV)
  | fn (f : Fn) (first cap : List PV)
  | mp (id : Nat)
  | yl (id : Nat)
  deriving Inhabited

def PV.comps : PV → List PV
  | .agg xs => xs
  | x => [x]

def PV.isAgg : PV → Bool
  | .agg _ => true
  | _ => false

inductive Data : PV → Prop
  | lit (v : Value) : v.oneCell' = true → Data (.lit v)
  | sl (nl : Bool) (s : Nat) (xs : List PV) : (∀ x, x ∈ xs → Data x) → Data (.sl .imm nl s xs)
  | slr (nl : Bool) (s : Nat) (xs : List PV) : (∀ x, x ∈ xs → Data x) → Data (.sl .rd nl s xs)
  | agg (xs : List PV) : (∀ x, x ∈ xs → Data x) → (∀ x, x ∈ xs → x.isAgg = false) → Data (.agg xs)

@[simp] theorem data_slr (nl : Bool) (s : Nat) (xs : List PV) : Data (.sl .rd nl s xs) ↔ ∀ x, x ∈ xs → Data x :=
  ⟨fun h => by cases h; assumption, .slr nl s xs⟩
@[simp] theorem data_lit (v : Value) : Data (.lit v) ↔ v.oneCell' = true := ⟨fun h => by cases h; assumption, .lit v⟩
@[simp] theorem data_sl (nl : Bool) (s : Nat) (xs : List PV) : Data (.sl .imm nl s xs) ↔ ∀ x, x ∈ xs → Data x :=
  ⟨fun h => by cases h; assumption, .sl nl s xs⟩
theorem data_agg (xs : List PV) : Data (.agg xs) ↔ (∀ x, x ∈ xs → Data x) ∧ ∀ x, x ∈ xs → x.isAgg = false := ⟨fun h => by cases h; exact ⟨by assumption, by assumption⟩, fun h => .agg xs h.1 h.2⟩
@[simp] theorem data_agg' (xs : List PV) : Data (.agg xs) ↔ ∀ x, x ∈ xs → Data x ∧ x.isAgg = false :=
  (data_agg xs).trans ⟨fun h x hx => ⟨h.1 x hx, h.2 x hx⟩, fun h => ⟨fun x hx => (h x hx).1, fun x hx => (h x hx).2⟩⟩

/-- How the names of a symbolic state lie in a world: objects, owned rows, how far each is in use; which live; which blocks turn no more. -/
structure G where
  μ : Nat → Nat
  ν : Tk → Nat
  fr : Tk → Nat
  L : Tk → Prop
  D : Nat → Prop
  I : Nat → Prop
  /-- Blocks of I that are lent: to be read in this call alone. -/
  R : Nat → Prop

/-- A block of cells, none of which may not be written. -/
def Rows (w : World) (b n : Nat) : Prop := ∃ cs T fz, w.heap[b]? = some (.cells cs T fz) ∧ n ≤ cs.size ∧ (fz.1 = fz.2 ∨ cs.size ≤ fz.1)

theorem Rows.same {w w' : World} {b n : Nat} (h : Rows w b n) (hs : w'.heap[b]? = w.heap[b]?) : Rows w' b n := by
  obtain ⟨cs, T, fz, h1, h2, h3⟩ := h
  exact ⟨cs, T, fz, hs.trans h1, h2, h3⟩

def Acc (g : G) (w : World) : Own → (b off n c : Nat) → Prop
  | .imm, b, _, _, _ => g.I b ∧ ¬ g.R b
  | .own t, b, off, n, c => (g.L t ∧ b = g.ν t ∧ off + n = g.fr t ∧ Rows w b (off + c)) ∨ ((g.I b ∧ ¬ g.R b) ∧ c = n ∧ t.weak = true)
  | .vw t, b, off, n, _ => (g.I b ∧ ¬ g.R b) ∨ (g.L t ∧ b = g.ν t ∧ off + n ≤ g.fr t)
  | .rd, b, _, _, _ => g.I b

inductive Rep (g : G) (w : World) : PV → Value → Prop
  | lit (v : Value) : Rep g w (.lit v) v
  | dead (u : Value) : Rep g w .dead u
  | nils (o : Own) (s : Nat) : Rep g w (.sl o true s []) (.slice none 0 0)
  | sle (o : Own) (s : Nat) (a : Addr) (hl : o.lax = true) : Rep g w (.sl o false s []) (.slice (some a) 0 0)
  | sl (o : Own) (s : Nat) (xs : List PV) (b off c : Nat) (U : Nat → Nat → Value) (hc : xs.length ≤ c) (hm : c ≤ maxLen)
      (hacc : Acc g w o b off (xs.length * s) (c * s)) (hd : ∀ x, x ∈ xs → Data x) (hs : ∀ x, x ∈ xs → x.comps.length = s)
      (hcell : ∀ (j : Nat) (x : PV), xs[j]? = some x → ∀ i, i < s → w.cell? ⟨b, off + j * s + i, none⟩ = some (U j i))
      (hrep : ∀ (j : Nat) (x : PV), xs[j]? = some x → ∀ (i : Nat) (y : PV), x.comps[i]? = some y → Rep g w y (U j i)) :
      Rep g w (.sl o false s xs) (.slice (some ⟨b, off, none⟩) xs.length c)
  | ptr (id off : Nat) : Rep g w (.ptr id off) (.pointer (some ⟨g.μ id, off, none⟩))
  | cur (o : Own) (xs : List PV) (b off : Nat) (U : Nat → Value) (hacc : Acc g w o b off xs.length xs.length) (hd : ∀ x, x ∈ xs → Data x)
      (hcell : ∀ (j : Nat) (x : PV), xs[j]? = some x → w.cell? ⟨b, off + j, none⟩ = some (U j)) (hrep : ∀ (j : Nat) (x : PV), xs[j]? = some x → Rep g w x (U j)) :
      Rep g w (.cur o xs) (.pointer (some ⟨b, off, none⟩))
  | agg (xs : List PV) (us : Array Value) (hl : us.size = xs.length) (h : ∀ (i : Nat) (x : PV) (u : Value), xs[i]? = some x → us[i]? = some u → Rep g w x u) : Rep g w (.agg xs) (.agg us)
  | tup (xs : List PV) (us : Array Value) (hl : us.size = xs.length) (h : ∀ (i : Nat) (x : PV) (u : Value), xs[i]? = some x → us[i]? = some u → Rep g w x u) : Rep g w (.tup xs) (.tuple us)
  | fn (f : Fn) (xs ys : List PV) (us vs : Array Value) (hl : us.size = xs.length) (hl' : vs.size = ys.length) (h : ∀ (i : Nat) (x : PV) (u : Value), xs[i]? = some x → us[i]? = some u → Rep g w x u)
      (h' : ∀ (i : Nat) (x : PV) (u : Value), ys[i]? = some x → vs[i]? = some u → Rep g w x u) : Rep g w (.fn f xs ys) (.func f us vs)
  | mp (id : Nat) : Rep g w (.mp id) (.map (some (g.μ id)))
  | yl (id : Nat) : Rep g w (.yl id) (.func (.yield (g.μ id)) #[] #[])

theorem cell_of_heap {w w' : World} {b k : Nat} (h : w'.heap[b]? = w.heap[b]?) : w'.cell? ⟨b, k, none⟩ = w.cell? ⟨b, k, none⟩ := by simp [World.cell?, h]

theorem mem_of_get {α : Type} {xs : List α} {j : Nat} {x : α} (h : xs[j]? = some x) : x ∈ xs := List.mem_of_getElem? h

theorem Data.comp {x y : PV} {i : Nat} (h : Data x) (hy : x.comps[i]? = some y) : Data y := by
  cases x <;> simp only [PV.comps] at hy
  case agg xs => exact ((data_agg xs).1 h).1 _ (mem_of_get hy)
  all_goals (match i, hy with | 0, hy => simp at hy; subst hy; exact h)

theorem Data.comp_flat {x y : PV} {i : Nat} (h : Data x) (hy : x.comps[i]? = some y) : y.isAgg = false := by
  cases x <;> simp only [PV.comps] at hy
  case agg xs => exact ((data_agg xs).1 h).2 _ (mem_of_get hy)
  all_goals (match i, hy with | 0, hy => simp at hy; subst hy; rfl)

/-- What lies in one cell. -/
theorem Rep.one {g : G} {w : World} {x : PV} {u : Value} (h : Rep g w x u) (hd : Data x) (hf : x.isAgg = false) : u.oneCell' = true := by
  cases h with
  | lit => exact (data_lit _).1 hd
  | dead u => cases hd
  | nils o s => rfl
  | sle => rfl
  | sl => rfl
  | ptr => rfl
  | cur => rfl
  | agg => cases hf
  | tup => cases hd
  | fn => rfl
  | mp => rfl
  | yl => rfl

/-- Data read on wherever the blocks that turn no more are as they were. -/
theorem Rep.data' {g g' : G} {w w' : World} (hI : ∀ b, g.I b → g'.I b ∧ w'.heap[b]? = w.heap[b]?) (hR : ∀ b, g.I b → ¬ g.R b → ¬ g'.R b) {x : PV} {u : Value} (h : Rep g w x u) : Data x → Rep g' w' x u := by
  induction h with
  | lit v => exact fun _ => .lit v
  | dead u => exact fun _ => .dead u
  | nils o s => exact fun _ => .nils o s
  | sle o s a hl => exact fun _ => .sle o s a hl
  | sl o s xs b off c U hc hm hacc hd hs hcell hrep ih =>
    intro hD
    cases hD with
    | sl _ _ _ hD =>
      obtain ⟨h1, h2⟩ := hI b hacc.1
      exact .sl .imm s xs b off c U hc hm ⟨h1, hR b hacc.1 hacc.2⟩ hd hs (fun j x hj i hi => by rw [cell_of_heap h2]; exact hcell j x hj i hi)
        (fun j x hj i y hy => ih j x hj i y hy ((hd x (mem_of_get hj)).comp hy))
    | slr _ _ _ hD =>
      obtain ⟨h1, h2⟩ := hI b hacc
      exact .sl .rd s xs b off c U hc hm h1 hd hs (fun j x hj i hi => by rw [cell_of_heap h2]; exact hcell j x hj i hi)
        (fun j x hj i y hy => ih j x hj i y hy ((hd x (mem_of_get hj)).comp hy))
  | ptr id off => exact fun h => by cases h
  | cur o xs b off U hacc hd hcell hrep ih => exact fun h => by cases h
  | agg xs us hl h ih => exact fun hD => .agg xs us hl fun i x u hx hu => ih i x u hx hu (((data_agg xs).1 hD).1 _ (mem_of_get hx))
  | tup xs us hl h ih => exact fun h => by cases h
  | fn f xs ys us vs hl hl' h h' ih ih' => exact fun h => by cases h
  | mp id => exact fun h => by cases h
  | yl id => exact fun h => by cases h
theorem Rep.data {g g' : G} {w w' : World} (hI : ∀ b, g.I b → g'.I b ∧ w'.heap[b]? = w.heap[b]?) (hR : g'.R = g.R) {x : PV} {u : Value} (h : Rep g w x u) (hd : Data x) : Rep g' w' x u :=
  h.data' hI (fun b _ h => by rw [hR]; exact h) hd

/-- Data without rows that are lent. -/
inductive DataC : PV → Prop
  | lit (v : Value) : DataC (.lit v)
  | sl (nl : Bool) (s : Nat) (xs : List PV) : (∀ x, x ∈ xs → DataC x) → DataC (.sl .imm nl s xs)
  | agg (xs : List PV) : (∀ x, x ∈ xs → DataC x) → DataC (.agg xs)
@[simp] theorem dataC_lit (v : Value) : DataC (.lit v) ↔ True := ⟨fun _ => trivial, fun _ => .lit v⟩
@[simp] theorem dataC_sl (nl : Bool) (s : Nat) (xs : List PV) : DataC (.sl .imm nl s xs) ↔ ∀ x, x ∈ xs → DataC x := ⟨fun h => by cases h; assumption, .sl nl s xs⟩
@[simp] theorem dataC_agg (xs : List PV) : DataC (.agg xs) ↔ ∀ x, x ∈ xs → DataC x := ⟨fun h => by cases h; assumption, .agg xs⟩
theorem DataC.comp {x y : PV} {i : Nat} (h : DataC x) (hy : x.comps[i]? = some y) : DataC y := by
  cases x <;> simp only [PV.comps] at hy
  case agg xs => exact (dataC_agg xs).1 h _ (mem_of_get hy)
  all_goals (match i, hy with | 0, hy => simp at hy; subst hy; exact h)

/-- What has no lent row within a row. -/
inductive Clean : PV → Prop
  | lit (v : Value) : Clean (.lit v)
  | dead : Clean .dead
  | sl (o : Own) (nl : Bool) (s : Nat) (xs : List PV) : (∀ x, x ∈ xs → DataC x) → Clean (.sl o nl s xs)
  | ptr (id off : Nat) : Clean (.ptr id off)
  | cur (o : Own) (xs : List PV) : (∀ x, x ∈ xs → DataC x) → Clean (.cur o xs)
  | agg (xs : List PV) : (∀ x, x ∈ xs → Clean x) → Clean (.agg xs)
  | tup (xs : List PV) : (∀ x, x ∈ xs → Clean x) → Clean (.tup xs)
  | fn (f : Fn) (xs ys : List PV) : (∀ x, x ∈ xs → Clean x) → (∀ x, x ∈ ys → Clean x) → Clean (.fn f xs ys)
  | mp (id : Nat) : Clean (.mp id)
  | yl (id : Nat) : Clean (.yl id)
@[simp] theorem clean_lit (v : Value) : Clean (.lit v) ↔ True := ⟨fun _ => trivial, fun _ => .lit v⟩
@[simp] theorem clean_dead : Clean .dead ↔ True := ⟨fun _ => trivial, fun _ => .dead⟩
@[simp] theorem clean_sl (o : Own) (nl : Bool) (s : Nat) (xs : List PV) : Clean (.sl o nl s xs) ↔ ∀ x, x ∈ xs → DataC x := ⟨fun h => by cases h; assumption, .sl o nl s xs⟩
@[simp] theorem clean_ptr (id off : Nat) : Clean (.ptr id off) ↔ True := ⟨fun _ => trivial, fun _ => .ptr id off⟩
@[simp] theorem clean_cur (o : Own) (xs : List PV) : Clean (.cur o xs) ↔ ∀ x, x ∈ xs → DataC x := ⟨fun h => by cases h; assumption, .cur o xs⟩
@[simp] theorem clean_agg (xs : List PV) : Clean (.agg xs) ↔ ∀ x, x ∈ xs → Clean x := ⟨fun h => by cases h; assumption, .agg xs⟩
@[simp] theorem clean_tup (xs : List PV) : Clean (.tup xs) ↔ ∀ x, x ∈ xs → Clean x := ⟨fun h => by cases h; assumption, .tup xs⟩
@[simp] theorem clean_fn (f : Fn) (xs ys : List PV) : Clean (.fn f xs ys) ↔ (∀ x, x ∈ xs → Clean x) ∧ ∀ x, x ∈ ys → Clean x := ⟨fun h => by cases h; exact ⟨by assumption, by assumption⟩, fun h => .fn f xs ys h.1 h.2⟩
@[simp] theorem clean_mp (id : Nat) : Clean (.mp id) ↔ True := ⟨fun _ => trivial, fun _ => .mp id⟩
@[simp] theorem clean_yl (id : Nat) : Clean (.yl id) ↔ True := ⟨fun _ => trivial, fun _ => .yl id⟩

/-- Such data read on wherever the blocks that turn no more, and aren't lent, are as they were. -/
theorem Rep.data0 {g g' : G} {w w' : World} (hI : ∀ b, g.I b → ¬ g.R b → (g'.I b ∧ ¬ g'.R b) ∧ w'.heap[b]? = w.heap[b]?) {x : PV} {u : Value} (h : Rep g w x u) : Data x → DataC x → Clean x → Rep g' w' x u := by
  induction h with
  | lit v => exact fun _ _ _ => .lit v
  | dead u => exact fun _ _ _ => .dead u
  | nils o s => exact fun _ _ _ => .nils o s
  | sle o s a hl => exact fun _ _ _ => .sle o s a hl
  | sl o s xs b off c U hc hm hacc hd hs hcell hrep ih =>
    intro hD hC _
    cases hC with
    | sl _ _ _ hC =>
      obtain ⟨h1, h2⟩ := hI b hacc.1 hacc.2
      refine .sl .imm s xs b off c U hc hm h1 hd hs (fun j x hj i hi => by rw [cell_of_heap h2]; exact hcell j x hj i hi)
        (fun j x hj i y hy => ?_)
      have hy' := (hC x (mem_of_get hj)).comp hy
      refine ih j x hj i y hy ((hd x (mem_of_get hj)).comp hy) hy' ?_
      cases hy' with
      | lit => exact .lit _
      | sl _ _ _ h => exact .sl _ _ _ _ h
      | agg _ h => have := (hd x (mem_of_get hj)).comp_flat hy; cases this
  | ptr id off => exact fun h => by cases h
  | cur o xs b off U hacc hd hcell hrep ih => exact fun h => by cases h
  | agg xs us hl h ih => exact fun hD hC hK => .agg xs us hl fun i x u hx hu => ih i x u hx hu (((data_agg xs).1 hD).1 _ (mem_of_get hx)) ((dataC_agg xs).1 hC _ (mem_of_get hx)) ((clean_agg xs).1 hK _ (mem_of_get hx))
  | tup xs us hl h ih => exact fun h => by cases h
  | fn f xs ys us vs hl hl' h h' ih ih' => exact fun h => by cases h
  | mp id => exact fun h => by cases h
  | yl id => exact fun h => by cases h

mutual
/-- Some names go (or change what they are): what bears them is dead (or changed). -/
def PV.scrub (F : Own → Option Own) (p : Nat → Option Nat) : PV → PV
  | .lit v => .lit v
  | .dead => .dead
  | .sl o nl s xs => match F o with
    | some o' => .sl o' nl s xs
    | none => .dead
  | .ptr id off => match p id with
    | some j => .ptr j off
    | none => .dead
  | .cur o xs => match F o with
    | some o' => .cur o' xs
    | none => .dead
  | .agg xs => .agg (PV.scrubL F p xs)
  | .tup xs => .tup (PV.scrubL F p xs)
  | .fn f a b => .fn f (PV.scrubL F p a) (PV.scrubL F p b)
  | .mp id => match p id with
    | some j => .mp j
    | none => .dead
  | .yl id => match p id with
    | some j => .yl j
    | none => .dead
def PV.scrubL (F : Own → Option Own) (p : Nat → Option Nat) : List PV → List PV
  | [] => []
  | x :: xs => x.scrub F p :: PV.scrubL F p xs
end

theorem scrubL_eq (F : Own → Option Own) (p : Nat → Option Nat) (xs : List PV) : PV.scrubL F p xs = xs.map (PV.scrub F p) := by
  induction xs with
  | nil => rfl
  | cons x xs ih => simp [PV.scrubL, ih]

/-- What the change of names asks of the worlds. -/
structure Turns (g : G) (w : World) (g' : G) (w' : World) (F : Own → Option Own) (p : Nat → Option Nat) : Prop where
  imm : ∀ b, g.I b → g'.I b ∧ w'.heap[b]? = w.heap[b]?
  acc : ∀ o o' b off n c, F o = some o' → Acc g w o b off n c → Acc g' w' o' b off n c ∧ ∀ k, off ≤ k → k < off + n → w'.cell? ⟨b, k, none⟩ = w.cell? ⟨b, k, none⟩
  ptr : ∀ i j, p i = some j → g'.μ j = g.μ i
  lax : ∀ o o', F o = some o' → o.lax = true → o'.lax = true
  rr : g'.R = g.R

/-- What it asks at least. -/
structure Turn1 (g : G) (w : World) (g' : G) (w' : World) (F : Own → Option Own) (p : Nat → Option Nat) : Prop where
  imm : ∀ b, g.I b → g'.I b ∧ w'.heap[b]? = w.heap[b]?
  rr : ∀ b, g.I b → ¬ g.R b → ¬ g'.R b
  acc : ∀ o o' b off n c, F o = some o' → Acc g w o b off n c → Acc g' w' o' b off n c ∧ ∀ k, off ≤ k → k < off + n → w'.cell? ⟨b, k, none⟩ = w.cell? ⟨b, k, none⟩
  ptr : ∀ i j, p i = some j → g'.μ j = g.μ i
  lax : ∀ o o', F o = some o' → o.lax = true → o'.lax = true
theorem Turns.to1 {g : G} {w : World} {g' : G} {w' : World} {F : Own → Option Own} {p : Nat → Option Nat} (h : Turns g w g' w' F p) : Turn1 g w g' w' F p :=
  ⟨h.imm, fun b _ h2 => by rw [h.rr]; exact h2, h.acc, h.ptr, h.lax⟩
/-- The same for what has no lent row within: blocks that are lent may be one's own again. -/
structure Turn0 (g : G) (w : World) (g' : G) (w' : World) (F : Own → Option Own) (p : Nat → Option Nat) : Prop where
  imm : ∀ b, g.I b → ¬ g.R b → (g'.I b ∧ ¬ g'.R b) ∧ w'.heap[b]? = w.heap[b]?
  acc : ∀ o o' b off n c, F o = some o' → Acc g w o b off n c → Acc g' w' o' b off n c ∧ ∀ k, off ≤ k → k < off + n → w'.cell? ⟨b, k, none⟩ = w.cell? ⟨b, k, none⟩
  ptr : ∀ i j, p i = some j → g'.μ j = g.μ i
  lax : ∀ o o', F o = some o' → o.lax = true → o'.lax = true

theorem lax_some : ∀ o o' : Own, some o = some o' → o.lax = true → o'.lax = true := fun o o' h hl => by cases h; exact hl

theorem Rep.turn {g g' : G} {w w' : World} {F : Own → Option Own} {p : Nat → Option Nat} (Ok : PV → Prop) (hOk : (∀ o nl s xs, Ok (.sl o nl s xs) → ∀ x, x ∈ xs → ∀ (i : Nat) (y : PV) (u : Value), x.comps[i]? = some y → Data x → Rep g w y u → Rep g' w' y u) ∧ (∀ o xs, Ok (.cur o xs) → ∀ x, x ∈ xs → ∀ (u : Value), Data x → Rep g w x u → Rep g' w' x u) ∧
      (∀ xs, Ok (.agg xs) → ∀ x, x ∈ xs → Ok x) ∧ (∀ xs, Ok (.tup xs) → ∀ x, x ∈ xs → Ok x) ∧ ∀ f xs ys, Ok (.fn f xs ys) → ∀ x, x ∈ xs ++ ys → Ok x)
    (acc : ∀ o o' b off n c, F o = some o' → Acc g w o b off n c → Acc g' w' o' b off n c ∧ ∀ k, off ≤ k → k < off + n → w'.cell? ⟨b, k, none⟩ = w.cell? ⟨b, k, none⟩) (ptr : ∀ i j, p i = some j → g'.μ j = g.μ i) (lax : ∀ o o', F o = some o' → o.lax = true → o'.lax = true)
    {x : PV} {u : Value} (h : Rep g w x u) : Ok x → Rep g' w' (x.scrub F p) u := by
  obtain ⟨ok1, ok2, ok3, ok4, ok5⟩ := hOk
  induction h with
  | lit v => intro _; simp only [PV.scrub]; exact .lit v
  | dead u => intro _; simp only [PV.scrub]; exact .dead u
  | nils o s =>
    intro _
    simp only [PV.scrub]
    cases F o with
    | none => exact .dead _
    | some o' => exact .nils o' s
  | sle o s a hl =>
    intro _
    simp only [PV.scrub]
    cases hF : F o with
    | none => exact .dead _
    | some o' => exact .sle o' s a (lax o o' hF hl)
  | sl o s xs b off c U hc hm hacc hd hs hcell hrep ih =>
    intro hk
    simp only [PV.scrub]
    cases hF : F o with
    | none => exact .dead _
    | some o' =>
      obtain ⟨h1, h2⟩ := acc o o' b off _ _ hF hacc
      refine .sl o' s xs b off c U hc hm h1 hd hs (fun j x hj i hi => ?_) (fun j x hj i y hy => ok1 _ _ _ _ hk x (mem_of_get hj) i y _ hy (hd x (mem_of_get hj)) (hrep j x hj i y hy))
      have hjl : j < xs.length := (List.getElem?_eq_some_iff.1 hj).1
      have hb : j * s + s ≤ xs.length * s := by
        rw [← Nat.succ_mul]; exact Nat.mul_le_mul_right s hjl
      rw [h2 _ (by omega) (by omega)]
      exact hcell j x hj i hi
  | ptr id off =>
    intro _
    simp only [PV.scrub]
    cases hp : p id with
    | none => exact .dead _
    | some j => rw [← ptr id j hp]; exact .ptr j off
  | cur o xs b off U hacc hd hcell hrep ih =>
    intro hk
    simp only [PV.scrub]
    cases hF : F o with
    | none => exact .dead _
    | some o' =>
      obtain ⟨h1, h2⟩ := acc o o' b off _ _ hF hacc
      refine .cur o' xs b off U h1 hd (fun j x hj => ?_) (fun j x hj => ok2 _ _ hk x (mem_of_get hj) _ (hd x (mem_of_get hj)) (hrep j x hj))
      have hjl : j < xs.length := (List.getElem?_eq_some_iff.1 hj).1
      rw [h2 _ (by omega) (by omega)]
      exact hcell j x hj
  | agg xs us hl h ih =>
    intro hk
    simp only [PV.scrub, scrubL_eq]
    refine .agg _ us (by simpa using hl) (fun i x u hx hu => ?_)
    rw [List.getElem?_map, Option.map_eq_some_iff] at hx
    obtain ⟨y, hy, rfl⟩ := hx
    exact ih i y u hy hu (ok3 _ hk y (mem_of_get hy))
  | tup xs us hl h ih =>
    intro hk
    simp only [PV.scrub, scrubL_eq]
    refine .tup _ us (by simpa using hl) (fun i x u hx hu => ?_)
    rw [List.getElem?_map, Option.map_eq_some_iff] at hx
    obtain ⟨y, hy, rfl⟩ := hx
    exact ih i y u hy hu (ok4 _ hk y (mem_of_get hy))
  | fn f xs ys us vs hl hl' h h' ih ih' =>
    intro hk
    simp only [PV.scrub, scrubL_eq]
    refine .fn f _ _ us vs (by simpa using hl) (by simpa using hl') (fun i x u hx hu => ?_) (fun i x u hx hu => ?_)
    · rw [List.getElem?_map, Option.map_eq_some_iff] at hx
      obtain ⟨y, hy, rfl⟩ := hx
      exact ih i y u hy hu (ok5 _ _ _ hk y (List.mem_append_left _ (mem_of_get hy)))
    · rw [List.getElem?_map, Option.map_eq_some_iff] at hx
      obtain ⟨y, hy, rfl⟩ := hx
      exact ih' i y u hy hu (ok5 _ _ _ hk y (List.mem_append_right _ (mem_of_get hy)))
  | mp id =>
    intro _
    simp only [PV.scrub]
    cases hp : p id with
    | none => exact .dead _
    | some j => rw [← ptr id j hp]; exact .mp j
  | yl id =>
    intro _
    simp only [PV.scrub]
    cases hp : p id with
    | none => exact .dead _
    | some j => rw [← ptr id j hp]; exact .yl j

theorem Rep.scrub1 {g g' : G} {w w' : World} {F : Own → Option Own} {p : Nat → Option Nat} (ht : Turn1 g w g' w' F p) {x : PV} {u : Value} (h : Rep g w x u) : Rep g' w' (x.scrub F p) u :=
  Rep.turn (fun _ => True) ⟨fun _ _ _ _ _ _ _ _ _ _ hy hd hr => hr.data' ht.imm ht.rr (hd.comp hy), fun _ _ _ _ _ _ hd hr => hr.data' ht.imm ht.rr hd, fun _ _ _ _ => trivial, fun _ _ _ _ => trivial, fun _ _ _ _ _ _ => trivial⟩ ht.acc ht.ptr ht.lax h trivial

theorem Rep.scrub {g g' : G} {w w' : World} {F : Own → Option Own} {p : Nat → Option Nat} (ht : Turns g w g' w' F p) {x : PV} {u : Value} (h : Rep g w x u) : Rep g' w' (x.scrub F p) u := h.scrub1 ht.to1

theorem DataC.clean {x : PV} (h : DataC x) : Clean x := by
  induction h with
  | lit => exact .lit _
  | sl _ _ _ h => exact .sl _ _ _ _ h
  | agg _ _ ih => exact .agg _ ih

theorem Rep.scrub0 {g g' : G} {w w' : World} {F : Own → Option Own} {p : Nat → Option Nat} (ht : Turn0 g w g' w' F p) {x : PV} {u : Value} (h : Rep g w x u) (hc : Clean x) : Rep g' w' (x.scrub F p) u :=
  Rep.turn Clean ⟨fun _ _ _ _ hk x hx _ _ _ hy hd hr => hr.data0 ht.imm (hd.comp hy) (((clean_sl _ _ _ _).1 hk x hx).comp hy) (((clean_sl _ _ _ _).1 hk x hx).comp hy).clean,
    fun _ _ hk x hx _ hd hr => hr.data0 ht.imm hd ((clean_cur _ _).1 hk x hx) ((clean_cur _ _).1 hk x hx).clean, fun _ hk => (clean_agg _).1 hk, fun _ hk => (clean_tup _).1 hk,
    fun _ _ _ hk x hx => (List.mem_append.1 hx).elim (((clean_fn _ _ _).1 hk).1 x) (((clean_fn _ _ _).1 hk).2 x)⟩ ht.acc ht.ptr ht.lax h hc

end Go.Sy

/-! The symbolic states of a frame; what holds of code that starts in one. -/
namespace Go.Sy

def getR : List (Nat × PV) → Nat → PV
  | [], _ => .dead
  | (k, x) :: r, s => if k = s then x else getR r s

def scrubR (F : Own → Option Own) (p : Nat → Option Nat) : List (Nat × PV) → List (Nat × PV)
  | [] => []
  | (k, x) :: r => (k, x.scrub F p) :: scrubR F p r

theorem getR_scrubR (F : Own → Option Own) (p : Nat → Option Nat) (r : List (Nat × PV)) (s : Nat) : getR (scrubR F p r) s = (getR r s).scrub F p := by
  induction r with
  | nil => simp only [scrubR, getR, PV.scrub]
  | cons k r ih =>
    obtain ⟨k, x⟩ := k
    simp only [scrubR, getR]
    split
    · rfl
    · exact ih

/-- What an object holds: cells; or a map's entries in their order (the j-th was born as the j-th; a row in it is named 'cell id j'); the record of a range over a function, its slots; or (no object, but what is held for later) the slots of a frame that waits. -/
inductive Ob where
  | cells (xs : List PV)
  | map (es : List (PV × PV))
  | loop (rs : List (Nat × PV)) (n : Nat) (cd : Array Tmp × Code × Code) (s : LoopState) (j : Option Code)
  | ghost (rs : List (Nat × PV)) (vs : Array Value)
  deriving Inhabited

def scrubM (F : Own → Option Own) (p : Nat → Option Nat) (es : List (PV × PV)) : List (PV × PV) := es.map fun e => (e.1.scrub F p, e.2.scrub F p)

def Ob.scrub (F : Own → Option Own) (p : Nat → Option Nat) : Ob → Ob
  | .cells xs => .cells (PV.scrubL F p xs)
  | .map es => .map (scrubM F p es)
  | .loop rs n cd s j => .loop (scrubR F p rs) n cd s j
  | .ghost rs vs => .ghost (scrubR F p rs) vs

def getO : List (Nat × Ob) → Nat → Option Ob
  | [], _ => none
  | (k, x) :: r, s => if k = s then some x else getO r s

def setO : List (Nat × Ob) → Nat → Ob → List (Nat × Ob)
  | [], _, _ => []
  | (k, x) :: r, s, y => if k = s then (k, y) :: r else (k, x) :: setO r s y

def delO : List (Nat × Ob) → Nat → List (Nat × Ob)
  | [], _ => []
  | (k, x) :: r, s => if k = s then delO r s else (k, x) :: delO r s

def scrubO (F : Own → Option Own) (p : Nat → Option Nat) : List (Nat × Ob) → List (Nat × Ob)
  | [] => []
  | (k, x) :: r => match p k with
    | some k' => (k', x.scrub F p) :: scrubO F p r
    | none => scrubO F p r

structure St where
  regs : List (Nat × PV)
  heap : List (Nat × Ob)
  nt : Nat

def St.put (st : St) (d : Option Tmp) (x : PV) : St :=
  match d with
  | none => st
  | some d => if d < st.nt then { st with regs := (d, x) :: st.regs } else st

def St.scrub (F : Own → Option Own) (p : Nat → Option Nat) (st : St) : St := { st with regs := scrubR F p st.regs, heap := scrubO F p st.heap }

def of1 : Value → PV
  | .slice none 0 0 => .sl .imm true 0 []
  | v => .lit v

def ofVal : Value → PV
  | .agg cs => .agg (cs.toList.map of1)
  | v => of1 v

def lookG : List (Nat × IntKind × List Int) → Nat → Option (List PV)
  | [], _ => none
  | q :: l, k => if q.1 = k then some (q.2.2.map fun n => .lit (.int q.2.1 n)) else lookG l k

def St.ev (st : St) : Operand → PV
  | .tmp t => getR st.regs t
  | .const v => ofVal v
  | .global gl => match lookG globs gl with
    | some xs => .cur .imm xs
    | none => .lit (.pointer (some ⟨gl, 0, none⟩))
  | .func f => .fn (.func f) [] []

def ObAt (g : G) (w : World) (id : Nat) : Ob → Prop
  | .cells xs => g.D id ∧ ∃ cs T, w.heap[g.μ id]? = some (.cells cs T (0, 0)) ∧ cs.size = xs.length ∧ ∀ (i : Nat) (x : PV) (u : Value), xs[i]? = some x → cs[i]? = some u → Rep g w x u
  | .map es => g.D id ∧ ∃ es' : Array MapEntry, w.heap[g.μ id]? = some (.map es' es.length) ∧ es'.size = es.length ∧ ∀ (i : Nat) (x : PV × PV) (e : MapEntry), es[i]? = some x → es'[i]? = some e → e.born = i ∧ Rep g w x.1 e.key ∧ Rep g w x.2 e.val
  | .loop rs n cd s j => g.D id ∧ ∃ fn tmps df, w.heap[g.μ id]? = some (.loop { state := s, pending := j, fn := fn, tmps := tmps, params := cd.1, assign := cd.2.1, body := cd.2.2, defers := df }) ∧ tmps.size = n ∧ ∀ t, Rep g w (getR rs t) (tmps.getD t undef)
  | .ghost rs vs => ∀ t, Rep g w (getR rs t) (vs.getD t undef)

/-- An object by other names, in a world in which it is as it was. -/
theorem ObAt.turn1 {g g' : G} {w w' : World} {F : Own → Option Own} {p : Nat → Option Nat} (ht : Turn1 g w g' w' F p) {k k' : Nat} {ob : Ob} (h : ObAt g w k ob) (hD : g.D k → g'.D k' ∧ w'.heap[g'.μ k']? = w.heap[g.μ k]?) : ObAt g' w' k' (ob.scrub F p) := by
  cases ob with
  | cells xs =>
    obtain ⟨hd, cs, T, hb, hl, hr⟩ := h
    refine ⟨(hD hd).1, cs, T, (hD hd).2.trans hb, by simp [scrubL_eq, hl], fun i x u hx hu => ?_⟩
    rw [scrubL_eq, List.getElem?_map, Option.map_eq_some_iff] at hx
    obtain ⟨y, hy, rfl⟩ := hx
    exact (hr i y u hy hu).scrub1 ht
  | map es =>
    obtain ⟨hd, es', hb, hl, hr⟩ := h
    refine ⟨(hD hd).1, es', by rw [(hD hd).2, hb]; simp [scrubM], by simp [scrubM, hl], fun i x e hx he => ?_⟩
    rw [scrubM, List.getElem?_map, Option.map_eq_some_iff] at hx
    obtain ⟨y, hy, rfl⟩ := hx
    obtain ⟨h1, h2, h3⟩ := hr i y e hy he
    exact ⟨h1, h2.scrub1 ht, h3.scrub1 ht⟩
  | loop rs n cd s j =>
    obtain ⟨hd, fn, tmps, df, hb, hl, hr⟩ := h
    exact ⟨(hD hd).1, fn, tmps, df, (hD hd).2.trans hb, hl, fun t => by rw [getR_scrubR]; exact (hr t).scrub1 ht⟩
  | ghost rs vs =>
    intro t
    rw [getR_scrubR]; exact (h t).scrub1 ht
theorem ObAt.turn {g g' : G} {w w' : World} {F : Own → Option Own} {p : Nat → Option Nat} (ht : Turns g w g' w' F p) {k k' : Nat} {ob : Ob} (h : ObAt g w k ob) (hD : g.D k → g'.D k' ∧ w'.heap[g'.μ k']? = w.heap[g.μ k]?) : ObAt g' w' k' (ob.scrub F p) := h.turn1 ht.to1 hD

/-- What holds no lent row within a row. -/
def Ob.clean : Ob → Prop
  | .cells xs => ∀ x, x ∈ xs → Clean x
  | .map es => ∀ e, e ∈ es → Clean e.1 ∧ Clean e.2
  | .loop rs _ _ _ _ => ∀ q, q ∈ rs → Clean q.2
  | .ghost rs _ => ∀ q, q ∈ rs → Clean q.2
theorem getR_clean {rs : List (Nat × PV)} (h : ∀ q, q ∈ rs → Clean q.2) (t : Nat) : Clean (getR rs t) := by
  induction rs with
  | nil => exact .dead
  | cons q r ih =>
    obtain ⟨k, x⟩ := q
    simp only [getR]
    split
    · exact h (k, x) (by simp)
    · exact ih fun q hq => h q (by simp [hq])
theorem ObAt.turn0 {g g' : G} {w w' : World} {F : Own → Option Own} {p : Nat → Option Nat} (ht : Turn0 g w g' w' F p) {k k' : Nat} {ob : Ob} (h : ObAt g w k ob) (hc : ob.clean) (hD : g.D k → g'.D k' ∧ w'.heap[g'.μ k']? = w.heap[g.μ k]?) : ObAt g' w' k' (ob.scrub F p) := by
  cases ob with
  | cells xs =>
    obtain ⟨hd, cs, T, hb, hl, hr⟩ := h
    refine ⟨(hD hd).1, cs, T, (hD hd).2.trans hb, by simp [scrubL_eq, hl], fun i x u hx hu => ?_⟩
    rw [scrubL_eq, List.getElem?_map, Option.map_eq_some_iff] at hx
    obtain ⟨y, hy, rfl⟩ := hx
    exact (hr i y u hy hu).scrub0 ht (hc y (mem_of_get hy))
  | map es =>
    obtain ⟨hd, es', hb, hl, hr⟩ := h
    refine ⟨(hD hd).1, es', by rw [(hD hd).2, hb]; simp [scrubM], by simp [scrubM, hl], fun i x e hx he => ?_⟩
    rw [scrubM, List.getElem?_map, Option.map_eq_some_iff] at hx
    obtain ⟨y, hy, rfl⟩ := hx
    obtain ⟨h1, h2, h3⟩ := hr i y e hy he
    exact ⟨h1, h2.scrub0 ht (hc y (mem_of_get hy)).1, h3.scrub0 ht (hc y (mem_of_get hy)).2⟩
  | loop rs n cd s j =>
    obtain ⟨hd, fn, tmps, df, hb, hl, hr⟩ := h
    exact ⟨(hD hd).1, fn, tmps, df, (hD hd).2.trans hb, hl, fun t => by rw [getR_scrubR]; exact (hr t).scrub0 ht (getR_clean hc t)⟩
  | ghost rs vs =>
    intro t
    rw [getR_scrubR]; exact (h t).scrub0 ht (getR_clean hc t)

def HeapSim (g : G) (w : World) (h : List (Nat × Ob)) : Prop := ∀ id ob, getO h id = some ob → ObAt g w id ob

def RegSim (g : G) (w : World) (r : List (Nat × PV)) (a : Act) : Prop := ∀ s, Rep g w (getR r s) (a.tmps.getD s undef)

structure Sim (g : G) (st : St) (a : Act) (w : World) : Prop where
  regs : RegSim g w st.regs a
  nt : a.tmps.size = st.nt
  heap : HeapSim g w st.heap

/-- The tables lie where they lay, and turn no more. -/
def Globs (g : G) (w : World) : Prop := ∀ q, q ∈ globs → (g.I q.1 ∧ ¬ g.R q.1) ∧ ∃ T fz, w.heap[q.1]? = some (.cells (q.2.2.map (Value.int q.2.1)).toArray T fz)
theorem Globs.mono {g g' : G} {w w' : World} (h : Globs g w) (hI : ∀ b, g.I b → g'.I b ∧ w'.heap[b]? = w.heap[b]?) (hR : g'.R = g.R) : Globs g' w' := fun q hq => by
  obtain ⟨h1, T, fz, h2⟩ := h q hq
  exact ⟨⟨(hI _ h1.1).1, by rw [hR]; exact h1.2⟩, T, fz, (hI _ h1.1).2.trans h2⟩

structure WF (g : G) (w : World) : Prop where
  dlt : ∀ i, g.D i → g.μ i < w.heap.size
  llt : ∀ t, g.L t → g.ν t < w.heap.size
  ilt : ∀ b, g.I b → b < w.heap.size
  dinj : ∀ i j, g.D i → g.D j → g.μ i = g.μ j → i = j
  linj : ∀ t u, g.L t → g.L u → g.ν t = g.ν u → t = u
  dl : ∀ i t, g.D i → g.L t → g.μ i ≠ g.ν t
  di : ∀ i, g.D i → ¬ g.I (g.μ i)
  li : ∀ t, g.L t → ¬ g.I (g.ν t)
  glob : Globs g w
  ri : ∀ b, g.R b → g.I b

def Owned (g : G) (b : Nat) : Prop := (∃ i, g.D i ∧ g.μ i = b) ∨ ∃ t, g.L t ∧ g.ν t = b

structure Ext (g : G) (w : World) (g' : G) (w' : World) : Prop where
  os : w'.os = w.os
  tape : w'.tape = w.tape
  output : w'.output = w.output
  size : w.heap.size ≤ w'.heap.size
  keep : ∀ b, b < w.heap.size → ¬ Owned g b → w'.heap[b]? = w.heap[b]?
  own : ∀ b, Owned g' b → Owned g b ∨ w.heap.size ≤ b
  imm : ∀ b, g'.I b → g.I b ∨ Owned g b ∨ w.heap.size ≤ b
  ext : ∀ i, 100000 ≤ i → g'.μ i = g.μ i ∧ (g.D i → g'.D i)
  rd : g'.R = g.R

theorem Ext.refl (g : G) (w : World) : Ext g w g w := ⟨rfl, rfl, rfl, Nat.le_refl _, fun _ _ _ => rfl, fun _ h => .inl h, fun _ h => .inl h, fun _ _ => ⟨rfl, fun h => h⟩, rfl⟩

theorem Ext.trans {g g' g'' : G} {w w' w'' : World} (h : Ext g w g' w') (k : Ext g' w' g'' w'') : Ext g w g'' w'' := by
  refine ⟨k.os.trans h.os, k.tape.trans h.tape, k.output.trans h.output, Nat.le_trans h.size k.size, fun b hb ho => ?_, fun b hb => ?_, fun b hb => ?_, fun i hi => ⟨(k.ext i hi).1.trans (h.ext i hi).1, fun hd => (k.ext i hi).2 ((h.ext i hi).2 hd)⟩, k.rd.trans h.rd⟩
  · have : ¬ Owned g' b := fun h' => by
      rcases h.own b h' with h1 | h1
      · exact ho h1
      · omega
    rw [k.keep b (Nat.lt_of_lt_of_le hb h.size) this, h.keep b hb ho]
  · rcases k.own b hb with h1 | h1
    · exact h.own b h1
    · exact .inr (Nat.le_trans h.size h1)
  · rcases k.imm b hb with h1 | h1 | h1
    · exact h.imm b h1
    · rcases h.own b h1 with h2 | h2
      · exact .inr (.inl h2)
      · exact .inr (.inr h2)
    · exact .inr (.inr (Nat.le_trans h.size h1))

abbrev FR (r : Option Nat) : Fence := { Fence.wide with round := r }
theorem WF.rl {g : G} {w : World} (h : WF g w) {t : Tk} (ht : g.L t) : ¬ g.R (g.ν t) := fun hr => h.li t ht (h.ri _ hr)
theorem WF.rdd {g : G} {w : World} (h : WF g w) {i : Nat} (ht : g.D i) : ¬ g.R (g.μ i) := fun hr => h.di i ht (h.ri _ hr)
theorem room_FR (r : Option Nat) (n : Nat) : (FR r).room n := fun _ h => by simp [Fence.wide] at h

def markOf (r : Nat) : Deferred := { target := .collected r, args := #[] }
/-- To what is deferred the marks of ranges over functions have come (blocks from n0 on), with nothing deferred in them. -/
def Coll (n0 : Nat) (g : G) (w : World) (ds ds' : List Deferred) : Prop :=
  ∃ rs : List Nat, ds' = rs.map markOf ++ ds ∧ rs.Nodup ∧ ∀ r, r ∈ rs → n0 ≤ r ∧ r < w.heap.size ∧ w.heap[r]? = some (.deferred (some [])) ∧ ¬ Owned g r ∧ ¬ g.I r
theorem Coll.same {n0 : Nat} {g : G} {w : World} {ds ds' : List Deferred} (h : ds' = ds) : Coll n0 g w ds ds' := ⟨[], by simpa using h, .nil, fun _ h => by simp at h⟩
theorem Coll.trans {n0 : Nat} {g g' : G} {w w' : World} {ds ds' ds'' : List Deferred} (h : Coll n0 g w ds ds') (hn : n0 ≤ w.heap.size) (hx : Ext g w g' w') (k : Coll w.heap.size g' w' ds' ds'') : Coll n0 g' w' ds ds'' := by
  obtain ⟨ms, rfl, hd, h⟩ := h
  obtain ⟨ns, rfl, kd, k⟩ := k
  refine ⟨ns ++ ms, by simp, List.nodup_append.2 ⟨kd, hd, fun a ha b hb e => ?_⟩, fun r hr => ?_⟩
  · subst e
    have := (k a ha).1
    have := (h a hb).2.1
    omega
  rcases List.mem_append.1 hr with hr | hr
  · obtain ⟨h1, h2⟩ := k r hr
    exact ⟨by omega, h2⟩
  · obtain ⟨h0, h1, h2, h3, h4⟩ := h r hr
    refine ⟨h0, Nat.lt_of_lt_of_le h1 hx.size, (hx.keep r h1 h3).trans h2, fun ho => (hx.own r ho).elim h3 (by omega), fun hI => ?_⟩
    rcases hx.imm r hI with h | h | h
    · exact h4 h
    · exact h3 h
    · omega

/-- What stands behind a piece of code. -/
def Post (g : G) (w : World) (ds : List Deferred) (Q : Exit → St → Prop) : Exit → Act → World → Prop :=
  fun e a' w' => ∃ g' st', Q e st' ∧ Sim g' st' a' w' ∧ WF g' w' ∧ Ext g w g' w' ∧ Coll w.heap.size g' w' ds a'.defers

def Tr (P : Program) (r : Option Nat) (c : Code) (st : St) (Q : Exit → St → Prop) : Prop :=
  ∀ g a w, Sim g st a w → WF g w → c.wpIn (FR r) 0 P (Post g w a.defers Q) a w

section
variable {P : Program} {r : Option Nat} {st : St} {Q Q' : Exit → St → Prop}

theorem least {p : Nat → Prop} (h : ∃ n, p n) : ∃ n, p n ∧ ∀ m, p m → n ≤ m := by
  obtain ⟨n, hn⟩ := h
  induction n using Nat.strongRecOn with
  | _ n ih =>
    by_cases h : ∃ m, m < n ∧ p m
    · obtain ⟨m, h1, h2⟩ := h; exact ih m h1 h2
    · exact ⟨n, hn, fun m hm => Nat.le_of_not_lt fun hlt => h ⟨m, hlt, hm⟩⟩

theorem Post.ext {g g' : G} {w w' : World} {ds ds' : List Deferred} (h : Ext g w g' w') (hc : Coll w.heap.size g' w' ds ds') {e : Exit} {a : Act} {v : World} (hp : Post g' w' ds' Q e a v) : Post g w ds Q e a v := by
  obtain ⟨g'', st', h1, h2, h3, h4, h5⟩ := hp
  exact ⟨g'', st', h1, h2, h3, h.trans h4, hc.trans h.size h4 h5⟩

theorem Tr.mono {c : Code} (h : Tr P r c st Q) (hq : ∀ e s, Q e s → Q' e s) : Tr P r c st Q' :=
  fun g a w hs hw => wpIn_mono (h g a w hs hw) fun _ _ _ ⟨g', st', h1, h2⟩ => ⟨g', st', hq _ _ h1, h2⟩

theorem Tr.now {g : G} {a : Act} {w : World} {e : Exit} (hq : Q e st) (hs : Sim g st a w) (hw : WF g w) : Post g w a.defers Q e a w := ⟨g, st, hq, hs, hw, Ext.refl g w, .same rfl⟩

theorem Tr.skip (h : Q .normal st) : Tr P r .skip st Q := fun _ _ _ hs hw => wpIn_skip (Tr.now h hs hw)
theorem Tr.label {l : Nat} (h : Q .normal st) : Tr P r (.label l) st Q := fun _ _ _ hs hw => wpIn_label (Tr.now h hs hw)
theorem Tr.exit {id : Nat} (h : Q (.exit id) st) : Tr P r (.exit id) st Q := fun _ _ _ hs hw => wpIn_exit (Tr.now h hs hw)
theorem Tr.ret (h : Q .ret st) : Tr P r .ret st Q := fun _ _ _ hs hw => wpIn_ret (Tr.now h hs hw)

/-- What is asked behind the first of two. -/
def seqK (P : Program) (r : Option Nat) (y : Code) (Q : Exit → St → Prop) : Exit → St → Prop
  | .normal, s => Tr P r y s Q
  | e, s => Q e s

theorem Tr.seq {x y : Code} (h : Tr P r x st (seqK P r y Q)) : Tr P r (.seq x y) st Q := by
  intro g a w hs hw
  refine wpIn_seq (wpIn_mono (h g a w hs hw) fun e a' w' hp => ?_)
  obtain ⟨g', st', h1, h2, h3, h4, h5⟩ := hp
  cases e with
  | normal =>
    refine wpIn_mono (h1 g' a' w' h2 h3) fun e a'' w'' hp => ?_
    exact Post.ext h4 h5 hp
  | exit id => exact ⟨g', st', h1, h2, h3, h4, h5⟩
  | goto l => exact ⟨g', st', h1, h2, h3, h4, h5⟩
  | ret => exact ⟨g', st', h1, h2, h3, h4, h5⟩
  | panic c => exact ⟨g', st', h1, h2, h3, h4, h5⟩
  | outgrown => exact ⟨g', st', h1, h2, h3, h4, h5⟩

def blockK (id : Nat) (Q : Exit → St → Prop) : Exit → St → Prop
  | .exit id', s => if id' = id then Q .normal s else Q (.exit id') s
  | e, s => Q e s

theorem Tr.block {id : Nat} {c : Code} (h : Tr P r c st (blockK id Q)) : Tr P r (.block id c) st Q := by
  intro g a w hs hw
  refine wpIn_block (wpIn_mono (h g a w hs hw) fun e a' w' hp => ?_)
  obtain ⟨g', st', h1, h2, h3, h4, h5⟩ := hp
  cases e with
  | exit id' =>
    simp only [blockK] at h1
    simp only [Exit.inBlock]
    split
    · rename_i he; rw [if_pos he] at h1; exact ⟨g', st', h1, h2, h3, h4, h5⟩
    · rename_i he; rw [if_neg he] at h1; exact ⟨g', st', h1, h2, h3, h4, h5⟩
  | normal => exact ⟨g', st', h1, h2, h3, h4, h5⟩
  | goto l => exact ⟨g', st', h1, h2, h3, h4, h5⟩
  | ret => exact ⟨g', st', h1, h2, h3, h4, h5⟩
  | panic c => exact ⟨g', st', h1, h2, h3, h4, h5⟩
  | outgrown => exact ⟨g', st', h1, h2, h3, h4, h5⟩

theorem rep_of1 (g : G) (w : World) (v : Value) : Rep g w (of1 v) v := by
  unfold of1
  split
  · exact .nils .imm 0
  · exact .lit _

theorem rep_ofVal (g : G) (w : World) (v : Value) : Rep g w (ofVal v) v := by
  unfold ofVal
  split
  · refine .agg _ _ (by simp) (fun i x u hx hu => ?_)
    rw [List.getElem?_map, Option.map_eq_some_iff] at hx
    obtain ⟨y, hy, rfl⟩ := hx
    rw [Array.getElem?_toList, hu] at hy
    cases hy
    exact rep_of1 g w _
  · exact rep_of1 g w _

theorem lookG_rep {g : G} {w : World} (h : Globs g w) {k : Nat} {xs : List PV} (hk : lookG globs k = some xs) : Rep g w (.cur .imm xs) (.pointer (some ⟨k, 0, none⟩)) := by
  have : ∀ l : List (Nat × IntKind × List Int), (∀ q, q ∈ l → q ∈ globs) → lookG l k = some xs → ∃ q, q ∈ globs ∧ q.1 = k ∧ xs = q.2.2.map fun n => .lit (.int q.2.1 n) := by
    intro l
    induction l with
    | nil => exact fun _ h => by simp [lookG] at h
    | cons q l ih =>
      intro hl hx
      simp only [lookG] at hx
      split at hx
      · rename_i e; cases hx; exact ⟨q, hl q (by simp), e, rfl⟩
      · exact ih (fun q' hq' => hl q' (by simp [hq'])) hx
  obtain ⟨q, hq, rfl, rfl⟩ := this globs (fun _ h => h) hk
  obtain ⟨h1, T, fz, h2⟩ := h q hq
  have hget : ∀ (j : Nat) (x : PV), (q.2.2.map fun n => PV.lit (.int q.2.1 n))[j]? = some x → ∃ n, q.2.2[j]? = some n ∧ x = .lit (.int q.2.1 n) := fun j x hx => by
    rw [List.getElem?_map, Option.map_eq_some_iff] at hx
    obtain ⟨n, hn, rfl⟩ := hx
    exact ⟨n, hn, rfl⟩
  refine .cur .imm _ q.1 0 (fun j => ((q.2.2[j]?).map (Value.int q.2.1)).getD undef) h1 (fun x hx => ?_) (fun j x hx => ?_) (fun j x hx => ?_)
  · obtain ⟨n, _, rfl⟩ := List.mem_map.1 hx
    exact .lit _ rfl
  · obtain ⟨n, hn, rfl⟩ := hget j x hx
    simp [World.cell?, h2, hn]
  · obtain ⟨n, hn, rfl⟩ := hget j x hx
    simp only [hn, Option.map_some, Option.getD_some]; exact .lit _

theorem Sim.ev {g : G} {a : Act} {w : World} (h : Sim g st a w) (hw : WF g w) (x : Operand) : Rep g w (st.ev x) (a.eval x) := by
  cases x with
  | tmp t => exact h.regs t
  | const v => exact rep_ofVal g w v
  | global gl =>
    simp only [St.ev]
    split
    · rename_i xs hx; exact lookG_rep hw.glob hx
    · exact .lit _
  | func f => exact .fn (.func f) [] [] #[] #[] rfl rfl (fun _ _ _ h => by simp at h) (fun _ _ _ h => by simp at h)

theorem Rep.lit_inv {g : G} {w : World} {v u : Value} (h : Rep g w (.lit v) u) : u = v := by cases h; rfl

theorem Sim.lit {g : G} {a : Act} {w : World} (h : Sim g st a w) (hw : WF g w) {x : Operand} {v : Value} (hx : st.ev x = .lit v) : a.eval x = v := by
  have := h.ev hw x; rw [hx] at this; exact this.lit_inv

theorem Tr.cond {c : Operand} {x y : Code} {t : Bool} (hc : st.ev c = .lit (.bool t)) (h1 : t = true → Tr P r x st Q) (h2 : t = false → Tr P r y st Q) : Tr P r (.cond c x y) st Q := by
  intro g a w hs hw
  exact wpIn_cond_split (t := t) (hs.lit hw hc) (fun h => h1 h g a w hs hw) (fun h => h2 h g a w hs hw)

/-- A state with fewer slots. -/
def keepR (r : List (Nat × PV)) : List Nat → List (Nat × PV)
  | [] => []
  | s :: l => (s, getR r s) :: keepR r l

theorem getR_keepR (r : List (Nat × PV)) (l : List Nat) (s : Nat) : getR (keepR r l) s = getR r s ∨ getR (keepR r l) s = .dead := by
  induction l with
  | nil => exact .inr rfl
  | cons k l ih =>
    simp only [keepR, getR]
    by_cases h : k = s
    · subst h; simp
    · rw [if_neg h]; exact ih

def keepO (h : List (Nat × Ob)) : List Nat → List (Nat × Ob)
  | [] => []
  | s :: l => match getO h s with
    | some o => (s, o) :: keepO h l
    | none => keepO h l

theorem getO_keepO (h : List (Nat × Ob)) (l : List Nat) (s : Nat) : getO (keepO h l) s = getO h s ∨ getO (keepO h l) s = none := by
  induction l with
  | nil => exact .inr rfl
  | cons k l ih =>
    simp only [keepO]
    cases hk : getO h k with
    | none => exact ih
    | some o =>
      simp only [getO]
      by_cases e : k = s
      · subst e; simp [hk]
      · rw [if_neg e]; exact ih

/-- The slots and objects that are named. -/
def St.keep (st : St) (l ids : List Nat) : St := { st with regs := keepR st.regs l, heap := keepO st.heap ids }

theorem Sim.keep {g : G} {a : Act} {w : World} (h : Sim g st a w) (l ids : List Nat) : Sim g (st.keep l ids) a w := by
  refine ⟨fun s => ?_, h.nt, fun id ob ho => ?_⟩
  · rcases getR_keepR st.regs l s with e | e
    · show Rep g w (getR (keepR st.regs l) s) _; rw [e]; exact h.regs s
    · show Rep g w (getR (keepR st.regs l) s) _; rw [e]; exact .dead _
  · rcases getO_keepO st.heap ids id with e | e
    · exact h.heap id ob (e ▸ ho)
    · have ho' : getO (keepO st.heap ids) id = some ob := ho
      rw [e] at ho'; cases ho'

theorem Tr.forget {c : Code} (l ids : List Nat) (h : Tr P r c (st.keep l ids) Q) : Tr P r c st Q := fun g a w hs hw => h g a w (hs.keep l ids) hw

/-- A LOOP: 'S x' is the state at a round's head; each round leads to another head, below it, or out. -/
theorem Tr.loop {α : Type} {c : Code} (S : α → St) (m : α → Nat) (l ids : List Nat) (x0 : α) (h0 : st.keep l ids = S x0)
    (hr : ∀ x, Tr P r c (S x) fun e s => match e with
      | .normal => ∃ y, m y < m x ∧ s.keep l ids = S y
      | e => Q e s) : Tr P r (.loop c) st Q := by
  intro g a w hs hw
  have h00 : Sim g (S x0) a w := h0 ▸ hs.keep l ids
  let N : Nat → Act → World → Prop := fun n a1 w1 => ∃ x g1, m x = n ∧ Sim g1 (S x) a1 w1 ∧ WF g1 w1 ∧ Ext g w g1 w1 ∧ Coll w.heap.size g1 w1 a.defers a1.defers
  classical
  let μ : Act → World → Nat := fun a1 w1 => if h : ∃ n, N n a1 w1 then Classical.choose (least h) else 0
  have hμ : ∀ n a1 w1, N n a1 w1 → μ a1 w1 ≤ n := fun n a1 w1 hn => by
    have h : ∃ n, N n a1 w1 := ⟨n, hn⟩
    show (if h : ∃ n, N n a1 w1 then Classical.choose (least h) else 0) ≤ n
    rw [dif_pos h]; exact (Classical.choose_spec (least h)).2 n hn
  have hN : ∀ a1 w1, (∃ n, N n a1 w1) → N (μ a1 w1) a1 w1 := fun a1 w1 h => by
    show N (if h : ∃ n, N n a1 w1 then Classical.choose (least h) else 0) a1 w1
    rw [dif_pos h]; exact (Classical.choose_spec (least h)).1
  refine wpIn_loop (fun a1 w1 => ∃ n, N n a1 w1) μ ⟨m x0, x0, g, rfl, h00, hw, Ext.refl g w, .same rfl⟩ ?_
  intro a1 w1 hn
  obtain ⟨x, g1, hx, hs1, hw1, he1, hd1⟩ := hN a1 w1 hn
  refine wpIn_mono (hr x g1 a1 w1 hs1 hw1) fun e a2 w2 hp => ?_
  obtain ⟨g2, st2, hq2, hs2, hw2, he2, hd2⟩ := hp
  cases e with
  | normal =>
    obtain ⟨y, hy, hS⟩ := hq2
    have hny : N (m y) a2 w2 := ⟨y, g2, rfl, hS ▸ hs2.keep l ids, hw2, he1.trans he2, hd1.trans he1.size he2 hd2⟩
    exact ⟨⟨m y, hny⟩, Nat.lt_of_le_of_lt (hμ _ _ _ hny) (hx ▸ hy)⟩
  | exit id => exact ⟨g2, st2, hq2, hs2, hw2, he1.trans he2, hd1.trans he1.size he2 hd2⟩
  | goto t => exact ⟨g2, st2, hq2, hs2, hw2, he1.trans he2, hd1.trans he1.size he2 hd2⟩
  | ret => exact ⟨g2, st2, hq2, hs2, hw2, he1.trans he2, hd1.trans he1.size he2 hd2⟩
  | panic t => exact ⟨g2, st2, hq2, hs2, hw2, he1.trans he2, hd1.trans he1.size he2 hd2⟩
  | outgrown => exact ⟨g2, st2, hq2, hs2, hw2, he1.trans he2, hd1.trans he1.size he2 hd2⟩
end
end Go.Sy

/-! Names change, memory is made: what that does to a symbolic state. -/
namespace Go.Sy

theorem getO_scrubO {F : Own → Option Own} {p : Nat → Option Nat} {h : List (Nat × Ob)} {k' : Nat} {ob' : Ob} (hg : getO (scrubO F p h) k' = some ob') :
    ∃ k ob, p k = some k' ∧ getO h k = some ob ∧ ob' = ob.scrub F p := by
  induction h with
  | nil => simp [scrubO, getO] at hg
  | cons c r ih =>
    obtain ⟨k, x⟩ := c
    simp only [scrubO] at hg
    cases hk : p k with
    | none =>
      rw [hk] at hg
      obtain ⟨k2, ob, h1, h2, h3⟩ := ih hg
      refine ⟨k2, ob, h1, ?_, h3⟩
      simp only [getO]
      rw [if_neg (fun e => by rw [e, h1] at hk; cases hk)]; exact h2
    | some k1 =>
      rw [hk] at hg
      simp only [getO] at hg
      by_cases e : k1 = k'
      · rw [if_pos e] at hg
        cases hg
        exact ⟨k, x, e ▸ hk, by simp [getO], rfl⟩
      · rw [if_neg e] at hg
        obtain ⟨k2, ob, h1, h2, h3⟩ := ih hg
        refine ⟨k2, ob, h1, ?_, h3⟩
        simp only [getO]
        rw [if_neg (fun e2 => by rw [e2, h1] at hk; cases hk; exact e rfl)]; exact h2

/-- The same state by other names, in a world in which what it speaks of is as it was. -/
theorem Sim.turn {g g' : G} {st : St} {a : Act} {w w' : World} {F : Own → Option Own} {p : Nat → Option Nat} (h : Sim g st a w) (ht : Turns g w g' w' F p) (hD : ∀ i j, p i = some j → g.D i → g'.D j ∧ w'.heap[g'.μ j]? = w.heap[g.μ i]?) : Sim g' (st.scrub F p) a w' := by
  refine ⟨fun s => ?_, h.nt, fun k' ob' ho => ?_⟩
  · show Rep g' w' (getR (scrubR F p st.regs) s) _
    rw [getR_scrubR]; exact (h.regs s).scrub ht
  · obtain ⟨k, ob, h1, h2, rfl⟩ := getO_scrubO ho
    have hk := h.heap k ob h2
    exact hk.turn ht (hD k k' h1)

def Fren (ρ : Tk → Option Tk) : Own → Option Own
  | .imm => some .imm
  | .own t => (ρ t).map .own
  | .vw t => (ρ t).map .vw
  | .rd => some .rd

open Classical in
noncomputable def G.ren (g : G) (ρ : Tk → Option Tk) (p : Nat → Option Nat) : G where
  μ := fun j => if h : ∃ i, p i = some j ∧ g.D i then g.μ (Classical.choose h) else if h : ∃ i, p i = some j then g.μ (Classical.choose h) else 0
  ν := fun u => if h : ∃ t, ρ t = some u then g.ν (Classical.choose h) else 0
  fr := fun u => if h : ∃ t, ρ t = some u then g.fr (Classical.choose h) else 0
  L := fun u => ∃ t, ρ t = some u ∧ g.L t
  D := fun j => ∃ i, p i = some j ∧ g.D i
  I := g.I
  R := g.R

structure Inj (ρ : Tk → Option Tk) (p : Nat → Option Nat) : Prop where
  tk : ∀ t u k, ρ t = some k → ρ u = some k → t = u
  ob : ∀ i j k, p i = some k → p j = some k → i = j
  wk : ∀ t u, ρ t = some u → t.weak = true → u.weak = true

section
variable {g : G} {ρ : Tk → Option Tk} {p : Nat → Option Nat} (hi : Inj ρ p)
include hi
theorem G.ren_μ {i j : Nat} (h : p i = some j) : (g.ren ρ p).μ j = g.μ i := by
  simp only [G.ren]
  split
  · rename_i hx
    exact congrArg g.μ (hi.ob _ _ _ (Classical.choose_spec hx).1 h)
  · split
    · rename_i hx
      exact congrArg g.μ (hi.ob _ _ _ (Classical.choose_spec hx) h)
    · rename_i hx; exact absurd ⟨i, h⟩ hx
theorem G.ren_ν {t u : Tk} (h : ρ t = some u) : (g.ren ρ p).ν u = g.ν t := by
  simp only [G.ren]
  split
  · rename_i hx
    exact congrArg g.ν (hi.tk _ _ _ (Classical.choose_spec hx) h)
  · rename_i hx; exact absurd ⟨t, h⟩ hx
theorem G.ren_fr {t u : Tk} (h : ρ t = some u) : (g.ren ρ p).fr u = g.fr t := by
  simp only [G.ren]
  split
  · rename_i hx
    exact congrArg g.fr (hi.tk _ _ _ (Classical.choose_spec hx) h)
  · rename_i hx; exact absurd ⟨t, h⟩ hx

theorem lax_ren : ∀ o o' : Own, Fren ρ o = some o' → o.lax = true → o'.lax = true := fun o o' h hl => by
  cases o with
  | imm => simp only [Fren, Option.some.injEq] at h; subst h; rfl
  | rd => simp only [Fren, Option.some.injEq] at h; subst h; rfl
  | own t =>
    simp only [Fren, Option.map_eq_some_iff] at h
    obtain ⟨u, hu, rfl⟩ := h
    exact hi.wk t u hu hl
  | vw t =>
    simp only [Fren, Option.map_eq_some_iff] at h
    obtain ⟨u, hu, rfl⟩ := h
    exact hi.wk t u hu hl

theorem Turns.ren (w : World) : Turns g w (g.ren ρ p) w (Fren ρ) p where
  lax := lax_ren hi
  imm := fun _ h => ⟨h, rfl⟩
  rr := rfl
  acc := by
    intro o o' b off n c hF ha
    refine ⟨?_, fun _ _ _ => rfl⟩
    cases o with
    | imm => simp only [Fren, Option.some.injEq] at hF; subst hF; exact ha
    | rd => simp only [Fren, Option.some.injEq] at hF; subst hF; exact ha
    | own t =>
      simp only [Fren, Option.map_eq_some_iff] at hF
      obtain ⟨u, hu, rfl⟩ := hF
      rcases ha with ⟨h1, h2, h3, h4⟩ | h
      · exact .inl ⟨⟨t, hu, h1⟩, by rw [G.ren_ν hi hu]; exact h2, by rw [G.ren_fr hi hu]; exact h3, h4⟩
      · exact .inr ⟨h.1, h.2.1, hi.wk _ _ hu h.2.2⟩
    | vw t =>
      simp only [Fren, Option.map_eq_some_iff] at hF
      obtain ⟨u, hu, rfl⟩ := hF
      rcases ha with h | ⟨h1, h2, h3⟩
      · exact .inl h
      · exact .inr ⟨⟨t, hu, h1⟩, by rw [G.ren_ν hi hu]; exact h2, by rw [G.ren_fr hi hu]; exact h3⟩
  ptr := fun _ _ h => G.ren_μ hi h

theorem Sim.ren {st : St} {a : Act} {w : World} (h : Sim g st a w) : Sim (g.ren ρ p) (st.scrub (Fren ρ) p) a w :=
  h.turn (Turns.ren hi w) fun i j hp hd => ⟨⟨i, hp, hd⟩, by rw [G.ren_μ hi hp]⟩

theorem WF.ren {w : World} (h : WF g w) : WF (g.ren ρ p) w where
  dlt := fun j ⟨i, hp, hd⟩ => by rw [G.ren_μ hi hp]; exact h.dlt i hd
  llt := fun u ⟨t, hp, hd⟩ => by rw [G.ren_ν hi hp]; exact h.llt t hd
  ilt := h.ilt
  dinj := by
    rintro j j' ⟨i, hp, hd⟩ ⟨i', hp', hd'⟩ he
    rw [G.ren_μ hi hp, G.ren_μ hi hp'] at he
    have := h.dinj i i' hd hd' he
    subst this; rw [hp] at hp'; cases hp'; rfl
  linj := by
    rintro j j' ⟨i, hp, hd⟩ ⟨i', hp', hd'⟩ he
    rw [G.ren_ν hi hp, G.ren_ν hi hp'] at he
    have := h.linj i i' hd hd' he
    subst this; rw [hp] at hp'; cases hp'; rfl
  dl := by
    rintro j u ⟨i, hp, hd⟩ ⟨t, hp', hd'⟩
    rw [G.ren_μ hi hp, G.ren_ν hi hp']; exact h.dl i t hd hd'
  di := by rintro j ⟨i, hp, hd⟩; rw [G.ren_μ hi hp]; exact h.di i hd
  li := by rintro u ⟨t, hp, hd⟩; rw [G.ren_ν hi hp]; exact h.li t hd
  glob := h.glob.mono (fun _ h => ⟨h, rfl⟩) rfl
  ri := h.ri

theorem Ext.ren (hx : ∀ i, 100000 ≤ i → p i = some i) (w : World) : Ext g w (g.ren ρ p) w where
  ext := fun i h => ⟨G.ren_μ hi (hx i h), fun hd => ⟨i, hx i h, hd⟩⟩
  rd := rfl
  os := rfl
  tape := rfl
  output := rfl
  size := Nat.le_refl _
  keep := fun _ _ _ => rfl
  own := by
    rintro b (⟨j, ⟨i, hp, hd⟩, rfl⟩ | ⟨u, ⟨t, hp, hd⟩, rfl⟩)
    · exact .inl (.inl ⟨i, hd, by rw [G.ren_μ hi hp]⟩)
    · exact .inl (.inr ⟨t, hd, by rw [G.ren_ν hi hp]⟩)
  imm := fun _ h => .inl h
end

/-! ### A row is its own no more: what lies in it turns no more. -/
def Ffz (ts : Tk → Bool) : Own → Option Own
  | .imm => some .imm
  | .own t => if ts t then some .imm else some (.own t)
  | .vw t => if ts t then some .imm else some (.vw t)
  | .rd => some .rd

def G.fz (g : G) (ts : Tk → Bool) : G := { g with L := fun t => g.L t ∧ ts t = false, I := fun b => g.I b ∨ ∃ t, ts t = true ∧ g.L t ∧ g.ν t = b }

theorem lax_fz (ts : Tk → Bool) : ∀ o o' : Own, Ffz ts o = some o' → o.lax = true → o'.lax = true := fun o o' h hl => by
  cases o with
  | imm => simp only [Ffz, Option.some.injEq] at h; subst h; rfl
  | rd => simp only [Ffz, Option.some.injEq] at h; subst h; rfl
  | own t => simp only [Ffz] at h; split at h <;> cases h <;> first | rfl | exact hl
  | vw t => simp only [Ffz] at h; split at h <;> cases h <;> first | rfl | exact hl

theorem Turns.fz {g : G} {w : World} (hw : WF g w) (ts : Tk → Bool) : Turns g w (g.fz ts) w (Ffz ts) some where
  lax := lax_fz ts
  imm := fun _ h => ⟨.inl h, rfl⟩
  rr := rfl
  acc := by
    intro o o' b off n c hF ha
    refine ⟨?_, fun _ _ _ => rfl⟩
    cases o with
    | imm => simp only [Ffz, Option.some.injEq] at hF; subst hF; exact ⟨.inl ha.1, ha.2⟩
    | rd => simp only [Ffz, Option.some.injEq] at hF; subst hF; exact .inl ha
    | own t =>
      simp only [Ffz] at hF
      split at hF
      · rename_i ht
        cases hF
        rcases ha with ⟨h1, h2, _⟩ | ⟨h, _⟩
        · exact ⟨.inr ⟨t, ht, h1, h2.symm⟩, h2 ▸ hw.rl h1⟩
        · exact ⟨.inl h.1, h.2⟩
      · rename_i ht
        cases hF
        rcases ha with ⟨h1, h2, h3⟩ | ⟨h, h'⟩
        · exact .inl ⟨⟨h1, by simpa using ht⟩, h2, h3⟩
        · exact .inr ⟨⟨.inl h.1, h.2⟩, h'⟩
    | vw t =>
      simp only [Ffz] at hF
      split at hF
      · rename_i ht
        cases hF
        rcases ha with h | ⟨h1, h2, _⟩
        · exact ⟨.inl h.1, h.2⟩
        · exact ⟨.inr ⟨t, ht, h1, h2.symm⟩, h2 ▸ hw.rl h1⟩
      · rename_i ht
        cases hF
        rcases ha with h | ⟨h1, h2, h3⟩
        · exact .inl ⟨.inl h.1, h.2⟩
        · exact .inr ⟨⟨h1, by simpa using ht⟩, h2, h3⟩
  ptr := fun _ _ h => by cases h; rfl

theorem Sim.fz {g : G} {st : St} {a : Act} {w : World} (h : Sim g st a w) (hw : WF g w) (ts : Tk → Bool) : Sim (g.fz ts) (st.scrub (Ffz ts) some) a w :=
  h.turn (Turns.fz hw ts) fun i j hp hd => by cases hp; exact ⟨hd, rfl⟩

theorem WF.fz {g : G} {w : World} (h : WF g w) (ts : Tk → Bool) : WF (g.fz ts) w where
  dlt := h.dlt
  llt := fun t ht => h.llt t ht.1
  ilt := by
    rintro b (hb | ⟨t, _, hl, rfl⟩)
    · exact h.ilt b hb
    · exact h.llt t hl
  dinj := h.dinj
  linj := fun t u ht hu => h.linj t u ht.1 hu.1
  dl := fun i t hi ht => h.dl i t hi ht.1
  di := by
    rintro i hi (hb | ⟨t, _, hl, he⟩)
    · exact h.di i hi hb
    · exact h.dl i t hi hl he.symm
  li := by
    rintro t ⟨hl, ht⟩ (hb | ⟨u, hu, hl', he⟩)
    · exact h.li t hl hb
    · have := h.linj u t hl' hl he
      subst this; rw [hu] at ht; cases ht
  glob := h.glob.mono (fun _ h => ⟨.inl h, rfl⟩) rfl
  ri := fun b hb => .inl (h.ri b hb)

theorem Ext.fz (g : G) (ts : Tk → Bool) (w : World) : Ext g w (g.fz ts) w where
  ext := fun _ _ => ⟨rfl, fun h => h⟩
  rd := rfl
  os := rfl
  tape := rfl
  output := rfl
  size := Nat.le_refl _
  keep := fun _ _ _ => rfl
  own := by
    rintro b (⟨i, hd, rfl⟩ | ⟨t, hl, rfl⟩)
    · exact .inl (.inl ⟨i, hd, rfl⟩)
    · exact .inl (.inr ⟨t, hl.1, rfl⟩)
  imm := by
    rintro b (hb | ⟨t, _, hl, rfl⟩)
    · exact .inl hb
    · exact .inr (.inl (.inr ⟨t, hl, rfl⟩))

end Go.Sy

/-! Memory is made and written: what that does to a symbolic state. -/
namespace Go.Sy

theorem Acc.lt {g : G} {w : World} (hw : WF g w) {o : Own} {b off n c : Nat} (h : Acc g w o b off n c) : b < w.heap.size := by
  cases o with
  | imm => exact hw.ilt b h.1
  | rd => exact hw.ilt b h
  | own t => rcases h with ⟨h1, rfl, _⟩ | ⟨h, _⟩ <;> first | exact hw.llt t h1 | exact hw.ilt b h.1
  | vw t => rcases h with h | ⟨h1, rfl, _⟩ <;> first | exact hw.ilt b h.1 | exact hw.llt t h1

/-- 'w' with one block more. -/
structure Made (w w' : World) (o : Obj) : Prop where
  os : w'.os = w.os
  tape : w'.tape = w.tape
  output : w'.output = w.output
  size : w'.heap.size = w.heap.size + 1
  old : ∀ b, b < w.heap.size → w'.heap[b]? = w.heap[b]?
  new : w'.heap[w.heap.size]? = some o

theorem Made.alloc (w : World) (o : Obj) : Made w (w.alloc o) o :=
  ⟨rfl, rfl, rfl, by show (w.heap.push o).size = _; simp, fun b hb => by show (w.heap.push o)[b]? = _; rw [Array.getElem?_push, if_neg (by omega)], by show (w.heap.push o)[w.heap.size]? = _; simp⟩
theorem Made.drew (w : World) (o : Obj) : Made w (w.drew.alloc o) o := Made.alloc w o |> fun h => ⟨h.os, h.tape, h.output, h.size, h.old, h.new⟩

def G.addD (g : G) (d b : Nat) : G := { g with μ := fun i => if i = d then b else g.μ i, D := fun i => g.D i ∨ i = d }
def G.addL (g : G) (u : Tk) (b f : Nat) : G := { g with ν := fun t => if t = u then b else g.ν t, fr := fun t => if t = u then f else g.fr t, L := fun t => g.L t ∨ t = u }

section
variable {g g1 : G} {w w' : World} {F : Own → Option Own} {p : Nat → Option Nat} {o : Obj}

theorem Turns.addD (ht : Turns g w g1 w F p) (hw : WF g w) (hw1 : WF g1 w) (hm : Made w w' o) {d : Nat} (hp : ∀ i, p i ≠ some d) : Turns g w (g1.addD d w.heap.size) w' F p where
  lax := ht.lax
  rr := ht.rr
  imm := fun b hb => ⟨(ht.imm b hb).1, hm.old _ (hw.ilt b hb)⟩
  acc := by
    intro q q' b off n c hF ha
    obtain ⟨h1, h2⟩ := ht.acc q q' b off n c hF ha
    have hb := h1.lt hw1
    have hsame := hm.old _ hb
    refine ⟨?_, fun k _ _ => cell_of_heap hsame⟩
    cases q' with
    | imm => exact h1
    | rd => exact h1
    | own t =>
      rcases h1 with ⟨a1, a2, a3, a4⟩ | h
      · exact .inl ⟨a1, a2, a3, a4.same hsame⟩
      · exact .inr h
    | vw t => exact h1
  ptr := fun i j hj => by
    have : j ≠ d := fun e => hp i (e ▸ hj)
    show (if j = d then _ else _) = _
    rw [if_neg this]; exact ht.ptr i j hj

theorem WF.addD (h : WF g w) (hm : Made w w' o) {d : Nat} (hd : ¬ g.D d) : WF (g.addD d w.heap.size) w' := by
  have hs := hm.size
  have hμ : ∀ i, g.D i → (g.addD d w.heap.size).μ i = g.μ i := fun i hi => by
    show (if i = d then _ else _) = _
    rw [if_neg (show ¬ i = d from fun e => hd (e ▸ hi))]
  have hμd : (g.addD d w.heap.size).μ d = w.heap.size := by show (if d = d then _ else _) = _; rw [if_pos rfl]
  refine ⟨?_, fun t ht => ?_, fun b hb => ?_, ?_, h.linj, ?_, ?_, h.li, h.glob.mono (fun b hb => ⟨hb, hm.old _ (h.ilt b hb)⟩) rfl, h.ri⟩
  · rintro i (hi | rfl)
    · rw [hμ i hi, hs]; exact Nat.lt_succ_of_lt (h.dlt i hi)
    · rw [hμd, hs]; exact Nat.lt_succ_self _
  · rw [hs]; exact Nat.lt_succ_of_lt (h.llt t ht)
  · rw [hs]; exact Nat.lt_succ_of_lt (h.ilt b hb)
  · rintro i j (hi | rfl) (hj | rfl) he
    · rw [hμ i hi, hμ j hj] at he; exact h.dinj i j hi hj he
    · rw [hμ i hi, hμd] at he; have := h.dlt i hi; omega
    · rw [hμ j hj, hμd] at he; have := h.dlt j hj; omega
    · rfl
  · rintro i t (hi | rfl) ht
    · rw [hμ i hi]; exact h.dl i t hi ht
    · rw [hμd]; have := h.llt t ht; show _ ≠ g.ν t; omega
  · rintro i (hi | rfl)
    · rw [hμ i hi]; exact h.di i hi
    · rw [hμd]; exact fun hb => by have := h.ilt _ hb; omega

theorem Ext.addD (hm : Made w w' o) {d : Nat} (hd1 : d < 100000) (hd : ¬ g.D d) : Ext g w (g.addD d w.heap.size) w' := by
  refine ⟨hm.os, hm.tape, hm.output, by rw [hm.size]; omega, fun b hb _ => hm.old _ hb, ?_, fun b hb => .inl hb, fun i hi => ⟨if_neg (by omega), .inl⟩, rfl⟩
  rintro b (⟨i, hi | rfl, rfl⟩ | ⟨t, ht, rfl⟩)
  · refine .inl (.inl ⟨i, hi, ?_⟩)
    show _ = (if i = d then _ else _); rw [if_neg (show ¬ i = d from fun e => hd (e ▸ hi))]
  · refine .inr ?_
    show _ ≤ (if i = i then _ else _); rw [if_pos rfl]; exact Nat.le_refl _
  · exact .inl (.inr ⟨t, ht, rfl⟩)

theorem Turns.addL (ht : Turns g w g1 w F p) (hw : WF g w) (hw1 : WF g1 w) (hm : Made w w' o) {u : Tk} {f : Nat} (hF : ∀ q, F q ≠ some (.own u) ∧ F q ≠ some (.vw u)) : Turns g w (g1.addL u w.heap.size f) w' F p where
  lax := ht.lax
  rr := ht.rr
  imm := fun b hb => ⟨(ht.imm b hb).1, hm.old _ (hw.ilt b hb)⟩
  acc := by
    intro q q' b off n c hq ha
    obtain ⟨h1, h2⟩ := ht.acc q q' b off n c hq ha
    have hb := h1.lt hw1
    have hsame := hm.old _ hb
    refine ⟨?_, fun k _ _ => cell_of_heap hsame⟩
    cases q' with
    | imm => exact h1
    | rd => exact h1
    | own t =>
      have hne : t ≠ u := fun e => (hF q).1 (e ▸ hq)
      rcases h1 with ⟨a1, a2, a3, a4⟩ | h
      · refine .inl ⟨.inl a1, ?_, ?_, a4.same hsame⟩
        · show _ = (if t = u then _ else _); rw [if_neg hne]; exact a2
        · show _ = (if t = u then _ else _); rw [if_neg hne]; exact a3
      · exact .inr h
    | vw t =>
      have hne : t ≠ u := fun e => (hF q).2 (e ▸ hq)
      rcases h1 with h | ⟨a1, a2, a3⟩
      · exact .inl h
      · refine .inr ⟨.inl a1, ?_, ?_⟩
        · show _ = (if t = u then _ else _); rw [if_neg hne]; exact a2
        · show _ ≤ (if t = u then _ else _); rw [if_neg hne]; exact a3
  ptr := ht.ptr

theorem WF.addL (h : WF g w) (hm : Made w w' o) {u : Tk} (hu : ¬ g.L u) (f : Nat) : WF (g.addL u w.heap.size f) w' := by
  have hs := hm.size
  have hν : ∀ t, g.L t → (g.addL u w.heap.size f).ν t = g.ν t := fun t ht => by
    show (if t = u then _ else _) = _
    rw [if_neg (show ¬ t = u from fun e => hu (e ▸ ht))]
  have hνu : (g.addL u w.heap.size f).ν u = w.heap.size := by show (if u = u then _ else _) = _; rw [if_pos rfl]
  refine ⟨fun i hi => ?_, ?_, fun b hb => ?_, h.dinj, ?_, ?_, h.di, ?_, h.glob.mono (fun b hb => ⟨hb, hm.old _ (h.ilt b hb)⟩) rfl, h.ri⟩
  · rw [hs]; exact Nat.lt_succ_of_lt (h.dlt i hi)
  · rintro t (ht | rfl)
    · rw [hν t ht, hs]; exact Nat.lt_succ_of_lt (h.llt t ht)
    · rw [hνu, hs]; exact Nat.lt_succ_self _
  · rw [hs]; exact Nat.lt_succ_of_lt (h.ilt b hb)
  · rintro i j (hi | rfl) (hj | rfl) he
    · rw [hν i hi, hν j hj] at he; exact h.linj i j hi hj he
    · rw [hν i hi, hνu] at he; have := h.llt i hi; omega
    · rw [hν j hj, hνu] at he; have := h.llt j hj; omega
    · rfl
  · rintro i t hi (ht | rfl)
    · rw [hν t ht]; exact h.dl i t hi ht
    · rw [hνu]; have := h.dlt i hi; show g.μ i ≠ _; omega
  · rintro t (ht | rfl)
    · rw [hν t ht]; exact h.li t ht
    · rw [hνu]; exact fun hb => by have := h.ilt _ hb; omega

theorem Ext.addL (hm : Made w w' o) {u : Tk} (hu : ¬ g.L u) (f : Nat) : Ext g w (g.addL u w.heap.size f) w' := by
  refine ⟨hm.os, hm.tape, hm.output, by rw [hm.size]; omega, fun b hb _ => hm.old _ hb, ?_, fun b hb => .inl hb, fun _ _ => ⟨rfl, fun h => h⟩, rfl⟩
  rintro b (⟨i, hi, rfl⟩ | ⟨t, ht | rfl, rfl⟩)
  · exact .inl (.inl ⟨i, hi, rfl⟩)
  · refine .inl (.inr ⟨t, ht, ?_⟩)
    show _ = (if t = u then _ else _); rw [if_neg (show ¬ t = u from fun e => hu (e ▸ ht))]
  · refine .inr ?_
    show _ ≤ (if t = t then _ else _); rw [if_pos rfl]; exact Nat.le_refl _
end

/-- The names that are free for what slot d makes. -/
def offTk (d : Nat) : Tk → Option Tk
  | .loc n => if n = d then none else some (.loc n)
  | .cell id off => if id = d then none else some (.cell id off)
  | .wk n => if n = d then none else some (.wk n)
def offId (d : Nat) (i : Nat) : Option Nat := if i = d then none else some i

theorem offTk_inj {d : Nat} {t u : Tk} (h : offTk d t = some u) : u = t := by
  cases t <;> simp only [offTk] at h <;> split at h <;> cases h <;> rfl
theorem offTk_ne {d : Nat} {t : Tk} {n : Nat} (h : offTk d t = some (.loc n)) : n ≠ d := by
  cases t <;> simp only [offTk] at h <;> split at h <;> cases h; assumption
theorem offTk_ne' {d : Nat} {t : Tk} {n f : Nat} (h : offTk d t = some (.cell n f)) : n ≠ d := by
  cases t <;> simp only [offTk] at h <;> split at h <;> cases h; assumption
theorem offId_eq {d i j : Nat} (h : offId d i = some j) : j = i ∧ i ≠ d := by
  simp only [offId] at h; split at h <;> cases h; exact ⟨rfl, by assumption⟩

theorem inj_off (d : Nat) : Inj (offTk d) (offId d) :=
  ⟨fun _ _ _ h1 h2 => (offTk_inj h1).symm.trans (offTk_inj h2), fun _ _ _ h1 h2 => (offId_eq h1).1.symm.trans (offId_eq h2).1, fun _ _ h hw => (offTk_inj h) ▸ hw⟩

end Go.Sy

/-! New objects, new rows, stores, appends. -/
namespace Go.Sy

def St.addO (st : St) (d : Nat) (ob : Ob) : St := { st with heap := (d, ob) :: st.heap }

theorem Sim.newOb {g : G} {st : St} {a : Act} {w w' : World} (h : Sim g st a w) (hw : WF g w) {cs : Array Value} {T : TypeId} (hm : Made w w' (.cells cs T (0, 0))) {xs : List PV} (hl : cs.size = xs.length)
    (hx : ∀ (i : Nat) (x : PV) (u : Value), xs[i]? = some x → cs[i]? = some u → Rep g w x u) {ρ : Tk → Option Tk} {p : Nat → Option Nat} (hi : Inj ρ p) (hx2 : ∀ i, 100000 ≤ i → p i = some i) {d : Nat} (hd1 : d < 100000) (hp : ∀ i, p i ≠ some d) :
    ∃ g', Sim g' ((st.scrub (Fren ρ) p).addO d (.cells (PV.scrubL (Fren ρ) p xs))) a w' ∧ WF g' w' ∧ Ext g w g' w' ∧ g'.μ d = w.heap.size ∧ Turns g w g' w' (Fren ρ) p := by
  have hw1 := hw.ren hi
  have hnd : ¬ (g.ren ρ p).D d := fun ⟨i, hpi, _⟩ => hp i hpi
  have ht := (Turns.ren (g := g) hi w).addD hw hw1 hm hp
  have hs := h.turn ht fun i j hpij hd => ⟨.inl ⟨i, hpij, hd⟩, by
    rw [ht.ptr i j hpij]
    exact hm.old _ (hw.dlt i hd)⟩
  have hμd : ((g.ren ρ p).addD d w.heap.size).μ d = w.heap.size := by show (if d = d then _ else _) = _; rw [if_pos rfl]
  refine ⟨_, ⟨hs.regs, hs.nt, fun id ob ho => ?_⟩, hw1.addD hm hnd, (Ext.ren hi hx2 w).trans (Ext.addD hm hd1 hnd), hμd, ht⟩
  simp only [St.addO, getO] at ho
  by_cases e : d = id
  · subst e
    rw [if_pos rfl] at ho
    cases ho
    refine ⟨.inr rfl, cs, T, by rw [hμd]; exact hm.new, by simp [scrubL_eq, hl], fun i x u hx' hu => ?_⟩
    rw [scrubL_eq, List.getElem?_map, Option.map_eq_some_iff] at hx'
    obtain ⟨y, hy, rfl⟩ := hx'
    exact (hx i y u hy hu).scrub ht
  · rw [if_neg e] at ho; exact hs.heap id ob ho

theorem getO_setO (h : List (Nat × Ob)) (id : Nat) (y : Ob) (k : Nat) (ob : Ob) (ho : getO (setO h id y) k = some ob) : (k = id ∧ ob = y) ∨ (k ≠ id ∧ getO h k = some ob) := by
  induction h with
  | nil => simp [setO, getO] at ho
  | cons c r ih =>
    obtain ⟨q, z⟩ := c
    simp only [setO] at ho
    by_cases e : q = id
    · rw [if_pos e] at ho
      simp only [getO] at ho
      by_cases e2 : q = k
      · rw [if_pos e2] at ho; cases ho; exact .inl ⟨e2 ▸ e, rfl⟩
      · rw [if_neg e2] at ho; exact .inr ⟨fun e3 => e2 (e.trans e3.symm), by simp only [getO]; rw [if_neg e2]; exact ho⟩
    · rw [if_neg e] at ho
      simp only [getO] at ho
      by_cases e2 : q = k
      · rw [if_pos e2] at ho; cases ho; exact .inr ⟨fun e3 => e (e2.trans e3), by simp only [getO]; rw [if_pos e2]⟩
      · rw [if_neg e2] at ho
        rcases ih ho with h1 | ⟨h1, h2⟩
        · exact .inl h1
        · exact .inr ⟨h1, by simp only [getO]; rw [if_neg e2]; exact h2⟩

theorem id_scrub_fn : (∀ x : PV, x.scrub some some = x) ∧ ∀ xs : List PV, PV.scrubL some some xs = xs := by
  refine ⟨fun x => ?_, fun xs => ?_⟩
  · exact PV.rec (motive_1 := fun x => x.scrub some some = x) (motive_2 := fun xs => PV.scrubL some some xs = xs)
      (fun _ => by simp only [PV.scrub]) (by simp only [PV.scrub]) (fun _ _ _ _ _ => by simp only [PV.scrub]) (fun _ _ => by simp only [PV.scrub]) (fun _ _ _ => by simp only [PV.scrub])
      (fun _ h => by simp only [PV.scrub, h]) (fun _ h => by simp only [PV.scrub, h]) (fun _ _ _ h1 h2 => by simp only [PV.scrub, h1, h2]) (fun _ => by simp only [PV.scrub]) (fun _ => by simp only [PV.scrub])
      rfl (fun _ _ h1 h2 => by simp only [PV.scrubL, h1, h2]) x
  · exact PV.rec_1 (motive_1 := fun x => x.scrub some some = x) (motive_2 := fun xs => PV.scrubL some some xs = xs)
      (fun _ => by simp only [PV.scrub]) (by simp only [PV.scrub]) (fun _ _ _ _ _ => by simp only [PV.scrub]) (fun _ _ => by simp only [PV.scrub]) (fun _ _ _ => by simp only [PV.scrub])
      (fun _ h => by simp only [PV.scrub, h]) (fun _ h => by simp only [PV.scrub, h]) (fun _ _ _ h1 h2 => by simp only [PV.scrub, h1, h2]) (fun _ => by simp only [PV.scrub]) (fun _ => by simp only [PV.scrub])
      rfl (fun _ _ h1 h2 => by simp only [PV.scrubL, h1, h2]) xs

theorem id_scrub_R (r : List (Nat × PV)) : scrubR some some r = r := by
  induction r with
  | nil => rfl
  | cons c r ih => obtain ⟨k, x⟩ := c; simp only [scrubR, ih, id_scrub_fn.1]
theorem id_scrub_ob (ob : Ob) : ob.scrub some some = ob := by
  cases ob with
  | cells xs => simp only [Ob.scrub, id_scrub_fn.2]
  | map es => simp [Ob.scrub, scrubM, id_scrub_fn.1]
  | loop rs n cd s j => simp only [Ob.scrub, id_scrub_R]
  | ghost rs vs => simp only [Ob.scrub, id_scrub_R]

theorem id_scrub_st (st : St) : st.scrub some some = st := by
  have h1 : ∀ r : List (Nat × PV), scrubR some some r = r := fun r => by
    induction r with
    | nil => rfl
    | cons c r ih => obtain ⟨k, x⟩ := c; simp only [scrubR, ih, id_scrub_fn.1]
  have h2 : ∀ r : List (Nat × Ob), scrubO some some r = r := fun r => by
    induction r with
    | nil => rfl
    | cons c r ih => obtain ⟨k, x⟩ := c; simp only [scrubO, ih, id_scrub_ob]
  simp only [St.scrub, h1, h2]

theorem heap_setCell {w : World} {a : Addr} {u : Value} {b : Nat} (h : b ≠ a.block) : (w.setCell a u).heap[b]? = w.heap[b]? := Go.RowKit.Below.heap_setCell w a u b h

/-- A store into an object. -/
theorem Turns.setD {g : G} {w : World} (hw : WF g w) {id off : Nat} (hd : g.D id) (v : Value) : Turns g w g (w.setCell ⟨g.μ id, off, none⟩ v) some some where
  lax := lax_some
  rr := rfl
  imm := fun b hb => ⟨hb, heap_setCell fun e => hw.di id hd ((show b = g.μ id from e) ▸ hb)⟩
  acc := by
    intro o o' b off' n c hF ha
    cases hF
    have hne : b ≠ g.μ id := by
      cases o with
      | imm => exact fun e => hw.di id hd (e ▸ ha.1)
      | rd => exact fun e => hw.di id hd (e ▸ ha)
      | own t =>
        rcases ha with ⟨h1, h2, _⟩ | ⟨h, _⟩
        · exact fun e => hw.dl id t hd h1 (e.symm.trans h2)
        · exact fun e => hw.di id hd (e ▸ h.1)
      | vw t =>
        rcases ha with h | ⟨h1, h2, _⟩
        · exact fun e => hw.di id hd (e ▸ h.1)
        · exact fun e => hw.dl id t hd h1 (e.symm.trans h2)
    have hsame := heap_setCell (w := w) (a := ⟨g.μ id, off, none⟩) (u := v) hne
    refine ⟨?_, fun k _ _ => cell_of_heap hsame⟩
    cases o with
    | imm => exact ha
    | rd => exact ha
    | own t =>
      rcases ha with ⟨a1, a2, a3, a4⟩ | h
      · exact .inl ⟨a1, a2, a3, a4.same hsame⟩
      · exact .inr h
    | vw t => exact ha
  ptr := fun i j h => by cases h; rfl

theorem size_setCell (w : World) (a : Addr) (u : Value) : (w.setCell a u).heap.size = w.heap.size := by simp [World.setCell]

theorem WF.sameSize {g : G} {w w' : World} (h : WF g w) (hs : w'.heap.size = w.heap.size) (hI : ∀ b, g.I b → w'.heap[b]? = w.heap[b]?) : WF g w' :=
  ⟨fun i hi => hs ▸ h.dlt i hi, fun t ht => hs ▸ h.llt t ht, fun b hb => hs ▸ h.ilt b hb, h.dinj, h.linj, h.dl, h.di, h.li, h.glob.mono (fun b hb => ⟨hb, hI b hb⟩) rfl, h.ri⟩

def St.setOb (st : St) (id : Nat) (ob : Ob) : St := { st with heap := setO st.heap id ob }

theorem Sim.store {g : G} {st : St} {a : Act} {w : World} (h : Sim g st a w) (hw : WF g w) {id off : Nat} {xs : List PV} (ho : getO st.heap id = some (.cells xs)) (hlt : off < xs.length) {x : PV} {v : Value} (hx : Rep g w x v) :
    Sim g (st.setOb id (.cells (xs.set off x))) a (w.setCell ⟨g.μ id, off, none⟩ v) ∧ WF g (w.setCell ⟨g.μ id, off, none⟩ v) ∧ Ext g w g (w.setCell ⟨g.μ id, off, none⟩ v) ∧
      (∃ u, w.cell? ⟨g.μ id, off, none⟩ = some u) ∧ w.frozen? ⟨g.μ id, off, none⟩ = false := by
  obtain ⟨hd, cs, T, hb, hl, hr⟩ := h.heap id _ ho
  have ht := Turns.setD hw hd (off := off) v
  have hrep : ∀ {y : PV} {u : Value}, Rep g w y u → Rep g (w.setCell ⟨g.μ id, off, none⟩ v) y u := fun {y u} hy => by
    have := hy.scrub ht
    rwa [id_scrub_fn.1] at this
  have hnew : (w.setCell ⟨g.μ id, off, none⟩ v).heap[g.μ id]? = some (.cells (cs.setIfInBounds off v) T (0, 0)) := by
    show (w.heap.modify _ _)[g.μ id]? = _
    rw [Array.getElem?_modify, if_pos rfl, hb]; rfl
  refine ⟨⟨fun s => hrep (h.regs s), h.nt, fun k ob hk => ?_⟩, hw.sameSize (size_setCell _ _ _) (fun b hb => (ht.imm b hb).2), ⟨rfl, rfl, rfl, by rw [size_setCell]; exact Nat.le_refl _, fun b _ hbo => heap_setCell fun e => hbo (.inl ⟨id, hd, (show b = g.μ id from e).symm⟩), fun b hb => .inl hb, fun b hb => .inl hb, fun _ _ => ⟨rfl, fun h => h⟩, rfl⟩, ?_, ?_⟩
  · rcases getO_setO _ _ _ _ _ hk with ⟨rfl, rfl⟩ | ⟨hne, hk'⟩
    · refine ⟨hd, _, T, hnew, by simp [hl], fun i y u hy hu => ?_⟩
      rw [List.getElem?_set] at hy
      rw [Array.getElem?_setIfInBounds] at hu
      by_cases e : off = i
      · subst e
        rw [if_pos rfl, if_pos hlt] at hy
        rw [if_pos rfl, if_pos (hl ▸ hlt)] at hu
        cases hy; cases hu; exact hrep hx
      · rw [if_neg e] at hy hu
        exact hrep (hr i y u hy hu)
    · have hk2 := h.heap k ob hk'
      have := hk2.turn ht fun hd2 => ⟨hd2, heap_setCell fun e => hne (hw.dinj k id hd2 hd e)⟩
      rwa [id_scrub_ob] at this
  · have : off < cs.size := hl ▸ hlt
    exact ⟨cs[off], by simp [World.cell?, hb, this]⟩
  · simp [World.frozen?, hb]
end Go.Sy

/-! append onto a row of the run's own. -/
namespace Go.Sy

def Fkill (t : Tk) : Own → Option Own
  | .imm => some .imm
  | .own u => if u = t then none else some (.own u)
  | .vw u => some (.vw u)
  | .rd => some .rd

theorem lax_kill (t : Tk) : ∀ o o' : Own, Fkill t o = some o' → o.lax = true → o'.lax = true := fun o o' h hl => by
  cases o with
  | imm => simp only [Fkill, Option.some.injEq] at h; subst h; rfl
  | rd => simp only [Fkill, Option.some.injEq] at h; subst h; rfl
  | own u => simp only [Fkill] at h; split at h <;> cases h; exact hl
  | vw u => simp only [Fkill, Option.some.injEq] at h; subst h; exact hl

def rowVals (U : Nat → Nat → Value) (s n : Nat) : List Value := (List.range (n * s)).map fun k => U (k / s) (k % s)

theorem rowVals_length (U : Nat → Nat → Value) (s n : Nat) : (rowVals U s n).length = n * s := by simp [rowVals]

theorem rowVals_at (U : Nat → Nat → Value) {s n j i : Nat} (hj : j < n) (hi : i < s) : (rowVals U s n)[j * s + i]? = some (U j i) := by
  have h1 : j * s + i < n * s := by
    have : j * s + s ≤ n * s := by rw [← Nat.succ_mul]; exact Nat.mul_le_mul_right s hj
    omega
  have h2 : (j * s + i) / s = j := by rw [Nat.mul_comm]; rw [Nat.mul_add_div (by omega), Nat.div_eq_of_lt hi]; rfl
  have h3 : (j * s + i) % s = i := by rw [Nat.mul_comm, Nat.mul_add_mod, Nat.mod_eq_of_lt hi]
  unfold rowVals
  rw [List.getElem?_map, List.getElem?_range h1]
  simp only [Option.map_some, h2, h3]

theorem rowVals_get (U : Nat → Nat → Value) {s n k : Nat} {u : Value} (h : (rowVals U s n)[k]? = some u) : k < n * s ∧ 0 < s ∧ k / s < n ∧ k % s < s ∧ u = U (k / s) (k % s) ∧ k = k / s * s + k % s := by
  have hk : k < n * s := by have := (List.getElem?_eq_some_iff.1 h).1; rwa [rowVals_length] at this
  have hs : 0 < s := by rcases Nat.eq_zero_or_pos s with e | e; · subst e; omega
                        · exact e
  unfold rowVals at h
  rw [List.getElem?_map, List.getElem?_range hk] at h
  exact ⟨hk, hs, Nat.div_lt_of_lt_mul (by rwa [Nat.mul_comm]), Nat.mod_lt _ hs, by simpa using h.symm, by have := Nat.div_add_mod k s; rw [Nat.mul_comm] at this; exact this.symm⟩

structure PSrc (P : Program) (g : G) (w : World) (s : Nat) (tx : TypeId) (v : Value) (ys : List PV) (V : Nat → Nat → Value) : Prop where
  src : Src P s tx v ys.length (rowVals V s ys.length) w
  rep : ∀ (j : Nat) (y : PV), ys[j]? = some y → ∀ (i : Nat) (z : PV), y.comps[i]? = some z → Rep g w z (V j i)
  data : ∀ y, y ∈ ys → Data y
  width : ∀ y, y ∈ ys → y.comps.length = s

theorem addr_add (b off k : Nat) : (⟨b, off, none⟩ : Addr).add k = ⟨b, off + k, none⟩ := by unfold Addr.add; split <;> simp_all

theorem row_cells {w : World} {xs : List PV} {s b off : Nat} {U : Nat → Nat → Value} (hcell : ∀ (j : Nat) (x : PV), xs[j]? = some x → ∀ i, i < s → w.cell? ⟨b, off + j * s + i, none⟩ = some (U j i)) :
    ∀ k u, (rowVals U s xs.length)[k]? = some u → w.cell? ((⟨b, off, none⟩ : Addr).add k) = some u := by
  intro k u hk
  obtain ⟨_, _, h3, h4, rfl, h6⟩ := rowVals_get U hk
  have h7 : off + k = off + k / s * s + k % s := by rw [Nat.add_assoc, ← h6]
  rw [addr_add, h7]
  exact hcell (k / s) _ (List.getElem?_eq_getElem h3) (k % s) h4

theorem row_one {g : G} {w : World} {xs : List PV} {s : Nat} {U : Nat → Nat → Value} (hd : ∀ x, x ∈ xs → Data x) (hs : ∀ x, x ∈ xs → x.comps.length = s)
    (hrep : ∀ (j : Nat) (x : PV), xs[j]? = some x → ∀ (i : Nat) (y : PV), x.comps[i]? = some y → Rep g w y (U j i)) : ∀ u ∈ rowVals U s xs.length, u.oneCell' = true := by
  intro u hu
  obtain ⟨k, hk⟩ := List.getElem?_of_mem hu
  obtain ⟨_, _, h3, h4, rfl, _⟩ := rowVals_get U hk
  have hx := List.getElem?_eq_getElem h3
  have hm := mem_of_get hx
  have hy := List.getElem?_eq_getElem (l := (xs[k / s]).comps) (i := k % s) (by rw [hs _ hm]; exact h4)
  exact (hrep _ _ hx _ _ hy).one ((hd _ hm).comp hy) ((hd _ hm).comp_flat hy)

theorem PSrc.of_sl {P : Program} {g : G} {w : World} {o : Own} {nl : Bool} {s : Nat} {ys : List PV} {v : Value} (h : Rep g w (.sl o nl s ys) v) {tx e' : TypeId} (ht : P.underlying tx = some (.slice e')) : ∃ V, PSrc P g w s tx v ys V := by
  cases h with
  | nils => exact ⟨fun _ _ => .nilFunc, ⟨by simpa [rowVals] using Src.ofNil (w := w) (size := s) ht 0, fun _ _ h => by simp at h, fun _ h => by simp at h, fun _ h => by simp at h⟩⟩
  | sle o s a hl => exact ⟨fun _ _ => .nilFunc, ⟨by
      have := Src.ofSlice (P := P) (w := w) (size := s) ht a 0 0 [] (by simp) (fun j u h => by simp at h) (fun u h => by simp at h)
      simpa [rowVals] using this, fun _ _ h => by simp at h, fun _ h => by simp at h, fun _ h => by simp at h⟩⟩
  | sl _ _ _ b off c U hc hm hacc hd hs hcell hrep =>
    exact ⟨U, ⟨Src.ofSlice (w := w) ht ⟨b, off, none⟩ ys.length c _ (rowVals_length _ _ _) (row_cells hcell) (row_one hd hs hrep), hrep, hd, hs⟩⟩

theorem PSrc.of_str {P : Program} (g : G) (w : World) (s : ByteArray) {tx : TypeId} (ht : P.underlying tx = some .string) :
    ∃ V, PSrc P g w 1 tx (.string s) (s.data.toList.map fun b => .lit (.int .u8 b.toNat)) V := by
  refine ⟨fun j _ => (byteCells s)[j]?.getD .nilFunc, ⟨?_, fun j y hy i z hz => ?_, fun y hy => ?_, fun y hy => ?_⟩⟩
  · have e : rowVals (fun j _ => (byteCells s)[j]?.getD .nilFunc) 1 (s.data.toList.map fun b => PV.lit (.int .u8 b.toNat)).length = byteCells s := by
      apply List.ext_getElem?
      intro k
      by_cases hk : k < s.data.toList.length
      · have := rowVals_at (fun j _ => (byteCells s)[j]?.getD .nilFunc) (s := 1) (n := (s.data.toList.map fun b => PV.lit (.int .u8 b.toNat)).length) (j := k) (i := 0) (by simpa using hk) (by omega)
        simp only [Nat.mul_one, Nat.add_zero] at this
        rw [this]
        have h2 : k < (byteCells s).length := by simpa [byteCells] using hk
        rw [List.getElem?_eq_getElem h2]; rfl
      · rw [List.getElem?_eq_none (by rw [rowVals_length]; simpa using hk), List.getElem?_eq_none (by simpa [byteCells] using hk)]
    have := Src.ofString (P := P) (w := w) ht s
    rw [e]
    have e2 : (s.data.toList.map fun b => PV.lit (.int .u8 b.toNat)).length = s.size := by simp
    rw [e2]; exact this
  · rw [List.getElem?_map, Option.map_eq_some_iff] at hy
    obtain ⟨b, hb, rfl⟩ := hy
    match i, hz with
    | 0, hz =>
      simp only [PV.comps, List.getElem?_cons_zero, Option.some.injEq] at hz
      subst hz
      have : (byteCells s)[j]? = some (.int .u8 b.toNat) := by simp only [byteCells, List.getElem?_map, hb, Option.map_some]
      simp only [this, Option.getD_some]; exact .lit _
  · obtain ⟨b, _, rfl⟩ := List.mem_map.1 hy; exact .lit _ rfl
  · obtain ⟨b, _, rfl⟩ := List.mem_map.1 hy; rfl

/-! ### It grows: a new row. -/
def G.grow (g : G) (t : Tk) (b f : Nat) : G :=
  { g with ν := fun u => if u = t then b else g.ν u, fr := fun u => if u = t then f else g.fr u, L := fun u => g.L u ∨ u = t, I := fun b' => g.I b' ∨ (g.L t ∧ g.ν t = b') }

section
variable {g : G} {w w' : World} {o : Obj}

theorem Turns.grow (hw : WF g w) (hm : Made w w' o) (t : Tk) (f : Nat) : Turns g w (g.grow t w.heap.size f) w' (Fkill t) some where
  lax := lax_kill t
  rr := rfl
  imm := fun b hb => ⟨.inl hb, hm.old _ (hw.ilt b hb)⟩
  acc := by
    intro q q' b off n c hF ha
    have hb := ha.lt hw
    have hsame := hm.old _ hb
    refine ⟨?_, fun k _ _ => cell_of_heap hsame⟩
    cases q with
    | imm => simp only [Fkill, Option.some.injEq] at hF; subst hF; exact ⟨.inl ha.1, ha.2⟩
    | rd => simp only [Fkill, Option.some.injEq] at hF; subst hF; exact .inl ha
    | own u =>
      simp only [Fkill] at hF
      split at hF
      · cases hF
      · rename_i hne
        cases hF
        rcases ha with ⟨a1, a2, a3, a4⟩ | ⟨h, h'⟩
        · refine .inl ⟨.inl a1, ?_, ?_, a4.same hsame⟩
          · show _ = (if u = t then _ else _); rw [if_neg hne]; exact a2
          · show _ = (if u = t then _ else _); rw [if_neg hne]; exact a3
        · exact .inr ⟨⟨.inl h.1, h.2⟩, h'⟩
    | vw u =>
      simp only [Fkill, Option.some.injEq] at hF
      subst hF
      rcases ha with h | ⟨a1, a2, a3⟩
      · exact .inl ⟨.inl h.1, h.2⟩
      · by_cases e : u = t
        · subst e; exact .inl ⟨.inr ⟨a1, a2.symm⟩, a2 ▸ hw.rl a1⟩
        · refine .inr ⟨.inl a1, ?_, ?_⟩
          · show _ = (if u = t then _ else _); rw [if_neg e]; exact a2
          · show _ ≤ (if u = t then _ else _); rw [if_neg e]; exact a3
  ptr := fun i j h => by cases h; rfl

theorem WF.grow (h : WF g w) (hm : Made w w' o) (t : Tk) (f : Nat) : WF (g.grow t w.heap.size f) w' := by
  have hs := hm.size
  have hν : ∀ u, u ≠ t → (g.grow t w.heap.size f).ν u = g.ν u := fun u hu => by
    show (if u = t then _ else _) = _; rw [if_neg hu]
  have hνt : (g.grow t w.heap.size f).ν t = w.heap.size := by show (if t = t then _ else _) = _; rw [if_pos rfl]
  have hL : ∀ u, (g.grow t w.heap.size f).L u → u = t ∨ (u ≠ t ∧ g.L u) := fun u hu => by
    by_cases e : u = t
    · exact .inl e
    · exact .inr ⟨e, hu.resolve_right e⟩
  refine ⟨fun i hi => by rw [hs]; exact Nat.lt_succ_of_lt (h.dlt i hi), fun u hu => ?_, ?_, h.dinj, fun u v hu hv he => ?_, fun i u hi hu => ?_, ?_, fun u hu => ?_, h.glob.mono (fun b hb => ⟨.inl hb, hm.old _ (h.ilt b hb)⟩) rfl, fun b hb => .inl (h.ri b hb)⟩
  · rcases hL u hu with rfl | ⟨hne, hl⟩
    · rw [hνt, hs]; exact Nat.lt_succ_self _
    · rw [hν u hne, hs]; exact Nat.lt_succ_of_lt (h.llt u hl)
  · rintro b (hb | ⟨hl, rfl⟩)
    · rw [hs]; exact Nat.lt_succ_of_lt (h.ilt b hb)
    · rw [hs]; exact Nat.lt_succ_of_lt (h.llt t hl)
  · rcases hL u hu with rfl | ⟨hne, hl⟩ <;> rcases hL v hv with rfl | ⟨hne', hl'⟩
    · rfl
    · rw [hνt, hν v hne'] at he; have := h.llt v hl'; omega
    · rw [hνt, hν u hne] at he; have := h.llt u hl; omega
    · rw [hν u hne, hν v hne'] at he; exact h.linj u v hl hl' he
  · rcases hL u hu with rfl | ⟨hne, hl⟩
    · rw [hνt]; have := h.dlt i hi; show g.μ i ≠ _; omega
    · rw [hν u hne]; exact h.dl i u hi hl
  · rintro i hi (hb | ⟨hl, he⟩)
    · exact h.di i hi hb
    · exact h.dl i t hi hl he.symm
  · rcases hL u hu with rfl | ⟨hne, hl⟩
    · rw [hνt]
      rintro (hb | ⟨hl, he⟩)
      · have := h.ilt _ hb; omega
      · have := h.llt u hl; omega
    · rw [hν u hne]
      rintro (hb | ⟨hl', he⟩)
      · exact h.li u hl hb
      · exact hne (h.linj t u hl' hl he).symm

theorem Ext.grow (hm : Made w w' o) (t : Tk) (f : Nat) : Ext g w (g.grow t w.heap.size f) w' := by
  refine ⟨hm.os, hm.tape, hm.output, by rw [hm.size]; omega, fun b hb _ => hm.old _ hb, ?_, ?_, fun _ _ => ⟨rfl, fun h => h⟩, rfl⟩
  · rintro b (⟨i, hi, rfl⟩ | ⟨u, hu, rfl⟩)
    · exact .inl (.inl ⟨i, hi, rfl⟩)
    · by_cases e : u = t
      · subst e; refine .inr ?_
        show _ ≤ (if u = u then _ else _); rw [if_pos rfl]; exact Nat.le_refl _
      · refine .inl (.inr ⟨u, hu.resolve_right e, ?_⟩)
        show _ = (if u = t then _ else _); rw [if_neg e]
  · rintro b (hb | ⟨hl, rfl⟩)
    · exact .inl hb
    · exact .inr (.inl (.inr ⟨t, hl, rfl⟩))
end

theorem Sim.kill {g g' : G} {st : St} {a : Act} {w w' : World} {t : Tk} (h : Sim g st a w) (ht : Turns g w g' w' (Fkill t) some) (hD : ∀ i, g.D i → g'.D i ∧ w'.heap[g'.μ i]? = w.heap[g.μ i]?) : Sim g' (st.scrub (Fkill t) some) a w' :=
  h.turn ht fun i j hp hd => by cases hp; exact hD i hd

/-- The cells of a row that was laid by its elements, one behind the other, with more behind it. -/
theorem cell_row {w : World} {b : Nat} {cs : Array Value} {e : TypeId} {fz : Nat × Nat} (hb : w.heap[b]? = some (.cells cs e fz)) (k : Nat) : w.cell? ⟨b, k, none⟩ = cs[k]? := by simp [World.cell?, hb]

theorem append_vals (U V : Nat → Nat → Value) {s n m : Nat} {zs : List Value} {j i : Nat} (hj : j < n + m) (hi : i < s) :
    ((rowVals U s n ++ rowVals V s m).toArray ++ zs.toArray)[j * s + i]? = some (if j < n then U j i else V (j - n) i) := by
  have hb : j * s + s ≤ (n + m) * s := by rw [← Nat.succ_mul]; exact Nat.mul_le_mul_right s hj
  rw [List.append_toArray, List.getElem?_toArray, List.getElem?_append_left (by rw [List.length_append, rowVals_length, rowVals_length, ← Nat.add_mul]; omega)]
  by_cases h : j < n
  · rw [if_pos h]
    have : j * s + s ≤ n * s := by rw [← Nat.succ_mul]; exact Nat.mul_le_mul_right s h
    rw [List.getElem?_append_left (by rw [rowVals_length]; omega)]
    exact rowVals_at U h hi
  · rw [if_neg h]
    have : n * s ≤ j * s := Nat.mul_le_mul_right s (by omega)
    rw [List.getElem?_append_right (by rw [rowVals_length]; omega), rowVals_length]
    have e : j * s + i - n * s = (j - n) * s + i := by rw [Nat.sub_mul]; omega
    rw [e]
    exact rowVals_at V (by omega) hi

theorem row_both {g : G} {w : World} {xs ys : List PV} {U V : Nat → Nat → Value}
    (h1 : ∀ (j : Nat) (x : PV), xs[j]? = some x → ∀ (i : Nat) (y : PV), x.comps[i]? = some y → Rep g w y (U j i))
    (h2 : ∀ (j : Nat) (x : PV), ys[j]? = some x → ∀ (i : Nat) (y : PV), x.comps[i]? = some y → Rep g w y (V j i)) :
    ∀ (j : Nat) (x : PV), (xs ++ ys)[j]? = some x → ∀ (i : Nat) (y : PV), x.comps[i]? = some y → Rep g w y (if j < xs.length then U j i else V (j - xs.length) i) := by
  intro j x hx i y hy
  by_cases h : j < xs.length
  · rw [if_pos h]; rw [List.getElem?_append_left h] at hx; exact h1 j x hx i y hy
  · rw [if_neg h]; rw [List.getElem?_append_right (by omega)] at hx; exact h2 _ x hx i y hy

theorem grow_rep {g : G} {w w' : World} (hw : WF g w) {xs ys : List PV} {s : Nat} {U V : Nat → Nat → Value} {zs : List Value} {e : TypeId}
    (hm : Made w w' (.cells ((rowVals U s xs.length ++ rowVals V s ys.length).toArray ++ zs.toArray) e (0, 0)))
    (h1 : ∀ (j : Nat) (x : PV), xs[j]? = some x → ∀ (i : Nat) (y : PV), x.comps[i]? = some y → Rep g w y (U j i))
    (h2 : ∀ (j : Nat) (x : PV), ys[j]? = some x → ∀ (i : Nat) (y : PV), x.comps[i]? = some y → Rep g w y (V j i))
    (hd : ∀ x, x ∈ xs ++ ys → Data x) (hs : ∀ x, x ∈ xs ++ ys → x.comps.length = s) (t : Tk) {cap : Nat} (hc : xs.length + ys.length ≤ cap) (hml : cap ≤ maxLen) (hz : zs.length = (cap - (xs.length + ys.length)) * s) :
    Rep (g.grow t w.heap.size ((xs.length + ys.length) * s)) w' (.sl (.own t) false s (xs ++ ys)) (.slice (some ⟨w.heap.size, 0, none⟩) (xs.length + ys.length) cap) := by
  have hb := hm.new
  have hlen : (xs ++ ys).length = xs.length + ys.length := by simp
  have hsz : ((rowVals U s xs.length ++ rowVals V s ys.length).toArray ++ zs.toArray).size = cap * s := by
    simp only [Array.size_append, List.size_toArray, List.length_append, rowVals_length, hz]
    rw [← Nat.add_mul, ← Nat.add_mul]; congr 1; omega
  have := Rep.sl (g := g.grow t w.heap.size ((xs.length + ys.length) * s)) (w := w') (.own t) s (xs ++ ys) w.heap.size 0 cap (fun j i => if j < xs.length then U j i else V (j - xs.length) i) (by omega) hml
    (.inl ⟨.inr rfl, by show _ = (if t = t then _ else _); rw [if_pos rfl], by show _ = (if t = t then _ else _); rw [if_pos rfl, hlen, Nat.zero_add], _, _, _, hb, by rw [hsz]; omega, .inl rfl⟩) hd hs
    (fun j x hx i hi => by
      have hj : j < xs.length + ys.length := by have := (List.getElem?_eq_some_iff.1 hx).1; omega
      rw [cell_row hb, Nat.zero_add]
      exact append_vals U V hj hi)
    (fun j x hx i y hy => Rep.data (g' := g.grow t w.heap.size ((xs.length + ys.length) * s)) (w' := w') (fun b hb => ⟨Or.inl hb, hm.old _ (hw.ilt b hb)⟩) rfl (row_both h1 h2 j x hx i y hy) ((hd x (mem_of_get hx)).comp hy))
  rwa [hlen] at this

end Go.Sy

/-! append: whatever way it goes. -/
namespace Go.Sy

theorem heap_setCells {b : Nat} {T : TypeId} {fz : Nat × Nat} (vs : List Value) : ∀ (o : Nat) (w : World) (cs : Array Value), w.heap[b]? = some (.cells cs T fz) →
    ∃ cs', (w.setCells b o vs).heap[b]? = some (.cells cs' T fz) ∧ cs'.size = cs.size := by
  induction vs with
  | nil => exact fun o w cs h => ⟨cs, h, rfl⟩
  | cons v vs ih =>
    intro o w cs h
    have h1 : (w.setCell ⟨b, o, none⟩ v).heap[b]? = some (.cells (cs.setIfInBounds o v) T fz) := by
      show (w.heap.modify _ _)[b]? = _
      rw [Array.getElem?_modify, if_pos rfl, h]; rfl
    obtain ⟨cs', h2, h3⟩ := ih (o + 1) _ _ h1
    exact ⟨cs', h2, by simpa using h3⟩

theorem size_setCells (b : Nat) (vs : List Value) : ∀ (o : Nat) (w : World), (w.setCells b o vs).heap.size = w.heap.size := by
  induction vs with
  | nil => exact fun _ _ => rfl
  | cons v vs ih => exact fun o w => (ih (o + 1) _).trans (size_setCell _ _ _)

theorem tape_setCells (b : Nat) (vs : List Value) : ∀ (o : Nat) (w : World), (w.setCells b o vs).tape = w.tape := by
  induction vs with
  | nil => exact fun _ _ => rfl
  | cons v vs ih => exact fun o w => ih (o + 1) _

theorem other_setCells {b : Nat} (vs : List Value) : ∀ (o : Nat) (w : World) (k : Nat), k ≠ b → (w.setCells b o vs).heap[k]? = w.heap[k]? := by
  induction vs with
  | nil => exact fun _ _ _ _ => rfl
  | cons v vs ih => exact fun o w k hk => (ih (o + 1) _ k hk).trans (heap_setCell hk)

def G.far (g : G) (t : Tk) (f : Nat) : G := { g with fr := fun u => if u = t then f else g.fr u }

theorem run_append_keep {P : Program} (w : World) (t tx ty e : TypeId) (i : TypeInfo) (ht : P.underlying t = some (.slice e)) (hi : P.info? e = some i) (a : Addr) (x : Value) (hs : Src P i.size tx x 0 [] w) :
    (Builtin.append_ #[t, tx] ty #[.slice (some a) 0 0, x]).run P w = .ok (.slice (some a) 0 0) w := by
  rcases hs.kind with ⟨e', hk⟩ | hk <;> simp [Builtin.append_, run_underlying ht, run_underlying hk, sizeOf, typeInfo, hi, hs.len, hs.cells] <;> rfl

theorem Turns.far {g : G} {w : World} (hw : WF g w) {t : Tk} (hl : g.L t) {o : Nat} {vs : List Value} (hfr : g.fr t ≤ o) {f : Nat} (hf : g.fr t ≤ f) : Turns g w (g.far t f) (w.setCells (g.ν t) o vs) (Fkill t) some where
  lax := lax_kill t
  rr := rfl
  imm := fun b hb => ⟨hb, other_setCells vs o w b fun e => hw.li t hl ((show b = g.ν t from e) ▸ hb)⟩
  acc := by
    intro q q' b off n c hF ha
    cases q with
    | imm =>
      simp only [Fkill, Option.some.injEq] at hF; subst hF
      have hsame := other_setCells vs o w b fun e => hw.li t hl ((show b = g.ν t from e) ▸ (show g.I b from ha.1))
      exact ⟨ha, fun k _ _ => cell_of_heap hsame⟩
    | rd =>
      simp only [Fkill, Option.some.injEq] at hF; subst hF
      have hsame := other_setCells vs o w b fun e => hw.li t hl ((show b = g.ν t from e) ▸ (show g.I b from ha))
      exact ⟨ha, fun k _ _ => cell_of_heap hsame⟩
    | own u =>
      simp only [Fkill] at hF
      split at hF
      · cases hF
      · rename_i hne
        cases hF
        have hne' : b ≠ g.ν t := by
          rcases ha with ⟨a1, a2, _⟩ | ⟨h, _⟩
          · exact fun e => hne (hw.linj u t a1 hl (a2.symm.trans e))
          · exact fun e => hw.li t hl (e ▸ h.1)
        have hsame := other_setCells vs o w b hne'
        refine ⟨?_, fun k _ _ => cell_of_heap hsame⟩
        rcases ha with ⟨a1, a2, a3, a4⟩ | h
        · refine .inl ⟨a1, a2, ?_, a4.same hsame⟩
          show _ = (if u = t then _ else _); rw [if_neg hne]; exact a3
        · exact .inr h
    | vw u =>
      simp only [Fkill, Option.some.injEq] at hF
      subst hF
      rcases ha with h | ⟨a1, a2, a3⟩
      · have hsame := other_setCells vs o w b fun e => hw.li t hl ((show b = g.ν t from e) ▸ h.1)
        exact ⟨.inl h, fun k _ _ => cell_of_heap hsame⟩
      · by_cases e : u = t
        · subst e
          subst a2
          refine ⟨.inr ⟨a1, rfl, ?_⟩, fun k h1 h2 => World.cell?_setCells_out _ _ _ _ _ fun _ _ => .inl (by show k < o; omega)⟩
          show _ ≤ (if u = u then _ else _); rw [if_pos rfl]; omega
        · have hsame := other_setCells vs o w b fun e' => e (hw.linj u t a1 hl (a2.symm.trans e'))
          refine ⟨.inr ⟨a1, a2, ?_⟩, fun k _ _ => cell_of_heap hsame⟩
          show _ ≤ (if u = t then _ else _); rw [if_neg e]; exact a3
  ptr := fun i j h => by cases h; rfl

theorem WF.far {g : G} {w w' : World} (h : WF g w) (hs : w'.heap.size = w.heap.size) (hI : ∀ b, g.I b → w'.heap[b]? = w.heap[b]?) (t : Tk) (f : Nat) : WF (g.far t f) w' :=
  ⟨fun i hi => hs ▸ h.dlt i hi, fun u hu => hs ▸ h.llt u hu, fun b hb => hs ▸ h.ilt b hb, h.dinj, h.linj, h.dl, h.di, h.li, h.glob.mono (fun b hb => ⟨hb, hI b hb⟩) rfl, h.ri⟩

theorem Ext.far {g : G} {w : World} {t : Tk} (hl : g.L t) (o : Nat) (vs : List Value) (f : Nat) : Ext g w (g.far t f) (w.setCells (g.ν t) o vs) :=
  ⟨World.os_setCells _ _ _ _, tape_setCells _ _ _ _, World.output_setCells _ _ _ _, by rw [size_setCells]; exact Nat.le_refl _,
    fun b _ hbo => other_setCells vs o w b fun e => hbo (.inr ⟨t, hl, e.symm⟩), fun b hb => .inl hb, fun b hb => .inl hb, fun _ _ => ⟨rfl, fun h => h⟩, rfl⟩

theorem Turns.same (g : G) (w : World) (t : Tk) : Turns g w g w (Fkill t) some where
  lax := lax_kill t
  rr := rfl
  imm := fun _ h => ⟨h, rfl⟩
  acc := by
    intro q q' b off n c hF ha
    refine ⟨?_, fun _ _ _ => rfl⟩
    cases q with
    | imm => simp only [Fkill, Option.some.injEq] at hF; subst hF; exact ha
    | rd => simp only [Fkill, Option.some.injEq] at hF; subst hF; exact ha
    | own u => simp only [Fkill] at hF; split at hF <;> cases hF; exact ha
    | vw u => simp only [Fkill, Option.some.injEq] at hF; subst hF; exact ha
  ptr := fun i j h => by cases h; rfl

theorem run_append_nil_none {P : Program} {w : World} {T tx ty e : TypeId} {i : TypeInfo} (ht : P.underlying T = some (.slice e)) (hi : P.info? e = some i) {v : Value} {news : List Value} (hs : Src P i.size tx v 0 news w) :
    (Builtin.append_ #[T, tx] ty #[.slice none 0 0, v]).run P w = .ok (.slice none 0 0) w := by
  rcases hs.kind with ⟨e', hk⟩ | hk <;> simp [Builtin.append_, run_underlying ht, run_underlying hk, sizeOf, typeInfo, hi, hs.len, hs.cells]

theorem append_run {P : Program} {T tx ty e : TypeId} {i : TypeInfo} {z : Value} (ht : P.underlying T = some (.slice e)) (hi : P.info? e = some i) (hz : i.zero = some z) (hzs : z.cells.size = i.size) (hs0 : 0 < i.size)
    {g : G} {st : St} {a : Act} {w : World} (hsim : Sim g st a w) (hw : WF g w) {t : Tk} {nl : Bool} {xs ys : List PV} {u v : Value} (hx : Rep g w (.sl (.own t) nl i.size xs) u) {V : Nat → Nat → Value}
    (hsrc : PSrc P g w i.size tx v ys V) (hbd : (xs.length + ys.length) * i.bytes ≤ 140737488355328) (hml : xs.length + ys.length ≤ maxLen) :
    ∃ r w' g', (Builtin.append_ #[T, tx] ty #[u, v]).run P w = .ok r w' ∧ Sim g' (st.scrub (Fkill t) some) a w' ∧ WF g' w' ∧ Ext g w g' w' ∧ Rep g' w' (.sl (.own t) (nl && ys.isEmpty) i.size (xs ++ ys)) r := by
  have hml' : xs.length + ys.length ≤ 9223372036854775807 := by simp only [maxLen] at hml; omega
  -- it grows
  have grows : ∀ (base : Option Addr) (c : Nat) (U : Nat → Nat → Value), u = .slice base xs.length c → c < xs.length + ys.length →
      (∀ (j : Nat) (x : PV), xs[j]? = some x → ∀ (k : Nat) (y : PV), x.comps[k]? = some y → Rep g w y (U j k)) → (∀ x, x ∈ xs → Data x) → (∀ x, x ∈ xs → x.comps.length = i.size) →
      (Builtin.firstCells i.size xs.length (.slice base xs.length c)).run P w.drew = .ok (rowVals U i.size xs.length).toArray w.drew → (nl && ys.isEmpty) = false →
      ∃ r w' g', (Builtin.append_ #[T, tx] ty #[u, v]).run P w = .ok r w' ∧ Sim g' (st.scrub (Fkill t) some) a w' ∧ WF g' w' ∧ Ext g w g' w' ∧ Rep g' w' (.sl (.own t) (nl && ys.isEmpty) i.size (xs ++ ys)) r := by
    intro base c U hu hc hrep hd hs hfirst hnl
    have hrun := run_append_grow_src (P := P) w T tx ty e i z ht hi hz base xs.length c (rowVals U i.size xs.length) hfirst v ys.length _ hsrc.src hc (by omega) (growslice_fits hc hbd)
    have hge := grownCap_ge w (xs.length + ys.length) c e
    have hle := grownCap_le_maxLen w (xs.length + ys.length) c e hml
    have hzl : (Builtin.zeroCells z.cells (grownCap w (xs.length + ys.length) c e - (xs.length + ys.length))).toList.length = (grownCap w (xs.length + ys.length) c e - (xs.length + ys.length)) * i.size := by
      rw [Array.length_toList, size_zeroCells, hzs]
    have hm : Made w (w.drew.alloc (.cells ((rowVals U i.size xs.length ++ rowVals V i.size ys.length).toArray ++ Builtin.zeroCells z.cells (grownCap w (xs.length + ys.length) c e - (xs.length + ys.length))) e))
        (.cells ((rowVals U i.size xs.length ++ rowVals V i.size ys.length).toArray ++ (Builtin.zeroCells z.cells (grownCap w (xs.length + ys.length) c e - (xs.length + ys.length))).toList.toArray) e (0, 0)) := by
      rw [Array.toArray_toList]; exact Made.drew _ _
    refine ⟨_, _, g.grow t w.heap.size ((xs.length + ys.length) * i.size), by rw [hu]; exact hrun, hsim.kill (Turns.grow hw hm t _) (fun k hk => ⟨hk, hm.old _ (hw.dlt k hk)⟩), hw.grow hm t _, Ext.grow hm t _, ?_⟩
    rw [hnl]
    exact grow_rep hw hm hrep hsrc.rep (fun x hx => (List.mem_append.1 hx).elim (hd x) (hsrc.data x)) (fun x hx => (List.mem_append.1 hx).elim (hs x) (hsrc.width x)) t hge hle hzl
  generalize hX : PV.sl (.own t) nl i.size xs = X at hx
  cases hx with
  | lit => cases hX
  | dead => cases hX
  | ptr => cases hX
  | cur => cases hX
  | agg => cases hX
  | tup => cases hX
  | fn => cases hX
  | mp => cases hX
  | yl => cases hX
  | nils o s =>
    cases hX
    cases ys with
    | nil => exact ⟨_, w, g, run_append_nil_none ht hi hsrc.src, hsim.kill (Turns.same g w t) (fun k hk => ⟨hk, rfl⟩), hw, Ext.refl g w, .nils _ _⟩
    | cons y ys =>
      exact grows none 0 (fun _ _ => .nilFunc) rfl (by simp) (fun _ _ h => by simp at h) (fun _ h => by simp at h) (fun _ h => by simp at h) (by simpa [rowVals] using run_firstCells_none w.drew i.size 0 0 0) (by simp)
  | sle o s a hlx =>
    cases hX
    cases ys with
    | nil =>
      have hnil : rowVals V i.size ([] : List PV).length = [] := by simp [rowVals]
      have hsr := hsrc.src
      rw [hnil] at hsr
      have hrun := run_append_keep w T tx ty e i ht hi a v hsr
      exact ⟨_, w, g, hrun, hsim.kill (Turns.same g w t) (fun k hk => ⟨hk, rfl⟩), hw, Ext.refl g w, .sle _ _ a hlx⟩
    | cons y ys =>
      exact grows (some a) 0 (fun _ _ => .nilFunc) rfl (by simp) (fun _ _ h => by simp at h) (fun _ h => by simp at h) (fun _ h => by simp at h)
        (by simpa [rowVals] using run_firstCells_some (P := P) w.drew i.size 0 a 0 0 [] (by simp) (fun j u h => by simp at h)) (by simp)
  | sl o s xs' b off c U hc hm hacc hd hs hcell hrep =>
    cases hX
    have hfirst : (Builtin.firstCells i.size xs.length (.slice (some ⟨b, off, none⟩) xs.length c)).run P w.drew = .ok (rowVals U i.size xs.length).toArray w.drew :=
      run_firstCells_some w.drew i.size xs.length ⟨b, off, none⟩ xs.length c _ (rowVals_length _ _ _) (row_cells (w := w.drew) hcell)
    by_cases hroom : xs.length + ys.length ≤ c
    · rcases hacc with ⟨hl, rfl, hfr, cs, T', fz, hb, hcs, hfz⟩ | ⟨hI, hcn⟩
      · have hin : ∀ j, j < (rowVals V i.size ys.length).length → off + xs.length * i.size + j < cs.size := by
          intro j hj
          rw [rowVals_length] at hj
          have : (xs.length + ys.length) * i.size ≤ c * i.size := Nat.mul_le_mul_right _ hroom
          rw [Nat.add_mul] at this
          omega
        have hthere : ∀ j, j < (rowVals V i.size ys.length).length → (w.cell? ⟨g.ν t, off + xs.length * i.size + j, none⟩).isSome = true := fun j hj => by
          rw [cell_row hb]; simp [hin j hj]
        have hrun := run_append_room_src (P := P) w T tx ty e i ht hi (g.ν t) off xs.length c v ys.length _ hsrc.src hroom hthere (fun j hj => by
          have hlt := hin j hj
          have : ¬ (fz.1 ≤ off + xs.length * i.size + j ∧ off + xs.length * i.size + j < fz.2) := by rcases hfz with h | h <;> omega
          simpa [World.frozen?, hb] using this)
        have htu := Turns.far hw hl (o := off + xs.length * i.size) (vs := rowVals V i.size ys.length) (by omega) (f := off + (xs.length + ys.length) * i.size) (by rw [← hfr, Nat.add_mul]; omega)
        refine ⟨_, _, _, hrun, hsim.kill htu (fun k hk => ⟨hk, other_setCells _ _ _ _ (hw.dl k t hk hl)⟩), hw.far (size_setCells _ _ _ _) (fun b hb => (htu.imm b hb).2) t _, Ext.far hl _ _ _, ?_⟩
        obtain ⟨cs', hb', hcs'⟩ := heap_setCells (rowVals V i.size ys.length) (off + xs.length * i.size) w cs hb
        have hlen : (xs ++ ys).length = xs.length + ys.length := by simp
        have := Rep.sl (g := g.far t (off + (xs.length + ys.length) * i.size)) (w := w.setCells (g.ν t) (off + xs.length * i.size) (rowVals V i.size ys.length)) (.own t) i.size (xs ++ ys) (g.ν t) off c
          (fun j i => if j < xs.length then U j i else V (j - xs.length) i) (by omega) hm
          (.inl ⟨hl, rfl, by show _ = (if t = t then _ else _); rw [if_pos rfl, hlen], cs', T', fz, hb', by rw [hcs']; exact hcs, by rw [hcs']; exact hfz⟩)
          (fun x hx => (List.mem_append.1 hx).elim (hd x) (hsrc.data x)) (fun x hx => (List.mem_append.1 hx).elim (hs x) (hsrc.width x))
          (fun j x hx k hk => by
            by_cases hj : j < xs.length
            · rw [if_pos hj]
              have hb2 : j * i.size + i.size ≤ xs.length * i.size := by rw [← Nat.succ_mul]; exact Nat.mul_le_mul_right _ hj
              rw [World.cell?_setCells_out _ _ _ _ _ fun _ _ => .inl (by show off + j * i.size + k < _; omega)]
              exact hcell j _ (List.getElem?_eq_getElem hj) k hk
            · rw [if_neg hj]
              have hj2 : j < xs.length + ys.length := by have := (List.getElem?_eq_some_iff.1 hx).1; omega
              have hv := rowVals_at V (s := i.size) (n := ys.length) (j := j - xs.length) (i := k) (by omega) hk
              have hlt := (List.getElem?_eq_some_iff.1 hv).1
              have hin2 := World.cell?_setCells_in (g.ν t) (rowVals V i.size ys.length) (off + xs.length * i.size) w hthere ((j - xs.length) * i.size + k) hlt
              have e1 : off + j * i.size + k = off + xs.length * i.size + ((j - xs.length) * i.size + k) := by
                have : xs.length * i.size + (j - xs.length) * i.size = j * i.size := by rw [← Nat.add_mul]; congr 1; omega
                omega
              rw [e1, hin2]
              exact (List.getElem?_eq_getElem hlt).symm.trans hv)
          (fun j x hx k y hy => Rep.data (g' := g.far t (off + (xs.length + ys.length) * i.size)) (fun b' hb' => htu.imm b' hb') rfl (row_both hrep hsrc.rep j x hx k y hy)
            (((List.mem_append.1 (mem_of_get hx)).elim (hd x) (hsrc.data x)).comp hy))
        rw [Bool.false_and]
        rwa [hlen] at this
      · have hcx : c = xs.length := Nat.eq_of_mul_eq_mul_right hs0 hcn.1
        have hy0 : ys = [] := List.eq_nil_of_length_eq_zero (by omega)
        subst hy0
        have hnil : rowVals V i.size ([] : List PV).length = [] := by simp [rowVals]
        have hsr := hsrc.src
        rw [hnil] at hsr
        have hrun := run_append_room_src (P := P) w T tx ty e i ht hi b off xs.length c v 0 [] hsr (by omega) (fun j hj => by simp at hj) (fun j hj => by simp at hj)
        refine ⟨_, w, g, hrun, hsim.kill (Turns.same g w t) (fun k hk => ⟨hk, rfl⟩), hw, Ext.refl g w, ?_⟩
        rw [List.append_nil, Bool.false_and]
        exact .sl _ _ xs b off c U hc hm (.inr ⟨hI, hcn⟩) hd hs hcell hrep
    · exact grows (some ⟨b, off, none⟩) c U rfl (by omega) hrep hd hs hfirst (by simp)
end Go.Sy

/-! The operations that make no memory, over symbolic states. -/
namespace Go.Sy

def pureOf (P : Program) {α : Type} : Sem α → Option α
  | .pure a => some a
  | .program k => pureOf P (k P)
  | .mark _ k => pureOf P k
  | _ => none

theorem pureOf_run {P : Program} {α : Type} {s : Sem α} {a : α} (h : pureOf P s = some a) (w : World) : s.run P w = .ok a w := by
  induction s with
  | pure b => simp only [pureOf, Option.some.injEq] at h; subst h; rfl
  | program k ih => exact ih P h
  | mark m k ih => exact ih h
  | load m a k ih => cases h
  | store m a v k ih => cases h
  | new o k ih => cases h
  | shape r k ih => cases h
  | freeze a n k ih => cases h
  | frozen a k ih => cases h
  | getObj r k ih => cases h
  | setObj r o k ih => cases h
  | choose q k ih => cases h
  | sys c k ih => cases h
  | halt h' => cases h

theorem pureOf_bind {P : Program} {α β : Type} (s : Sem α) (f : α → Sem β) : pureOf P (s >>= f) = (pureOf P s).bind fun a => pureOf P (f a) := by
  induction s with
  | pure b => rfl
  | program k ih => exact ih P
  | mark m k ih => exact ih
  | load m a k ih => rfl
  | store m a v k ih => rfl
  | new o k ih => rfl
  | shape r k ih => rfl
  | freeze a n k ih => rfl
  | frozen a k ih => rfl
  | getObj r k ih => rfl
  | setObj r o k ih => rfl
  | choose q k ih => rfl
  | sys c k ih => rfl
  | halt h' => rfl

def litOf : PV → Option Value
  | .lit v => some v
  | _ => none

def litsOf : List PV → Option (List Value)
  | [] => some []
  | x :: xs => match litOf x, litsOf xs with
    | some v, some vs => some (v :: vs)
    | _, _ => none

def valOf : PV → Option Value
  | .lit v => some v
  | .agg xs => (litsOf xs).map fun vs => .agg vs.toArray
  | _ => none

theorem litsOf_get {xs : List PV} {vs : List Value} (h : litsOf xs = some vs) : vs.length = xs.length ∧ ∀ (i : Nat) (x : PV) (v : Value), xs[i]? = some x → vs[i]? = some v → x = .lit v := by
  induction xs generalizing vs with
  | nil => simp only [litsOf, Option.some.injEq] at h; subst h; exact ⟨rfl, fun _ _ _ h => by simp at h⟩
  | cons x xs ih =>
    simp only [litsOf] at h
    cases hx : litOf x with
    | none => rw [hx] at h; simp at h
    | some v =>
      cases hxs : litsOf xs with
      | none => rw [hx, hxs] at h; simp at h
      | some us =>
        rw [hx, hxs] at h
        simp only [Option.some.injEq] at h
        subst h
        obtain ⟨h1, h2⟩ := ih hxs
        refine ⟨by simp [h1], fun i y u hy hu => ?_⟩
        cases i with
        | zero =>
          simp only [List.getElem?_cons_zero, Option.some.injEq] at hy hu
          subst hy; subst hu
          cases x <;> simp only [litOf, Option.some.injEq, reduceCtorEq] at hx
          rw [hx]
        | succ i => exact h2 i y u (by simpa using hy) (by simpa using hu)

theorem valOf_rep {g : G} {w : World} {x : PV} {u v : Value} (h : valOf x = some v) (hr : Rep g w x u) : u = v := by
  cases hr with
  | lit => simpa [valOf] using h
  | agg xs us hl hx =>
    simp only [valOf, Option.map_eq_some_iff] at h
    obtain ⟨vs, hvs, rfl⟩ := h
    obtain ⟨h1, h2⟩ := litsOf_get hvs
    congr 1
    apply Array.ext
    · simp [hl, h1]
    · intro i hi hi'
      have hx' := List.getElem?_eq_getElem (l := xs) (i := i) (by omega)
      have hv' := List.getElem?_eq_getElem (l := vs) (i := i) (by simpa using hi')
      have e := h2 i _ _ hx' hv'
      have := hx i _ _ hx' (Array.getElem?_eq_getElem hi)
      rw [e] at this
      rw [this.lit_inv]; simp
  | _ => simp [valOf] at h

def szOf (P : Program) (t : TypeId) : Nat := ((P.info? t).map (·.size)).getD 0

def aggT (P : Program) (t : TypeId) : Option Bool :=
  match P.underlying t with
  | some (.struct _) | some (.array _ _) => some true
  | some _ => some false
  | none => none

mutual
/-- Of a row of one's own: a part of it. -/
def PV.view : PV → PV
  | .sl (.own t) nl s xs => .sl (.vw t) nl s xs
  | .agg xs => .agg (PV.viewL xs)
  | x => x
def PV.viewL : List PV → List PV
  | [] => []
  | x :: xs => x.view :: PV.viewL xs
end

/-- A value of type t that begins with these cells. -/
def ofCells (P : Program) (t : TypeId) (xs : List PV) : Option PV :=
  match aggT P t with
  | some true => if szOf P t ≤ xs.length then some (.agg (xs.take (szOf P t))) else none
  | some false => xs[0]?
  | none => none

def St.cellsAt (st : St) : PV → Option (List PV)
  | .ptr id off => match getO st.heap id with
    | some (.cells xs) => some (xs.drop off)
    | _ => none
  | .cur _ xs => some xs
  | _ => none

theorem Acc.toVw {g : G} {w : World} {t : Tk} {b off n c : Nat} (h : Acc g w (.own t) b off n c) {off' n' c' : Nat} (h2 : off' + n' ≤ off + n) : Acc g w (.vw t) b off' n' c' := by
  rcases h with ⟨a1, a2, a3, _⟩ | ⟨h, _⟩
  · exact .inr ⟨a1, a2, by omega⟩
  · exact .inl h

theorem Acc.part {g : G} {w : World} {t : Tk} {b off n c : Nat} (h : Acc g w (.vw t) b off n c) {off' n' c' : Nat} (h2 : off' + n' ≤ off + n) : Acc g w (.vw t) b off' n' c' := by
  rcases h with h | ⟨a1, a2, a3⟩
  · exact .inl h
  · exact .inr ⟨a1, a2, by omega⟩

/-- Whose a part of it is. -/
def Own.part : Own → Own
  | .own t => .vw t
  | o => o

theorem Acc.sub {g : G} {w : World} {o : Own} {b off n c : Nat} (h : Acc g w o b off n c) {off' n' c' : Nat} (h2 : off' + n' ≤ off + n) : Acc g w o.part b off' n' c' := by
  cases o with
  | imm => exact h
  | own t => exact h.toVw h2
  | vw t => exact h.part h2
  | rd => exact h

theorem viewL_eq (xs : List PV) : PV.viewL xs = xs.map PV.view := by
  induction xs with
  | nil => rfl
  | cons x xs ih => simp [PV.viewL, ih]

theorem Rep.view {g : G} {w : World} {x : PV} {u : Value} (h : Rep g w x u) : Rep g w x.view u := by
  induction h with
  | lit v => exact .lit v
  | dead u => exact .dead u
  | nils o s => cases o <;> exact .nils _ s
  | sle o s a hl => cases o <;> exact .sle _ s a hl
  | sl o s xs b off c U hc hm hacc hd hs hcell hrep ih =>
    cases o with
    | imm => exact .sl .imm s xs b off c U hc hm hacc hd hs hcell hrep
    | rd => exact .sl .rd s xs b off c U hc hm hacc hd hs hcell hrep
    | own t => exact .sl (.vw t) s xs b off c U hc hm (hacc.toVw (Nat.le_refl _)) hd hs hcell hrep
    | vw t => exact .sl (.vw t) s xs b off c U hc hm hacc hd hs hcell hrep
  | ptr id off => exact .ptr id off
  | cur o xs b off U hacc hd hcell hrep ih => exact .cur o xs b off U hacc hd hcell hrep
  | agg xs us hl h ih =>
    simp only [PV.view, viewL_eq]
    refine .agg _ us (by simpa using hl) (fun i x u hx hu => ?_)
    rw [List.getElem?_map, Option.map_eq_some_iff] at hx
    obtain ⟨y, hy, rfl⟩ := hx
    exact ih i y u hy hu
  | tup xs us hl h ih => exact .tup xs us hl h
  | fn f xs ys us vs hl hl' h h' ih ih' => exact .fn f xs ys us vs hl hl' h h'
  | mp id => exact .mp id
  | yl id => exact .yl id

theorem Act.put_eq (a : Act) (d : Option Tmp) (v : Value) : (a.put d v).defers = a.defers := by cases d <;> rfl

theorem Sim.put {g : G} {st : St} {a : Act} {w : World} (h : Sim g st a w) {x : PV} {v : Value} (hr : Rep g w x v) (d : Option Tmp) : Sim g (st.put d x) (a.put d v) w := by
  cases d with
  | none => exact h
  | some d =>
    simp only [St.put, Act.put]
    by_cases hd : d < st.nt
    · rw [if_pos hd]
      refine ⟨fun s => ?_, by simpa using h.nt, h.heap⟩
      show Rep g w (getR ((d, x) :: st.regs) s) ((a.tmps.setIfInBounds d v).getD s undef)
      simp only [getR]
      by_cases e : d = s
      · subst e
        rw [if_pos rfl]
        have hd' : d < a.tmps.size := h.nt ▸ hd
        have : (a.tmps.setIfInBounds d v).getD d undef = v := by simp [Array.getD, hd']
        rw [this]; exact hr
      · rw [if_neg e]
        have : (a.tmps.setIfInBounds d v).getD s undef = a.tmps.getD s undef := by
          simp only [Array.getD_eq_getD_getElem?]
          rw [Array.getElem?_setIfInBounds_ne e]
        rw [this]; exact h.regs s
    · rw [if_neg hd]
      have hle : a.tmps.size ≤ d := by rw [h.nt]; exact Nat.le_of_not_lt hd
      have : a.tmps.setIfInBounds d v = a.tmps := Array.setIfInBounds_eq_of_size_le hle
      rw [this]; exact h

/-- What an operation that is no call does. -/
def OpOK (P : Program) (r : Option Nat) (o : Oper) (st : St) (R : St → Prop) : Prop :=
  ∀ g a w, Sim g st a w → WF g w → ∀ (K : Act → World → Prop) (Q : Exit → Act → World → Prop),
    (∀ g' st' a' w', R st' → Sim g' st' a' w' → WF g' w' → Ext g w g' w' → a'.defers = a.defers → K a' w') → o.wpIn (FR r) 0 P a w K Q

def Oper.plainOp : Op → Bool
  | .defer _ => false
  | _ => true

theorem Oper.semAt_plain {o : Oper} (h : Oper.plainOp o.op = true) (r : Option Nat) (ρ : Operand → Value) : o.semAt r ρ = execOp ρ o :=
  Oper.semAt_eq r ρ o fun c e => by rw [e] at h; cases h

theorem OpOK.val {P : Program} {r : Option Nat} {o : Oper} {st st1 : St} {x : PV} (hp : Oper.plainOp o.op = true)
    (h : ∀ g a w, Sim g st a w → WF g w → ∃ v w' g', (execOp a.eval o).run P w = .ok (.value v) w' ∧ Sim g' st1 a w' ∧ WF g' w' ∧ Ext g w g' w' ∧ Rep g' w' x v) : OpOK P r o st (· = st1.put o.dst x) := by
  intro g a w hs hw K Q hk
  obtain ⟨v, w', g', h1, h2, h3, h4, h5⟩ := h g a w hs hw
  refine ⟨fun _ _ => trivial, ?_⟩
  rw [Oper.semAt_plain hp, h1]
  exact hk g' _ _ _ rfl (h2.put h5 _) h3 h4 (Act.put_eq _ _ _)

theorem OpOK.pureVal {P : Program} {r : Option Nat} {o : Oper} {st : St} {x : PV} (hp : Oper.plainOp o.op = true)
    (h : ∀ g a w, Sim g st a w → WF g w → ∃ v, (execOp a.eval o).run P w = .ok (.value v) w ∧ Rep g w x v) : OpOK P r o st (· = st.put o.dst x) :=
  .val hp fun g a w hs hw => let ⟨v, h1, h2⟩ := h g a w hs hw; ⟨v, w, g, h1, hs, hw, Ext.refl g w, h2⟩

theorem OpOK.skip {P : Program} {r : Option Nat} {o : Oper} {st st1 : St} (hp : Oper.plainOp o.op = true)
    (h : ∀ g a w, Sim g st a w → WF g w → ∃ w' g', (execOp a.eval o).run P w = .ok .skip w' ∧ Sim g' st1 a w' ∧ WF g' w' ∧ Ext g w g' w') : OpOK P r o st (· = st1.put o.dst (.lit undef)) := by
  intro g a w hs hw K Q hk
  obtain ⟨w', g', h1, h2, h3, h4⟩ := h g a w hs hw
  refine ⟨fun _ _ => trivial, ?_⟩
  rw [Oper.semAt_plain hp, h1]
  exact hk g' _ _ _ rfl (h2.put (.lit undef) _) h3 h4 (Act.put_eq _ _ _)

/-! ### Values out of cells -/
section
variable {P : Program}

theorem aggT_run {t : TypeId} {b : Bool} (h : aggT P t = some b) (w : World) : (isAgg t).run P w = .ok b w := by
  unfold aggT at h
  cases hu : P.underlying t with
  | none => rw [hu] at h; cases h
  | some d =>
    rw [hu] at h
    simp only [isAgg, Sem.run_bind, run_underlying hu, Result.andThen_ok]
    cases d <;> first | (simp only [Option.some.injEq] at h; subst h; rfl)

theorem szOf_run {t : TypeId} {b : Bool} (h : aggT P t = some b) (w : World) : (sizeOf t).run P w = .ok (szOf P t) w := by
  have : ∃ i, P.info? t = some i := by
    unfold aggT Program.underlying at h
    cases hi : P.info? t with
    | none => rw [hi] at h; simp at h
    | some i => exact ⟨i, rfl⟩
  obtain ⟨i, hi⟩ := this
  simp [sizeOf, typeInfo, szOf, hi]

end
end Go.Sy

/-! What each operation that makes no memory yields. -/
namespace Go.Sy

section
variable {P : Program} (w : World)
theorem eqn_slice {t e : TypeId} (hu : P.underlying t = some (.slice e)) (x y : Operand) (a : Option Addr) (n c : Nat) :
    (do eqGuard .eql t x y (.slice a n c) (.slice none 0 0); binOp .eql t (.slice a n c) (.slice none 0 0) : Sem Value).run P w = .ok (.bool a.isNone) w ∧
    (do eqGuard .neq t x y (.slice a n c) (.slice none 0 0); binOp .neq t (.slice a n c) (.slice none 0 0) : Sem Value).run P w = .ok (.bool (!a.isNone)) w := by
  have g1 : eqGuard .eql t x y (.slice a n c) (.slice none 0 0) = pure () := rfl
  have g2 : eqGuard .neq t x y (.slice a n c) (.slice none 0 0) = pure () := rfl
  rw [g1, g2]
  simp only [Sem.run_bind, Sem.run_pure, Result.andThen_ok]
  refine ⟨?_, run_neq_slice_nil_any w t e a n c 0 0 hu⟩
  simp only [binOp]
  simp [Op.equal, Op.maxDepth, Lib.run_equalIn_slice_nil w 9999 t e a n c 0 0 hu]

theorem eqn_ptr {t e : TypeId} (hu : P.underlying t = some (.pointer e)) (x y : Operand) (a : Addr) :
    (do eqGuard .eql t x y (.pointer (some a)) (.pointer none); binOp .eql t (.pointer (some a)) (.pointer none) : Sem Value).run P w = .ok (.bool false) w ∧
    (do eqGuard .neq t x y (.pointer (some a)) (.pointer none); binOp .neq t (.pointer (some a)) (.pointer none) : Sem Value).run P w = .ok (.bool true) w := by
  have g1 : eqGuard .eql t x y (.pointer (some a)) (.pointer none) = pure () := rfl
  have g2 : eqGuard .neq t x y (.pointer (some a)) (.pointer none) = pure () := rfl
  have h : ∀ d : Nat, (Op.equalIn (d + 1) t (.pointer (some a)) (.pointer none)).run P w = .ok false w := fun d => by simp [Op.equalIn, run_underlying hu]
  rw [g1, g2]
  simp only [Sem.run_bind, Sem.run_pure, Result.andThen_ok]
  refine ⟨?_, ?_⟩ <;> (simp only [binOp]; simp [Op.equal, Op.maxDepth, h 9999])
end

def binPV (P : Program) (op : BinOp) (t : TypeId) (x y : Operand) (p q : PV) : Option PV :=
  match p, q with
  | .sl _ nl _ _, .sl _ true _ [] => match P.underlying t, op with
    | some (.slice _), .eql => some (.lit (.bool nl))
    | some (.slice _), .neq => some (.lit (.bool (!nl)))
    | _, _ => none
  | .ptr _ _, .lit (.pointer none) => match P.underlying t, op with
    | some (.pointer _), .eql => some (.lit (.bool false))
    | some (.pointer _), .neq => some (.lit (.bool true))
    | _, _ => none
  | p, q => match valOf p, valOf q with
    | some u, some v => (pureOf P (do eqGuard op t x y u v; binOp op t u v)).map .lit
    | _, _ => none

section
variable {P : Program}

theorem binPV_run {op : BinOp} {t : TypeId} {x y : Operand} {p q r : PV} (h : binPV P op t x y p q = some r) {g : G} {w : World} {u v : Value} (hp : Rep g w p u) (hq : Rep g w q v) :
    ∃ z, (do eqGuard op t x y u v; binOp op t u v : Sem Value).run P w = .ok z w ∧ Rep g w r z := by
  have fall : (match valOf p, valOf q with
    | some u, some v => (pureOf P (do eqGuard op t x y u v; binOp op t u v)).map PV.lit
    | _, _ => none) = some r → ∃ z, (do eqGuard op t x y u v; binOp op t u v : Sem Value).run P w = .ok z w ∧ Rep g w r z := by
    intro h
    cases h1 : valOf p with
    | none => rw [h1] at h; simp at h
    | some u' =>
      cases h2 : valOf q with
      | none => rw [h1, h2] at h; simp at h
      | some v' =>
        rw [h1, h2] at h
        have e1 := valOf_rep h1 hp
        have e2 := valOf_rep h2 hq
        subst e1; subst e2
        simp only [Option.map_eq_some_iff] at h
        obtain ⟨z, hz, rfl⟩ := h
        exact ⟨z, pureOf_run hz w, .lit z⟩
  unfold binPV at h
  split at h
  · rename_i o nl s xs o' s'
    have hv : v = .slice none 0 0 := by cases hq; rfl
    subst hv
    split at h
    · rename_i e hu
      cases h
      cases hp with
      | nils => exact ⟨.bool true, (eqn_slice w hu x y none 0 0).1, .lit _⟩
      | sle => exact ⟨.bool false, (eqn_slice w hu x y _ _ _).1, .lit _⟩
      | sl => exact ⟨.bool false, (eqn_slice w hu x y _ _ _).1, .lit _⟩
    · rename_i e hu
      cases h
      cases hp with
      | nils => exact ⟨.bool false, (eqn_slice w hu x y none 0 0).2, .lit _⟩
      | sle => exact ⟨.bool true, (eqn_slice w hu x y _ _ _).2, .lit _⟩
      | sl => exact ⟨.bool true, (eqn_slice w hu x y _ _ _).2, .lit _⟩
    · cases h
  · have hv := hq.lit_inv
    subst hv
    split at h
    · rename_i e hu
      cases h
      cases hp
      exact ⟨.bool false, (eqn_ptr w hu x y _).1, .lit _⟩
    · rename_i e hu
      cases h
      cases hp
      exact ⟨.bool true, (eqn_ptr w hu x y _).2, .lit _⟩
    · cases h
  · exact fall h

/-- One operand alone, a plain value. -/
def unPV (P : Program) (f : Value → Sem Value) (p : PV) : Option PV :=
  match valOf p with
  | some u => (pureOf P (f u)).map .lit
  | none => none

theorem unPV_run {f : Value → Sem Value} {p r : PV} (h : unPV P f p = some r) {g : G} {w : World} {u : Value} (hp : Rep g w p u) : ∃ z, (f u).run P w = .ok z w ∧ Rep g w r z := by
  unfold unPV at h
  cases h1 : valOf p with
  | none => rw [h1] at h; simp at h
  | some u' =>
    rw [h1] at h
    have e1 := valOf_rep h1 hp
    subst e1
    simp only [Option.map_eq_some_iff] at h
    obtain ⟨z, hz, rfl⟩ := h
    exact ⟨z, pureOf_run hz w, .lit z⟩

/-- Cells of an object, or of a row, from a place on. -/
theorem cellsAt_rep {st : St} {g : G} {a : Act} {w : World} (hs : Sim g st a w) {p : PV} {xs : List PV} (h : st.cellsAt p = some xs) {u : Value} (hp : Rep g w p u) :
    ∃ b off, u = .pointer (some ⟨b, off, none⟩) ∧ ∀ (j : Nat) (x : PV), xs[j]? = some x → ∃ v, w.cell? ⟨b, off + j, none⟩ = some v ∧ Rep g w x v := by
  cases hp with
  | ptr id off =>
    simp only [St.cellsAt] at h
    cases ho : getO st.heap id with
    | none => rw [ho] at h; simp at h
    | some ob =>
      cases ob with
      | cells ys =>
        rw [ho] at h
        simp only [Option.some.injEq] at h
        subst h
        obtain ⟨hd, cs, T, hb, hl, hr⟩ := hs.heap id _ ho
        refine ⟨_, off, rfl, fun j x hx => ?_⟩
        rw [List.getElem?_drop] at hx
        have hlt : off + j < cs.size := by rw [hl]; exact (List.getElem?_eq_some_iff.1 hx).1
        exact ⟨cs[off + j], by rw [cell_row hb]; exact Array.getElem?_eq_getElem hlt, hr _ x _ hx (Array.getElem?_eq_getElem hlt)⟩
      | _ => rw [ho] at h; simp at h
  | cur o xs' b off U hacc hd hcell hrep =>
    simp only [St.cellsAt, Option.some.injEq] at h
    subst h
    exact ⟨b, off, rfl, fun j x hx => ⟨_, hcell j x hx, hrep j x hx⟩⟩
  | _ => simp [St.cellsAt] at h

def loadPV (P : Program) (t : TypeId) (st : St) (p : PV) : Option PV := (st.cellsAt p).bind fun xs => (ofCells P t xs).map fun x => if aggT P t = some true then x.view else x

theorem ofCells_load {t : TypeId} {xs : List PV} {x : PV} (h : ofCells P t xs = some x) {g : G} {w : World} {b off : Nat} (hc : ∀ (j : Nat) (x : PV), xs[j]? = some x → ∃ v, w.cell? ⟨b, off + j, none⟩ = some v ∧ Rep g w x v) :
    ∃ v, (loadVar t ⟨b, off, none⟩).run P w = .ok v w ∧ Rep g w x v := by
  unfold ofCells at h
  split at h
  · rename_i ha
    split at h
    · rename_i hle
      cases h
      have hf : ∀ j, ∃ v, j < szOf P t → w.cell? ((⟨b, off, none⟩ : Addr).add j) = some v ∧ ∀ x, xs[j]? = some x → Rep g w x v := by
        intro j
        by_cases hj : j < szOf P t
        · have hx := List.getElem?_eq_getElem (l := xs) (i := j) (by omega)
          obtain ⟨v, h1, h2⟩ := hc j _ hx
          exact ⟨v, fun _ => ⟨by rw [addr_add]; exact h1, fun y hy => by rw [hx] at hy; cases hy; exact h2⟩⟩
        · exact ⟨undef, fun h => absurd h hj⟩
      obtain ⟨f, hf⟩ := Classical.skolem.1 hf
      refine ⟨.agg ((List.range (szOf P t)).map f).toArray, ?_, ?_⟩
      · simp only [loadVar, Sem.run_bind, aggT_run ha, Result.andThen_ok, if_true, szOf_run ha, run_loadCells w _ _ f (fun j hj => (hf j hj).1)]
        rfl
      · refine .agg _ _ (by simp; omega) (fun i x u hx hu => ?_)
        have hi : i < szOf P t := by
          have := (List.getElem?_eq_some_iff.1 hx).1
          simp at this; omega
        rw [List.getElem?_take_of_lt hi] at hx
        have : u = f i := by
          simp only [List.getElem?_toArray, List.getElem?_map, List.getElem?_range hi, Option.map_some, Option.some.injEq] at hu
          exact hu.symm
        subst this
        exact (hf i hi).2 x hx
    · cases h
  · rename_i ha
    obtain ⟨v, h1, h2⟩ := hc 0 x h
    refine ⟨v, ?_, h2⟩
    rw [Nat.add_zero] at h1
    simp only [loadVar, Sem.run_bind, aggT_run ha, Result.andThen_ok]
    simp [run_load, h1]
  · cases h

theorem loadPV_run {st : St} {g : G} {a : Act} {w : World} (hs : Sim g st a w) {t : TypeId} {p x : PV} (h : loadPV P t st p = some x) {u : Value} (hp : Rep g w p u) :
    ∃ v, (Instr.loadAt t u).run P w = .ok v w ∧ Rep g w x v := by
  simp only [loadPV, Option.bind_eq_some_iff, Option.map_eq_some_iff] at h
  obtain ⟨xs, h1, y, h2, rfl⟩ := h
  obtain ⟨b, off, rfl, hc⟩ := cellsAt_rep hs h1 hp
  obtain ⟨v, h3, h4⟩ := ofCells_load h2 hc
  refine ⟨v, by simpa [Instr.loadAt, Instr.sureAddr] using h3, ?_⟩
  split
  · exact h4.view
  · exact h4

/-- A part of an aggregate. -/
theorem ofCells_part {t : TypeId} {xs : List PV} {off : Nat} {x : PV} (h : ofCells P t (xs.drop off) = some x) {g : G} {w : World} {us : Array Value} (hp : Rep g w (.agg xs) (.agg us)) :
    ∃ v, (part t us off).run P w = .ok v w ∧ Rep g w x v := by
  cases hp with
  | agg _ _ hl hr =>
    unfold ofCells at h
    split at h
    · rename_i ha
      split at h
      · rename_i hle
        cases h
        rw [List.length_drop] at hle
        refine ⟨.agg (us.extract off (off + szOf P t)), ?_, ?_⟩
        · simp [part, Sem.run_bind, aggT_run ha, szOf_run ha]
        · refine .agg _ _ (by simp; omega) (fun i x u hx hu => ?_)
          have hi : i < szOf P t := by
            have := (List.getElem?_eq_some_iff.1 hx).1
            simp at this; omega
          rw [List.getElem?_take_of_lt hi, List.getElem?_drop] at hx
          rw [Array.getElem?_extract] at hu
          split at hu
          · exact hr _ x u hx hu
          · cases hu
      · cases h
    · rename_i ha
      rw [List.getElem?_drop, Nat.add_zero] at h
      have hlt : off < us.size := by rw [hl]; exact (List.getElem?_eq_some_iff.1 h).1
      refine ⟨us[off], ?_, hr _ x _ h (Array.getElem?_eq_getElem hlt)⟩
      simp [part, Sem.run_bind, aggT_run ha, hlt]
    · cases h
end
end Go.Sy
