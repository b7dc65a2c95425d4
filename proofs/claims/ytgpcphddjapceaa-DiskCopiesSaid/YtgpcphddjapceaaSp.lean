/- Rows of numbers; what is known of functions that only read. -/
import Derived.Test.YtgpcphddjapceaaSi
import Derived.Test.YtgpcphddjapceaaSr
namespace Go.Sy

def ints (k : IntKind) (xs : List Int) : List PV := xs.map fun n => .lit (.int k n)
abbrev u8s (xs : List Int) : List PV := ints .u8 xs

section
variable {k : IntKind} {xs ys : List Int}
@[simp] theorem ints_length : (ints k xs).length = xs.length := by simp [ints]
@[simp] theorem ints_nil : ints k [] = [] := (rfl)
@[simp] theorem ints_append : ints k xs ++ ints k ys = ints k (xs ++ ys) := by simp [ints]
@[simp] theorem ints_take (n : Nat) : (ints k xs).take n = ints k (xs.take n) := by simp [ints, List.map_take]
@[simp] theorem ints_drop (n : Nat) : (ints k xs).drop n = ints k (xs.drop n) := by simp [ints, List.map_drop]
@[simp] theorem ints_getElem (n : Nat) (h : n < (ints k xs).length) : (ints k xs)[n] = .lit (.int k (xs[n]'(by simpa using h))) := by simp [ints]
@[simp high] theorem ints_get (n : Nat) : (ints k xs)[n]? = (xs[n]?).map fun n => .lit (.int k n) := by simp [ints]
@[simp] theorem ints_inj : ints k xs = ints k ys ↔ xs = ys := by
  constructor
  · intro h
    induction xs generalizing ys with
    | nil => cases ys <;> simp [ints] at h ⊢
    | cons x xs ih =>
      cases ys with
      | nil => simp [ints] at h
      | cons y ys =>
        simp only [ints, List.map_cons, List.cons.injEq, PV.lit.injEq, Value.int.injEq, true_and] at h
        rw [h.1, ih h.2]
  · rintro rfl; rfl
@[simp] theorem ints_nil_iff : ints k xs = [] ↔ xs = [] := by cases xs <;> simp [ints]
@[simp] theorem ints_empty : (ints k xs).isEmpty = xs.isEmpty := by cases xs <;> simp [ints]
theorem ints_data (x : PV) (h : x ∈ ints k xs) : Data x := by
  simp only [ints, List.mem_map] at h
  obtain ⟨n, _, rfl⟩ := h
  simp [Value.oneCell']
@[simp] theorem ints_allData : (∀ x, x ∈ ints k xs → Data x) = True := eq_true fun _ => ints_data _
end

/-- The numbers of a row. -/
def unInts (k : IntKind) : List PV → Option (List Int)
  | [] => some []
  | .lit (.int k' n) :: xs => if k' = k then (unInts k xs).map (n :: ·) else none
  | _ :: _ => none
@[simp] theorem unInts_ints (k : IntKind) (xs : List Int) : unInts k (ints k xs) = some xs := by
  induction xs with
  | nil => rfl
  | cons x xs ih =>
    have : ints k (x :: xs) = .lit (.int k x) :: ints k xs := rfl
    simp [this, unInts, ih]
theorem unInts_eq {k : IntKind} {xs : List PV} {ys : List Int} (h : unInts k xs = some ys) : xs = ints k ys := by
  induction xs generalizing ys with
  | nil => simp only [unInts, Option.some.injEq] at h; subst h; rfl
  | cons x xs ih =>
    unfold unInts at h
    split at h
    · rename_i h'; cases h'
    · rename_i k' n xs' he
      cases he
      split at h
      · rename_i e
        subst e
        rw [Option.map_eq_some_iff] at h
        obtain ⟨zs, hz, rfl⟩ := h
        rw [ih hz]; rfl
      · cases h
    · cases h

/-- A function that only reads: what it tells. -/
def Spec.reads {P : Program} {α : Type} (k : FuncId) (hk : Callable P k) (parse : List PV → Option α) (args : α → List PV) (y : α → PV) (hp : ∀ as a, parse as = some a → as = args a) (hy : ∀ a, Plain (y a)) (hc : ∀ a, TrC P k (args a) [] fun x _ => x = y a) : Spec P where
  k := k
  pre := fun as h _ KX => onSome ((lendL h as).bind parse) fun a => KX (fun x => x) h (y a)
  ok := by
    intro as h d KX hx
    obtain ⟨a, h1, h2⟩ := onSome_iff.1 hx
    obtain ⟨bs, h3, h4⟩ := Option.bind_eq_some_iff.1 h1
    obtain rfl := hp bs a h4
    exact ⟨hk, fun x => x, h, y a, rfl, h2, CallT.read (hc a) h3 (hy a)⟩

@[simp] theorem plain_lit (v : Value) : Plain (.lit v) := .lit v

mutual
def idsOf : PV → List Nat
  | .ptr id _ => [id]
  | .agg xs => idsOfL xs
  | .tup xs => idsOfL xs
  | .fn _ a b => idsOfL a ++ idsOfL b
  | _ => []
def idsOfL : List PV → List Nat
  | [] => []
  | x :: xs => idsOf x ++ idsOfL xs
end

/-- The objects that a call may come to. -/
def reach (h : List (Nat × Ob)) : Nat → List Nat → List Nat → List Nat
  | 0, _, seen => seen
  | _ + 1, [], seen => seen
  | n + 1, i :: todo, seen => if seen.contains i then reach h n todo seen else match getO h i with
    | some (.cells xs) => reach h n (todo ++ idsOfL xs) (seen ++ [i])
    | none => reach h n todo seen

def numb (b : Nat) : List Nat → List (Nat × Nat)
  | [] => []
  | i :: l => (i, b) :: numb (b + 1) l

/-- The ways of names into a call and out of it. -/
def wayOf (h : List (Nat × Ob)) (as : List PV) (new rows : List Nat) (d : Option Tmp) : Way :=
  ⟨numb 100000 (reach h 30 (idsOfL as) []), [], numb (1000 + 10 * d.getD 0) new, numb (1000 + 10 * d.getD 0) rows⟩

mutual
def toksOf : PV → List Tk
  | .sl (.own t) _ _ _ => [t]
  | .sl (.vw t) _ _ _ => [t]
  | .cur (.own t) _ => [t]
  | .cur (.vw t) _ => [t]
  | .agg xs => toksOfL xs
  | .tup xs => toksOfL xs
  | .fn _ a b => toksOfL a ++ toksOfL b
  | _ => []
def toksOfL : List PV → List Tk
  | [] => []
  | x :: xs => toksOf x ++ toksOfL xs
end
/-- A function that changes what it is handed. -/
def Spec.works {P : Program} {α : Type} (k : FuncId) (hk : Callable P k) (new rows : List Nat) (parse : List PV → List (Nat × Ob) → Option α) (args : α → List PV) (h0 : α → List (Nat × Ob)) (y : α → PV) (h1 : α → List (Nat × Ob))
    (hp : ∀ as h a, parse as h = some a → as = args a ∧ subO (h0 a) h) (hc : ∀ a, TrC P k (args a) (h0 a) fun x h' => x = y a ∧ h' = h1 a) : Spec P where
  k := k
  pre := fun as h d KX => onSome (parse (as.map ((wayOf h as new rows d).argIn (toksOfL as))) ((wayOf h as new rows d).heapIn (toksOfL as) h)) fun a => (wayOf h as new rows d).ok = true ∧
    KX ((wayOf h as new rows d).left (toksOfL as)) ((wayOf h as new rows d).heapOut (toksOfL as) (h1 a) h) ((wayOf h as new rows d).res (y a))
  ok := by
    intro as h d KX hx
    obtain ⟨a, h1, hW, hk2⟩ := onSome_iff.1 hx
    obtain ⟨ha, hh⟩ := hp _ _ a h1
    refine ⟨hk, _, _, _, ?_, hk2, CallT.of _ _ hW (hc a) ha.symm hh⟩
    simp only [Way.left, PV.scrub]

/-- A function that only reads, and tells rows of its own. -/
def Spec.fresh {P : Program} {α : Type} (k : FuncId) (hk : Callable P k) (rows : List Nat) (parse : List PV → Option α) (args : α → List PV) (y : α → PV) (hp : ∀ as a, parse as = some a → as = args a) (hy : ∀ a, Fr (y a)) (hc : ∀ a, TrC P k (args a) [] fun x _ => x = y a) : Spec P where
  k := k
  pre := fun as h d KX => onSome ((lendL h as).bind parse) fun a => (rowsWay (numb (1000 + 10 * d.getD 0) rows)).ok = true ∧
    KX (PV.scrub (rowsWay (numb (1000 + 10 * d.getD 0) rows)).killT some) (scrubO (rowsWay (numb (1000 + 10 * d.getD 0) rows)).killT some h) ((y a).scrub (Fren (rowsWay (numb (1000 + 10 * d.getD 0) rows)).outT) (fun _ => none))
  ok := by
    intro as h d KX hx
    obtain ⟨a, h1, hW, h2⟩ := onSome_iff.1 hx
    obtain ⟨bs, h3, h4⟩ := Option.bind_eq_some_iff.1 h1
    obtain rfl := hp bs a h4
    refine ⟨hk, _, _, _, ?_, h2, CallT.fresh _ hW (hc a) h3 (hy a)⟩
    simp only [PV.scrub]

def isNilS : PV → Prop
  | .sl _ nl _ xs => nl = true ∧ xs = []
  | _ => False
/-- A row of one's own, and a part of it. -/
def isVw : PV → PV → Prop
  | .sl (.own t) nl s xs, .sl (.vw u) nl' s' ys => t = u ∧ nl = nl' ∧ s = s' ∧ xs = ys
  | _, _ => False
/-- What the one says the other says too. -/
def Weak (x y : PV) : Prop := x = y ∨ (isNilS x ∧ isNilS y) ∨ isVw x y
theorem Weak.rep {x y : PV} (h : Weak x y) {g : G} {w : World} {v : Value} (hr : Rep g w x v) : Rep g w y v := by
  rcases h with rfl | ⟨h1, h2⟩ | h
  · exact hr
  · cases x <;> simp only [isNilS] at h1
    cases y <;> simp only [isNilS] at h2
    obtain ⟨rfl, rfl⟩ := h1
    obtain ⟨rfl, rfl⟩ := h2
    cases hr
    exact .nils _ _
  · unfold isVw at h
    split at h
    · obtain ⟨rfl, rfl, rfl, rfl⟩ := h
      exact hr.view
    · exact h.elim
def weakL : List PV → List PV → Prop
  | [], [] => True
  | x :: xs, y :: ys => Weak x y ∧ weakL xs ys
  | _, _ => False
theorem weakL_get {xs ys : List PV} (h : weakL xs ys) : xs.length = ys.length ∧ ∀ (i : Nat) (y : PV), ys[i]? = some y → ∃ x, xs[i]? = some x ∧ Weak x y := by
  induction xs generalizing ys with
  | nil => cases ys with
    | nil => exact ⟨rfl, fun _ _ h => by simp at h⟩
    | cons y ys => exact h.elim
  | cons x xs ih => cases ys with
    | nil => exact h.elim
    | cons y ys =>
      obtain ⟨h1, h2⟩ := ih h.2
      refine ⟨by simp [h1], fun i z hz => ?_⟩
      cases i with
      | zero => simp at hz; subst hz; exact ⟨x, rfl, h.1⟩
      | succ i => exact h2 i z (by simpa using hz)
def subW : List (Nat × Ob) → List (Nat × Ob) → Prop
  | [], _ => True
  | (k, .cells ys) :: l, h => (∃ xs, getO h k = some (.cells xs) ∧ weakL xs ys) ∧ subW l h
theorem subW_sim {H h' : List (Nat × Ob)} (hs : subW H h') {g : G} {w : World} (hh : HeapSim g w h') : HeapSim g w H := by
  induction H with
  | nil => exact fun _ _ h => by simp [getO] at h
  | cons c l ih =>
    obtain ⟨k, ob⟩ := c
    cases ob with
    | cells ys =>
      obtain ⟨⟨xs, h1, h2⟩, h3⟩ := hs
      intro id ob ho
      simp only [getO] at ho
      by_cases e : k = id
      · rw [if_pos e] at ho
        cases ho
        subst e
        obtain ⟨hd, cs, T, hb, hl, hr⟩ := hh k _ h1
        obtain ⟨e1, e2⟩ := weakL_get h2
        refine ⟨hd, cs, T, hb, by omega, fun i y u hy hu => ?_⟩
        obtain ⟨x, hx, hw⟩ := e2 i y hy
        exact hw.rep (hr i x u hx hu)
      · rw [if_neg e] at ho; exact ih h3 id ob ho

theorem TrC.sub {P : Program} {f : FuncId} {args : List PV} {h : List (Nat × Ob)} {X : PV} {H : List (Nat × Ob)} (hc : TrC P f args h fun x h' => Weak x X ∧ subW H h') : TrC P f args h fun x h' => x = X ∧ h' = H := by
  intro g w vs h1 h2 h3
  refine CallsIn.mono (hc g w vs h1 h2 h3) fun e w' hp => ?_
  obtain ⟨v, x, g', h', rfl, ⟨hx, hs⟩, a1, a2, a3, a4⟩ := hp
  exact ⟨v, _, g', H, rfl, ⟨rfl, rfl⟩, hx.rep a1, subW_sim hs a2, a3, a4⟩

theorem TrC.tells {P : Program} {f : FuncId} {args : List PV} {h : List (Nat × Ob)} {X : PV} (hc : TrC P f args h fun x _ => Weak x X) : TrC P f args h fun x _ => x = X := by
  intro g w vs h1 h2 h3
  refine CallsIn.mono (hc g w vs h1 h2 h3) fun e w' hp => ?_
  obtain ⟨v, x, g', h', rfl, hx, a1, a2, a3, a4⟩ := hp
  exact ⟨v, _, g', h', rfl, rfl, hx.rep a1, a2, a3, a4⟩

section
variable {P : Program} {α : Type} {k : FuncId} {hk : Callable P k} {d : Option Tmp} {bs : List PV} {h : List (Nat × Ob)} {KX : (PV → PV) → List (Nat × Ob) → PV → Prop}
@[simp] theorem reads_k {parse : List PV → Option α} {args : α → List PV} {y : α → PV} {hp} {hy} {hc} : (Spec.reads k hk parse args y hp hy hc).k = k := (rfl)
@[simp] theorem fresh_k {rows : List Nat} {parse : List PV → Option α} {args : α → List PV} {y : α → PV} {hp} {hy} {hc} : (Spec.fresh k hk rows parse args y hp hy hc).k = k := (rfl)
@[simp] theorem works_k {new rows : List Nat} {parse : List PV → List (Nat × Ob) → Option α} {args : α → List PV} {h0 : α → List (Nat × Ob)} {y : α → PV} {h1 : α → List (Nat × Ob)} {hp} {hc} : (Spec.works k hk new rows parse args h0 y h1 hp hc).k = k := (rfl)
@[simp] theorem reads_pre {parse : List PV → Option α} {args : α → List PV} {y : α → PV} {hp} {hy} {hc} : (Spec.reads k hk parse args y hp hy hc).pre bs h d KX = onSome ((lendL h bs).bind parse) fun a => KX (fun x => x) h (y a) := (rfl)
@[simp] theorem fresh_pre {rows : List Nat} {parse : List PV → Option α} {args : α → List PV} {y : α → PV} {hp} {hy} {hc} : (Spec.fresh k hk rows parse args y hp hy hc).pre bs h d KX = onSome ((lendL h bs).bind parse) fun a => (rowsWay (numb (1000 + 10 * d.getD 0) rows)).ok = true ∧
    KX (PV.scrub (rowsWay (numb (1000 + 10 * d.getD 0) rows)).killT some) (scrubO (rowsWay (numb (1000 + 10 * d.getD 0) rows)).killT some h) ((y a).scrub (Fren (rowsWay (numb (1000 + 10 * d.getD 0) rows)).outT) (fun _ => none)) := rfl
@[simp] theorem works_pre {new rows : List Nat} {parse : List PV → List (Nat × Ob) → Option α} {args : α → List PV} {h0 : α → List (Nat × Ob)} {y : α → PV} {h1 : α → List (Nat × Ob)} {hp} {hc} : (Spec.works k hk new rows parse args h0 y h1 hp hc).pre bs h d KX =
    onSome (parse (bs.map ((wayOf h bs new rows d).argIn (toksOfL bs))) ((wayOf h bs new rows d).heapIn (toksOfL bs) h)) fun a => (wayOf h bs new rows d).ok = true ∧
    KX ((wayOf h bs new rows d).left (toksOfL bs)) ((wayOf h bs new rows d).heapOut (toksOfL bs) (h1 a) h) ((wayOf h bs new rows d).res (y a)) := rfl
end
attribute [simp ↓] reads_k fresh_k works_k reads_pre fresh_pre works_pre

section
variable {P : Program} {α : Type} (d : Option Tmp) (bs : List PV) (h : List (Nat × Ob)) (KX : (PV → PV) → List (Nat × Ob) → PV → Prop)
/-- What is asked of a call, by itself. -/
def readsPre (parse : List PV → Option α) (y : α → PV) : Prop := onSome ((lendL h bs).bind parse) fun a => KX (fun x => x) h (y a)
def freshPre (rows : List Nat) (parse : List PV → Option α) (y : α → PV) : Prop := onSome ((lendL h bs).bind parse) fun a => (rowsWay (numb (1000 + 10 * d.getD 0) rows)).ok = true ∧
    KX (PV.scrub (rowsWay (numb (1000 + 10 * d.getD 0) rows)).killT some) (scrubO (rowsWay (numb (1000 + 10 * d.getD 0) rows)).killT some h) ((y a).scrub (Fren (rowsWay (numb (1000 + 10 * d.getD 0) rows)).outT) (fun _ => none))
def worksPre (new rows : List Nat) (parse : List PV → List (Nat × Ob) → Option α) (y : α → PV) (h1 : α → List (Nat × Ob)) : Prop :=
    onSome (parse (bs.map ((wayOf h bs new rows d).argIn (toksOfL bs))) ((wayOf h bs new rows d).heapIn (toksOfL bs) h)) fun a => (wayOf h bs new rows d).ok = true ∧
    KX ((wayOf h bs new rows d).left (toksOfL bs)) ((wayOf h bs new rows d).heapOut (toksOfL bs) (h1 a) h) ((wayOf h bs new rows d).res (y a))
end
attribute [simp ↓] readsPre freshPre worksPre

attribute [simp] Weak isNilS isVw weakL subW elemsOf reps chunks wideB buildRow litL rowsWay Tk.weak slice3PV Own.toks nilPV fieldAddrPV loadPV St.cellsAt ofCells lenPV Own.part lendL lend lendCells lendCell Value.oneCell' appPV appDst appSrc Fkill PV.scrub PV.scrubL scrubO Ob.scrub storeSt PV.plain PV.comps writeAt St.setOb setO
  boxSt tokAt offTk offId Fren St.addO slicePV boundPV extractPV adoptTk noOwn PV.isAgg idsOf idsOfL reach numb toksOf toksOfL Way.argIn Way.heapIn Way.left Way.res Way.heapOut fzOf Ffz Way.inT Way.inI Way.outT Way.outI Way.killT Way.killI Way.imgT Way.imgI Way.isI lookN lookR lookT lookU dropO wayOf Way.ok Way.tkOK
  buildPV fillPV St.fz PV.fz St.off toksP PV.toks St.keep keepR keepO PV.view PV.viewL subO
end Go.Sy
