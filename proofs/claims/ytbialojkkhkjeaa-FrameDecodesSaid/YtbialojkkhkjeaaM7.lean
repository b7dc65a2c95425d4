/- Ids: their order; lists that rise; the ids of a range. (and what stands on it) -/
import Derived.Test.YtbialojkkhkjeaaM4
import Derived.Test.YtbialojkkhkjeaaM6

/-! Ids: their order; lists that rise; the ids of a range. -/
namespace Go.Sy
theorem bl_irrefl : ∀ x : List UInt8, Op.bytesLess x x = false
  | [] => rfl
  | a :: x => by simp [Op.bytesLess, bl_irrefl x]
theorem bl_trans : ∀ x y z : List UInt8, Op.bytesLess x y = true → Op.bytesLess y z = true → Op.bytesLess x z = true
  | _, [], _, h, _ => by simp [Op.bytesLess] at h
  | _, _ :: _, [], _, h => by simp [Op.bytesLess] at h
  | [], _ :: _, _ :: _, _, _ => rfl
  | a :: x, b :: y, c :: z, h1, h2 => by
    simp only [Op.bytesLess, Bool.or_eq_true, decide_eq_true_eq, Bool.and_eq_true, beq_iff_eq] at *
    rcases h1 with h1 | ⟨rfl, h1⟩
    · rcases h2 with h2 | ⟨rfl, h2⟩
      · exact .inl (UInt8.lt_trans h1 h2)
      · exact .inl h1
    · rcases h2 with h2 | ⟨rfl, h2⟩
      · exact .inl h2
      · exact .inr ⟨rfl, bl_trans x y z h1 h2⟩
theorem bl_tri : ∀ x y : List UInt8, Op.bytesLess x y = false → Op.bytesLess y x = false → x = y
  | [], [], _, _ => rfl
  | [], _ :: _, h, _ => by simp [Op.bytesLess] at h
  | _ :: _, [], _, h => by simp [Op.bytesLess] at h
  | a :: x, b :: y, h1, h2 => by
    simp only [Op.bytesLess, Bool.or_eq_false_iff, decide_eq_false_iff_not, Bool.and_eq_false_iff, beq_eq_false_iff_ne, ne_eq] at *
    have e : a = b := UInt8.le_antisymm (UInt8.not_lt.1 h2.1) (UInt8.not_lt.1 h1.1)
    subst e
    simp at h1 h2
    rw [bl_tri x y h1 h2]
/-- Is a text less than another one? -/
def ltS (p q : ByteArray) : Bool := Op.bytesLess p.toList q.toList
theorem lt_irrefl (p : ByteArray) : ltS p p = false := bl_irrefl _
theorem lt_trans {p q r : ByteArray} (h1 : ltS p q = true) (h2 : ltS q r = true) : ltS p r = true := bl_trans _ _ _ h1 h2
theorem lt_tri {p q : ByteArray} (h1 : ltS p q = false) (h2 : ltS q p = false) : p = q := by
  have := bl_tri _ _ h1 h2
  have h : (p.toList == q.toList) = true := by simp [this]
  rw [ba_eq] at h
  exact of_decide_eq_true h
theorem lt_asymm {p q : ByteArray} (h : ltS p q = true) : ltS q p = false := by
  cases e : ltS q p with
  | false => rfl
  | true => exact (lt_irrefl p).symm.trans (lt_trans h e) |>.symm ▸ rfl
theorem lt_ne {p q : ByteArray} (h : ltS p q = true) : p ≠ q := fun e => by rw [e, lt_irrefl] at h; cases h
theorem not_lt_le {p q r : ByteArray} (h1 : ltS p q = false) (h2 : ltS p r = true) : ltS q r = true := by
  by_cases e : p = q
  · exact e ▸ h2
  · cases h : ltS q p with
    | true => exact lt_trans h h2
    | false => exact absurd (lt_tri h1 h) e
/-- The empty text is least. -/
theorem lt_empty (p : ByteArray) : ltS p (⟨#[]⟩ : ByteArray) = false := by
  have : (⟨#[]⟩ : ByteArray).toList = [] := by rw [ByteArray.toList_eq]
  rw [ltS, this]
  cases p.toList <;> rfl
/-- A list that rises. -/
def Rise (l : List ByteArray) : Prop := l.Pairwise fun p q => ltS p q = true
section
variable {P : Program} {t : TypeId} {x y : Operand}
@[simp] theorem bin_lss_str (p q : ByteArray) : binPV P .lss t x y (.lit (.string p)) (.lit (.string q)) = some (.lit (.bool (ltS p q))) := by
  simp [binPV, valOf, eqGuard, binOp, Op.stringOp, pureOf_pure, ltS]
@[simp] theorem bin_geq_str (p q : ByteArray) : binPV P .geq t x y (.lit (.string p)) (.lit (.string q)) = some (.lit (.bool (!ltS p q))) := by
  simp [binPV, valOf, eqGuard, binOp, Op.stringOp, pureOf_pure, ltS]
end
/-- Ids, as cells. -/
def idc (l : List ByteArray) : List PV := l.map fun p => PV.lit (.string p)
@[simp] theorem idc_length (l : List ByteArray) : (idc l).length = l.length := by simp [idc]
@[simp] theorem idc_nil : idc [] = [] := rfl
@[simp] theorem idc_append (l m : List ByteArray) : idc l ++ idc m = idc (l ++ m) := by simp [idc]
@[simp] theorem idc_take (l : List ByteArray) (n : Nat) : (idc l).take n = idc (l.take n) := by simp [idc, List.map_take]
@[simp] theorem idc_drop (l : List ByteArray) (n : Nat) : (idc l).drop n = idc (l.drop n) := by simp [idc, List.map_drop]
@[simp] theorem idc_getElem (l : List ByteArray) (n : Nat) (h : n < (idc l).length) : (idc l)[n] = .lit (.string (l[n]'(by simpa using h))) := by simp [idc]
@[simp high] theorem idc_get (l : List ByteArray) (n : Nat) : (idc l)[n]? = (l[n]?).map fun p => .lit (.string p) := by simp [idc]
@[simp] theorem idc_inj {l m : List ByteArray} : idc l = idc m ↔ l = m := by
  constructor
  · intro h
    induction l generalizing m with
    | nil => cases m <;> simp [idc] at h ⊢
    | cons x l ih =>
      cases m with
      | nil => simp [idc] at h
      | cons y m =>
        simp only [idc, List.map_cons, List.cons.injEq, PV.lit.injEq, Value.string.injEq] at h
        rw [h.1, ih h.2]
  · rintro rfl; rfl
@[simp] theorem idc_nil_iff {l : List ByteArray} : idc l = [] ↔ l = [] := by cases l <;> simp [idc]
@[simp] theorem idc_empty (l : List ByteArray) : (idc l).isEmpty = l.isEmpty := by cases l <;> simp [idc]
theorem idc_data {l : List ByteArray} (x : PV) (h : x ∈ idc l) : Data x := by
  simp only [idc, List.mem_map] at h
  obtain ⟨n, _, rfl⟩ := h
  simp [Value.oneCell']
@[simp] theorem idc_allData {l : List ByteArray} : (∀ x, x ∈ idc l → Data x) = True := eq_true fun _ => idc_data _
@[simp] theorem idc_snoc (l : List ByteArray) (p : ByteArray) : idc l ++ [PV.lit (.string p)] = idc (l ++ [p]) := by simp [idc]
@[simp ↓] theorem idc_flat {l : List ByteArray} : ((idc l).all fun y => !y.isAgg) = true := by simp [idc, PV.isAgg]
@[simp] theorem lendCells_idc (l : List ByteArray) : lendCells (idc l) = some (idc l) := by
  induction l with
  | nil => rfl
  | cons n l ih =>
    show lendCells (.lit (.string n) :: idc l) = _
    simp only [lendCells, lendCell, ih]; rfl
theorem idc_cons (p : ByteArray) (l : List ByteArray) : idc (p :: l) = .lit (.string p) :: idc l := rfl
end Go.Sy

/-! Texts' order; ranges and messages as cells. -/
namespace Go.Sy
theorem index_str {P : Program} {t : TypeId} (ht : P.underlying t = some .string) (s : ByteArray) (k : IntKind) (n : Nat) (y : Int) (hn : (bs s)[n]? = some y) : indexPV P t (.lit (.string s)) (.lit (.int k n)) = some (.lit (.int .u8 y)) := by
  have hy : s[n]?.map (fun b => (b.toNat : Int)) = some y := by
    rw [← hn]
    simp only [bs, List.getElem?_map]
    congr 1
    by_cases h : n < s.size
    · rw [getElem?_pos s n h, Array.getElem?_toList, getElem?_pos s.data n h]; rfl
    · rw [getElem?_neg s n h, Array.getElem?_toList, getElem?_neg s.data n h]
  have e : pureOf P (Instr.index t (.string s) (.int k n)) = some (.int .u8 y) := by
    unfold Instr.index
    rw [pureOf_bind, show pureOf P (asIntOf (.int k n)) = some (k, (n : Int)) from rfl]
    simp only [Option.bind_some]
    rw [underlying_bind ht]
    obtain ⟨b, hb, rfl⟩ := Option.map_eq_some_iff.1 hy
    simp [hb, pureOf_pure]
  unfold indexPV
  rw [ht]; simp only [e]; rfl
/-- Numbers' order, text by text. -/
def ltI : List Int → List Int → Bool
  | _, [] => false
  | [], _ :: _ => true
  | a :: x, b :: y => decide (a < b) || (decide (a = b) && ltI x y)
theorem bl_ltI : ∀ x y : List UInt8, Op.bytesLess x y = ltI (x.map fun c => (c.toNat : Int)) (y.map fun c => (c.toNat : Int))
  | [], [] => rfl
  | [], _ :: _ => rfl
  | _ :: _, [] => rfl
  | a :: x, b :: y => by
    simp only [Op.bytesLess, List.map_cons, ltI, bl_ltI x y]
    congr 1
    · simp [UInt8.lt_iff_toNat_lt]
    · congr 1
      rw [Bool.eq_iff_iff]
      simp only [beq_iff_eq, decide_eq_true_eq]
      exact ⟨fun h => by rw [h], fun h => UInt8.toNat_inj.1 (by omega)⟩
theorem ltS_ltI (p q : ByteArray) : ltS p q = ltI (bs p) (bs q) := by
  rw [ltS, bl_ltI, ByteArray.toList_eq, ByteArray.toList_eq]; rfl
theorem ltI_common : ∀ (c x y : List Int), ltI (c ++ x) (c ++ y) = ltI x y
  | [], _, _ => rfl
  | a :: c, x, y => by simp [ltI, ltI_common c x y]
theorem ltI_at {x y : List Int} {i : Nat} (h1 : i < x.length) (h2 : i < y.length) (ht : x.take i = y.take i) (hn : x[i] ≠ y[i]) : ltI x y = decide (x[i] < y[i]) := by
  have e1 : x = x.take i ++ x[i] :: x.drop (i + 1) := by rw [← List.drop_eq_getElem_cons h1, List.take_append_drop]
  have e2 : y = x.take i ++ y[i] :: y.drop (i + 1) := by rw [ht, ← List.drop_eq_getElem_cons h2, List.take_append_drop]
  refine (congr (congrArg ltI e1) e2).trans ?_
  rw [ltI_common]
  simp [ltI, hn]
theorem ltI_end {x y : List Int} {i : Nat} (h1 : i ≤ x.length) (h2 : i ≤ y.length) (ht : x.take i = y.take i) (h : ¬ (i < x.length ∧ i < y.length)) : ltI x y = decide ((x.length : Int) < y.length) := by
  have e1 : x = x.take i ++ x.drop i := (List.take_append_drop i x).symm
  have e2 : y = x.take i ++ y.drop i := by rw [ht, List.take_append_drop]
  refine (congr (congrArg ltI e1) e2).trans ?_
  rw [ltI_common]
  by_cases hx : i < x.length
  · have hy : i = y.length := by omega
    rw [List.drop_eq_nil_of_le (by omega : y.length ≤ i)]
    have : ltI (x.drop i) [] = false := by cases x.drop i <;> rfl
    rw [this]
    symm; simp; omega
  · have hx : i = x.length := by omega
    rw [List.drop_eq_nil_of_le (by omega : x.length ≤ i)]
    cases hy : y.drop i with
    | nil =>
      have : y.length ≤ i := List.drop_eq_nil_iff.1 hy
      simp [ltI]; omega
    | cons b l =>
      have : i < y.length := by
        rcases Nat.lt_or_ge i y.length with h | h
        · exact h
        · rw [List.drop_eq_nil_of_le h] at hy; cases hy
      simp [ltI]; omega

@[simp] theorem fr_idc (n : Nat) (nl : Bool) (xs : List ByteArray) : Fr (.sl (.own (.loc n)) nl 1 (idc xs)) := .row n _ _ _ fun x hx y hy => by
  simp only [idc, List.mem_map] at hx
  obtain ⟨n, _, rfl⟩ := hx
  simp [PV.comps] at hy
  exact ⟨_, hy⟩

theorem inB_enc (n : Nat) : InB (enc n) := by
  induction n using Nat.strongRecOn with
  | _ n ih =>
    by_cases h : n < 128
    · rw [enc_lt h]; simp; omega
    · rw [enc_ge (by omega), inB_cons]
      exact ⟨by omega, ih _ (by omega)⟩

/-- A range, with how many it has, and their mark. -/
structure Rg where
  lo : ByteArray
  hi : ByteArray
  many : Int
  mark : ByteArray
  deriving DecidableEq
def Rg.cells (r : Rg) : List PV := [.lit (.string r.lo), .lit (.string r.hi), .lit (.int .i64 r.many), .lit (.string r.mark)]
/-- Ranges, as a row's elements. -/
def rgs (l : List Rg) : List PV := l.map fun r => .agg r.cells
@[simp] theorem rgs_length (l : List Rg) : (rgs l).length = l.length := by simp [rgs]
@[simp] theorem rgs_nil : rgs [] = [] := rfl
@[simp] theorem rgs_append (l m : List Rg) : rgs l ++ rgs m = rgs (l ++ m) := by simp [rgs]
@[simp] theorem rgs_getElem (l : List Rg) (n : Nat) (h : n < (rgs l).length) : (rgs l)[n] = .agg (l[n]'(by simpa using h)).cells := by simp [rgs]
@[simp high] theorem rgs_get (l : List Rg) (n : Nat) : (rgs l)[n]? = (l[n]?).map fun p => .agg p.cells := by simp [rgs]
@[simp] theorem rgs_nil_iff {l : List Rg} : rgs l = [] ↔ l = [] := by cases l <;> simp [rgs]
@[simp] theorem rgs_empty (l : List Rg) : (rgs l).isEmpty = l.isEmpty := by cases l <;> simp [rgs]
@[simp] theorem cells_length (r : Rg) : r.cells.length = 4 := rfl
@[simp] theorem plain_rg (r : Rg) : Plain (.agg r.cells) := .agg _ fun x hx => by
  simp only [Rg.cells, List.mem_cons, List.not_mem_nil, or_false] at hx
  rcases hx with rfl | rfl | rfl | rfl <;> exact ⟨_, rfl⟩
theorem rgs_data {l : List Rg} (x : PV) (h : x ∈ rgs l) : Data x := by
  simp only [rgs, List.mem_map] at h
  obtain ⟨n, _, rfl⟩ := h
  rw [data_agg']
  intro x hx
  simp only [Rg.cells, List.mem_cons, List.not_mem_nil, or_false] at hx
  rcases hx with rfl | rfl | rfl | rfl <;> simp [Value.oneCell', PV.isAgg]
@[simp] theorem rgs_allData {l : List Rg} : (∀ x, x ∈ rgs l → Data x) = True := eq_true fun _ => rgs_data _
@[simp] theorem cells_take (r : Rg) : r.cells.take 4 = r.cells := rfl
@[simp] theorem cells_get0 (r : Rg) : r.cells[0]? = some (.lit (.string r.lo)) := rfl
@[simp] theorem cells_get1 (r : Rg) : r.cells[1]? = some (.lit (.string r.hi)) := rfl
@[simp] theorem cells_get2 (r : Rg) : r.cells[2]? = some (.lit (.int .i64 r.many)) := rfl
@[simp] theorem cells_get3 (r : Rg) : r.cells[3]? = some (.lit (.string r.mark)) := rfl
@[simp] theorem cells_at0 (r : Rg) (h : 0 < r.cells.length) : r.cells[0]'h = .lit (.string r.lo) := rfl
@[simp] theorem cells_at1 (r : Rg) (h : 1 < r.cells.length) : r.cells[1]'h = .lit (.string r.hi) := rfl
@[simp] theorem cells_at2 (r : Rg) (h : 2 < r.cells.length) : r.cells[2]'h = .lit (.int .i64 r.many) := rfl
@[simp] theorem cells_at3 (r : Rg) (h : 3 < r.cells.length) : r.cells[3]'h = .lit (.string r.mark) := rfl
@[simp ↓] theorem cells_scrub (F : Own → Option Own) (p : Nat → Option Nat) (r : Rg) : PV.scrubL F p r.cells = r.cells := by simp [Rg.cells, PV.scrubL, PV.scrub]
@[simp ↓ high] theorem cells_all (r : Rg) : (∀ x, x ∈ r.cells → Data x ∧ x.isAgg = false) = True := eq_true fun x hx => by
  simp only [Rg.cells, List.mem_cons, List.not_mem_nil, or_false] at hx
  rcases hx with rfl | rfl | rfl | rfl <;> simp [Value.oneCell', PV.isAgg]
@[simp ↓ high] theorem cells_toksL (r : Rg) : PV.toks.toksL r.cells = [] := rfl
@[simp ↓] theorem cells_view (r : Rg) : PV.viewL r.cells = r.cells := by simp [Rg.cells]
@[simp ↓] theorem cells_ids (r : Rg) : idsOfL r.cells = [] := by simp [Rg.cells]
@[simp ↓] theorem cells_toks (r : Rg) : toksOfL r.cells = [] := by simp [Rg.cells]

@[simp ↓ high] theorem cells_plainB (r : Rg) : (r.cells.all fun y => y.plain && !y.isAgg) = true := rfl
@[simp ↓ high] theorem cells_plainA (r : Rg) : (∀ x, x ∈ r.cells → (x.plain && !x.isAgg) = true) = True := eq_true fun x hx => by
  simp only [Rg.cells, List.mem_cons, List.not_mem_nil, or_false] at hx
  rcases hx with rfl | rfl | rfl | rfl <;> rfl
@[simp ↓ high] theorem cells_plainC (r : Rg) : (∀ x, x ∈ r.cells → x.plain = true ∧ x.isAgg = false) = True := eq_true fun x hx => by
  simp only [Rg.cells, List.mem_cons, List.not_mem_nil, or_false] at hx
  rcases hx with rfl | rfl | rfl | rfl <;> exact ⟨rfl, rfl⟩
@[simp ↓ high] theorem cells_noOwn (r : Rg) : noOwn r.cells = true := rfl
@[simp] theorem writeAt_cells (r : Rg) (a b c d : PV) : writeAt [a, b, c, d] 0 r.cells = r.cells := rfl

/-- A message. -/
structure Ms where
  kind : Int
  nr : Bool
  rs : List Rg
  lo : ByteArray
  hi : ByteArray
  ni : Bool
  ids : List ByteArray
  bundle : ByteArray
  index : Int
  many : Int
  nb : Bool
  body : List Int
def Ms.cells (m : Ms) : List PV := [.lit (.int .i64 m.kind), .sl .imm m.nr 4 (rgs m.rs), .lit (.string m.lo), .lit (.string m.hi), .sl .imm m.ni 1 (idc m.ids), .lit (.string m.bundle), .lit (.int .i64 m.index), .lit (.int .i64 m.many), .sl .imm m.nb 1 (u8s m.body)]
end Go.Sy
namespace Go.Proofs.Ytbialojkkhkjeaa
open Go.Sy
set_option maxRecDepth 100000 in
set_option maxHeartbeats 4000000 in
theorem less_fn (p q : ByteArray) (hp : p.size ≤ 1000000) : Fc Try.prog 50 [.lit (.string p), .lit (.string q)] [] (.lit (.bool (ltS p q))) [] := by
  refine Fc.of (anys _ []) sch50 mixed Try.func50 rfl (by rfl) (by simp [Try.ntmps50]) (by decide) ?_
  have lp := bs_length p
  have lq := bs_length q
  simp -implicitDefEqProofs -dsimp [Try.ntmps50]
  refine LpK.mk (anys _ []) mixed (fun i : Nat => i ≤ p.size ∧ i ≤ q.size ∧ (bs p).take i = (bs q).take i) (fun i => ⟨[(0, .lit (.string p)), (1, .lit (.string q)), (5, .lit (.int .i64 i))], [], 37⟩) (fun i => p.size - i) 0 ⟨by omega, by omega, rfl⟩ (by simp -implicitDefEqProofs -dsimp) ?_
  rintro i ⟨h1, h2, h3⟩
  rw [ltS_ltI]
  by_cases c1 : i < p.size
  · by_cases c2 : i < q.size
    · have i1 : i < (bs p).length := by omega
      have i2 : i < (bs q).length := by omega
      obtain ⟨x, hx⟩ : ∃ x, (bs p)[i] = x := ⟨_, rfl⟩
      obtain ⟨y, hy⟩ : ∃ y, (bs q)[i] = y := ⟨_, rfl⟩
      have hx' : (bs p)[i]? = some x := by rw [List.getElem?_eq_getElem i1, hx]
      have hy' : (bs q)[i]? = some y := by rw [List.getElem?_eq_getElem i2, hy]
      have gx : indexPV Try.prog 9 (.lit (.string p)) (.lit (.int .i64 (i : Int))) = some (.lit (.int .u8 x)) := index_str Try.underlying9 p .i64 i x hx'
      have gy : indexPV Try.prog 9 (.lit (.string q)) (.lit (.int .i64 (i : Int))) = some (.lit (.int .u8 y)) := index_str Try.underlying9 q .i64 i y hy'
      have w : IntKind.i64.wrap ((i : Int) + 1) = (i : Int) + 1 := wrap64 (by omega) (by omega)
      by_cases hxy : x = y
      · subst hxy
        simp -implicitDefEqProofs -dsimp [c1, c2, gx, gy, w]
        exact .mk (i + 1) ⟨by omega, by omega, by rw [List.take_succ_eq_append_getElem i1, List.take_succ_eq_append_getElem i2, h3, hx, hy]⟩ (by omega) (by simp -implicitDefEqProofs -dsimp)
      · have hl := ltI_at i1 i2 h3 (by rw [hx, hy]; exact hxy)
        rw [hx, hy] at hl
        simp -implicitDefEqProofs -dsimp [c1, c2, gx, gy, hxy, hl]
    · have hl := ltI_end (i := i) (by omega) (by omega) h3 (by omega)
      rw [lp, lq] at hl
      simp -implicitDefEqProofs -dsimp [c1, c2, hl]
  · have hl := ltI_end (i := i) (by omega) (by omega) h3 (by omega)
    rw [lp, lq] at hl
    simp -implicitDefEqProofs -dsimp [c1, hl]

end Go.Proofs.Ytbialojkkhkjeaa

/-! Checks of bytes. -/
namespace Go.Sy
/-- A bit further. -/
def stN (r : Nat) : Nat := r / 2 ^^^ (if r % 2 = 1 then 3988292384 else 0)
def it8 (r : Nat) : Nat → Nat
  | 0 => r
  | k + 1 => stN (it8 r k)
def byN (r x : Nat) : Nat := it8 (r ^^^ x) 8
/-- Behind bytes. -/
def crcR (b : List Int) (r : Nat) : Nat := b.foldl (fun r x => byN r x.toNat) r
def crc (b : List Int) : Nat := 4294967295 - crcR b 4294967295
theorem xor_lt {a b n : Nat} (ha : a < 2 ^ n) (hb : b < 2 ^ n) : a ^^^ b < 2 ^ n := Nat.xor_lt_two_pow ha hb
theorem stN_lt {r : Nat} (h : r < 4294967296) : stN r < 4294967296 := by
  unfold stN
  refine xor_lt (n := 32) (by omega) ?_
  split <;> decide
theorem it8_lt {r : Nat} (h : r < 4294967296) : ∀ k, it8 r k < 4294967296
  | 0 => h
  | k + 1 => stN_lt (it8_lt h k)
theorem byN_lt {r x : Nat} (h : r < 4294967296) (hx : x < 256) : byN r x < 4294967296 := it8_lt (xor_lt (n := 32) h (by omega)) 8
theorem crcR_lt : ∀ {b : List Int} {r : Nat}, InB b → r < 4294967296 → crcR b r < 4294967296
  | [], _, _, h => h
  | x :: b, r, hb, h => crcR_lt (b := b) (fun y hy => hb y (by simp [hy])) (byN_lt h (by have := hb x (by simp); omega))
theorem crc_lt (b : List Int) : crc b < 4294967296 := by unfold crc; omega
theorem crcR_snoc (b : List Int) (r : Nat) {i : Nat} {x : Int} (hx : b[i]? = some x) : crcR (b.take (i + 1)) r = byN (crcR (b.take i) r) x.toNat := by
  unfold crcR
  rw [List.take_add_one, hx, List.foldl_append]; rfl
theorem step_val {r : Nat} (h : r < 4294967296) : ixor .u32 (ishr .u32 (r : Int) 1) (IntKind.u32.wrap (3988292384 * iand .u32 (r : Int) 1)) = ((stN r : Nat) : Int) := by
  have h1 : ishr .u32 (r : Int) 1 = ((r / 2 : Nat) : Int) := by
    unfold ishr
    rw [show (min (1 : Int).toNat IntKind.u32.bits) = 1 by decide, Int.fdiv_eq_ediv_of_nonneg _ (by decide)]
    omega
  have h2 : iand .u32 (r : Int) 1 = ((r % 2 : Nat) : Int) := by
    rw [iand_nat (by rfl) (by omega) (by simp [IntKind.bits]; omega) (by omega) (by simp [IntKind.bits])]
    congr 1
    simp only [Int.toNat_natCast]
    rw [show (1 : Int).toNat = 1 from rfl, Nat.and_one_is_mod]
  rw [h1, h2, wrap_is_u32]
  have h3 : (3988292384 * ((r % 2 : Nat) : Int)) % 4294967296 = (((if r % 2 = 1 then 3988292384 else 0 : Nat)) : Int) := by
    rcases Nat.mod_two_eq_zero_or_one r with e | e <;> simp [e]
  rw [h3, ixor_nat (by rfl) (by omega) (by simp [IntKind.bits]; omega) (by omega) (by split <;> simp [IntKind.bits])]
  rfl
theorem xor_nat32 {a b : Nat} (ha : a < 4294967296) (hb : b < 4294967296) : ixor .u32 (a : Int) (b : Int) = ((a ^^^ b : Nat) : Int) := by
  rw [ixor_nat (by rfl) (by omega) (by simp [IntKind.bits]; omega) (by omega) (by simp [IntKind.bits]; omega)]
  simp
theorem inot_nat32 {a : Nat} (ha : a < 4294967296) : inot .u32 (a : Int) = ((4294967295 - a : Nat) : Int) := by
  unfold inot
  rw [show (if IntKind.u32.signed then (-1 : Int) else IntKind.u32.max) = ((4294967295 : Nat) : Int) by decide, xor_nat32 (by decide) ha]
  have h2 : (4294967295 : Nat) ^^^ a = 4294967295 - a := by
    apply Nat.eq_of_testBit_eq
    intro i
    rw [Nat.testBit_xor]
    have h3 : (4294967295 : Nat) - a = 2 ^ 32 - (a + 1) := by omega
    rw [h3, Nat.testBit_two_pow_sub_succ (by omega), show (4294967295 : Nat) = 2 ^ 32 - 1 by decide, Nat.testBit_two_pow_sub_one]
    by_cases h : i < 32
    · simp [h]
    · have : a.testBit i = false := Nat.testBit_lt_two_pow (Nat.lt_of_lt_of_le ha (by rw [show (4294967296 : Nat) = 2 ^ 32 by decide]; exact Nat.pow_le_pow_right (by decide) (by omega)))
      simp [h, this]
  rw [h2]
end Go.Sy
namespace Go.Proofs.Ytbialojkkhkjeaa
open Go.Sy
set_option maxRecDepth 100000 in
set_option maxHeartbeats 4000000 in
theorem check_fn (nl : Bool) (b : List Int) (hb : InB b) (hl : b.length ≤ 10000000) : Fc Try.prog 10 [.sl .imm nl 1 (u8s b)] [] (.lit (.int .u32 (crc b))) [] := by
  refine Fc.of (anys _ []) [] mixed Try.func10 rfl (by rfl) (by simp [Try.ntmps10]) (by decide) ?_
  simp -implicitDefEqProofs -dsimp [Try.ntmps10]
  refine LpK.mk (anys _ []) mixed (fun i : Nat => i ≤ b.length) (fun i => ⟨[(6, .sl .imm nl 1 (u8s b)), (7, .lit (.int .i64 b.length)), (3, .lit (.int .u32 (crcR (b.take i) 4294967295))), (8, .lit (.int .i64 i))], [], 28⟩) (fun i => b.length - i) 0 (by simp) (by simp -implicitDefEqProofs -dsimp [crcR]) ?_
  intro i hi
  have hr := crcR_lt (b := b.take i) (r := 4294967295) (hb.take i) (by decide)
  by_cases hlt : i < b.length
  · obtain ⟨x, hx⟩ : ∃ x, b[i] = x := ⟨_, rfl⟩
    have hx' : b[i]? = some x := by rw [List.getElem?_eq_getElem hlt, hx]
    have hxb := hb x (hx ▸ List.getElem_mem hlt)
    have hw : IntKind.i64.wrap ((i : Int) + 1) = (i : Int) + 1 := wrap64 (by omega) (by omega)
    have hn := crcR_snoc b 4294967295 hx'
    obtain ⟨r, hrr⟩ : ∃ r, r = crcR (b.take i) 4294967295 := ⟨_, rfl⟩
    rw [← hrr] at hn hr ⊢
    obtain ⟨y, rfl⟩ := Int.eq_ofNat_of_zero_le hxb.1
    have hy : IntKind.u32.wrap (y : Int) = y := by rw [wrap_is_u32]; omega
    have hxor := xor_nat32 hr (show y < 4294967296 by omega)
    have hq : r ^^^ y < 4294967296 := xor_lt (n := 32) hr (by omega)
    have hby : byN r y = it8 (r ^^^ y) 8 := rfl
    simp only [Int.toNat_natCast] at hn
    simp -implicitDefEqProofs -dsimp [hlt, hx, hx', hy, hxor]
    obtain ⟨q, hqq⟩ : ∃ q, q = r ^^^ y := ⟨_, rfl⟩
    rw [← hqq] at hq hby ⊢
    refine LpK.mk (anys _ []) mixed (fun k : Nat => k ≤ 8) (fun k => ⟨[(6, .sl .imm nl 1 (u8s b)), (7, .lit (.int .i64 b.length)), (8, .lit (.int .i64 i)), (3, .lit (.int .u32 (it8 q k))), (16, .lit (.int .i64 k))], [], 28⟩) (fun k => 8 - k) 0 (by simp) (by simp -implicitDefEqProofs -dsimp [it8]) ?_
    intro k hk
    have hit := it8_lt hq k
    by_cases hk8 : k < 8
    · have hk' : (k : Int) < 8 := by omega
      have hw2 : IntKind.i64.wrap ((k : Int) + 1) = (k : Int) + 1 := wrap64 (by omega) (by omega)
      have hst := step_val hit
      simp -implicitDefEqProofs -dsimp [hk', hw2, hst]
      exact .mk (k + 1) hk8 (by omega) (by simp -implicitDefEqProofs -dsimp [it8])
    · have e : k = 8 := by omega
      subst e
      simp -implicitDefEqProofs -dsimp [hw]
      exact .mk (i + 1) hlt (by omega) (by simp -implicitDefEqProofs -dsimp [hn, hby])
  · have e : i = b.length := by omega
    subst e
    rw [List.take_length] at hr
    have hn := inot_nat32 hr
    simp -implicitDefEqProofs -dsimp [hn, crc]
end Go.Proofs.Ytbialojkkhkjeaa

/-! Whether a message is right. -/
namespace Go.Sy
section
variable {P : Program} {t : TypeId} {x y : Operand}
theorem leq_lt (p q : ByteArray) : (ltS p q || decide (p = q)) = !ltS q p := by
  by_cases h : ltS q p = true
  · have h1 := lt_asymm h
    have h2 : p ≠ q := fun e => lt_ne h e.symm
    simp [h, h1, h2]
  · have h : ltS q p = false := by simpa using h
    rw [h]
    by_cases e : p = q
    · simp [e]
    · cases h1 : ltS p q with
      | true => rfl
      | false => exact absurd (lt_tri h1 h) e
@[simp] theorem bin_leq_str (p q : ByteArray) : binPV P .leq t x y (.lit (.string p)) (.lit (.string q)) = some (.lit (.bool (!ltS q p))) := by
  simp [binPV, valOf, eqGuard, binOp, Op.stringOp, pureOf_pure, ba_eq]
  exact leq_lt p q
end
/-- Can an id be one? -/
def idB (x : ByteArray) (none : Bool) : Bool := decide (x.size = 32) || (none && decide (x = ⟨#[]⟩))
/-- Do ids rise, and can each be one? -/
def upAt (l : List ByteArray) (i : Nat) : Bool := decide ((l.getD i ⟨#[]⟩).size = 32) && (decide (i = 0) || ltS (l.getD (i - 1) ⟨#[]⟩) (l.getD i ⟨#[]⟩))
def upB (l : List ByteArray) : Bool := (List.range l.length).all (upAt l)
def idsB (l : List ByteArray) (least : Int) : Bool := upB l && (decide (least ≤ (l.length : Int)) && decide ((l.length : Int) ≤ 64))
def spanB (r : Rg) : Bool := idB r.lo true && (idB r.hi true && (idB r.mark false && (decide (0 ≤ r.many) && decide (r.many ≤ 1099511627776))))
/-- Has a message nothing but what some parts are? -/
def emptyB (m : Ms) (r b i p : Bool) : Bool := (r || decide (m.rs = [])) && ((b || (decide (m.lo = ⟨#[]⟩) && decide (m.hi = ⟨#[]⟩))) && ((i || decide (m.ids = [])) && (p || (decide (m.bundle = ⟨#[]⟩) && (decide (m.index = 0) && (decide (m.many = 0) && decide (m.body = [])))))))
def rightB (m : Ms) : Bool :=
  if m.kind = 1 then emptyB m true false false false && (decide (1 ≤ (m.rs.length : Int)) && (decide ((m.rs.length : Int) ≤ 2) && m.rs.all spanB))
  else if m.kind = 2 then emptyB m false true true false && (idB m.lo true && (idB m.hi true && idsB m.ids 0))
  else if m.kind = 3 then emptyB m false false true false && idsB m.ids 1
  else if m.kind = 4 then emptyB m false false false true && (idB m.bundle false && (decide (1 ≤ m.many) && (decide (m.many ≤ 16384) && (decide (0 ≤ m.index) && (decide (m.index < m.many) && (decide (1 ≤ (m.body.length : Int)) && decide ((m.body.length : Int) ≤ 1024)))))))
  else false
@[simp ↓ high] theorem cells_lend (r : Rg) : lendCells r.cells = some r.cells := rfl
@[simp ↓ high] theorem cells_lendA (h : List (Nat × Ob)) (r : Rg) : lend h (.agg r.cells) = some (.agg r.cells) := rfl
end Go.Sy
namespace Go.Proofs.Ytbialojkkhkjeaa
open Go.Sy
set_option maxRecDepth 100000 in
set_option maxHeartbeats 4000000 in
theorem id_fn (x : ByteArray) (n : Bool) : Fc Try.prog 27 [.lit (.string x), .lit (.bool n)] [] (.lit (.bool (idB x n))) [] := by
  have e : decide ((x.size : Int) = 32) = decide (x.size = 32) := by congr 1; rw [eq_iff_iff]; omega
  refine Fc.of (anys _ []) [] mixed Try.func27 rfl (by rfl) (by simp [Try.ntmps27]) (by decide) ?_
  by_cases h : (x.size : Int) = 32
  · have h' : x.size = 32 := by omega
    simp -implicitDefEqProofs -dsimp [Try.ntmps27, h, idB, h']
  · have h' : ¬ x.size = 32 := by omega
    cases n
    · simp -implicitDefEqProofs -dsimp [Try.ntmps27, h, idB, h']
    · simp -implicitDefEqProofs -dsimp [Try.ntmps27, h, idB, h']

theorem up_at {l : List ByteArray} {i : Nat} {p q : ByteArray} (hp : l[i]? = some p) (hq : 0 < i → l[i - 1]? = some q) : upAt l i = (decide (p.size = 32) && (decide (i = 0) || ltS q p)) := by
  unfold upAt
  rw [List.getD_eq_getElem?_getD, List.getD_eq_getElem?_getD, hp]
  by_cases h : i = 0
  · simp [h]
  · rw [hq (by omega)]; rfl
theorem up_false {l : List ByteArray} {i : Nat} (hi : i < l.length) (h : upAt l i = false) : upB l = false := by
  unfold upB
  rw [List.all_eq_false]
  exact ⟨i, by simpa using hi, by simp [h]⟩
theorem up_true {l : List ByteArray} (h : ∀ j, j < l.length → upAt l j = true) : upB l = true := by
  unfold upB
  rw [List.all_eq_true]
  exact fun j hj => h j (by simpa using hj)

set_option maxRecDepth 100000 in
set_option maxHeartbeats 4000000 in
theorem ids_ok (nl : Bool) (l : List ByteArray) (least : Int) (hl : l.length < 9223372036854775807) : Fc Try.prog 28 [.sl .imm nl 1 (idc l), .lit (.int .i64 least)] [] (.lit (.bool (idsB l least))) [] := by
  refine Fc.of (anys _ [27]) [] mixed Try.func28 rfl (by rfl) (by simp [Try.ntmps28]) (by decide) ?_
  simp -implicitDefEqProofs -dsimp [Try.ntmps28]
  refine LpK.mk (anys _ [27]) mixed (fun i : Nat => i ≤ l.length ∧ ∀ j, j < i → upAt l j = true) (fun i => ⟨[(0, .sl .imm nl 1 (idc l)), (1, .lit (.int .i64 least)), (7, .sl .imm nl 1 (idc l)), (8, .lit (.int .i64 l.length)), (9, .lit (.int .i64 i))], [], 40⟩) (fun i => l.length - i) 0 ⟨by omega, fun j h => by omega⟩ (by simp -implicitDefEqProofs -dsimp) ?_
  rintro i ⟨hi, hup⟩
  by_cases hlt : i < l.length
  · obtain ⟨p, hp⟩ : ∃ p, l[i] = p := ⟨_, rfl⟩
    have hp' : l[i]? = some p := by rw [List.getElem?_eq_getElem hlt, hp]
    have hw : IntKind.i64.wrap ((i : Int) + 1) = (i : Int) + 1 := wrap64 (by omega) (by omega)
    simp -implicitDefEqProofs -dsimp [hlt, hp, hp', hw]
    refine CallK.reads ?_
    simp -implicitDefEqProofs -dsimp
    refine CallQ.same (id_fn p false) rfl ?_
    simp -implicitDefEqProofs -dsimp [hlt, hp, hp', hw]
    by_cases h0 : i = 0
    · subst h0
      have hu := up_at (q := p) hp' (fun h => by omega)
      simp only [decide_true, Bool.true_or, Bool.and_true] at hu
      have w1 : IntKind.i64.wrap 1 = 1 := by decide
      by_cases hs : p.size = 32
      · simp -implicitDefEqProofs -dsimp [idB, hs]
        exact .mk 1 ⟨by omega, fun j hj => by
          have : j = 0 := by omega
          subst this; rw [hu]; simp [hs]⟩ (by omega) (by simp -implicitDefEqProofs -dsimp [w1])
      · have hf := up_false hlt (hu.trans (by simp [hs]))
        simp -implicitDefEqProofs -dsimp [idB, hs, idsB, hf]
    · have h0' : 0 < i := by omega
      obtain ⟨q, hq⟩ : ∃ q, l[i - 1]? = some q := ⟨_, List.getElem?_eq_getElem (by omega)⟩
      have hq1 : ∀ h, l[i - 1]'h = q := fun h => by rw [List.getElem?_eq_getElem h] at hq; exact Option.some.inj hq
      have hw2 : IntKind.i64.wrap ((i : Int) - 1) = (i : Int) - 1 := wrap64 (by omega) (by omega)
      have hi1 : ((i : Int) - 1).toNat = i - 1 := by omega
      have hi2 : (0 : Int) ≤ (i : Int) - 1 := by omega
      have hi3 : i - 1 < l.length := by omega
      have hi4 : (1 : Int) ≤ i := by omega
      have hu := up_at hp' (fun _ => hq)
      simp only [h0, decide_false, Bool.false_or] at hu
      by_cases hs : p.size = 32
      · by_cases hc : ltS q p = true
        · simp -implicitDefEqProofs -dsimp [idB, hs, h0', hq, hq1, hw2, hi1, hi2, hi3, hi4, hc, hw, hlt, hp, hp', h0]
          refine .mk (i + 1) ⟨hlt, fun j hj => ?_⟩ (by omega) (by simp -implicitDefEqProofs -dsimp)
          rcases Nat.lt_or_ge j i with h | h
          · exact hup j h
          · have : j = i := by omega
            subst this; rw [hu]; simp [hs, hc]
        · have hf := up_false hlt (hu.trans (by simp [hc]))
          simp -implicitDefEqProofs -dsimp [idB, hs, h0', hq, hq1, hw2, hi1, hi2, hi3, hi4, hc, hw, hlt, hp, hp', h0, idsB, hf]
      · have hf := up_false hlt (hu.trans (by simp [hs]))
        simp -implicitDefEqProofs -dsimp [idB, hs, idsB, hf]
  · have e : i = l.length := by omega
    subst e
    have hf := up_true hup
    by_cases c1 : least ≤ (l.length : Int)
    · simp -implicitDefEqProofs -dsimp [hlt, hf, idsB, c1]
    · simp -implicitDefEqProofs -dsimp [hlt, hf, idsB, c1]

set_option maxRecDepth 100000 in
set_option maxHeartbeats 4000000 in
theorem span_fn (r : Rg) : Fc Try.prog 49 [.agg r.cells] [] (.lit (.bool (spanB r))) [] := by
  refine Fc.of (anys _ [27]) [] mixed Try.func49 rfl (by rfl) (by simp [Try.ntmps49]) (by decide) ?_
  simp -implicitDefEqProofs -dsimp [Try.ntmps49, Rg.cells]
  refine CallK.reads ?_
  simp -implicitDefEqProofs -dsimp
  refine CallQ.same (id_fn r.lo true) rfl ?_
  simp -implicitDefEqProofs -dsimp
  by_cases c1 : idB r.lo true = true
  · simp -implicitDefEqProofs -dsimp [c1]
    refine CallK.reads ?_
    simp -implicitDefEqProofs -dsimp
    refine CallQ.same (id_fn r.hi true) rfl ?_
    simp -implicitDefEqProofs -dsimp [c1]
    by_cases c2 : idB r.hi true = true
    · simp -implicitDefEqProofs -dsimp [c2]
      refine CallK.reads ?_
      simp -implicitDefEqProofs -dsimp
      refine CallQ.same (id_fn r.mark false) rfl ?_
      simp -implicitDefEqProofs -dsimp [c1, c2]
      by_cases c3 : idB r.mark false = true
      · by_cases c4 : 0 ≤ r.many
        · simp -implicitDefEqProofs -dsimp [c1, c2, c3, c4, spanB]
        · simp -implicitDefEqProofs -dsimp [c1, c2, c3, c4, spanB]
      · simp -implicitDefEqProofs -dsimp [c1, c2, c3, spanB]
    · simp -implicitDefEqProofs -dsimp [c1, c2, spanB]
  · simp -implicitDefEqProofs -dsimp [c1, spanB]
set_option maxRecDepth 100000 in
set_option maxHeartbeats 4000000 in
theorem wide_fn (r : Rg) : Fc Try.prog 26 [.agg r.cells] [] (.lit (.bool (!spanB r))) [] := by
  refine Fc.of (anys _ [49]) [] mixed Try.func26 rfl (by rfl) (by simp [Try.ntmps26]) (by decide) ?_
  simp -implicitDefEqProofs -dsimp [Try.ntmps26]
  refine CallK.reads ?_
  simp -implicitDefEqProofs -dsimp
  refine CallQ.same (span_fn r) rfl ?_
  simp -implicitDefEqProofs -dsimp
end Go.Proofs.Ytbialojkkhkjeaa

/-! Whether a message has nothing but what some parts are. -/
namespace Go.Proofs.Ytbialojkkhkjeaa
open Go.Sy
set_option maxRecDepth 100000 in
set_option maxHeartbeats 8000000 in
theorem empty_tfff (m : Ms) : Fc Try.prog 24 [.agg m.cells, .lit (.bool true), .lit (.bool false), .lit (.bool false), .lit (.bool false)] [] (.lit (.bool (emptyB m true false false false))) [] := by
  refine Fc.of (anys _ []) [] mixed Try.func24 rfl (by rfl) (by simp [Try.ntmps24]) (by decide) ?_
  by_cases c2 : m.lo = ⟨#[]⟩
  · by_cases c3 : m.hi = ⟨#[]⟩
    · by_cases c4 : m.ids = []
      · by_cases c5 : m.bundle = ⟨#[]⟩
        · by_cases c6 : m.index = 0
          · by_cases c7 : m.many = 0
            · by_cases c8 : m.body = []
              · simp -implicitDefEqProofs -dsimp [Try.ntmps24, emptyB, Ms.cells, c2, c3, c4, c5, c6, c7, c8]
              · simp -implicitDefEqProofs -dsimp [Try.ntmps24, emptyB, Ms.cells, c2, c3, c4, c5, c6, c7, c8]
            · simp -implicitDefEqProofs -dsimp [Try.ntmps24, emptyB, Ms.cells, c2, c3, c4, c5, c6, c7]
          · simp -implicitDefEqProofs -dsimp [Try.ntmps24, emptyB, Ms.cells, c2, c3, c4, c5, c6]
        · simp -implicitDefEqProofs -dsimp [Try.ntmps24, emptyB, Ms.cells, c2, c3, c4, c5]
      · simp -implicitDefEqProofs -dsimp [Try.ntmps24, emptyB, Ms.cells, c2, c3, c4]
    · simp -implicitDefEqProofs -dsimp [Try.ntmps24, emptyB, Ms.cells, c2, c3]
  · simp -implicitDefEqProofs -dsimp [Try.ntmps24, emptyB, Ms.cells, c2]
set_option maxRecDepth 100000 in
set_option maxHeartbeats 8000000 in
theorem empty_fttf (m : Ms) : Fc Try.prog 24 [.agg m.cells, .lit (.bool false), .lit (.bool true), .lit (.bool true), .lit (.bool false)] [] (.lit (.bool (emptyB m false true true false))) [] := by
  refine Fc.of (anys _ []) [] mixed Try.func24 rfl (by rfl) (by simp [Try.ntmps24]) (by decide) ?_
  by_cases c1 : m.rs = []
  · by_cases c5 : m.bundle = ⟨#[]⟩
    · by_cases c6 : m.index = 0
      · by_cases c7 : m.many = 0
        · by_cases c8 : m.body = []
          · simp -implicitDefEqProofs -dsimp [Try.ntmps24, emptyB, Ms.cells, c1, c5, c6, c7, c8]
          · simp -implicitDefEqProofs -dsimp [Try.ntmps24, emptyB, Ms.cells, c1, c5, c6, c7, c8]
        · simp -implicitDefEqProofs -dsimp [Try.ntmps24, emptyB, Ms.cells, c1, c5, c6, c7]
      · simp -implicitDefEqProofs -dsimp [Try.ntmps24, emptyB, Ms.cells, c1, c5, c6]
    · simp -implicitDefEqProofs -dsimp [Try.ntmps24, emptyB, Ms.cells, c1, c5]
  · simp -implicitDefEqProofs -dsimp [Try.ntmps24, emptyB, Ms.cells, c1]
set_option maxRecDepth 100000 in
set_option maxHeartbeats 8000000 in
theorem empty_fftf (m : Ms) : Fc Try.prog 24 [.agg m.cells, .lit (.bool false), .lit (.bool false), .lit (.bool true), .lit (.bool false)] [] (.lit (.bool (emptyB m false false true false))) [] := by
  refine Fc.of (anys _ []) [] mixed Try.func24 rfl (by rfl) (by simp [Try.ntmps24]) (by decide) ?_
  by_cases c1 : m.rs = []
  · by_cases c2 : m.lo = ⟨#[]⟩
    · by_cases c3 : m.hi = ⟨#[]⟩
      · by_cases c5 : m.bundle = ⟨#[]⟩
        · by_cases c6 : m.index = 0
          · by_cases c7 : m.many = 0
            · by_cases c8 : m.body = []
              · simp -implicitDefEqProofs -dsimp [Try.ntmps24, emptyB, Ms.cells, c1, c2, c3, c5, c6, c7, c8]
              · simp -implicitDefEqProofs -dsimp [Try.ntmps24, emptyB, Ms.cells, c1, c2, c3, c5, c6, c7, c8]
            · simp -implicitDefEqProofs -dsimp [Try.ntmps24, emptyB, Ms.cells, c1, c2, c3, c5, c6, c7]
          · simp -implicitDefEqProofs -dsimp [Try.ntmps24, emptyB, Ms.cells, c1, c2, c3, c5, c6]
        · simp -implicitDefEqProofs -dsimp [Try.ntmps24, emptyB, Ms.cells, c1, c2, c3, c5]
      · simp -implicitDefEqProofs -dsimp [Try.ntmps24, emptyB, Ms.cells, c1, c2, c3]
    · simp -implicitDefEqProofs -dsimp [Try.ntmps24, emptyB, Ms.cells, c1, c2]
  · simp -implicitDefEqProofs -dsimp [Try.ntmps24, emptyB, Ms.cells, c1]
set_option maxRecDepth 100000 in
set_option maxHeartbeats 8000000 in
theorem empty_ffft (m : Ms) : Fc Try.prog 24 [.agg m.cells, .lit (.bool false), .lit (.bool false), .lit (.bool false), .lit (.bool true)] [] (.lit (.bool (emptyB m false false false true))) [] := by
  refine Fc.of (anys _ []) [] mixed Try.func24 rfl (by rfl) (by simp [Try.ntmps24]) (by decide) ?_
  by_cases c1 : m.rs = []
  · by_cases c2 : m.lo = ⟨#[]⟩
    · by_cases c3 : m.hi = ⟨#[]⟩
      · by_cases c4 : m.ids = []
        · simp -implicitDefEqProofs -dsimp [Try.ntmps24, emptyB, Ms.cells, c1, c2, c3, c4]
        · simp -implicitDefEqProofs -dsimp [Try.ntmps24, emptyB, Ms.cells, c1, c2, c3, c4]
      · simp -implicitDefEqProofs -dsimp [Try.ntmps24, emptyB, Ms.cells, c1, c2, c3]
    · simp -implicitDefEqProofs -dsimp [Try.ntmps24, emptyB, Ms.cells, c1, c2]
  · simp -implicitDefEqProofs -dsimp [Try.ntmps24, emptyB, Ms.cells, c1]
end Go.Proofs.Ytbialojkkhkjeaa

/-! Whether a message is right: the program's. -/
namespace Go.Proofs.Ytbialojkkhkjeaa
open Go.Sy
/-- The first range that can't be one; below 0: each can. -/
def idxW (rs : List Rg) : Int := if rs.all spanB then -1 else ((rs.takeWhile spanB).length : Int)
theorem idxW_nonneg (rs : List Rg) : decide (0 ≤ idxW rs) = !rs.all spanB := by
  unfold idxW
  cases rs.all spanB <;> simp
theorem take_at {q : Rg → Bool} : ∀ {l : List Rg} {i : Nat}, i ≤ l.length → (∀ k (h : k < l.length), k < i → q l[k] = true) → (∀ (h : i < l.length), q l[i] = false) → (l.takeWhile q).length = i
  | [], i, h, _, _ => by simp at h; simp [h]
  | x :: l, 0, _, _, h => by have := h (by simp); simp at this; simp [List.takeWhile, this]
  | x :: l, i + 1, hi, h1, h2 => by
    have h0 := h1 0 (by simp) (by omega)
    simp at h0
    rw [List.takeWhile_cons, if_pos h0, List.length_cons, take_at (by simpa using hi) (fun k hk hki => by have := h1 (k + 1) (by simpa using hk) (by omega); simpa using this) (fun h => by have := h2 (by simpa using h); simpa using this)]

set_option maxRecDepth 100000 in
set_option maxHeartbeats 4000000 in
theorem index_fn (nl : Bool) (rs : List Rg) (hl : rs.length < 9223372036854775807) : Fc Try.prog 48 [.sl .imm nl 4 (rgs rs), .fn (.func 26) [] []] [] (.lit (.int .i64 (idxW rs))) [] := by
  refine Fc.of (anys _ [26]) [] mixed Try.func48 rfl (by rfl) (by simp [Try.ntmps48]) (by decide) ?_
  simp -implicitDefEqProofs -dsimp [Try.ntmps48]
  refine LpK.mk (anys _ [26]) mixed (fun i : Nat => i ≤ rs.length ∧ ∀ k (h : k < rs.length), k < i → spanB (rs[k]'h) = true) (fun i => ⟨[(0, .sl .imm nl 4 (rgs rs)), (1, .fn (.func 26) [] []), (7, .lit (.int .i64 rs.length)), (8, .lit (.int .i64 i))], [], 19⟩) (fun i => rs.length - i) 0 ⟨by omega, fun k _ h => by omega⟩ (by simp -implicitDefEqProofs -dsimp) ?_
  rintro i ⟨hi, hall⟩
  by_cases hlt : i < rs.length
  · obtain ⟨r, hr⟩ : ∃ r, rs[i] = r := ⟨_, rfl⟩
    have hr' : rs[i]? = some r := by rw [List.getElem?_eq_getElem hlt, hr]
    have hw : IntKind.i64.wrap ((i : Int) + 1) = (i : Int) + 1 := wrap64 (by omega) (by omega)
    simp -implicitDefEqProofs -dsimp [hlt, hr, hr']
    refine CallK.reads ?_
    simp -implicitDefEqProofs -dsimp
    refine CallQ.same (wide_fn r) rfl ?_
    simp -implicitDefEqProofs -dsimp
    by_cases hs : spanB r = true
    · simp -implicitDefEqProofs -dsimp [hs, hw]
      refine .mk (i + 1) ⟨hlt, fun k hk hki => ?_⟩ (by omega) (by simp -implicitDefEqProofs -dsimp)
      rcases Nat.lt_or_ge k i with h | h
      · exact hall k hk h
      · have : k = i := by omega
        subst this; rw [hr]; exact hs
    · have hs : spanB r = false := by simpa using hs
      have h1 : rs.all spanB = false := by
        rw [List.all_eq_false]; exact ⟨r, hr ▸ List.getElem_mem hlt, by simp [hs]⟩
      have h2 : (rs.takeWhile spanB).length = i := take_at hi hall fun _ => by rw [hr]; exact hs
      have hix : idxW rs = i := by rw [idxW, h1, h2]; simp
      simp -implicitDefEqProofs -dsimp [hs, hix]
  · have e : i = rs.length := by omega
    subst e
    have h1 : rs.all spanB = true := by
      rw [List.all_eq_true]; intro r hr
      obtain ⟨k, hk, rfl⟩ := List.getElem_of_mem hr
      exact hall k hk hk
    have hix : idxW rs = -1 := by rw [idxW, h1]; simp
    simp -implicitDefEqProofs -dsimp [hix]

set_option maxRecDepth 100000 in
set_option maxHeartbeats 4000000 in
theorem contains_fn (nl : Bool) (rs : List Rg) (hl : rs.length < 9223372036854775807) : Fc Try.prog 25 [.sl .imm nl 4 (rgs rs), .fn (.func 26) [] []] [] (.lit (.bool (!rs.all spanB))) [] := by
  refine Fc.of (anys _ [48]) [] mixed Try.func25 rfl (by rfl) (by simp [Try.ntmps25]) (by decide) ?_
  simp -implicitDefEqProofs -dsimp [Try.ntmps25]
  refine CallK.works ?_
  simp -implicitDefEqProofs -dsimp
  refine CallQ.mk (index_fn nl rs hl) (by simp) ?_
  simp -implicitDefEqProofs -dsimp [idxW_nonneg]

set_option maxRecDepth 100000 in
set_option maxHeartbeats 8000000 in
theorem right_fn (m : Ms) (hr : m.rs.length ≤ 100000) (hi : m.ids.length ≤ 100000) : Fc Try.prog 16 [.agg m.cells] [] (.lit (.bool (rightB m))) [] := by
  refine Fc.of (anys _ [24, 25, 27, 28]) [] mixed Try.func16 rfl (by rfl) (by simp [Try.ntmps16]) (by decide) ?_
  have e1 := empty_tfff m
  have e2 := empty_fttf m
  have e3 := empty_fftf m
  have e4 := empty_ffft m
  simp only [Ms.cells] at e1 e2 e3 e4
  by_cases k1 : m.kind = 1
  · simp only [k1] at e1
    simp -implicitDefEqProofs -dsimp [Try.ntmps16, Ms.cells, k1]
    refine CallK.reads ?_
    simp -implicitDefEqProofs -dsimp
    refine CallQ.same (e1) rfl ?_
    simp -implicitDefEqProofs -dsimp [rightB, k1]
    by_cases d2 : emptyB m true false false false = true
    · by_cases d3 : 1 ≤ (m.rs.length : Int)
      · by_cases d4 : (m.rs.length : Int) ≤ 2
        · simp -implicitDefEqProofs -dsimp [rightB, k1, d2, d3, d4]
          refine CallK.works ?_
          simp -implicitDefEqProofs -dsimp
          refine CallQ.mk (contains_fn _ m.rs (by omega)) (by simp) ?_
          simp -implicitDefEqProofs -dsimp [rightB, k1, d2, d3, d4]
        · simp -implicitDefEqProofs -dsimp [rightB, k1, d2, d3, d4]
      · simp -implicitDefEqProofs -dsimp [rightB, k1, d2, d3]
    · simp -implicitDefEqProofs -dsimp [rightB, k1, d2]
  · have n1 := k1
    by_cases k2 : m.kind = 2
    · simp only [k2] at e2
      simp -implicitDefEqProofs -dsimp [Try.ntmps16, Ms.cells, n1, k2]
      refine CallK.reads ?_
      simp -implicitDefEqProofs -dsimp
      refine CallQ.same (e2) rfl ?_
      simp -implicitDefEqProofs -dsimp [rightB, k2]
      by_cases d2 : emptyB m false true true false = true
      · simp -implicitDefEqProofs -dsimp [rightB, k2, d2]
        refine CallK.reads ?_
        simp -implicitDefEqProofs -dsimp
        refine CallQ.same (id_fn m.lo true) rfl ?_
        simp -implicitDefEqProofs -dsimp [rightB, k2, d2]
        by_cases d3 : idB m.lo true = true
        · simp -implicitDefEqProofs -dsimp [rightB, k2, d2, d3]
          refine CallK.reads ?_
          simp -implicitDefEqProofs -dsimp
          refine CallQ.same (id_fn m.hi true) rfl ?_
          simp -implicitDefEqProofs -dsimp [rightB, k2, d2, d3]
          by_cases d4 : idB m.hi true = true
          · simp -implicitDefEqProofs -dsimp [rightB, k2, d2, d3, d4]
            refine CallK.reads ?_
            simp -implicitDefEqProofs -dsimp
            refine CallQ.same (ids_ok _ m.ids 0 (by omega)) rfl ?_
            simp -implicitDefEqProofs -dsimp [rightB, k2, d2, d3, d4]
          · simp -implicitDefEqProofs -dsimp [rightB, k2, d2, d3, d4]
        · simp -implicitDefEqProofs -dsimp [rightB, k2, d2, d3]
      · simp -implicitDefEqProofs -dsimp [rightB, k2, d2]
    · have n2 := k2
      by_cases k3 : m.kind = 3
      · simp only [k3] at e3
        simp -implicitDefEqProofs -dsimp [Try.ntmps16, Ms.cells, n1, n2, k3]
        refine CallK.reads ?_
        simp -implicitDefEqProofs -dsimp
        refine CallQ.same (e3) rfl ?_
        simp -implicitDefEqProofs -dsimp [rightB, k3]
        by_cases d2 : emptyB m false false true false = true
        · simp -implicitDefEqProofs -dsimp [rightB, k3, d2]
          refine CallK.reads ?_
          simp -implicitDefEqProofs -dsimp
          refine CallQ.same (ids_ok _ m.ids 1 (by omega)) rfl ?_
          simp -implicitDefEqProofs -dsimp [rightB, k3, d2]
        · simp -implicitDefEqProofs -dsimp [rightB, k3, d2]
      · have n3 := k3
        by_cases k4 : m.kind = 4
        · simp only [k4] at e4
          simp -implicitDefEqProofs -dsimp [Try.ntmps16, Ms.cells, n1, n2, n3, k4]
          refine CallK.reads ?_
          simp -implicitDefEqProofs -dsimp
          refine CallQ.same (e4) rfl ?_
          simp -implicitDefEqProofs -dsimp [rightB, k4]
          by_cases d2 : emptyB m false false false true = true
          · simp -implicitDefEqProofs -dsimp [rightB, k4, d2]
            refine CallK.reads ?_
            simp -implicitDefEqProofs -dsimp
            refine CallQ.same (id_fn m.bundle false) rfl ?_
            simp -implicitDefEqProofs -dsimp [rightB, k4, d2]
            by_cases d3 : idB m.bundle false = true
            · by_cases d4 : 1 ≤ m.many
              · by_cases d5 : m.many ≤ 16384
                · by_cases d6 : 0 ≤ m.index
                  · by_cases d7 : m.index < m.many
                    · by_cases d8 : 1 ≤ (m.body.length : Int)
                      · by_cases d9 : (m.body.length : Int) ≤ 1024
                        · simp -implicitDefEqProofs -dsimp [rightB, k4, d2, d3, d4, d5, d6, d7, d8, d9]
                        · simp -implicitDefEqProofs -dsimp [rightB, k4, d2, d3, d4, d5, d6, d7, d8, d9]
                      · simp -implicitDefEqProofs -dsimp [rightB, k4, d2, d3, d4, d5, d6, d7, d8]
                    · simp -implicitDefEqProofs -dsimp [rightB, k4, d2, d3, d4, d5, d6, d7]
                  · simp -implicitDefEqProofs -dsimp [rightB, k4, d2, d3, d4, d5, d6]
                · simp -implicitDefEqProofs -dsimp [rightB, k4, d2, d3, d4, d5]
              · simp -implicitDefEqProofs -dsimp [rightB, k4, d2, d3, d4]
            · simp -implicitDefEqProofs -dsimp [rightB, k4, d2, d3]
          · simp -implicitDefEqProofs -dsimp [rightB, k4, d2]
        · have n4 := k4
          simp -implicitDefEqProofs -dsimp [Try.ntmps16, Ms.cells, rightB, n1, n2, n3, n4]
end Go.Proofs.Ytbialojkkhkjeaa
