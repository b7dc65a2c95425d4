/- Ids: their order; lists that rise; the ids of a range. (and what stands on it) -/
import Derived.Test.YtbialojkkhkjeaaDoorM4
import Derived.Test.YtbialojkkhkjeaaDoorM7

/-! Ids: their order; lists that rise; the ids of a range. -/
namespace Go.Sy
theorem bl_irrefl : ∀ x : List UInt8, Op.bytesLess x x = false
  | [] => rfl
  | a :: x => by simp [Op.bytesLess, bl_irrefl x]
theorem bl_trans : ∀ x y z : List UInt8, Op.bytesLess x y = true → Op.bytesLess y z = true → Op.bytesLess x z = true
  | _, [], _, h, _ => by simp [Op.bytesLess] at h
  | _, _ :: _, [], _, h => by simp [Op.bytesLess] at h
  | [], _ :: _, _ :: _, _, _ => rfl
  | a :: x, b :: y, c :: z, h1, h2 => by
    simp only [Op.bytesLess, Bool.or_eq_true, decide_eq_true_eq, Bool.and_eq_true, beq_iff_eq] at *
    rcases h1 with h1 | ⟨rfl, h1⟩
    · rcases h2 with h2 | ⟨rfl, h2⟩
      · exact .inl (UInt8.lt_trans h1 h2)
      · exact .inl h1
    · rcases h2 with h2 | ⟨rfl, h2⟩
      · exact .inl h2
      · exact .inr ⟨rfl, bl_trans x y z h1 h2⟩
theorem bl_tri : ∀ x y : List UInt8, Op.bytesLess x y = false → Op.bytesLess y x = false → x = y
  | [], [], _, _ => rfl
  | [], _ :: _, h, _ => by simp [Op.bytesLess] at h
  | _ :: _, [], _, h => by simp [Op.bytesLess] at h
  | a :: x, b :: y, h1, h2 => by
    simp only [Op.bytesLess, Bool.or_eq_false_iff, decide_eq_false_iff_not, Bool.and_eq_false_iff, beq_eq_false_iff_ne, ne_eq] at *
    have e : a = b := UInt8.le_antisymm (UInt8.not_lt.1 h2.1) (UInt8.not_lt.1 h1.1)
    subst e
    simp at h1 h2
    rw [bl_tri x y h1 h2]
/-- Is a text less than another one? -/
def ltS (p q : ByteArray) : Bool := Op.bytesLess p.toList q.toList
theorem lt_irrefl (p : ByteArray) : ltS p p = false := bl_irrefl _
theorem lt_trans {p q r : ByteArray} (h1 : ltS p q = true) (h2 : ltS q r = true) : ltS p r = true := bl_trans _ _ _ h1 h2
theorem lt_tri {p q : ByteArray} (h1 : ltS p q = false) (h2 : ltS q p = false) : p = q := by
  have := bl_tri _ _ h1 h2
  have h : (p.toList == q.toList) = true := by simp [this]
  rw [ba_eq] at h
  exact of_decide_eq_true h
theorem lt_asymm {p q : ByteArray} (h : ltS p q = true) : ltS q p = false := by
  cases e : ltS q p with
  | false => rfl
  | true => exact (lt_irrefl p).symm.trans (lt_trans h e) |>.symm ▸ rfl
theorem lt_ne {p q : ByteArray} (h : ltS p q = true) : p ≠ q := fun e => by rw [e, lt_irrefl] at h; cases h
theorem not_lt_le {p q r : ByteArray} (h1 : ltS p q = false) (h2 : ltS p r = true) : ltS q r = true := by
  by_cases e : p = q
  · exact e ▸ h2
  · cases h : ltS q p with
    | true => exact lt_trans h h2
    | false => exact absurd (lt_tri h1 h) e
/-- The empty text is least. -/
theorem lt_empty (p : ByteArray) : ltS p (⟨#[]⟩ : ByteArray) = false := by
  have : (⟨#[]⟩ : ByteArray).toList = [] := by rw [ByteArray.toList_eq]
  rw [ltS, this]
  cases p.toList <;> rfl
/-- A list that rises. -/
def Rise (l : List ByteArray) : Prop := l.Pairwise fun p q => ltS p q = true
section
variable {P : Program} {t : TypeId} {x y : Operand}
@[simp] theorem bin_lss_str (p q : ByteArray) : binPV P .lss t x y (.lit (.string p)) (.lit (.string q)) = some (.lit (.bool (ltS p q))) := by
  simp [binPV, valOf, eqGuard, binOp, Op.stringOp, pureOf_pure, ltS]
@[simp] theorem bin_geq_str (p q : ByteArray) : binPV P .geq t x y (.lit (.string p)) (.lit (.string q)) = some (.lit (.bool (!ltS p q))) := by
  simp [binPV, valOf, eqGuard, binOp, Op.stringOp, pureOf_pure, ltS]
end
/-- Ids, as cells. -/
def idc (l : List ByteArray) : List PV := l.map fun p => PV.lit (.string p)
@[simp] theorem idc_length (l : List ByteArray) : (idc l).length = l.length := by simp [idc]
@[simp] theorem idc_nil : idc [] = [] := rfl
@[simp] theorem idc_append (l m : List ByteArray) : idc l ++ idc m = idc (l ++ m) := by simp [idc]
@[simp] theorem idc_take (l : List ByteArray) (n : Nat) : (idc l).take n = idc (l.take n) := by simp [idc, List.map_take]
@[simp] theorem idc_drop (l : List ByteArray) (n : Nat) : (idc l).drop n = idc (l.drop n) := by simp [idc, List.map_drop]
@[simp] theorem idc_getElem (l : List ByteArray) (n : Nat) (h : n < (idc l).length) : (idc l)[n] = .lit (.string (l[n]'(by simpa using h))) := by simp [idc]
@[simp high] theorem idc_get (l : List ByteArray) (n : Nat) : (idc l)[n]? = (l[n]?).map fun p => .lit (.string p) := by simp [idc]
@[simp] theorem idc_inj {l m : List ByteArray} : idc l = idc m ↔ l = m := by
  constructor
  · intro h
    induction l generalizing m with
    | nil => cases m <;> simp [idc] at h ⊢
    | cons x l ih =>
      cases m with
      | nil => simp [idc] at h
      | cons y m =>
        simp only [idc, List.map_cons, List.cons.injEq, PV.lit.injEq, Value.string.injEq] at h
        rw [h.1, ih h.2]
  · rintro rfl; rfl
@[simp] theorem idc_nil_iff {l : List ByteArray} : idc l = [] ↔ l = [] := by cases l <;> simp [idc]
@[simp] theorem idc_empty (l : List ByteArray) : (idc l).isEmpty = l.isEmpty := by cases l <;> simp [idc]
theorem idc_data {l : List ByteArray} (x : PV) (h : x ∈ idc l) : Data x := by
  simp only [idc, List.mem_map] at h
  obtain ⟨n, _, rfl⟩ := h
  simp [Value.oneCell']
@[simp] theorem idc_allData {l : List ByteArray} : (∀ x, x ∈ idc l → Data x) = True := eq_true fun _ => idc_data _
@[simp] theorem idc_snoc (l : List ByteArray) (p : ByteArray) : idc l ++ [PV.lit (.string p)] = idc (l ++ [p]) := by simp [idc]
@[simp ↓] theorem idc_flat {l : List ByteArray} : ((idc l).all fun y => !y.isAgg) = true := by simp [idc, PV.isAgg]
@[simp] theorem lendCells_idc (l : List ByteArray) : lendCells (idc l) = some (idc l) := by
  induction l with
  | nil => rfl
  | cons n l ih =>
    show lendCells (.lit (.string n) :: idc l) = _
    simp only [lendCells, lendCell, ih]; rfl
theorem idc_cons (p : ByteArray) (l : List ByteArray) : idc (p :: l) = .lit (.string p) :: idc l := rfl
end Go.Sy

/-! Lists that rise: where a text stands, what lies in a range. -/
namespace Go.Sy
theorem takeWhile_at {α : Type} {q : α → Bool} : ∀ {l : List α} {i : Nat}, i ≤ l.length → (∀ k (h : k < l.length), k < i → q l[k] = true) → (∀ (h : i < l.length), q l[i] = false) → (l.takeWhile q).length = i
  | [], i, h, _, _ => by simp at h; simp [h]
  | x :: l, 0, _, _, h => by have := h (by simp); simp at this; simp [List.takeWhile, this]
  | x :: l, i + 1, hi, h1, h2 => by
    have h0 := h1 0 (by simp) (by omega)
    simp at h0
    rw [List.takeWhile_cons, if_pos h0, List.length_cons, takeWhile_at (by simpa using hi) (fun k hk hki => by have := h1 (k + 1) (by simpa using hk) (by omega); simpa using this) (fun h => by have := h2 (by simpa using h); simpa using this)]
/-- How many of a list stand ahead of a text. -/
def fromI (l : List ByteArray) (t : ByteArray) : Nat := (l.takeWhile fun p => ltS p t).length
theorem fromI_le (l : List ByteArray) (t : ByteArray) : fromI l t ≤ l.length := (List.takeWhile_prefix _).length_le
theorem drop_fromI (l : List ByteArray) (t : ByteArray) : l.drop (fromI l t) = l.dropWhile fun p => ltS p t := by
  unfold fromI
  induction l with
  | nil => rfl
  | cons x l ih =>
    by_cases h : ltS x t = true
    · rw [List.takeWhile_cons, if_pos h, List.dropWhile_cons, if_pos h, List.length_cons, List.drop_succ_cons, ih]
    · rw [List.takeWhile_cons, if_neg h, List.dropWhile_cons, if_neg h]; rfl
theorem Rise.get {l : List ByteArray} (h : Rise l) {i j : Nat} (hij : i < j) (hj : j < l.length) : ltS (l[i]'(by omega)) l[j] = true := (List.pairwise_iff_getElem.1 h) i j (by omega) hj hij
theorem Rise.tail {p : ByteArray} {l : List ByteArray} (h : Rise (p :: l)) : Rise l := (List.pairwise_cons.1 h).2
theorem Rise.head {p q : ByteArray} {l : List ByteArray} (h : Rise (p :: l)) (hq : q ∈ l) : ltS p q = true := (List.pairwise_cons.1 h).1 q hq
theorem Rise.sub {l m : List ByteArray} (h : Rise l) (hs : m.Sublist l) : Rise m := h.sublist hs
theorem Rise.filter {l : List ByteArray} (h : Rise l) (q : ByteArray → Bool) : Rise (l.filter q) := h.sub List.filter_sublist
theorem Rise.nodup {l : List ByteArray} (h : Rise l) : l.Nodup := h.imp fun h => lt_ne h
/-- Two lists that rise and have the same ids are one. -/
theorem Rise.ext : ∀ {l m : List ByteArray}, Rise l → Rise m → (∀ p, p ∈ l ↔ p ∈ m) → l = m
  | [], [], _, _, _ => rfl
  | [], q :: m, _, _, h => by have := (h q).2 (by simp); simp at this
  | p :: l, [], _, _, h => by have := (h p).1 (by simp); simp at this
  | p :: l, q :: m, hl, hm, h => by
    have e : p = q := by
      have h1 := (h p).1 (by simp)
      have h2 := (h q).2 (by simp)
      simp only [List.mem_cons] at h1 h2
      rcases h1 with h1 | h1
      · exact h1
      · rcases h2 with h2 | h2
        · exact h2.symm
        · have a := hl.head h2
          have b := hm.head h1
          exact absurd (lt_trans a b) (by rw [lt_irrefl]; simp)
    subst e
    refine congrArg (p :: ·) (Rise.ext hl.tail hm.tail fun x => ⟨fun hx => ?_, fun hx => ?_⟩)
    · have := (h x).1 (by simp [hx])
      simp only [List.mem_cons] at this
      exact this.resolve_left fun e => lt_ne (hl.head hx) e.symm
    · have := (h x).2 (by simp [hx])
      simp only [List.mem_cons] at this
      exact this.resolve_left fun e => lt_ne (hm.head hx) e.symm
/-- Is a text in a range? -/
def inI (lo hi p : ByteArray) : Bool := !ltS p lo && (decide (hi = (⟨#[]⟩ : ByteArray)) || ltS p hi)
/-- The ids of a range. -/
def winI (l : List ByteArray) (lo hi : ByteArray) : List ByteArray := l.filter (inI lo hi)
/-- The ids from a place on, to the end of a range. -/
def tillI (hi : ByteArray) (l : List ByteArray) : List ByteArray := l.takeWhile fun p => decide (hi = (⟨#[]⟩ : ByteArray)) || ltS p hi
theorem tillI_cons (hi p : ByteArray) (l : List ByteArray) : tillI hi (p :: l) = if (decide (hi = (⟨#[]⟩ : ByteArray)) || ltS p hi) = true then p :: tillI hi l else [] := by
  unfold tillI; rw [List.takeWhile_cons]
theorem tillI_filter {hi : ByteArray} : ∀ {l : List ByteArray}, Rise l → tillI hi l = l.filter fun p => decide (hi = (⟨#[]⟩ : ByteArray)) || ltS p hi
  | [], _ => rfl
  | p :: l, h => by
    rw [tillI_cons, List.filter_cons, tillI_filter h.tail]
    by_cases hp : (decide (hi = (⟨#[]⟩ : ByteArray)) || ltS p hi) = true
    · rw [if_pos hp, if_pos hp]
    · rw [if_neg hp, if_neg hp]
      symm
      rw [List.filter_eq_nil_iff]
      intro q hq hc
      simp only [Bool.or_eq_true, decide_eq_true_eq, not_or, Bool.not_eq_true] at hp hc
      rcases hc with hc | hc
      · exact hp.1 hc
      · have := lt_trans (h.head hq) hc
        rw [hp.2] at this; cases this
theorem dropWhile_filter {lo : ByteArray} : ∀ {l : List ByteArray}, Rise l → (l.dropWhile fun p => ltS p lo) = l.filter fun p => !ltS p lo
  | [], _ => rfl
  | p :: l, h => by
    by_cases hp : ltS p lo = true
    · rw [List.dropWhile_cons, if_pos hp, List.filter_cons, if_neg (by simp [hp]), dropWhile_filter h.tail]
    · rw [List.dropWhile_cons, if_neg hp]
      symm
      rw [List.filter_eq_self]
      intro q hq
      simp only [List.mem_cons] at hq
      rcases hq with rfl | hq
      · simpa using hp
      · simp only [Bool.not_eq_true'] at *
        cases hc : ltS q lo with
        | false => rfl
        | true => exact absurd (lt_trans (h.head hq) hc) hp
/-- What is told of a range, found from its place on. -/
theorem win_till {l : List ByteArray} (h : Rise l) (lo hi : ByteArray) : tillI hi (l.drop (fromI l lo)) = winI l lo hi := by
  rw [drop_fromI, dropWhile_filter h, tillI_filter (h.filter _), List.filter_filter]
  unfold winI
  congr 1
  funext p
  simp [inI, Bool.and_comm]
theorem mem_win {l : List ByteArray} {lo hi p : ByteArray} : p ∈ winI l lo hi ↔ p ∈ l ∧ inI lo hi p = true := by simp [winI]
theorem mem_at {l : List ByteArray} (h : Rise l) (t : ByteArray) : (∃ (hi : fromI l t < l.length), l[fromI l t] = t) ↔ t ∈ l := by
  refine ⟨fun ⟨h1, h2⟩ => h2 ▸ List.getElem_mem h1, fun ht => ?_⟩
  obtain ⟨j, hj, e⟩ := List.getElem_of_mem ht
  have : fromI l t = j := takeWhile_at (Nat.le_of_lt hj) (fun k hk hkj => by have := h.get hkj hj; rwa [e] at this) (fun _ => by rw [e]; exact lt_irrefl t)
  exact ⟨by omega, by simp [this, e]⟩
/-- Has a list a text? -/
def hasI (l : List ByteArray) (t : ByteArray) : Bool := l.any fun p => decide (t = p)
theorem hasI_iff {l : List ByteArray} {t : ByteArray} : hasI l t = true ↔ t ∈ l := by
  simp only [hasI, List.any_eq_true, decide_eq_true_eq]
  exact ⟨fun ⟨x, h1, h2⟩ => h2 ▸ h1, fun h => ⟨t, h, rfl⟩⟩
theorem hasI_no {l : List ByteArray} {t : ByteArray} : hasI l t = false ↔ ¬ t ∈ l := by
  rw [← hasI_iff]; simp
/-- The ids that another list hasn't. -/
def missI (a b : List ByteArray) : List ByteArray := a.filter fun p => !hasI b p
end Go.Sy

/-! Ids: the library's search, the document's functions. -/
namespace Go.Sy
theorem index_str {P : Program} {t : TypeId} (ht : P.underlying t = some .string) (s : ByteArray) (k : IntKind) (n : Nat) (y : Int) (hn : (bs s)[n]? = some y) : indexPV P t (.lit (.string s)) (.lit (.int k n)) = some (.lit (.int .u8 y)) := by
  have hy : s[n]?.map (fun b => (b.toNat : Int)) = some y := by
    rw [← hn]
    simp only [bs, List.getElem?_map]
    congr 1
    by_cases h : n < s.size
    · rw [getElem?_pos s n h, Array.getElem?_toList, getElem?_pos s.data n h]; rfl
    · rw [getElem?_neg s n h, Array.getElem?_toList, getElem?_neg s.data n h]
  have e : pureOf P (Instr.index t (.string s) (.int k n)) = some (.int .u8 y) := by
    unfold Instr.index
    rw [pureOf_bind, show pureOf P (asIntOf (.int k n)) = some (k, (n : Int)) from rfl]
    simp only [Option.bind_some]
    rw [underlying_bind ht]
    obtain ⟨b, hb, rfl⟩ := Option.map_eq_some_iff.1 hy
    simp [hb, pureOf_pure]
  unfold indexPV
  rw [ht]; simp only [e]; rfl
/-- Numbers' order, text by text. -/
def ltI : List Int → List Int → Bool
  | _, [] => false
  | [], _ :: _ => true
  | a :: x, b :: y => decide (a < b) || (decide (a = b) && ltI x y)
theorem bl_ltI : ∀ x y : List UInt8, Op.bytesLess x y = ltI (x.map fun c => (c.toNat : Int)) (y.map fun c => (c.toNat : Int))
  | [], [] => rfl
  | [], _ :: _ => rfl
  | _ :: _, [] => rfl
  | a :: x, b :: y => by
    simp only [Op.bytesLess, List.map_cons, ltI, bl_ltI x y]
    congr 1
    · simp [UInt8.lt_iff_toNat_lt]
    · congr 1
      rw [Bool.eq_iff_iff]
      simp only [beq_iff_eq, decide_eq_true_eq]
      exact ⟨fun h => by rw [h], fun h => UInt8.toNat_inj.1 (by omega)⟩
theorem ltS_ltI (p q : ByteArray) : ltS p q = ltI (bs p) (bs q) := by
  rw [ltS, bl_ltI, ByteArray.toList_eq, ByteArray.toList_eq]; rfl
theorem ltI_common : ∀ (c x y : List Int), ltI (c ++ x) (c ++ y) = ltI x y
  | [], _, _ => rfl
  | a :: c, x, y => by simp [ltI, ltI_common c x y]
theorem ltI_at {x y : List Int} {i : Nat} (h1 : i < x.length) (h2 : i < y.length) (ht : x.take i = y.take i) (hn : x[i] ≠ y[i]) : ltI x y = decide (x[i] < y[i]) := by
  have e1 : x = x.take i ++ x[i] :: x.drop (i + 1) := by rw [← List.drop_eq_getElem_cons h1, List.take_append_drop]
  have e2 : y = x.take i ++ y[i] :: y.drop (i + 1) := by rw [ht, ← List.drop_eq_getElem_cons h2, List.take_append_drop]
  refine (congr (congrArg ltI e1) e2).trans ?_
  rw [ltI_common]
  simp [ltI, hn]
theorem ltI_end {x y : List Int} {i : Nat} (h1 : i ≤ x.length) (h2 : i ≤ y.length) (ht : x.take i = y.take i) (h : ¬ (i < x.length ∧ i < y.length)) : ltI x y = decide ((x.length : Int) < y.length) := by
  have e1 : x = x.take i ++ x.drop i := (List.take_append_drop i x).symm
  have e2 : y = x.take i ++ y.drop i := by rw [ht, List.take_append_drop]
  refine (congr (congrArg ltI e1) e2).trans ?_
  rw [ltI_common]
  by_cases hx : i < x.length
  · have hy : i = y.length := by omega
    rw [List.drop_eq_nil_of_le (by omega : y.length ≤ i)]
    have : ltI (x.drop i) [] = false := by cases x.drop i <;> rfl
    rw [this]
    symm; simp; omega
  · have hx : i = x.length := by omega
    rw [List.drop_eq_nil_of_le (by omega : x.length ≤ i)]
    cases hy : y.drop i with
    | nil =>
      have : y.length ≤ i := List.drop_eq_nil_iff.1 hy
      simp [ltI]; omega
    | cons b l =>
      have : i < y.length := by
        rcases Nat.lt_or_ge i y.length with h | h
        · exact h
        · rw [List.drop_eq_nil_of_le h] at hy; cases hy
      simp [ltI]; omega
end Go.Sy
namespace Go.Proofs.YtbialojkkhkjeaaDoor
open Go.Sy

set_option maxRecDepth 100000 in
set_option maxHeartbeats 4000000 in
theorem isnan1_fn (p : ByteArray) : Fc Tryd.prog 54 [.lit (.string p)] [] (.lit (.bool false)) [] := by
  refine Fc.of (anys _ []) [] mixed Tryd.func54 rfl (by rfl) (by simp [Tryd.ntmps54]) (by decide) ?_
  simp -implicitDefEqProofs -dsimp [Tryd.ntmps54]
set_option maxRecDepth 100000 in
set_option maxHeartbeats 4000000 in
theorem isnan2_fn (p : ByteArray) : Fc Tryd.prog 47 [.lit (.string p)] [] (.lit (.bool false)) [] := by
  refine Fc.of (anys _ []) [] mixed Tryd.func47 rfl (by rfl) (by simp [Tryd.ntmps47]) (by decide) ?_
  simp -implicitDefEqProofs -dsimp [Tryd.ntmps47]
set_option maxRecDepth 100000 in
set_option maxHeartbeats 4000000 in
theorem cless_fn (p q : ByteArray) : Fc Tryd.prog 46 [.lit (.string p), .lit (.string q)] [] (.lit (.bool (ltS p q))) [] := by
  refine Fc.of (anys _ [54]) [] mixed Tryd.func46 rfl (by rfl) (by simp [Tryd.ntmps46]) (by decide) ?_
  simp -implicitDefEqProofs -dsimp [Tryd.ntmps46]
  refine CallK.reads ?_
  simp -implicitDefEqProofs -dsimp
  refine CallQ.same (isnan1_fn p) rfl ?_
  simp -implicitDefEqProofs -dsimp

theorem ishr_half (n : Nat) : ishr .u64 (n : Int) 1 = ((n / 2 : Nat) : Int) := by
  unfold ishr
  rw [show (min (1 : Int).toNat IntKind.u64.bits) = 1 by decide, Int.fdiv_eq_ediv_of_nonneg _ (by decide)]
  omega
theorem map_at {l : List ByteArray} {k : Nat} {p : ByteArray} (h : l[k]? = some p) (hk : k < l.length) : l[k] = p := by
  rw [List.getElem?_eq_getElem hk] at h; exact Option.some.inj h

set_option maxRecDepth 100000 in
set_option maxHeartbeats 4000000 in
theorem search_fn (nl : Bool) (l : List ByteArray) (t : ByteArray) (hR : Rise l) (hl : l.length ≤ 1000000) :
    Fc Tryd.prog 31 [.sl .imm nl 1 (idc l), .lit (.string t)] [] (.tup [.lit (.int .i64 (fromI l t)), .lit (.bool (hasI l t))]) [] := by
  refine Fc.of (anys _ [46, 47]) [] mixed Tryd.func31 rfl (by rfl) (by simp [Tryd.ntmps31]) (by decide) ?_
  simp -implicitDefEqProofs -dsimp [Tryd.ntmps31]
  refine LpK.mk (anys _ [46, 47]) mixed (fun ((i, j) : Nat × Nat) => i ≤ j ∧ j ≤ l.length ∧ (∀ k (h : k < l.length), k < i → ltS (l[k]'h) t = true) ∧ (∀ k (h : k < l.length), j ≤ k → ltS (l[k]'h) t = false))
    (fun ((i, j) : Nat × Nat) => ⟨[(0, .sl .imm nl 1 (idc l)), (1, .lit (.string t)), (6, .lit (.int .i64 l.length)), (7, .lit (.int .i64 i)), (8, .lit (.int .i64 j))], [], 54⟩)
    (fun ((i, j) : Nat × Nat) => j - i) (0, l.length) ⟨by omega, by omega, fun k _ h => by omega, fun k h1 h2 => by omega⟩ (by simp -implicitDefEqProofs -dsimp) ?_
  rintro ⟨i, j⟩ ⟨h1, h2, h3, h4⟩
  by_cases hlt : i < j
  · have c1 : (i : Int) < j := by omega
    have w1 : IntKind.i64.wrap ((i : Int) + j) = ((i + j : Nat) : Int) := by rw [wrap64 (by omega) (by omega)]; omega
    have w2 : IntKind.u64.wrap ((i + j : Nat) : Int) = ((i + j : Nat) : Int) := by rw [wrap_is_u64]; omega
    have w2' : IntKind.u64.wrap ((i : Int) + j) = ((i + j : Nat) : Int) := by rw [wrap_is_u64]; omega
    obtain ⟨h, hh⟩ : ∃ h : Nat, h = (i + j) / 2 := ⟨_, rfl⟩
    have w3 : ishr .u64 ((i + j : Nat) : Int) 1 = (h : Int) := by rw [ishr_half, hh]
    have w3' : ishr .u64 ((i : Int) + j) 1 = (h : Int) := by rw [← w3]; congr 1
    have w4 : IntKind.i64.wrap (h : Int) = h := wrap64 (by omega) (by omega)
    have hhl : h < l.length := by omega
    obtain ⟨p, hp⟩ : ∃ p, l[h] = p := ⟨_, rfl⟩
    have hp' : l[h]? = some p := by rw [List.getElem?_eq_getElem hhl, hp]
    have w5 : IntKind.i64.wrap ((h : Int) + 1) = (h : Int) + 1 := wrap64 (by omega) (by omega)
    simp -implicitDefEqProofs -dsimp [c1, w1, w2, w2', w3, w3', w4, hhl, hp, hp', w5]
    refine CallK.reads ?_
    simp -implicitDefEqProofs -dsimp
    refine CallQ.same (cless_fn p t) rfl ?_
    simp -implicitDefEqProofs -dsimp [c1, w1, w2, w2', w3, w3', w4, hhl, hp, hp', w5]
    by_cases hc : ltS p t = true
    · simp -implicitDefEqProofs -dsimp [hc]
      refine .mk (h + 1, j) ⟨by omega, h2, fun k hk hkh => ?_, h4⟩ (by show j - (h + 1) < j - i; omega) (by simp -implicitDefEqProofs -dsimp [w5])
      rcases Nat.lt_or_ge k h with hlt | hge
      · exact lt_trans (hR.get hlt hhl) (by rw [hp]; exact hc)
      · have : k = h := by omega
        subst this; rw [hp]; exact hc
    · simp -implicitDefEqProofs -dsimp [hc]
      refine .mk (i, h) ⟨by omega, by omega, h3, fun k hk hkh => ?_⟩ (by show h - i < j - i; omega) (by simp -implicitDefEqProofs -dsimp)
      have hc : ltS p t = false := by simpa using hc
      rcases Nat.lt_or_ge h k with hlt | hge
      · cases e : ltS (l[k]'hk) t with
        | false => rfl
        | true => exact absurd (lt_trans (hR.get hlt hk) e) (by rw [hp, hc]; simp)
      · have : k = h := by omega
        subst this; rw [hp]; exact hc
  · have e : i = j := by omega
    subst e
    have hf : fromI l t = i := takeWhile_at h2 h3 fun h => h4 i h (Nat.le_refl i)
    have hm := mem_at hR t
    rw [hf] at hm
    simp -implicitDefEqProofs -dsimp
    by_cases hi : i < l.length
    · obtain ⟨p, hp⟩ : ∃ p, l[i] = p := ⟨_, rfl⟩
      have hp' : l[i]? = some p := by rw [List.getElem?_eq_getElem hi, hp]
      by_cases hc : p = t
      · have ht : hasI l t = true := hasI_iff.2 <| hm.1 ⟨hi, hp.trans hc⟩
        subst hc
        simp -implicitDefEqProofs -dsimp [hi, hp, hp', hf, ht]
      · have ht : hasI l t = false := hasI_no.2 fun h => by obtain ⟨_, e⟩ := hm.2 h; exact hc (hp.symm.trans e)
        simp -implicitDefEqProofs -dsimp [hi, hp, hp', hf, ht, hc]
        refine CallK.reads ?_
        simp -implicitDefEqProofs -dsimp
        refine CallQ.same (isnan2_fn p) rfl ?_
        simp -implicitDefEqProofs -dsimp [hi, hp, hp', hf, ht, hc]
    · have ht : hasI l t = false := hasI_no.2 fun h => by obtain ⟨h1, _⟩ := hm.2 h; exact hi h1
      simp -implicitDefEqProofs -dsimp [hi, hf, ht]

set_option maxRecDepth 100000 in
set_option maxHeartbeats 4000000 in
theorem less_fn (p q : ByteArray) (hp : p.size ≤ 1000000) : Fc Tryd.prog 49 [.lit (.string p), .lit (.string q)] [] (.lit (.bool (ltS p q))) [] := by
  refine Fc.of (anys _ []) sch49 mixed Tryd.func49 rfl (by rfl) (by simp [Tryd.ntmps49]) (by decide) ?_
  have lp := bs_length p
  have lq := bs_length q
  simp -implicitDefEqProofs -dsimp [Tryd.ntmps49]
  refine LpK.mk (anys _ []) mixed (fun i : Nat => i ≤ p.size ∧ i ≤ q.size ∧ (bs p).take i = (bs q).take i) (fun i => ⟨[(0, .lit (.string p)), (1, .lit (.string q)), (5, .lit (.int .i64 i))], [], 37⟩) (fun i => p.size - i) 0 ⟨by omega, by omega, rfl⟩ (by simp -implicitDefEqProofs -dsimp) ?_
  rintro i ⟨h1, h2, h3⟩
  rw [ltS_ltI]
  by_cases c1 : i < p.size
  · by_cases c2 : i < q.size
    · have i1 : i < (bs p).length := by omega
      have i2 : i < (bs q).length := by omega
      obtain ⟨x, hx⟩ : ∃ x, (bs p)[i] = x := ⟨_, rfl⟩
      obtain ⟨y, hy⟩ : ∃ y, (bs q)[i] = y := ⟨_, rfl⟩
      have hx' : (bs p)[i]? = some x := by rw [List.getElem?_eq_getElem i1, hx]
      have hy' : (bs q)[i]? = some y := by rw [List.getElem?_eq_getElem i2, hy]
      have gx : indexPV Tryd.prog 9 (.lit (.string p)) (.lit (.int .i64 (i : Int))) = some (.lit (.int .u8 x)) := index_str Tryd.underlying9 p .i64 i x hx'
      have gy : indexPV Tryd.prog 9 (.lit (.string q)) (.lit (.int .i64 (i : Int))) = some (.lit (.int .u8 y)) := index_str Tryd.underlying9 q .i64 i y hy'
      have w : IntKind.i64.wrap ((i : Int) + 1) = (i : Int) + 1 := wrap64 (by omega) (by omega)
      by_cases hxy : x = y
      · subst hxy
        simp -implicitDefEqProofs -dsimp [c1, c2, gx, gy, w]
        exact .mk (i + 1) ⟨by omega, by omega, by rw [List.take_succ_eq_append_getElem i1, List.take_succ_eq_append_getElem i2, h3, hx, hy]⟩ (by omega) (by simp -implicitDefEqProofs -dsimp)
      · have hl := ltI_at i1 i2 h3 (by rw [hx, hy]; exact hxy)
        rw [hx, hy] at hl
        simp -implicitDefEqProofs -dsimp [c1, c2, gx, gy, hxy, hl]
    · have hl := ltI_end (i := i) (by omega) (by omega) h3 (by omega)
      rw [lp, lq] at hl
      simp -implicitDefEqProofs -dsimp [c1, c2, hl]
  · have hl := ltI_end (i := i) (by omega) (by omega) h3 (by omega)
    rw [lp, lq] at hl
    simp -implicitDefEqProofs -dsimp [c1, hl]
end Go.Proofs.YtbialojkkhkjeaaDoor

/-! Ids: the document's functions over lists of them; what a list is made to. -/
namespace Go.Sy
/-- An id is put in. -/
def putS (t : ByteArray) (s : List ByteArray × Bool) (p : ByteArray) : List ByteArray × Bool :=
  if (!(s.2 || decide (p = t)) && ltS t p) = true then (s.1 ++ [t, p], true) else (s.1 ++ [p], s.2 || decide (p = t))
def putF (t : ByteArray) (l : List ByteArray) : List ByteArray × Bool := l.foldl (putS t) ([], false)
def putI (l : List ByteArray) (t : ByteArray) : List ByteArray := if (putF t l).2 then (putF t l).1 else (putF t l).1 ++ [t]
/-- Ids made to rise. -/
def srtI (l : List ByteArray) : List ByteArray := l.foldl putI []
theorem putS_done (t : ByteArray) : ∀ (l o : List ByteArray), l.foldl (putS t) (o, true) = (o ++ l, true)
  | [], o => by simp
  | p :: l, o => by simp [putS, putS_done t l]
theorem putF_app (t : ByteArray) : ∀ (l o : List ByteArray), (∀ p, p ∈ l → ltS p t = true) → l.foldl (putS t) (o, false) = (o ++ l, false)
  | [], o, _ => by simp
  | p :: l, o, h => by
    have hp := h p (by simp)
    have h1 : ltS t p = false := lt_asymm hp
    have h2 : p ≠ t := lt_ne hp
    simp [putS, h1, h2, putF_app t l _ fun q hq => h q (by simp [hq])]
/-- A list that rises, an id put in: it rises, and has the id besides. -/
theorem putF_rise (t : ByteArray) (l : List ByteArray) (hR : Rise l) : ∃ x, putI l t = x ∧ Rise x ∧ (∀ p, p ∈ x ↔ p = t ∨ p ∈ l) ∧ x.length ≤ l.length + 1 := by
  obtain ⟨a, b, e, ha, hb⟩ : ∃ a b, l = a ++ b ∧ (∀ p, p ∈ a → ltS p t = true) ∧ (∀ p, b.head? = some p → ltS p t = false) :=
    ⟨l.takeWhile fun p => ltS p t, l.dropWhile fun p => ltS p t, (List.takeWhile_append_dropWhile).symm, fun p hp => by
      have := List.all_takeWhile (p := fun p => ltS p t) (l := l)
      exact List.all_eq_true.1 this p hp, fun p hp => by
      have := List.head?_dropWhile_not (fun p => ltS p t) l
      rw [hp] at this; simpa using this⟩
  subst e
  have e1 : putF t (a ++ b) = b.foldl (putS t) (a, false) := by rw [putF, List.foldl_append, putF_app t a [] ha]; simp
  have hRa := (List.pairwise_append.1 hR).1
  have hRb := (List.pairwise_append.1 hR).2.1
  have hab := (List.pairwise_append.1 hR).2.2
  cases b with
  | nil =>
    refine ⟨_, rfl, ?_⟩
    have : putI (a ++ []) t = a ++ [t] := by unfold putI; rw [e1]; simp
    rw [this]
    refine ⟨List.pairwise_append.2 ⟨hRa, by simp, fun p hp q hq => by simp at hq; subst hq; exact ha p hp⟩, fun p => by simp [or_comm], by simp⟩
  | cons q b =>
    have hq := hb q rfl
    by_cases e : q = t
    · have : putI (a ++ q :: b) t = a ++ q :: b := by
        unfold putI; rw [e1]
        simp [putS, e, lt_irrefl, putS_done]
      refine ⟨_, rfl, ?_⟩
      rw [this]
      exact ⟨hR, fun p => ⟨fun h => .inr h, fun h => h.elim (fun h => by rw [h]; simp [e]) id⟩, by simp⟩
    · have hlt : ltS t q = true := by
        cases h : ltS t q with
        | true => rfl
        | false => exact absurd (lt_tri hq h) e
      have : putI (a ++ q :: b) t = a ++ t :: q :: b := by
        unfold putI; rw [e1]
        simp [putS, e, hlt, putS_done]
      refine ⟨_, rfl, ?_⟩
      rw [this]
      refine ⟨List.pairwise_append.2 ⟨hRa, List.pairwise_cons.2 ⟨fun p hp => ?_, hRb⟩, fun p hp r hr => ?_⟩, fun p => ?_, by simp; omega⟩
      · simp only [List.mem_cons] at hp
        rcases hp with rfl | hp
        · exact hlt
        · exact lt_trans hlt (Rise.head hRb hp)
      · simp only [List.mem_cons] at hr
        rcases hr with rfl | hr
        · exact ha p hp
        · exact hab p hp r (by simpa using hr)
      · simp only [List.mem_append, List.mem_cons]
        constructor
        · rintro (h | h | h | h) <;> simp [h]
        · rintro (h | h | h | h) <;> simp [h]
theorem srt_from : ∀ (l o : List ByteArray), Rise o → Rise (l.foldl putI o) ∧ (∀ p, p ∈ l.foldl putI o ↔ p ∈ o ∨ p ∈ l) ∧ (l.foldl putI o).length ≤ o.length + l.length
  | [], o, h => ⟨h, by simp, by simp⟩
  | t :: l, o, h => by
    obtain ⟨x, e, h1, h2, h3⟩ := putF_rise t o h
    rw [List.foldl_cons, e]
    obtain ⟨a, b, c⟩ := srt_from l x h1
    refine ⟨a, fun p => ?_, by simp only [List.length_cons]; omega⟩
    rw [b, h2]; simp only [List.mem_cons]
    constructor
    · rintro ((h | h) | h) <;> simp [h]
    · rintro (h | h | h) <;> simp [h]
theorem srt_rise (l : List ByteArray) : Rise (srtI l) := (srt_from l [] List.Pairwise.nil).1
theorem mem_srt (l : List ByteArray) (p : ByteArray) : p ∈ srtI l ↔ p ∈ l := by have := (srt_from l [] List.Pairwise.nil).2.1 p; simp only [List.not_mem_nil, false_or] at this; exact this
theorem srt_length (l : List ByteArray) : (srtI l).length ≤ l.length := by have := (srt_from l [] List.Pairwise.nil).2.2; simp only [List.length_nil, Nat.zero_add] at this; exact this
end Go.Sy
namespace Go.Proofs.YtbialojkkhkjeaaDoor
open Go.Sy
set_option maxRecDepth 100000 in
set_option maxHeartbeats 4000000 in
theorem less15_fn (p q : ByteArray) (hp : p.size ≤ 1000000) : Fc Tryd.prog 37 [.lit (.string p), .lit (.string q)] [] (.lit (.bool (ltS p q))) [] := by
  refine Fc.of (anys _ [49]) [] mixed Tryd.func37 rfl (by rfl) (by simp [Tryd.ntmps37]) (by decide) ?_
  simp -implicitDefEqProofs -dsimp [Tryd.ntmps37]
  refine CallK.reads ?_
  simp -implicitDefEqProofs -dsimp
  refine CallQ.same (less_fn p q hp) rfl ?_
  simp -implicitDefEqProofs -dsimp
set_option maxRecDepth 100000 in
set_option maxHeartbeats 4000000 in
theorem less18_fn (p q : ByteArray) (hp : p.size ≤ 1000000) : Fc Tryd.prog 36 [.lit (.string p), .lit (.string q)] [] (.lit (.bool (ltS p q))) [] := by
  refine Fc.of (anys _ [49]) [] mixed Tryd.func36 rfl (by rfl) (by simp [Tryd.ntmps36]) (by decide) ?_
  simp -implicitDefEqProofs -dsimp [Tryd.ntmps36]
  refine CallK.reads ?_
  simp -implicitDefEqProofs -dsimp
  refine CallQ.same (less_fn p q hp) rfl ?_
  simp -implicitDefEqProofs -dsimp

set_option maxRecDepth 100000 in
set_option maxHeartbeats 4000000 in
theorem in_fn (p lo hi : ByteArray) (hp : p.size ≤ 1000000) : Fc Tryd.prog 23 [.lit (.string p), .lit (.string lo), .lit (.string hi)] [] (.lit (.bool (inI lo hi p))) [] := by
  refine Fc.of (anys _ [36]) [] mixed Tryd.func23 rfl (by rfl) (by simp [Tryd.ntmps23]) (by decide) ?_
  simp -implicitDefEqProofs -dsimp [Tryd.ntmps23]
  refine CallK.reads ?_
  simp -implicitDefEqProofs -dsimp
  refine CallQ.same (less18_fn p lo hp) rfl ?_
  simp -implicitDefEqProofs -dsimp
  by_cases c1 : ltS p lo = true
  · simp -implicitDefEqProofs -dsimp [c1, inI]
  · have c1 : ltS p lo = false := by simpa using c1
    by_cases c2 : hi = (⟨#[]⟩ : ByteArray)
    · simp -implicitDefEqProofs -dsimp [c1, inI, c2]
    · simp -implicitDefEqProofs -dsimp [c1, c2]
      refine CallK.reads ?_
      simp -implicitDefEqProofs -dsimp
      refine CallQ.same (less18_fn p hi hp) rfl ?_
      simp -implicitDefEqProofs -dsimp [c1, c2, inI]


theorem take_same' {xs ys : List ByteArray} {i : Nat} (h1 : i < xs.length) (h2 : i < ys.length) (ht : xs.take i = ys.take i) (he : xs[i] = ys[i]) : xs.take (i + 1) = ys.take (i + 1) := by
  rw [List.take_succ_eq_append_getElem h1, List.take_succ_eq_append_getElem h2, ht, he]
set_option maxRecDepth 100000 in
set_option maxHeartbeats 4000000 in
theorem ids_fn (n1 n2 : Bool) (xs ys : List ByteArray) (hl : xs.length < 9223372036854775807) : Fc Tryd.prog 11 [.sl .imm n1 1 (idc xs), .sl .imm n2 1 (idc ys)] [] (.lit (.bool (decide (xs = ys)))) [] := by
  refine Fc.of (anys _ []) sch11 mixed Tryd.func11 rfl (by rfl) (by simp [Tryd.ntmps11]) (by decide) ?_
  simp -implicitDefEqProofs -dsimp [Tryd.ntmps11]
  refine Cnd.mk (fun h => ?_) (fun h => ?_)
  · have h : ¬ xs = ys := by rintro rfl; simp at h
    simp -implicitDefEqProofs -dsimp [h]
  · have h : xs.length = ys.length := by simp at h; omega
    simp -implicitDefEqProofs -dsimp
    refine LpK.mk (anys _ []) mixed (fun i : Nat => i ≤ xs.length ∧ xs.take i = ys.take i) (fun i => ⟨[(0, .sl .imm n1 1 (idc xs)), (1, .sl .imm n2 1 (idc ys)), (5, .lit (.int .i64 i))], [], 26⟩) (fun i => xs.length - i) 0 (by simp) (by simp -implicitDefEqProofs -dsimp) ?_
    rintro i ⟨hi, ht⟩
    by_cases hlt : i < xs.length
    · have hlt2 : i < ys.length := by omega
      by_cases he : xs[i] = ys[i]
      · have hw : IntKind.i64.wrap ((i : Int) + 1) = ((i + 1 : Nat) : Int) := wrap64 (by omega) (by omega)
        simp -implicitDefEqProofs -dsimp [hlt, hlt2, he, hw]
        exact .mk (i + 1) ⟨by omega, take_same' hlt hlt2 ht he⟩ (by omega) (by simp -implicitDefEqProofs -dsimp)
      · have hn : ¬ xs = ys := by rintro rfl; exact he rfl
        simp -implicitDefEqProofs -dsimp [hlt, hlt2, he, hn]
    · have hn : xs = ys := by rwa [List.take_of_length_le (by omega), List.take_of_length_le (by omega)] at ht
      subst hn
      simp -implicitDefEqProofs -dsimp [hlt]

set_option maxRecDepth 100000 in
set_option maxHeartbeats 4000000 in
theorem few_fn (nl : Bool) (xs : List ByteArray) (hl : xs.length ≤ 9223372036854775807) : Fc Tryd.prog 9 [.sl .imm nl 1 (idc xs)] [] (.lit (.bool (xs.all (fun p => decide (p.size ≤ 40)) && decide (xs.length ≤ 24)))) [] := by
  refine Fc.of (anys _ []) [] mixed Tryd.func9 rfl (by rfl) (by simp [Tryd.ntmps9]) (by decide) ?_
  simp -implicitDefEqProofs -dsimp [Tryd.ntmps9]
  refine LpK.mk (anys _ []) mixed (fun i : Nat => i ≤ xs.length ∧ ∀ p, p ∈ xs.take i → p.size ≤ 40) (fun i => ⟨[(0, .sl .imm nl 1 (idc xs)), (3, .lit (.int .i64 i))], [], 19⟩) (fun i => xs.length - i) 0 (by simp) (by simp -implicitDefEqProofs -dsimp) ?_
  rintro i ⟨hi, ht⟩
  by_cases hlt : i < xs.length
  · obtain ⟨p, hp⟩ : ∃ p, xs[i] = p := ⟨_, rfl⟩
    have hp' : xs[i]? = some p := by rw [List.getElem?_eq_getElem hlt, hp]
    have hw : IntKind.i64.wrap ((i : Int) + 1) = (i : Int) + 1 := wrap64 (by omega) (by omega)
    by_cases hc : 40 < (p.size : Int)
    · have ha : xs.all (fun p => decide (p.size ≤ 40)) = false := by
        rw [List.all_eq_false]; exact ⟨p, hp ▸ List.getElem_mem hlt, by simp; omega⟩
      simp -implicitDefEqProofs -dsimp [hlt, hp, hp', hc, ha]
    · simp -implicitDefEqProofs -dsimp [hlt, hp, hp', hc, hw]
      refine .mk (i + 1) ⟨hlt, fun q hq => ?_⟩ (by omega) (by simp -implicitDefEqProofs -dsimp)
      rw [List.take_succ_eq_append_getElem hlt, List.mem_append] at hq
      rcases hq with hq | hq
      · exact ht q hq
      · simp only [List.mem_singleton] at hq; rw [hq, hp]; omega
  · have ha : xs.all (fun p => decide (p.size ≤ 40)) = true := by
      rw [List.all_eq_true]; intro q hq
      rw [List.take_of_length_le (by omega)] at ht
      simpa using ht q hq
    have he : i = xs.length := by omega
    have hh : decide ((xs.length : Int) ≤ 24) = decide (xs.length ≤ 24) := by congr 1; simp; omega
    simp -implicitDefEqProofs -dsimp [hlt, ha, hh]

theorem win_snoc (l : List ByteArray) (lo hi : ByteArray) {i : Nat} {p : ByteArray} (hp : l[i]? = some p) : winI (l.take (i + 1)) lo hi = winI (l.take i) lo hi ++ if inI lo hi p = true then [p] else [] := by
  unfold winI
  rw [List.take_add_one, hp, List.filter_append]
  by_cases h : inI lo hi p = true <;> simp [h]
set_option maxRecDepth 100000 in
set_option maxHeartbeats 4000000 in
theorem rwithin_fn (nl : Bool) (l : List ByteArray) (lo hi : ByteArray) (hl : l.length ≤ 1000000) (hs : ∀ p, p ∈ l → p.size ≤ 1000000) :
    Fc Tryd.prog 13 [.sl .imm nl 1 (idc l), .lit (.string lo), .lit (.string hi)] [] (.sl (.own (.loc 30)) (winI l lo hi).isEmpty 1 (idc (winI l lo hi))) [] := by
  refine Fc.of (anys _ [23]) [] mixed Tryd.func13 rfl (by rfl) (by simp [Tryd.ntmps13]) (by decide) ?_
  simp -implicitDefEqProofs -dsimp [Tryd.ntmps13]
  refine LpK.mk (anys _ [23]) mixed (fun i : Nat => i ≤ l.length) (fun i => ⟨[(0, .sl .imm nl 1 (idc l)), (1, .lit (.string lo)), (2, .lit (.string hi)), (7, .sl (.own (.loc 30)) (winI (l.take i) lo hi).isEmpty 1 (idc (winI (l.take i) lo hi))), (8, .lit (.int .i64 i))], [], 32⟩) (fun i => l.length - i) 0 (by simp) (by simp -implicitDefEqProofs -dsimp [winI]) ?_
  intro i hi'
  by_cases hlt : i < l.length
  · obtain ⟨p, hp⟩ : ∃ p, l[i] = p := ⟨_, rfl⟩
    have hp' : l[i]? = some p := by rw [List.getElem?_eq_getElem hlt, hp]
    have hw : IntKind.i64.wrap ((i : Int) + 1) = (i : Int) + 1 := wrap64 (by omega) (by omega)
    have hps := hs p (hp ▸ List.getElem_mem hlt)
    have hn := win_snoc l lo hi hp'
    obtain ⟨w, hw'⟩ : ∃ w, w = winI (l.take i) lo hi := ⟨_, rfl⟩
    have hwl : w.length ≤ l.length := by rw [hw']; exact Nat.le_trans (List.length_filter_le _ _) (by simp; omega)
    have hcap : (w.length + 1) * 16 ≤ 140737488355328 := by omega
    have hcap2 : w.length ≤ 140737488355327 := by omega
    rw [← hw'] at hn ⊢
    simp -implicitDefEqProofs -dsimp [hlt, hp, hp', hw, hcap, hcap2]
    refine CallK.reads ?_
    simp -implicitDefEqProofs -dsimp
    refine CallQ.same (in_fn p lo hi hps) rfl ?_
    simp -implicitDefEqProofs -dsimp [hlt, hp, hp', hw, hcap, hcap2]
    by_cases hc : inI lo hi p = true
    · rw [if_pos hc] at hn
      simp -implicitDefEqProofs -dsimp [hc, hlt, hp, hp', hw, hcap, hcap2]
      exact .mk (i + 1) (by omega) (by omega) (by simp -implicitDefEqProofs -dsimp [hn, hw])
    · rw [if_neg hc, List.append_nil] at hn
      simp -implicitDefEqProofs -dsimp [hc, hlt, hp, hp', hw, hcap, hcap2]
      exact .mk (i + 1) (by omega) (by omega) (by simp -implicitDefEqProofs -dsimp [hn, hw])
  · have e : i = l.length := by omega
    subst e
    simp -implicitDefEqProofs -dsimp
end Go.Proofs.YtbialojkkhkjeaaDoor

/-! Ids: lists made to rise, what is missing, forms. -/
namespace Go.Sy
theorem putS_length (t : ByteArray) : ∀ (l : List ByteArray) (o : List ByteArray) (d : Bool), (l.foldl (putS t) (o, d)).1.length ≤ o.length + l.length + (if d then 0 else 1)
  | [], o, d => by simp
  | p :: l, o, d => by
    rw [List.foldl_cons, show putS t (o, d) p = if (!(d || decide (p = t)) && ltS t p) = true then (o ++ [t, p], true) else (o ++ [p], d || decide (p = t)) from rfl]
    split
    · rename_i h
      have := putS_length t l (o ++ [t, p]) true
      have hd : d = false := by cases d <;> simp_all
      subst hd
      simp at this ⊢; omega
    · have := putS_length t l (o ++ [p]) (d || decide (p = t))
      cases d <;> simp at this ⊢
      · split at this <;> omega
      · omega
theorem putF_snoc (t : ByteArray) (l : List ByteArray) {i : Nat} {p : ByteArray} (hp : l[i]? = some p) : putF t (l.take (i + 1)) = putS t (putF t (l.take i)) p := by
  unfold putF
  rw [List.take_add_one, hp, List.foldl_append]; rfl
@[simp] theorem fr_idc (n : Nat) (nl : Bool) (xs : List ByteArray) : Fr (.sl (.own (.loc n)) nl 1 (idc xs)) := .row n _ _ _ fun x hx y hy => by
  simp only [idc, List.mem_map] at hx
  obtain ⟨n, _, rfl⟩ := hx
  simp [PV.comps] at hy
  exact ⟨_, hy⟩
/-- Ids' texts, one behind the other. -/
def formI (l : List ByteArray) : List Int := l.flatMap fun p => enc p.size ++ bs p
theorem formI_length (l : List ByteArray) (h : ∀ p, p ∈ l → p.size ≤ 1000) : (formI l).length ≤ 1010 * l.length := by
  induction l with
  | nil => simp [formI]
  | cons p l ih =>
    have h1 := h p (by simp)
    have h2 := ih fun q hq => h q (by simp [hq])
    have h3 := enc_u64 (n := p.size) (by omega)
    have h4 := bs_length p
    have : formI (p :: l) = enc p.size ++ bs p ++ formI l := by simp [formI]
    rw [this]; simp only [List.length_append, List.length_cons]; omega
theorem formI_snoc (l : List ByteArray) {i : Nat} {p : ByteArray} (hp : l[i]? = some p) : formI (l.take (i + 1)) = formI (l.take i) ++ enc p.size ++ bs p := by
  unfold formI
  rw [List.take_add_one, hp]; simp
theorem miss_snoc (l b : List ByteArray) {i : Nat} {p : ByteArray} (hp : l[i]? = some p) : missI (l.take (i + 1)) b = missI (l.take i) b ++ if hasI b p = true then [] else [p] := by
  unfold missI
  rw [List.take_add_one, hp, List.filter_append]
  by_cases h : hasI b p = true <;> simp [h]
theorem hasI_snoc (l : List ByteArray) (t : ByteArray) {i : Nat} {p : ByteArray} (hp : l[i]? = some p) : hasI (l.take (i + 1)) t = (hasI (l.take i) t || decide (t = p)) := by
  unfold hasI
  rw [List.take_add_one, hp, List.any_append]; simp
end Go.Sy
namespace Go.Proofs.YtbialojkkhkjeaaDoor
open Go.Sy

set_option maxRecDepth 100000 in
set_option maxHeartbeats 4000000 in
theorem put_fn (nl : Bool) (l : List ByteArray) (t : ByteArray) (hl : l.length ≤ 1000000) (ht : t.size ≤ 1000000) :
    Fc Tryd.prog 24 [.sl .imm nl 1 (idc l), .lit (.string t)] [] (.sl (.own (.loc 40)) (putI l t).isEmpty 1 (idc (putI l t))) [] := by
  refine Fc.of (anys _ [37]) [] mixed Tryd.func24 rfl (by rfl) (by simp [Tryd.ntmps24]) (by decide) ?_
  simp -implicitDefEqProofs -dsimp [Tryd.ntmps24]
  refine LpK.mk (anys _ [37]) mixed (fun i : Nat => i ≤ l.length) (fun i => ⟨[(0, .sl .imm nl 1 (idc l)), (1, .lit (.string t)), (5, .sl (.own (.loc 40)) (putF t (l.take i)).1.isEmpty 1 (idc (putF t (l.take i)).1)), (6, .lit (.bool (putF t (l.take i)).2)), (7, .lit (.int .i64 i))], [], 48⟩) (fun i => l.length - i) 0 (by simp) (by simp -implicitDefEqProofs -dsimp [putF]) ?_
  intro i hi
  by_cases hlt : i < l.length
  · obtain ⟨p, hp⟩ : ∃ p, l[i] = p := ⟨_, rfl⟩
    have hp' : l[i]? = some p := by rw [List.getElem?_eq_getElem hlt, hp]
    have hw : IntKind.i64.wrap ((i : Int) + 1) = (i : Int) + 1 := wrap64 (by omega) (by omega)
    have hn := putF_snoc t l hp'
    have hlen := putS_length t (l.take i) [] false
    rw [← putF] at hlen
    obtain ⟨⟨o, d⟩, ho⟩ : ∃ o, o = putF t (l.take i) := ⟨_, rfl⟩
    rw [← ho] at hn hlen ⊢
    simp at hlen
    have hc1 : (o.length + 1) * 16 ≤ 140737488355328 := by omega
    have hc2 : o.length + 1 ≤ 140737488355328 := by omega
    have hc3 : (o.length + 2) * 16 ≤ 140737488355328 := by omega
    have hc4 : o.length + 2 ≤ 140737488355328 := by omega
    have hc5 : o.length ≤ 140737488355327 := by omega
    have hc6 : o.length ≤ 140737488355326 := by omega
    have hc7 : (o.length + 1 + 1) * 16 ≤ 140737488355328 := by omega
    by_cases e : p = t
    · subst e
      have hn2 : putS p (o, d) p = (o ++ [p], true) := by simp [putS]
      rw [hn2] at hn
      cases d
      · simp -implicitDefEqProofs -dsimp [hlt, hp, hp', hw, hc1, hc2, hc5]
        exact .mk (i + 1) (by omega) (by omega) (by simp -implicitDefEqProofs -dsimp [hn, hw])
      · simp -implicitDefEqProofs -dsimp [hlt, hp, hp', hw, hc1, hc2, hc5]
        exact .mk (i + 1) (by omega) (by omega) (by simp -implicitDefEqProofs -dsimp [hn, hw])
    · cases d
      · simp -implicitDefEqProofs -dsimp [hlt, hp, hp', hw, e]
        refine CallK.reads ?_
        simp -implicitDefEqProofs -dsimp
        refine CallQ.same (less15_fn t p ht) rfl ?_
        simp -implicitDefEqProofs -dsimp [hlt, hp, hp', hw, hc1, hc2, hc3, hc4, hc5, hc6, hc7]
        by_cases hc : ltS t p = true
        · have hn2 : putS t (o, false) p = (o ++ [t, p], true) := by simp [putS, hc, e]
          rw [hn2] at hn
          simp -implicitDefEqProofs -dsimp [hlt, hp, hp', hw, hc, hc1, hc2, hc3, hc4, hc5, hc6, hc7]
          exact .mk (i + 1) (by omega) (by omega) (by simp -implicitDefEqProofs -dsimp [hn, hw])
        · have hn2 : putS t (o, false) p = (o ++ [p], false) := by simp [putS, hc, e]
          rw [hn2] at hn
          simp -implicitDefEqProofs -dsimp [hlt, hp, hp', hw, hc, hc1, hc2, hc3, hc4, hc5, hc6, hc7]
          exact .mk (i + 1) (by omega) (by omega) (by simp -implicitDefEqProofs -dsimp [hn, hw])
      · have hn2 : putS t (o, true) p = (o ++ [p], true) := by simp [putS]
        rw [hn2] at hn
        simp -implicitDefEqProofs -dsimp [hlt, hp, hp', hw, e, hc1, hc2, hc3, hc4, hc5, hc6]
        exact .mk (i + 1) (by omega) (by omega) (by simp -implicitDefEqProofs -dsimp [hn, hw])
  · have e : i = l.length := by omega
    subst e
    have hlen := putS_length t l [] false
    rw [← putF] at hlen
    obtain ⟨⟨o, d⟩, ho⟩ : ∃ o, o = putF t l := ⟨_, rfl⟩
    have hP : putI l t = if d then o else o ++ [t] := by rw [putI, ← ho]
    rw [← ho] at hlen
    simp at hlen
    have hc1 : (o.length + 1) * 16 ≤ 140737488355328 := by omega
    have hc2 : o.length ≤ 140737488355327 := by omega
    rw [List.take_length, ← ho]
    cases d <;> simp at hP <;> simp -implicitDefEqProofs -dsimp [hP, hc1, hc2]

set_option maxRecDepth 100000 in
set_option maxHeartbeats 4000000 in
theorem sorted_fn (nl : Bool) (l : List ByteArray) (hl : l.length ≤ 1000000) (hs : ∀ p, p ∈ l → p.size ≤ 1000000) :
    Fc Tryd.prog 10 [.sl .imm nl 1 (idc l)] [] (.sl (.own (.loc 1160)) (srtI l).isEmpty 1 (idc (srtI l))) [] := by
  refine Fc.of (anys _ [24]) [] mixed Tryd.func10 rfl (by rfl) (by simp [Tryd.ntmps10]) (by decide) ?_
  simp -implicitDefEqProofs -dsimp [Tryd.ntmps10]
  refine LpK.mk (anys _ [24]) mixed (fun i : Nat => i ≤ l.length) (fun i => ⟨[(0, .sl .imm nl 1 (idc l)), (3, .sl (.own (.loc 1160)) (srtI (l.take i)).isEmpty 1 (idc (srtI (l.take i)))), (4, .lit (.int .i64 i))], [], 18⟩) (fun i => l.length - i) 0 (by simp) (by simp -implicitDefEqProofs -dsimp [srtI]) ?_
  intro i hi
  by_cases hlt : i < l.length
  · obtain ⟨p, hp⟩ : ∃ p, l[i] = p := ⟨_, rfl⟩
    have hp' : l[i]? = some p := by rw [List.getElem?_eq_getElem hlt, hp]
    have hw : IntKind.i64.wrap ((i : Int) + 1) = (i : Int) + 1 := wrap64 (by omega) (by omega)
    have hn : srtI (l.take (i + 1)) = putI (srtI (l.take i)) p := by
      unfold srtI
      rw [List.take_add_one, hp', List.foldl_append]; rfl
    have hlen := srt_length (l.take i)
    obtain ⟨o, ho⟩ : ∃ o, o = srtI (l.take i) := ⟨_, rfl⟩
    rw [← ho] at hn hlen ⊢
    simp at hlen
    simp -implicitDefEqProofs -dsimp [hlt, hp, hp', hw]
    refine CallK.fresh ?_
    simp -implicitDefEqProofs -dsimp
    refine CallQ.same (put_fn o.isEmpty o p (by omega) (hs p (hp ▸ List.getElem_mem hlt))) rfl ?_
    simp -implicitDefEqProofs -dsimp [fr_u8s, hw]
    exact .mk (i + 1) (by omega) (by omega) (by simp -implicitDefEqProofs -dsimp [hn])
  · have e : i = l.length := by omega
    subst e
    simp -implicitDefEqProofs -dsimp

set_option maxRecDepth 100000 in
set_option maxHeartbeats 4000000 in
theorem form_fn (nl : Bool) (l : List ByteArray) (hl : l.length ≤ 1000) (hs : ∀ p, p ∈ l → p.size ≤ 1000) :
    Fc Tryd.prog 22 [.sl .imm nl 1 (idc l)] [] (.sl (.own (.loc 1170)) l.isEmpty 1 (u8s (formI l))) [] := by
  refine Fc.of (anys _ [35]) [] mixed Tryd.func22 rfl (by rfl) (by simp [Tryd.ntmps22]) (by decide) ?_
  simp -implicitDefEqProofs -dsimp [Tryd.ntmps22]
  refine LpK.mk (anys _ [35]) mixed (fun i : Nat => i ≤ l.length) (fun i => ⟨[(0, .sl .imm nl 1 (idc l)), (3, .sl (.own (.loc 1170)) (l.take i).isEmpty 1 (u8s (formI (l.take i)))), (4, .lit (.int .i64 i))], [], 19⟩) (fun i => l.length - i) 0 (by simp) (by simp -implicitDefEqProofs -dsimp [formI]) ?_
  intro i hi
  by_cases hlt : i < l.length
  · obtain ⟨p, hp⟩ : ∃ p, l[i] = p := ⟨_, rfl⟩
    have hp' : l[i]? = some p := by rw [List.getElem?_eq_getElem hlt, hp]
    have hw : IntKind.i64.wrap ((i : Int) + 1) = (i : Int) + 1 := wrap64 (by omega) (by omega)
    have hps := hs p (hp ▸ List.getElem_mem hlt)
    have hps' : p.size ≤ 140737488355328 := by omega
    have hn := formI_snoc l hp'
    have hlen := formI_length (l.take i) fun q hq => hs q (List.mem_of_mem_take hq)
    have hte : (l.take (i + 1)).isEmpty = false := by
      rw [List.take_add_one, hp']; simp
    obtain ⟨o, ho⟩ : ∃ o, o = formI (l.take i) := ⟨_, rfl⟩
    rw [← ho] at hn hlen ⊢
    simp at hlen
    have hlen2 : o.length ≤ 10000000 := by omega
    obtain ⟨nl2, hnl⟩ : ∃ n, n = (l.take i).isEmpty := ⟨_, rfl⟩
    have hnn : nl2 = true → o = [] := fun h => by
      rw [hnl, List.isEmpty_iff] at h
      rw [ho, h]; rfl
    have hbl := bs_length p
    rw [← hnl]
    simp -implicitDefEqProofs -dsimp [hlt, hp, hp', hw, hps']
    refine CallK.fresh ?_
    simp -implicitDefEqProofs -dsimp
    refine CallQ.same (rtext_fn nl2 false o (bs p) hlen2 (by omega)) rfl ?_
    simp -implicitDefEqProofs -dsimp [fr_u8s, hw]
    refine .mk (i + 1) (by omega) (by omega) (by simp -implicitDefEqProofs -dsimp [hn, hte, hbl])
  · have e : i = l.length := by omega
    subst e
    simp -implicitDefEqProofs -dsimp

set_option maxRecDepth 100000 in
set_option maxHeartbeats 4000000 in
theorem missing_fn (n1 n2 : Bool) (a b : List ByteArray) (hR : Rise b) (ha : a.length ≤ 1000000) (hb : b.length ≤ 1000000) :
    Fc Tryd.prog 19 [.sl .imm n1 1 (idc a), .sl .imm n2 1 (idc b)] [] (.sl (.own (.loc 27)) (missI a b).isEmpty 1 (idc (missI a b))) [] := by
  refine Fc.of (anys _ [31]) [] mixed Tryd.func19 rfl (by rfl) (by simp [Tryd.ntmps19]) (by decide) ?_
  simp -implicitDefEqProofs -dsimp [Tryd.ntmps19]
  refine LpK.mk (anys _ [31]) mixed (fun i : Nat => i ≤ a.length) (fun i => ⟨[(1, .sl .imm n2 1 (idc b)), (10, .sl .imm n1 1 (idc a)), (11, .lit (.int .i64 a.length)), (5, .sl (.own (.loc 27)) (missI (a.take i) b).isEmpty 1 (idc (missI (a.take i) b))), (12, .lit (.int .i64 i))], [], 30⟩) (fun i => a.length - i) 0 (by simp) (by simp -implicitDefEqProofs -dsimp [missI]) ?_
  intro i hi
  by_cases hlt : i < a.length
  · obtain ⟨p, hp⟩ : ∃ p, a[i] = p := ⟨_, rfl⟩
    have hp' : a[i]? = some p := by rw [List.getElem?_eq_getElem hlt, hp]
    have hw : IntKind.i64.wrap ((i : Int) + 1) = (i : Int) + 1 := wrap64 (by omega) (by omega)
    have hn := miss_snoc a b hp'
    obtain ⟨w, hw'⟩ : ∃ w, w = missI (a.take i) b := ⟨_, rfl⟩
    have hwl : w.length ≤ a.length := by rw [hw']; exact Nat.le_trans (List.length_filter_le _ _) (by simp; omega)
    have hc1 : (w.length + 1) * 16 ≤ 140737488355328 := by omega
    have hc2 : w.length ≤ 140737488355327 := by omega
    rw [← hw'] at hn ⊢
    simp -implicitDefEqProofs -dsimp [hlt, hp, hp', hw]
    refine CallK.reads ?_
    simp -implicitDefEqProofs -dsimp
    refine CallQ.same (search_fn n2 b p hR hb) rfl ?_
    simp -implicitDefEqProofs -dsimp [plain_tup, hlt, hp, hp', hw, hc1, hc2]
    by_cases hc : hasI b p = true
    · rw [if_pos hc, List.append_nil] at hn
      simp -implicitDefEqProofs -dsimp [hc, hw]
      exact .mk (i + 1) (by omega) (by omega) (by simp -implicitDefEqProofs -dsimp [hn, hw])
    · rw [if_neg hc] at hn
      simp -implicitDefEqProofs -dsimp [hc, hw, hc1, hc2, hp, hp', hlt]
      exact .mk (i + 1) (by omega) (by omega) (by simp -implicitDefEqProofs -dsimp [hn, hw])
  · have e : i = a.length := by omega
    subst e
    simp -implicitDefEqProofs -dsimp
end Go.Proofs.YtbialojkkhkjeaaDoor
