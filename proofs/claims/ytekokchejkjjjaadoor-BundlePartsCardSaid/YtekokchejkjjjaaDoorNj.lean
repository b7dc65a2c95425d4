/- Bundles: rows of objects; put together. (and what stands on it) -/
import Derived.Test.YtekokchejkjjjaaDoorNa
import Derived.Test.YtekokchejkjjjaaDoorNi
import Derived.Test.YtekokchejkjjjaaDoorNs
set_option linter.unusedSimpArgs false
set_option linter.unusedVariables false

/-! Bundles: rows of objects; put together. -/
namespace Go.Sy
/-- An object with an id, as it comes in. -/
structure OB where
  id : ByteArray
  nl : Bool
  b : List Int
  deriving DecidableEq
def OB.cells (o : OB) : List PV := [.lit (.string o.id), .sl .imm o.nl 1 (u8s o.b)]
def obl (l : List OB) : List PV := l.map fun o => .agg o.cells
@[simp] theorem obl_length (l : List OB) : (obl l).length = l.length := by simp [obl]
@[simp] theorem obl_nil : obl [] = [] := rfl
@[simp] theorem obl_append (l m : List OB) : obl l ++ obl m = obl (l ++ m) := by simp [obl]
@[simp] theorem obl_take (l : List OB) (n : Nat) : (obl l).take n = obl (l.take n) := by simp [obl, List.map_take]
@[simp] theorem obl_drop (l : List OB) (n : Nat) : (obl l).drop n = obl (l.drop n) := by simp [obl, List.map_drop]
@[simp] theorem obl_getElem (l : List OB) (n : Nat) (h : n < (obl l).length) : (obl l)[n] = .agg (l[n]'(by simpa using h)).cells := by simp [obl]
@[simp high] theorem obl_get (l : List OB) (n : Nat) : (obl l)[n]? = (l[n]?).map fun p => .agg p.cells := by simp [obl]
@[simp] theorem obl_nil_iff {l : List OB} : obl l = [] ↔ l = [] := by cases l <;> simp [obl]
@[simp] theorem obl_empty (l : List OB) : (obl l).isEmpty = l.isEmpty := by cases l <;> simp [obl]
theorem ob_data (o : OB) : Data (.agg o.cells) := by
  rw [data_agg]
  constructor
  · intro x hx
    simp only [OB.cells, List.mem_cons, List.not_mem_nil, or_false] at hx
    rcases hx with rfl | rfl
    · exact .lit _ rfl
    · rw [data_sl]
      intro y hy
      simp only [ints, List.mem_map] at hy
      obtain ⟨n, _, rfl⟩ := hy
      exact .lit _ rfl
  · intro x hx
    simp only [OB.cells, List.mem_cons, List.not_mem_nil, or_false] at hx
    rcases hx with rfl | rfl <;> rfl
theorem obl_data {l : List OB} (x : PV) (h : x ∈ obl l) : Data x := by
  simp only [obl, List.mem_map] at h
  obtain ⟨o, _, rfl⟩ := h
  exact ob_data o
@[simp] theorem obl_allData {l : List OB} : (∀ x, x ∈ obl l → Data x) = True := eq_true fun _ => obl_data _
theorem obl_snoc (l : List OB) (i : ByteArray) (nl : Bool) (b : List Int) : obl l ++ [PV.agg [.lit (.string i), .sl .imm nl 1 (u8s b)]] = obl (l ++ [⟨i, nl, b⟩]) := by simp [obl, OB.cells]
def zob : PV := .agg [.lit (.string ByteArray.empty), .sl .imm true 0 []]
theorem chunks_reps (n : Nat) : chunks 2 n (reps n [.lit (.string ByteArray.empty), .sl .imm true 0 []]) = List.replicate n zob := by
  induction n with
  | zero => rfl
  | succ n ih =>
    have : reps (n + 1) [PV.lit (.string ByteArray.empty), .sl .imm true 0 []] = .lit (.string ByteArray.empty) :: .sl .imm true 0 [] :: reps n [.lit (.string ByteArray.empty), .sl .imm true 0 []] := rfl
    rw [this, chunks]
    simp only [List.take_succ_cons, List.take_zero, List.drop_succ_cons, List.drop_zero, ih]
    rfl
end Go.Sy
namespace Go.Proofs.YtekokchejkjjjaaDoor
open Go.Sy
theorem grow_ob (o : Own) (s : Nat) (n : Nat) (h0 : 0 < n) (h1 : n ≤ 1000000) : growPV Tryd.prog 61 3 (.sl o true s []) (.lit (.int .i64 n)) = some (2, List.replicate n zob) := by
  have hr : roomOf Tryd.prog 70 = 40 := by kernel_rfl
  have hi : (n : Int) ≤ 1099511627776 := by omega
  have e1 : (List.replicate n zob).all litB = true := by
    rw [List.all_eq_true]; intro x hx; rw [(List.mem_replicate.1 hx).2]; rfl
  have e2 : (List.replicate n zob).all (wideB 2) = true := by
    rw [List.all_eq_true]; intro x hx; rw [(List.mem_replicate.1 hx).2]; rfl
  simp [growPV, elemsOf, -reps, chunks_reps, h0, hi, e1, e2, -chunks]
  omega

set_option maxRecDepth 100000 in
set_option maxHeartbeats 4000000 in
theorem growO0_fn : Fc Tryd.prog 115 [.sl .imm true 0 [], .lit (.int .i64 0)] [] (.sl .imm true 2 []) [] := by
  refine Fc.of (anys _ []) [] mixed Tryd.func115 rfl (by rfl) (by simp [Tryd.ntmps115]) (by decide) ?_
  simp -implicitDefEqProofs -dsimp [Tryd.ntmps115, wrap_0]

set_option maxRecDepth 100000 in
set_option maxHeartbeats 4000000 in
theorem growO_fn (n : Nat) (h0 : 0 < n) (h1 : n ≤ 1000000) : Fc Tryd.prog 115 [.sl .imm true 0 [], .lit (.int .i64 n)] [] (.sl (.own (.loc 22)) false 2 []) [] := by
  refine Fc.args (bs := [.sl .imm true 2 [], .lit (.int .i64 n)]) ?_ (by simp)
  have g := grow_ob .imm 2 n h0 h1
  have g0 : (0 : Int) < n := by omega
  have g1 : ¬ (n : Int) < 0 := by omega
  have hw : IntKind.i64.wrap (n : Int) = n := wrap64 (by omega) (by omega)
  refine Fc.of (anys _ []) [] mixed Tryd.func115 rfl (by rfl) (by simp [Tryd.ntmps115]) (by decide) ?_
  simp -implicitDefEqProofs -dsimp [Tryd.ntmps115, g, h0, g1, hw, wrap_0]
end Go.Proofs.YtekokchejkjjjaaDoor

/-! Bundles: two rows of objects, one behind the other; who may be a base. -/
namespace Go.Sy
attribute [simp ↓] getR_scrubR
/-- Ids that were seen. -/
def hasS (S : List ByteArray) (i : ByteArray) : Bool := S.any fun s => decide (s = i)
def seeE (S : List ByteArray) : List (PV × PV) := S.map fun i => (.lit (.string i), .lit (.bool true))
@[simp] theorem seeE_nil : seeE [] = [] := (rfl)
@[simp] theorem seeE_length (S : List ByteArray) : (seeE S).length = S.length := by simp [seeE]
@[simp] theorem seeE_get? (S : List ByteArray) (j : Nat) : (seeE S)[j]? = S[j]?.map fun i => (.lit (.string i), .lit (.bool true)) := by simp [seeE]
@[simp] theorem seeE_get (S : List ByteArray) (j : Nat) (h : j < (seeE S).length) : (seeE S)[j] = (.lit (.string (S[j]'(by simpa using h))), .lit (.bool true)) := by simp [seeE]
def fndS (S : List ByteArray) (i : ByteArray) : Option Nat := S.findIdx? fun s => decide (s = i)
@[simp] theorem findC_seeE (i : ByteArray) (S : List ByteArray) : findC (bs i) (seeE S) = fndS S i := by
  unfold findC seeE fndS
  rw [List.findIdx?_map]
  congr 1; funext o
  show decide (bs o = bs i) = decide (o = i)
  rw [decide_eq_decide]; exact bs_inj
theorem fndS_none {S : List ByteArray} {i : ByteArray} : fndS S i = none ↔ hasS S i = false := by
  simp [fndS, hasS, List.findIdx?_eq_none_iff]
theorem fndS_some {S : List ByteArray} {i : ByteArray} (h : hasS S i = true) : ∃ j, fndS S i = some j ∧ S[j]? = some i := by
  cases hf : fndS S i with
  | none => rw [fndS_none.1 hf] at h; cases h
  | some j =>
    obtain ⟨h1, h2, -⟩ := List.findIdx?_eq_some_iff_getElem.1 hf
    have : S[j] = i := by simpa using h2
    exact ⟨j, rfl, by rw [List.getElem?_eq_getElem h1, this]⟩
@[simp] theorem keysB_seeE {P : Program} {kt : TypeId} (h : P.underlying kt = some .string) (S : List ByteArray) : keysB P kt (seeE S) = true := by
  rw [keysB, List.all_eq_true]
  intro x hx
  simp only [seeE, List.mem_map] at hx
  obtain ⟨o, _, rfl⟩ := hx
  simp [keyB, h, isStr]
@[simp ↓] theorem seeE_scrub (F : Own → Option Own) (p : Nat → Option Nat) (S : List ByteArray) : scrubM F p (seeE S) = seeE S := by
  simp [scrubM, seeE, PV.scrub]
@[simp ↓] theorem toksM_seeE (S : List ByteArray) : toksM (seeE S) = [] := by
  induction S with
  | nil => rfl
  | cons o S ih =>
    have : seeE (o :: S) = (.lit (.string o), .lit (.bool true)) :: seeE S := rfl
    rw [this, toksM, ih]; simp [toksOf]
@[simp] theorem seeE_new {S : List ByteArray} {i : ByteArray} {z : PV} : putV (seeE S ++ [(.lit (.string i), z)]) S.length (.lit (.bool true)) = seeE (S ++ [i]) := by
  apply List.ext_getElem
  · simp [putV]
  · intro j h1 h2
    have hj : j < S.length + 1 := by simpa using h2
    by_cases e : j < S.length
    · have e' : ¬ S.length = j := by omega
      simp [putV, seeE, List.getElem_modify, List.getElem_append, e, e']
    · have e' : j = S.length := by omega
      subst e'
      simp [putV, seeE, List.getElem_modify, List.getElem_append]
@[simp] theorem seeE_put {S : List ByteArray} {j : Nat} : putV (seeE S) j (.lit (.bool true)) = seeE S := by
  apply List.ext_getElem
  · simp [putV]
  · intro i h1 h2
    simp only [putV, seeE, List.getElem_modify, List.getElem_map]
    split <;> rfl
@[simp] theorem fr_none2 (n : Nat) (nl : Bool) : Fr (.sl (.own (.loc n)) nl 2 []) := .row n _ _ _ fun x hx => by simp at hx
/-- Two rows of objects, the first i of them. -/
def twoO (a b : List OB) : Nat → List OB
  | 0 => []
  | 1 => a
  | _ => a ++ b
end Go.Sy
namespace Go.Proofs.YtekokchejkjjjaaDoor
open Go.Sy
set_option maxRecDepth 100000 in
set_option maxHeartbeats 4000000 in
theorem concatO_fn (n1 n2 : Bool) (a b : List OB) (h0 : 0 < a.length + b.length) (h1 : a.length + b.length ≤ 100000) :
    Fc Tryd.prog 105 [.sl .imm false 1 [.sl .imm n1 2 (obl a), .sl .imm n2 2 (obl b)]] [] (.sl (.own (.loc 1240)) false 2 (obl (a ++ b))) [] := by
  refine Fc.of (anys _ [115]) [] mixed Tryd.func105 rfl (by rfl) (by simp [Tryd.ntmps105]) (by decide) ?_
  simp -implicitDefEqProofs -dsimp [Tryd.ntmps105]
  refine LpK.mk (anys _ [115]) mixed (fun i : Nat => i ≤ 2) (fun i => ⟨[(0, .sl .imm false 1 [.sl .imm n1 2 (obl a), .sl .imm n2 2 (obl b)]), (9, .sl .imm false 1 [.sl .imm n1 2 (obl a), .sl .imm n2 2 (obl b)]), (3, .lit (.int .i64 (twoO a b i).length)), (10, .lit (.int .i64 2)), (11, .lit (.int .i64 i))], [], 36⟩)
    (fun i => 2 - i) 0 (by simp) (by simp -implicitDefEqProofs -dsimp [twoO]) ?_
  intro i hi
  have w1 : IntKind.i64.wrap 1 = 1 := by decide
  have w2 : IntKind.i64.wrap 2 = 2 := by decide
  have w3 : IntKind.i64.wrap (a.length : Int) = a.length := wrap64 (by omega) (by omega)
  have w4 : IntKind.i64.wrap ((a.length : Int) + b.length) = a.length + b.length := wrap64 (by omega) (by omega)
  have g1 : ¬ (a.length : Int) < 0 := by omega
  have g2 : ¬ ((a.length : Int) + b.length) < 0 := by omega
  rcases (by omega : i = 0 ∨ i = 1 ∨ i = 2) with rfl | rfl | rfl
  · simp -implicitDefEqProofs -dsimp [twoO, w1, w3, g1]
    exact .mk 1 (by omega) (by omega) (by simp -implicitDefEqProofs -dsimp [twoO])
  · simp -implicitDefEqProofs -dsimp [twoO, w2, w4, g2]
    exact .mk 2 (by omega) (by omega) (by simp -implicitDefEqProofs -dsimp [twoO])
  · simp -implicitDefEqProofs -dsimp [twoO]
    refine CallK.fresh ?_
    simp -implicitDefEqProofs -dsimp
    refine CallQ.same (growO_fn (a.length + b.length) h0 (by omega)) rfl ?_
    simp -implicitDefEqProofs -dsimp [fr_u8s]
    refine LpK.mk (anys _ [115]) mixed (fun i : Nat => i ≤ 2) (fun i => ⟨[(25, .sl .imm false 1 [.sl .imm n1 2 (obl a), .sl .imm n2 2 (obl b)]), (6, .sl (.own (.loc 1240)) false 2 (obl (twoO a b i))), (26, .lit (.int .i64 2)), (27, .lit (.int .i64 i))], [], 36⟩)
      (fun i => 2 - i) 0 (by simp) (by simp -implicitDefEqProofs -dsimp [twoO]) ?_
    intro i hi
    rcases (by omega : i = 0 ∨ i = 1 ∨ i = 2) with rfl | rfl | rfl
    · have l1 : a.length ≤ 140737488355328 := by omega
      have l2 : a.length * 40 ≤ 140737488355328 := by omega
      simp -implicitDefEqProofs -dsimp [twoO, w1, l1, l2]
      exact .mk 1 (by omega) (by omega) (by simp -implicitDefEqProofs -dsimp [twoO])
    · have l1 : a.length + b.length ≤ 140737488355328 := by omega
      have l2 : (a.length + b.length) * 40 ≤ 140737488355328 := by omega
      simp -implicitDefEqProofs -dsimp [twoO, w2, l1, l2]
      exact .mk 2 (by omega) (by omega) (by simp -implicitDefEqProofs -dsimp [twoO])
    · simp -implicitDefEqProofs -dsimp [twoO]

set_option maxRecDepth 100000 in
set_option maxHeartbeats 4000000 in
theorem concatO0_fn (n1 n2 : Bool) :
    Fc Tryd.prog 105 [.sl .imm false 1 [.sl .imm n1 2 (obl []), .sl .imm n2 2 (obl [])]] [] (.sl .imm true 2 []) [] := by
  refine Fc.of (anys _ [115]) [] mixed Tryd.func105 rfl (by rfl) (by simp [Tryd.ntmps105]) (by decide) ?_
  simp -implicitDefEqProofs -dsimp [Tryd.ntmps105]
  refine LpK.mk (anys _ [115]) mixed (fun i : Nat => i ≤ 2) (fun i => ⟨[(0, .sl .imm false 1 [.sl .imm n1 2 [], .sl .imm n2 2 []]), (9, .sl .imm false 1 [.sl .imm n1 2 [], .sl .imm n2 2 []]), (3, .lit (.int .i64 0)), (10, .lit (.int .i64 2)), (11, .lit (.int .i64 i))], [], 36⟩)
    (fun i => 2 - i) 0 (by simp) (by simp -implicitDefEqProofs -dsimp) ?_
  intro i hi
  have w1 : IntKind.i64.wrap 1 = 1 := by decide
  have w2 : IntKind.i64.wrap 2 = 2 := by decide
  rcases (by omega : i = 0 ∨ i = 1 ∨ i = 2) with rfl | rfl | rfl
  · simp -implicitDefEqProofs -dsimp [w1, wrap_0]
    exact .mk 1 (by omega) (by omega) (by simp -implicitDefEqProofs -dsimp)
  · simp -implicitDefEqProofs -dsimp [w2, wrap_0]
    exact .mk 2 (by omega) (by omega) (by simp -implicitDefEqProofs -dsimp)
  · simp -implicitDefEqProofs -dsimp
    refine CallK.fresh ?_
    simp -implicitDefEqProofs -dsimp
    refine CallQ.same (growO0_fn) rfl ?_
    simp -implicitDefEqProofs -dsimp [fr_u8s]
    refine LpK.mk (anys _ [115]) mixed (fun i : Nat => i ≤ 2) (fun i => ⟨[(25, .sl .imm false 1 [.sl .imm n1 2 [], .sl .imm n2 2 []]), (6, .sl .imm true 2 []), (26, .lit (.int .i64 2)), (27, .lit (.int .i64 i))], [], 36⟩)
      (fun i => 2 - i) 0 (by simp) (by simp -implicitDefEqProofs -dsimp) ?_
    intro i hi
    rcases (by omega : i = 0 ∨ i = 1 ∨ i = 2) with rfl | rfl | rfl
    · simp -implicitDefEqProofs -dsimp [w1]
      exact .mk 1 (by omega) (by omega) (by simp -implicitDefEqProofs -dsimp)
    · simp -implicitDefEqProofs -dsimp [w2]
      exact .mk 2 (by omega) (by omega) (by simp -implicitDefEqProofs -dsimp)
    · simp -implicitDefEqProofs -dsimp
theorem concatI_fn (n1 n2 : Bool) (a b : List OB) (h1 : a.length + b.length ≤ 100000) : Fc Tryd.prog 105 [.sl .imm false 1 [.sl .imm n1 2 (obl a), .sl .imm n2 2 (obl b)]] [] (.sl .imm (a ++ b).isEmpty 2 (obl (a ++ b))) [] := by
  by_cases h : 0 < a.length + b.length
  · have e : (a ++ b).isEmpty = false := by
      cases a with
      | nil => cases b with
        | nil => simp at h
        | cons => rfl
      | cons => rfl
    rw [e]
    have := (concatO_fn n1 n2 a b h h1).fz [.loc 1240]
    simpa using this
  · have ha : a = [] := List.eq_nil_of_length_eq_zero (by omega)
    have hb : b = [] := List.eq_nil_of_length_eq_zero (by omega)
    subst ha; subst hb
    exact concatO0_fn n1 n2

set_option maxRecDepth 100000 in
theorem bases_mk (n1 n2 : Bool) (a b : List OB) : Fc Tryd.prog 90 [.sl .imm n1 2 (obl a), .sl .imm n2 2 (obl b)] [] (.fn (.func 104) [] [.ptr 2 0, .ptr 3 0]) [(2, .cells [.sl .imm n1 2 (obl a)]), (3, .cells [.sl .imm n2 2 (obl b)])] := by
  refine Fc.of (anys _ []) [] mixed Tryd.func90 rfl (by rfl) (by simp [Tryd.ntmps90]) (by decide) ?_
  simp -implicitDefEqProofs -dsimp [Tryd.ntmps90]
end Go.Proofs.YtekokchejkjjjaaDoor

/-! Bundles: an object's base. -/
namespace Go.Proofs.YtekokchejkjjjaaDoor
open Go.Sy
/-- A base that makes it shorter. -/
def fstep (text : List Int) (st : ByteArray × Bool × List Int) (x : OB) : ByteArray × Bool × List Int :=
  if ¬ x.id = ⟨#[]⟩ ∧ (makeS x.b text).length < st.2.2.length then (x.id, false, makeS x.b text) else st
def formL (text : List Int) : List OB → List ByteArray → ByteArray × Bool × List Int → ByteArray × Bool × List Int
  | [], _, st => st
  | x :: A, S, st => if hasS S x.id = true then formL text A S st else formL text A (S ++ [x.id]) (fstep text st x)
noncomputable def cd70 : Array Tmp × Code × Code := ((Tryd.f70.body).bind rfOf).getD (#[], .skip, .skip)
noncomputable def foH (n1 n2 nb : Bool) (a b : List OB) (text : List Int) (st : ByteArray × Bool × List Int) : List (Nat × Ob) :=
  [(100000, .loop [(5, .ptr 100003 0), (8, .ptr 100004 0), (9, .ptr 100005 0)] 36 cd70 .ready none), (100001, .cells [.sl .imm n1 2 (obl a)]), (100002, .cells [.sl .imm n2 2 (obl b)]), (100003, .cells [.sl .imm nb 1 (u8s text)]),
    (100004, .cells [.lit (.string st.1)]), (100005, .cells [.sl .imm st.2.1 1 (u8s st.2.2)])]
attribute [simp] foH

set_option maxRecDepth 100000 in
set_option maxHeartbeats 16000000 in
theorem forms_fn (n1 n2 nb : Bool) (a b : List OB) (text : List Int) (st : ByteArray × Bool × List Int) (hab : a.length + b.length ≤ 1000) (hA : ∀ o, o ∈ a ++ b → o.b.length ≤ 1000) (ht : text.length ≤ 1000) :
    Fc Tryd.prog 104 [.yl 100000, .ptr 100001 0, .ptr 100002 0] (foH n1 n2 nb a b text st) (.tup []) (foH n1 n2 nb a b text (formL text (a ++ b) [] st)) := by
  have hC := concatI_fn n1 n2 a b (by omega)
  obtain ⟨A, hAe⟩ : ∃ A, A = a ++ b := ⟨_, rfl⟩
  have hAl : A.length ≤ 1000 := by rw [hAe, List.length_append]; exact hab
  rw [← hAe] at hC hA ⊢
  refine Fc.of (anys _ [105]) [] mixed Tryd.func104 rfl (by rfl) (by simp [Tryd.ntmps104]) (by decide) ?_
  simp -implicitDefEqProofs -dsimp [Tryd.ntmps104]
  refine CallK.works ?_
  simp -implicitDefEqProofs -dsimp
  refine CallQ.mk (hC) (by simp) ?_
  simp -implicitDefEqProofs -dsimp
  refine LpK.mk (anys _ [105]) mixed (fun ((i, S, s) : Nat × List ByteArray × ByteArray × Bool × List Int) => i ≤ A.length ∧ formL text A [] st = formL text (A.drop i) S s)
    (fun ((i, S, s) : Nat × List ByteArray × ByteArray × Bool × List Int) => ⟨[(0, .yl 100000), (4, .mp 7), (11, .sl .imm A.isEmpty 2 (obl A)), (12, .lit (.int .i64 A.length)), (13, .lit (.int .i64 i))],
      (7, .map (seeE S)) :: foH n1 n2 nb a b text s, 32⟩)
    (fun (i, _) => A.length - i) (0, [], st) ⟨by omega, by simp⟩ (by simp -implicitDefEqProofs -dsimp) ?_
  rintro ⟨i, S, s⟩ ⟨hi, he⟩
  by_cases hlt : i < A.length
  · obtain ⟨x, hx⟩ : ∃ x, A[i] = x := ⟨_, rfl⟩
    have hx' : A[i]? = some x := by rw [List.getElem?_eq_getElem hlt, hx]
    have hw : IntKind.i64.wrap ((i : Int) + 1) = (i : Int) + 1 := wrap64 (by omega) (by omega)
    have hd : A.drop i = x :: A.drop (i + 1) := by rw [List.drop_eq_getElem_cons hlt, hx]
    have hxl := hA x (List.mem_of_getElem? hx')
    rw [hd, formL] at he
    by_cases c1 : hasS S x.id = true
    · rw [if_pos c1] at he
      obtain ⟨j, j1, j2⟩ := fndS_some c1
      have jl : j < S.length := (List.getElem?_eq_some_iff.1 j2).1
      simp -implicitDefEqProofs -dsimp [hlt, hx, hx', OB.cells, lookupPV, keyC_str, j1, j2, jl, mapUpdSt, mapEntryPV, entrySt, hw]
      exact .mk (i + 1, S, s) ⟨hlt, he⟩ (by simp; omega) (by simp -implicitDefEqProofs -dsimp)
    · rw [if_neg c1] at he
      have c1 : hasS S x.id = false := by simpa using c1
      have j0 := fndS_none.2 c1
      have hM := make_fn x.nl nb x.b text hxl ht
      obtain ⟨m, hm⟩ : ∃ m, m = makeS x.b text := ⟨_, rfl⟩
      rw [← hm] at hM
      obtain ⟨sb, sn, sl⟩ := s
      by_cases c2 : x.id = ⟨#[]⟩
      · have e : fstep text (sb, sn, sl) x = (sb, sn, sl) := by rw [fstep, if_neg (fun h => h.1 c2)]
        rw [e] at he
        simp -implicitDefEqProofs -dsimp [hlt, hx, hx', OB.cells, lookupPV, keyC_str, j0]
        refine YlK.mk (anys _ [91]) [] mixed 99999 rfl rfl (by rfl) rfl (by decide) rfl ?_
        intro r vals
        simp -implicitDefEqProofs -dsimp
        have c2' := eq_true c2
        refine CallK.works ?_
        simp -implicitDefEqProofs -dsimp
        refine CallQ.mk (hM) (by simp) ?_
        simp -implicitDefEqProofs -dsimp [c2', mapUpdSt, mapEntryPV, entrySt, keyC_str, j0, hw]
        exact .mk (i + 1, S ++ [x.id], sb, sn, sl) ⟨hlt, he⟩ (by simp; omega) (by simp -implicitDefEqProofs -dsimp)
      · by_cases c3 : m.length < sl.length
        · have e : fstep text (sb, sn, sl) x = (x.id, false, m) := by rw [fstep, if_pos ⟨c2, by rw [← hm]; exact c3⟩, hm]
          rw [e] at he
          simp -implicitDefEqProofs -dsimp [hlt, hx, hx', OB.cells, lookupPV, keyC_str, j0]
          refine YlK.mk (anys _ [91]) [] mixed 99999 rfl rfl (by rfl) rfl (by decide) rfl ?_
          intro r vals
          simp -implicitDefEqProofs -dsimp
          refine CallK.works ?_
          simp -implicitDefEqProofs -dsimp
          refine CallQ.mk (hM) (by simp) ?_
          simp -implicitDefEqProofs -dsimp [c2, c3, mapUpdSt, mapEntryPV, entrySt, keyC_str, j0, hw]
          exact .mk (i + 1, S ++ [x.id], x.id, false, m) ⟨hlt, he⟩ (by simp; omega) (by simp -implicitDefEqProofs -dsimp)
        · have e : fstep text (sb, sn, sl) x = (sb, sn, sl) := by rw [fstep, if_neg (fun h => c3 (by rw [hm]; exact h.2))]
          rw [e] at he
          simp -implicitDefEqProofs -dsimp [hlt, hx, hx', OB.cells, lookupPV, keyC_str, j0]
          refine YlK.mk (anys _ [91]) [] mixed 99999 rfl rfl (by rfl) rfl (by decide) rfl ?_
          intro r vals
          simp -implicitDefEqProofs -dsimp
          refine CallK.works ?_
          simp -implicitDefEqProofs -dsimp
          refine CallQ.mk (hM) (by simp) ?_
          simp -implicitDefEqProofs -dsimp [c2, c3, mapUpdSt, mapEntryPV, entrySt, keyC_str, j0, hw]
          exact .mk (i + 1, S ++ [x.id], sb, sn, sl) ⟨hlt, he⟩ (by simp; omega) (by simp -implicitDefEqProofs -dsimp)
  · have ei : i = A.length := by omega
    subst ei
    rw [List.drop_length, formL] at he
    simp -implicitDefEqProofs -dsimp [hlt, he]

set_option maxRecDepth 100000 in
set_option maxHeartbeats 16000000 in
theorem form_fn (n1 n2 nb : Bool) (a b : List OB) (text : List Int) (hab : a.length + b.length ≤ 1000) (hA : ∀ o, o ∈ a ++ b → o.b.length ≤ 1000) (ht : text.length ≤ 1000) :
    Fc Tryd.prog 70 [.sl .imm n1 2 (obl a), .sl .imm n2 2 (obl b), .sl .imm nb 1 (u8s text)] []
      (.tup [.lit (.string (formL text (a ++ b) [] (⟨#[]⟩, nb, text)).1), .sl .imm (formL text (a ++ b) [] (⟨#[]⟩, nb, text)).2.1 1 (u8s (formL text (a ++ b) [] (⟨#[]⟩, nb, text)).2.2)]) [] := by
  have hF := forms_fn n1 n2 nb a b text (⟨#[]⟩, nb, text) hab hA ht
  obtain ⟨⟨sb, sn, sl⟩, hst⟩ : ∃ st, st = formL text (a ++ b) [] (⟨#[]⟩, nb, text) := ⟨_, rfl⟩
  rw [← hst] at hF ⊢
  refine Fc.of (anys _ [90, 104]) sch70 mixed Tryd.func70 rfl (by rfl) (by simp [Tryd.ntmps70]) (by decide) ?_
  simp -implicitDefEqProofs -dsimp [Tryd.ntmps70]
  refine AltK.mk ?_ ?_
  · simp -implicitDefEqProofs -dsimp
    refine CallK.works ?_
    simp -implicitDefEqProofs -dsimp
    refine CallQ.mk (bases_mk n1 n2 a b) (by simp) ?_
    simp -implicitDefEqProofs -dsimp
    refine RfK.mk 99998 cd70 [(5, .ptr 5 0), (8, .ptr 8 0), (9, .ptr 9 0)] rfl rfl (by decide) (by simp -implicitDefEqProofs -dsimp) ?_
    simp -implicitDefEqProofs -dsimp
    refine CallK.works ?_
    simp -implicitDefEqProofs -dsimp
    refine CallQ.mk (hF) (by simp) ?_
    simp -implicitDefEqProofs -dsimp [jumpK]
  · simp -implicitDefEqProofs -dsimp
    refine CallK.works ?_
    simp -implicitDefEqProofs -dsimp
    refine CallQ.mk (bases_mk n1 n2 a b) (by simp) ?_
    simp -implicitDefEqProofs -dsimp
    refine RfK.mk 99998 cd70 [(5, .ptr 5 0), (8, .ptr 8 0), (9, .ptr 9 0)] rfl rfl (by decide) (by simp -implicitDefEqProofs -dsimp) ?_
    simp -implicitDefEqProofs -dsimp
    refine CallK.works ?_
    simp -implicitDefEqProofs -dsimp
    refine CallQ.mk (hF) (by simp) ?_
    simp -implicitDefEqProofs -dsimp [jumpK]
end Go.Proofs.YtekokchejkjjjaaDoor

/-! Bundles: the one with an id. -/
namespace Go.Proofs.YtekokchejkjjjaaDoor
open Go.Sy
/-- The first one with an id. -/
def fndX : List OB → ByteArray → Option OB
  | [], _ => none
  | x :: A, i => if x.id = i then some x else fndX A i
noncomputable def cd110 : Array Tmp × Code × Code := ((Tryd.f110.body).bind rfOf).getD (#[], .skip, .skip)
def fndR (A : List OB) (i : ByteArray) : Bool × List Int := match fndX A i with
  | some x => (x.nl, x.b)
  | none => (true, [])
def fndT (A : List OB) (i : ByteArray) : Bool := (fndX A i).isSome
noncomputable def fiH (n1 n2 : Bool) (a b : List OB) (i : ByteArray) (s : LoopState) (j : Option Code) (r : Bool × List Int) (ok : Bool) : List (Nat × Ob) :=
  [(100000, .loop [(5, .ptr 100003 0), (6, .ptr 100004 0), (7, .ptr 100005 0)] 19 cd110 s j), (100001, .cells [.sl .imm n1 2 (obl a)]), (100002, .cells [.sl .imm n2 2 (obl b)]), (100003, .cells [.lit (.string i)]),
    (100004, .cells [.sl .imm r.1 1 (u8s r.2)]), (100005, .cells [.lit (.bool ok)])]
attribute [simp] fiH

set_option maxRecDepth 100000 in
set_option maxHeartbeats 16000000 in
theorem finds_fn (n1 n2 : Bool) (a b : List OB) (q : ByteArray) (hab : a.length + b.length ≤ 1000) :
    Fc Tryd.prog 104 [.yl 100000, .ptr 100001 0, .ptr 100002 0] (fiH n1 n2 a b q .ready none (true, []) false) (.tup [])
      (fiH n1 n2 a b q (if fndT (a ++ b) q = true then .done else .ready) (if fndT (a ++ b) q = true then some .ret else none) (fndR (a ++ b) q) (fndT (a ++ b) q)) := by
  have hC := concatI_fn n1 n2 a b (by omega)
  obtain ⟨A, hAe⟩ : ∃ A, A = a ++ b := ⟨_, rfl⟩
  have hAl : A.length ≤ 1000 := by rw [hAe, List.length_append]; exact hab
  rw [← hAe] at hC ⊢
  refine Fc.of (anys _ [105]) [] mixed Tryd.func104 rfl (by rfl) (by simp [Tryd.ntmps104]) (by decide) ?_
  simp -implicitDefEqProofs -dsimp [Tryd.ntmps104]
  refine CallK.works ?_
  simp -implicitDefEqProofs -dsimp
  refine CallQ.mk (hC) (by simp) ?_
  simp -implicitDefEqProofs -dsimp
  refine LpK.mk (anys _ [105]) mixed (fun ((i, S) : Nat × List ByteArray) => i ≤ A.length ∧ hasS S q = false ∧ fndX A q = fndX (A.drop i) q)
    (fun ((i, S) : Nat × List ByteArray) => ⟨[(0, .yl 100000), (4, .mp 7), (11, .sl .imm A.isEmpty 2 (obl A)), (12, .lit (.int .i64 A.length)), (13, .lit (.int .i64 i))],
      (7, .map (seeE S)) :: fiH n1 n2 a b q .ready none (true, []) false, 32⟩)
    (fun (i, _) => A.length - i) (0, []) ⟨by omega, by simp [hasS], by simp⟩ (by simp -implicitDefEqProofs -dsimp) ?_
  rintro ⟨i, S⟩ ⟨hi, hS, he⟩
  by_cases hlt : i < A.length
  · obtain ⟨x, hx⟩ : ∃ x, A[i] = x := ⟨_, rfl⟩
    have hx' : A[i]? = some x := by rw [List.getElem?_eq_getElem hlt, hx]
    have hw : IntKind.i64.wrap ((i : Int) + 1) = (i : Int) + 1 := wrap64 (by omega) (by omega)
    have hd : A.drop i = x :: A.drop (i + 1) := by rw [List.drop_eq_getElem_cons hlt, hx]
    rw [hd, fndX] at he
    by_cases c0 : hasS S x.id = true
    · obtain ⟨j, j1, j2⟩ := fndS_some c0
      have jl : j < S.length := (List.getElem?_eq_some_iff.1 j2).1
      have hne : ¬ x.id = q := fun h => by rw [h, hS] at c0; cases c0
      rw [if_neg hne] at he
      simp -implicitDefEqProofs -dsimp [hlt, hx, hx', OB.cells, lookupPV, keyC_str, j1, j2, jl, mapUpdSt, mapEntryPV, entrySt, hw]
      exact .mk (i + 1, S) ⟨hlt, hS, he⟩ (by simp; omega) (by simp -implicitDefEqProofs -dsimp)
    · have c0 : hasS S x.id = false := by simpa using c0
      have j0 := fndS_none.2 c0
      by_cases c1 : x.id = q
      · rw [if_pos c1] at he
        have e1 : fndT A q = true := by rw [fndT, he]; rfl
        have e2 : fndR A q = (x.nl, x.b) := by rw [fndR, he]
        simp -implicitDefEqProofs -dsimp [hlt, hx, hx', OB.cells, lookupPV, keyC_str, j0]
        refine YlK.mk (anys _ []) [] mixed 99999 rfl rfl (by rfl) rfl (by decide) rfl ?_
        intro r vals
        simp -implicitDefEqProofs -dsimp [c1, e1, e2]
      · rw [if_neg c1] at he
        have hS2 : hasS (S ++ [x.id]) q = false := by
          simp only [hasS, List.any_append, Bool.or_eq_false_iff]
          exact ⟨hS, by simp [c1]⟩
        simp -implicitDefEqProofs -dsimp [hlt, hx, hx', OB.cells, lookupPV, keyC_str, j0]
        refine YlK.mk (anys _ []) [] mixed 99999 rfl rfl (by rfl) rfl (by decide) rfl ?_
        intro r vals
        simp -implicitDefEqProofs -dsimp [c1, mapUpdSt, mapEntryPV, entrySt, keyC_str, j0, hw]
        exact .mk (i + 1, S ++ [x.id]) ⟨hlt, hS2, he⟩ (by simp; omega) (by simp -implicitDefEqProofs -dsimp)
  · have ei : i = A.length := by omega
    subst ei
    rw [List.drop_length, fndX] at he
    have e1 : fndT A q = false := by rw [fndT, he]; rfl
    have e2 : fndR A q = (true, []) := by rw [fndR, he]
    simp -implicitDefEqProofs -dsimp [hlt, e1, e2]

set_option maxRecDepth 100000 in
set_option maxHeartbeats 16000000 in
theorem find_fn (n1 n2 : Bool) (a b : List OB) (q : ByteArray) (hab : a.length + b.length ≤ 1000) :
    Fc Tryd.prog 110 [.sl .imm n1 2 (obl a), .sl .imm n2 2 (obl b), .lit (.string q)] [] (.tup [.sl .imm (fndR (a ++ b) q).1 1 (u8s (fndR (a ++ b) q).2), .lit (.bool (fndT (a ++ b) q))]) [] := by
  have hF := finds_fn n1 n2 a b q hab
  obtain ⟨⟨rn, rb⟩, hr⟩ : ∃ r, r = fndR (a ++ b) q := ⟨_, rfl⟩
  have hn : fndT (a ++ b) q = false → fndR (a ++ b) q = (true, []) := fun h => by
    rw [fndT] at h
    cases e : fndX (a ++ b) q with
    | none => rw [fndR, e]
    | some x => rw [e] at h; cases h
  rw [← hr] at hF hn ⊢
  cases ht : fndT (a ++ b) q with
  | true =>
    rw [ht] at hF
    refine Fc.of (anys _ [90, 104]) [] mixed Tryd.func110 rfl (by rfl) (by simp [Tryd.ntmps110]) (by decide) ?_
    simp -implicitDefEqProofs -dsimp [Tryd.ntmps110]
    refine CallK.works ?_
    simp -implicitDefEqProofs -dsimp
    refine CallQ.mk (bases_mk n1 n2 a b) (by simp) ?_
    simp -implicitDefEqProofs -dsimp
    refine RfK.mk 99998 cd110 [(5, .ptr 5 0), (6, .ptr 6 0), (7, .ptr 7 0)] rfl rfl (by decide) (by simp -implicitDefEqProofs -dsimp) ?_
    simp -implicitDefEqProofs -dsimp
    refine CallK.works ?_
    simp -implicitDefEqProofs -dsimp
    refine CallQ.mk (hF.heapW (h2 := [(100000, .loop [(5, .ptr 100003 0), (6, .ptr 100004 0), (7, .ptr 100005 0)] 19 cd110 .ready none), (100001, .cells [.sl .imm n1 2 (obl a)]), (100002, .cells [.sl .imm n2 2 (obl b)]), (100003, .cells [.lit (.string q)]), (100004, .cells [.sl .imm true 0 []]), (100005, .cells [.lit (.bool false)])]) (by simp)) (by simp) ?_
    simp -implicitDefEqProofs -dsimp [jumpK]
  | false =>
    obtain ⟨rfl, rfl⟩ := Prod.mk.inj (hn ht)
    rw [ht] at hF
    refine Fc.tup (xs := [.sl .imm true 0 [], .lit (.bool false)]) ?_ (by simp)
    refine Fc.of (anys _ [90, 104]) [] mixed Tryd.func110 rfl (by rfl) (by simp [Tryd.ntmps110]) (by decide) ?_
    simp -implicitDefEqProofs -dsimp [Tryd.ntmps110]
    refine CallK.works ?_
    simp -implicitDefEqProofs -dsimp
    refine CallQ.mk (bases_mk n1 n2 a b) (by simp) ?_
    simp -implicitDefEqProofs -dsimp
    refine RfK.mk 99998 cd110 [(5, .ptr 5 0), (6, .ptr 6 0), (7, .ptr 7 0)] rfl rfl (by decide) (by simp -implicitDefEqProofs -dsimp) ?_
    simp -implicitDefEqProofs -dsimp
    refine CallK.works ?_
    simp -implicitDefEqProofs -dsimp
    refine CallQ.mk (hF.heapW (h2 := [(100000, .loop [(5, .ptr 100003 0), (6, .ptr 100004 0), (7, .ptr 100005 0)] 19 cd110 .ready none), (100001, .cells [.sl .imm n1 2 (obl a)]), (100002, .cells [.sl .imm n2 2 (obl b)]), (100003, .cells [.lit (.string q)]), (100004, .cells [.sl .imm true 0 []]), (100005, .cells [.lit (.bool false)])]) (by simp)) (by simp) ?_
    simp -implicitDefEqProofs -dsimp [jumpK]
end Go.Proofs.YtekokchejkjjjaaDoor
