/- Messages held against each other. (and what stands on it) -/
import Derived.Test.YtbialojkkhkjeaaM8
import Derived.Laws.StructEq

/-! Messages held against each other. -/
namespace Go.Sy
section
variable {P : Program} {t : TypeId}
theorem pureOf_program {α : Type} (f : Program → Sem α) : pureOf P (program >>= f) = pureOf P (f P) := by rw [pureOf_bind]; rfl
theorem equalIn_str (d : Nat) (h : P.underlying t = some .string) (a b : ByteArray) : pureOf P (Op.equalIn (d + 1) t (.string a) (.string b)) = some (decide (a = b)) := by
  unfold Op.equalIn
  rw [underlying_bind h]
  simp only [pureOf_pure]
  rw [beq_toListBytes, ba_eq]
theorem equalIn_int (d : Nat) {k : IntKind} (h : P.underlying t = some (.int k)) (a b : Int) : pureOf P (Op.equalIn (d + 1) t (.int k a) (.int k b)) = some (decide (a = b)) := by
  unfold Op.equalIn
  rw [underlying_bind h]
  simp only [if_true, pureOf_pure]
  rfl
theorem equalIn_struct (d : Nat) {fs : Array Field} (ht : P.underlying t = some (.struct fs)) (hp : P.stoodInHeld t = false) (xs ys : Array Value) :
    pureOf P (Op.equalIn (d + 1) t (.agg xs) (.agg ys)) = pureOf P (Op.eqFields d xs ys fs.toList) := by
  unfold Op.equalIn
  rw [underlying_bind ht]
  simp only [pureOf_program, hp, Bool.false_eq_true, if_false]
  rw [← Array.forIn_toList]
  generalize fs.toList = fs
  induction fs with
  | nil => simp [Op.eqFields, pureOf_pure, pureOf_bind]
  | cons f fs ih =>
    simp only [List.forIn_cons, Op.eqFields, pureOf_bind]
    split
    · simp only [pureOf_bind]
      cases pureOf P (part f.type xs f.offset) with
      | none => rfl
      | some a =>
        simp only [Option.bind_some]
        cases pureOf P (part f.type ys f.offset) with
        | none => rfl
        | some b =>
          simp only [Option.bind_some]
          cases pureOf P (Op.equalIn d f.type a b) with
          | none => rfl
          | some r =>
            cases r
            · simp [pureOf_pure]
            · simp only [Option.bind_some, Bool.not_true, Bool.false_eq_true, if_false, pureOf_pure]
              rw [pureOf_bind] at ih
              exact ih
    · simp only [pureOf_pure, Option.bind_some]
      rw [pureOf_bind] at ih
      exact ih
theorem part_at {cs : Array Value} {off : Nat} {v : Value} (ha : pureOf P (isAgg t) = some false) (h : cs[off]? = some v) : pureOf P (part t cs off) = some v := by
  unfold part
  rw [pureOf_bind, ha]
  simp [h, pureOf_pure]
theorem eqFields_cons {d : Nat} {xs ys : Array Value} {f : Field} {fs : List Field} (hn : f.name ≠ "_") {a b : Value} (ha : pureOf P (part f.type xs f.offset) = some a) (hb : pureOf P (part f.type ys f.offset) = some b) {r : Bool}
    (hr : pureOf P (Op.equalIn d f.type a b) = some r) : pureOf P (Op.eqFields d xs ys (f :: fs)) = if r = true then pureOf P (Op.eqFields d xs ys fs) else some false := by
  rw [Op.eqFields, if_pos hn, pureOf_bind, ha]
  simp only [Option.bind_some]
  rw [pureOf_bind, hb]
  simp only [Option.bind_some]
  rw [pureOf_bind, hr]
  cases r <;> simp [pureOf_pure]
theorem eqFields_nil {d : Nat} {xs ys : Array Value} : pureOf P (Op.eqFields d xs ys []) = some true := rfl
end
/-- Are two messages one? -/
def sameM (a b : Ms) : Bool := decide (a.kind = b.kind) && (decide (a.rs = b.rs) && (decide (a.lo = b.lo) && (decide (a.hi = b.hi) && (decide (a.ids = b.ids) && (decide (a.bundle = b.bundle) && (decide (a.index = b.index) && (decide (a.many = b.many) && decide (a.body = b.body))))))))
end Go.Sy
namespace Go.Proofs.Ytbialojkkhkjeaa
open Go.Sy
theorem isAgg28 : pureOf Try.prog (isAgg 28) = some false := by kernel_rfl
theorem isAgg3 : pureOf Try.prog (isAgg 3) = some false := by kernel_rfl
theorem guard48 : Try.prog.eqGuardType Try.prog.depth 48 = false := by kernel_rfl
theorem stood48 : Try.prog.stoodInHeld 48 = false := by kernel_rfl
theorem rg_ext {r s : Rg} : r = s ↔ r.lo = s.lo ∧ r.hi = s.hi ∧ r.many = s.many ∧ r.mark = s.mark := by
  cases r; cases s; simp
theorem equal_rg (r s : Rg) : pureOf Try.prog (Op.equal 48 (.agg #[.string r.lo, .string r.hi, .int .i64 r.many, .string r.mark]) (.agg #[.string s.lo, .string s.hi, .int .i64 s.many, .string s.mark])) = some (decide (r = s)) := by
  unfold Op.equal
  rw [show Op.maxDepth = 9999 + 1 from rfl, equalIn_struct 9999 Try.underlying48 stood48]
  rw [show (9999 : Nat) = 9998 + 1 from rfl]
  rw [eqFields_cons (by decide) (part_at isAgg28 (v := .string r.lo) rfl) (part_at isAgg28 (v := .string s.lo) rfl) (equalIn_str _ Try.underlying28 _ _),
    eqFields_cons (by decide) (part_at isAgg28 (v := .string r.hi) rfl) (part_at isAgg28 (v := .string s.hi) rfl) (equalIn_str _ Try.underlying28 _ _),
    eqFields_cons (by decide) (part_at isAgg3 (v := .int .i64 r.many) rfl) (part_at isAgg3 (v := .int .i64 s.many) rfl) (equalIn_int _ Try.underlying3 _ _),
    eqFields_cons (by decide) (part_at isAgg28 (v := .string r.mark) rfl) (part_at isAgg28 (v := .string s.mark) rfl) (equalIn_str _ Try.underlying28 _ _), eqFields_nil]
  simp only [decide_eq_true_eq]
  have e := rg_ext (r := r) (s := s)
  by_cases h1 : r.lo = s.lo <;> by_cases h2 : r.hi = s.hi <;> by_cases h3 : r.many = s.many <;> by_cases h4 : r.mark = s.mark <;> simp [e, h1, h2, h3, h4]
theorem guard_rg {op : BinOp} {x y : Operand} (a b : Array Value) : pureOf Try.prog (eqGuard op 48 x y (.agg a) (.agg b)) = some () := by
  unfold eqGuard
  cases op <;> first | rfl | skip
  all_goals
    simp only [Bool.not_true, Bool.false_eq_true, if_false]
    simp [pureOf_bind, guard48, pureOf_pure, show pureOf Try.prog program = some Try.prog from rfl]
@[simp] theorem bin_eql_rg {x y : Operand} (r s : Rg) : binPV Try.prog .eql 48 x y (.agg r.cells) (.agg s.cells) = some (.lit (.bool (decide (r = s)))) := by
  have : binPV Try.prog .eql 48 x y (.agg r.cells) (.agg s.cells) = (pureOf Try.prog (do eqGuard .eql 48 x y (.agg #[.string r.lo, .string r.hi, .int .i64 r.many, .string r.mark]) (.agg #[.string s.lo, .string s.hi, .int .i64 s.many, .string s.mark]); binOp .eql 48 (.agg #[.string r.lo, .string r.hi, .int .i64 r.many, .string r.mark]) (.agg #[.string s.lo, .string s.hi, .int .i64 s.many, .string s.mark]))).map .lit := rfl
  rw [this, pureOf_bind, guard_rg]
  simp only [Option.bind_some]
  rw [show binOp .eql 48 (.agg #[.string r.lo, .string r.hi, .int .i64 r.many, .string r.mark]) (.agg #[.string s.lo, .string s.hi, .int .i64 s.many, .string s.mark]) = (do pure (.bool (← Op.equal 48 (.agg #[.string r.lo, .string r.hi, .int .i64 r.many, .string r.mark]) (.agg #[.string s.lo, .string s.hi, .int .i64 s.many, .string s.mark])))) from rfl, pureOf_bind, equal_rg]
  rfl
@[simp] theorem bin_neq_rg {x y : Operand} (r s : Rg) : binPV Try.prog .neq 48 x y (.agg r.cells) (.agg s.cells) = some (.lit (.bool (!decide (r = s)))) := by
  have : binPV Try.prog .neq 48 x y (.agg r.cells) (.agg s.cells) = (pureOf Try.prog (do eqGuard .neq 48 x y (.agg #[.string r.lo, .string r.hi, .int .i64 r.many, .string r.mark]) (.agg #[.string s.lo, .string s.hi, .int .i64 s.many, .string s.mark]); binOp .neq 48 (.agg #[.string r.lo, .string r.hi, .int .i64 r.many, .string r.mark]) (.agg #[.string s.lo, .string s.hi, .int .i64 s.many, .string s.mark]))).map .lit := rfl
  rw [this, pureOf_bind, guard_rg]
  simp only [Option.bind_some]
  rw [show binOp .neq 48 (.agg #[.string r.lo, .string r.hi, .int .i64 r.many, .string r.mark]) (.agg #[.string s.lo, .string s.hi, .int .i64 s.many, .string s.mark]) = (do pure (.bool (!(← Op.equal 48 (.agg #[.string r.lo, .string r.hi, .int .i64 r.many, .string r.mark]) (.agg #[.string s.lo, .string s.hi, .int .i64 s.many, .string s.mark]))))) from rfl, pureOf_bind, equal_rg]
  rfl
set_option maxRecDepth 100000 in
set_option maxHeartbeats 4000000 in
theorem rsame_fn (n1 n2 : Bool) (xs ys : List Rg) (hl : xs.length < 9223372036854775807) : Fc Try.prog 40 [.sl .imm n1 4 (rgs xs), .sl .imm n2 4 (rgs ys)] [] (.lit (.bool (decide (xs = ys)))) [] := by
  refine Fc.of (anys _ []) sch40 mixed Try.func40 rfl (by rfl) (by simp [Try.ntmps40]) (by decide) ?_
  simp -implicitDefEqProofs -dsimp [Try.ntmps40]
  refine Cnd.mk (fun h => ?_) (fun h => ?_)
  · have h : ¬ xs = ys := by rintro rfl; simp at h
    simp -implicitDefEqProofs -dsimp [h]
  · have h : xs.length = ys.length := by simp at h; omega
    simp -implicitDefEqProofs -dsimp
    refine LpK.mk (anys _ []) mixed (fun i : Nat => i ≤ xs.length ∧ xs.take i = ys.take i) (fun i => ⟨[(0, .sl .imm n1 4 (rgs xs)), (1, .sl .imm n2 4 (rgs ys)), (5, .lit (.int .i64 i))], [], 26⟩) (fun i => xs.length - i) 0 (by simp) (by simp -implicitDefEqProofs -dsimp) ?_
    rintro i ⟨hi, ht⟩
    by_cases hlt : i < xs.length
    · have hlt2 : i < ys.length := by omega
      by_cases he : xs[i] = ys[i]
      · have hw : IntKind.i64.wrap ((i : Int) + 1) = ((i + 1 : Nat) : Int) := wrap64 (by omega) (by omega)
        simp -implicitDefEqProofs -dsimp [hlt, hlt2, he, hw]
        exact .mk (i + 1) ⟨by omega, by rw [List.take_succ_eq_append_getElem hlt, List.take_succ_eq_append_getElem hlt2, ht, he]⟩ (by omega) (by simp -implicitDefEqProofs -dsimp)
      · have hn : ¬ xs = ys := by rintro rfl; exact he rfl
        simp -implicitDefEqProofs -dsimp [hlt, hlt2, he, hn]
    · have hn : xs = ys := by rwa [List.take_of_length_le (by omega), List.take_of_length_le (by omega)] at ht
      subst hn
      simp -implicitDefEqProofs -dsimp [hlt]

theorem take_same' {xs ys : List ByteArray} {i : Nat} (h1 : i < xs.length) (h2 : i < ys.length) (ht : xs.take i = ys.take i) (he : xs[i] = ys[i]) : xs.take (i + 1) = ys.take (i + 1) := by
  rw [List.take_succ_eq_append_getElem h1, List.take_succ_eq_append_getElem h2, ht, he]
set_option maxRecDepth 100000 in
set_option maxHeartbeats 4000000 in
theorem ids_fn (n1 n2 : Bool) (xs ys : List ByteArray) (hl : xs.length < 9223372036854775807) : Fc Try.prog 41 [.sl .imm n1 1 (idc xs), .sl .imm n2 1 (idc ys)] [] (.lit (.bool (decide (xs = ys)))) [] := by
  refine Fc.of (anys _ []) sch41 mixed Try.func41 rfl (by rfl) (by simp [Try.ntmps41]) (by decide) ?_
  simp -implicitDefEqProofs -dsimp [Try.ntmps41]
  refine Cnd.mk (fun h => ?_) (fun h => ?_)
  · have h : ¬ xs = ys := by rintro rfl; simp at h
    simp -implicitDefEqProofs -dsimp [h]
  · have h : xs.length = ys.length := by simp at h; omega
    simp -implicitDefEqProofs -dsimp
    refine LpK.mk (anys _ []) mixed (fun i : Nat => i ≤ xs.length ∧ xs.take i = ys.take i) (fun i => ⟨[(0, .sl .imm n1 1 (idc xs)), (1, .sl .imm n2 1 (idc ys)), (5, .lit (.int .i64 i))], [], 26⟩) (fun i => xs.length - i) 0 (by simp) (by simp -implicitDefEqProofs -dsimp) ?_
    rintro i ⟨hi, ht⟩
    by_cases hlt : i < xs.length
    · have hlt2 : i < ys.length := by omega
      by_cases he : xs[i] = ys[i]
      · have hw : IntKind.i64.wrap ((i : Int) + 1) = ((i + 1 : Nat) : Int) := wrap64 (by omega) (by omega)
        simp -implicitDefEqProofs -dsimp [hlt, hlt2, he, hw]
        exact .mk (i + 1) ⟨by omega, take_same' hlt hlt2 ht he⟩ (by omega) (by simp -implicitDefEqProofs -dsimp)
      · have hn : ¬ xs = ys := by rintro rfl; exact he rfl
        simp -implicitDefEqProofs -dsimp [hlt, hlt2, he, hn]
    · have hn : xs = ys := by rwa [List.take_of_length_le (by omega), List.take_of_length_le (by omega)] at ht
      subst hn
      simp -implicitDefEqProofs -dsimp [hlt]


set_option maxRecDepth 100000 in
set_option maxHeartbeats 8000000 in
theorem same_ms (a b : Ms) (h1 : a.rs.length ≤ 1000000) (h2 : a.ids.length ≤ 1000000) (h3 : a.body.length ≤ 1000000) : Fc Try.prog 20 [.agg a.cells, .agg b.cells] [] (.lit (.bool (sameM a b))) [] := by
  refine Fc.of (anys _ [15, 40, 41]) [] mixed Try.func20 rfl (by rfl) (by simp [Try.ntmps20]) (by decide) ?_
  simp -implicitDefEqProofs -dsimp [Try.ntmps20, Ms.cells]
  by_cases d1 : a.kind = b.kind
  · simp -implicitDefEqProofs -dsimp [sameM, d1]
    refine CallK.reads ?_
    simp -implicitDefEqProofs -dsimp
    refine CallQ.same (rsame_fn _ _ a.rs b.rs (by omega)) rfl ?_
    simp -implicitDefEqProofs -dsimp [sameM, d1]
    by_cases d2 : a.rs = b.rs
    · by_cases d3 : a.lo = b.lo
      · by_cases d4 : a.hi = b.hi
        · simp -implicitDefEqProofs -dsimp [sameM, d1, d2, d3, d4]
          refine CallK.reads ?_
          simp -implicitDefEqProofs -dsimp
          refine CallQ.same (ids_fn _ _ a.ids b.ids (by omega)) rfl ?_
          simp -implicitDefEqProofs -dsimp [sameM, d1, d2, d3, d4]
          by_cases d5 : a.ids = b.ids
          · by_cases d6 : a.bundle = b.bundle
            · by_cases d7 : a.index = b.index
              · by_cases d8 : a.many = b.many
                · simp -implicitDefEqProofs -dsimp [sameM, d1, d2, d3, d4, d5, d6, d7, d8]
                  refine CallK.reads ?_
                  simp -implicitDefEqProofs -dsimp
                  refine CallQ.same (same_fn _ _ a.body b.body (by omega)) rfl ?_
                  simp -implicitDefEqProofs -dsimp [sameM, d1, d2, d3, d4, d5, d6, d7, d8]
                · simp -implicitDefEqProofs -dsimp [sameM, d1, d2, d3, d4, d5, d6, d7, d8]
              · simp -implicitDefEqProofs -dsimp [sameM, d1, d2, d3, d4, d5, d6, d7]
            · simp -implicitDefEqProofs -dsimp [sameM, d1, d2, d3, d4, d5, d6]
          · simp -implicitDefEqProofs -dsimp [sameM, d1, d2, d3, d4, d5]
        · simp -implicitDefEqProofs -dsimp [sameM, d1, d2, d3, d4]
      · simp -implicitDefEqProofs -dsimp [sameM, d1, d2, d3]
    · simp -implicitDefEqProofs -dsimp [sameM, d1, d2]
  · simp -implicitDefEqProofs -dsimp [sameM, d1]
end Go.Proofs.Ytbialojkkhkjeaa

/-! Frames: the chapter's example, and a message. -/
namespace Go.Sy
/-- What the one says the other says too; also within a struct. -/
def weakA : List PV → List PV → Prop
  | [], [] => True
  | .agg xs :: l, .agg ys :: m => weakL xs ys ∧ weakA l m
  | x :: l, y :: m => Weak x y ∧ weakA l m
  | _, _ => False
theorem weakA_get : ∀ {xs ys : List PV}, weakA xs ys → xs.length = ys.length ∧ ∀ (i : Nat) (y : PV), ys[i]? = some y → ∃ x, xs[i]? = some x ∧ ∀ {g : G} {w : World} {v : Value}, Rep g w x v → Rep g w y v
  | [], [], _ => ⟨rfl, fun _ _ h => by simp at h⟩
  | [], _ :: _, h => by simp [weakA] at h
  | _ :: _, [], h => by simp [weakA] at h
  | x :: l, y :: m, h => by
    have key : (∀ {g : G} {w : World} {v : Value}, Rep g w x v → Rep g w y v) ∧ weakA l m := by
      unfold weakA at h
      split at h
      · rename_i h1 h2; cases h1
      · rename_i xs l' ys m' h1 h2
        cases h1; cases h2
        refine ⟨fun {g w v} hr => ?_, h.2⟩
        cases hr with
        | agg _ vs hl hr =>
          obtain ⟨e1, e2⟩ := weakL_get h.1
          refine .agg _ vs (by omega) fun i y u hy hu => ?_
          obtain ⟨z, hz, hzw⟩ := e2 i y hy
          exact hzw.rep (hr i z u hz hu)
      · rename_i h1 h2
        cases h1; cases h2
        exact ⟨fun hr => h.1.rep hr, h.2⟩
      · exact h.elim
    obtain ⟨h1, h2⟩ := weakA_get key.2
    refine ⟨by simp [h1], fun i z hz => ?_⟩
    cases i with
    | zero => simp at hz; subst hz; exact ⟨x, rfl, key.1⟩
    | succ i => exact h2 i z (by simpa using hz)
theorem Fc.argsA {P : Program} {k : FuncId} {xs ys : List PV} {h : List (Nat × Ob)} {x : PV} {h1 : List (Nat × Ob)} (hf : Fc P k xs h x h1) (hw : weakA ys xs) : Fc P k ys h x h1 := by
  refine ⟨hf.ok, fun g w vs a1 a2 a3 => hf.run g w vs a1 a2 ⟨?_, fun i y u hy hu => ?_⟩⟩
  · rw [a3.1, (weakA_get hw).1]
  · obtain ⟨z, hz, hw2⟩ := (weakA_get hw).2 i y hy
    exact hw2 (a3.2 i z u hz hu)
end Go.Sy
namespace Go.Proofs.Ytbialojkkhkjeaa
open Go.Sy
def z32 : ByteArray := ofBs (List.replicate 32 0)
def m0 : Ms := ⟨3, true, [], ByteArray.empty, ByteArray.empty, false, [z32], ByteArray.empty, 0, 0, true, []⟩
def F0 : List Int := [3, 1, 32] ++ List.replicate 32 0 ++ ck4 (crc ([3, 1, 32] ++ List.replicate 32 0))
theorem small0 : Small m0 := by
  refine ⟨by decide, by simp [m0], by decide, by decide, by decide, fun p hp => ?_, by decide, by decide, by simp [m0]⟩
  simp [m0] at hp; subst hp; decide
theorem right0 : rightB m0 = true := by kernel_rfl
theorem form0 : formM m0 = [3, 1, 32] ++ List.replicate 32 0 := by
  have e3 : numB m0.kind = [3] := by
    unfold numB
    rw [show (IntKind.u64.wrap m0.kind).toNat = 3 by rfl, enc_lt (by decide)]; rfl
  have e1 : enc m0.ids.length = [1] := by rw [show m0.ids.length = 1 from rfl, enc_lt (by decide)]; rfl
  have e2 : txB z32 = [32] ++ List.replicate 32 0 := by
    unfold txB
    rw [show z32.size = 32 from rfl, enc_lt (by decide)]
    have : bs z32 = List.replicate 32 0 := bs_ofBs fun x hx => by rw [List.eq_of_mem_replicate hx]; decide
    rw [this]; rfl
  have e4 : m0.ids.flatMap txB = txB z32 := by simp [m0]
  rw [formM, if_neg (by decide), if_neg (by decide), if_pos (by rfl), idsF, e3, e1, e4, e2]; rfl
theorem enc0 : encM m0 = ((false, F0), 0) := by
  rw [encM, if_pos right0, frB, form0]; rfl
theorem dec0e : (decM F0).2 = 0 := by kernel_rfl
theorem dec0s : sameM m0 (decM F0).1 = true := by kernel_rfl
theorem reps_u8 (n : Nat) : reps n [.lit (.int .u8 0)] = u8s (List.replicate n 0) := by
  induction n with
  | zero => rfl
  | succ n ih =>
    have : reps (n + 1) [.lit (.int .u8 0)] = .lit (.int .u8 0) :: reps n [.lit (.int .u8 0)] := rfl
    rw [this, ih]; rfl
theorem crc9 : crc [49, 50, 51, 52, 53, 54, 55, 56, 57] = 3421780262 := by kernel_rfl

/-- The message's cells, as they are built. -/
def e0 : List PV := [.lit (.int .i64 3), .sl .imm true 0 [], .lit (.string ByteArray.empty), .lit (.string ByteArray.empty), .sl .imm false 1 [.lit (.string z32)], .lit (.string ByteArray.empty), .lit (.int .i64 0), .lit (.int .i64 0), .sl .imm true 0 []]
set_option maxRecDepth 100000 in
set_option maxHeartbeats 8000000 in
theorem awake_fn : Fc Try.prog 9 [] [] (.lit (.bool true)) [] := by
  refine Fc.of (anys _ [10, 13, 16, 18, 20]) [] mixed Try.func9 rfl (by rfl) (by simp [Try.ntmps9]) (by decide) ?_
  have hz : InB (List.replicate 32 (0 : Int)) := fun x hx => by rw [List.eq_of_mem_replicate hx]; decide
  have he := encode_fn m0 small0
  rw [enc0] at he
  have hdF : InB F0 := by unfold F0; rw [inB_append, inB_append]; exact ⟨⟨by simp, hz⟩, inB_ck4 _⟩
  have hd := decode_fn false F0 (by simp) hdF (by decide)
  rw [dec0e] at hd
  have hR := right_fn m0 (by decide) (by decide)
  rw [right0] at hR
  have hS := same_ms m0 (decM F0).1 (by decide) (by decide) (by decide)
  rw [dec0s] at hS
  obtain ⟨n, hn⟩ : ∃ n, n = (decM F0).1 := ⟨_, rfl⟩
  rw [← hn] at hd hS
  have hC := check_fn false [49, 50, 51, 52, 53, 54, 55, 56, 57] (by simp) (by decide)
  rw [crc9] at hC
  obtain ⟨F, hF⟩ : ∃ F, F = F0 := ⟨_, rfl⟩
  rw [← hF] at he hd
  have hz32 : ofBs [0, 0, 0, 0, 0, 0, 0, 0, 0, 0, 0, 0, 0, 0, 0, 0, 0, 0, 0, 0, 0, 0, 0, 0, 0, 0, 0, 0, 0, 0, 0, 0] = z32 := rfl
  simp -implicitDefEqProofs -dsimp [Try.ntmps9, -reps, reps_u8, hz]
  simp -implicitDefEqProofs -dsimp [hz32]
  have wE : weakL e0 m0.cells := by simp [e0, m0, Ms.cells, rgs, idc]
  have he' := he.argsA (ys := [.agg e0]) ⟨wE, trivial⟩
  have hR' := hR.argsA (ys := [.agg e0]) ⟨wE, trivial⟩
  have hS' := hS.argsA (ys := [.agg e0, .agg n.cells]) ⟨wE, weakL_refl _, trivial⟩
  simp only [e0] at he' hR' hS'
  refine CallK.works ?_
  simp -implicitDefEqProofs -dsimp
  refine CallQ.mk (he') (by simp) ?_
  simp -implicitDefEqProofs -dsimp
  refine CallK.works ?_
  simp -implicitDefEqProofs -dsimp
  refine CallQ.mk (hd) (by simp) ?_
  simp -implicitDefEqProofs -dsimp
  refine onSome_iff.2 ⟨_, if_pos (ms_plain n), ?_⟩
  simp -implicitDefEqProofs -dsimp
  refine CallK.reads ?_
  simp -implicitDefEqProofs -dsimp
  refine CallQ.same (hC) rfl ?_
  simp -implicitDefEqProofs -dsimp
  refine CallK.reads ?_
  simp -implicitDefEqProofs -dsimp
  refine CallQ.same (hS') rfl ?_
  simp -implicitDefEqProofs -dsimp
  refine CallK.reads ?_
  simp -implicitDefEqProofs -dsimp
  refine CallQ.same (hR') rfl ?_
  simp -implicitDefEqProofs -dsimp
end Go.Proofs.Ytbialojkkhkjeaa

/-! Frames: the document's check. -/
namespace Go.Sy
theorem xor_half (a b : Nat) : (a ^^^ b) / 2 = a / 2 ^^^ b / 2 := by
  apply Nat.eq_of_testBit_eq
  intro i
  rw [Nat.testBit_div_two, Nat.testBit_xor, Nat.testBit_xor, Nat.testBit_div_two, Nat.testBit_div_two]
theorem xor_par (a b : Nat) : (a ^^^ b) % 2 = 1 ↔ a % 2 ≠ b % 2 := by
  have h := Nat.testBit_xor a b 0
  simp only [Nat.testBit_zero] at h
  have h1 := Nat.mod_two_eq_zero_or_one a
  have h2 := Nat.mod_two_eq_zero_or_one b
  have h3 := Nat.mod_two_eq_zero_or_one (a ^^^ b)
  rcases h1 with h1 | h1 <;> rcases h2 with h2 | h2 <;> rcases h3 with h3 | h3 <;> simp_all
/-- A bit further, as the document has it. -/
def rsN (r x : Nat) : Nat := r / 2 ^^^ (if r % 2 ≠ x % 2 then 3988292384 else 0)
theorem rsN_st (r x : Nat) : rsN r x ^^^ x / 2 = stN (r ^^^ x) := by
  unfold rsN stN
  rw [xor_half]
  by_cases h : r % 2 ≠ x % 2
  · rw [if_pos h, if_pos ((xor_par r x).2 h), Nat.xor_assoc, Nat.xor_assoc, Nat.xor_comm (x / 2)]
  · rw [if_neg h, if_neg (fun h2 => h ((xor_par r x).1 h2))]; simp
theorem rsN_lt {r x : Nat} (h : r < 4294967296) : rsN r x < 4294967296 := by
  unfold rsN
  refine xor_lt (n := 32) (by omega) ?_
  split <;> decide
end Go.Sy
namespace Go.Proofs.Ytbialojkkhkjeaa
open Go.Sy
set_option maxRecDepth 100000 in
set_option maxHeartbeats 4000000 in
theorem rcheck_fn (nl : Bool) (b : List Int) (hb : InB b) (hl : b.length ≤ 1000000) : Fc Try.prog 11 [.sl .imm nl 1 (u8s b)] [] (.lit (.int .u32 (crc b))) [] := by
  refine Fc.of (anys _ []) [] mixed Try.func11 rfl (by rfl) (by simp [Try.ntmps11]) (by decide) ?_
  simp -implicitDefEqProofs -dsimp [Try.ntmps11]
  refine LpK.mk (anys _ []) mixed (fun i : Nat => i ≤ b.length) (fun i => ⟨[(0, .sl .imm nl 1 (u8s b)), (3, .lit (.int .u32 (crcR (b.take i) 4294967295))), (4, .lit (.int .i64 i))], [], 37⟩) (fun i => b.length - i) 0 (by simp) (by simp -implicitDefEqProofs -dsimp [crcR]) ?_
  intro i hi
  have hr := crcR_lt (b := b.take i) (r := 4294967295) (hb.take i) (by decide)
  by_cases hlt : i < b.length
  · obtain ⟨x, hx⟩ : ∃ x, b[i] = x := ⟨_, rfl⟩
    have hx' : b[i]? = some x := by rw [List.getElem?_eq_getElem hlt, hx]
    have hxb := hb x (hx ▸ List.getElem_mem hlt)
    have hw : IntKind.i64.wrap ((i : Int) + 1) = (i : Int) + 1 := wrap64 (by omega) (by omega)
    have hn := crcR_snoc b 4294967295 hx'
    obtain ⟨r0, hrr⟩ : ∃ r, r = crcR (b.take i) 4294967295 := ⟨_, rfl⟩
    rw [← hrr] at hn hr ⊢
    obtain ⟨y, rfl⟩ := Int.eq_ofNat_of_zero_le hxb.1
    have hy : IntKind.u32.wrap (y : Int) = y := by rw [wrap_is_u32]; omega
    have hby : byN r0 y = it8 (r0 ^^^ y) 8 := rfl
    simp only [Int.toNat_natCast] at hn
    simp -implicitDefEqProofs -dsimp [hlt, hx, hx', hy]
    refine LpK.mk (anys _ []) mixed (fun ((k, r, x) : Nat × Nat × Nat) => k ≤ 8 ∧ r < 4294967296 ∧ x = y / 2 ^ k ∧ r ^^^ x = it8 (r0 ^^^ y) k) (fun ((k, r, x) : Nat × Nat × Nat) => ⟨[(0, .sl .imm nl 1 (u8s b)), (3, .lit (.int .u32 r)), (4, .lit (.int .i64 i)), (5, .lit (.int .u32 x)), (6, .lit (.int .i64 k))], [], 37⟩)
      (fun (k, _, _) => 8 - k) (0, r0, y) ⟨by omega, hr, by simp, rfl⟩ (by simp -implicitDefEqProofs -dsimp) ?_
    rintro ⟨k, r, x⟩ ⟨hk, hr2, hx2, hrx⟩
    by_cases hk8 : k < 8
    · have hk' : (k : Int) < 8 := by omega
      have hw2 : IntKind.i64.wrap ((k : Int) + 1) = (k : Int) + 1 := wrap64 (by omega) (by omega)
      have hx3 : x < 4294967296 := by rw [hx2]; exact Nat.lt_of_le_of_lt (Nat.div_le_self _ _) (by omega)
      have t1 : (r : Int).tmod 2 = ((r % 2 : Nat) : Int) := by rw [Int.tmod_eq_emod_of_nonneg (by omega)]; omega
      have t2 : (x : Int).tmod 2 = ((x % 2 : Nat) : Int) := by rw [Int.tmod_eq_emod_of_nonneg (by omega)]; omega
      have q1 : iquo .u32 (r : Int) 2 = ((r / 2 : Nat) : Int) := by unfold iquo; rw [Int.tdiv_eq_ediv_of_nonneg (by omega), wrap_is_u32]; omega
      have q2 : iquo .u32 (x : Int) 2 = ((x / 2 : Nat) : Int) := by unfold iquo; rw [Int.tdiv_eq_ediv_of_nonneg (by omega), wrap_is_u32]; omega
      have xr : ixor .u32 ((r / 2 : Nat) : Int) 3988292384 = ((r / 2 ^^^ 3988292384 : Nat) : Int) := xor_nat32 (by omega) (by decide)
      have xr2 : ixor .u32 ((r : Int) / 2) 3988292384 = ((r / 2 ^^^ 3988292384 : Nat) : Int) := by rw [← xr]; congr 1
      have hstep := rsN_st r x
      rw [hrx] at hstep
      by_cases hd : r % 2 = x % 2
      · have hd2 : (r : Int) % 2 = (x : Int) % 2 := by omega
        have hd' : ((r % 2 : Nat) : Int) = ((x % 2 : Nat) : Int) := by omega
        have hrs : rsN r x = r / 2 := by unfold rsN; rw [if_neg (by simp [hd])]; simp
        simp -implicitDefEqProofs -dsimp [hk', t1, t2, q1, q2, hd, hd2, hd', hw2]
        refine .mk (k + 1, r / 2, x / 2) ⟨hk8, by omega, by rw [hx2, Nat.pow_succ, Nat.div_div_eq_div_mul], by rw [← hrs, hstep]; rfl⟩ (by show 8 - (k + 1) < 8 - k; omega) (by simp -implicitDefEqProofs -dsimp)
      · have hd2 : ¬ (r : Int) % 2 = (x : Int) % 2 := by omega
        have hd' : ¬ ((r % 2 : Nat) : Int) = ((x % 2 : Nat) : Int) := by omega
        have hrs : rsN r x = r / 2 ^^^ 3988292384 := by unfold rsN; rw [if_pos hd]
        simp -implicitDefEqProofs -dsimp [hk', t1, t2, q1, q2, hd, hd2, hd', hw2, xr]
        refine .mk (k + 1, r / 2 ^^^ 3988292384, x / 2) ⟨hk8, hrs ▸ rsN_lt hr2, by rw [hx2, Nat.pow_succ, Nat.div_div_eq_div_mul], by rw [← hrs, hstep]; rfl⟩ (by show 8 - (k + 1) < 8 - k; omega) (by simp -implicitDefEqProofs -dsimp [xr2])
    · have e : k = 8 := by omega
      subst e
      have hx0 : x = 0 := by rw [hx2]; exact Nat.div_eq_of_lt (by omega)
      subst hx0
      have hrx' : r = byN r0 y := by rw [hby, ← hrx]; simp
      simp -implicitDefEqProofs -dsimp [hw]
      exact .mk (i + 1) hlt (by omega) (by simp -implicitDefEqProofs -dsimp [hn, hrx'])
  · have e : i = b.length := by omega
    subst e
    rw [List.take_length] at hr
    have hn : IntKind.u32.wrap (4294967295 - ((crcR b 4294967295 : Nat) : Int)) = ((4294967295 - crcR b 4294967295 : Nat) : Int) := by rw [wrap_is_u32]; omega
    simp -implicitDefEqProofs -dsimp [hn, crc]

set_option maxRecDepth 100000 in
set_option maxHeartbeats 4000000 in
theorem checks_fn (nl : Bool) (b : List Int) (hb : InB b) : Fc Try.prog 3 [.sl .imm nl 1 (u8s b)] [] (.lit (.bool true)) [] := by
  refine Fc.of (anys _ [9, 10, 11]) [] mixed Try.func3 rfl (by rfl) (by simp [Try.ntmps3]) (by decide) ?_
  simp -implicitDefEqProofs -dsimp [Try.ntmps3]
  refine CallK.reads ?_
  simp -implicitDefEqProofs -dsimp
  refine CallQ.same (awake_fn) rfl ?_
  simp -implicitDefEqProofs -dsimp
  by_cases c1 : 300 < (b.length : Int)
  · simp -implicitDefEqProofs -dsimp [c1]
  · simp -implicitDefEqProofs -dsimp [c1]
    refine CallK.reads ?_
    simp -implicitDefEqProofs -dsimp
    refine CallQ.same (check_fn nl b hb (by omega)) rfl ?_
    simp -implicitDefEqProofs -dsimp
    refine CallK.reads ?_
    simp -implicitDefEqProofs -dsimp
    refine CallQ.same (rcheck_fn nl b hb (by omega)) rfl ?_
    simp -implicitDefEqProofs -dsimp
end Go.Proofs.Ytbialojkkhkjeaa
