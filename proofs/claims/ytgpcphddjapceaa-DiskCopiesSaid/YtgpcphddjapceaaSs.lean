/- More operations on plain values: numbers, bits, texts. -/
import Derived.Test.YtgpcphddjapceaaSq
import Derived.Laws.Strings
namespace Go.Sy

/-- A text's bytes as numbers. -/
def bs (b : ByteArray) : List Int := b.data.toList.map fun c => (c.toNat : Int)
def ofBs (l : List Int) : ByteArray := ⟨(l.map fun n => UInt8.ofNat n.toNat).toArray⟩
/-- Numbers that are bytes. -/
def InB (l : List Int) : Prop := ∀ x, x ∈ l → 0 ≤ x ∧ x < 256

theorem inB_bs (b : ByteArray) : InB (bs b) := by
  intro x hx
  simp only [bs, List.mem_map] at hx
  obtain ⟨c, _, rfl⟩ := hx
  have := c.toNat_lt
  omega
theorem ofBs_bs (b : ByteArray) : ofBs (bs b) = b := by
  obtain ⟨d⟩ := b
  simp [ofBs, bs, Function.comp_def]
theorem bs_ofBs {l : List Int} (h : InB l) : bs (ofBs l) = l := by
  simp only [ofBs, bs, List.map_map]
  refine (List.map_congr_left fun x hx => ?_).trans (List.map_id l)
  have := h x hx
  simp only [Function.comp, id, UInt8.toNat_ofNat']
  omega
theorem bs_inj {a b : ByteArray} : bs a = bs b ↔ a = b := ⟨fun h => by rw [← ofBs_bs a, h, ofBs_bs], fun h => h ▸ rfl⟩
theorem bs_length (b : ByteArray) : (bs b).length = b.size := by simp [bs]
@[simp] theorem bs_length' (b : ByteArray) : ((bs b).length : Int) = b.size := by rw [bs_length]
@[simp] theorem bs_fold (b : ByteArray) : (b.data.toList.map fun c => PV.lit (.int .u8 (c.toNat : Int))) = u8s (bs b) := by simp [bs, ints, Function.comp_def]
theorem strOf_u8s (l : List Int) : strOf (u8s l) = ofBs l := by simp [strOf, ofBs, ints, byteOf, Function.comp_def]
theorem isByte_u8s {l : List Int} (h : InB l) : (u8s l).all isByte = true := by
  simp only [ints, List.all_map, List.all_eq_true, Function.comp, isByte, Bool.and_eq_true, decide_eq_true_eq]
  exact h

def iand (k : IntKind) (a b : Int) : Int := k.wrap (BitVec.ofInt k.bits a &&& BitVec.ofInt k.bits b).toNat
def ior (k : IntKind) (a b : Int) : Int := k.wrap (BitVec.ofInt k.bits a ||| BitVec.ofInt k.bits b).toNat
def ixor (k : IntKind) (a b : Int) : Int := k.wrap (BitVec.ofInt k.bits a ^^^ BitVec.ofInt k.bits b).toNat
def inot (k : IntKind) (a : Int) : Int := ixor k (if k.signed then -1 else k.max) a
def ishl (k : IntKind) (a b : Int) : Int := k.wrap (a * 2 ^ (min b.toNat k.bits))
def ishr (k : IntKind) (a b : Int) : Int := a.fdiv (2 ^ (min b.toNat k.bits))
def iquo (k : IntKind) (a b : Int) : Int := k.wrap (a.tdiv b)

section
variable {P : Program} {t : TypeId} {x y : Operand} {op : BinOp} {k k' : IntKind} {a b : Int}
@[simp] theorem bin_ptr_nil (i o : Nat) : binPV P op t x y (.ptr i o) (.lit (.pointer none)) = match P.underlying t, op with
    | some (.pointer _), .eql => some (.lit (.bool false))
    | some (.pointer _), .neq => some (.lit (.bool true))
    | _, _ => none := (rfl)
@[simp] theorem bin_sl_nil (o o' : Own) (nl : Bool) (s s' : Nat) (xs : List PV) : binPV P op t x y (.sl o nl s xs) (.sl o' true s' []) = match P.underlying t, op with
    | some (.slice _), .eql => some (.lit (.bool nl))
    | some (.slice _), .neq => some (.lit (.bool (!nl)))
    | _, _ => none := (rfl)
theorem pureOf_pure {α : Type} (v : α) : pureOf P (pure v) = some v := (rfl)
theorem underlying_bind {α : Type} {u : TypeDesc} (ht : P.underlying t = some u) (f : TypeDesc → Sem α) : pureOf P (underlying t >>= f) = pureOf P (f u) := by
  rw [pureOf_bind]
  have : pureOf P (underlying t) = some u := by
    have e : pureOf P (underlying t) = pureOf P (match P.underlying t with | some d => (pure d : Sem TypeDesc) | none => stuck "no such type") := rfl
    rw [e, ht]; rfl
  rw [this]; rfl
theorem equal_bool (ht : P.underlying t = some .bool) (p q : Bool) : pureOf P (Op.equal t (.bool p) (.bool q)) = some (p == q) := by
  have : ∀ d, pureOf P (Op.equalIn (d + 1) t (.bool p) (.bool q)) = some (p == q) := fun d => by
    unfold Op.equalIn
    rw [underlying_bind ht]; rfl
  exact this 9999
theorem equal_nilp {e : TypeId} (ht : P.underlying t = some (.pointer e)) : pureOf P (Op.equal t (.pointer none) (.pointer none)) = some true := by
  have : ∀ d, pureOf P (Op.equalIn (d + 1) t (.pointer none) (.pointer none)) = some true := fun d => by
    unfold Op.equalIn
    rw [underlying_bind ht]; rfl
  exact this 9999
theorem bin_eql_of {p q : Value} {r : Bool} (hp : binPV P .eql t x y (.lit p) (.lit q) = (pureOf P (do eqGuard .eql t x y p q; binOp .eql t p q)).map .lit) (hg : eqGuard .eql t x y p q = pure ()) (hb : binOp .eql t p q = do pure (.bool (← Op.equal t p q)))
    (h : pureOf P (Op.equal t p q) = some r) : binPV P .eql t x y (.lit p) (.lit q) = some (.lit (.bool r)) := by
  rw [hp, hg, hb, pureOf_bind, pureOf_bind, h]; rfl
theorem bin_neq_of {p q : Value} {r : Bool} (hp : binPV P .neq t x y (.lit p) (.lit q) = (pureOf P (do eqGuard .neq t x y p q; binOp .neq t p q)).map .lit) (hg : eqGuard .neq t x y p q = pure ()) (hb : binOp .neq t p q = do pure (.bool (!(← Op.equal t p q))))
    (h : pureOf P (Op.equal t p q) = some r) : binPV P .neq t x y (.lit p) (.lit q) = some (.lit (.bool (!r))) := by
  rw [hp, hg, hb, pureOf_bind, pureOf_bind, h]; rfl
@[simp] theorem bin_eql_bool (ht : P.underlying t = some .bool) (p q : Bool) : binPV P .eql t x y (.lit (.bool p)) (.lit (.bool q)) = some (.lit (.bool (p == q))) := bin_eql_of rfl rfl rfl (equal_bool ht p q)
@[simp] theorem bin_neq_bool (ht : P.underlying t = some .bool) (p q : Bool) : binPV P .neq t x y (.lit (.bool p)) (.lit (.bool q)) = some (.lit (.bool (!(p == q)))) := bin_neq_of rfl rfl rfl (equal_bool ht p q)
@[simp] theorem bin_eql_nilp {e : TypeId} (ht : P.underlying t = some (.pointer e)) : binPV P .eql t x y (.lit (.pointer none)) (.lit (.pointer none)) = some (.lit (.bool true)) := bin_eql_of rfl rfl rfl (equal_nilp ht)
@[simp] theorem bin_neq_nilp {e : TypeId} (ht : P.underlying t = some (.pointer e)) : binPV P .neq t x y (.lit (.pointer none)) (.lit (.pointer none)) = some (.lit (.bool false)) := bin_neq_of rfl rfl rfl (equal_nilp ht)
theorem ba_eq (p q : ByteArray) : (p.toList == q.toList) = decide (p = q) := by
  rw [Bool.eq_iff_iff]
  simp only [beq_iff_eq, decide_eq_true_eq, ByteArray.toList_eq]
  refine ⟨fun h => ?_, fun h => by rw [h]⟩
  obtain ⟨p⟩ := p; obtain ⟨q⟩ := q
  simpa using h
@[simp] theorem bin_eql_str (p q : ByteArray) : binPV P .eql t x y (.lit (.string p)) (.lit (.string q)) = some (.lit (.bool (decide (p = q)))) := by
  simp [binPV, valOf, eqGuard, binOp, Op.stringOp, pureOf_pure, ba_eq]
@[simp] theorem bin_neq_str (p q : ByteArray) : binPV P .neq t x y (.lit (.string p)) (.lit (.string q)) = some (.lit (.bool (!decide (p = q)))) := by
  simp [binPV, valOf, eqGuard, binOp, Op.stringOp, pureOf_pure, ba_eq]
@[simp] theorem bin_and : binPV P .and t x y (.lit (.int k a)) (.lit (.int k b)) = some (.lit (.int k (iand k a b))) := by cases k <;> rfl
@[simp] theorem bin_or : binPV P .or t x y (.lit (.int k a)) (.lit (.int k b)) = some (.lit (.int k (ior k a b))) := by cases k <;> rfl
@[simp] theorem bin_xor : binPV P .xor t x y (.lit (.int k a)) (.lit (.int k b)) = some (.lit (.int k (ixor k a b))) := by cases k <;> rfl
@[simp] theorem bin_quo (h : b ≠ 0) : binPV P .quo t x y (.lit (.int k a)) (.lit (.int k b)) = some (.lit (.int k (iquo k a b))) := by
  simp [binPV, valOf, eqGuard, binOp, Op.intDiv, pureOf_pure, h, iquo]
@[simp] theorem bin_rem (h : b ≠ 0) : binPV P .rem t x y (.lit (.int k a)) (.lit (.int k b)) = some (.lit (.int k (a.tmod b))) := by
  simp [binPV, valOf, eqGuard, binOp, Op.intDiv, pureOf_pure, h]
@[simp] theorem bin_shl (h : 0 ≤ b) : binPV P .shl t x y (.lit (.int k a)) (.lit (.int k' b)) = some (.lit (.int k (ishl k a b))) := by
  have : ¬ b < 0 := by omega
  simp [binPV, valOf, eqGuard, binOp, Op.shift, pureOf_pure, this, ishl]
@[simp] theorem bin_shr (h : 0 ≤ b) : binPV P .shr t x y (.lit (.int k a)) (.lit (.int k' b)) = some (.lit (.int k (ishr k a b))) := by
  have : ¬ b < 0 := by omega
  simp [binPV, valOf, eqGuard, binOp, Op.shift, pureOf_pure, this, ishr]
@[simp] theorem un_not (p : Bool) : unPV P (Op.unary .not) (.lit (.bool p)) = some (.lit (.bool (!p))) := (rfl)
@[simp] theorem un_xor : unPV P (Op.unary .xor) (.lit (.int k a)) = some (.lit (.int k (inot k a))) := (rfl)
@[simp] theorem un_neg : unPV P (Op.unary .neg) (.lit (.int k a)) = some (.lit (.int k (k.wrap (0 - a)))) := (rfl)
/-- Numbers of another kind. -/
@[simp] theorem conv_int {s d : TypeId} (hs : ∀ e, P.underlying s ≠ some (.slice e)) {u : TypeDesc} (hs' : P.underlying s = some u) (hd : P.underlying d = some (.int k')) : convPV P s d (.lit (.int k a)) = some (.lit (.int k' (k'.wrap a))) := by
  unfold convPV
  rw [hs', hd]
  split
  · simp_all
  · simp_all
  · simp_all
  · rename_i h; simp only [Option.some.injEq] at h
    simp only [unPV, valOf]
    have e : pureOf P (convert s d (.int k a)) = some (.int k' (k'.wrap a)) := by
      unfold convert
      rw [underlying_bind hs', underlying_bind hd]
      cases u <;> rfl
    rw [e]; rfl
@[simp] theorem conv_str {s d : TypeId} (hs : P.underlying s = some .string) (hd : P.underlying d = some .string) (b : ByteArray) : convPV P s d (.lit (.string b)) = some (.lit (.string b)) := by
  unfold convPV
  rw [hs, hd]
  simp only [unPV, valOf]
  have e : pureOf P (convert s d (.string b)) = some (.string b) := by
    unfold convert
    rw [underlying_bind hs, underlying_bind hd]; rfl
  rw [e]; rfl
@[simp] theorem convK_str' {s t e : TypeId} {n : Nat} {b : ByteArray} {st : St} {K : St → Prop} (h : P.underlying t = some (.slice e)) : convK P s t (some n) st (.lit (.string b)) K = ((P.underlying s).isSome = true ∧ P.underlying e = some (.int .u8) ∧ b.size ≤ 140737488355328 ∧ n < 100000 ∧
        K ((st.off n).put (some n) (.sl (.own (.loc n)) false 1 (u8s (bs b))))) := by
  rw [convK_str h, bs_fold]
@[simp] theorem convK_slice' {s t e : TypeId} {d : Option Tmp} {st : St} {K : St → Prop} {n sz : Nat} {xs : List PV} (h : P.underlying t = some (.slice e)) : convK P s t d st (.sl (.own (.loc n)) false sz xs) K = (s = t ∧ P.underlying e = some (.int .u8) ∧ K (st.put d (.sl (.own (.loc n)) false sz xs))) := convK_slice h
@[simp] theorem convK_else' {s t : TypeId} {d : Option Tmp} {st : St} {K : St → Prop} {p : PV} (h : ∀ e, P.underlying t ≠ some (.slice e)) : convK P s t d st p K = onSome (convPV P s t p) fun r => K (st.put d r) := convK_else h
@[simp] theorem conv_bytes {s d e : TypeId} {o : Own} {nl : Bool} {l : List Int} (hs : P.underlying s = some (.slice e)) (hd : P.underlying d = some .string) (he : P.underlying e = some (.int .u8)) (hb : InB l) :
    convPV P s d (.sl o nl 1 (u8s l)) = some (.lit (.string (ofBs l))) := by
  simp only [convPV, hs, hd, he, isByte_u8s hb, strOf_u8s, if_true]
@[simp ↓] theorem inB_nil : InB [] = True := eq_true fun _ h => by simp at h
@[simp ↓] theorem inB_cons (x : Int) (l : List Int) : InB (x :: l) = ((0 ≤ x ∧ x < 256) ∧ InB l) := by simp [InB]
@[simp ↓] theorem inB_append (l m : List Int) : InB (l ++ m) = (InB l ∧ InB m) := by
  simp only [InB, List.mem_append, eq_iff_iff]
  exact ⟨fun h => ⟨fun x hx => h x (.inl hx), fun x hx => h x (.inr hx)⟩, fun h x hx => hx.elim (h.1 x) (h.2 x)⟩
theorem InB.take {l : List Int} (h : InB l) (n : Nat) : InB (l.take n) := fun x hx => h x (List.mem_of_mem_take hx)
theorem InB.drop {l : List Int} (h : InB l) (n : Nat) : InB (l.drop n) := fun x hx => h x (List.mem_of_mem_drop hx)
theorem ofBs_inj {l m : List Int} (hl : InB l) (hm : InB m) : ofBs l = ofBs m ↔ l = m := ⟨fun h => by rw [← bs_ofBs hl, h, bs_ofBs hm], fun h => h ▸ rfl⟩
end
attribute [simp] indexAddrPV
section
variable {s i m k : Nat} {xs : List PV} {x : PV} {t u : Tk}
@[simp ↓] theorem tailOf_imm : tailOf .imm s xs i x = .cur .imm x.comps := by unfold tailOf; rfl
@[simp ↓] theorem tailOf_vw : tailOf (.vw t) s xs i x = .cur (.vw t) x.comps := by unfold tailOf; rfl
@[simp ↓] theorem tailOf_cell {a b : Nat} : tailOf (.own (.cell a b)) s xs i x = .cur (.vw (.cell a b)) x.comps := by unfold tailOf; rfl
@[simp ↓] theorem tailOf_wk {a : Nat} : tailOf (.own (.wk a)) s xs i x = .cur (.vw (.wk a)) x.comps := by unfold tailOf; rfl
@[simp ↓] theorem tailOf_one : tailOf (.own (.loc m)) 1 xs i x = if (xs.all fun y => !y.isAgg) = true then .cur (.own (.loc m)) (xs.drop i) else .cur (.vw (.loc m)) x.comps := by unfold tailOf; rfl
@[simp ↓] theorem tailOf_more : tailOf (.own (.loc m)) (s + 2) xs i x = .cur (.vw (.loc m)) x.comps := by unfold tailOf; rfl
@[simp ↓] theorem tailOf_three : tailOf (.own (.loc m)) 3 xs i x = .cur (.vw (.loc m)) x.comps := by unfold tailOf; rfl
@[simp ↓] theorem ints_flat {κ : IntKind} {l : List Int} : ((ints κ l).all fun y => !y.isAgg) = true := by simp [ints, PV.isAgg]
@[simp ↓] theorem pokeV_lit {v : Value} : pokeV t k x (.lit v) = .lit v := by simp [pokeV, PV.scrub]
@[simp ↓] theorem pokeV_none : pokeV t k x .dead = .dead := pokeV_dead t k x
@[simp ↓] theorem pokeV_ptr {a b : Nat} : pokeV t k x (.ptr a b) = .ptr a b := by simp [pokeV, PV.scrub]
@[simp ↓] theorem pokeV_imm {nl : Bool} : pokeV t k x (.sl .imm nl s xs) = .sl .imm nl s xs := by simp [pokeV, PV.scrub, Fren]
@[simp ↓] theorem pokeV_vw {nl : Bool} : pokeV t k x (.sl (.vw u) nl s xs) = if u = t then .dead else .sl (.vw u) nl s xs := by
  by_cases h : u = t <;> simp [pokeV, PV.scrub, Fren, noTk, h]
@[simp ↓] theorem pokeV_own {nl : Bool} : pokeV t k x (.sl (.own u) nl 1 xs) = if u = t then .sl (.own u) nl 1 (pokeL k x xs) else .sl (.own u) nl 1 xs := (rfl)
@[simp ↓] theorem pokeV_cur {o : Own} : pokeV t k x (.cur o xs) = (PV.cur o xs).scrub (Fren (noTk t)) some := (rfl)
@[simp ↓] theorem pokeV_agg : pokeV t k x (.agg xs) = (PV.agg xs).scrub (Fren (noTk t)) some := (rfl)
@[simp ↓] theorem pokeV_tup : pokeV t k x (.tup xs) = (PV.tup xs).scrub (Fren (noTk t)) some := (rfl)
@[simp ↓] theorem pokeV_fn {f : Fn} {a b : List PV} : pokeV t k x (.fn f a b) = (PV.fn f a b).scrub (Fren (noTk t)) some := (rfl)
theorem pokeL_ints {κ : IntKind} {l : List Int} {n : Nat} {v : Int} (h : n < l.length) : pokeL (l.length - n) (.lit (.int κ v)) (ints κ l) = ints κ (l.set n v) := by
  rw [pokeL, ints_length, if_pos (by omega), show l.length - (l.length - n) = n by omega, ints, ints, List.map_set]
@[simp ↓] theorem getR_mapP (rs : List (Nat × PV)) (n : Nat) : getR (mapR (pokeV t k x) rs) n = pokeV t k x (getR rs n) := getR_mapR (pokeV_dead t k x) rs n
@[simp] theorem poke_mk {rs : List (Nat × PV)} {h : List (Nat × Ob)} {n : Nat} : (St.mk rs h n).poke t k x = ⟨mapR (pokeV t k x) rs, scrubO (Fren (noTk t)) some h, n⟩ := by simp only [St.poke, pokeR_eq]
end
attribute [simp] noTk
end Go.Sy
