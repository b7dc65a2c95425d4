/- Places, parts, slices, lengths. -/
import Derived.Test.YtgpcphddjapceaaS9
namespace Go.Sy

def fieldOf (P : Program) (s : TypeId) (f : Nat) : Option Field :=
  match P.underlying s with
  | some (.struct fs) => fs[f]?
  | _ => none

/-- A field's place, and its type. -/
def fldOf (P : Program) (s : TypeId) (f : Nat) : Option (Nat × TypeId) := (fieldOf P s f).map fun fd => (fd.offset, fd.type)

def fieldAddrPV (P : Program) (s : TypeId) (f : Nat) (p : PV) : Option PV :=
  match fldOf P s f with
  | some (fo, ft) => if szOf P ft = 0 then none else match p with
    | .ptr id off => some (.ptr id (off + fo))
    | .cur o xs => if fo ≤ xs.length then some (.cur o.part (xs.drop fo)) else none
    | _ => none
  | none => none

/-- An element's pointer: into a row of one's own, of cells, it is told with all behind it (so a store may be told). -/
def tailOf : Own → Nat → List PV → Nat → PV → PV
  | .own (.loc m), 1, xs, i, x => if (xs.all fun y => !y.isAgg) = true then .cur (.own (.loc m)) (xs.drop i) else .cur (.vw (.loc m)) x.comps
  | o, _, _, _, x => .cur o.part x.comps

theorem tailOf_cases (o : Own) (s : Nat) (xs : List PV) (i : Nat) (x : PV) : tailOf o s xs i x = .cur o.part x.comps ∨ ∃ m, o = .own (.loc m) ∧ s = 1 ∧ (xs.all fun y => !y.isAgg) = true ∧ tailOf o s xs i x = .cur (.own (.loc m)) (xs.drop i) := by
  unfold tailOf
  split
  · split
    · rename_i h; exact .inr ⟨_, rfl, rfl, h, rfl⟩
    · exact .inl rfl
  · exact .inl rfl

def indexAddrPV (P : Program) (t : TypeId) (p i : PV) : Option PV :=
  match P.underlying t, p, i with
  | some (.slice e), .sl o _ s xs, .lit (.int _ n) => if 0 ≤ n ∧ s = szOf P e ∧ s ≠ 0 then (xs[n.toNat]?).map fun x => tailOf o s xs n.toNat x else none
  | some (.array len e), .ptr id off, .lit (.int _ n) => if 0 ≤ n ∧ n < len ∧ szOf P e ≠ 0 then some (.ptr id (off + n.toNat * szOf P e)) else none
  | _, _, _ => none

def indexPV (P : Program) (t : TypeId) (p i : PV) : Option PV :=
  match P.underlying t, p, i with
  | some (.array len e), .agg xs, .lit (.int _ n) => if 0 ≤ n ∧ n < len ∧ szOf P e ≠ 0 then ofCells P e (xs.drop (n.toNat * szOf P e)) else none
  | some .string, .lit (.string s), .lit (.int k n) => (pureOf P (Instr.index t (.string s) (.int k n))).map .lit
  | _, _, _ => none

def fieldPV (P : Program) (t : TypeId) (f : Nat) (p : PV) : Option PV :=
  match p with
  | .agg xs => match fldOf P t f with
    | some (fo, ft) => ofCells P ft (xs.drop fo)
    | none => none
  | _ => none

def boundPV (d : Int) : Option PV → Option Int
  | none => some d
  | some (.lit (.int _ n)) => some n
  | _ => none

def slicePV (P : Program) (t : TypeId) (p : PV) (lo hi : Option PV) : Option PV :=
  match P.underlying t, p with
  | some (.slice e), .sl o nl s xs => match boundPV 0 lo, boundPV xs.length hi with
    | some l, some h => if 0 ≤ l ∧ l ≤ h ∧ h ≤ xs.length ∧ s = szOf P e ∧ s ≠ 0 then some (.sl o.part nl s ((xs.take h.toNat).drop l.toNat)) else none
    | _, _ => none
  | some .string, .lit (.string s) => match boundPV 0 lo, boundPV s.size hi with
    | some l, some h => if 0 ≤ l ∧ l ≤ h ∧ h ≤ s.size then some (.lit (.string (s.extract l.toNat h.toNat))) else none
    | _, _ => none
  | _, _ => none

def lenPV (P : Program) (t : TypeId) (p : PV) : Option PV :=
  match P.underlying t, p with
  | some (.slice _), .sl _ _ _ xs => some (.lit (.int .i64 xs.length))
  | some .string, .lit (.string s) => some (.lit (.int .i64 s.size))
  | some (.array n _), .agg _ => some (.lit (.int .i64 n))
  | _, _ => none

def extractPV (p : PV) (i : Nat) : Option PV :=
  match p with
  | .tup xs => xs[i]?
  | _ => none

def isByte : PV → Bool
  | .lit (.int .u8 n) => decide (0 ≤ n) && decide (n < 256)
  | _ => false
def byteOf : PV → UInt8
  | .lit (.int .u8 n) => UInt8.ofNat n.toNat
  | _ => 0
def strOf (xs : List PV) : ByteArray := ⟨(xs.map byteOf).toArray⟩

def convPV (P : Program) (src dst : TypeId) (p : PV) : Option PV :=
  match P.underlying src, P.underlying dst, p with
  | some (.slice e), some .string, .sl _ _ 1 xs => match P.underlying e with
    | some (.int .u8) => if xs.all isByte then some (.lit (.string (strOf xs))) else none
    | _ => none
  | some (.slice _), _, _ => none
  | _, some (.slice _), _ => none
  | _, _, p => unPV P (convert src dst) p

def nilPV (p : PV) : Option PV :=
  match p with
  | .ptr id off => some (.ptr id off)
  | .cur o xs => some (.cur o xs)
  | .fn (.func f) a b => some (.fn (.func f) a b)
  | _ => none

section
variable {P : Program} {g : G} {w : World}

theorem szOf_run' {t : TypeId} (h : szOf P t ≠ 0) (w : World) : (sizeOf t).run P w = .ok (szOf P t) w := by
  unfold szOf at h
  cases hi : P.info? t with
  | none => rw [hi] at h; simp at h
  | some i => simp [sizeOf, typeInfo, szOf, hi]

theorem fieldOf_run {s : TypeId} {f : Nat} {fd : Field} (h : fieldOf P s f = some fd) : ∃ fs, P.underlying s = some (.struct fs) ∧ fs[f]? = some fd := by
  unfold fieldOf at h
  split at h
  · exact ⟨_, by assumption, h⟩
  · cases h

theorem Rep.curDrop {o : Own} {xs : List PV} {b off k : Nat} (h : Rep g w (.cur o xs) (.pointer (some ⟨b, off, none⟩))) (hk : k ≤ xs.length) : Rep g w (.cur o.part (xs.drop k)) (.pointer (some ⟨b, off + k, none⟩)) := by
  cases h with
  | cur _ _ _ _ U hacc hd hcell hrep =>
    refine .cur _ _ b (off + k) (fun j => U (k + j)) (hacc.sub (by simp; omega)) (fun x hx => hd x (List.mem_of_mem_drop hx)) (fun j x hx => ?_) (fun j x hx => ?_)
    · rw [List.getElem?_drop] at hx; rw [Nat.add_assoc]; exact hcell _ x hx
    · rw [List.getElem?_drop] at hx; exact hrep _ x hx

theorem fieldAddrPV_run {s : TypeId} {f : Nat} {p r : PV} (h : fieldAddrPV P s f p = some r) {u : Value} (hp : Rep g w p u) : ∃ v, (Instr.fieldAt s u f).run P w = .ok v w ∧ Rep g w r v := by
  unfold fieldAddrPV at h
  cases hfo : fldOf P s f with
  | none => rw [hfo] at h; simp at h
  | some fq =>
  rw [hfo] at h
  obtain ⟨fo, ft⟩ := fq
  simp only at h
  unfold fldOf at hfo
  rw [Option.map_eq_some_iff] at hfo
  obtain ⟨fd, hfd, hq⟩ := hfo
  simp only [Prod.mk.injEq] at hq
  obtain ⟨rfl, rfl⟩ := hq
  obtain ⟨fs, h1, h2⟩ := fieldOf_run hfd
  split at h
  · cases h
  · rename_i hz
    have hrun : ∀ b off, (Instr.fieldAt s (.pointer (some ⟨b, off, none⟩)) f).run P w = .ok (.pointer (some ⟨b, off + fd.offset, none⟩)) w := fun b off => by
      simp [Instr.fieldAt, run_underlying h1, h2, Instr.sureAddr, fieldPlace, szOf_run' hz, hz, addr_add]
    cases hp with
    | ptr id off =>
      simp only [Option.some.injEq] at h
      subst h
      exact ⟨_, hrun _ _, .ptr id _⟩
    | cur o xs b off U hacc hd hcell hrep =>
      simp only at h
      split at h
      · rename_i hle
        cases h
        exact ⟨_, hrun _ _, (Rep.cur o xs b off U hacc hd hcell hrep).curDrop hle⟩
      · cases h
    | _ => simp at h

theorem indexAddrPV_run {t : TypeId} {p i r : PV} (h : indexAddrPV P t p i = some r) {u v : Value} (hp : Rep g w p u) (hi : Rep g w i v) : ∃ z, (Instr.indexAt t u v).run P w = .ok z w ∧ Rep g w r z := by
  unfold indexAddrPV at h
  split at h
  · rename_i e o nl s xs k n hu
    have hv := hi.lit_inv
    subst hv
    split at h
    · rename_i hc
      obtain ⟨h0, hs, hz⟩ := hc
      simp only [Option.map_eq_some_iff] at h
      obtain ⟨x, hx, rfl⟩ := h
      have hlt : n.toNat < xs.length := (List.getElem?_eq_some_iff.1 hx).1
      cases hp with
      | nils => simp at hx
      | sle => simp at hx
      | sl _ _ _ b off c U hc hm hacc hd hsw hcell hrep =>
        refine ⟨.pointer (some ⟨b, off + n.toNat * s, none⟩), ?_, ?_⟩
        · have hn : n < (xs.length : Int) := by omega
          simp [Instr.indexAt, asIntOf, run_underlying hu, h0, hn, szOf_run' (hs ▸ hz), ← hs, addr_add]
        · have hw := hsw x (mem_of_get hx)
          have hle : n.toNat * s + s ≤ xs.length * s := by rw [← Nat.succ_mul]; exact Nat.mul_le_mul_right s hlt
          have old : Rep g w (.cur o.part x.comps) (.pointer (some ⟨b, off + n.toNat * s, none⟩)) := by
           refine .cur _ _ b _ (fun j => U n.toNat j) (hacc.sub (by rw [hw]; omega)) (fun y hy => ?_) (fun j y hy => ?_) (fun j y hy => hrep _ x hx j y hy)
           · obtain ⟨j, hj⟩ := List.getElem?_of_mem hy
             exact (hd x (mem_of_get hx)).comp hj
           · have : j < s := by rw [← hw]; exact (List.getElem?_eq_some_iff.1 hy).1
             exact hcell _ x hx j this
          rcases tailOf_cases o s xs n.toNat x with e | ⟨m, rfl, rfl, hfl, e⟩
          · rw [e]; exact old
          · rw [e]
            have hflat : ∀ y, y ∈ xs → y.comps = [y] := fun y hy => by
              have := List.all_eq_true.1 hfl y hy
              cases y <;> first | rfl | (simp [PV.isAgg] at this)
            refine .cur _ _ b _ (fun j => U (n.toNat + j) 0) ?_ (fun y hy => hd y (List.mem_of_mem_drop hy)) (fun j y hy => ?_) (fun j y hy => ?_)
            · rcases hacc with ⟨q1, q2, q3, q4⟩ | ⟨_, _, q3⟩
              · refine .inl ⟨q1, q2, ?_, ?_⟩
                · rw [List.length_drop]; omega
                · obtain ⟨cs, T, fz, r1, r2, r3⟩ := q4
                  exact ⟨cs, T, fz, r1, by rw [List.length_drop]; omega, r3⟩
              · simp [Tk.weak] at q3
            · rw [List.getElem?_drop] at hy
              have := hcell _ y hy 0 (by omega)
              simpa [Nat.add_assoc] using this
            · rw [List.getElem?_drop] at hy
              exact hrep _ y hy 0 y (by rw [hflat y (mem_of_get hy)]; rfl)
    · cases h
  · rename_i len e id off k n hu
    have hv := hi.lit_inv
    subst hv
    split at h
    · rename_i hc
      obtain ⟨h0, h1, hz⟩ := hc
      cases h
      cases hp
      exact ⟨_, by simp [Instr.indexAt, asIntOf, run_underlying hu, h0, h1, szOf_run' hz, Instr.sureAddr, addr_add], .ptr id _⟩
    · cases h
  · cases h

theorem indexPV_run {t : TypeId} {p i r : PV} (h : indexPV P t p i = some r) {u v : Value} (hp : Rep g w p u) (hi : Rep g w i v) : ∃ z, (Instr.index t u v).run P w = .ok z w ∧ Rep g w r z := by
  unfold indexPV at h
  split at h
  · rename_i len e xs k n hu
    have hv := hi.lit_inv
    subst hv
    split at h
    · rename_i hc
      obtain ⟨h0, h1, hz⟩ := hc
      cases hp with
      | agg _ us hl hr =>
        obtain ⟨z, h3, h4⟩ := ofCells_part h (Rep.agg xs us hl hr)
        exact ⟨z, by simp [Instr.index, asIntOf, run_underlying hu, h0, h1, szOf_run' hz, h3], h4⟩
    · cases h
  · rename_i s k n hu
    have hv := hi.lit_inv
    have hu' := hp.lit_inv
    subst hv; subst hu'
    simp only [Option.map_eq_some_iff] at h
    obtain ⟨z, hz, rfl⟩ := h
    exact ⟨z, pureOf_run hz w, .lit z⟩
  · cases h

theorem fieldPV_run {t : TypeId} {f : Nat} {p r : PV} (h : fieldPV P t f p = some r) {u : Value} (hp : Rep g w p u) : ∃ v, (Instr.field t u f).run P w = .ok v w ∧ Rep g w r v := by
  cases hp with
  | agg xs us hl hr =>
    unfold fieldPV at h
    simp only at h
    cases hfo : fldOf P t f with
    | none => rw [hfo] at h; simp at h
    | some fq =>
    rw [hfo] at h
    obtain ⟨fo, ft⟩ := fq
    simp only at h
    unfold fldOf at hfo
    rw [Option.map_eq_some_iff] at hfo
    obtain ⟨fd, hfd, hq⟩ := hfo
    simp only [Prod.mk.injEq] at hq
    obtain ⟨rfl, rfl⟩ := hq
    obtain ⟨fs, h1, h2⟩ := fieldOf_run hfd
    obtain ⟨z, h3, h4⟩ := ofCells_part h (Rep.agg xs us hl hr)
    exact ⟨z, by simp [Instr.field, run_underlying h1, h2, asAgg, h3], h4⟩
  | _ => simp [fieldPV] at h

theorem lenPV_run {t : TypeId} {p r : PV} (h : lenPV P t p = some r) {u : Value} (hp : Rep g w p u) (ty : TypeId) : ∃ v, (Builtin.len_ #[t] ty #[u]).run P w = .ok v w ∧ Rep g w r v := by
  unfold lenPV at h
  split at h
  · rename_i e o nl s xs hu
    cases h
    cases hp with
    | nils => exact ⟨.int .i64 0, by simp [Builtin.len_, run_underlying hu, goInt], .lit _⟩
    | sle => exact ⟨.int .i64 0, by simp [Builtin.len_, run_underlying hu, goInt], .lit _⟩
    | sl => exact ⟨.int .i64 xs.length, by simp [Builtin.len_, run_underlying hu, goInt], .lit _⟩
  · rename_i s hu
    cases h
    have := hp.lit_inv
    subst this
    exact ⟨.int .i64 s.size, by simp [Builtin.len_, run_underlying hu, goInt], .lit _⟩
  · rename_i n e xs hu
    cases h
    exact ⟨.int .i64 n, by simp [Builtin.len_, run_underlying hu, goInt], .lit _⟩
  · cases h

theorem extractPV_run {p r : PV} {i : Nat} (h : extractPV p i = some r) {u : Value} (hp : Rep g w p u) : ∃ v, (Instr.extract u i).run P w = .ok v w ∧ Rep g w r v := by
  cases hp with
  | tup xs us hl hr =>
    simp only [extractPV] at h
    have hlt : i < us.size := by rw [hl]; exact (List.getElem?_eq_some_iff.1 h).1
    exact ⟨us[i], by simp [Instr.extract, hlt], hr i r _ h (Array.getElem?_eq_getElem hlt)⟩
  | _ => simp [extractPV] at h

theorem nilPV_run {p r : PV} (h : nilPV p = some r) {u : Value} (hp : Rep g w p u) {a : Act} {o : Oper} {x : Operand} (ho : o.op = .nilCheck x) (hx : a.eval x = u) : (execOp a.eval o).run P w = .ok (.value u) w ∧ r = p := by
  cases hp with
  | ptr id off =>
    simp only [nilPV, Option.some.injEq] at h
    subst h
    exact ⟨by simp [execOp, ho, hx], rfl⟩
  | cur o' xs b off U hacc hd hcell hrep =>
    simp only [nilPV, Option.some.injEq] at h
    subst h
    exact ⟨by simp [execOp, ho, hx], rfl⟩
  | fn f xs ys us vs hl hl' h1 h2 =>
    cases f with
    | func f =>
      simp only [nilPV, Option.some.injEq] at h
      subst h
      exact ⟨by simp [execOp, ho, hx], rfl⟩
    | _ => simp [nilPV] at h
  | _ => simp [nilPV] at h

theorem boundPV_none {d n : Int} (h : boundPV d none = some n) : n = d := by simpa [boundPV] using h.symm
theorem boundPV_some {d n : Int} {p : PV} (h : boundPV d (some p) = some n) : ∃ k, p = .lit (.int k n) := by
  unfold boundPV at h
  split at h
  · rename_i e; cases e
  · rename_i k m e; cases e; cases h; exact ⟨k, rfl⟩
  · cases h

/-- What a bound of a slice expression comes to. -/
def BoundIs (g : G) (w : World) (p : Option PV) (v : Option Value) : Prop :=
  match p, v with
  | none, none => True
  | some p, some v => Rep g w p v
  | _, _ => False

theorem sliceBounds_run {len cap : Nat} {isSlice : Bool} {lo hi : Option PV} {lo' hi' : Option Value} {l h : Int} (h1 : boundPV 0 lo = some l) (h2 : boundPV len hi = some h) (hl : BoundIs g w lo lo') (hh : BoundIs g w hi hi')
    (h0 : 0 ≤ l) (hlh : l ≤ h) (hhl : h ≤ len) (hlc : len ≤ cap) : (Instr.sliceBounds isSlice len cap lo' hi' none).run P w = .ok (l.toNat, h.toNat, cap) w := by
  have hc : h ≤ (cap : Int) := by omega
  have h00 : 0 ≤ h := by omega
  have e : (h.toNat : Int) = h := by omega
  cases lo with
  | none =>
    cases lo' with
    | some _ => exact hl.elim
    | none =>
      have := boundPV_none h1
      subst this
      cases hi with
      | none =>
        cases hi' with
        | some _ => exact hh.elim
        | none =>
          have := boundPV_none h2
          subst this
          simp [Instr.sliceBounds]
      | some p =>
        cases hi' with
        | none => exact hh.elim
        | some v =>
          obtain ⟨k, rfl⟩ := boundPV_some h2
          have := Rep.lit_inv hh
          subst this
          simp [Instr.sliceBounds, Instr.sliceBound, asIntOf, h00, hc]
  | some p =>
    cases lo' with
    | none => exact hl.elim
    | some v =>
      obtain ⟨k, rfl⟩ := boundPV_some h1
      have := Rep.lit_inv hl
      subst this
      cases hi with
      | none =>
        cases hi' with
        | some _ => exact hh.elim
        | none =>
          have := boundPV_none h2
          subst this
          have hl3 : l ≤ (len : Int) := by omega
          simp [Instr.sliceBounds, Instr.sliceBound, asIntOf, h0, hl3]
      | some q =>
        cases hi' with
        | none => exact hh.elim
        | some v =>
          obtain ⟨k', rfl⟩ := boundPV_some h2
          have := Rep.lit_inv hh
          subst this
          simp [Instr.sliceBounds, Instr.sliceBound, asIntOf, h00, hc, h0, e, hlh]

theorem slicePV_run {t : TypeId} {p r : PV} {lo hi : Option PV} (h : slicePV P t p lo hi = some r) {u : Value} {lo' hi' : Option Value} (hp : Rep g w p u) (hl : BoundIs g w lo lo') (hh : BoundIs g w hi hi') :
    ∃ v, (Instr.sliceAt t u lo' hi' none).run P w = .ok v w ∧ Rep g w r v := by
  unfold slicePV at h
  split at h
  · rename_i e o nl s xs hu
    split at h
    · rename_i l hh2 h1 h2
      split at h
      · rename_i hc
        obtain ⟨c1, c2, c3, c4, c5⟩ := hc
        cases h
        cases hp with
        | nils =>
          have hl0 : l = 0 := by simp at c3; omega
          have hh0 : hh2 = 0 := by simp at c3; omega
          subst hl0; subst hh0
          have hb := sliceBounds_run (P := P) (isSlice := true) (len := 0) (cap := 0) h1 h2 hl hh (by omega) (by omega) (by simp) (Nat.le_refl _)
          refine ⟨.slice none 0 0, ?_, ?_⟩
          · simp [Instr.sliceAt, Instr.slice, run_underlying hu, hb, szOf_run' (c4 ▸ c5)]
          · simpa using Rep.nils (g := g) (w := w) o.part s
        | sle _ _ a hlx =>
          have hl0 : l = 0 := by simp at c3; omega
          have hh0 : hh2 = 0 := by simp at c3; omega
          subst hl0; subst hh0
          have hb := sliceBounds_run (P := P) (isSlice := true) (len := 0) (cap := 0) h1 h2 hl hh (by omega) (by omega) (by simp) (Nat.le_refl _)
          refine ⟨.slice (some a) 0 0, ?_, ?_⟩
          · simp [Instr.sliceAt, Instr.slice, run_underlying hu, hb, szOf_run' (c4 ▸ c5)]
          · have := Rep.sle (g := g) (w := w) o.part s a (by cases o <;> exact hlx)
            simpa using this
        | sl _ _ _ b off c U hcx hm hacc hd hs hcell hrep =>
          have hb := sliceBounds_run (P := P) (isSlice := true) (len := xs.length) (cap := c) h1 h2 hl hh c1 c2 c3 hcx
          have hlen : ((xs.take hh2.toNat).drop l.toNat).length = hh2.toNat - l.toNat := by simp; omega
          have hadr : (if c = l.toNat then some (⟨b, off, none⟩ : Addr) else (some (⟨b, off, none⟩ : Addr)).map (·.add (l.toNat * s))) = some ⟨b, if c = l.toNat then off else off + l.toNat * s, none⟩ := by
            split <;> simp [addr_add]
          refine ⟨.slice (some ⟨b, if c = l.toNat then off else off + l.toNat * s, none⟩) (hh2.toNat - l.toNat) (c - l.toNat), ?_, ?_⟩
          · simp [Instr.sliceAt, Instr.slice, run_underlying hu, hb, szOf_run' (c4 ▸ c5), ← c4]
            split <;> simp_all [addr_add]
          · have hget : ∀ (j : Nat) (x : PV), ((xs.take hh2.toNat).drop l.toNat)[j]? = some x → xs[l.toNat + j]? = some x ∧ l.toNat + j < hh2.toNat := fun j x hx => by
              have hj : j < hh2.toNat - l.toNat := by rw [← hlen]; exact (List.getElem?_eq_some_iff.1 hx).1
              rw [List.getElem?_drop, List.getElem?_take_of_lt (by omega)] at hx
              exact ⟨hx, by omega⟩
            have hmem : ∀ x, x ∈ (xs.take hh2.toNat).drop l.toNat → x ∈ xs := fun x hx => List.mem_of_mem_take (List.mem_of_mem_drop hx)
            have hle : l.toNat * s + (hh2.toNat - l.toNat) * s ≤ xs.length * s := by
              rw [← Nat.add_mul]; exact Nat.mul_le_mul_right s (by omega)
            have := Rep.sl (g := g) (w := w) o.part s ((xs.take hh2.toNat).drop l.toNat) b (if c = l.toNat then off else off + l.toNat * s) (c - l.toNat) (fun j i => U (l.toNat + j) i) (by omega) (by omega)
              (hacc.sub (by rw [hlen]; split <;> omega)) (fun x hx => hd x (hmem x hx)) (fun x hx => hs x (hmem x hx))
              (fun j x hx i hi => by
                obtain ⟨h3, h4⟩ := hget j x hx
                rw [if_neg (by omega)]
                have := hcell _ x h3 i hi
                rw [Nat.add_mul] at this
                rw [show off + l.toNat * s + j * s + i = off + (l.toNat * s + j * s) + i by omega]
                exact this)
              (fun j x hx i y hy => hrep _ x (hget j x hx).1 i y hy)
            rwa [hlen] at this
      · cases h
    · cases h
  · rename_i s hu
    split at h
    · rename_i l hh2 h1 h2
      split at h
      · rename_i hc
        obtain ⟨c1, c2, c3⟩ := hc
        cases h
        have := hp.lit_inv
        subst this
        have hb := sliceBounds_run (P := P) (isSlice := false) (len := s.size) (cap := s.size) h1 h2 hl hh c1 c2 c3 (Nat.le_refl _)
        exact ⟨_, by simp [Instr.sliceAt, Instr.slice, run_underlying hu, hb], .lit _⟩
      · cases h
    · cases h
  · cases h

end
end Go.Sy
