/- What each operation that makes no memory yields. -/
import Derived.Test.YtgpcphddjapceaaS8
import Derived.WalkSpells
namespace Go.Sy

section
variable {P : Program} (w : World)
theorem eqn_slice {t e : TypeId} (hu : P.underlying t = some (.slice e)) (x y : Operand) (a : Option Addr) (n c : Nat) :
    (do eqGuard .eql t x y (.slice a n c) (.slice none 0 0); binOp .eql t (.slice a n c) (.slice none 0 0) : Sem Value).run P w = .ok (.bool a.isNone) w ∧
    (do eqGuard .neq t x y (.slice a n c) (.slice none 0 0); binOp .neq t (.slice a n c) (.slice none 0 0) : Sem Value).run P w = .ok (.bool (!a.isNone)) w := by
  have g1 : eqGuard .eql t x y (.slice a n c) (.slice none 0 0) = pure () := rfl
  have g2 : eqGuard .neq t x y (.slice a n c) (.slice none 0 0) = pure () := rfl
  rw [g1, g2]
  simp only [Sem.run_bind, Sem.run_pure, Result.andThen_ok]
  refine ⟨?_, run_neq_slice_nil_any w t e a n c 0 0 hu⟩
  simp only [binOp]
  simp [Op.equal, Op.maxDepth, Lib.run_equalIn_slice_nil w 9999 t e a n c 0 0 hu]

theorem eqn_ptr {t e : TypeId} (hu : P.underlying t = some (.pointer e)) (x y : Operand) (a : Addr) :
    (do eqGuard .eql t x y (.pointer (some a)) (.pointer none); binOp .eql t (.pointer (some a)) (.pointer none) : Sem Value).run P w = .ok (.bool false) w ∧
    (do eqGuard .neq t x y (.pointer (some a)) (.pointer none); binOp .neq t (.pointer (some a)) (.pointer none) : Sem Value).run P w = .ok (.bool true) w := by
  have g1 : eqGuard .eql t x y (.pointer (some a)) (.pointer none) = pure () := rfl
  have g2 : eqGuard .neq t x y (.pointer (some a)) (.pointer none) = pure () := rfl
  have h : ∀ d : Nat, (Op.equalIn (d + 1) t (.pointer (some a)) (.pointer none)).run P w = .ok false w := fun d => by simp [Op.equalIn, run_underlying hu]
  rw [g1, g2]
  simp only [Sem.run_bind, Sem.run_pure, Result.andThen_ok]
  refine ⟨?_, ?_⟩ <;> (simp only [binOp]; simp [Op.equal, Op.maxDepth, h 9999])
end

def binPV (P : Program) (op : BinOp) (t : TypeId) (x y : Operand) (p q : PV) : Option PV :=
  match p, q with
  | .sl _ nl _ _, .sl _ true _ [] => match P.underlying t, op with
    | some (.slice _), .eql => some (.lit (.bool nl))
    | some (.slice _), .neq => some (.lit (.bool (!nl)))
    | _, _ => none
  | .ptr _ _, .lit (.pointer none) => match P.underlying t, op with
    | some (.pointer _), .eql => some (.lit (.bool false))
    | some (.pointer _), .neq => some (.lit (.bool true))
    | _, _ => none
  | p, q => match valOf p, valOf q with
    | some u, some v => (pureOf P (do eqGuard op t x y u v; binOp op t u v)).map .lit
    | _, _ => none

section
variable {P : Program}

theorem binPV_run {op : BinOp} {t : TypeId} {x y : Operand} {p q r : PV} (h : binPV P op t x y p q = some r) {g : G} {w : World} {u v : Value} (hp : Rep g w p u) (hq : Rep g w q v) :
    ∃ z, (do eqGuard op t x y u v; binOp op t u v : Sem Value).run P w = .ok z w ∧ Rep g w r z := by
  have fall : (match valOf p, valOf q with
    | some u, some v => (pureOf P (do eqGuard op t x y u v; binOp op t u v)).map PV.lit
    | _, _ => none) = some r → ∃ z, (do eqGuard op t x y u v; binOp op t u v : Sem Value).run P w = .ok z w ∧ Rep g w r z := by
    intro h
    cases h1 : valOf p with
    | none => rw [h1] at h; simp at h
    | some u' =>
      cases h2 : valOf q with
      | none => rw [h1, h2] at h; simp at h
      | some v' =>
        rw [h1, h2] at h
        have e1 := valOf_rep h1 hp
        have e2 := valOf_rep h2 hq
        subst e1; subst e2
        simp only [Option.map_eq_some_iff] at h
        obtain ⟨z, hz, rfl⟩ := h
        exact ⟨z, pureOf_run hz w, .lit z⟩
  unfold binPV at h
  split at h
  · rename_i o nl s xs o' s'
    have hv : v = .slice none 0 0 := by cases hq; rfl
    subst hv
    split at h
    · rename_i e hu
      cases h
      cases hp with
      | nils => exact ⟨.bool true, (eqn_slice w hu x y none 0 0).1, .lit _⟩
      | sle => exact ⟨.bool false, (eqn_slice w hu x y _ _ _).1, .lit _⟩
      | sl => exact ⟨.bool false, (eqn_slice w hu x y _ _ _).1, .lit _⟩
    · rename_i e hu
      cases h
      cases hp with
      | nils => exact ⟨.bool false, (eqn_slice w hu x y none 0 0).2, .lit _⟩
      | sle => exact ⟨.bool true, (eqn_slice w hu x y _ _ _).2, .lit _⟩
      | sl => exact ⟨.bool true, (eqn_slice w hu x y _ _ _).2, .lit _⟩
    · cases h
  · have hv := hq.lit_inv
    subst hv
    split at h
    · rename_i e hu
      cases h
      cases hp
      exact ⟨.bool false, (eqn_ptr w hu x y _).1, .lit _⟩
    · rename_i e hu
      cases h
      cases hp
      exact ⟨.bool true, (eqn_ptr w hu x y _).2, .lit _⟩
    · cases h
  · exact fall h

/-- One operand alone, a plain value. -/
def unPV (P : Program) (f : Value → Sem Value) (p : PV) : Option PV :=
  match valOf p with
  | some u => (pureOf P (f u)).map .lit
  | none => none

theorem unPV_run {f : Value → Sem Value} {p r : PV} (h : unPV P f p = some r) {g : G} {w : World} {u : Value} (hp : Rep g w p u) : ∃ z, (f u).run P w = .ok z w ∧ Rep g w r z := by
  unfold unPV at h
  cases h1 : valOf p with
  | none => rw [h1] at h; simp at h
  | some u' =>
    rw [h1] at h
    have e1 := valOf_rep h1 hp
    subst e1
    simp only [Option.map_eq_some_iff] at h
    obtain ⟨z, hz, rfl⟩ := h
    exact ⟨z, pureOf_run hz w, .lit z⟩

/-- Cells of an object, or of a row, from a place on. -/
theorem cellsAt_rep {st : St} {g : G} {a : Act} {w : World} (hs : Sim g st a w) {p : PV} {xs : List PV} (h : st.cellsAt p = some xs) {u : Value} (hp : Rep g w p u) :
    ∃ b off, u = .pointer (some ⟨b, off, none⟩) ∧ ∀ (j : Nat) (x : PV), xs[j]? = some x → ∃ v, w.cell? ⟨b, off + j, none⟩ = some v ∧ Rep g w x v := by
  cases hp with
  | ptr id off =>
    simp only [St.cellsAt] at h
    cases ho : getO st.heap id with
    | none => rw [ho] at h; simp at h
    | some ob =>
      cases ob with
      | cells ys =>
        rw [ho] at h
        simp only [Option.some.injEq] at h
        subst h
        obtain ⟨hd, cs, T, hb, hl, hr⟩ := hs.heap id _ ho
        refine ⟨_, off, rfl, fun j x hx => ?_⟩
        rw [List.getElem?_drop] at hx
        have hlt : off + j < cs.size := by rw [hl]; exact (List.getElem?_eq_some_iff.1 hx).1
        exact ⟨cs[off + j], by rw [cell_row hb]; exact Array.getElem?_eq_getElem hlt, hr _ x _ hx (Array.getElem?_eq_getElem hlt)⟩
  | cur o xs' b off U hacc hd hcell hrep =>
    simp only [St.cellsAt, Option.some.injEq] at h
    subst h
    exact ⟨b, off, rfl, fun j x hx => ⟨_, hcell j x hx, hrep j x hx⟩⟩
  | _ => simp [St.cellsAt] at h

def loadPV (P : Program) (t : TypeId) (st : St) (p : PV) : Option PV := (st.cellsAt p).bind fun xs => (ofCells P t xs).map fun x => if aggT P t = some true then x.view else x

theorem ofCells_load {t : TypeId} {xs : List PV} {x : PV} (h : ofCells P t xs = some x) {g : G} {w : World} {b off : Nat} (hc : ∀ (j : Nat) (x : PV), xs[j]? = some x → ∃ v, w.cell? ⟨b, off + j, none⟩ = some v ∧ Rep g w x v) :
    ∃ v, (loadVar t ⟨b, off, none⟩).run P w = .ok v w ∧ Rep g w x v := by
  unfold ofCells at h
  split at h
  · rename_i ha
    split at h
    · rename_i hle
      cases h
      have hf : ∀ j, ∃ v, j < szOf P t → w.cell? ((⟨b, off, none⟩ : Addr).add j) = some v ∧ ∀ x, xs[j]? = some x → Rep g w x v := by
        intro j
        by_cases hj : j < szOf P t
        · have hx := List.getElem?_eq_getElem (l := xs) (i := j) (by omega)
          obtain ⟨v, h1, h2⟩ := hc j _ hx
          exact ⟨v, fun _ => ⟨by rw [addr_add]; exact h1, fun y hy => by rw [hx] at hy; cases hy; exact h2⟩⟩
        · exact ⟨undef, fun h => absurd h hj⟩
      obtain ⟨f, hf⟩ := Classical.skolem.1 hf
      refine ⟨.agg ((List.range (szOf P t)).map f).toArray, ?_, ?_⟩
      · simp only [loadVar, Sem.run_bind, aggT_run ha, Result.andThen_ok, if_true, szOf_run ha, run_loadCells w _ _ f (fun j hj => (hf j hj).1)]
        rfl
      · refine .agg _ _ (by simp; omega) (fun i x u hx hu => ?_)
        have hi : i < szOf P t := by
          have := (List.getElem?_eq_some_iff.1 hx).1
          simp at this; omega
        rw [List.getElem?_take_of_lt hi] at hx
        have : u = f i := by
          simp only [List.getElem?_toArray, List.getElem?_map, List.getElem?_range hi, Option.map_some, Option.some.injEq] at hu
          exact hu.symm
        subst this
        exact (hf i hi).2 x hx
    · cases h
  · rename_i ha
    obtain ⟨v, h1, h2⟩ := hc 0 x h
    refine ⟨v, ?_, h2⟩
    rw [Nat.add_zero] at h1
    simp only [loadVar, Sem.run_bind, aggT_run ha, Result.andThen_ok]
    simp [run_load, h1]
  · cases h

theorem loadPV_run {st : St} {g : G} {a : Act} {w : World} (hs : Sim g st a w) {t : TypeId} {p x : PV} (h : loadPV P t st p = some x) {u : Value} (hp : Rep g w p u) :
    ∃ v, (Instr.loadAt t u).run P w = .ok v w ∧ Rep g w x v := by
  simp only [loadPV, Option.bind_eq_some_iff, Option.map_eq_some_iff] at h
  obtain ⟨xs, h1, y, h2, rfl⟩ := h
  obtain ⟨b, off, rfl, hc⟩ := cellsAt_rep hs h1 hp
  obtain ⟨v, h3, h4⟩ := ofCells_load h2 hc
  refine ⟨v, by simpa [Instr.loadAt, Instr.sureAddr] using h3, ?_⟩
  split
  · exact h4.view
  · exact h4

/-- A part of an aggregate. -/
theorem ofCells_part {t : TypeId} {xs : List PV} {off : Nat} {x : PV} (h : ofCells P t (xs.drop off) = some x) {g : G} {w : World} {us : Array Value} (hp : Rep g w (.agg xs) (.agg us)) :
    ∃ v, (part t us off).run P w = .ok v w ∧ Rep g w x v := by
  cases hp with
  | agg _ _ hl hr =>
    unfold ofCells at h
    split at h
    · rename_i ha
      split at h
      · rename_i hle
        cases h
        rw [List.length_drop] at hle
        refine ⟨.agg (us.extract off (off + szOf P t)), ?_, ?_⟩
        · simp [part, Sem.run_bind, aggT_run ha, szOf_run ha]
        · refine .agg _ _ (by simp; omega) (fun i x u hx hu => ?_)
          have hi : i < szOf P t := by
            have := (List.getElem?_eq_some_iff.1 hx).1
            simp at this; omega
          rw [List.getElem?_take_of_lt hi, List.getElem?_drop] at hx
          rw [Array.getElem?_extract] at hu
          split at hu
          · exact hr _ x u hx hu
          · cases hu
      · cases h
    · rename_i ha
      rw [List.getElem?_drop, Nat.add_zero] at h
      have hlt : off < us.size := by rw [hl]; exact (List.getElem?_eq_some_iff.1 h).1
      refine ⟨us[off], ?_, hr _ x _ h (Array.getElem?_eq_getElem hlt)⟩
      simp [part, Sem.run_bind, aggT_run ha, hlt]
    · cases h
end
end Go.Sy
