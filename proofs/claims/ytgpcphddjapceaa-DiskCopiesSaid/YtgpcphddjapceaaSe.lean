/- Stores. -/
import Derived.Test.YtgpcphddjapceaaSt
namespace Go.Sy

def adoptTk (id off : Nat) (t q : Tk) : Option Tk := if q = t then some (.cell id off) else if q = .cell id off then none else some q

theorem inj_adopt (id off : Nat) (t : Tk) : Inj (adoptTk id off t) some := by
  refine ⟨fun q r k h1 h2 => ?_, fun i j k h1 h2 => by cases h1; cases h2; rfl, fun q u h hw => by
    simp only [adoptTk] at h
    split at h
    · cases h; rfl
    · split at h
      · cases h
      · cases h; exact hw⟩
  simp only [adoptTk] at h1 h2
  split at h1 <;> split at h2
  · simp_all
  · cases h1; split at h2
    · cases h2
    · simp_all
  · cases h2; split at h1
    · cases h1
    · simp_all
  · split at h1 <;> split at h2 <;> simp_all

theorem getO_setO_same {h : List (Nat × Ob)} {id : Nat} {x y : Ob} (hg : getO h id = some x) : getO (setO h id y) id = some y := by
  induction h with
  | nil => simp [getO] at hg
  | cons c r ih =>
    obtain ⟨k, z⟩ := c
    simp only [setO]
    by_cases e : k = id
    · rw [if_pos e]; simp [getO, e]
    · rw [if_neg e]; simp only [getO, if_neg e] at hg ⊢; exact ih hg

theorem setO_setO (h : List (Nat × Ob)) (id : Nat) (x y : Ob) : setO (setO h id x) id y = setO h id y := by
  induction h with
  | nil => rfl
  | cons c r ih =>
    obtain ⟨k, z⟩ := c
    simp only [setO]
    by_cases e : k = id
    · simp [setO, e]
    · rw [if_neg e]; simp only [setO, if_neg e, ih]

theorem setO_self {h : List (Nat × Ob)} {id : Nat} {x : Ob} (hg : getO h id = some x) : setO h id x = h := by
  induction h with
  | nil => rfl
  | cons c r ih =>
    obtain ⟨k, z⟩ := c
    simp only [setO]
    by_cases e : k = id
    · subst e; simp only [getO, if_pos] at hg; cases hg; simp
    · rw [if_neg e]; simp only [getO, if_neg e] at hg; rw [ih hg]

section
variable {P : Program}

theorem store_many {g : G} {a : Act} {id : Nat} (ys : List PV) : ∀ (vs : List Value) (st : St) (w : World) (xs : List PV) (off : Nat), Sim g st a w → WF g w → getO st.heap id = some (.cells xs) → off + ys.length ≤ xs.length →
    vs.length = ys.length → (∀ (i : Nat) (y : PV) (v : Value), ys[i]? = some y → vs[i]? = some v → Rep g w y v ∧ v.oneCell' = true) →
    ∃ w', (storeCells ⟨g.μ id, off, none⟩ vs).run P w = .ok () w' ∧ Sim g (st.setOb id (.cells (writeAt xs off ys))) a w' ∧ WF g w' ∧ Ext g w g w' := by
  have key : ∀ (ys : List PV) (vs : List Value) (k : Nat) (st : St) (w : World) (xs : List PV) (off : Nat), Sim g st a w → WF g w → getO st.heap id = some (.cells xs) → off + k + ys.length ≤ xs.length →
      vs.length = ys.length → (∀ (i : Nat) (y : PV) (v : Value), ys[i]? = some y → vs[i]? = some v → Rep g w y v ∧ v.oneCell' = true) →
      ∃ w', (storeCells ⟨g.μ id, off, none⟩ vs k).run P w = .ok () w' ∧ Sim g (st.setOb id (.cells (writeAt xs (off + k) ys))) a w' ∧ WF g w' ∧ Ext g w g w' := by
    intro ys
    induction ys with
    | nil =>
      intro vs k st w xs off hs hw ho hle hl _
      have : vs = [] := List.eq_nil_of_length_eq_zero hl
      subst this
      refine ⟨w, rfl, ?_, hw, Ext.refl g w⟩
      have e : writeAt xs (off + k) [] = xs := by simp [writeAt]
      rw [e]
      have : st.setOb id (.cells xs) = st := by simp only [St.setOb]; rw [setO_self ho]
      rw [this]; exact hs
    | cons y ys ih =>
      intro vs k st w xs off hs hw ho hle hl hr
      match vs, hl with
      | v :: vs, hl =>
        simp only [List.length_cons] at hle
        obtain ⟨hy, h1⟩ := hr 0 y v rfl rfl
        obtain ⟨s1, s2, s3, ⟨u, s4⟩, s5⟩ := hs.store hw ho (off := off + k) (by omega) hy
        have hd := (hs.heap id _ ho).1
        have ht := Turns.setD hw hd (off := off + k) v
        obtain ⟨w', r1, r2, r3, r4⟩ := ih vs (k + 1) _ _ (xs.set (off + k) y) off s1 s2 (getO_setO_same ho) (by simp; omega) (by simpa using hl) (fun i y' v' hy' hv' => by
          obtain ⟨a1, a2⟩ := hr (i + 1) y' v' (by simpa using hy') (by simpa using hv')
          have := a1.scrub ht
          rw [id_scrub_fn.1] at this
          exact ⟨this, a2⟩)
        refine ⟨w', ?_, ?_, r3, s3.trans r4⟩
        · rw [storeCells, Sem.run_bind, addr_add]
          rw [run_store P w _ v _ h1, s4]
          simp only [s5, Bool.false_eq_true, if_false, Result.andThen_ok]
          exact r1
        · have e : writeAt (xs.set (off + k) y) (off + (k + 1)) ys = writeAt xs (off + k) (y :: ys) := by
            apply List.ext_getElem?
            intro i
            rw [writeAt_get (by simp; omega), writeAt_get (by simp; omega)]
            simp only [List.length_cons]
            by_cases e1 : i = off + k
            · subst e1
              rw [if_neg (by omega), if_pos (by omega), Nat.sub_self, List.getElem?_set]
              simp; omega
            · by_cases e2 : off + k ≤ i ∧ i < off + k + (ys.length + 1)
              · rw [if_pos e2, if_pos (by omega), show i - (off + k) = i - (off + (k + 1)) + 1 by omega]
                rfl
              · rw [if_neg e2, if_neg (by omega), List.getElem?_set, if_neg (by omega)]
          rw [← e]
          have e2 : (st.setOb id (.cells (xs.set (off + k) y))).setOb id (.cells (writeAt (xs.set (off + k) y) (off + (k + 1)) ys)) = st.setOb id (.cells (writeAt (xs.set (off + k) y) (off + (k + 1)) ys)) := by
            simp only [St.setOb, setO_setO]
          rw [← e2]; exact r2
  intro vs st w xs off hs hw ho hle hl hr
  simpa using key ys vs 0 st w xs off hs hw ho (by simpa using hle) hl hr

/-- No own row among the cells. -/
def noOwn : List PV → Bool
  | [] => true
  | .sl (.own _) _ _ _ :: _ => false
  | _ :: xs => noOwn xs

/-- A store. -/
def storeSt (P : Program) (t : TypeId) (st : St) (p x : PV) : Option St :=
  match p with
  | .ptr id off => match getO st.heap id with
    | some (.cells xs) => if x.plain = true ∧ x.comps.length = szOf P t ∧ szOf P t ≠ 0 ∧ off + szOf P t ≤ xs.length then
        match x with
        | .sl (.own q) nl s ys => if q = .cell id off then some (st.setOb id (.cells (writeAt xs off [x]))) else
            some ((st.scrub (Fren (adoptTk id off q)) some).setOb id (.cells (writeAt (PV.scrubL (Fren (adoptTk id off q)) some xs) off [.sl (.own (.cell id off)) nl s ys])))
        | .agg ys => if (ys.all fun y => y.plain && !y.isAgg) = true ∧ noOwn ys = true then some (st.setOb id (.cells (writeAt xs off ys))) else none
        | x => some (st.setOb id (.cells (writeAt xs off [x])))
      else none
    | _ => none
  | .cur (.own (.loc n)) zs => match x with
    | .lit v => if v.oneCell' = true ∧ szOf P t = 1 ∧ zs ≠ [] then some (st.poke (.loc n) zs.length (.lit v)) else none
    | _ => none
  | _ => none

theorem one_of_plain {g : G} {w : World} {x : PV} {v : Value} (h : Rep g w x v) (hp : x.plain = true) (ha : x.isAgg = false) : v.oneCell' = true := by
  cases h with
  | lit => exact hp
  | dead => simp [PV.plain] at hp
  | tup => simp [PV.plain] at hp
  | agg => cases ha
  | _ => rfl

theorem storeSt_run {t : TypeId} {st st' : St} {p x : PV} (h : storeSt P t st p x = some st') {g : G} {a : Act} {w : World} (hs : Sim g st a w) (hw : WF g w) {u v : Value} (hp : Rep g w p u) (hx : Rep g w x v) :
    ∃ w' g', (Instr.storeAt t u v).run P w = .ok () w' ∧ Sim g' st' a w' ∧ WF g' w' ∧ Ext g w g' w' := by
  unfold storeSt at h
  split at h
  · rename_i id off
    split at h
    · rename_i xs ho
      split at h
      · rename_i hc
        obtain ⟨c1, c2, c3, c4⟩ := hc
        cases hp
        obtain ⟨d1, d2⟩ := rep_cells hx c1
        have hsz : v.cells.size = szOf P t := d1.trans c2
        have hrun : ∀ w', (storeCells ⟨g.μ id, off, none⟩ v.cells.toList).run P w = .ok () w' → (Instr.storeAt t (.pointer (some ⟨g.μ id, off, none⟩)) v).run P w = .ok () w' := fun w' h => by
          simp [Instr.storeAt, Instr.sureAddr, storeVar, szOf_run' c3, hsz, h]
        have plainCase : ∀ y, y = x → y.isAgg = false → st' = st.setOb id (.cells (writeAt xs off [y])) → ∃ w' g', (Instr.storeAt t (.pointer (some ⟨g.μ id, off, none⟩)) v).run P w = .ok () w' ∧ Sim g' st' a w' ∧ WF g' w' ∧ Ext g w g' w' := by
          intro y e hag e2
          subst e
          have hcomp : y.comps = [y] := by cases y <;> first | rfl | (simp [PV.isAgg] at hag)
          rw [hcomp] at d2 c2
          simp only [List.length_cons, List.length_nil] at c2
          have hone := one_of_plain hx c1 hag
          have hcs : v.cells.toList = [v] := by cases v <;> first | rfl | (simp [Value.oneCell'] at hone)
          obtain ⟨w', r1, r2, r3, r4⟩ := store_many (P := P) [y] [v] st w xs off hs hw ho (by simp; omega) rfl (fun i z u' hz hu => by
            match i, hz, hu with
            | 0, hz, hu => simp at hz hu; subst hz; subst hu; exact ⟨hx, hone⟩)
          exact ⟨w', g, hrun w' (by rw [hcs]; exact r1), e2 ▸ r2, r3, r4⟩
        split at h
        · rename_i q nl s ys
          split at h
          · cases h; exact plainCase _ rfl rfl rfl
          · cases h
            have hi := inj_adopt id off q
            have hs2 := hs.ren hi
            have hx2 := hx.scrub (Turns.ren (g := g) hi w)
            have ho2 : getO (st.scrub (Fren (adoptTk id off q)) some).heap id = some (.cells (PV.scrubL (Fren (adoptTk id off q)) some xs)) := by
              have : ∀ h : List (Nat × Ob), getO (scrubO (Fren (adoptTk id off q)) some h) id = (getO h id).map (Ob.scrub (Fren (adoptTk id off q)) some) := fun h => by
                induction h with
                | nil => rfl
                | cons c r ih =>
                  obtain ⟨k, z⟩ := c
                  simp only [scrubO, getO]
                  split
                  · rfl
                  · exact ih
              show getO (scrubO _ _ st.heap) id = _
              rw [this, ho]; rfl
            have hsc : (PV.sl (.own q) nl s ys).scrub (Fren (adoptTk id off q)) some = .sl (.own (.cell id off)) nl s ys := by simp [PV.scrub, Fren, adoptTk]
            rw [hsc] at hx2
            have hone := one_of_plain hx c1 rfl
            have hcs : v.cells.toList = [v] := by cases v <;> first | rfl | (simp [Value.oneCell'] at hone)
            simp only [PV.comps, List.length_cons, List.length_nil] at c2
            obtain ⟨w', r1, r2, r3, r4⟩ := store_many (P := P) (id := id) [.sl (.own (.cell id off)) nl s ys] [v] _ w _ off hs2 (hw.ren hi) ho2 (by simp [scrubL_eq]; omega) rfl (fun i z u' hz hu => by
              match i, hz, hu with
              | 0, hz, hu => simp at hz hu; subst hz; subst hu; exact ⟨hx2, hone⟩)
            have hμ : (g.ren (adoptTk id off q) some).μ id = g.μ id := G.ren_μ hi rfl
            exact ⟨w', _, hrun w' (by rw [hcs, ← hμ]; exact r1), r2, r3, (Ext.ren hi (fun _ _ => rfl) w).trans r4⟩
        · rename_i ys
          split at h
          · rename_i hc2
            cases h
            simp only [PV.comps] at d1 d2 c2
            obtain ⟨w', r1, r2, r3, r4⟩ := store_many (P := P) ys v.cells.toList st w xs off hs hw ho (by omega) (by simpa using d1) (fun i z u' hz hu => by
              have hr := d2 i z u' hz (by rw [← Array.getElem?_toList]; exact hu)
              have hpl := List.all_eq_true.1 hc2.1 z (mem_of_get hz)
              simp only [Bool.and_eq_true, Bool.not_eq_true'] at hpl
              exact ⟨hr, one_of_plain hr hpl.1 hpl.2⟩)
            exact ⟨w', g, hrun w' r1, r2, r3, r4⟩
          · cases h
        · rename_i h1 h2
          cases h
          refine plainCase x rfl ?_ rfl
          cases x <;> first | rfl | exact absurd rfl (h2 _)
      · cases h
    · cases h
  · rename_i n zs
    split at h
    · rename_i v'
      have hv := hx.lit_inv
      subst hv
      split at h
      · rename_i hc
        obtain ⟨c1, c2, c3⟩ := hc
        cases h
        obtain ⟨o, rfl, r1, r2, r3, ⟨u', r4⟩, r5⟩ := hs.poke hw hp (List.length_pos_iff.2 c3) c1
        refine ⟨_, g, ?_, r1, r2, r3⟩
        have hsz : v.cells.size = 1 := by cases v <;> first | rfl | (simp [Value.oneCell'] at c1)
        have hcs : v.cells.toList = [v] := by cases v <;> first | rfl | (simp [Value.oneCell'] at c1)
        have hne : szOf P t ≠ 0 := by omega
        simp [Instr.storeAt, Instr.sureAddr, storeVar, szOf_run' hne, hsz, c2, hcs, storeCells, addr_add, run_store P w _ v _ c1, r4, r5]
      · cases h
    · cases h
  · cases h
end
end Go.Sy
