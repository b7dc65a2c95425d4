/- Operations that make memory, and stores. -/
import Derived.Test.YtgpcphddjapceaaSb
namespace Go.Sy

def zerosOf (P : Program) (t : TypeId) : Option (List PV) := ((P.info? t).bind (·.zero)).map fun v => v.cells.toList.map of1

def placesOf (P : Program) (t : TypeId) : Option (List (Nat × Nat)) :=
  match P.underlying t with
  | some (.struct fs) => if fs.toList.all fun f => (P.info? f.type).isSome then some (fs.toList.map fun f => (f.offset, szOf P f.type)) else none
  | _ => none

def buildPV (P : Program) (t : TypeId) (parts : List (Nat × PV)) : Option PV :=
  match zerosOf P t, placesOf P t with
  | some zs, some pl => (fillPV (fun i => pl[i]?) zs parts).map .agg
  | _, _ => none

def chunks (s : Nat) : Nat → List PV → List PV
  | 0, _ => []
  | n + 1, X => .agg (X.take s) :: chunks s n (X.drop s)

/-- Adopting names: own rows among the cells get the names of the cells. -/
def tokAt (d : Nat) : List PV → Nat → Tk → Option Tk
  | [], _, t => offTk d t
  | .sl (.own u) _ _ _ :: xs, k, t => if u = t then some (.cell d k) else tokAt d xs (k + 1) t
  | _ :: xs, k, t => tokAt d xs (k + 1) t

theorem tokAt_cases (d : Nat) : ∀ (xs : List PV) (k : Nat) (t v : Tk), tokAt d xs k t = some v → (∃ j, k ≤ j ∧ v = .cell d j ∧ (∃ nl s ys, xs[j - k]? = some (.sl (.own t) nl s ys))) ∨ offTk d t = some v := by
  intro xs
  induction xs with
  | nil => exact fun k t v h => .inr h
  | cons x xs ih =>
    intro k t v h
    have next : tokAt d xs (k + 1) t = some v → (∃ j, k ≤ j ∧ v = .cell d j ∧ (∃ nl s ys, (x :: xs)[j - k]? = some (.sl (.own t) nl s ys))) ∨ offTk d t = some v := fun h => by
      rcases ih (k + 1) t v h with ⟨j, h1, h2, h3⟩ | h1
      · exact .inl ⟨j, by omega, h2, by rw [show j - k = j - (k + 1) + 1 by omega]; exact h3⟩
      · exact .inr h1
    cases x with
    | sl o nl s ys =>
      cases o with
      | own u =>
        simp only [tokAt] at h
        by_cases e : u = t
        · subst e
          rw [if_pos rfl] at h
          cases h
          exact .inl ⟨k, Nat.le_refl _, rfl, nl, s, ys, by simp⟩
        · rw [if_neg e] at h; exact next h
      | _ => exact next h
    | _ => exact next h

theorem inj_tokAt (d : Nat) (xs : List PV) : Inj (tokAt d xs 0) (offId d) := by
  refine ⟨fun t u v h1 h2 => ?_, (inj_off d).ob, fun t u h hw => by
    rcases tokAt_cases d xs 0 t u h with ⟨j, _, rfl, _⟩ | h3
    · rfl
    · exact (inj_off d).wk t u h3 hw⟩
  rcases tokAt_cases d xs 0 t v h1 with ⟨j, _, rfl, nl, s, ys, h3⟩ | h3 <;> rcases tokAt_cases d xs 0 u _ h2 with ⟨j', _, e, nl', s', ys', h4⟩ | h4
  · cases e
    rw [h3] at h4
    cases h4; rfl
  · exact absurd rfl (offTk_ne' h4)
  · subst e; exact absurd rfl (offTk_ne' h3)
  · exact (inj_off d).tk t u v h3 h4

def boxSt (d : Nat) (xs : List PV) (st : St) : St := (st.scrub (Fren (tokAt d xs 0)) (offId d)).addO d (.cells (PV.scrubL (Fren (tokAt d xs 0)) (offId d) xs))

section
variable {P : Program} {g : G} {st : St} {a : Act} {w : World}

theorem box_ok (h : Sim g st a w) (hw : WF g w) {xs : List PV} {C : Array Value} (hx : RepC g w xs C) (T : TypeId) (d : Nat) (hd1 : d < 100000) :
    ∃ g', Sim g' (boxSt d xs st) a (w.alloc (.cells C T)) ∧ WF g' (w.alloc (.cells C T)) ∧ Ext g w g' (w.alloc (.cells C T)) ∧ Rep g' (w.alloc (.cells C T)) (.ptr d 0) (.pointer (some ⟨w.heap.size, 0, none⟩)) := by
  obtain ⟨g', h1, h2, h3, h4, _⟩ := h.newOb hw (Made.alloc w (.cells C T (0, 0))) hx.1 hx.2 (inj_tokAt d xs) (fun i h => by simp only [offId]; rw [if_neg (by omega)]) hd1 (d := d) (fun i e => (offId_eq e).2 (offId_eq e).1.symm)
  exact ⟨g', h1, h2, h3, h4 ▸ .ptr d 0⟩

theorem zeros_run {t : TypeId} {zs : List PV} (h : zerosOf P t = some zs) (g : G) (w : World) : ∃ v, (zeroValue t).run P w = .ok v w ∧ RepC g w zs v.cells ∧ ∃ i, P.info? t = some i ∧ i.zero = some v := by
  simp only [zerosOf, Option.map_eq_some_iff, Option.bind_eq_some_iff] at h
  obtain ⟨v, ⟨i, hi, hz⟩, rfl⟩ := h
  refine ⟨v, by simp [zeroValue, typeInfo, hi, hz], ⟨by simp, fun k x u hx hu => ?_⟩, i, hi, hz⟩
  rw [List.getElem?_map, Option.map_eq_some_iff] at hx
  obtain ⟨y, hy, rfl⟩ := hx
  rw [Array.getElem?_toList, hu] at hy
  cases hy
  exact rep_of1 g w _

theorem places_mapM (w : World) : ∀ (fs : List Field), (fs.all fun f => (P.info? f.type).isSome) = true → (fs.mapM fun f => (do pure (f.offset, ← sizeOf f.type) : Sem (Nat × Nat))).run P w = .ok (fs.map fun f => (f.offset, szOf P f.type)) w := by
  intro fs
  induction fs with
  | nil => exact fun _ => rfl
  | cons f fs ih =>
    intro h
    simp only [List.all_cons, Bool.and_eq_true] at h
    obtain ⟨i, hi⟩ := Option.isSome_iff_exists.1 h.1
    have hs : (sizeOf f.type).run P w = .ok (szOf P f.type) w := by simp [sizeOf, typeInfo, szOf, hi]
    rw [List.mapM_cons]
    simp only [Sem.run_bind, hs, Result.andThen_ok, Sem.run_pure, ih h.2, List.map_cons]

theorem buildPV_run {t : TypeId} {ps : List (Nat × PV)} {r : PV} (h : buildPV P t ps = some r) {vs : Array (Nat × Value)} (hl : vs.size = ps.length)
    (hr : ∀ (i : Nat) (p : Nat × PV) (v : Nat × Value), ps[i]? = some p → vs[i]? = some v → p.1 = v.1 ∧ Rep g w p.2 v.2) : ∃ v, (Instr.build t vs).run P w = .ok v w ∧ Rep g w r v := by
  unfold buildPV at h
  cases hz : zerosOf P t with
  | none => rw [hz] at h; simp at h
  | some zs =>
    cases hp : placesOf P t with
    | none => rw [hz, hp] at h; simp at h
    | some pl =>
      rw [hz, hp] at h
      simp only [Option.map_eq_some_iff] at h
      obtain ⟨X, hX, rfl⟩ := h
      obtain ⟨z, hz1, hz2, _⟩ := zeros_run hz g w
      unfold placesOf at hp
      split at hp
      · rename_i fs hu
        split at hp
        · rename_i hall
          cases hp
          have hm := places_mapM (P := P) w fs.toList hall
          obtain ⟨C', hf, hC⟩ := fillPV_run ps vs.toList zs X _ hX hz2 (by simpa using hl) (fun i p v h1 h2 => hr i p v h1 (by rw [← Array.getElem?_toList]; exact h2))
          refine ⟨.agg C', ?_, .agg X C' hC.1 hC.2⟩
          have hm2 : (fs.mapM fun f => (do pure (f.offset, ← sizeOf f.type) : Sem (Nat × Nat))).run P w = .ok (fs.toList.map fun f => (f.offset, szOf P f.type)).toArray w := by
            rw [Array.mapM_eq_mapM_toList]
            simp only [bind_pure_comp] at hm
            simp [hm]
          have e : (fun (x : Nat) => (fs.toList.map fun f => (f.offset, szOf P f.type)).toArray[x]?) = fun (i : Nat) => (fs.toList.map fun f => (f.offset, szOf P f.type))[i]? := by funext i; simp
          simp only [Instr.build, Sem.run_bind, hz1, Result.andThen_ok, run_underlying hu, hm2, e, hf, Sem.run_pure]
        · cases hp
      · cases hp
end
end Go.Sy
