/- append: whatever way it goes. -/
import Derived.Test.YtgpcphddjapceaaS6
namespace Go.Sy

theorem heap_setCells {b : Nat} {T : TypeId} {fz : Nat × Nat} (vs : List Value) : ∀ (o : Nat) (w : World) (cs : Array Value), w.heap[b]? = some (.cells cs T fz) →
    ∃ cs', (w.setCells b o vs).heap[b]? = some (.cells cs' T fz) ∧ cs'.size = cs.size := by
  induction vs with
  | nil => exact fun o w cs h => ⟨cs, h, rfl⟩
  | cons v vs ih =>
    intro o w cs h
    have h1 : (w.setCell ⟨b, o, none⟩ v).heap[b]? = some (.cells (cs.setIfInBounds o v) T fz) := by
      show (w.heap.modify _ _)[b]? = _
      rw [Array.getElem?_modify, if_pos rfl, h]; rfl
    obtain ⟨cs', h2, h3⟩ := ih (o + 1) _ _ h1
    exact ⟨cs', h2, by simpa using h3⟩

theorem size_setCells (b : Nat) (vs : List Value) : ∀ (o : Nat) (w : World), (w.setCells b o vs).heap.size = w.heap.size := by
  induction vs with
  | nil => exact fun _ _ => rfl
  | cons v vs ih => exact fun o w => (ih (o + 1) _).trans (size_setCell _ _ _)

theorem tape_setCells (b : Nat) (vs : List Value) : ∀ (o : Nat) (w : World), (w.setCells b o vs).tape = w.tape := by
  induction vs with
  | nil => exact fun _ _ => rfl
  | cons v vs ih => exact fun o w => ih (o + 1) _

theorem other_setCells {b : Nat} (vs : List Value) : ∀ (o : Nat) (w : World) (k : Nat), k ≠ b → (w.setCells b o vs).heap[k]? = w.heap[k]? := by
  induction vs with
  | nil => exact fun _ _ _ _ => rfl
  | cons v vs ih => exact fun o w k hk => (ih (o + 1) _ k hk).trans (heap_setCell hk)

def G.far (g : G) (t : Tk) (f : Nat) : G := { g with fr := fun u => if u = t then f else g.fr u }

theorem run_append_keep {P : Program} (w : World) (t tx ty e : TypeId) (i : TypeInfo) (ht : P.underlying t = some (.slice e)) (hi : P.info? e = some i) (a : Addr) (x : Value) (hs : Src P i.size tx x 0 [] w) :
    (Builtin.append_ #[t, tx] ty #[.slice (some a) 0 0, x]).run P w = .ok (.slice (some a) 0 0) w := by
  rcases hs.kind with ⟨e', hk⟩ | hk <;> simp [Builtin.append_, run_underlying ht, run_underlying hk, sizeOf, typeInfo, hi, hs.len, hs.cells] <;> rfl

theorem Turns.far {g : G} {w : World} (hw : WF g w) {t : Tk} (hl : g.L t) {o : Nat} {vs : List Value} (hfr : g.fr t ≤ o) {f : Nat} (hf : g.fr t ≤ f) : Turns g w (g.far t f) (w.setCells (g.ν t) o vs) (Fkill t) some where
  lax := lax_kill t
  imm := fun b hb => ⟨hb, other_setCells vs o w b fun e => hw.li t hl ((show b = g.ν t from e) ▸ hb)⟩
  acc := by
    intro q q' b off n c hF ha
    cases q with
    | imm =>
      simp only [Fkill, Option.some.injEq] at hF; subst hF
      have hsame := other_setCells vs o w b fun e => hw.li t hl ((show b = g.ν t from e) ▸ (show g.I b from ha))
      exact ⟨ha, fun k _ _ => cell_of_heap hsame⟩
    | own u =>
      simp only [Fkill] at hF
      split at hF
      · cases hF
      · rename_i hne
        cases hF
        have hne' : b ≠ g.ν t := by
          rcases ha with ⟨a1, a2, _⟩ | ⟨h, _⟩
          · exact fun e => hne (hw.linj u t a1 hl (a2.symm.trans e))
          · exact fun e => hw.li t hl (e ▸ h)
        have hsame := other_setCells vs o w b hne'
        refine ⟨?_, fun k _ _ => cell_of_heap hsame⟩
        rcases ha with ⟨a1, a2, a3, a4⟩ | h
        · refine .inl ⟨a1, a2, ?_, a4.same hsame⟩
          show _ = (if u = t then _ else _); rw [if_neg hne]; exact a3
        · exact .inr h
    | vw u =>
      simp only [Fkill, Option.some.injEq] at hF
      subst hF
      rcases ha with h | ⟨a1, a2, a3⟩
      · have hsame := other_setCells vs o w b fun e => hw.li t hl ((show b = g.ν t from e) ▸ h)
        exact ⟨.inl h, fun k _ _ => cell_of_heap hsame⟩
      · by_cases e : u = t
        · subst e
          subst a2
          refine ⟨.inr ⟨a1, rfl, ?_⟩, fun k h1 h2 => World.cell?_setCells_out _ _ _ _ _ fun _ _ => .inl (by show k < o; omega)⟩
          show _ ≤ (if u = u then _ else _); rw [if_pos rfl]; omega
        · have hsame := other_setCells vs o w b fun e' => e (hw.linj u t a1 hl (a2.symm.trans e'))
          refine ⟨.inr ⟨a1, a2, ?_⟩, fun k _ _ => cell_of_heap hsame⟩
          show _ ≤ (if u = t then _ else _); rw [if_neg e]; exact a3
  ptr := fun i j h => by cases h; rfl

theorem WF.far {g : G} {w w' : World} (h : WF g w) (hs : w'.heap.size = w.heap.size) (t : Tk) (f : Nat) : WF (g.far t f) w' :=
  ⟨fun i hi => hs ▸ h.dlt i hi, fun u hu => hs ▸ h.llt u hu, fun b hb => hs ▸ h.ilt b hb, h.dinj, h.linj, h.dl, h.di, h.li⟩

theorem Ext.far {g : G} {w : World} {t : Tk} (hl : g.L t) (o : Nat) (vs : List Value) (f : Nat) : Ext g w (g.far t f) (w.setCells (g.ν t) o vs) :=
  ⟨World.os_setCells _ _ _ _, tape_setCells _ _ _ _, World.output_setCells _ _ _ _, by rw [size_setCells]; exact Nat.le_refl _,
    fun b _ hbo => other_setCells vs o w b fun e => hbo (.inr ⟨t, hl, e.symm⟩), fun b hb => .inl hb, fun b hb => .inl hb, fun _ _ => ⟨rfl, fun h => h⟩⟩

theorem Turns.same (g : G) (w : World) (t : Tk) : Turns g w g w (Fkill t) some where
  lax := lax_kill t
  imm := fun _ h => ⟨h, rfl⟩
  acc := by
    intro q q' b off n c hF ha
    refine ⟨?_, fun _ _ _ => rfl⟩
    cases q with
    | imm => simp only [Fkill, Option.some.injEq] at hF; subst hF; exact ha
    | own u => simp only [Fkill] at hF; split at hF <;> cases hF; exact ha
    | vw u => simp only [Fkill, Option.some.injEq] at hF; subst hF; exact ha
  ptr := fun i j h => by cases h; rfl

theorem run_append_nil_none {P : Program} {w : World} {T tx ty e : TypeId} {i : TypeInfo} (ht : P.underlying T = some (.slice e)) (hi : P.info? e = some i) {v : Value} {news : List Value} (hs : Src P i.size tx v 0 news w) :
    (Builtin.append_ #[T, tx] ty #[.slice none 0 0, v]).run P w = .ok (.slice none 0 0) w := by
  rcases hs.kind with ⟨e', hk⟩ | hk <;> simp [Builtin.append_, run_underlying ht, run_underlying hk, sizeOf, typeInfo, hi, hs.len, hs.cells]

theorem append_run {P : Program} {T tx ty e : TypeId} {i : TypeInfo} {z : Value} (ht : P.underlying T = some (.slice e)) (hi : P.info? e = some i) (hz : i.zero = some z) (hzs : z.cells.size = i.size) (hs0 : 0 < i.size)
    {g : G} {st : St} {a : Act} {w : World} (hsim : Sim g st a w) (hw : WF g w) {t : Tk} {nl : Bool} {xs ys : List PV} {u v : Value} (hx : Rep g w (.sl (.own t) nl i.size xs) u) {V : Nat → Nat → Value}
    (hsrc : PSrc P g w i.size tx v ys V) (hbd : (xs.length + ys.length) * i.bytes ≤ 140737488355328) (hml : xs.length + ys.length ≤ maxLen) :
    ∃ r w' g', (Builtin.append_ #[T, tx] ty #[u, v]).run P w = .ok r w' ∧ Sim g' (st.scrub (Fkill t) some) a w' ∧ WF g' w' ∧ Ext g w g' w' ∧ Rep g' w' (.sl (.own t) (nl && ys.isEmpty) i.size (xs ++ ys)) r := by
  have hml' : xs.length + ys.length ≤ 9223372036854775807 := by simp only [maxLen] at hml; omega
  -- it grows
  have grows : ∀ (base : Option Addr) (c : Nat) (U : Nat → Nat → Value), u = .slice base xs.length c → c < xs.length + ys.length →
      (∀ (j : Nat) (x : PV), xs[j]? = some x → ∀ (k : Nat) (y : PV), x.comps[k]? = some y → Rep g w y (U j k)) → (∀ x, x ∈ xs → Data x) → (∀ x, x ∈ xs → x.comps.length = i.size) →
      (Builtin.firstCells i.size xs.length (.slice base xs.length c)).run P w.drew = .ok (rowVals U i.size xs.length).toArray w.drew → (nl && ys.isEmpty) = false →
      ∃ r w' g', (Builtin.append_ #[T, tx] ty #[u, v]).run P w = .ok r w' ∧ Sim g' (st.scrub (Fkill t) some) a w' ∧ WF g' w' ∧ Ext g w g' w' ∧ Rep g' w' (.sl (.own t) (nl && ys.isEmpty) i.size (xs ++ ys)) r := by
    intro base c U hu hc hrep hd hs hfirst hnl
    have hrun := run_append_grow_src (P := P) w T tx ty e i z ht hi hz base xs.length c (rowVals U i.size xs.length) hfirst v ys.length _ hsrc.src hc (by omega) (growslice_fits hc hbd)
    have hge := grownCap_ge w (xs.length + ys.length) c e
    have hle := grownCap_le_maxLen w (xs.length + ys.length) c e hml
    have hzl : (Builtin.zeroCells z.cells (grownCap w (xs.length + ys.length) c e - (xs.length + ys.length))).toList.length = (grownCap w (xs.length + ys.length) c e - (xs.length + ys.length)) * i.size := by
      rw [Array.length_toList, size_zeroCells, hzs]
    have hm : Made w (w.drew.alloc (.cells ((rowVals U i.size xs.length ++ rowVals V i.size ys.length).toArray ++ Builtin.zeroCells z.cells (grownCap w (xs.length + ys.length) c e - (xs.length + ys.length))) e))
        (.cells ((rowVals U i.size xs.length ++ rowVals V i.size ys.length).toArray ++ (Builtin.zeroCells z.cells (grownCap w (xs.length + ys.length) c e - (xs.length + ys.length))).toList.toArray) e (0, 0)) := by
      rw [Array.toArray_toList]; exact Made.drew _ _
    refine ⟨_, _, g.grow t w.heap.size ((xs.length + ys.length) * i.size), by rw [hu]; exact hrun, hsim.kill (Turns.grow hw hm t _) (fun k hk => ⟨hk, hm.old _ (hw.dlt k hk)⟩), hw.grow hm t _, Ext.grow hm t _, ?_⟩
    rw [hnl]
    exact grow_rep hw hm hrep hsrc.rep (fun x hx => (List.mem_append.1 hx).elim (hd x) (hsrc.data x)) (fun x hx => (List.mem_append.1 hx).elim (hs x) (hsrc.width x)) t hge hle hzl
  generalize hX : PV.sl (.own t) nl i.size xs = X at hx
  cases hx with
  | lit => cases hX
  | dead => cases hX
  | ptr => cases hX
  | cur => cases hX
  | agg => cases hX
  | tup => cases hX
  | fn => cases hX
  | mp => cases hX
  | nils o s =>
    cases hX
    cases ys with
    | nil => exact ⟨_, w, g, run_append_nil_none ht hi hsrc.src, hsim.kill (Turns.same g w t) (fun k hk => ⟨hk, rfl⟩), hw, Ext.refl g w, .nils _ _⟩
    | cons y ys =>
      exact grows none 0 (fun _ _ => .nilFunc) rfl (by simp) (fun _ _ h => by simp at h) (fun _ h => by simp at h) (fun _ h => by simp at h) (by simpa [rowVals] using run_firstCells_none w.drew i.size 0 0 0) (by simp)
  | sle o s a hlx =>
    cases hX
    cases ys with
    | nil =>
      have hnil : rowVals V i.size ([] : List PV).length = [] := by simp [rowVals]
      have hsr := hsrc.src
      rw [hnil] at hsr
      have hrun := run_append_keep w T tx ty e i ht hi a v hsr
      exact ⟨_, w, g, hrun, hsim.kill (Turns.same g w t) (fun k hk => ⟨hk, rfl⟩), hw, Ext.refl g w, .sle _ _ a hlx⟩
    | cons y ys =>
      exact grows (some a) 0 (fun _ _ => .nilFunc) rfl (by simp) (fun _ _ h => by simp at h) (fun _ h => by simp at h) (fun _ h => by simp at h)
        (by simpa [rowVals] using run_firstCells_some (P := P) w.drew i.size 0 a 0 0 [] (by simp) (fun j u h => by simp at h)) (by simp)
  | sl o s xs' b off c U hc hm hacc hd hs hcell hrep =>
    cases hX
    have hfirst : (Builtin.firstCells i.size xs.length (.slice (some ⟨b, off, none⟩) xs.length c)).run P w.drew = .ok (rowVals U i.size xs.length).toArray w.drew :=
      run_firstCells_some w.drew i.size xs.length ⟨b, off, none⟩ xs.length c _ (rowVals_length _ _ _) (row_cells (w := w.drew) hcell)
    by_cases hroom : xs.length + ys.length ≤ c
    · rcases hacc with ⟨hl, rfl, hfr, cs, T', fz, hb, hcs, hfz⟩ | ⟨hI, hcn⟩
      · have hin : ∀ j, j < (rowVals V i.size ys.length).length → off + xs.length * i.size + j < cs.size := by
          intro j hj
          rw [rowVals_length] at hj
          have : (xs.length + ys.length) * i.size ≤ c * i.size := Nat.mul_le_mul_right _ hroom
          rw [Nat.add_mul] at this
          omega
        have hthere : ∀ j, j < (rowVals V i.size ys.length).length → (w.cell? ⟨g.ν t, off + xs.length * i.size + j, none⟩).isSome = true := fun j hj => by
          rw [cell_row hb]; simp [hin j hj]
        have hrun := run_append_room_src (P := P) w T tx ty e i ht hi (g.ν t) off xs.length c v ys.length _ hsrc.src hroom hthere (fun j hj => by
          have hlt := hin j hj
          have : ¬ (fz.1 ≤ off + xs.length * i.size + j ∧ off + xs.length * i.size + j < fz.2) := by rcases hfz with h | h <;> omega
          simpa [World.frozen?, hb] using this)
        have htu := Turns.far hw hl (o := off + xs.length * i.size) (vs := rowVals V i.size ys.length) (by omega) (f := off + (xs.length + ys.length) * i.size) (by rw [← hfr, Nat.add_mul]; omega)
        refine ⟨_, _, _, hrun, hsim.kill htu (fun k hk => ⟨hk, other_setCells _ _ _ _ (hw.dl k t hk hl)⟩), hw.far (size_setCells _ _ _ _) t _, Ext.far hl _ _ _, ?_⟩
        obtain ⟨cs', hb', hcs'⟩ := heap_setCells (rowVals V i.size ys.length) (off + xs.length * i.size) w cs hb
        have hlen : (xs ++ ys).length = xs.length + ys.length := by simp
        have := Rep.sl (g := g.far t (off + (xs.length + ys.length) * i.size)) (w := w.setCells (g.ν t) (off + xs.length * i.size) (rowVals V i.size ys.length)) (.own t) i.size (xs ++ ys) (g.ν t) off c
          (fun j i => if j < xs.length then U j i else V (j - xs.length) i) (by omega) hm
          (.inl ⟨hl, rfl, by show _ = (if t = t then _ else _); rw [if_pos rfl, hlen], cs', T', fz, hb', by rw [hcs']; exact hcs, by rw [hcs']; exact hfz⟩)
          (fun x hx => (List.mem_append.1 hx).elim (hd x) (hsrc.data x)) (fun x hx => (List.mem_append.1 hx).elim (hs x) (hsrc.width x))
          (fun j x hx k hk => by
            by_cases hj : j < xs.length
            · rw [if_pos hj]
              have hb2 : j * i.size + i.size ≤ xs.length * i.size := by rw [← Nat.succ_mul]; exact Nat.mul_le_mul_right _ hj
              rw [World.cell?_setCells_out _ _ _ _ _ fun _ _ => .inl (by show off + j * i.size + k < _; omega)]
              exact hcell j _ (List.getElem?_eq_getElem hj) k hk
            · rw [if_neg hj]
              have hj2 : j < xs.length + ys.length := by have := (List.getElem?_eq_some_iff.1 hx).1; omega
              have hv := rowVals_at V (s := i.size) (n := ys.length) (j := j - xs.length) (i := k) (by omega) hk
              have hlt := (List.getElem?_eq_some_iff.1 hv).1
              have hin2 := World.cell?_setCells_in (g.ν t) (rowVals V i.size ys.length) (off + xs.length * i.size) w hthere ((j - xs.length) * i.size + k) hlt
              have e1 : off + j * i.size + k = off + xs.length * i.size + ((j - xs.length) * i.size + k) := by
                have : xs.length * i.size + (j - xs.length) * i.size = j * i.size := by rw [← Nat.add_mul]; congr 1; omega
                omega
              rw [e1, hin2]
              exact (List.getElem?_eq_getElem hlt).symm.trans hv)
          (fun j x hx k y hy => Rep.data (g' := g.far t (off + (xs.length + ys.length) * i.size)) (fun b' hb' => htu.imm b' hb') (row_both hrep hsrc.rep j x hx k y hy)
            (((List.mem_append.1 (mem_of_get hx)).elim (hd x) (hsrc.data x)).comp hy))
        rw [Bool.false_and]
        rwa [hlen] at this
      · have hcx : c = xs.length := Nat.eq_of_mul_eq_mul_right hs0 hcn.1
        have hy0 : ys = [] := List.eq_nil_of_length_eq_zero (by omega)
        subst hy0
        have hnil : rowVals V i.size ([] : List PV).length = [] := by simp [rowVals]
        have hsr := hsrc.src
        rw [hnil] at hsr
        have hrun := run_append_room_src (P := P) w T tx ty e i ht hi b off xs.length c v 0 [] hsr (by omega) (fun j hj => by simp at hj) (fun j hj => by simp at hj)
        refine ⟨_, w, g, hrun, hsim.kill (Turns.same g w t) (fun k hk => ⟨hk, rfl⟩), hw, Ext.refl g w, ?_⟩
        rw [List.append_nil, Bool.false_and]
        exact .sl _ _ xs b off c U hc hm (.inr ⟨hI, hcn⟩) hd hs hcell hrep
    · exact grows (some ⟨b, off, none⟩) c U rfl (by omega) hrep hd hs hfirst (by simp)
end Go.Sy
