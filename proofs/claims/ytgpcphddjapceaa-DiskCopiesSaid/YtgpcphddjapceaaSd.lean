/- Rows of the run's own; stores. -/
import Derived.Test.YtgpcphddjapceaaSc
namespace Go.Sy

def elemOf (P : Program) (t : TypeId) : Option TypeId :=
  match P.underlying t with
  | some (.slice e) => some e
  | _ => none

theorem elemOf_und {P : Program} {t e : TypeId} (h : elemOf P t = some e) : P.underlying t = some (.slice e) := by
  unfold elemOf at h
  split at h
  · cases h; assumption
  · cases h

/-- The elements of a row, out of its cells. -/
def elemsOf (P : Program) (e : TypeId) (n : Nat) (X : List PV) : Option (List PV) :=
  match aggT P e with
  | some true => some (chunks (szOf P e) n X)
  | some false => if szOf P e = 1 ∧ (X.all fun x => !x.isAgg) = true then some X else none
  | none => none

def reps (n : Nat) (zs : List PV) : List PV := (List.replicate n zs).flatten

/-- Are all elements data, each as wide as they should be? -/
def wideB (s : Nat) (x : PV) : Bool := decide (x.comps.length = s)

def buildRow (P : Program) (t : TypeId) (n : Nat) (parts : List (Nat × PV)) : Option (Nat × List PV) :=
  match elemOf P t with
  | some e => match zerosOf P e with
    | some zs => if szOf P e ≠ 0 ∧ zs.length = szOf P e ∧ n * szOf P e ≤ 16777216 then
        match fillPV (fun i => some (i * szOf P e, szOf P e)) (reps n zs) parts with
        | some X => match elemsOf P e n X with
          | some xs => if xs.length = n ∧ xs.all (wideB (szOf P e)) then some (szOf P e, xs) else none
          | none => none
        | none => none
      else none
    | none => none
  | none => none

/-- The own rows that are named. -/
def PV.toks : PV → List Tk
  | .sl (.own t) _ _ _ => [t]
  | .sl (.vw t) _ _ _ => [t]
  | .agg xs => toksL xs
  | _ => []
where toksL : List PV → List Tk
  | [] => []
  | .sl (.own t) _ _ _ :: xs => t :: toksL xs
  | .sl (.vw t) _ _ _ :: xs => t :: toksL xs
  | _ :: xs => toksL xs

def fzOf (ts : List Tk) (t : Tk) : Bool := ts.contains t

def St.fz (st : St) (ts : List Tk) : St := if ts.isEmpty then st else st.scrub (Ffz (fzOf ts)) some
def PV.fz (x : PV) (ts : List Tk) : PV := if ts.isEmpty then x else x.scrub (Ffz (fzOf ts)) some

section
variable {P : Program} {g : G} {st : St} {a : Act} {w : World}

theorem chunks_get (s : Nat) : ∀ (n : Nat) (X : List PV) (j : Nat), j < n → (chunks s n X)[j]? = some (.agg ((X.drop (j * s)).take s)) := by
  intro n
  induction n with
  | zero => intro X j h; omega
  | succ n ih =>
    intro X j h
    cases j with
    | zero => simp [chunks]
    | succ j =>
      simp only [chunks, List.getElem?_cons_succ]
      rw [ih (X.drop s) j (by omega), List.drop_drop, Nat.succ_mul, Nat.add_comm]

theorem chunks_length (s : Nat) : ∀ (n : Nat) (X : List PV), (chunks s n X).length = n := by
  intro n
  induction n with
  | zero => exact fun _ => rfl
  | succ n ih => exact fun X => by simp [chunks, ih]

/-- Elements out of cells: the j-th's i-th part is the cell there. -/
theorem elemsOf_get {e : TypeId} {n : Nat} {X xs : List PV} (h : elemsOf P e n X = some xs) (hl : xs.length = n) (hs : ∀ x, x ∈ xs → x.comps.length = szOf P e) {j : Nat} {x : PV} (hx : xs[j]? = some x) {i : Nat} {y : PV} (hy : x.comps[i]? = some y) :
    X[j * szOf P e + i]? = some y := by
  have hj : j < n := hl ▸ (List.getElem?_eq_some_iff.1 hx).1
  unfold elemsOf at h
  split at h
  · cases h
    rw [chunks_get _ _ _ _ hj] at hx
    cases hx
    simp only [PV.comps] at hy
    have hi : i < szOf P e := by
      have := (List.getElem?_eq_some_iff.1 hy).1
      simp at this; omega
    rw [List.getElem?_take_of_lt hi, List.getElem?_drop] at hy
    exact hy
  · split at h
    · rename_i h1
      obtain ⟨h1, h1'⟩ := h1
      cases h
      have hw := hs x (mem_of_get hx)
      rw [h1] at hw ⊢
      have hi : i = 0 := by have := (List.getElem?_eq_some_iff.1 hy).1; omega
      subst hi
      rw [Nat.mul_one, Nat.add_zero, hx]
      cases x with
      | agg ys =>
        have := List.all_eq_true.1 h1' _ (mem_of_get hx)
        simp [PV.isAgg] at this
      | _ => simpa [PV.comps] using hy
    · cases h
  · cases h

theorem reps_get {s : Nat} {zs : List PV} (hz : zs.length = s) : ∀ (n k : Nat), k < n * s → (reps n zs)[k]? = zs[k % s]? := by
  intro n
  induction n with
  | zero => intro k h; omega
  | succ n ih =>
    intro k h
    have hs : 0 < s := by rcases Nat.eq_zero_or_pos s with e | e; · subst e; omega
                          · exact e
    have e : reps (n + 1) zs = zs ++ reps n zs := by simp [reps, List.replicate_succ]
    rw [e]
    by_cases hk : k < s
    · rw [List.getElem?_append_left (by omega), Nat.mod_eq_of_lt hk]
    · rw [List.getElem?_append_right (by omega), hz, ih (k - s) (by rw [Nat.succ_mul] at h; omega)]
      congr 1
      rw [Nat.mod_eq_sub_mod (by omega : k ≥ s)]

theorem reps_length (n : Nat) (zs : List PV) : (reps n zs).length = n * zs.length := by simp [reps, List.length_flatten, List.map_replicate, List.sum_replicate_nat]

theorem reps_repC {zs : List PV} {z : Value} (h : RepC g w zs z.cells) (n : Nat) : RepC g w (reps n zs) ((Array.range (n * zs.length)).map fun i => (if n * zs.length = 0 then #[] else z.cells)[i % (if n * zs.length = 0 then (#[] : Array Value) else z.cells).size]!) := by
  refine ⟨by simp [reps_length], fun i x u hx hu => ?_⟩
  have hi : i < n * zs.length := by rw [← reps_length]; exact (List.getElem?_eq_some_iff.1 hx).1
  have hne : n * zs.length ≠ 0 := by omega
  have hs : 0 < zs.length := Nat.pos_of_ne_zero fun e => by rw [e] at hne; simp at hne
  rw [reps_get rfl n i hi] at hx
  have hm : i % zs.length < z.cells.size := by rw [h.1]; exact Nat.mod_lt _ hs
  rw [Array.getElem?_map, Array.getElem?_range] at hu
  simp only [hi, if_true, Option.map_some, Option.some.injEq, hne, if_false, h.1] at hu
  refine h.2 _ x u hx ?_
  rw [← hu, Array.getElem?_eq_getElem hm, getElem!_pos z.cells _ hm]

theorem row_of_cells (h : Sim g st a w) (hw : WF g w) {e : TypeId} {n : Nat} {X xs : List PV} {C : Array Value} (hX : RepC g w X C) (he : elemsOf P e n X = some xs) (hl : xs.length = n) (hs : ∀ x, x ∈ xs → x.comps.length = szOf P e) (hd : ∀ x, x ∈ xs → Data x)
    (hC : n * szOf P e ≤ C.size) (hml : n ≤ maxLen) (T : TypeId) (d : Nat) (hd1 : d < 100000) :
    ∃ g', Sim g' (st.off d) a (w.alloc (.cells C T)) ∧ WF g' (w.alloc (.cells C T)) ∧ Ext g w g' (w.alloc (.cells C T)) ∧ Rep g' (w.alloc (.cells C T)) (.sl (.own (.loc d)) false (szOf P e) xs) (.slice (some ⟨w.heap.size, 0, none⟩) n n) := by
  have hcell : ∀ (j : Nat) (x : PV), xs[j]? = some x → ∀ i, i < szOf P e → C[j * szOf P e + i]? = some (C[j * szOf P e + i]?.getD undef) := by
    intro j x hx i hi
    have hj : j < n := hl ▸ (List.getElem?_eq_some_iff.1 hx).1
    have : j * szOf P e + szOf P e ≤ n * szOf P e := by rw [← Nat.succ_mul]; exact Nat.mul_le_mul_right _ hj
    rw [Array.getElem?_eq_getElem (by omega)]; rfl
  have := h.newRow hw (Made.alloc w (.cells C T (0, 0))) (.inl rfl) (U := fun j i => C[j * szOf P e + i]?.getD undef) hd hs (c := n) (by omega) hml hC hcell (fun j x hx i y hy => by
    have h1 := elemsOf_get he hl hs hx hy
    have hi : i < szOf P e := by rw [← hs x (mem_of_get hx)]; exact (List.getElem?_eq_some_iff.1 hy).1
    exact hX.2 _ y _ h1 (hcell j x hx i hi)) d hd1
  rwa [hl] at this

theorem buildRow_run (h : Sim g st a w) (hw : WF g w) {t : TypeId} {n s : Nat} {ps : List (Nat × PV)} {xs : List PV} (hb : buildRow P t n ps = some (s, xs)) (hd : ∀ x, x ∈ xs → Data x) {vs : Array (Nat × Value)} (hl : vs.size = ps.length)
    (hr : ∀ (i : Nat) (p : Nat × PV) (v : Nat × Value), ps[i]? = some p → vs[i]? = some v → p.1 = v.1 ∧ Rep g w p.2 v.2) (d : Nat) (hd1 : d < 100000) :
    ∃ v w' g', (Instr.buildSlice t n vs).run P w = .ok v w' ∧ Sim g' (st.off d) a w' ∧ WF g' w' ∧ Ext g w g' w' ∧ Rep g' w' (.sl (.own (.loc d)) false s xs) v := by
  unfold buildRow at hb
  cases he : elemOf P t with
  | none => rw [he] at hb; simp at hb
  | some e =>
  rw [he] at hb
  simp only at hb
  cases hz : zerosOf P e with
  | none => rw [hz] at hb; simp at hb
  | some zs =>
  rw [hz] at hb
  simp only at hb
  split at hb
  · rename_i hc
    obtain ⟨c1, c2, c3⟩ := hc
    cases hf : fillPV (fun i => some (i * szOf P e, szOf P e)) (reps n zs) ps with
    | none => rw [hf] at hb; simp at hb
    | some X =>
    rw [hf] at hb
    simp only at hb
    cases hx : elemsOf P e n X with
    | none => rw [hx] at hb; simp at hb
    | some ys =>
    rw [hx] at hb
    simp only at hb
    split at hb
    · rename_i hc2
      obtain ⟨d1, d2⟩ := hc2
      simp only [Option.some.injEq, Prod.mk.injEq] at hb
      obtain ⟨rfl, rfl⟩ := hb
      have hu := elemOf_und he
      obtain ⟨z, hz1, hz2, i, hi, hiz⟩ := zeros_run hz g w
      have hbase := reps_repC hz2 n
      rw [c2] at hbase
      obtain ⟨C, hC1, hC2⟩ := fillPV_run ps vs.toList _ X _ hf hbase (by simpa using hl) (fun i p v h1 h2 => hr i p v h1 (by rw [← Array.getElem?_toList]; exact h2))
      have hs : ∀ x, x ∈ ys → x.comps.length = szOf P e := fun x hx => by simpa [wideB] using List.all_eq_true.1 d2 x hx
      have hlenX : X.length = n * szOf P e := by
        have : ∀ (ps : List (Nat × PV)) (X X' : List PV), fillPV (fun i => some (i * szOf P e, szOf P e)) X ps = some X' → X'.length = X.length := by
          intro ps
          induction ps with
          | nil => intro X X' h; simp only [fillPV, Option.some.injEq] at h; rw [h]
          | cons p ps ih =>
            intro X X' h
            obtain ⟨k, x⟩ := p
            simp only [fillPV] at h
            split at h
            · rename_i h3
              rw [ih _ _ h, writeAt_length (by omega)]
            · cases h
        rw [this ps _ X hf, reps_length, c2]
      have hCs : n * szOf P e ≤ C.size := by rw [hC2.1, hlenX]; exact Nat.le_refl _
      have hnm : n ≤ maxLen := by
        have : n ≤ n * szOf P e := Nat.le_mul_of_pos_right n (Nat.pos_of_ne_zero c1)
        unfold maxLen; omega
      obtain ⟨g', h1, h2, h3, h4⟩ := row_of_cells h hw hC2 hx d1 hs hd hCs hnm e d hd1
      refine ⟨_, _, g', ?_, h1, h2, h3, h4⟩
      have hng : ¬ (n * szOf P e > 16777216) := by omega
      by_cases hn0 : n * szOf P e = 0
      · have er : Array.range 0 = #[] := rfl
        simp only [hn0, if_true, er, Array.map_empty] at hC1
        simp [Instr.buildSlice, run_underlying hu, szOf_run' c1, hn0, er, hC1, newRow]
      · simp only [hn0, if_false] at hC1
        simp [Instr.buildSlice, run_underlying hu, szOf_run' c1, hn0, hng, hz1, hC1, newRow]
    · cases hb
  · cases hb

/-- '[]byte(s)'. -/
theorem strRow_run (h : Sim g st a w) (hw : WF g w) {src dst e : TypeId} {s : ByteArray} {u : TypeDesc} (hs : P.underlying src = some u) (hd : P.underlying dst = some (.slice e)) (he : P.underlying e = some (.int .u8)) (hml : s.size ≤ maxLen) (d : Nat) (hd1 : d < 100000) :
    ∃ v w' g', (convert src dst (.string s)).run P w = .ok v w' ∧ Sim g' (st.off d) a w' ∧ WF g' w' ∧ Ext g w g' w' ∧ Rep g' w' (.sl (.own (.loc d)) false 1 (s.data.toList.map fun b => .lit (.int .u8 b.toNat))) v := by
  have hrun := Lib.run_convert_string_bytes (P := P) w src dst e s hs hd he
  have hm : Made w (Lib.bytesWorld w e s) (.cells (Lib.bytesCells w e s) e ((Lib.bytesCells w e s).size, (Lib.bytesCells w e s).size + 1)) :=
    ⟨rfl, rfl, rfl, Lib.bytesWorld_size w e s, Lib.bytesWorld_at_old w e s, Lib.bytesWorld_at_new w e s⟩
  have hge : s.size ≤ grownCap w s.size 0 e := by have := grownCap_ge w s.size 0 e; omega
  have hcs : (Lib.bytesCells w e s).size = grownCap w s.size 0 e := by
    have : s.data.size = s.size := rfl
    simp [Lib.bytesCells, this]; omega
  have hlen : (s.data.toList.map fun b => PV.lit (.int .u8 b.toNat)).length = s.size := by simp
  have := h.newRow hw hm (.inr (Nat.le_refl _)) (xs := s.data.toList.map fun b => PV.lit (.int .u8 b.toNat)) (s := 1) (c := grownCap w s.size 0 e) (U := fun j _ => (s.data.toList[j]?.map fun b => Value.int .u8 b.toNat).getD undef)
    (fun x hx => by obtain ⟨b, _, rfl⟩ := List.mem_map.1 hx; exact .lit _ rfl) (fun x hx => by obtain ⟨b, _, rfl⟩ := List.mem_map.1 hx; rfl) (by omega) (grownCap_le_maxLen w s.size 0 e hml) (by omega)
    (fun j x hx i hi => by
      have hi0 : i = 0 := by omega
      subst hi0
      have hj : j < s.data.size := by have := (List.getElem?_eq_some_iff.1 hx).1; simpa using this
      simp only [Lib.bytesCells, Nat.mul_one, Nat.add_zero, Array.getElem?_append, Array.size_map, hj, if_true, Array.getElem_map, Array.getElem?_eq_getElem, Option.map_some, List.getElem?_eq_getElem, Array.getElem_toList, Array.length_toList, Option.getD_some])
    (fun j x hx i y hy => by
      rw [List.getElem?_map, Option.map_eq_some_iff] at hx
      obtain ⟨b, hb, rfl⟩ := hx
      match i, hy with
      | 0, hy =>
        simp only [PV.comps, List.getElem?_cons_zero, Option.some.injEq] at hy
        subst hy
        rw [hb]; exact .lit _) d hd1
  rw [hlen] at this
  obtain ⟨g', h1, h2, h3, h4⟩ := this
  exact ⟨_, _, g', hrun, h1, h2, h3, h4⟩

/-- 'make([]T, n, c)'. -/
def makeRow (P : Program) (t : TypeId) (n c : Int) : Option (Nat × List PV) :=
  match elemOf P t with
  | some e => match zerosOf P e, P.info? e with
    | some zs, some i => match elemsOf P e n.toNat (reps n.toNat zs) with
      | some xs => if szOf P e ≠ 0 ∧ zs.length = szOf P e ∧ 0 ≤ n ∧ n ≤ c ∧ c * i.bytes ≤ 140737488355328 ∧ c ≤ 9223372036854775807 ∧ xs.length = n.toNat ∧ xs.all (wideB (szOf P e)) then some (szOf P e, xs) else none
      | none => none
    | _, _ => none
  | none => none

end
end Go.Sy
