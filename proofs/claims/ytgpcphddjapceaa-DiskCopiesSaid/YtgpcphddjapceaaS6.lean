/- append onto a row of the run's own. -/
import Derived.Test.YtgpcphddjapceaaS5
import Derived.Deep.Upon
namespace Go.Sy

def Fkill (t : Tk) : Own → Option Own
  | .imm => some .imm
  | .own u => if u = t then none else some (.own u)
  | .vw u => some (.vw u)

theorem lax_kill (t : Tk) : ∀ o o' : Own, Fkill t o = some o' → o.lax = true → o'.lax = true := fun o o' h hl => by
  cases o with
  | imm => simp only [Fkill, Option.some.injEq] at h; subst h; rfl
  | own u => simp only [Fkill] at h; split at h <;> cases h; exact hl
  | vw u => simp only [Fkill, Option.some.injEq] at h; subst h; exact hl

def rowVals (U : Nat → Nat → Value) (s n : Nat) : List Value := (List.range (n * s)).map fun k => U (k / s) (k % s)

theorem rowVals_length (U : Nat → Nat → Value) (s n : Nat) : (rowVals U s n).length = n * s := by simp [rowVals]

theorem rowVals_at (U : Nat → Nat → Value) {s n j i : Nat} (hj : j < n) (hi : i < s) : (rowVals U s n)[j * s + i]? = some (U j i) := by
  have h1 : j * s + i < n * s := by
    have : j * s + s ≤ n * s := by rw [← Nat.succ_mul]; exact Nat.mul_le_mul_right s hj
    omega
  have h2 : (j * s + i) / s = j := by rw [Nat.mul_comm]; rw [Nat.mul_add_div (by omega), Nat.div_eq_of_lt hi]; rfl
  have h3 : (j * s + i) % s = i := by rw [Nat.mul_comm, Nat.mul_add_mod, Nat.mod_eq_of_lt hi]
  unfold rowVals
  rw [List.getElem?_map, List.getElem?_range h1]
  simp only [Option.map_some, h2, h3]

theorem rowVals_get (U : Nat → Nat → Value) {s n k : Nat} {u : Value} (h : (rowVals U s n)[k]? = some u) : k < n * s ∧ 0 < s ∧ k / s < n ∧ k % s < s ∧ u = U (k / s) (k % s) ∧ k = k / s * s + k % s := by
  have hk : k < n * s := by have := (List.getElem?_eq_some_iff.1 h).1; rwa [rowVals_length] at this
  have hs : 0 < s := by rcases Nat.eq_zero_or_pos s with e | e; · subst e; omega
                        · exact e
  unfold rowVals at h
  rw [List.getElem?_map, List.getElem?_range hk] at h
  exact ⟨hk, hs, Nat.div_lt_of_lt_mul (by rwa [Nat.mul_comm]), Nat.mod_lt _ hs, by simpa using h.symm, by have := Nat.div_add_mod k s; rw [Nat.mul_comm] at this; exact this.symm⟩

structure PSrc (P : Program) (g : G) (w : World) (s : Nat) (tx : TypeId) (v : Value) (ys : List PV) (V : Nat → Nat → Value) : Prop where
  src : Src P s tx v ys.length (rowVals V s ys.length) w
  rep : ∀ (j : Nat) (y : PV), ys[j]? = some y → ∀ (i : Nat) (z : PV), y.comps[i]? = some z → Rep g w z (V j i)
  data : ∀ y, y ∈ ys → Data y
  width : ∀ y, y ∈ ys → y.comps.length = s

theorem addr_add (b off k : Nat) : (⟨b, off, none⟩ : Addr).add k = ⟨b, off + k, none⟩ := by unfold Addr.add; split <;> simp_all

theorem row_cells {w : World} {xs : List PV} {s b off : Nat} {U : Nat → Nat → Value} (hcell : ∀ (j : Nat) (x : PV), xs[j]? = some x → ∀ i, i < s → w.cell? ⟨b, off + j * s + i, none⟩ = some (U j i)) :
    ∀ k u, (rowVals U s xs.length)[k]? = some u → w.cell? ((⟨b, off, none⟩ : Addr).add k) = some u := by
  intro k u hk
  obtain ⟨_, _, h3, h4, rfl, h6⟩ := rowVals_get U hk
  have h7 : off + k = off + k / s * s + k % s := by rw [Nat.add_assoc, ← h6]
  rw [addr_add, h7]
  exact hcell (k / s) _ (List.getElem?_eq_getElem h3) (k % s) h4

theorem row_one {g : G} {w : World} {xs : List PV} {s : Nat} {U : Nat → Nat → Value} (hd : ∀ x, x ∈ xs → Data x) (hs : ∀ x, x ∈ xs → x.comps.length = s)
    (hrep : ∀ (j : Nat) (x : PV), xs[j]? = some x → ∀ (i : Nat) (y : PV), x.comps[i]? = some y → Rep g w y (U j i)) : ∀ u ∈ rowVals U s xs.length, u.oneCell' = true := by
  intro u hu
  obtain ⟨k, hk⟩ := List.getElem?_of_mem hu
  obtain ⟨_, _, h3, h4, rfl, _⟩ := rowVals_get U hk
  have hx := List.getElem?_eq_getElem h3
  have hm := mem_of_get hx
  have hy := List.getElem?_eq_getElem (l := (xs[k / s]).comps) (i := k % s) (by rw [hs _ hm]; exact h4)
  exact (hrep _ _ hx _ _ hy).one ((hd _ hm).comp hy) ((hd _ hm).comp_flat hy)

theorem PSrc.of_sl {P : Program} {g : G} {w : World} {o : Own} {nl : Bool} {s : Nat} {ys : List PV} {v : Value} (h : Rep g w (.sl o nl s ys) v) {tx e' : TypeId} (ht : P.underlying tx = some (.slice e')) : ∃ V, PSrc P g w s tx v ys V := by
  cases h with
  | nils => exact ⟨fun _ _ => .nilFunc, ⟨by simpa [rowVals] using Src.ofNil (w := w) (size := s) ht 0, fun _ _ h => by simp at h, fun _ h => by simp at h, fun _ h => by simp at h⟩⟩
  | sle o s a hl => exact ⟨fun _ _ => .nilFunc, ⟨by
      have := Src.ofSlice (P := P) (w := w) (size := s) ht a 0 0 [] (by simp) (fun j u h => by simp at h) (fun u h => by simp at h)
      simpa [rowVals] using this, fun _ _ h => by simp at h, fun _ h => by simp at h, fun _ h => by simp at h⟩⟩
  | sl _ _ _ b off c U hc hm hacc hd hs hcell hrep =>
    exact ⟨U, ⟨Src.ofSlice (w := w) ht ⟨b, off, none⟩ ys.length c _ (rowVals_length _ _ _) (row_cells hcell) (row_one hd hs hrep), hrep, hd, hs⟩⟩

theorem PSrc.of_str {P : Program} (g : G) (w : World) (s : ByteArray) {tx : TypeId} (ht : P.underlying tx = some .string) :
    ∃ V, PSrc P g w 1 tx (.string s) (s.data.toList.map fun b => .lit (.int .u8 b.toNat)) V := by
  refine ⟨fun j _ => (byteCells s)[j]?.getD .nilFunc, ⟨?_, fun j y hy i z hz => ?_, fun y hy => ?_, fun y hy => ?_⟩⟩
  · have e : rowVals (fun j _ => (byteCells s)[j]?.getD .nilFunc) 1 (s.data.toList.map fun b => PV.lit (.int .u8 b.toNat)).length = byteCells s := by
      apply List.ext_getElem?
      intro k
      by_cases hk : k < s.data.toList.length
      · have := rowVals_at (fun j _ => (byteCells s)[j]?.getD .nilFunc) (s := 1) (n := (s.data.toList.map fun b => PV.lit (.int .u8 b.toNat)).length) (j := k) (i := 0) (by simpa using hk) (by omega)
        simp only [Nat.mul_one, Nat.add_zero] at this
        rw [this]
        have h2 : k < (byteCells s).length := by simpa [byteCells] using hk
        rw [List.getElem?_eq_getElem h2]; rfl
      · rw [List.getElem?_eq_none (by rw [rowVals_length]; simpa using hk), List.getElem?_eq_none (by simpa [byteCells] using hk)]
    have := Src.ofString (P := P) (w := w) ht s
    rw [e]
    have e2 : (s.data.toList.map fun b => PV.lit (.int .u8 b.toNat)).length = s.size := by simp
    rw [e2]; exact this
  · rw [List.getElem?_map, Option.map_eq_some_iff] at hy
    obtain ⟨b, hb, rfl⟩ := hy
    match i, hz with
    | 0, hz =>
      simp only [PV.comps, List.getElem?_cons_zero, Option.some.injEq] at hz
      subst hz
      have : (byteCells s)[j]? = some (.int .u8 b.toNat) := by simp only [byteCells, List.getElem?_map, hb, Option.map_some]
      simp only [this, Option.getD_some]; exact .lit _
  · obtain ⟨b, _, rfl⟩ := List.mem_map.1 hy; exact .lit _ rfl
  · obtain ⟨b, _, rfl⟩ := List.mem_map.1 hy; rfl

/-! ### It grows: a new row. -/
def G.grow (g : G) (t : Tk) (b f : Nat) : G :=
  { g with ν := fun u => if u = t then b else g.ν u, fr := fun u => if u = t then f else g.fr u, L := fun u => g.L u ∨ u = t, I := fun b' => g.I b' ∨ (g.L t ∧ g.ν t = b') }

section
variable {g : G} {w w' : World} {o : Obj}

theorem Turns.grow (hw : WF g w) (hm : Made w w' o) (t : Tk) (f : Nat) : Turns g w (g.grow t w.heap.size f) w' (Fkill t) some where
  lax := lax_kill t
  imm := fun b hb => ⟨.inl hb, hm.old _ (hw.ilt b hb)⟩
  acc := by
    intro q q' b off n c hF ha
    have hb := ha.lt hw
    have hsame := hm.old _ hb
    refine ⟨?_, fun k _ _ => cell_of_heap hsame⟩
    cases q with
    | imm => simp only [Fkill, Option.some.injEq] at hF; subst hF; exact .inl ha
    | own u =>
      simp only [Fkill] at hF
      split at hF
      · cases hF
      · rename_i hne
        cases hF
        rcases ha with ⟨a1, a2, a3, a4⟩ | ⟨h, h'⟩
        · refine .inl ⟨.inl a1, ?_, ?_, a4.same hsame⟩
          · show _ = (if u = t then _ else _); rw [if_neg hne]; exact a2
          · show _ = (if u = t then _ else _); rw [if_neg hne]; exact a3
        · exact .inr ⟨.inl h, h'⟩
    | vw u =>
      simp only [Fkill, Option.some.injEq] at hF
      subst hF
      rcases ha with h | ⟨a1, a2, a3⟩
      · exact .inl (.inl h)
      · by_cases e : u = t
        · subst e; exact .inl (.inr ⟨a1, a2.symm⟩)
        · refine .inr ⟨.inl a1, ?_, ?_⟩
          · show _ = (if u = t then _ else _); rw [if_neg e]; exact a2
          · show _ ≤ (if u = t then _ else _); rw [if_neg e]; exact a3
  ptr := fun i j h => by cases h; rfl

theorem WF.grow (h : WF g w) (hm : Made w w' o) (t : Tk) (f : Nat) : WF (g.grow t w.heap.size f) w' := by
  have hs := hm.size
  have hν : ∀ u, u ≠ t → (g.grow t w.heap.size f).ν u = g.ν u := fun u hu => by
    show (if u = t then _ else _) = _; rw [if_neg hu]
  have hνt : (g.grow t w.heap.size f).ν t = w.heap.size := by show (if t = t then _ else _) = _; rw [if_pos rfl]
  have hL : ∀ u, (g.grow t w.heap.size f).L u → u = t ∨ (u ≠ t ∧ g.L u) := fun u hu => by
    by_cases e : u = t
    · exact .inl e
    · exact .inr ⟨e, hu.resolve_right e⟩
  refine ⟨fun i hi => by rw [hs]; exact Nat.lt_succ_of_lt (h.dlt i hi), fun u hu => ?_, ?_, h.dinj, fun u v hu hv he => ?_, fun i u hi hu => ?_, ?_, fun u hu => ?_⟩
  · rcases hL u hu with rfl | ⟨hne, hl⟩
    · rw [hνt, hs]; exact Nat.lt_succ_self _
    · rw [hν u hne, hs]; exact Nat.lt_succ_of_lt (h.llt u hl)
  · rintro b (hb | ⟨hl, rfl⟩)
    · rw [hs]; exact Nat.lt_succ_of_lt (h.ilt b hb)
    · rw [hs]; exact Nat.lt_succ_of_lt (h.llt t hl)
  · rcases hL u hu with rfl | ⟨hne, hl⟩ <;> rcases hL v hv with rfl | ⟨hne', hl'⟩
    · rfl
    · rw [hνt, hν v hne'] at he; have := h.llt v hl'; omega
    · rw [hνt, hν u hne] at he; have := h.llt u hl; omega
    · rw [hν u hne, hν v hne'] at he; exact h.linj u v hl hl' he
  · rcases hL u hu with rfl | ⟨hne, hl⟩
    · rw [hνt]; have := h.dlt i hi; show g.μ i ≠ _; omega
    · rw [hν u hne]; exact h.dl i u hi hl
  · rintro i hi (hb | ⟨hl, he⟩)
    · exact h.di i hi hb
    · exact h.dl i t hi hl he.symm
  · rcases hL u hu with rfl | ⟨hne, hl⟩
    · rw [hνt]
      rintro (hb | ⟨hl, he⟩)
      · have := h.ilt _ hb; omega
      · have := h.llt u hl; omega
    · rw [hν u hne]
      rintro (hb | ⟨hl', he⟩)
      · exact h.li u hl hb
      · exact hne (h.linj t u hl' hl he).symm

theorem Ext.grow (hm : Made w w' o) (t : Tk) (f : Nat) : Ext g w (g.grow t w.heap.size f) w' := by
  refine ⟨hm.os, hm.tape, hm.output, by rw [hm.size]; omega, fun b hb _ => hm.old _ hb, ?_, ?_, fun _ _ => ⟨rfl, fun h => h⟩⟩
  · rintro b (⟨i, hi, rfl⟩ | ⟨u, hu, rfl⟩)
    · exact .inl (.inl ⟨i, hi, rfl⟩)
    · by_cases e : u = t
      · subst e; refine .inr ?_
        show _ ≤ (if u = u then _ else _); rw [if_pos rfl]; exact Nat.le_refl _
      · refine .inl (.inr ⟨u, hu.resolve_right e, ?_⟩)
        show _ = (if u = t then _ else _); rw [if_neg e]
  · rintro b (hb | ⟨hl, rfl⟩)
    · exact .inl hb
    · exact .inr (.inl (.inr ⟨t, hl, rfl⟩))
end

theorem Sim.kill {g g' : G} {st : St} {a : Act} {w w' : World} {t : Tk} (h : Sim g st a w) (ht : Turns g w g' w' (Fkill t) some) (hD : ∀ i, g.D i → g'.D i ∧ w'.heap[g'.μ i]? = w.heap[g.μ i]?) : Sim g' (st.scrub (Fkill t) some) a w' :=
  h.turn ht fun i j hp hd => by cases hp; exact hD i hd

/-- The cells of a row that was laid by its elements, one behind the other, with more behind it. -/
theorem cell_row {w : World} {b : Nat} {cs : Array Value} {e : TypeId} {fz : Nat × Nat} (hb : w.heap[b]? = some (.cells cs e fz)) (k : Nat) : w.cell? ⟨b, k, none⟩ = cs[k]? := by simp [World.cell?, hb]

theorem append_vals (U V : Nat → Nat → Value) {s n m : Nat} {zs : List Value} {j i : Nat} (hj : j < n + m) (hi : i < s) :
    ((rowVals U s n ++ rowVals V s m).toArray ++ zs.toArray)[j * s + i]? = some (if j < n then U j i else V (j - n) i) := by
  have hb : j * s + s ≤ (n + m) * s := by rw [← Nat.succ_mul]; exact Nat.mul_le_mul_right s hj
  rw [List.append_toArray, List.getElem?_toArray, List.getElem?_append_left (by rw [List.length_append, rowVals_length, rowVals_length, ← Nat.add_mul]; omega)]
  by_cases h : j < n
  · rw [if_pos h]
    have : j * s + s ≤ n * s := by rw [← Nat.succ_mul]; exact Nat.mul_le_mul_right s h
    rw [List.getElem?_append_left (by rw [rowVals_length]; omega)]
    exact rowVals_at U h hi
  · rw [if_neg h]
    have : n * s ≤ j * s := Nat.mul_le_mul_right s (by omega)
    rw [List.getElem?_append_right (by rw [rowVals_length]; omega), rowVals_length]
    have e : j * s + i - n * s = (j - n) * s + i := by rw [Nat.sub_mul]; omega
    rw [e]
    exact rowVals_at V (by omega) hi

theorem row_both {g : G} {w : World} {xs ys : List PV} {U V : Nat → Nat → Value}
    (h1 : ∀ (j : Nat) (x : PV), xs[j]? = some x → ∀ (i : Nat) (y : PV), x.comps[i]? = some y → Rep g w y (U j i))
    (h2 : ∀ (j : Nat) (x : PV), ys[j]? = some x → ∀ (i : Nat) (y : PV), x.comps[i]? = some y → Rep g w y (V j i)) :
    ∀ (j : Nat) (x : PV), (xs ++ ys)[j]? = some x → ∀ (i : Nat) (y : PV), x.comps[i]? = some y → Rep g w y (if j < xs.length then U j i else V (j - xs.length) i) := by
  intro j x hx i y hy
  by_cases h : j < xs.length
  · rw [if_pos h]; rw [List.getElem?_append_left h] at hx; exact h1 j x hx i y hy
  · rw [if_neg h]; rw [List.getElem?_append_right (by omega)] at hx; exact h2 _ x hx i y hy

theorem grow_rep {g : G} {w w' : World} (hw : WF g w) {xs ys : List PV} {s : Nat} {U V : Nat → Nat → Value} {zs : List Value} {e : TypeId}
    (hm : Made w w' (.cells ((rowVals U s xs.length ++ rowVals V s ys.length).toArray ++ zs.toArray) e (0, 0)))
    (h1 : ∀ (j : Nat) (x : PV), xs[j]? = some x → ∀ (i : Nat) (y : PV), x.comps[i]? = some y → Rep g w y (U j i))
    (h2 : ∀ (j : Nat) (x : PV), ys[j]? = some x → ∀ (i : Nat) (y : PV), x.comps[i]? = some y → Rep g w y (V j i))
    (hd : ∀ x, x ∈ xs ++ ys → Data x) (hs : ∀ x, x ∈ xs ++ ys → x.comps.length = s) (t : Tk) {cap : Nat} (hc : xs.length + ys.length ≤ cap) (hml : cap ≤ maxLen) (hz : zs.length = (cap - (xs.length + ys.length)) * s) :
    Rep (g.grow t w.heap.size ((xs.length + ys.length) * s)) w' (.sl (.own t) false s (xs ++ ys)) (.slice (some ⟨w.heap.size, 0, none⟩) (xs.length + ys.length) cap) := by
  have hb := hm.new
  have hlen : (xs ++ ys).length = xs.length + ys.length := by simp
  have hsz : ((rowVals U s xs.length ++ rowVals V s ys.length).toArray ++ zs.toArray).size = cap * s := by
    simp only [Array.size_append, List.size_toArray, List.length_append, rowVals_length, hz]
    rw [← Nat.add_mul, ← Nat.add_mul]; congr 1; omega
  have := Rep.sl (g := g.grow t w.heap.size ((xs.length + ys.length) * s)) (w := w') (.own t) s (xs ++ ys) w.heap.size 0 cap (fun j i => if j < xs.length then U j i else V (j - xs.length) i) (by omega) hml
    (.inl ⟨.inr rfl, by show _ = (if t = t then _ else _); rw [if_pos rfl], by show _ = (if t = t then _ else _); rw [if_pos rfl, hlen, Nat.zero_add], _, _, _, hb, by rw [hsz]; omega, .inl rfl⟩) hd hs
    (fun j x hx i hi => by
      have hj : j < xs.length + ys.length := by have := (List.getElem?_eq_some_iff.1 hx).1; omega
      rw [cell_row hb, Nat.zero_add]
      exact append_vals U V hj hi)
    (fun j x hx i y hy => Rep.data (g' := g.grow t w.heap.size ((xs.length + ys.length) * s)) (w' := w') (fun b hb => ⟨Or.inl hb, hm.old _ (hw.ilt b hb)⟩) (row_both h1 h2 j x hx i y hy) ((hd x (mem_of_get hx)).comp hy))
  rwa [hlen] at this

end Go.Sy
