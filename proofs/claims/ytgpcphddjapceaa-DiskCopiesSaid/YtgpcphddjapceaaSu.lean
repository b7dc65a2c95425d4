/- What comes in, as symbolic values; a statement, from the contract of its function. -/
import Derived.Test.YtgpcphddjapceaaSs
import Derived.ProofKit
import Derived.Deep.Slices
import Derived.Handed
namespace Go.Sy
open Go.ChangeShapes Go.WideShapes Go.ChangeAt Go.RowKit

/-- Fields that lie one behind the other. -/
def tileB (P : Program) : List Field → Nat → Nat → Bool
  | [], a, n => a == n
  | f :: l, a, n => f.offset == a && tileB P l (a + P.cellsOf f.type) n

/-- Types that are numbers, truth values, texts, rows and structs of them. -/
def goodT (P : Program) : Nat → TypeId → Bool
  | 0, _ => false
  | n + 1, t => match P.underlying t with
    | some .bool => true
    | some (.int _) => true
    | some .string => true
    | some (.slice e) => decide (0 < P.cellsOf e) && goodT P n e
    | some (.struct fs) => tileB P fs.toList 0 (P.cellsOf t) && fs.toList.all fun f => goodT P n f.type
    | _ => false

def packE (P : Program) (t : TypeId) (ys : List PV) : PV := if aggT P t = some true then .agg ys else ys.headD .dead

/-- What cells of a type look like. -/
def Shp (P : Program) : Nat → TypeId → List PV → Prop
  | 0, _, _ => False
  | n + 1, t, ys => match P.underlying t with
    | some .bool => ∃ b, ys = [.lit (.bool b)]
    | some (.int k) => ∃ m, ys = [.lit (.int k m)] ∧ (Lit.int k m).wf = true
    | some .string => ∃ s, ys = [.lit (.string s)] ∧ s.size ≤ maxLen
    | some (.slice e) => ∃ nl xs, ys = [.sl .imm nl (P.cellsOf e) xs] ∧ (nl = true → xs = []) ∧ xs.length ≤ maxLen ∧ ∀ x, x ∈ xs → ∃ zs, Shp P n e zs ∧ x = packE P e zs
    | some (.struct fs) => ys.length = P.cellsOf t ∧ ∀ f, f ∈ fs.toList → Shp P n f.type ((ys.drop f.offset).take (P.cellsOf f.type))
    | _ => False

def g0 (w : World) : G := ⟨fun _ => 0, fun _ => 0, fun _ => 0, fun _ => False, fun _ => False, fun b => b < w.heap.size⟩
theorem wf_g0 (w : World) : WF (g0 w) w where
  dlt := fun _ h => h.elim
  llt := fun _ h => h.elim
  ilt := fun _ h => h
  dinj := fun _ _ h => h.elim
  linj := fun _ _ h => h.elim
  dl := fun _ _ h => h.elim
  di := fun _ h => h.elim
  li := fun _ h => h.elim

section
variable {H : Type} {enc : TypeId × Value → H} {P : Program} {w : World} {base : Nat} {held : Bool}

/-- Cells that are told, each a plain datum. -/
def CellsRep (w : World) (ys : List PV) (cs : List Value) : Prop :=
  ys.length = cs.length ∧ ∀ (i : Nat) (y : PV) (u : Value), ys[i]? = some y → cs[i]? = some u → Rep (g0 w) w y u ∧ Data y ∧ y.isAgg = false

theorem CellsRep.one {y : PV} {u : Value} (h : Rep (g0 w) w y u) (hd : Data y) (hf : y.isAgg = false) : CellsRep w [y] [u] := by
  refine ⟨rfl, fun i z v hz hv => ?_⟩
  match i, hz, hv with
  | 0, hz, hv => simp at hz hv; subst hz; subst hv; exact ⟨h, hd, hf⟩
  | i + 1, hz, hv => simp at hz

theorem cell_addr {w : World} {a : Addr} {v : Value} (h : w.cell? a = some v) : a = ⟨a.block, a.off, none⟩ ∧ a.block < w.heap.size := by
  unfold World.cell? at h
  split at h
  · rename_i c t f hb
    have hlt : a.block < w.heap.size := by
      rcases Nat.lt_or_ge a.block w.heap.size with h | h
      · exact h
      · rw [Array.getElem?_eq_none h] at hb; cases hb
    split at h
    · cases h
    · rename_i hs
      refine ⟨?_, hlt⟩
      obtain ⟨b, o, s⟩ := a
      cases s with
      | none => rfl
      | some _ => simp at hs
  · cases h

theorem add_lit' (b o n : Nat) : (⟨b, o, none⟩ : Addr).add n = ⟨b, o + n, none⟩ := by
  unfold Addr.add; split
  · rename_i h; subst h; rfl
  · rfl

theorem CellsRep.append {ys zs : List PV} {cs ds : List Value} (h : CellsRep w ys cs) (k : CellsRep w zs ds) : CellsRep w (ys ++ zs) (cs ++ ds) := by
  refine ⟨by simp [h.1, k.1], fun i y u hy hu => ?_⟩
  rw [List.getElem?_append] at hy hu
  rw [h.1] at hy
  split at hy
  · rename_i hlt; rw [if_pos hlt] at hu; exact h.2 i y u hy hu
  · rename_i hlt; rw [if_neg hlt] at hu; exact k.2 _ y u hy hu

theorem tile_shp {m : Nat} {cs : List Value} : ∀ (l : List Field) (a : Nat), a ≤ cs.length → tileB P l a cs.length = true →
    (∀ f, f ∈ l → ∃ ys, CellsRep w ys ((cs.drop f.offset).take (P.cellsOf f.type)) ∧ Shp P m f.type ys) →
    ∃ ys, CellsRep w ys (cs.drop a) ∧ ∀ f, f ∈ l → a ≤ f.offset ∧ Shp P m f.type ((ys.drop (f.offset - a)).take (P.cellsOf f.type)) := by
  intro l
  induction l with
  | nil =>
    intro a ha ht _
    simp only [tileB, beq_iff_eq] at ht
    refine ⟨[], ⟨by simp; omega, fun i y u hy => by simp at hy⟩, fun f hf => by simp at hf⟩
  | cons f l ih =>
    intro a ha ht hf
    simp only [tileB, Bool.and_eq_true, beq_iff_eq] at ht
    obtain ⟨h1, h2⟩ := ht
    have mono : ∀ (l : List Field) (a n : Nat), tileB P l a n = true → a ≤ n := by
      intro l
      induction l with
      | nil => intro a n h; simp only [tileB, beq_iff_eq] at h; omega
      | cons g l ih => intro a n h; simp only [tileB, Bool.and_eq_true] at h; have := ih _ _ h.2; omega
    have hle := mono _ _ _ h2
    obtain ⟨ys, e1, e2⟩ := hf f (by simp)
    obtain ⟨zs, e3, e4⟩ := ih _ hle h2 fun g hg => hf g (by simp [hg])
    rw [h1] at e1
    have hyl : ys.length = P.cellsOf f.type := by rw [e1.1]; simp; omega
    refine ⟨ys ++ zs, ?_, fun g hg => ?_⟩
    · have := e1.append e3
      rwa [show (cs.drop a).take (P.cellsOf f.type) ++ cs.drop (a + P.cellsOf f.type) = cs.drop a by rw [← List.drop_drop, List.take_append_drop]] at this
    · rcases List.mem_cons.1 hg with rfl | hg
      · refine ⟨by omega, ?_⟩
        rw [h1, Nat.sub_self, List.drop_zero, List.take_append_of_le_length (by omega), List.take_of_length_le (by omega)]
        exact e2
      · obtain ⟨q1, q2⟩ := e4 g hg
        refine ⟨by omega, ?_⟩
        rw [List.drop_append, hyl, List.drop_eq_nil_of_le (by omega), List.nil_append, show g.offset - a - P.cellsOf f.type = g.offset - (a + P.cellsOf f.type) by omega]
        exact q2

theorem open_shp : ∀ (m fuel : Nat) (t : TypeId) (cs : List Value) (x : DataW H × List MemPlace), goodT P m t = true → DataW.trod enc P w base (fun _ => true) held fuel t cs = some x →
    ∃ ys, CellsRep w ys cs ∧ Shp P m t ys ∧ (aggT P t = some true ∨ (aggT P t = some false ∧ ∃ y, ys = [y])) := by
  intro m
  induction m with
  | zero => intro fuel t cs x hg; simp [goodT] at hg
  | succ m ih =>
    intro fuel t cs x hg h
    simp only [goodT] at hg
    split at hg
    · rename_i ht
      obtain ⟨b, rfl, -⟩ := DataW.trod_bool ht h
      exact ⟨_, CellsRep.one (.lit (.bool b)) (by simp [Value.oneCell']) rfl, by simp [Shp, ht], .inr ⟨by simp [aggT, ht], _, rfl⟩⟩
    · rename_i k ht
      obtain ⟨n, rfl, -, hwf⟩ := DataW.trod_int ht h
      exact ⟨_, CellsRep.one (.lit (.int k n)) (by simp [Value.oneCell']) rfl, by simp [Shp, ht, hwf], .inr ⟨by simp [aggT, ht], _, rfl⟩⟩
    · rename_i ht
      obtain ⟨s, rfl, -, hs⟩ := DataW.trod_string ht h
      exact ⟨_, CellsRep.one (.lit (.string s)) (by simp [Value.oneCell']) rfl, by simp [Shp, ht, hs], .inr ⟨by simp [aggT, ht], _, rfl⟩⟩
    · rename_i e ht
      simp only [Bool.and_eq_true, decide_eq_true_eq] at hg
      rcases Deep.open_slice ht h with ⟨rfl, -⟩ | ⟨a, len, cap, q, n, D, Pl, rfl, hb, hl, hm, hq, -, hel⟩
      · exact ⟨[.sl .imm true (P.cellsOf e) []], CellsRep.one (.nils _ _) (by simp) rfl, by simp [Shp, ht], .inr ⟨by simp [aggT, ht], _, rfl⟩⟩
      · simp only [if_true] at hq
        subst hq
        by_cases hc0 : q = 0
        · subst hc0
          have hl0 : len = 0 := by omega
          subst hl0
          exact ⟨[.sl .imm false (P.cellsOf e) []], CellsRep.one (.sle _ _ a rfl) (by simp) rfl, by simp [Shp, ht], .inr ⟨by simp [aggT, ht], _, rfl⟩⟩
        · have key : ∀ i, i < q → ∃ cs' ys, w.cells? base (a.add (i * P.cellsOf e)) (P.cellsOf e) = some cs' ∧ CellsRep w ys cs' ∧ Shp P m e ys ∧ (aggT P e = some true ∨ (aggT P e = some false ∧ ∃ y, ys = [y])) := by
            intro i hi
            obtain ⟨cs', h1, h2⟩ := hel i hi
            obtain ⟨ys, h3⟩ := ih n e cs' _ hg.2 h2
            exact ⟨cs', ys, h1, h3⟩
          obtain ⟨C, hC⟩ := Deep.choose_lt key
          obtain ⟨Y, hY⟩ := Deep.choose_lt hC
          obtain ⟨h01, -, -, -⟩ := hY 0 (by omega)
          obtain ⟨-, hl01, hc01⟩ := World.cells?_some h01
          have hcell0 := hc01 0 hg.1
          rw [List.getElem?_eq_getElem (by omega)] at hcell0
          rw [Nat.zero_mul] at hcell0
          obtain ⟨hadr, hblk⟩ := cell_addr hcell0
          have hadr' : a = ⟨a.block, a.off, none⟩ := hadr
          have hblk' : a.block < w.heap.size := hblk
          have hcells : ∀ i, i < q → ∀ j, j < P.cellsOf e → w.cell? ⟨a.block, a.off + i * P.cellsOf e + j, none⟩ = (C i)[j]? := by
            intro i hi j hj
            have := (World.cells?_some (hY i hi).1).2.2 j hj
            rw [hadr', add_lit', add_lit'] at this
            exact this
          have hlenC : ∀ i, i < q → (C i).length = P.cellsOf e := fun i hi => (World.cells?_some (hY i hi).1).2.1
          have hcomps : ∀ i, i < q → (packE P e (Y i)).comps = Y i := by
            intro i hi
            obtain ⟨-, h2, h3, h4⟩ := hY i hi
            rcases h4 with h4 | ⟨h4, y, hy⟩
            · simp [packE, h4, PV.comps]
            · simp only [packE, h4, hy]
              have hya := (h2.2 0 y ((C i)[0]'(by rw [hlenC i hi]; exact hg.1)) (by simp [hy]) (List.getElem?_eq_getElem _)).2.2
              simp only [Option.some.injEq, Bool.false_eq_true, if_false, List.headD_cons]
              cases y <;> first | rfl | (simp [PV.isAgg] at hya)
          have hdat : ∀ i, i < q → Data (packE P e (Y i)) := by
            intro i hi
            obtain ⟨-, h2, h3, h4⟩ := hY i hi
            have all : ∀ y, y ∈ Y i → Data y ∧ y.isAgg = false := fun y hy => by
              obtain ⟨j, hj⟩ := List.getElem?_of_mem hy
              have hjl : j < (C i).length := by rw [← h2.1]; exact (List.getElem?_eq_some_iff.1 hj).1
              exact (h2.2 j y _ hj (List.getElem?_eq_getElem hjl)).2
            rcases h4 with h4 | ⟨h4, y, hy⟩
            · simp only [packE, h4, if_true]
              exact (data_agg' _).2 all
            · have := (all y (by simp [hy])).1
              simpa [packE, h4, hy] using this
          have hlen : ((List.range len).map fun i => packE P e (Y i)).length = len := by simp
          refine ⟨[.sl .imm false (P.cellsOf e) ((List.range len).map fun i => packE P e (Y i))], CellsRep.one ?_ ?_ rfl, ?_, .inr ⟨by simp [aggT, ht], _, rfl⟩⟩
          · have := Rep.sl (g := g0 w) (w := w) .imm (P.cellsOf e) ((List.range len).map fun i => packE P e (Y i)) a.block a.off q (fun i j => ((C i)[j]?).getD undef) (by rw [hlen]; exact hl) hm hblk'
              (fun x hx => by obtain ⟨i, hi, rfl⟩ := List.mem_map.1 hx; exact hdat i (by have := List.mem_range.1 hi; omega))
              (fun x hx => by
                obtain ⟨i, hi, rfl⟩ := List.mem_map.1 hx
                have hi' : i < q := by have := List.mem_range.1 hi; omega
                rw [hcomps i hi', (hY i hi').2.1.1, hlenC i hi'])
              (fun j x hx i hi => by
                have hj : j < len := by have := (List.getElem?_eq_some_iff.1 hx).1; simpa using this
                rw [hcells j (by omega) i hi, List.getElem?_eq_getElem (by rw [hlenC j (by omega)]; exact hi)]
                rfl)
              (fun j x hx i y hy => by
                have hj : j < len := by have := (List.getElem?_eq_some_iff.1 hx).1; simpa using this
                rw [List.getElem?_map, List.getElem?_range hj] at hx
                simp only [Option.map_some, Option.some.injEq] at hx
                subst hx
                rw [hcomps j (by omega)] at hy
                have hil : i < (C j).length := by rw [← (hY j (by omega)).2.1.1]; exact (List.getElem?_eq_some_iff.1 hy).1
                rw [List.getElem?_eq_getElem hil]
                exact ((hY j (by omega)).2.1.2 i y _ hy (List.getElem?_eq_getElem hil)).1)
            rw [hlen] at this
            rw [hadr']
            exact this
          · simp only [data_sl]
            intro x hx
            obtain ⟨i, hi, rfl⟩ := List.mem_map.1 hx
            exact hdat i (by have := List.mem_range.1 hi; omega)
          · simp only [Shp, ht]
            refine ⟨false, _, rfl, by simp, by rw [hlen]; omega, fun x hx => ?_⟩
            obtain ⟨i, hi, rfl⟩ := List.mem_map.1 hx
            exact ⟨Y i, (hY i (by have := List.mem_range.1 hi; omega)).2.2.1, rfl⟩
    · rename_i fs ht
      simp only [Bool.and_eq_true, List.all_eq_true] at hg
      obtain ⟨xs, n, -, -, hcl, hxl, hx⟩ := DataW.trod_struct ht h
      obtain ⟨ys, h1, h2⟩ := tile_shp (w := w) (P := P) (m := m) (cs := cs) fs.toList 0 (Nat.zero_le _) (hcl ▸ hg.1) fun f hf => by
        obtain ⟨i, hi⟩ := List.getElem?_of_mem hf
        have hi' : fs[i]? = some f := by rwa [Array.getElem?_toList] at hi
        have hlt : i < xs.length := by rw [hxl]; exact (Array.getElem?_eq_some_iff.1 hi').1
        have := hx i f hi'
        rw [List.getElem?_eq_getElem hlt] at this
        obtain ⟨ys, a1, a2, _⟩ := ih n f.type _ _ (hg.2 f hf) this
        exact ⟨ys, a1, a2⟩
      rw [List.drop_zero] at h1
      exact ⟨ys, h1, by simp only [Shp, ht]; exact ⟨by rw [h1.1, hcl], fun f hf => by simpa using (h2 f hf).2⟩, .inl (by simp [aggT, ht])⟩
    · cases hg

/-- What is handed to a function. -/
def ShpAll (P : Program) (m : Nat) : List TypeId → List PV → Prop
  | [], [] => True
  | t :: ts, x :: xs => (∃ ys, Shp P m t ys ∧ x = packE P t ys) ∧ ShpAll P m ts xs
  | _, _ => False

theorem pack_rep {t : TypeId} {v : Value} {ys : List PV} {r : Reach} {b : Nat} (hval : Value.okWide P w r b t v) (h : CellsRep w ys v.cells.toList) (ha : aggT P t = some true ∨ (aggT P t = some false ∧ ∃ y, ys = [y])) : Rep (g0 w) w (packE P t ys) v := by
  rcases ha with ha | ⟨ha, y, rfl⟩
  · have : ∃ cs, v = .agg cs := by
      unfold aggT at ha
      unfold Value.okWide at hval
      split at hval
      · obtain ⟨cs, h, _⟩ := hval; exact ⟨cs, h⟩
      · obtain ⟨cs, h, _⟩ := hval; exact ⟨cs, h⟩
      · split at ha <;> first | (exfalso; simp_all; done) | cases ha
    obtain ⟨cs, rfl⟩ := this
    simp only [packE, ha, if_true]
    have hcs : (Value.agg cs).cells = cs := rfl
    rw [hcs] at h
    exact .agg ys cs (by rw [h.1]; simp) fun i x u hx hu => (h.2 i x u hx (by simpa using hu)).1
  · simp only [packE, ha, Option.some.injEq, Bool.false_eq_true, if_false, List.headD_cons]
    have hl := h.1
    by_cases hv : ∃ cs, v = .agg cs
    · obtain ⟨cs, rfl⟩ := hv
      exfalso
      unfold aggT at ha
      unfold Value.okWide at hval
      split at hval
      · rename_i hu; rw [hu] at ha; cases ha
      · rename_i hu; rw [hu] at ha; cases ha
      · unfold Cell.okWide at hval
        split at hval <;> try (simp_all; done)
        unfold Cell.ok at hval
        split at hval <;> simp_all
    · have hc : v.cells = #[v] := by cases v <;> first | rfl | exact absurd ⟨_, rfl⟩ hv
      rw [hc] at h
      exact (h.2 0 y v rfl rfl).1

theorem open_args {m : Nat} : ∀ (ts : List TypeId) (vs : List Value) (ds : List (DataW H)) (ps : List MemPlace), (∀ t, t ∈ ts → goodT P m t = true) → DataW.TrodAll enc P w base (fun _ => true) held ts vs ds ps →
    (∀ (j : Nat) t v, ts[j]? = some t → vs[j]? = some v → Value.okWide P w .any base t v) →
    ∃ xs : List PV, xs.length = vs.length ∧ (∀ (i : Nat) (x : PV) (u : Value), xs[i]? = some x → vs[i]? = some u → Rep (g0 w) w x u) ∧ ShpAll P m ts xs ∧ ds.length = ts.length := by
  intro ts
  induction ts with
  | nil =>
    intro vs ds ps _ h _
    obtain ⟨rfl, rfl, rfl⟩ := trodAll_nil h
    exact ⟨[], rfl, fun _ _ _ h => by simp at h, trivial, rfl⟩
  | cons t ts ih =>
    intro vs ds ps hg h hv
    obtain ⟨v, vs', d, ds', p, q, rfl, rfl, rfl, h1, h2⟩ := trodAll_cons h
    obtain ⟨fuel, h1⟩ := h1
    obtain ⟨ys, a1, a2, a3⟩ := open_shp (w := w) m fuel t _ _ (hg t (by simp)) h1
    obtain ⟨xs, b1, b2, b3, b4⟩ := ih vs' ds' q (fun t ht => hg t (by simp [ht])) h2 fun j t v ht hv' => hv (j + 1) t v (by simpa using ht) (by simpa using hv')
    refine ⟨packE P t ys :: xs, by simp [b1], fun i x u hx hu => ?_, ⟨⟨ys, a2, rfl⟩, b3⟩, by simp [b4]⟩
    cases i with
    | zero => simp at hx hu; subst hx; subst hu; exact pack_rep (hv 0 t v rfl rfl) a1 a3
    | succ i => exact b2 i x u (by simpa using hx) (by simpa using hu)
end

theorem Fc.calls {P : Program} {k : FuncId} {xs : List PV} {v : Value} (hf : Fc P k xs [] (.lit v) []) {w : World} {args : Array Value} (hr : RepArgs (g0 w) w xs args) :
    Calls P k args w fun e w' => e = .returned v ∧ Below w.heap.size w w' := by
  refine CallsIn.calls (CallsIn.mono (hf.run (g0 w) w args (fun _ _ h => by simp [getO] at h) (wf_g0 w) hr) ?_) (room_FR none)
  rintro e w' ⟨u, x, g', h', rfl, ⟨rfl, rfl⟩, h1, h2, h3, h4⟩
  refine ⟨by rw [h1.lit_inv], h4.os, h4.tape, h4.output, h4.size, fun b hb => h4.keep b hb ?_⟩
  rintro (⟨i, hd, _⟩ | ⟨t, ht, _⟩)
  · exact hd
  · exact ht

section
variable {H : Type} {enc : TypeId × Value → H} {P : Program}
theorem post_below {f : Func} {s : ChangeSpec} {apart fresh handsOn again : Bool} {W W' : World} {args : Array Value} {v : Value} {ds gs : List (DataW H)} {before pa pv : List MemPlace}
    (hW : DataW.Whole enc P f.params.toList s.vars apart W args.toList ds gs before)
    (hres : ∀ (b : Nat) (sp : Nat → Bool) (hd : Bool), DataW.TrodAll enc P W' b sp hd f.resultTypes.toList (v.resultList f.resultTypes.size) (s.fn H (ds ++ gs)).results [])
    (hargs : ∀ sp : Nat → Bool, (∀ p ∈ before, sp p.block = true) → DataW.TrodAll enc P W' 0 sp true f.params.toList args.toList (s.fn H (ds ++ gs)).args pa)
    (hvars : ∀ sp : Nat → Bool, (∀ p ∈ before, sp p.block = true) → DataW.TrodVars enc P W' sp s.vars (s.fn H (ds ++ gs)).vars pv)
    (hps : before = pa ++ pv) (hb : Below W.heap.size W W')
    (hok : ∀ (j : Nat) (t : TypeId) (r : Value), f.resultTypes[j]? = some t → (v.resultList f.resultTypes.size)[j]? = some r → Value.okWide P W' .any 0 t r) :
    s.post enc P f apart fresh handsOn again W args v W' := by
  have hlt : ∀ p ∈ before, p.block < W.heap.size := fun p hp => hW.lt p hp
  have hold : ∀ p ∈ before, (fun b => decide (b < W.heap.size)) p.block = true := fun p hp => by simpa using hlt p hp
  refine ⟨ds, gs, before, [], pa, pv, hW, hres _ _ _, hargs _ hold, hvars _ hold, World.keptBut_mono (fun p hp => ⟨hp, ?_⟩) (hb.frame (· ∈ before)), fun _ => ?_⟩
  · rw [hps, List.mem_append] at hp
    exact Or.inr hp
  · obtain ⟨_, _, _, _, _, hz, hn⟩ := hW
    refine ⟨hok, _, _, ([] ++ pa) ++ pv, ⟨[] ++ pa, pv, trodAll_append (hargs _ (fun _ _ => rfl)) (hres _ _ _), hvars _ (fun _ _ => rfl), rfl, ?_, ?_⟩, ?_⟩
    · intro b off hp
      have hin : MemPlace.cell b off ∈ before := by rw [hps]; simpa using hp
      rw [hb.frozen (hlt _ hin)]
      exact hz b off hin
    · intro ha
      have := hn ha
      rw [hps] at this
      simpa using this
    · intro p hp _
      rw [hps]
      simpa using hp

/-- What was read reads on. -/
theorem trodAll_stays (hl : laidOutB P = true) {W W' : World} (hb : Below W.heap.size W W') (sp : Nat → Bool) : ∀ (ts : List TypeId) (vs : List Value) (ds : List (DataW H)) (ps : List MemPlace),
    (∀ t, t ∈ ts → P.readableRec t = true ∧ t < P.types.size) → DataW.TrodAll enc P W 0 (fun _ => true) true ts vs ds ps → (∀ x ∈ ps, x.block < W.heap.size ∧ sp x.block = true) → DataW.TrodAll enc P W' 0 sp true ts vs ds ps := by
  intro ts
  induction ts with
  | nil =>
    intro vs ds ps _ h _
    obtain ⟨rfl, rfl, rfl⟩ := trodAll_nil h
    rfl
  | cons t ts ih =>
    intro vs ds ps hr h hlt
    obtain ⟨v, vs', d, ds', p, q, rfl, rfl, rfl, h1, h2⟩ := trodAll_cons h
    exact ⟨p, q, WideElems.Trod_stays hl (hr t (by simp)).1 (hr t (by simp)).2 h1 (fun x hx => hb.same (hlt x (by simp [hx])).1) (fun x hx => (hlt x (by simp [hx])).2),
      ih vs' ds' q (fun t ht => hr t (by simp [ht])) h2 (fun x hx => hlt x (by simp [hx])), rfl⟩

/-- A statement of a law, from its function's contract. -/
theorem law_contract (m : Nat) {f : FuncId} {fn : Func} {s : ChangeSpec} {apart fresh handsOn again : Bool} {tb : TypeId} (hl : laidOutB P = true) (hv : s.vars = [])
    (hs : ∀ ds : List (DataW H), ds.length = fn.params.toList.length → s.fn H ds = { results := [.lit (.bool true)], args := ds })
    (hg : (fn.params.toList.all fun t => goodT P m t && P.readableRec t && decide (t < P.types.size)) = true)
    (hr : fn.resultTypes = #[tb]) (htb : P.underlying tb = some .bool)
    (hlaw : ∀ xs, ShpAll P m fn.params.toList xs → Fc P f xs [] (.lit (.bool true)) [])
    (W : World) (base : Nat) (args : Array Value) (ds gs : List (DataW H)) (before : List MemPlace)
    (hval : ∀ (j : Nat) t v, fn.params[j]? = some t → args[j]? = some v → Value.okWide P W .any base t v)
    (hW : DataW.Whole enc P fn.params.toList s.vars apart W args.toList ds gs before) :
    Calls P f args W fun e W' => ∃ v, e = .returned v ∧ s.post enc P fn apart fresh handsOn again W args v W' := by
  have hg' : ∀ t, t ∈ fn.params.toList → goodT P m t = true ∧ P.readableRec t = true ∧ t < P.types.size := fun t ht => by
    have := List.all_eq_true.1 hg t ht
    simp only [Bool.and_eq_true, decide_eq_true_eq] at this
    exact ⟨this.1.1, this.1.2, this.2⟩
  have hW' := hW
  obtain ⟨p, q, hA, hV, rfl, hz, hn⟩ := hW
  rw [hv] at hV
  obtain ⟨rfl, rfl⟩ := trodVars_none hV
  obtain ⟨xs, h1, h2, h3, h4⟩ := open_args (w := W) (m := m) _ _ _ _ (fun t ht => (hg' t ht).1) hA fun j t v ht hv => hval j t v (by rwa [Array.getElem?_toList] at ht) (by rwa [Array.getElem?_toList] at hv)
  refine (Fc.calls (hlaw xs h3) (w := W) (args := args) ⟨by simpa using h1.symm, fun i x u hx hu => h2 i x u hx (by rwa [Array.getElem?_toList])⟩).mono ?_
  rintro e W' ⟨rfl, hb⟩
  refine ⟨_, rfl, post_below (pa := p) (pv := []) hW' ?_ ?_ ?_ rfl hb ?_⟩
  · intro b sp hd
    rw [List.append_nil, hs ds h4, hr]
    exact trodAll_mk1 (shut_bool htb true)
  · intro sp hsp
    rw [List.append_nil, hs ds h4]
    exact trodAll_stays hl hb sp _ _ _ _ (fun t ht => (hg' t ht).2) hA fun x hx => ⟨hW'.lt x (by simpa using hx), hsp x (by simpa using hx)⟩
  · intro sp _
    rw [List.append_nil, hs ds h4, hv]
    rfl
  · exact ok_one hr rfl (okWide_bool_mk htb true)
end

section
variable {P : Program} {m : Nat} {t e : TypeId} {x : PV}
theorem list_choose {α : Type} {p : α → Prop} {f : α → PV} : ∀ {xs : List PV}, (∀ x, x ∈ xs → ∃ a, p a ∧ x = f a) → ∃ l : List α, xs = l.map f ∧ ∀ a, a ∈ l → p a
  | [], _ => ⟨[], rfl, fun _ h => by simp at h⟩
  | x :: xs, h => by
    obtain ⟨a, h1, rfl⟩ := h x (by simp)
    obtain ⟨l, rfl, h2⟩ := list_choose (xs := xs) fun y hy => h y (by simp [hy])
    exact ⟨a :: l, rfl, fun b hb => by
      rcases List.mem_cons.1 hb with rfl | hb
      · exact h1
      · exact h2 b hb⟩
theorem arg_int {k : IntKind} (ht : P.underlying t = some (.int k)) (h : ∃ ys, Shp P (m + 1) t ys ∧ x = packE P t ys) : ∃ n, x = .lit (.int k n) ∧ (Lit.int k n).wf = true := by
  obtain ⟨ys, h, rfl⟩ := h
  simp only [Shp, ht] at h
  obtain ⟨n, rfl, hn⟩ := h
  exact ⟨n, by simp [packE, aggT, ht], hn⟩
theorem arg_bool (ht : P.underlying t = some .bool) (h : ∃ ys, Shp P (m + 1) t ys ∧ x = packE P t ys) : ∃ b, x = .lit (.bool b) := by
  obtain ⟨ys, h, rfl⟩ := h
  simp only [Shp, ht] at h
  obtain ⟨n, rfl⟩ := h
  exact ⟨n, by simp [packE, aggT, ht]⟩
theorem arg_str (ht : P.underlying t = some .string) (h : ∃ ys, Shp P (m + 1) t ys ∧ x = packE P t ys) : ∃ s, x = .lit (.string s) ∧ s.size ≤ maxLen := by
  obtain ⟨ys, h, rfl⟩ := h
  simp only [Shp, ht] at h
  obtain ⟨n, rfl, hn⟩ := h
  exact ⟨n, by simp [packE, aggT, ht], hn⟩
theorem arg_rows (ht : P.underlying t = some (.slice e)) (h : ∃ ys, Shp P (m + 1) t ys ∧ x = packE P t ys) : ∃ nl xs, x = .sl .imm nl (P.cellsOf e) xs ∧ (nl = true → xs = []) ∧ xs.length ≤ maxLen ∧ ∀ x, x ∈ xs → ∃ zs, Shp P m e zs ∧ x = packE P e zs := by
  obtain ⟨ys, h, rfl⟩ := h
  simp only [Shp, ht] at h
  obtain ⟨nl, xs, rfl, h1, h2, h3⟩ := h
  exact ⟨nl, xs, by simp [packE, aggT, ht], h1, h2, h3⟩
theorem arg_ints {k : IntKind} (ht : P.underlying t = some (.slice e)) (he : P.underlying e = some (.int k)) (hc : P.cellsOf e = 1) (h : ∃ ys, Shp P (m + 2) t ys ∧ x = packE P t ys) :
    ∃ nl l, x = .sl .imm nl 1 (ints k l) ∧ (nl = true → l = []) ∧ l.length ≤ maxLen ∧ ∀ n, n ∈ l → (Lit.int k n).wf = true := by
  obtain ⟨nl, xs, rfl, h1, h2, h3⟩ := arg_rows ht h
  obtain ⟨l, rfl, h4⟩ := list_choose (p := fun n => (Lit.int k n).wf = true) (f := fun n => PV.lit (.int k n)) (xs := xs) fun x hx => by
    obtain ⟨n, h5, h6⟩ := arg_int he (h3 x hx)
    exact ⟨n, h6, h5⟩
  exact ⟨nl, l, by rw [hc]; rfl, fun h => by have := h1 h; simpa using this, by simpa using h2, h4⟩
theorem shp_one {ys : List PV} (ha : aggT P t = some false) (h : ∃ y, ys = [y]) : ys = [packE P t ys] := by
  obtain ⟨y, rfl⟩ := h
  simp [packE, ha]
theorem shp_int {ys : List PV} {k : IntKind} (ht : P.underlying t = some (.int k)) (h : Shp P (m + 1) t ys) : ∃ n, ys = [.lit (.int k n)] ∧ (Lit.int k n).wf = true := by
  simpa [Shp, ht] using h
theorem shp_str {ys : List PV} (ht : P.underlying t = some .string) (h : Shp P (m + 1) t ys) : ∃ s, ys = [.lit (.string s)] ∧ s.size ≤ maxLen := by
  simpa [Shp, ht] using h
theorem shp_ints {ys : List PV} {k : IntKind} (ht : P.underlying t = some (.slice e)) (he : P.underlying e = some (.int k)) (hc : P.cellsOf e = 1) (h : Shp P (m + 2) t ys) :
    ∃ (nl : Bool) (l : List Int), ys = [.sl .imm nl 1 (ints k l)] ∧ (nl = true → l = []) ∧ l.length ≤ maxLen ∧ ∀ n, n ∈ l → (Lit.int k n).wf = true := by
  have h1 : ∃ y, ys = [y] := by
    have h' := h
    simp only [Shp, ht] at h'
    obtain ⟨nl, xs, rfl, _⟩ := h'
    exact ⟨_, rfl⟩
  obtain ⟨nl, l, e1, e2⟩ := arg_ints ht he hc ⟨ys, h, rfl⟩
  exact ⟨nl, l, (shp_one (P := P) (t := t) (by simp [aggT, ht]) h1).trans (by rw [e1]), e2⟩
theorem shp_struct {fs : Array Field} {ys : List PV} (ht : P.underlying t = some (.struct fs)) (h : Shp P (m + 1) t ys) : ys.length = P.cellsOf t ∧ ∀ f, f ∈ fs.toList → Shp P m f.type ((ys.drop f.offset).take (P.cellsOf f.type)) := by
  simpa only [Shp, ht] using h
theorem shp_nil {xs : List PV} (h : ShpAll P m [] xs) : xs = [] := by
  cases xs with
  | nil => rfl
  | cons x xs => exact h.elim
theorem shp_cons {ts : List TypeId} {xs : List PV} (h : ShpAll P m (t :: ts) xs) : ∃ x xs', xs = x :: xs' ∧ (∃ ys, Shp P m t ys ∧ x = packE P t ys) ∧ ShpAll P m ts xs' := by
  cases xs with
  | nil => exact h.elim
  | cons x xs => exact ⟨x, xs, rfl, h.1, h.2⟩
theorem shp_args1 {xs : List PV} (h : ShpAll P m [t] xs) : ∃ x, xs = [x] ∧ (∃ ys, Shp P m t ys ∧ x = packE P t ys) := by
  obtain ⟨x, _, rfl, h1, h⟩ := shp_cons h
  obtain rfl := shp_nil h
  exact ⟨x, rfl, h1⟩
theorem shp_args2 {t2 : TypeId} {xs : List PV} (h : ShpAll P m [t, t2] xs) : ∃ x y, xs = [x, y] ∧ (∃ ys, Shp P m t ys ∧ x = packE P t ys) ∧ (∃ ys, Shp P m t2 ys ∧ y = packE P t2 ys) := by
  obtain ⟨x, _, rfl, h1, h⟩ := shp_cons h
  obtain ⟨y, rfl, h2⟩ := shp_args1 h
  exact ⟨x, y, rfl, h1, h2⟩
theorem shp_args3 {t2 t3 : TypeId} {xs : List PV} (h : ShpAll P m [t, t2, t3] xs) : ∃ x y z, xs = [x, y, z] ∧ (∃ ys, Shp P m t ys ∧ x = packE P t ys) ∧ (∃ ys, Shp P m t2 ys ∧ y = packE P t2 ys) ∧ (∃ ys, Shp P m t3 ys ∧ z = packE P t3 ys) := by
  obtain ⟨x, _, rfl, h1, h⟩ := shp_cons h
  obtain ⟨y, z, rfl, h2⟩ := shp_args2 h
  exact ⟨x, y, z, rfl, h1, h2⟩
theorem shp_args4 {t2 t3 t4 : TypeId} {xs : List PV} (h : ShpAll P m [t, t2, t3, t4] xs) : ∃ x y z u, xs = [x, y, z, u] ∧ (∃ ys, Shp P m t ys ∧ x = packE P t ys) ∧ (∃ ys, Shp P m t2 ys ∧ y = packE P t2 ys) ∧ (∃ ys, Shp P m t3 ys ∧ z = packE P t3 ys) ∧ (∃ ys, Shp P m t4 ys ∧ u = packE P t4 ys) := by
  obtain ⟨x, _, rfl, h1, h⟩ := shp_cons h
  obtain ⟨y, z, u, rfl, h2⟩ := shp_args3 h
  exact ⟨x, y, z, u, rfl, h1, h2⟩
theorem wf_u8 {n : Int} (h : (Lit.int .u8 n).wf = true) : 0 ≤ n ∧ n < 256 := by
  simp [Lit.wf, IntKind.min, IntKind.max, IntKind.signed, IntKind.bits] at h; omega
theorem wf_u16 {n : Int} (h : (Lit.int .u16 n).wf = true) : 0 ≤ n ∧ n < 65536 := by
  simp [Lit.wf, IntKind.min, IntKind.max, IntKind.signed, IntKind.bits] at h; omega
theorem wf_u32 {n : Int} (h : (Lit.int .u32 n).wf = true) : 0 ≤ n ∧ n < 4294967296 := by
  simp [Lit.wf, IntKind.min, IntKind.max, IntKind.signed, IntKind.bits] at h; omega
theorem wf_u64 {n : Int} (h : (Lit.int .u64 n).wf = true) : 0 ≤ n ∧ n < 18446744073709551616 := by
  simp [Lit.wf, IntKind.min, IntKind.max, IntKind.signed, IntKind.bits] at h; omega
theorem wf_i64 {n : Int} (h : (Lit.int .i64 n).wf = true) : -9223372036854775808 ≤ n ∧ n < 9223372036854775808 := by
  simp [Lit.wf, IntKind.min, IntKind.max, IntKind.signed, IntKind.bits] at h; omega
end
end Go.Sy
