/- Bundles: the document's Parts, walked by the library's own means (it appends to an element of a row of rows). (and what stands on it) -/
import Derived.Test.YtekokchejkjjjaaDoorNm
import Derived.Test.YtekokchejkjjjaaDoorChecked
import Derived.Deep.AppendLies
import Derived.Deep.RegionLaw
import Derived.Lib.Slices
import Derived.Lib.Walk
set_option linter.unusedSimpArgs false
set_option linter.unusedVariables false

/-! Bundles: the document's Parts, walked by the library's own means (it appends to an element of a row of rows). -/
namespace Go.Proofs.YtekokchejkjjjaaDoor
open Go.RowKit

/-- A row of the run's own bytes. -/
def bytesV (l : List Int) : List Value := l.map (Value.int .u8)
/-- The parts so far, in memory of the call's own, each in a block by itself. -/
structure PartsAt (B : Nat) (L : List (List Int)) (v : Value) (vals : List Value) (w : World) : Prop where
  nil : L = [] → v = .slice none 0 0
  row : w.ownsRow B 39 1 v L.length vals
  each : ∀ (j : Nat) (x : List Int) (u : Value), L[j]? = some x → vals[j]? = some u → w.ownsRow B 5 1 u x.length (bytesV x) ∧ 0 < x.length ∧ u.ownBlock ≠ v.ownBlock
  apart : ∀ (j k : Nat) (u y : Value), vals[j]? = some u → vals[k]? = some y → j ≠ k → u.ownBlock ≠ y.ownBlock

theorem alloc_size (w : World) (o : Obj) : (w.alloc o).heap.size = w.heap.size + 1 := by show (w.heap.push o).size = _; simp
theorem alloc_old (w : World) (o : Obj) (k : Nat) (h : k < w.heap.size) : (w.alloc o).heap[k]? = w.heap[k]? := by show (w.heap.push o)[k]? = _; rw [Array.getElem?_push, if_neg (by omega)]
theorem alloc_new (w : World) (o : Obj) : (w.alloc o).heap[w.heap.size]? = some o := by show (w.heap.push o)[w.heap.size]? = _; rw [Array.getElem?_push, if_pos rfl]
theorem PartsAt.len {B : Nat} {L : List (List Int)} {v : Value} {vals : List Value} {w : World} (h : PartsAt B L v vals w) : vals.length = L.length := by have := h.row.1; omega
theorem setCell_grown (w : World) (g k : Nat) (u : Value) : w.grownBy (w.setCell ⟨g, k, none⟩ u) (some g) :=
  ⟨rfl, rfl, rfl, by simp [World.setCell], fun i _ hi => Below.heap_setCell _ _ _ _ (fun e => hi (by simp [e]))⟩
/-- A part more. -/
theorem PartsAt.next {B : Nat} {L : List (List Int)} {v : Value} {vals : List Value} {w w2 : World} {y : Int} {g cap : Nat} (hP : PartsAt B L v vals w) (hB : B ≤ w.heap.size)
    (hown : w2.ownsRow B 39 1 (.slice (some ⟨g, 0, none⟩) (L.length + 1) cap) (L.length + 1) (vals ++ [.slice (some ⟨w.heap.size, 0, none⟩) 1 1]))
    (hgrow : ((w.alloc (.cells #[.int .u8 y] 5)).alloc (.cells #[.slice (some ⟨w.heap.size, 0, none⟩) 1 1] 39)).grownBy w2 v.ownBlock) (hat : v.ownBlock = some g ∨ g = w.heap.size + 1 + 1) :
    PartsAt B (L ++ [[y]]) (.slice (some ⟨g, 0, none⟩) (L.length + 1) cap) (vals ++ [.slice (some ⟨w.heap.size, 0, none⟩) 1 1]) w2 := by
  have hvl := hP.len
  have hvlt := hP.row.lt
  have hnv : some w.heap.size ≠ v.ownBlock := fun e => by have := (hvlt _ e.symm).2; omega
  have hnew : w2.heap[w.heap.size]? = some (.cells #[.int .u8 y] 5) := by
    rw [hgrow.block w.heap.size (by rw [alloc_size, alloc_size]; omega) hnv, alloc_old _ _ _ (by rw [alloc_size]; omega), alloc_new]
  have old : ∀ (j : Nat) (x : List Int) (u : Value), L[j]? = some x → vals[j]? = some u → w2.ownsRow B 5 1 u x.length (bytesV x) ∧ 0 < x.length ∧ u.ownBlock ≠ some g ∧ u.ownBlock ≠ some w.heap.size := fun j x u h1 h2 => by
    obtain ⟨e1, e2, e3⟩ := hP.each j x u h1 h2
    refine ⟨((e1.alloc _).alloc _).kept hgrow (.inr e3), e2, fun e => ?_, fun e => by have := (e1.lt _ e).2; omega⟩
    rcases hat with h | h
    · exact e3 (e.trans h.symm)
    · have := (e1.lt _ e).2; omega
  refine ⟨fun h => by simp at h, by simpa using hown, fun j x u h1 h2 => ?_, fun j k u y' h1 h2 hne => ?_⟩
  · rcases Nat.lt_or_ge j L.length with hj | hj
    · rw [List.getElem?_append_left hj] at h1
      rw [List.getElem?_append_left (by omega)] at h2
      obtain ⟨a1, a2, a3, _⟩ := old j x u h1 h2
      exact ⟨a1, a2, a3⟩
    · rw [List.getElem?_append_right hj] at h1
      rw [List.getElem?_append_right (by omega), hvl] at h2
      have hj0 : j - L.length = 0 := by
        have := (List.getElem?_eq_some_iff.1 h1).1
        simp at this; omega
      rw [hj0] at h1 h2
      simp only [List.getElem?_cons_zero, Option.some.injEq] at h1 h2
      subst h1; subst h2
      refine ⟨⟨rfl, .inr ⟨w.heap.size, 1, _, rfl, hB, hnew, Nat.le_refl _, by unfold maxLen; decide, rfl, rfl⟩⟩, by simp, fun e => ?_⟩
      simp only [Value.ownBlock, Option.some.injEq] at e
      rcases hat with h | h
      · have := (hvlt _ h).2; omega
      · omega
  · have key : ∀ i q, (vals ++ [Value.slice (some ⟨w.heap.size, 0, none⟩) 1 1])[i]? = some q → (i < L.length ∧ vals[i]? = some q ∧ q.ownBlock ≠ some w.heap.size) ∨ (i = L.length ∧ q.ownBlock = some w.heap.size) := fun i q h => by
      rcases Nat.lt_or_ge i L.length with hj | hj
      · rw [List.getElem?_append_left (by omega)] at h
        exact .inl ⟨hj, h, (old i _ q (List.getElem?_eq_getElem hj) h).2.2.2⟩
      · rw [List.getElem?_append_right (by omega), hvl] at h
        have hj0 : i - L.length = 0 := by
          have := (List.getElem?_eq_some_iff.1 h).1
          simp at this; omega
        rw [hj0] at h
        simp only [List.getElem?_cons_zero, Option.some.injEq] at h
        subst h
        exact .inr ⟨by omega, rfl⟩
    rcases key j u h1 with ⟨a1, a2, a3⟩ | ⟨a1, a2⟩ <;> rcases key k y' h2 with ⟨b1, b2, b3⟩ | ⟨b1, b2⟩
    · exact hP.apart j k u y' a2 b2 hne
    · rw [b2]; exact a3
    · rw [a2]; exact fun e => b3 e.symm
    · omega
/-- A byte more, in the last part. -/
theorem PartsAt.more {B : Nat} {M : List (List Int)} {z : List Int} {g n cap e cap' : Nat} {vals : List Value} {u : Value} {w w2 : World} {y : Int} (hP : PartsAt B (M ++ [z]) (.slice (some ⟨g, 0, none⟩) n cap) vals w) (hu : vals[M.length]? = some u)
    (hown : w2.ownsRow B 5 1 (.slice (some ⟨e, 0, none⟩) (z.length + 1) cap') (z.length + 1) (bytesV z ++ [.int .u8 y]))
    (hgrow : (w.alloc (.cells #[.int .u8 y] 5)).grownBy w2 u.ownBlock) (hat : u.ownBlock = some e ∨ e = w.heap.size + 1) :
    PartsAt B (M ++ [z ++ [y]]) (.slice (some ⟨g, 0, none⟩) n cap) (vals.set M.length (.slice (some ⟨e, 0, none⟩) (z.length + 1) cap')) (w2.setCell ⟨g, M.length, none⟩ (.slice (some ⟨e, 0, none⟩) (z.length + 1) cap')) := by
  have hvl := hP.len
  simp only [List.length_append, List.length_cons, List.length_nil] at hvl
  have hz : (M ++ [z])[M.length]? = some z := by simp
  obtain ⟨u1, u2, u3⟩ := hP.each _ _ _ hz hu
  have hglt := (hP.row.lt g rfl).2
  have hge : e ≠ g := by
    rintro rfl
    rcases hat with h | h
    · exact u3 h
    · omega
  obtain ⟨r1, r2⟩ := hP.row
  rcases r2 with ⟨r0, _⟩ | ⟨g', cap2, cur, r3, r4, r5, r6, r7, r8, r9⟩
  · cases r0
  · cases r3
    have h2 : w2.heap[g]? = some (.cells cur 39 (0, 0)) := by
      rw [hgrow.block g (by rw [alloc_size]; omega) (fun h => u3 h.symm), alloc_old _ _ _ hglt, r5]
    have h3 : (w2.setCell ⟨g, M.length, none⟩ (.slice (some ⟨e, 0, none⟩) (z.length + 1) cap')).heap[g]? = some (.cells (cur.setIfInBounds M.length (.slice (some ⟨e, 0, none⟩) (z.length + 1) cap')) 39 (0, 0)) := by
      show (w2.heap.modify _ _)[g]? = _
      rw [Array.getElem?_modify, if_pos rfl, h2]; rfl
    have old : ∀ (j : Nat) (x : List Int) (q : Value), j < M.length → M[j]? = some x → vals[j]? = some q → (w2.setCell ⟨g, M.length, none⟩ (.slice (some ⟨e, 0, none⟩) (z.length + 1) cap')).ownsRow B 5 1 q x.length (bytesV x) ∧ 0 < x.length ∧ q.ownBlock ≠ some g ∧ q.ownBlock ≠ some e := fun j x q hj h1 h2 => by
      obtain ⟨a1, a2, a3⟩ := hP.each j x q (by rw [List.getElem?_append_left hj]; exact h1) h2
      have ap := hP.apart j M.length q u h2 hu (by omega)
      refine ⟨((a1.alloc _).kept hgrow (.inr ap)).kept (setCell_grown w2 g M.length _) (.inr a3), a2, a3, fun h => ?_⟩
      rcases hat with h' | h'
      · exact ap (h.trans h'.symm)
      · have := (a1.lt _ h).2; omega
    refine ⟨fun h => by simp at h, ⟨by simp at r1 ⊢; exact r1, .inr ⟨g, _, _, by simp, r4, h3, by simpa using r6, r7, by simpa using r8, ?_⟩⟩, fun j x q h4 h5 => ?_, fun j k q q' h4 h5 hne => ?_⟩
    · rw [← r9]
      simp only [List.length_append, List.length_cons, List.length_nil, Nat.mul_one, Array.toList_setIfInBounds]
      rw [List.take_set]
    · rcases Nat.lt_or_ge j M.length with hj | hj
      · rw [List.getElem?_append_left hj] at h4
        rw [List.getElem?_set, if_neg (by omega)] at h5
        obtain ⟨a1, a2, a3, _⟩ := old j x q hj h4 h5
        exact ⟨a1, a2, a3⟩
      · have hjm : j = M.length := by
          have := (List.getElem?_eq_some_iff.1 h4).1
          simp at this; omega
        subst hjm
        rw [List.getElem?_append_right (Nat.le_refl _), Nat.sub_self] at h4
        simp only [List.getElem?_cons_zero, Option.some.injEq] at h4
        rw [List.getElem?_set, if_pos rfl, if_pos (by omega)] at h5
        simp only [Option.some.injEq] at h5
        subst h4; subst h5
        refine ⟨?_, by simp, fun h => hge (by simpa [Value.ownBlock] using h)⟩
        have := hown.kept (setCell_grown w2 g M.length (.slice (some ⟨e, 0, none⟩) (z.length + 1) cap')) (.inr fun h => hge (by simpa [Value.ownBlock] using h))
        simpa [bytesV] using this
    · have key : ∀ i q, (vals.set M.length (.slice (some ⟨e, 0, none⟩) (z.length + 1) cap'))[i]? = some q → (i < M.length ∧ vals[i]? = some q ∧ q.ownBlock ≠ some e) ∨ (i = M.length ∧ q.ownBlock = some e) := fun i q h => by
        rw [List.getElem?_set] at h
        by_cases hi : M.length = i
        · rw [if_pos hi, if_pos (by omega)] at h
          simp only [Option.some.injEq] at h
          subst h
          exact .inr ⟨hi.symm, rfl⟩
        · rw [if_neg hi] at h
          have hlt := (List.getElem?_eq_some_iff.1 h).1
          have hj : i < M.length := by omega
          exact .inl ⟨hj, h, (old i _ q hj (List.getElem?_eq_getElem hj) h).2.2.2⟩
      rcases key j q h4 with ⟨a1, a2, a3⟩ | ⟨a1, a2⟩ <;> rcases key k q' h5 with ⟨b1, b2, b3⟩ | ⟨b1, b2⟩
      · exact hP.apart j k q q' a2 b2 hne
      · rw [b2]; exact a3
      · rw [a2]; exact fun h => b3 h.symm
      · omega
def stepR (lim : Nat) (L : List (List Int)) (y : Int) : List (List Int) :=
  match L.getLast? with
  | none => [[y]]
  | some z => if z.length = lim then L ++ [[y]] else L.dropLast ++ [z ++ [y]]
theorem stepR_cons (lim : Nat) (a : List Int) (M : List (List Int)) (y : Int) (h : M = [] → a.length = lim) : stepR lim (a :: M) y = a :: stepR lim M y := by
  cases M with
  | nil => simp [stepR, h rfl]
  | cons m M =>
    have e : (a :: m :: M).getLast? = (m :: M).getLast? := by simp [List.getLast?_cons_cons]
    unfold stepR
    rw [e]
    cases hg : (m :: M).getLast? with
    | none => simp at hg
    | some z =>
      simp only
      split
      · simp
      · simp [List.dropLast]
theorem cut_snoc {n : Nat} (h0 : 0 < n) (y : Int) : ∀ (f : Nat) (x : List Int), x.length ≤ f → cutW n (x ++ [y]).length (x ++ [y]) = stepR n (cutW n x.length x) y
  | f, x, hf => by
    have hne : x ++ [y] ≠ [] := by simp
    rw [cutW_step h0 hne]
    by_cases hx : x = []
    · subst hx
      have e : ([y] : List Int).take n = [y] := List.take_of_length_le (by simp; omega)
      have e2 : ([y] : List Int).drop n = [] := List.drop_eq_nil_of_le (by simp; omega)
      rw [List.nil_append, e, e2]; simp [cutW, stepR]
    · rw [cutW_step h0 hx]
      have hxl := List.length_pos_iff.2 hx
      by_cases hlt : x.length < n
      · have e1 : x.take n = x := List.take_of_length_le (by omega)
        have e2 : x.drop n = [] := List.drop_eq_nil_of_le (by omega)
        have e3 : (x ++ [y]).take n = x ++ [y] := List.take_of_length_le (by simp; omega)
        have e4 : (x ++ [y]).drop n = [] := List.drop_eq_nil_of_le (by simp; omega)
        have hne2 : ¬ x.length = n := by omega
        rw [e1, e2, e3, e4]; simp [cutW, stepR, hne2]
      · have e1 : (x ++ [y]).take n = x.take n := List.take_append_of_le_length (by omega)
        have e2 : (x ++ [y]).drop n = x.drop n ++ [y] := List.drop_append_of_le_length (by omega)
        rw [e1, e2]
        match f, hf with
        | 0, hf => omega
        | f + 1, hf =>
          rw [cut_snoc h0 y f (x.drop n) (by simp; omega), stepR_cons]
          intro hM
          have : x.drop n = [] := by
            cases hd : x.drop n with
            | nil => rfl
            | cons a l => rw [hd] at hM; simp [cutW] at hM
          have := congrArg List.length this
          simp at this ⊢; omega
theorem cutP_snoc {limit : Int} (h : 0 < limit) (x : List Int) (y : Int) : cutP (x ++ [y]) limit = stepR limit.toNat (cutP x limit) y := by
  rw [cutP, cutP, if_neg (by omega), if_neg (by omega)]
  exact cut_snoc (by omega) y _ x (Nat.le_refl _)

theorem cutW_len (n : Nat) (h0 : 0 < n) : ∀ (f : Nat) (b : List Int), (cutW n f b).length ≤ b.length
  | 0, _ => by simp [cutW]
  | f + 1, b => by
    rw [cutW]
    split
    · simp
    · rename_i hb
      have := cutW_len n h0 f (b.drop n)
      have hl := List.length_pos_iff.2 hb
      simp only [List.length_cons, List.length_drop] at this ⊢; omega
theorem cutP_len (b : List Int) (limit : Int) : (cutP b limit).length ≤ b.length := by
  unfold cutP
  split
  · simp
  · exact cutW_len _ (by omega) _ _
theorem cutW_each (n : Nat) : ∀ (f : Nat) (b : List Int), ∀ x, x ∈ cutW n f b → x.length ≤ b.length
  | 0, _, x, h => by simp [cutW] at h
  | f + 1, b, x, h => by
    rw [cutW] at h
    split at h
    · simp at h
    · rcases List.mem_cons.1 h with rfl | h
      · simp; omega
      · have := cutW_each n f (b.drop n) x h
        simp at this; omega
theorem cutP_each (b : List Int) (limit : Int) : ∀ x, x ∈ cutP b limit → x.length ≤ b.length := fun x h => by
  unfold cutP at h
  split at h
  · simp at h
  · exact cutW_each _ _ _ x h
theorem below_new {B : Nat} {w w2 : World} {o1 o2 : Obj} {v : Option Nat} (hv : ∀ k, v = some k → B ≤ k ∧ k < w.heap.size) (hB : B ≤ w.heap.size) (hg : ((w.alloc o1).alloc o2).grownBy w2 v) : Below B w w2 := by
  have hs := hg.size
  rw [alloc_size, alloc_size] at hs
  refine ⟨hg.os, hg.tape, hg.output, by omega, fun k hk => ?_⟩
  rw [hg.block k (by rw [alloc_size, alloc_size]; omega) (fun e => by have := (hv k e.symm).1; omega), alloc_old _ _ _ (by rw [alloc_size]; omega), alloc_old _ _ _ (by omega)]
theorem below_set {B g k e n c : Nat} {w w2 : World} {o : Obj} {q : Value} (hg : B ≤ g) (he : B ≤ e) (hB : B ≤ w.heap.size) (h : (w.alloc o).grownBy w2 (Value.slice (some ⟨e, 0, none⟩) n c).ownBlock) : Below B w (w2.setCell ⟨g, k, none⟩ q) := by
  have hs := h.size
  rw [alloc_size] at hs
  refine ⟨h.os, h.tape, h.output, by simp [World.setCell]; omega, fun i hi => ?_⟩
  rw [Below.heap_setCell _ _ _ _ (fun e => by simp at e; omega), h.block i (by rw [alloc_size]; omega) (fun q => by simp [Value.ownBlock] at q; omega), alloc_old _ _ _ (by omega)]

set_option maxHeartbeats 8000000 in
set_option maxRecDepth 100000 in
theorem rparts_calls (b : List Int) (limit : Int) (w : World) (blk off c : Nat) (hl : b.length ≤ 1000000) (hb : 0 < b.length) (hlt : blk < w.heap.size) (hv : ∀ (j : Nat) (n : Int), b[j]? = some n → w.cell? ⟨blk, off + j, none⟩ = some (.int .u8 n)) (hc : b.length ≤ c) :
    Calls Tryd.prog 47 #[.slice (some ⟨blk, off, none⟩) b.length c, .int .i64 limit] w fun e w' => ∃ v vals, e = .returned v ∧ PartsAt w.heap.size (cutP b limit) v vals w' ∧ Below w.heap.size w w' := by
  obtain ⟨i0, hi0, hz0, hz1, hz2⟩ := info_parts (P := Tryd.prog) (e := 39) (z := .slice none 0 0) (size := 1) (bytes := 24) (by kernel_rfl)
  obtain ⟨j0, hj0, hy0, hy1, hy2⟩ := info_parts (P := Tryd.prog) (e := 5) (z := .int .u8 0) (size := 1) (bytes := 1) (by kernel_rfl)
  go_enter Tryd.func47, Tryd.ntmps47
  go_wp2
  go_loopw [5, 6] (fun v5 v6 wr => ∃ (i : Nat) (vals : List Value), i ≤ b.length ∧ v6 = .int .i64 i ∧ (limit ≤ 0 → i = 0) ∧ PartsAt w.heap.size (cutP (b.take i) limit) v5 vals wr ∧ Below w.heap.size w wr) (fun _ v6 _ => b.length - (intOf v6).toNat)
  case atStart =>
    have e : cutP (b.take 0) limit = [] := by unfold cutP; split <;> simp [cutW]
    refine ⟨0, [], by omega, rfl, fun _ => rfl, ?_, Below.refl _ _⟩
    rw [e]
    exact ⟨fun _ => rfl, ⟨rfl, .inl ⟨rfl, rfl⟩⟩, fun j x u h => by simp at h, fun j k u y h => by simp at h⟩
  case round =>
    obtain ⟨i, vals, hi, rfl, h0, hP, hB⟩ := hrel
    by_cases h1 : i < b.length
    · have h1' : (i : Int) < b.length := by omega
      by_cases h2 : 0 < limit
      · have hy : ∃ y, b[i]? = some y := ⟨_, List.getElem?_eq_getElem h1⟩
        obtain ⟨y, hy⟩ := hy
        have hcy : wr.cell? ⟨blk, off + i, none⟩ = some (.int .u8 y) := by
          rw [← hv i y hy]; simp [World.cell?, hB.block blk hlt]
        have hst : cutP (b.take (i + 1)) limit = stepR limit.toNat (cutP (b.take i) limit) y := by
          rw [List.take_succ_eq_append_getElem h1, cutP_snoc h2]
          rw [List.getElem?_eq_getElem h1] at hy; simp at hy; rw [hy]
        have hLb := cutP_len (b.take i) limit
        have hLe : ∀ x, x ∈ cutP (b.take i) limit → x.length ≤ 1000000 := fun x hx => by have := cutP_each _ _ x hx; rw [List.length_take] at this; omega
        rw [List.length_take] at hLb
        generalize cutP (b.take i) limit = L at hP hst hLb hLe
        rcases hP.row.2 with ⟨e0, e1⟩ | ⟨g, cap, cur, e0, e1, e2, e3, e4, e5, e6⟩
        · have hLn : L = [] := List.eq_nil_of_length_eq_zero e1
          have hst : cutP (b.take (i + 1)) limit = L ++ [[y]] := by rw [hst, hLn]; rfl
          subst hLn
          subst e0
          go_wp2_with (at_builtin; refine wpList_append_lies _ rfl _ _ 74 rfl w.heap.size 39 i0 (.slice none 0 0) 1 24 Tryd.underlying74 hi0 hz0 hz1 hz2 rfl (by decide) _ 0 vals rfl ((hP.row.alloc _).alloc _) ⟨wr.heap.size + 1, 0, none⟩ 1 1 [.slice (some ⟨wr.heap.size, 0, none⟩) 1 1] rfl rfl ?c1 ?c2 (by omega) ?c3 ?c4 ?c5 _ rfl ?_)
          case c1 => exact World.news_of_block (by rw [← alloc_size wr (.cells #[.int .u8 y] 5)]; exact alloc_new _ _)
          case c2 => intro u hu; simp at hu; subst hu; rfl
          case c3 => unfold maxLen; omega
          case c4 => omega
          case c5 => have := hB.size; rw [alloc_size, alloc_size]; omega
          intro g2 cap2 w2 hown hgrow hat hlt2
          go_wp2
          refine ⟨⟨i + 1, vals ++ [.slice (some ⟨wr.heap.size, 0, none⟩) 1 1], by omega, by simp, by omega, ?_, ?_⟩, by simp [intOf]; omega⟩
          · rw [hst]
            have hPn := hP.next hB.size hown hgrow hat
            exact hPn
          · exact hB.trans (below_new hP.row.lt hB.size hgrow)
        · subst e0
          by_cases hLn : L = []
          · have := hP.nil hLn; cases this
          · obtain ⟨M, z, rfl⟩ : ∃ M z, L = M ++ [z] := ⟨L.dropLast, L.getLast hLn, (List.dropLast_concat_getLast hLn).symm⟩
            have hvl := hP.len
            simp only [List.length_append, List.length_cons, List.length_nil] at hvl hLb e4 e5 e6
            obtain ⟨u, hu⟩ : ∃ u, vals[M.length]? = some u := ⟨_, List.getElem?_eq_getElem (by omega)⟩
            obtain ⟨u1, u2, u3⟩ := hP.each M.length z u (by simp) hu
            obtain ⟨e, cap', rfl, ue1, ue2⟩ := u1.form u2
            have hcu : wr.cell? ⟨g, M.length, none⟩ = some (.slice (some ⟨e, 0, none⟩) z.length cap') := by
              rw [cell_of_row wr g M.length cur 39 (0, 0) e2]
              have : (cur.toList.take ((M.length + 1) * 1))[M.length]? = some (.slice (some ⟨e, 0, none⟩) z.length cap') := by rw [e6]; exact hu
              rw [List.getElem?_take_of_lt (by omega)] at this
              simpa using this
            have hk0 : ¬ (M.length : Int) < 0 := by omega
            obtain ⟨lim, rfl⟩ : ∃ lim : Nat, limit = lim := ⟨limit.toNat, by omega⟩
            have hLM : (M ++ [z]).length = M.length + 1 := by simp
            by_cases hz : z.length = lim
            · have hst : cutP (b.take (i + 1)) (lim : Int) = (M ++ [z]) ++ [[y]] := by rw [hst]; simp [stepR, hz]
              subst hz
              go_wp2_with (at_builtin; refine wpList_append_lies _ rfl _ _ 74 rfl w.heap.size 39 i0 (.slice none 0 0) 1 24 Tryd.underlying74 hi0 hz0 hz1 hz2 rfl (by decide) _ (M ++ [z]).length vals rfl ((hP.row.alloc _).alloc _) ⟨wr.heap.size + 1, 0, none⟩ 1 1 [.slice (some ⟨wr.heap.size, 0, none⟩) 1 1] rfl rfl ?c1 ?c2 (by omega) ?c3 ?c4 ?c5 _ rfl ?_)
              all_goals try (first | (exact World.news_of_block (by rw [← alloc_size wr (.cells #[.int .u8 y] 5)]; exact alloc_new _ _)) | (intro u hu; simp at hu; subst hu; rfl) | (unfold maxLen; omega) | omega | (have := hB.size; rw [alloc_size, alloc_size]; omega))
              intro g2 cap2 w2 hown hgrow hat hlt2
              go_wp2
              refine ⟨⟨i + 1, vals ++ [.slice (some ⟨wr.heap.size, 0, none⟩) 1 1], by omega, by simp, by omega, ?_, ?_⟩, by simp [intOf]; omega⟩
              · rw [hst]
                have hPn := hP.next hB.size (by rw [hLM]; exact hown) hgrow hat
                rw [hLM] at hPn
                exact hPn
              · exact hB.trans (below_new hP.row.lt hB.size hgrow)
            · have hzb : ((z.length : Int) == (lim : Int)) = false := by simp; omega
              have hst : cutP (b.take (i + 1)) (lim : Int) = M ++ [z ++ [y]] := by rw [hst]; simp [stepR, hz]
              have hkl : (M.length : Int) < (M.length : Int) + 1 := by omega
              go_wp2_with fail
              have hnb : (wr.alloc (Obj.cells #[Value.int IntKind.u8 y] 5)).drew.heap[wr.heap.size]? = some (.cells #[.int .u8 y] 5) := alloc_new _ _
              have hone : ∀ q ∈ [Value.int IntKind.u8 y], q.oneCell' = true := by intro q hq; simp at hq; subst hq; rfl
              have hzl : z.length ≤ 1000000 := hLe z (by simp)
              have hm1 : z.length + 1 ≤ maxLen := by unfold maxLen; omega
              have hm2 : (z.length + 1) * 1 ≤ 140737488355328 := by omega
              have hbs : w.heap.size ≤ (wr.alloc (Obj.cells #[Value.int IntKind.u8 y] 5)).drew.heap.size := by
                have := hB.size; show _ ≤ (wr.alloc (Obj.cells #[Value.int IntKind.u8 y] 5)).heap.size; rw [alloc_size]; omega
              have hH : (wr.alloc (Obj.cells #[Value.int IntKind.u8 y] 5)).drew.heap.size = wr.heap.size + 1 := alloc_size _ _
              have hglt := (hP.row.lt g rfl).2
              have hgh : (wr.alloc (Obj.cells #[Value.int IntKind.u8 y] 5)).drew.heap[g]? = some (.cells cur 39 (0, 0)) := (alloc_old wr _ g hglt).trans e2
              have hg1 : (⟨g, M.length, none⟩ : Addr).block < (wr.alloc (Obj.cells #[Value.int IntKind.u8 y] 5)).drew.heap.size := by rw [hH]; exact Nat.lt_succ_of_lt hglt
              have hg2 : some (⟨g, M.length, none⟩ : Addr).block ≠ (Value.slice (some ⟨e, 0, none⟩) z.length cap').ownBlock := fun h => u3 h.symm
              have hc1 : (wr.alloc (Obj.cells #[Value.int IntKind.u8 y] 5)).drew.cell? ⟨g, M.length, none⟩ = some (.slice (some ⟨e, 0, none⟩) z.length cap') := by
                rw [← hcu]; simp only [World.cell?]; rw [hgh, e2]
              have hf1 : (wr.alloc (Obj.cells #[Value.int IntKind.u8 y] 5)).drew.frozen? ⟨g, M.length, none⟩ = false := by
                simp only [World.frozen?]; rw [hgh]; simp
              go_region_law (refine step_append_lies _ rfl (.tmp 45) (.tmp 50) 39 rfl w.heap.size 5 j0 (.int .u8 0) 1 1 Tryd.underlying39 hj0 hy0 hy1 hy2 rfl (by decide) (.slice (some ⟨e, 0, none⟩) z.length cap') z.length (bytesV z) (by simp [Act.eval, Act.put]) (u1.alloc _).drew ⟨wr.heap.size, 0, none⟩ 1 1 [.int .u8 y] (by simp [Act.eval, Act.put]) rfl (World.news_of_block hnb) hone (by omega) hm1 hm2 hbs _ hH ?_; intro e2' cap2 w2 hown hgrow hat hlt2; have q1 := (hgrow.cell_far ⟨g, M.length, none⟩ hg1 hg2).trans hc1; have q2 := (hgrow.frozen_far ⟨g, M.length, none⟩ hg1 hg2).trans hf1)
              all_goals (
                go_wp2
                refine ⟨⟨i + 1, vals.set M.length (.slice (some ⟨e2', 0, none⟩) (z.length + 1) cap2), by omega, by simp, by omega, ?_, ?_⟩, by simp [intOf]; omega⟩)
              all_goals first
                | exact hB.trans (below_set e1 ue1 hB.size (o := .cells #[.int .u8 y] 5) ⟨hgrow.os, hgrow.tape, hgrow.output, hgrow.size, hgrow.block⟩)
                | (rw [hst, ← hLM]; exact hP.more hu hown ⟨hgrow.os, hgrow.tape, hgrow.output, hgrow.size, hgrow.block⟩ hat)
      · have h2' : ¬ limit > 0 := by omega
        have i0' := h0 (by omega)
        subst i0'
        have e : cutP (b.take 0) limit = cutP b limit := by rw [cutP, cutP, if_pos (by omega), if_pos (by omega)]
        rw [e] at hP
        go_wp2
        go_ret
        exact ⟨_, rfl, ⟨vals, hP⟩, hB⟩
    · have h1' : ¬ (i : Int) < b.length := by omega
      have ei : i = b.length := by omega
      subst ei
      rw [List.take_length] at hP
      go_wp2
      go_ret
      exact ⟨_, rfl, ⟨vals, hP⟩, hB⟩
theorem rep_bytes {g : Go.Sy.G} {w : World} {x : List Int} {v : Value} {B : Nat} (h : w.ownsRow B 5 1 v x.length (bytesV x)) (h0 : 0 < x.length) (hI : ∀ k, v.ownBlock = some k → g.I k ∧ ¬ g.R k) : Go.Sy.Rep g w (.sl .imm false 1 (Go.Sy.ints .u8 x)) v := by
  rcases h.2 with ⟨_, e⟩ | ⟨gb, cap, cur, rfl, e1, e2, e3, e4, e5, e6⟩
  · omega
  · have hl : (Go.Sy.ints .u8 x).length = x.length := by simp
    have := Go.Sy.Rep.sl (g := g) (w := w) .imm 1 (Go.Sy.ints .u8 x) gb 0 cap (fun j _ => (bytesV x).getD j .nilFunc) (by rw [hl]; exact e3) e4 (hI gb rfl) (fun y hy => Go.Sy.ints_data _ hy) (fun y hy => by
        simp only [Go.Sy.ints, List.mem_map] at hy
        obtain ⟨n, _, rfl⟩ := hy; rfl) (fun j y hj i hi => by
        obtain rfl : i = 0 := by omega
        have hjl : j < x.length := by have := (List.getElem?_eq_some_iff.1 hj).1; rwa [hl] at this
        rw [cell_of_row w gb _ cur 5 (0, 0) e2]
        have : (cur.toList.take (x.length * 1))[j]? = (bytesV x)[j]? := by rw [e6]
        rw [List.getElem?_take_of_lt (by omega)] at this
        have hb : (bytesV x)[j]? = some ((bytesV x).getD j .nilFunc) := by
          rw [List.getD_eq_getElem?_getD, List.getElem?_eq_getElem (by simpa [bytesV] using hjl)]; rfl
        rw [hb] at this
        simpa using this) (fun j y hj i q hq => by
        simp only [Go.Sy.ints, List.getElem?_map, Option.map_eq_some_iff] at hj
        obtain ⟨n, hn, rfl⟩ := hj
        match i, hq with
        | 0, hq =>
          simp only [Go.Sy.PV.comps, List.getElem?_cons_zero, Option.some.injEq] at hq
          subst hq
          have hb : (bytesV x).getD j .nilFunc = .int .u8 n := by rw [List.getD_eq_getElem?_getD, bytesV, List.getElem?_map, hn]; rfl
          rw [hb]; exact .lit _)
    rwa [hl] at this
end Go.Proofs.YtekokchejkjjjaaDoor

/-! Bundles: the document's Parts, as a contract. -/
namespace Go.Sy
theorem callable_of {P : Program} {f : FuncId} {fn : Func} {c : Code} (hf : P.funcs[f]? = some fn) (hb : fn.body = some c) (hnm : fn.name ≠ "runtime.NumGoroutine") : Callable P f := fun args w => by simp [callFunc, hf, hb, hnm]
/-- New memory, as memory that turns no more. -/
def G.more (g : G) (a b : Nat) : G := { g with I := fun k => g.I k ∨ (a ≤ k ∧ k < b) }
end Go.Sy
namespace Go.Proofs.YtekokchejkjjjaaDoor
open Go.Sy
theorem more_wf {g : G} {w w' : World} (hw : WF g w) (hb : Go.RowKit.Below w.heap.size w w') : WF (g.more w.heap.size w'.heap.size) w' := by
  have h := hw.grown hb.size hb.block
  refine ⟨h.dlt, h.llt, ?_, h.dinj, h.linj, h.dl, ?_, ?_, h.glob.mono (fun b hb => ⟨.inl hb, rfl⟩) rfl, fun b hb => .inl (h.ri b hb)⟩
  · rintro b (hb | ⟨_, hb⟩)
    · exact h.ilt b hb
    · exact hb
  · rintro i hi (hb | ⟨hb, _⟩)
    · exact h.di i hi hb
    · have : w.heap.size ≤ g.μ i := hb
      have := hw.dlt i hi; omega
  · rintro t ht (hb | ⟨hb, _⟩)
    · exact h.li t ht hb
    · have : w.heap.size ≤ g.ν t := hb
      have := hw.llt t ht; omega

set_option maxRecDepth 100000 in
set_option maxHeartbeats 4000000 in
theorem rparts0_fn (nl : Bool) (limit : Int) : Fc Tryd.prog 47 [.sl .imm nl 1 (u8s []), .lit (.int .i64 limit)] [] (.sl .imm true 1 []) [] := by
  refine Fc.of (anys _ []) [] mixed Tryd.func47 rfl (by rfl) (by simp [Tryd.ntmps47]) (by decide) ?_
  simp -implicitDefEqProofs -dsimp [Tryd.ntmps47]
  refine LpK.mk (anys _ []) mixed (fun _ => True) (fun (_ : Unit) => ⟨[(0, .sl .imm nl 1 []), (1, .lit (.int .i64 limit)), (5, .sl .imm true 1 []), (6, .lit (.int .i64 0))], [], 54⟩) (fun _ => 0) () trivial (by simp -implicitDefEqProofs -dsimp) ?_
  rintro ⟨⟩ -
  simp -implicitDefEqProofs -dsimp
theorem rparts_fn (nl : Bool) (b : List Int) (hl : b.length ≤ 1000000) (limit : Int) : Fc Tryd.prog 47 [.sl .imm nl 1 (u8s b), .lit (.int .i64 limit)] [] (.sl .imm (cutP b limit).isEmpty 1 (rws (cutP b limit))) [] := by
  by_cases hb : b = []
  · subst hb
    have e : cutP [] limit = [] := by unfold cutP; split <;> simp [cutW]
    rw [e]; exact rparts0_fn nl limit
  · have hbl := List.length_pos_iff.2 hb
    refine ⟨callable_of Tryd.func47 rfl (by decide), fun g w vs _ hw ha => ?_⟩
    have h0 : ∃ v0, vs[0]? = some v0 := ⟨_, Array.getElem?_eq_getElem (by have := ha.1; simp at this; omega)⟩
    obtain ⟨v0, hv0⟩ := h0
    have h1 : ∃ v1, vs[1]? = some v1 := ⟨_, Array.getElem?_eq_getElem (by have := ha.1; simp at this; omega)⟩
    obtain ⟨v1, hv1⟩ := h1
    have r0 := ha.2 0 _ v0 rfl hv0
    have r1 := (ha.2 1 _ v1 rfl hv1).lit_inv
    subst r1
    have hvs : vs = #[v0, .int .i64 limit] := by
      apply Array.ext
      · have := ha.1; simpa using this
      · intro i q1 q2
        match i, q1 with
        | 0, q1 => rw [Array.getElem?_eq_getElem q1] at hv0; simpa using hv0
        | 1, q1 => rw [Array.getElem?_eq_getElem q1] at hv1; simpa using hv1
        | i + 2, q1 => exact absurd q2 (by simp)
    subst hvs
    generalize hX : u8s b = X at r0
    have hXl : X.length = b.length := by rw [← hX]; simp
    cases r0 with
    | nils => simp at hXl; omega
    | sle => simp at hXl; omega
    | sl _ _ _ blk off c U hc hm hacc hd hs hcell hrep =>
      subst hX
      have hcells : ∀ (j : Nat) (n : Int), b[j]? = some n → w.cell? ⟨blk, off + j, none⟩ = some (.int .u8 n) := fun j n hj => by
        have hx : (u8s b)[j]? = some (.lit (.int .u8 n)) := by simp [ints, hj]
        have hc1 := hcell j _ hx 0 (by omega)
        have hr := (hrep j _ hx 0 (.lit (.int .u8 n)) rfl).lit_inv
        rw [hr] at hc1
        simpa using hc1
      rw [hXl]
      have hc' : b.length ≤ c := by rw [← hXl]; exact hc
      refine CallsIn.mono (callsIn_wide.2 (rparts_calls b limit w blk off c hl hbl (hw.ilt blk hacc.1) hcells hc')) ?_
      rintro e w' ⟨v, vals, rfl, hP, hB⟩
      have hI : ∀ k, w.heap.size ≤ k → k < w'.heap.size → (g.more w.heap.size w'.heap.size).I k ∧ ¬ (g.more w.heap.size w'.heap.size).R k := fun k q1 q2 => ⟨.inr ⟨q1, q2⟩, fun hr => by
        have := hw.ilt k (hw.ri k hr); omega⟩
      refine ⟨v, _, g.more w.heap.size w'.heap.size, [], rfl, ⟨rfl, rfl⟩, ?_, fun _ _ h => by simp [getO] at h, more_wf hw hB,
        ⟨hB.os, hB.tape, hB.output, hB.size, fun b h _ => hB.block b h, fun b h => .inl h, fun b h => ?_, fun i _ => ⟨rfl, fun h => h⟩, rfl⟩⟩
      · by_cases hL : cutP b limit = []
        · have := hP.nil hL
          subst this
          rw [hL]; exact .nils _ _
        · have hne : (cutP b limit).isEmpty = false := by cases h : cutP b limit with
            | nil => exact absurd h hL
            | cons => rfl
          have hvl := hP.len
          have hLl := List.length_pos_iff.2 hL
          rcases hP.row.2 with ⟨_, q⟩ | ⟨gb, cap, cur, rfl, e1, e2, e3, e4, e5, e6⟩
          · omega
          · have hl2 : (rws (cutP b limit)).length = (cutP b limit).length := by simp
            have hlt := (hP.row.lt gb rfl).2
            have := Rep.sl (g := g.more w.heap.size w'.heap.size) (w := w') .imm 1 (rws (cutP b limit)) gb 0 cap (fun j _ => vals.getD j .nilFunc) (by rw [hl2]; exact e3) e4 (hI gb e1 hlt) (fun y hy => rws_data _ hy) (fun y hy => by
                simp only [rws, List.mem_map] at hy
                obtain ⟨n, _, rfl⟩ := hy; rfl) (fun j y hj i hi => by
                obtain rfl : i = 0 := by omega
                have hjl : j < (cutP b limit).length := by have := (List.getElem?_eq_some_iff.1 hj).1; rwa [hl2] at this
                rw [Go.cell_of_row w' gb _ cur 39 (0, 0) e2]
                have : (cur.toList.take ((cutP b limit).length * 1))[j]? = vals[j]? := by rw [e6]
                rw [List.getElem?_take_of_lt (by omega)] at this
                have hb : vals[j]? = some (vals.getD j .nilFunc) := by
                  rw [List.getD_eq_getElem?_getD, List.getElem?_eq_getElem (by omega)]; rfl
                rw [hb] at this
                simpa using this) (fun j y hj i q hq => by
                simp only [rws, List.getElem?_map, Option.map_eq_some_iff] at hj
                obtain ⟨x, hx, rfl⟩ := hj
                match i, hq with
                | 0, hq =>
                  simp only [PV.comps, List.getElem?_cons_zero, Option.some.injEq] at hq
                  subst hq
                  have hjl := (List.getElem?_eq_some_iff.1 hx).1
                  have hb : vals[j]? = some (vals.getD j .nilFunc) := by
                    rw [List.getD_eq_getElem?_getD, List.getElem?_eq_getElem (by omega)]; rfl
                  obtain ⟨a1, a2, a3⟩ := hP.each j x _ hx hb
                  exact rep_bytes a1 a2 fun k hk => hI k (a1.lt k hk).1 (a1.lt k hk).2)
            rw [hne]
            rwa [hl2] at this
      · rcases h with h | ⟨h, _⟩
        · exact .inl h
        · exact .inr (.inr h)
end Go.Proofs.YtekokchejkjjjaaDoor
