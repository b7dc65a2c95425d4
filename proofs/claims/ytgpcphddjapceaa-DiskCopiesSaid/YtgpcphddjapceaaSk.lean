/- The rule of a region that draws its order. -/
import Derived.Test.YtgpcphddjapceaaSj
namespace Go.Sy

/-- An evaluation: stages of operations that change no memory, parted by those that do; 'true' where an operation is looked at first. -/
structure Sch where
  anc : List Nat
  first : List (Bool × Nat)
  rest : List (Nat × List (Bool × Nat))

def ancB (A : List Nat) (j i : Nat) : Bool := (A.getD i 0).testBit j
def dstAt (ops : Array Oper) (i : Nat) : Option Tmp := (ops[i]?).bind (·.dst)
def looksOf (ops : Array Oper) (i : Nat) : List Tmp := match ops[i]? with
  | some o => o.looksAt ops
  | none => []

def okA (ops : Array Oper) (A : List Nat) : Bool := (List.range ops.size).all fun i => match ops[i]? with
  | none => true
  | some o => (o.after.toList.all fun e => !Region.binds .any e || decide (e.on < i)) && (List.range ops.size).all fun j => !ancB A j i || o.after.toList.any fun e => Region.binds .any e && (e.on == j || ancB A j e.on)

def newsOf : List (Bool × Nat) → List Nat
  | [] => []
  | (true, i) :: l => i :: newsOf l
  | (false, _) :: l => newsOf l

def stageOK (ops : Array Oper) : List (Bool × Nat) → Bool
  | [] => true
  | (_, i) :: l => ((newsOf l).all fun j => match dstAt ops j with
      | none => true
      | some d => !(looksOf ops i).contains d && dstAt ops i != some d) && stageOK ops l

def pureAt (P : Program) (ops : Array Oper) (i : Nat) : Bool := match ops[i]? with
  | some o => isPure P o
  | none => false

def readOK (ops : Array Oper) (A : List Nat) (N : List Nat) : Bool := N.all fun j => match dstAt ops j with
  | none => true
  | some d => (List.range ops.size).all fun i => !(looksOf ops i).contains d || (j != i && ancB A j i)

def covOK (ops : Array Oper) (A : List Nat) : List Nat → List (Bool × Nat) → List (Nat × List (Bool × Nat)) → Bool
  | D, ps, [] => (List.range ops.size).all fun i => ps.any (·.2 == i) || D.contains i || D.any fun e => decide (e < ops.size) && ancB A i e
  | D, ps, (e, qs) :: L => ((List.range ops.size).all fun i => ps.any (·.2 == i) || D.contains i || (D.any fun e => decide (e < ops.size) && ancB A i e) || e == i || ((e, qs) :: L).any fun f => decide (f.1 < ops.size) && ancB A f.1 i) && covOK ops A (e :: D) qs L

def allNews (s : Sch) : List Nat := newsOf s.first ++ s.rest.flatMap fun f => newsOf f.2
def sepOK : List Nat → List Nat → List (Nat × List (Bool × Nat)) → Bool
  | _, _, [] => true
  | D, M, (e, qs) :: L => !D.contains e && !M.contains e && ((newsOf qs).all fun j => !D.contains j && !M.contains j && j != e) && (qs.all fun q => (newsOf qs ++ M).contains q.2) && sepOK (e :: D) (newsOf qs ++ M) L

def Sch.ok (P : Program) (ops : Array Oper) (s : Sch) : Bool :=
  okA ops s.anc && readOK ops s.anc (allNews s) && covOK ops s.anc [] s.first s.rest && sepOK [] (newsOf s.first) s.rest && (s.first.all fun q => (newsOf s.first).contains q.2) &&
  (s.first.all fun q => pureAt P ops q.2) && (s.rest.all fun f => f.2.all fun q => pureAt P ops q.2) && stageOK ops s.first && s.rest.all fun f => stageOK ops f.2

def pwP (P : Program) (E : List (Spec P)) (ops : Array Oper) : List (Bool × Nat) → St → (St → Prop) → Prop
  | [], st, K => K st
  | (true, i) :: l, st, K => match ops[i]? with
    | some o => (∀ d, o.dst = some d → d < st.nt) ∧ pwG P E ops o st fun s => pwP P E ops l s K
    | none => False
  | (false, i) :: l, st, K => match ops[i]? with
    | some o => (∀ d, o.dst = some d → d < st.nt) ∧ (pwG P E ops o st fun s => ∀ d, o.dst = some d → getR s.regs d = getR st.regs d) ∧ pwP P E ops l st K
    | none => False

def pwE (P : Program) (E : List (Spec P)) (ops : Array Oper) : List (Nat × List (Bool × Nat)) → St → (St → Prop) → Prop
  | [], st, K => K st
  | (e, ps) :: L, st, K => match ops[e]? with
    | some o => (∀ d, o.dst = some d → d < st.nt) ∧ pwG P E ops o st fun s => pwP P E ops ps s fun s => pwE P E ops L s K
    | none => False

section
variable {P : Program} {E : List (Spec P)} {r : Option Nat} {ops : Array Oper}

/-- What an operation that may be guarded does. -/
def OpG (P : Program) (r : Option Nat) (ops : Array Oper) (o : Oper) (st : St) (R : St → Prop) : Prop :=
  ∀ i, ops[i]? = some o → ∀ g a w, Sim g st a w → WF g w → ∀ (K : Act → World → Prop) (Q : Exit → Act → World → Prop),
    (∀ g' st' a' w', R st' → Sim g' st' a' w' → WF g' w' → Ext g w g' w' → a'.defers = a.defers → K a' w') → wpOpIn (FR r) 0 P ops Q i K a w

theorem OpG.of {o : Oper} {st : St} {R : St → Prop} (hg : o.guard = none) (h : OpOK P r o st R) : OpG P r ops o st R := by
  intro i hi g a w hs hw K Q hk
  unfold wpOpIn
  simp only [hi]
  rw [if_pos (by simp [Region.wanted, hg])]
  exact h g a w hs hw K Q hk

theorem Spc.map {pw pw' : St → (St → Prop) → Prop} {o : Oper} {st : St} {K : St → Prop} (h : Spc P ops pw o st K) (hp : ∀ rs', (∀ s, s ∈ o.looksAt ops → getR rs' s = getR st.regs s) → ∀ R, pw ⟨rs', st.heap, st.nt⟩ R → pw' ⟨rs', st.heap, st.nt⟩ R) : Spc P ops pw' o st K := by
  obtain ⟨T, h', x, a, b, c, d⟩ := h
  exact ⟨T, h', x, a, b, c, fun rs' hg => hp rs' hg _ (d rs' hg)⟩

theorem pwG_spc {o : Oper} {st : St} {K : St → Prop} (h : pwG P E ops o st K) : Spc P ops (OpG P r ops o) o st K := by
  unfold pwG at h
  split at h
  · rename_i hg
    exact (pw1_spc (r := r) (ops := ops) h).map fun rs' _ R hr => OpG.of hg hr
  · rename_i j b hg
    obtain ⟨y, hy, h12⟩ := onYld_iff.1 h
    obtain ⟨h1, h2⟩ := cnd_y.1 h12
    have hlook : ∀ d, slotOf ops j = some d → d ∈ o.looksAt ops := fun d hd => by
      have : ((ops[j]?).bind (·.dst)).toList = [d] := by
        have : (ops[j]?).bind (·.dst) = some d := hd
        rw [this]; rfl
      simp only [Oper.looksAt, hg, List.mem_append]
      exact .inr (by rw [this]; simp)
    have hyl : ∀ rs', (∀ s, s ∈ o.looksAt ops → getR rs' s = getR st.regs s) → yldPV ⟨rs', st.heap, st.nt⟩ (slotOf ops j) = some y := fun rs' hgr => by
      rw [← hy]
      cases hd : slotOf ops j with
      | none => rfl
      | some d => simp only [yldPV]; rw [hgr d (hlook d hd)]
    have hwant : ∀ rs', (∀ s, s ∈ o.looksAt ops → getR rs' s = getR st.regs s) → ∀ g a w, Sim g ⟨rs', st.heap, st.nt⟩ a w → Region.wanted o (yielded ops a.tmps) = (y == some b) := fun rs' hgr g a w hs => by
      have := yldPV_ok hs (hyl rs' hgr)
      simp [Region.wanted, hg, this]
    by_cases e : y = some b
    · refine (pw1_spc (r := r) (ops := ops) (h1 e)).map fun rs' hgr R hr i hi g a w hs hw K' Q hk => ?_
      unfold wpOpIn
      simp only [hi]
      rw [if_pos (by rw [hwant rs' hgr g a w hs]; simp [e])]
      exact hr g a w hs hw K' Q hk
    · refine Spc.pure _ (h2 e) fun rs' hgr i hi g a w hs hw K' Q hk => ?_
      unfold wpOpIn
      simp only [hi]
      rw [if_neg (by rw [hwant rs' hgr g a w hs]; simpa using e)]
      exact ⟨fun _ _ => trivial, hk g _ _ _ rfl (hs.put (.lit undef) _) hw (Ext.refl g w) (Act.put_eq _ _ _)⟩

/-! ### Which are listed -/

def Lst (listed : Array Bool) (i : Nat) : Prop := listed.getD i false = true

theorem lst_iff {listed : Array Bool} {i : Nat} (h : i < listed.size) : listed.getD i true = true ↔ Lst listed i := by
  simp [Lst, h]

theorem lst_set {listed : Array Bool} {i k : Nat} (h : i < listed.size) : Lst (listed.setIfInBounds i true) k ↔ k = i ∨ Lst listed k := by
  unfold Lst
  simp only [Array.getD_eq_getD_getElem?, Array.getElem?_setIfInBounds]
  by_cases e : i = k
  · subst e; simp [h]
  · rw [if_neg e]; simp [Ne.symm e]

def unl (listed : Array Bool) : Nat → Nat
  | 0 => 0
  | k + 1 => unl listed k + (if listed.getD k false = true then 0 else 1)

theorem unl_zero {listed : Array Bool} (n : Nat) (h : unl listed n = 0) : ∀ i, i < n → Lst listed i := by
  induction n with
  | zero => exact fun i hi => by omega
  | succ n ih =>
    intro i hi
    simp only [unl] at h
    by_cases e : i = n
    · subst e
      by_cases hl : listed.getD i false = true
      · exact hl
      · rw [if_neg hl] at h; omega
    · exact ih (by omega) i (by omega)

theorem unl_set {listed : Array Bool} {i : Nat} (hi : i < listed.size) (hl : ¬ Lst listed i) (n : Nat) : unl (listed.setIfInBounds i true) n + (if i < n then 1 else 0) = unl listed n := by
  induction n with
  | zero => simp [unl]
  | succ n ih =>
    simp only [unl]
    have hk := lst_set (listed := listed) (i := i) (k := n) hi
    unfold Lst at hk hl
    by_cases e : n = i
    · subst e
      rw [if_pos (hk.2 (.inl rfl)), if_neg hl, if_pos (by omega)]
      rw [if_neg (by omega)] at ih
      omega
    · by_cases h2 : listed.getD n false = true
      · rw [if_pos (hk.2 (.inr h2)), if_pos h2]
        by_cases h3 : i < n
        · rw [if_pos h3] at ih; rw [if_pos (by omega)]; omega
        · rw [if_neg h3] at ih; rw [if_neg (by omega)]; omega
      · rw [if_neg (fun h => h2 ((hk.1 h).resolve_left e)), if_neg h2]
        by_cases h3 : i < n
        · rw [if_pos h3] at ih; rw [if_pos (by omega)]; omega
        · rw [if_neg h3] at ih; rw [if_neg (by omega)]; omega

theorem unl_le (listed : Array Bool) (n : Nat) : unl listed n ≤ n := by
  induction n with
  | zero => exact Nat.le_refl _
  | succ n ih => simp only [unl]; split <;> omega

def Closed (ops : Array Oper) (listed : Array Bool) : Prop := ∀ i o, ops[i]? = some o → Lst listed i → ∀ e ∈ o.after, Region.binds .any e = true → Lst listed e.on

theorem anc_listed {A : List Nat} (hA : okA ops A = true) {listed : Array Bool} (hc : Closed ops listed) : ∀ i j, i < ops.size → j < ops.size → ancB A j i = true → Lst listed i → Lst listed j := by
  intro i
  induction i using Nat.strongRecOn with
  | _ i ih =>
    intro j hi hj ha hl
    have h := List.all_eq_true.1 hA i (List.mem_range.2 hi)
    rw [Array.getElem?_eq_getElem hi] at h
    simp only [Bool.and_eq_true] at h
    have h2 := List.all_eq_true.1 h.2 j (List.mem_range.2 hj)
    rw [ha] at h2
    simp only [Bool.not_true, Bool.false_or, List.any_eq_true, Bool.and_eq_true, Bool.or_eq_true, beq_iff_eq] at h2
    obtain ⟨e, he, hb, h3⟩ := h2
    have hlt : e.on < i := by
      have := List.all_eq_true.1 h.1 e he
      rw [hb] at this
      simpa using this
    have hle := hc i ops[i] (Array.getElem?_eq_getElem hi) hl e (by simpa using he) hb
    rcases h3 with h3 | h3
    · exact h3 ▸ hle
    · exact ih e.on hlt j (by omega) hj h3 hle

/-- Where nothing is ready all is listed. -/
theorem all_listed {A : List Nat} (hA : okA ops A = true) {listed : Array Bool} (hs : listed.size = ops.size) (hr : Region.ready .any ops listed = []) : ∀ i, i < ops.size → Lst listed i := by
  intro i
  induction i using Nat.strongRecOn with
  | _ i ih =>
    intro hi
    have h := List.all_eq_true.1 hA i (List.mem_range.2 hi)
    rw [Array.getElem?_eq_getElem hi] at h
    simp only [Bool.and_eq_true] at h
    by_cases hl : Lst listed i
    · exact hl
    · have : i ∈ Region.ready .any ops listed := mem_ready.2 ⟨by
        have := lst_iff (listed := listed) (i := i) (by omega)
        cases hx : listed.getD i true
        · rfl
        · exact absurd (this.1 hx) hl, ops[i], Array.getElem?_eq_getElem hi, fun e he hb => by
        have := List.all_eq_true.1 h.1 e (by simpa using he)
        rw [hb] at this
        have hlt : e.on < i := by simpa using this
        exact ih e.on hlt (by omega)⟩
      rw [hr] at this; cases this

theorem ready_cases {listed : Array Bool} (hs : listed.size = ops.size) {i : Nat} (hr : i ∈ Region.ready .any ops listed) : i < ops.size ∧ ¬ Lst listed i ∧ ∃ o, ops[i]? = some o ∧ ∀ e ∈ o.after, Region.binds .any e = true → Lst listed e.on := by
  obtain ⟨h1, o, ho, h2⟩ := mem_ready.1 hr
  have hi := (Array.getElem?_eq_some_iff.1 ho).1
  exact ⟨hi, fun h => (by rw [(lst_iff (by omega)).2 h] at h1; cases h1), o, ho, h2⟩

theorem anc_ready {A : List Nat} (hA : okA ops A = true) {listed : Array Bool} (hc : Closed ops listed) (hs : listed.size = ops.size) {i j : Nat} (hr : i ∈ Region.ready .any ops listed) (hj : j < ops.size) (ha : ancB A j i = true) : Lst listed j := by
  obtain ⟨hi, _, o, ho, hp⟩ := ready_cases hs hr
  have h := List.all_eq_true.1 hA i (List.mem_range.2 hi)
  rw [ho] at h
  simp only [Bool.and_eq_true] at h
  have h2 := List.all_eq_true.1 h.2 j (List.mem_range.2 hj)
  rw [ha] at h2
  simp only [Bool.not_true, Bool.false_or, List.any_eq_true, Bool.and_eq_true, Bool.or_eq_true, beq_iff_eq] at h2
  obtain ⟨e, he, hb, h3⟩ := h2
  have hlt : e.on < i := by
    have := List.all_eq_true.1 h.1 e he
    rw [hb] at this
    simpa using this
  have hle := hp e (by simpa using he) hb
  rcases h3 with h3 | h3
  · exact h3 ▸ hle
  · exact anc_listed hA hc e.on j (by omega) hj h3 hle

theorem Closed.set {listed : Array Bool} (hc : Closed ops listed) (hs : listed.size = ops.size) {i : Nat} (hr : i ∈ Region.ready .any ops listed) : Closed ops (listed.setIfInBounds i true) := by
  obtain ⟨hi, _, o, ho, h2⟩ := ready_cases hs hr
  intro k ok hk hl e he hb
  rw [lst_set (by omega)] at hl ⊢
  rcases hl with rfl | hl
  · rw [ho] at hk; cases hk; exact .inr (h2 e he hb)
  · exact .inr (hc k ok hk hl e he hb)

end
end Go.Sy
