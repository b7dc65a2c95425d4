/- Bundles: what the laws ask, of objects and of texts. (and what stands on it) -/
import Derived.Test.YtekokchejkjjjaaDoorNl
set_option linter.unusedSimpArgs false
set_option linter.unusedVariables false

/-! Bundles: what the laws ask, of objects and of texts. -/
namespace Go.Sy
def OB.key (o : OB) : ByteArray × List Int := (o.id, o.b)
end Go.Sy
namespace Go.Proofs.YtekokchejkjjjaaDoor
open Go.Sy
def fewO (l : List OB) : Bool := l.all (fun o => decide (o.id.size ≤ 40 ∧ o.b.length ≤ 60)) && decide (l.length ≤ 6)
theorem fewO_iff {l : List OB} (h : fewO l = true) : l.length ≤ 6 ∧ ∀ o, o ∈ l → o.id.size ≤ 40 ∧ o.b.length ≤ 60 := by
  simp only [fewO, Bool.and_eq_true, decide_eq_true_eq, List.all_eq_true] at h
  exact ⟨h.2, h.1⟩
set_option maxRecDepth 100000 in
set_option maxHeartbeats 4000000 in
theorem ofew_fn (nl : Bool) (l : List OB) (hl : l.length ≤ 9223372036854775807) : Fc Tryd.prog 37 [.sl .imm nl 2 (obl l)] [] (.lit (.bool (fewO l))) [] := by
  refine Fc.of (anys _ []) [] mixed Tryd.func37 rfl (by rfl) (by simp [Tryd.ntmps37]) (by decide) ?_
  simp -implicitDefEqProofs -dsimp [Tryd.ntmps37]
  refine LpK.mk (anys _ []) mixed (fun i : Nat => i ≤ l.length ∧ ∀ j (hj : j < l.length), j < i → (l[j]'hj).id.size ≤ 40 ∧ (l[j]'hj).b.length ≤ 60) (fun i => ⟨[(0, .sl .imm nl 2 (obl l)), (3, .lit (.int .i64 i))], [], 29⟩) (fun i => l.length - i) 0 ⟨by omega, fun j _ h => by omega⟩ (by simp -implicitDefEqProofs -dsimp) ?_
  rintro i ⟨hi, hall⟩
  by_cases hlt : i < l.length
  · obtain ⟨p, hp⟩ : ∃ p, l[i] = p := ⟨_, rfl⟩
    have hp' : l[i]? = some p := by rw [List.getElem?_eq_getElem hlt, hp]
    have hw : IntKind.i64.wrap ((i : Int) + 1) = (i : Int) + 1 := wrap64 (by omega) (by omega)
    have hf : ¬ (p.id.size ≤ 40 ∧ p.b.length ≤ 60) → fewO l = false := fun h => by
      have : l.all (fun o => decide (o.id.size ≤ 40 ∧ o.b.length ≤ 60)) = false := by
        rw [List.all_eq_false]; exact ⟨p, hp ▸ List.getElem_mem hlt, by simpa using h⟩
      rw [fewO, this]; rfl
    by_cases c : 40 < (p.id.size : Int)
    · have hf := hf (by omega)
      simp -implicitDefEqProofs -dsimp [hlt, hp, hp', c, hf, OB.cells]
    · by_cases c2 : 60 < (p.b.length : Int)
      · have hf := hf (by omega)
        simp -implicitDefEqProofs -dsimp [hlt, hp, hp', c, c2, hf, OB.cells]
      · simp -implicitDefEqProofs -dsimp [hlt, hp, hp', c, c2, hw, OB.cells]
        refine .mk (i + 1) ⟨hlt, fun j hj hji => ?_⟩ (by omega) (by simp -implicitDefEqProofs -dsimp)
        rcases Nat.lt_or_ge j i with h | h
        · exact hall j hj h
        · have : j = i := by omega
          subst this; rw [hp]; omega
  · have ein : i = l.length := by omega
    have hA : l.all (fun o => decide (o.id.size ≤ 40 ∧ o.b.length ≤ 60)) = true := by
      rw [List.all_eq_true]; intro s hs
      obtain ⟨j, hj, rfl⟩ := List.getElem_of_mem hs
      exact decide_eq_true (hall j hj (by omega))
    subst ein
    have e : decide ((l.length : Int) ≤ 6) = decide (l.length ≤ 6) := by congr 1; rw [eq_iff_iff]; omega
    have hF : fewO l = decide (l.length ≤ 6) := by rw [fewO, hA]; rfl
    simp -implicitDefEqProofs -dsimp [hlt, hF, e]

def textsB (l : List ByteArray) : Bool := l.all (fun s => decide (s.size ≤ 60)) && decide (l.length ≤ 6)
theorem textsB_iff {l : List ByteArray} (h : textsB l = true) : l.length ≤ 6 ∧ ∀ s, s ∈ l → s.size ≤ 60 := by
  simp only [textsB, Bool.and_eq_true, decide_eq_true_eq, List.all_eq_true] at h
  exact ⟨h.2, h.1⟩
set_option maxRecDepth 100000 in
set_option maxHeartbeats 4000000 in
theorem texts_fn (nl : Bool) (l : List ByteArray) (hl : l.length ≤ 9223372036854775807) : Fc Tryd.prog 43 [.sl .imm nl 1 (idc l)] [] (.lit (.bool (textsB l))) [] := by
  refine Fc.of (anys _ []) [] mixed Tryd.func43 rfl (by rfl) (by simp [Tryd.ntmps43]) (by decide) ?_
  simp -implicitDefEqProofs -dsimp [Tryd.ntmps43]
  refine LpK.mk (anys _ []) mixed (fun i : Nat => i ≤ l.length ∧ ∀ j (hj : j < l.length), j < i → (l[j]'hj).size ≤ 60) (fun i => ⟨[(0, .sl .imm nl 1 (idc l)), (3, .lit (.int .i64 i))], [], 19⟩) (fun i => l.length - i) 0 ⟨by omega, fun j _ h => by omega⟩ (by simp -implicitDefEqProofs -dsimp) ?_
  rintro i ⟨hi, hall⟩
  by_cases hlt : i < l.length
  · obtain ⟨p, hp⟩ : ∃ p, l[i] = p := ⟨_, rfl⟩
    have hp' : l[i]? = some p := by rw [List.getElem?_eq_getElem hlt, hp]
    have hw : IntKind.i64.wrap ((i : Int) + 1) = (i : Int) + 1 := wrap64 (by omega) (by omega)
    by_cases c : 60 < (p.size : Int)
    · have hf : textsB l = false := by
        have : l.all (fun s => decide (s.size ≤ 60)) = false := by
          rw [List.all_eq_false]; exact ⟨p, hp ▸ List.getElem_mem hlt, by simp; omega⟩
        rw [textsB, this]; rfl
      simp -implicitDefEqProofs -dsimp [hlt, hp, hp', c, hf]
    · simp -implicitDefEqProofs -dsimp [hlt, hp, hp', c, hw]
      refine .mk (i + 1) ⟨hlt, fun j hj hji => ?_⟩ (by omega) (by simp -implicitDefEqProofs -dsimp)
      rcases Nat.lt_or_ge j i with h | h
      · exact hall j hj h
      · have : j = i := by omega
        subst this; rw [hp]; omega
  · have ein : i = l.length := by omega
    have hA : l.all (fun s => decide (s.size ≤ 60)) = true := by
      rw [List.all_eq_true]; intro s hs
      obtain ⟨j, hj, rfl⟩ := List.getElem_of_mem hs
      exact decide_eq_true (hall j hj (by omega))
    subst ein
    have e : decide ((l.length : Int) ≤ 6) = decide (l.length ≤ 6) := by congr 1; rw [eq_iff_iff]; omega
    simp -implicitDefEqProofs -dsimp [hlt, textsB, hA, e]

def sameO (a b : List OB) : Bool := decide (a.map OB.key = b.map OB.key)
set_option maxRecDepth 100000 in
set_option maxHeartbeats 8000000 in
theorem osame_fn (n1 n2 : Bool) (a b : List OB) (hl : a.length ≤ 140737488355328) (hb : ∀ o, o ∈ a → o.b.length < 9223372036854775807) :
    Fc Tryd.prog 42 [.sl .imm n1 2 (obl a), .sl .imm n2 2 (obl b)] [] (.lit (.bool (sameO a b))) [] := by
  by_cases h0 : a.length = b.length
  · refine Fc.of (anys _ [26]) sch42 mixed Tryd.func42 rfl (by rfl) (by simp [Tryd.ntmps42]) (by decide) ?_
    simp -implicitDefEqProofs -dsimp [Tryd.ntmps42, h0]
    refine LpK.mk (anys _ [26]) mixed (fun i : Nat => i ≤ a.length ∧ (a.map OB.key).take i = (b.map OB.key).take i) (fun i => ⟨[(0, .sl .imm n1 2 (obl a)), (1, .sl .imm n2 2 (obl b)), (5, .lit (.int .i64 i))], [], 42⟩) (fun i => a.length - i) 0 (by simp) (by simp -implicitDefEqProofs -dsimp) ?_
    rintro i ⟨hi, ht⟩
    by_cases hlt : i < a.length
    · have hlt2 : i < b.length := by omega
      obtain ⟨p, hp⟩ : ∃ p, a[i] = p := ⟨_, rfl⟩
      have hp' : a[i]? = some p := by rw [List.getElem?_eq_getElem hlt, hp]
      obtain ⟨q, hq⟩ : ∃ q, b[i] = q := ⟨_, rfl⟩
      have hq' : b[i]? = some q := by rw [List.getElem?_eq_getElem hlt2, hq]
      have hw : IntKind.i64.wrap ((i : Int) + 1) = (i : Int) + 1 := wrap64 (by omega) (by omega)
      have hne : ¬ p.key = q.key → sameO a b = false := fun h => by
        simp only [sameO, decide_eq_false_iff_not]
        intro e
        have : (a.map OB.key)[i]? = (b.map OB.key)[i]? := by rw [e]
        rw [List.getElem?_map, List.getElem?_map, hp', hq'] at this
        exact h (Option.some.inj this)
      have hS := same_fn p.nl q.nl p.b q.b (hb p (List.mem_of_getElem? hp'))
      by_cases c : p.id = q.id
      · have c' := eq_true c
        by_cases c2 : p.b = q.b
        · have hk : p.key = q.key := by simp [OB.key, c, c2]
          have e : (a.map OB.key).take (i + 1) = (b.map OB.key).take (i + 1) := by
            rw [List.take_add_one, List.take_add_one, ht, List.getElem?_map, List.getElem?_map, hp', hq']; simp [hk]
          have c2' := eq_true c2
          simp -implicitDefEqProofs -dsimp [hlt, hlt2, hp, hp', hq, hq', c', OB.cells]
          refine CallK.reads ?_
          simp -implicitDefEqProofs -dsimp
          refine CallQ.same (hS) rfl ?_
          simp -implicitDefEqProofs -dsimp [c2', hw]
          exact .mk (i + 1) ⟨hlt, e⟩ (by omega) (by simp -implicitDefEqProofs -dsimp)
        · have hf := hne (fun h => c2 (by simp [OB.key] at h; exact h.2))
          simp -implicitDefEqProofs -dsimp [hlt, hlt2, hp, hp', hq, hq', c', OB.cells]
          refine CallK.reads ?_
          simp -implicitDefEqProofs -dsimp
          refine CallQ.same (hS) rfl ?_
          simp -implicitDefEqProofs -dsimp [c2, hf]
      · have hf := hne (fun h => c (by simp [OB.key] at h; exact h.1))
        simp -implicitDefEqProofs -dsimp [hlt, hlt2, hp, hp', hq, hq', c, OB.cells, hf]
    · have ein : i = a.length := by omega
      have hs : sameO a b = true := by
        simp only [sameO, decide_eq_true_eq]
        rwa [List.take_of_length_le (by simp; omega), List.take_of_length_le (by simp; omega)] at ht
      subst ein
      simp -implicitDefEqProofs -dsimp [hlt, hs]
  · have hf : sameO a b = false := by
      simp only [sameO, decide_eq_false_iff_not]
      intro e
      have := congrArg List.length e
      simp at this; exact h0 this
    have h0' : ¬ (a.length : Int) = b.length := by omega
    refine Fc.of (anys _ [26]) sch42 mixed Tryd.func42 rfl (by rfl) (by simp [Tryd.ntmps42]) (by decide) ?_
    simp -implicitDefEqProofs -dsimp [Tryd.ntmps42, h0, h0', hf]
end Go.Proofs.YtekokchejkjjjaaDoor

/-! Bundles: texts as objects; parts. -/
namespace Go.Proofs.YtekokchejkjjjaaDoor
open Go.Sy
def named (l : List ByteArray) : List OB := l.map fun s => ⟨digOf (bs s), false, bs s⟩
@[simp] theorem named_length (l : List ByteArray) : (named l).length = l.length := by simp [named]
set_option maxRecDepth 100000 in
set_option maxHeartbeats 8000000 in
theorem named_fn (nl : Bool) (l : List ByteArray) (hl : l.length ≤ 1000000) (hb : ∀ s, s ∈ l → s.size ≤ 1000000) :
    Fc Tryd.prog 44 [.sl .imm nl 1 (idc l)] [] (.sl (.own (.loc 25)) l.isEmpty 2 (obl (named l))) [] := by
  refine Fc.of (anys _ [22]) sch44 mixed Tryd.func44 rfl (by rfl) (by simp [Tryd.ntmps44]) (by decide) ?_
  simp -implicitDefEqProofs -dsimp [Tryd.ntmps44]
  refine LpK.mk (anys _ [22]) mixed (fun i : Nat => i ≤ l.length) (fun i => ⟨[(0, .sl .imm nl 1 (idc l)), (3, .sl (.own (.loc 25)) (l.take i).isEmpty 2 (obl (named (l.take i)))), (4, .lit (.int .i64 i))], [], 27⟩) (fun i => l.length - i) 0 (by simp) (by simp -implicitDefEqProofs -dsimp [named]) ?_
  intro i hi
  by_cases hlt : i < l.length
  · obtain ⟨p, hp⟩ : ∃ p, l[i] = p := ⟨_, rfl⟩
    have hp' : l[i]? = some p := by rw [List.getElem?_eq_getElem hlt, hp]
    have hw : IntKind.i64.wrap ((i : Int) + 1) = (i : Int) + 1 := wrap64 (by omega) (by omega)
    have hps := hb p (List.mem_of_getElem? hp')
    have hO := rof_fn false (bs p) (by rw [bs_length]; omega) (inB_bs p)
    have z1 : p.size ≤ 140737488355328 := by omega
    have e : named (l.take (i + 1)) = named (l.take i) ++ [⟨digOf (bs p), false, bs p⟩] := by
      rw [List.take_succ_eq_append_getElem hlt, hp]; simp [named]
    have e2 : (l.take (i + 1)).isEmpty = false := by
      cases l with
      | nil => simp at hlt
      | cons x xs => rfl
    have hz : (min i l.length + 1) * 40 ≤ 140737488355328 := by omega
    have hz2 : min i l.length + 1 ≤ 140737488355328 := by omega
    have e3 := obl_snoc (named (l.take i)) (digOf (bs p)) false (bs p)
    rw [← e] at e3
    have en : (named (l.take i)).length = i := by rw [named_length, List.length_take]; omega
    simp -implicitDefEqProofs -dsimp [hlt, hp, hp']
    refine AltK.mk ?_ ?_
    · simp -implicitDefEqProofs -dsimp [hlt, hp, hp', z1]
      refine AltK.mk ?_ ?_
      · simp -implicitDefEqProofs -dsimp
        refine CallK.reads ?_
        simp -implicitDefEqProofs -dsimp
        refine CallQ.same (hO) rfl ?_
        simp -implicitDefEqProofs -dsimp [hlt, hp, hp', z1, hz, hz2, e3, PV.toks.toksL, hw]
        exact .mk (i + 1) hlt (by omega) (by simp -implicitDefEqProofs -dsimp [e2])
      · simp -implicitDefEqProofs -dsimp [z1]
        refine CallK.reads ?_
        simp -implicitDefEqProofs -dsimp
        refine CallQ.same (hO) rfl ?_
        simp -implicitDefEqProofs -dsimp [hlt, hp, hp', z1, hz, hz2, e3, PV.toks.toksL, hw]
        exact .mk (i + 1) hlt (by omega) (by simp -implicitDefEqProofs -dsimp [e2])
    · simp -implicitDefEqProofs -dsimp [hlt, hp, hp', z1]
      refine CallK.reads ?_
      simp -implicitDefEqProofs -dsimp
      refine CallQ.same (hO) rfl ?_
      simp -implicitDefEqProofs -dsimp [hlt, hp, hp', z1, hz, hz2, e3, PV.toks.toksL, hw]
      exact .mk (i + 1) hlt (by omega) (by simp -implicitDefEqProofs -dsimp [e2])
  · have ein : i = l.length := by omega
    subst ein
    simp -implicitDefEqProofs -dsimp [hlt]
theorem namedI_fn (nl : Bool) (l : List ByteArray) (hl : l.length ≤ 1000000) (hb : ∀ s, s ∈ l → s.size ≤ 1000000) :
    Fc Tryd.prog 44 [.sl .imm nl 1 (idc l)] [] (.sl .imm l.isEmpty 2 (obl (named l))) [] := by
  have := (named_fn nl l hl hb).fz [.loc 25]
  simpa using this

/-- Have unlike texts unlike ids? -/
def Unl (l : List OB) : Prop := ∀ (i k : Nat) (x y : OB), l[i]? = some x → l[k]? = some y → k < i → x.id = y.id → x.b = y.b
set_option maxRecDepth 100000 in
set_option maxHeartbeats 8000000 in
theorem unlike_fn (nl : Bool) (l : List OB) (hl : l.length ≤ 1000000) (hb : ∀ o, o ∈ l → o.b.length ≤ 1000000) (t : Bool) (ht : t = true ↔ Unl l) : Fc Tryd.prog 45 [.sl .imm nl 2 (obl l)] [] (.lit (.bool t)) [] := by
  refine Fc.of (anys _ [26]) sch45 mixed Tryd.func45 rfl (by rfl) (by simp [Tryd.ntmps45]) (by decide) ?_
  simp -implicitDefEqProofs -dsimp [Tryd.ntmps45]
  refine LpK.mk (anys _ [26]) mixed (fun i : Nat => i ≤ l.length ∧ ∀ (i' k : Nat) (x y : OB), i' < i → l[i']? = some x → l[k]? = some y → k < i' → x.id = y.id → x.b = y.b) (fun i => ⟨[(0, .sl .imm nl 2 (obl l)), (3, .lit (.int .i64 i))], [], 41⟩) (fun i => l.length - i) 0 ⟨by omega, fun i' k x y h => by omega⟩ (by simp -implicitDefEqProofs -dsimp) ?_
  rintro i ⟨hi, hall⟩
  by_cases hlt : i < l.length
  · obtain ⟨p, hp⟩ : ∃ p, l[i] = p := ⟨_, rfl⟩
    have hp' : l[i]? = some p := by rw [List.getElem?_eq_getElem hlt, hp]
    have hw : IntKind.i64.wrap ((i : Int) + 1) = (i : Int) + 1 := wrap64 (by omega) (by omega)
    simp -implicitDefEqProofs -dsimp [hlt]
    refine LpK.mk (anys _ [26]) mixed (fun k : Nat => k ≤ i ∧ ∀ (k' : Nat) (y : OB), k' < k → l[k']? = some y → p.id = y.id → p.b = y.b) (fun k => ⟨[(0, .sl .imm nl 2 (obl l)), (3, .lit (.int .i64 i)), (4, .lit (.int .i64 k))], [], 41⟩) (fun k => i - k) 0 ⟨by omega, fun k' y h => by omega⟩ (by simp -implicitDefEqProofs -dsimp) ?_
    rintro k ⟨hk, hall2⟩
    by_cases hlt2 : k < i
    · have hlk : k < l.length := by omega
      obtain ⟨q, hq⟩ : ∃ q, l[k] = q := ⟨_, rfl⟩
      have hq' : l[k]? = some q := by rw [List.getElem?_eq_getElem hlk, hq]
      have hw2 : IntKind.i64.wrap ((k : Int) + 1) = (k : Int) + 1 := wrap64 (by omega) (by omega)
      have hS := same_fn p.nl q.nl p.b q.b (by have := hb p (List.mem_of_getElem? hp'); omega)
      by_cases c : p.id = q.id
      · have c' := eq_true c
        by_cases c2 : p.b = q.b
        · have c2' := eq_true c2
          simp -implicitDefEqProofs -dsimp [hlt, hlt2, hp, hp', hq, hq', c', hlk, OB.cells]
          refine CallK.reads ?_
          simp -implicitDefEqProofs -dsimp
          refine CallQ.same (hS) rfl ?_
          simp -implicitDefEqProofs -dsimp [c2', hw2]
          refine .mk (k + 1) ⟨hlt2, fun k' y h1 h2 h3 => ?_⟩ (by omega) (by simp -implicitDefEqProofs -dsimp)
          rcases Nat.lt_or_ge k' k with h | h
          · exact hall2 k' y h h2 h3
          · obtain rfl : k' = k := by omega
            rw [hq'] at h2; cases h2; exact c2
        · have ht' : t = false := by
            rw [Bool.eq_false_iff]; intro h
            exact c2 (ht.1 h i k p q hp' hq' hlt2 c)
          simp -implicitDefEqProofs -dsimp [hlt, hlt2, hp, hp', hq, hq', c', hlk, OB.cells]
          refine CallK.reads ?_
          simp -implicitDefEqProofs -dsimp
          refine CallQ.same (hS) rfl ?_
          simp -implicitDefEqProofs -dsimp [c2, ht']
      · simp -implicitDefEqProofs -dsimp [hlt, hlt2, hp, hp', hq, hq', c, hlk, OB.cells, hw2]
        refine .mk (k + 1) ⟨hlt2, fun k' y h1 h2 h3 => ?_⟩ (by omega) (by simp -implicitDefEqProofs -dsimp)
        rcases Nat.lt_or_ge k' k with h | h
        · exact hall2 k' y h h2 h3
        · obtain rfl : k' = k := by omega
          rw [hq'] at h2; cases h2; exact absurd h3 c
    · have eik : k = i := by omega
      subst eik
      simp -implicitDefEqProofs -dsimp [hlt2, hw]
      refine .mk (k + 1) ⟨hlt, fun i' k' x y h1 h2 h3 h4 h5 => ?_⟩ (by omega) (by simp -implicitDefEqProofs -dsimp)
      rcases Nat.lt_or_ge i' k with h | h
      · exact hall i' k' x y h h2 h3 h4 h5
      · obtain rfl : i' = k := by omega
        rw [hp'] at h2; cases h2; exact hall2 k' y h4 h3 h5
  · have ein : i = l.length := by omega
    have ht' : t = true := ht.2 fun i' k x y h1 h2 h3 h4 => hall i' k x y (by rw [ein]; exact (List.getElem?_eq_some_iff.1 h1).1) h1 h2 h3 h4
    subst ein
    simp -implicitDefEqProofs -dsimp [hlt, ht']

/-- A row of rows. -/
def rws (l : List (List Int)) : List PV := l.map fun b => .sl .imm false 1 (u8s b)
@[simp] theorem rws_length (l : List (List Int)) : (rws l).length = l.length := by simp [rws]
@[simp] theorem rws_nil : rws [] = [] := rfl
@[simp] theorem rws_append (l m : List (List Int)) : rws l ++ rws m = rws (l ++ m) := by simp [rws]
@[simp] theorem rws_getElem (l : List (List Int)) (n : Nat) (h : n < (rws l).length) : (rws l)[n] = .sl .imm false 1 (u8s (l[n]'(by simpa using h))) := by simp [rws]
@[simp high] theorem rws_get (l : List (List Int)) (n : Nat) : (rws l)[n]? = (l[n]?).map fun p => .sl .imm false 1 (u8s p) := by simp [rws]
theorem rws_snoc (l : List (List Int)) (b : List Int) : rws l ++ [PV.sl .imm false 1 (u8s b)] = rws (l ++ [b]) := by simp [rws]
theorem rws_data {l : List (List Int)} (x : PV) (h : x ∈ rws l) : Go.Sy.Data x := by
  simp only [rws, List.mem_map] at h
  obtain ⟨o, _, rfl⟩ := h
  rw [data_sl]
  intro y hy
  simp only [ints, List.mem_map] at hy
  obtain ⟨n, _, rfl⟩ := hy
  exact .lit _ rfl
@[simp] theorem rws_allData {l : List (List Int)} : (∀ x, x ∈ rws l → Go.Sy.Data x) = True := eq_true fun _ => rws_data _
@[simp] theorem rws_comps {l : List (List Int)} : (∀ x, x ∈ rws l → x.comps.length = 1) = True := eq_true fun x h => by
  simp only [rws, List.mem_map] at h
  obtain ⟨o, _, rfl⟩ := h
  rfl
/-- A text, cut. -/
def cutW (n : Nat) : Nat → List Int → List (List Int)
  | 0, _ => []
  | f + 1, b => if b = [] then [] else b.take n :: cutW n f (b.drop n)
def cutP (b : List Int) (limit : Int) : List (List Int) := if limit < 1 then [] else cutW limit.toNat b.length b
theorem cutW_more {n : Nat} (h0 : 0 < n) : ∀ (f g : Nat) (b : List Int), b.length ≤ f → b.length ≤ g → cutW n f b = cutW n g b
  | 0, 0, _, _, _ => rfl
  | 0, g + 1, b, h, _ => by
    obtain rfl := List.eq_nil_of_length_eq_zero (Nat.le_zero.1 h)
    simp [cutW]
  | f + 1, 0, b, _, h => by
    obtain rfl := List.eq_nil_of_length_eq_zero (Nat.le_zero.1 h)
    simp [cutW]
  | f + 1, g + 1, b, h1, h2 => by
    rw [cutW, cutW]
    split
    · rfl
    · rename_i hb
      have := List.length_pos_iff.2 hb
      rw [cutW_more h0 f g (b.drop n) (by simp; omega) (by simp; omega)]
theorem cutW_step {n : Nat} (h0 : 0 < n) {b : List Int} (hb : b ≠ []) : cutW n b.length b = b.take n :: cutW n (b.drop n).length (b.drop n) := by
  have := List.length_pos_iff.2 hb
  obtain ⟨m, hm⟩ : ∃ m, b.length = m + 1 := ⟨b.length - 1, by omega⟩
  rw [hm, cutW, if_neg hb, cutW_more h0 m (b.drop n).length (b.drop n) (by simp; omega) (Nat.le_refl _)]

set_option maxRecDepth 100000 in
set_option maxHeartbeats 8000000 in
theorem parts_fn (nl : Bool) (b : List Int) (hn : nl = true → b = []) (hl : b.length ≤ 1000000) (limit : Int) (l1 : -9223372036854775808 ≤ limit) (l2 : limit < 9223372036854775808) :
    Fc Tryd.prog 46 [.sl .imm nl 1 (u8s b), .lit (.int .i64 limit)] [] (.sl (.own (.loc 27)) (cutP b limit).isEmpty 1 (rws (cutP b limit))) [] := by
  have hC : Fc Tryd.prog 66 [.sl .imm nl 1 (u8s b)] [] (.sl .imm nl 1 (u8s b)) [] := by
    have := (clone_fn nl b hn (by omega)).fz [.loc 5]
    simpa using this
  refine Fc.of (anys _ [66]) [] mixed Tryd.func46 rfl (by rfl) (by simp [Tryd.ntmps46]) (by decide) ?_
  simp -implicitDefEqProofs -dsimp [Tryd.ntmps46]
  refine CallK.works ?_
  simp -implicitDefEqProofs -dsimp
  refine CallQ.mk (hC) (by simp) ?_
  simp -implicitDefEqProofs -dsimp
  by_cases c : limit < 1
  · have e : cutP b limit = [] := if_pos c
    have c' : ¬ 0 < limit := by omega
    refine LpK.mk (anys _ [66]) mixed (fun _ => True) (fun (_ : Unit) => ⟨[(1, .lit (.int .i64 limit)), (5, .sl (.own (.loc 27)) true 1 [])], [], 32⟩) (fun _ => 0) () trivial (by simp -implicitDefEqProofs -dsimp) ?_
    rintro ⟨⟩ -
    simp -implicitDefEqProofs -dsimp [c', e]
  · obtain ⟨n, hn2⟩ : ∃ n : Nat, limit = n := ⟨limit.toNat, by omega⟩
    subst hn2
    have e : cutP b n = cutW n b.length b := by rw [cutP, if_neg c]; simp
    have c' : (0 : Int) < n := by omega
    have c'' : 0 < n := by omega
    rw [e]
    refine LpK.mk (anys _ [66]) mixed (fun ((out, x, xn) : List (List Int) × List Int × Bool) => x.length ≤ b.length ∧ out.length ≤ b.length ∧ out.length + x.length ≤ b.length ∧ (xn = true → x = []) ∧ cutW n b.length b = out ++ cutW n x.length x)
      (fun ((out, x, xn) : List (List Int) × List Int × Bool) => ⟨[(1, .lit (.int .i64 n)), (5, .sl (.own (.loc 27)) out.isEmpty 1 (rws out)), (6, .sl .imm xn 1 (u8s x))], [], 32⟩) (fun (_, x, _) => x.length) ([], b, nl) ⟨by omega, by simp, by simp, hn, by simp⟩ (by simp -implicitDefEqProofs -dsimp) ?_
    rintro ⟨out, x, xn⟩ ⟨h1, h2, h3, h4, h5⟩
    by_cases hx : x = []
    · subst hx
      simp only [List.length_nil, cutW, List.append_nil] at h5
      simp -implicitDefEqProofs -dsimp [c', c'', h5]
    · have hxl := List.length_pos_iff.2 hx
      have hxn : xn = false := by
        cases xn with
        | false => rfl
        | true => exact absurd (h4 rfl) hx
      subst hxn
      have hst := cutW_step c'' hx
      rw [hst] at h5
      by_cases hm : n ≤ x.length
      · have hm' : min (n : Int) x.length = n := by omega
        have hm2 : (n : Int) ≤ x.length := by omega
        have hz : out.length + 1 ≤ 140737488355328 := by omega
        have hz2 : (out.length + 1) * 24 ≤ 140737488355328 := by omega
        simp -implicitDefEqProofs -dsimp [c', c'', hxl, hx, hm', hm2, hm, hz, hz2, rws_snoc, min_i64]
        refine .mk (out ++ [x.take n], x.drop n, false) ⟨by simp; omega, by simp; omega, by simp; omega, by simp, by rw [h5]; simp⟩ (by simp; omega) (by simp -implicitDefEqProofs -dsimp)
      · have hm' : min (n : Int) x.length = x.length := by omega
        have hz : out.length + 1 ≤ 140737488355328 := by omega
        have hz2 : (out.length + 1) * 24 ≤ 140737488355328 := by omega
        have et : x.take n = x := List.take_of_length_le (by omega)
        have ed : x.drop n = [] := List.drop_eq_nil_of_le (by omega)
        rw [et, ed] at h5
        simp -implicitDefEqProofs -dsimp [c', c'', hxl, hx, hm', hz, hz2, rws_snoc, min_i64]
        refine .mk (out ++ [x], [], false) ⟨by simp, by simp; omega, by simp; omega, by simp, by rw [h5]; simp⟩ (by simp; omega) (by simp -implicitDefEqProofs -dsimp)
end Go.Proofs.YtekokchejkjjjaaDoor

/-! Bundles: parts, joined. -/
namespace Go.Proofs.YtekokchejkjjjaaDoor
open Go.Sy
theorem flat_take {l : List (List Int)} {i : Nat} (h : i < l.length) : (l.take (i + 1)).flatten = (l.take i).flatten ++ l[i] := by
  rw [List.take_succ_eq_append_getElem h, List.flatten_append]; simp only [List.flatten_cons, List.flatten_nil, List.append_nil]
theorem flat_le (l : List (List Int)) (i : Nat) : (l.take i).flatten.length ≤ l.flatten.length := by
  have : l.flatten = (l.take i).flatten ++ (l.drop i).flatten := by rw [← List.flatten_append, List.take_append_drop]
  rw [this, List.length_append]; omega
set_option maxRecDepth 100000 in
set_option maxHeartbeats 4000000 in
theorem concatB_fn (nl : Bool) (l : List (List Int)) (h0 : 0 < l.flatten.length) (h1 : l.flatten.length ≤ 1000000) (hl : l.length ≤ 140737488355328) :
    Fc Tryd.prog 82 [.sl .imm nl 1 (rws l)] [] (.sl (.own (.loc 1240)) false 1 (u8s l.flatten)) [] := by
  refine Fc.of (anys _ [99]) [] mixed Tryd.func82 rfl (by rfl) (by simp [Tryd.ntmps82]) (by decide) ?_
  simp -implicitDefEqProofs -dsimp [Tryd.ntmps82]
  refine LpK.mk (anys _ [99]) mixed (fun i : Nat => i ≤ l.length) (fun i => ⟨[(0, .sl .imm nl 1 (rws l)), (9, .sl .imm nl 1 (rws l)), (3, .lit (.int .i64 (l.take i).flatten.length)), (10, .lit (.int .i64 l.length)), (11, .lit (.int .i64 i))], [], 36⟩)
    (fun i => l.length - i) 0 (by simp) (by simp -implicitDefEqProofs -dsimp) ?_
  intro i hi
  by_cases hlt : i < l.length
  · have hlt' : (i : Int) < l.length := by omega
    have hw : IntKind.i64.wrap ((i : Int) + 1) = (i : Int) + 1 := wrap64 (by omega) (by omega)
    obtain ⟨p, hp⟩ : ∃ p, l[i] = p := ⟨_, rfl⟩
    have hp' : l[i]? = some p := by rw [List.getElem?_eq_getElem hlt, hp]
    have hf := flat_take hlt
    rw [hp] at hf
    have hle := flat_le l (i + 1)
    obtain ⟨A, hA⟩ : ∃ A, A = (l.take i).flatten := ⟨_, rfl⟩
    obtain ⟨B, hB⟩ : ∃ B, B = (l.take (i + 1)).flatten := ⟨_, rfl⟩
    rw [← hA, ← hB] at hf
    rw [← hB] at hle
    have hBl : B.length = A.length + p.length := by rw [hf, List.length_append]
    have hw4 : IntKind.i64.wrap ((A.length : Int) + p.length) = (B.length : Int) := by rw [wrap64 (by omega) (by omega)]; omega
    have hn : ¬ (B.length : Int) < 0 := by omega
    rw [← hA]
    simp -implicitDefEqProofs -dsimp [hlt, hlt', hp, hp', hw, hw4, hn]
    exact .mk (i + 1) hlt (by omega) (by rw [← hB]; simp -implicitDefEqProofs -dsimp)
  · have ein : i = l.length := by omega
    subst ein
    rw [List.take_length]
    obtain ⟨F, hF⟩ : ∃ F, F = l.flatten := ⟨_, rfl⟩
    rw [← hF] at h0 h1 ⊢
    simp -implicitDefEqProofs -dsimp [hlt]
    refine CallK.fresh ?_
    simp -implicitDefEqProofs -dsimp
    refine CallQ.same (grow_fn F.length h0 (by omega)) rfl ?_
    simp -implicitDefEqProofs -dsimp [fr_u8s]
    refine LpK.mk (anys _ [99]) mixed (fun i : Nat => i ≤ l.length) (fun i => ⟨[(25, .sl .imm nl 1 (rws l)), (6, .sl (.own (.loc 1240)) false 1 (u8s (l.take i).flatten)), (26, .lit (.int .i64 l.length)), (27, .lit (.int .i64 i))], [], 36⟩)
      (fun i => l.length - i) 0 (by simp) (by simp -implicitDefEqProofs -dsimp) ?_
    intro i hi
    by_cases hlt : i < l.length
    · have hlt' : (i : Int) < l.length := by omega
      have hw : IntKind.i64.wrap ((i : Int) + 1) = (i : Int) + 1 := wrap64 (by omega) (by omega)
      obtain ⟨p, hp⟩ : ∃ p, l[i] = p := ⟨_, rfl⟩
      have hp' : l[i]? = some p := by rw [List.getElem?_eq_getElem hlt, hp]
      have hf := flat_take hlt
      rw [hp] at hf
      have hle := flat_le l (i + 1)
      rw [← hF] at hle
      obtain ⟨A, hA⟩ : ∃ A, A = (l.take i).flatten := ⟨_, rfl⟩
      obtain ⟨B, hB⟩ : ∃ B, B = (l.take (i + 1)).flatten := ⟨_, rfl⟩
      rw [← hA, ← hB] at hf
      rw [← hB] at hle
      have hBl : A.length + p.length ≤ 140737488355328 := by have : B.length = A.length + p.length := by rw [hf, List.length_append]
                                                             omega
      rw [← hA]
      simp -implicitDefEqProofs -dsimp [hlt, hlt', hp, hp', hw, hBl]
      exact .mk (i + 1) hlt (by omega) (by rw [← hB, hf]; simp -implicitDefEqProofs -dsimp)
    · have ein : i = l.length := by omega
      subst ein
      rw [List.take_length, ← hF]
      simp -implicitDefEqProofs -dsimp [hlt]
theorem concatBI_fn (nl : Bool) (l : List (List Int)) (h0 : 0 < l.flatten.length) (h1 : l.flatten.length ≤ 1000000) (hl : l.length ≤ 140737488355328) :
    Fc Tryd.prog 82 [.sl .imm nl 1 (rws l)] [] (.sl .imm false 1 (u8s l.flatten)) [] := by
  have := (concatB_fn nl l h0 h1 hl).fz [.loc 1240]
  simpa using this
set_option maxRecDepth 100000 in
set_option maxHeartbeats 4000000 in
theorem concatB0_fn : Fc Tryd.prog 82 [.sl .imm true 1 []] [] (.sl .imm true 1 []) [] := by
  refine Fc.of (anys _ [99]) [] mixed Tryd.func82 rfl (by rfl) (by simp [Tryd.ntmps82]) (by decide) ?_
  simp -implicitDefEqProofs -dsimp [Tryd.ntmps82]
  refine LpK.mk (anys _ [99]) mixed (fun _ => True) (fun (_ : Unit) => ⟨[(0, .sl .imm true 1 []), (3, .lit (.int .i64 0)), (10, .lit (.int .i64 0)), (11, .lit (.int .i64 0))], [], 36⟩) (fun _ => 0) () trivial (by simp -implicitDefEqProofs -dsimp) ?_
  rintro ⟨⟩ -
  simp -implicitDefEqProofs -dsimp
  refine CallK.fresh ?_
  simp -implicitDefEqProofs -dsimp
  refine CallQ.same (grow0_fn) rfl ?_
  simp -implicitDefEqProofs -dsimp [fr_u8s]
  refine LpK.mk (anys _ [99]) mixed (fun _ => True) (fun (_ : Unit) => ⟨[(6, .sl .imm true 1 []), (26, .lit (.int .i64 0)), (27, .lit (.int .i64 0))], [], 36⟩) (fun _ => 0) () trivial (by simp -implicitDefEqProofs -dsimp) ?_
  rintro ⟨⟩ -
  simp -implicitDefEqProofs -dsimp
set_option maxRecDepth 100000 in
theorem join_fn (l : List (List Int)) (hz : l ≠ [] → 0 < l.flatten.length) (h1 : l.flatten.length ≤ 1000000) (hl : l.length ≤ 140737488355328) :
    Fc Tryd.prog 48 [.sl .imm l.isEmpty 1 (rws l)] [] (.sl .imm l.isEmpty 1 (u8s l.flatten)) [] := by
  refine Fc.of (anys _ [82]) [] mixed Tryd.func48 rfl (by rfl) (by simp [Tryd.ntmps48]) (by decide) ?_
  simp -implicitDefEqProofs -dsimp [Tryd.ntmps48]
  cases l with
  | nil =>
    simp -implicitDefEqProofs -dsimp
    refine CallK.works ?_
    simp -implicitDefEqProofs -dsimp
    refine CallQ.mk (concatB0_fn) (by simp) ?_
    simp -implicitDefEqProofs -dsimp
  | cons x xs =>
    have hC := concatBI_fn false (x :: xs) (hz (by simp)) h1 hl
    obtain ⟨L, hL⟩ : ∃ L, L = x :: xs := ⟨_, rfl⟩
    have hE : (x :: xs).isEmpty = false := rfl
    rw [hE]
    rw [← hL] at hC ⊢
    refine CallK.works ?_
    simp -implicitDefEqProofs -dsimp
    refine CallQ.mk (hC) (by simp) ?_
    simp -implicitDefEqProofs -dsimp
set_option maxRecDepth 100000 in
set_option maxHeartbeats 4000000 in
theorem rjoin_fn (nl : Bool) (l : List (List Int)) (h1 : l.flatten.length ≤ 1000000) (hl : l.length ≤ 140737488355328) :
    ∃ n, Fc Tryd.prog 49 [.sl .imm nl 1 (rws l)] [] (.sl (.own (.loc 16)) n 1 (u8s l.flatten)) [] := by
  refine ⟨l.flatten.isEmpty, ?_⟩
  refine Fc.of (anys _ []) [] mixed Tryd.func49 rfl (by rfl) (by simp [Tryd.ntmps49]) (by decide) ?_
  simp -implicitDefEqProofs -dsimp [Tryd.ntmps49]
  refine LpK.mk (anys _ []) mixed (fun i : Nat => i ≤ l.length) (fun i => ⟨[(0, .sl .imm nl 1 (rws l)), (3, .sl (.own (.loc 16)) (l.take i).flatten.isEmpty 1 (u8s (l.take i).flatten)), (4, .lit (.int .i64 i))], [], 18⟩)
    (fun i => l.length - i) 0 (by simp) (by simp -implicitDefEqProofs -dsimp) ?_
  intro i hi
  by_cases hlt : i < l.length
  · have hlt' : (i : Int) < l.length := by omega
    have hw : IntKind.i64.wrap ((i : Int) + 1) = (i : Int) + 1 := wrap64 (by omega) (by omega)
    obtain ⟨p, hp⟩ : ∃ p, l[i] = p := ⟨_, rfl⟩
    have hp' : l[i]? = some p := by rw [List.getElem?_eq_getElem hlt, hp]
    have hf := flat_take hlt
    rw [hp] at hf
    have hle := flat_le l (i + 1)
    obtain ⟨A, hA⟩ : ∃ A, A = (l.take i).flatten := ⟨_, rfl⟩
    obtain ⟨B, hB⟩ : ∃ B, B = (l.take (i + 1)).flatten := ⟨_, rfl⟩
    rw [← hA, ← hB] at hf
    rw [← hB] at hle
    have hBl : A.length + p.length ≤ 140737488355328 := by
      have : B.length = A.length + p.length := by rw [hf, List.length_append]
      omega
    have he : (A ++ p).isEmpty = (A.isEmpty && p.isEmpty) := by cases A <;> cases p <;> rfl
    rw [← hA]
    simp -implicitDefEqProofs -dsimp [hlt, hlt', hp, hp', hw, hBl]
    exact .mk (i + 1) hlt (by omega) (by rw [← hB, hf]; simp -implicitDefEqProofs -dsimp [he])
  · have ein : i = l.length := by omega
    subst ein
    rw [List.take_length]
    simp -implicitDefEqProofs -dsimp [hlt]
end Go.Proofs.YtekokchejkjjjaaDoor
