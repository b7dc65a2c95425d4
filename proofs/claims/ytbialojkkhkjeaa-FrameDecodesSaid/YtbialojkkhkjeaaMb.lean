/- Frames: is a message of a size that is looked at? (and what stands on it) -/
import Derived.Test.YtbialojkkhkjeaaM9

/-! Frames: is a message of a size that is looked at? -/
namespace Go.Sy
def rgFew (r : Rg) : Bool := !decide (40 < (r.lo.size : Int)) && (!decide (40 < (r.hi.size : Int)) && !decide (40 < (r.mark.size : Int)))
def idFew (p : ByteArray) : Bool := !decide (40 < (p.size : Int))
def fewL (m : Ms) : Bool := decide ((m.ids.length : Int) ≤ 70) && (decide ((m.rs.length : Int) ≤ 4) && (decide ((m.body.length : Int) ≤ 1100) && (decide ((m.lo.size : Int) ≤ 40) && (decide ((m.hi.size : Int) ≤ 40) && decide ((m.bundle.size : Int) ≤ 40)))))
def fewM (m : Ms) : Bool := (m.ids.take 100).all idFew && ((m.rs.take 9).all rgFew && fewL m)
theorem fewM_small {m : Ms} (h : fewM m = true) (hb : InB m.body) : Small m ∧ m.ids.length ≤ 70 ∧ m.rs.length ≤ 4 ∧ m.body.length ≤ 1100 ∧ (∀ p, p ∈ m.ids → p.size ≤ 40) ∧ m.lo.size ≤ 40 ∧ m.hi.size ≤ 40 ∧ m.bundle.size ≤ 40 := by
  simp only [fewM, fewL, Bool.and_eq_true, decide_eq_true_eq, List.all_eq_true] at h
  obtain ⟨h1, h2, h3, h4, h5, h6, h7, h8⟩ := h
  rw [List.take_of_length_le (by omega)] at h1 h2
  have h1' : ∀ p, p ∈ m.ids → p.size ≤ 40 := fun p hp => by have := h1 p hp; simp [idFew] at this; omega
  refine ⟨⟨by omega, fun r hr => ?_, by omega, by omega, by omega, fun p hp => by have := h1' p hp; omega, by omega, by omega, hb⟩, by omega, by omega, by omega, h1', by omega, by omega, by omega⟩
  have := h2 r hr
  simp [rgFew] at this
  omega
theorem all_take {α : Type} (f : α → Bool) (l : List α) (n : Nat) : (∀ i (h : i < l.length), i < n → f (l[i]'h) = true) → (l.take n).all f = true := by
  intro h
  rw [List.all_eq_true]
  intro x hx
  obtain ⟨i, hi, rfl⟩ := List.getElem_of_mem hx
  simp only [List.length_take] at hi
  rw [List.getElem_take]
  exact h i (by omega) (by omega)
theorem all_take_false {α : Type} {f : α → Bool} {l : List α} {n i : Nat} (h : i < l.length) (hn : i < n) (hf : f (l[i]'h) = false) : (l.take n).all f = false := by
  rw [List.all_eq_false]
  refine ⟨l[i], List.mem_iff_getElem.2 ⟨i, by simp; omega, by simp⟩, by simp [hf]⟩
end Go.Sy
namespace Go.Proofs.Ytbialojkkhkjeaa
open Go.Sy
set_option maxRecDepth 100000 in
set_option maxHeartbeats 8000000 in
theorem few_fn (m : Ms) (h1 : m.rs.length ≤ 9223372036854775807) (h2 : m.ids.length ≤ 9223372036854775807) : Fc Try.prog 12 [.agg m.cells] [] (.lit (.bool (fewM m))) [] := by
  refine Fc.of (anys _ []) [] mixed Try.func12 rfl (by rfl) (by simp [Try.ntmps12]) (by decide) ?_
  simp -implicitDefEqProofs -dsimp [Try.ntmps12, Ms.cells]
  have hcells : [PV.lit (.int .i64 m.kind), .sl .imm m.nr 4 (rgs m.rs), .lit (.string m.lo), .lit (.string m.hi), .sl .imm m.ni 1 (idc m.ids), .lit (.string m.bundle), .lit (.int .i64 m.index), .lit (.int .i64 m.many), .sl .imm m.nb 1 (u8s m.body)] = m.cells := rfl
  refine LpK.mk (anys _ []) mixed (fun i : Nat => i ≤ m.ids.length ∧ i ≤ 100 ∧ ∀ j (h : j < m.ids.length), j < i → idFew (m.ids[j]'h) = true)
    (fun i => ⟨[(1, .ptr 1 0), (3, .lit (.int .i64 i))], [(1, .cells [PV.lit (.int .i64 m.kind), .sl .imm m.nr 4 (rgs m.rs), .lit (.string m.lo), .lit (.string m.hi), .sl .imm m.ni 1 (idc m.ids), .lit (.string m.bundle), .lit (.int .i64 m.index), .lit (.int .i64 m.many), .sl .imm m.nb 1 (u8s m.body)])], 96⟩) (fun i => 100 - i) 0 ⟨by omega, by omega, fun j _ h => by omega⟩ (by simp -implicitDefEqProofs -dsimp) ?_
  rintro i ⟨hi, hi2, hall⟩
  by_cases hlt : i < m.ids.length
  · by_cases hlt2 : i < 100
    · have hlt2' : (i : Int) < 100 := by omega
      obtain ⟨p, hp⟩ : ∃ p, m.ids[i] = p := ⟨_, rfl⟩
      have hp' : m.ids[i]? = some p := by rw [List.getElem?_eq_getElem hlt, hp]
      have hw : IntKind.i64.wrap ((i : Int) + 1) = (i : Int) + 1 := wrap64 (by omega) (by omega)
      by_cases hc : 40 < (p.size : Int)
      · have hf : (m.ids.take 100).all idFew = false := all_take_false hlt hlt2 (by rw [hp]; simp [idFew, hc])
        simp -implicitDefEqProofs -dsimp [hlt, hlt2', hp, hp', hc, fewM, hf]
      · simp -implicitDefEqProofs -dsimp [hlt, hlt2', hp, hp', hc, hw]
        refine .mk (i + 1) ⟨hlt, hlt2, fun j hj hji => ?_⟩ (by omega) (by simp -implicitDefEqProofs -dsimp)
        rcases Nat.lt_or_ge j i with h | h
        · exact hall j hj h
        · have : j = i := by omega
          subst this; rw [hp]; simp [idFew, hc]
    · have e9 : i = 100 := by omega
      subst e9
      have hA : (m.ids.take 100).all idFew = true := all_take _ _ _ fun j hj h => hall j hj h
      have hlt' : (100 : Int) < m.ids.length := by omega
      simp -implicitDefEqProofs -dsimp [hlt, hlt']
      refine LpK.mk (anys _ []) mixed (fun i : Nat => i ≤ m.rs.length ∧ i ≤ 9 ∧ ∀ j (h : j < m.rs.length), j < i → rgFew (m.rs[j]'h) = true)
        (fun i => ⟨[(1, .ptr 1 0), (4, .lit (.int .i64 i))], [(1, .cells [PV.lit (.int .i64 m.kind), .sl .imm m.nr 4 (rgs m.rs), .lit (.string m.lo), .lit (.string m.hi), .sl .imm m.ni 1 (idc m.ids), .lit (.string m.bundle), .lit (.int .i64 m.index), .lit (.int .i64 m.many), .sl .imm m.nb 1 (u8s m.body)])], 96⟩) (fun i => 9 - i) 0 ⟨by omega, by omega, fun j _ h => by omega⟩ (by simp -implicitDefEqProofs -dsimp) ?_
      rintro i ⟨hi, hi2, hall⟩
      by_cases hlt : i < m.rs.length
      · by_cases hlt2 : i < 9
        · have hlt2' : (i : Int) < 9 := by omega
          obtain ⟨p, hp⟩ : ∃ p, m.rs[i] = p := ⟨_, rfl⟩
          have hp' : m.rs[i]? = some p := by rw [List.getElem?_eq_getElem hlt, hp]
          have hw : IntKind.i64.wrap ((i : Int) + 1) = (i : Int) + 1 := wrap64 (by omega) (by omega)
          by_cases hc : 40 < (p.lo.size : Int)
          · have hf : (m.rs.take 9).all rgFew = false := all_take_false hlt hlt2 (by rw [hp]; simp [rgFew, hc])
            simp -implicitDefEqProofs -dsimp [hlt, hlt2', hp, hp', hc, fewM, hf]
          · by_cases hc2 : 40 < (p.hi.size : Int)
            · have hf : (m.rs.take 9).all rgFew = false := all_take_false hlt hlt2 (by rw [hp]; simp [rgFew, hc2])
              simp -implicitDefEqProofs -dsimp [hlt, hlt2', hp, hp', hc, hc2, fewM, hf]
            · by_cases hc3 : 40 < (p.mark.size : Int)
              · have hf : (m.rs.take 9).all rgFew = false := all_take_false hlt hlt2 (by rw [hp]; simp [rgFew, hc3])
                simp -implicitDefEqProofs -dsimp [hlt, hlt2', hp, hp', hc, hc2, hc3, fewM, hf]
              · simp -implicitDefEqProofs -dsimp [hlt, hlt2', hp, hp', hc, hc2, hc3, hw]
                refine .mk (i + 1) ⟨hlt, hlt2, fun j hj hji => ?_⟩ (by omega) (by simp -implicitDefEqProofs -dsimp)
                rcases Nat.lt_or_ge j i with h | h
                · exact hall j hj h
                · have : j = i := by omega
                  subst this; rw [hp]; simp [rgFew, hc, hc2, hc3]
        · have e9 : i = 9 := by omega
          subst e9
          have hB : (m.rs.take 9).all rgFew = true := all_take _ _ _ fun j hj h => hall j hj h
          have hlt' : (9 : Int) < m.rs.length := by omega
          by_cases d6 : (m.ids.length : Int) ≤ 70
          · by_cases d7 : (m.rs.length : Int) ≤ 4
            · by_cases d8 : (m.body.length : Int) ≤ 1100
              · by_cases d9 : (m.lo.size : Int) ≤ 40
                · by_cases d10 : (m.hi.size : Int) ≤ 40
                  · by_cases d11 : (m.bundle.size : Int) ≤ 40
                    · simp -implicitDefEqProofs -dsimp [fewM, fewL, hA, hB, hlt, hlt', d6, d7, d8, d9, d10, d11]
                    · simp -implicitDefEqProofs -dsimp [fewM, fewL, hA, hB, hlt, hlt', d6, d7, d8, d9, d10, d11]
                  · simp -implicitDefEqProofs -dsimp [fewM, fewL, hA, hB, hlt, hlt', d6, d7, d8, d9, d10]
                · simp -implicitDefEqProofs -dsimp [fewM, fewL, hA, hB, hlt, hlt', d6, d7, d8, d9]
              · simp -implicitDefEqProofs -dsimp [fewM, fewL, hA, hB, hlt, hlt', d6, d7, d8]
            · simp -implicitDefEqProofs -dsimp [fewM, fewL, hA, hB, hlt, hlt', d6, d7]
          · simp -implicitDefEqProofs -dsimp [fewM, fewL, hA, hB, hlt, hlt', d6]
      · have el : i = m.rs.length := by omega
        have hB : (m.rs.take 9).all rgFew = true := all_take _ _ _ fun j hj h => hall j hj (by omega)
        subst el
        by_cases d4 : (m.ids.length : Int) ≤ 70
        · by_cases d5 : (m.rs.length : Int) ≤ 4
          · by_cases d6 : (m.body.length : Int) ≤ 1100
            · by_cases d7 : (m.lo.size : Int) ≤ 40
              · by_cases d8 : (m.hi.size : Int) ≤ 40
                · by_cases d9 : (m.bundle.size : Int) ≤ 40
                  · simp -implicitDefEqProofs -dsimp [fewM, fewL, hA, hB, d4, d5, d6, d7, d8, d9]
                  · simp -implicitDefEqProofs -dsimp [fewM, fewL, hA, hB, d4, d5, d6, d7, d8, d9]
                · simp -implicitDefEqProofs -dsimp [fewM, fewL, hA, hB, d4, d5, d6, d7, d8]
              · simp -implicitDefEqProofs -dsimp [fewM, fewL, hA, hB, d4, d5, d6, d7]
            · simp -implicitDefEqProofs -dsimp [fewM, fewL, hA, hB, d4, d5, d6]
          · simp -implicitDefEqProofs -dsimp [fewM, fewL, hA, hB, d4, d5]
        · simp -implicitDefEqProofs -dsimp [fewM, fewL, hA, hB, d4]
  · have el : i = m.ids.length := by omega
    have hA : (m.ids.take 100).all idFew = true := all_take _ _ _ fun j hj h => hall j hj (by omega)
    subst el
    simp -implicitDefEqProofs -dsimp
    refine LpK.mk (anys _ []) mixed (fun i : Nat => i ≤ m.rs.length ∧ i ≤ 9 ∧ ∀ j (h : j < m.rs.length), j < i → rgFew (m.rs[j]'h) = true)
      (fun i => ⟨[(1, .ptr 1 0), (4, .lit (.int .i64 i))], [(1, .cells [PV.lit (.int .i64 m.kind), .sl .imm m.nr 4 (rgs m.rs), .lit (.string m.lo), .lit (.string m.hi), .sl .imm m.ni 1 (idc m.ids), .lit (.string m.bundle), .lit (.int .i64 m.index), .lit (.int .i64 m.many), .sl .imm m.nb 1 (u8s m.body)])], 96⟩) (fun i => 9 - i) 0 ⟨by omega, by omega, fun j _ h => by omega⟩ (by simp -implicitDefEqProofs -dsimp) ?_
    rintro i ⟨hi, hi2, hall⟩
    by_cases hlt : i < m.rs.length
    · by_cases hlt2 : i < 9
      · have hlt2' : (i : Int) < 9 := by omega
        obtain ⟨p, hp⟩ : ∃ p, m.rs[i] = p := ⟨_, rfl⟩
        have hp' : m.rs[i]? = some p := by rw [List.getElem?_eq_getElem hlt, hp]
        have hw : IntKind.i64.wrap ((i : Int) + 1) = (i : Int) + 1 := wrap64 (by omega) (by omega)
        by_cases hc : 40 < (p.lo.size : Int)
        · have hf : (m.rs.take 9).all rgFew = false := all_take_false hlt hlt2 (by rw [hp]; simp [rgFew, hc])
          simp -implicitDefEqProofs -dsimp [hlt, hlt2', hp, hp', hc, fewM, hf]
        · by_cases hc2 : 40 < (p.hi.size : Int)
          · have hf : (m.rs.take 9).all rgFew = false := all_take_false hlt hlt2 (by rw [hp]; simp [rgFew, hc2])
            simp -implicitDefEqProofs -dsimp [hlt, hlt2', hp, hp', hc, hc2, fewM, hf]
          · by_cases hc3 : 40 < (p.mark.size : Int)
            · have hf : (m.rs.take 9).all rgFew = false := all_take_false hlt hlt2 (by rw [hp]; simp [rgFew, hc3])
              simp -implicitDefEqProofs -dsimp [hlt, hlt2', hp, hp', hc, hc2, hc3, fewM, hf]
            · simp -implicitDefEqProofs -dsimp [hlt, hlt2', hp, hp', hc, hc2, hc3, hw]
              refine .mk (i + 1) ⟨hlt, hlt2, fun j hj hji => ?_⟩ (by omega) (by simp -implicitDefEqProofs -dsimp)
              rcases Nat.lt_or_ge j i with h | h
              · exact hall j hj h
              · have : j = i := by omega
                subst this; rw [hp]; simp [rgFew, hc, hc2, hc3]
      · have e9 : i = 9 := by omega
        subst e9
        have hB : (m.rs.take 9).all rgFew = true := all_take _ _ _ fun j hj h => hall j hj h
        have hlt' : (9 : Int) < m.rs.length := by omega
        by_cases d6 : (m.ids.length : Int) ≤ 70
        · by_cases d7 : (m.rs.length : Int) ≤ 4
          · by_cases d8 : (m.body.length : Int) ≤ 1100
            · by_cases d9 : (m.lo.size : Int) ≤ 40
              · by_cases d10 : (m.hi.size : Int) ≤ 40
                · by_cases d11 : (m.bundle.size : Int) ≤ 40
                  · simp -implicitDefEqProofs -dsimp [fewM, fewL, hA, hB, hlt, hlt', d6, d7, d8, d9, d10, d11]
                  · simp -implicitDefEqProofs -dsimp [fewM, fewL, hA, hB, hlt, hlt', d6, d7, d8, d9, d10, d11]
                · simp -implicitDefEqProofs -dsimp [fewM, fewL, hA, hB, hlt, hlt', d6, d7, d8, d9, d10]
              · simp -implicitDefEqProofs -dsimp [fewM, fewL, hA, hB, hlt, hlt', d6, d7, d8, d9]
            · simp -implicitDefEqProofs -dsimp [fewM, fewL, hA, hB, hlt, hlt', d6, d7, d8]
          · simp -implicitDefEqProofs -dsimp [fewM, fewL, hA, hB, hlt, hlt', d6, d7]
        · simp -implicitDefEqProofs -dsimp [fewM, fewL, hA, hB, hlt, hlt', d6]
    · have el : i = m.rs.length := by omega
      have hB : (m.rs.take 9).all rgFew = true := all_take _ _ _ fun j hj h => hall j hj (by omega)
      subst el
      by_cases d4 : (m.ids.length : Int) ≤ 70
      · by_cases d5 : (m.rs.length : Int) ≤ 4
        · by_cases d6 : (m.body.length : Int) ≤ 1100
          · by_cases d7 : (m.lo.size : Int) ≤ 40
            · by_cases d8 : (m.hi.size : Int) ≤ 40
              · by_cases d9 : (m.bundle.size : Int) ≤ 40
                · simp -implicitDefEqProofs -dsimp [fewM, fewL, hA, hB, d4, d5, d6, d7, d8, d9]
                · simp -implicitDefEqProofs -dsimp [fewM, fewL, hA, hB, d4, d5, d6, d7, d8, d9]
              · simp -implicitDefEqProofs -dsimp [fewM, fewL, hA, hB, d4, d5, d6, d7, d8]
            · simp -implicitDefEqProofs -dsimp [fewM, fewL, hA, hB, d4, d5, d6, d7]
          · simp -implicitDefEqProofs -dsimp [fewM, fewL, hA, hB, d4, d5, d6]
        · simp -implicitDefEqProofs -dsimp [fewM, fewL, hA, hB, d4, d5]
      · simp -implicitDefEqProofs -dsimp [fewM, fewL, hA, hB, d4]
end Go.Proofs.Ytbialojkkhkjeaa

/-! Frames: whether a message is right, as the document has it. -/
namespace Go.Sy
/-- A state that is kept between two parts of a code. -/
def cutK (S : St) : Exit → St → Prop
  | .normal, s => subS S s
  | _, _ => False
@[simp ↓] theorem cutK_normal (S s : St) : cutK S .normal s = subS S s := rfl
theorem Tr.cut {P : Program} (E : List (Spec P)) (sc : List (Nat × Sch)) {r : Option Nat} {x y : Code} {st : St} {Q : Exit → St → Prop} (hm : P.follows .mixedOrders = true) (hc : schOK P sc x = true) (S : St) (hx : pwC P E sc r x st (cutK S)) (hy : Tr P r y S Q) : Tr P r (.seq x y) st Q := by
  refine Tr.seq (Tr.mono (pwC_ok hm x hc hx) fun e s h => ?_)
  cases e with
  | normal => exact Tr.sub h hy
  | _ => exact h.elim
/-- The contract of a function, by its code. -/
theorem Fc.tr {P : Program} {f : FuncId} {fn : Func} {c : Code} {args : List PV} {h : List (Nat × Ob)} {X : PV} {H : List (Nat × Ob)} (hf : P.funcs[f]? = some fn) (hb : fn.body = some c) (hn : args.length ≤ fn.ntmps) (hnm : fn.name ≠ "runtime.NumGoroutine")
    (ht : Tr P none c ⟨argR 0 args, h, fn.ntmps⟩ (retK P fn.results.toList X H)) : Fc P f args h X H := by
  refine ⟨fun args w => by simp [callFunc, hf, hb, hnm], ?_⟩
  refine TrC.sub ?_
  refine TrC.intro (R := fun x h' => Weak x X ∧ subW H h') hf hb hn (Tr.mono ht ?_)
  intro e s h
  cases e with
  | normal => have h : onSome (resPV P s fn.results.toList) fun xs => Weak (retPV xs) X ∧ subW H s.heap := h; exact onSome_iff.1 h
  | ret => have h : onSome (resPV P s fn.results.toList) fun xs => Weak (retPV xs) X ∧ subW H s.heap := h; exact onSome_iff.1 h
  | _ => exact h
theorem Tr.pw {P : Program} (E : List (Spec P)) (sc : List (Nat × Sch)) {r : Option Nat} {c : Code} {st : St} {Q : Exit → St → Prop} (hm : P.follows .mixedOrders = true) (hc : schOK P sc c = true) (h : pwC P E sc r c st Q) : Tr P r c st Q := pwC_ok hm c hc h
theorem size_zero {x : ByteArray} : x.size = 0 ↔ x = ⟨#[]⟩ := by
  refine ⟨fun h => ?_, fun h => by rw [h]; rfl⟩
  obtain ⟨d⟩ := x
  have : d.size = 0 := h
  rw [Array.eq_empty_of_size_eq_zero this]
/-- Has a message no part, and no bounds? -/
def npB (m : Ms) : Bool := decide (m.bundle = ⟨#[]⟩) && (decide (m.index = 0) && (decide (m.many = 0) && decide (m.body = [])))
def nbB (m : Ms) : Bool := decide (m.lo = ⟨#[]⟩) && decide (m.hi = ⟨#[]⟩)
end Go.Sy
namespace Go.Proofs.Ytbialojkkhkjeaa
open Go.Sy
set_option maxRecDepth 100000 in
set_option maxHeartbeats 4000000 in
theorem bound_fn (x : ByteArray) : Fc Try.prog 29 [.lit (.string x)] [] (.lit (.bool (idB x true))) [] := by
  refine Fc.of (anys _ []) [] mixed Try.func29 rfl (by rfl) (by simp [Try.ntmps29]) (by decide) ?_
  by_cases h : x.size = 0
  · have h' := eq_true (size_zero.1 h)
    have h2 := eq_true (show x = ByteArray.empty from size_zero.1 h)
    simp -implicitDefEqProofs -dsimp [Try.ntmps29, idB, h', h2]
  · have h' : ¬ x = ⟨#[]⟩ := fun e => h (size_zero.2 e)
    have h3 : ¬ x = ByteArray.empty := fun e => h (size_zero.2 e)
    by_cases h2 : x.size = 32
    · have h2' : (x.size : Int) = 32 := by omega
      simp -implicitDefEqProofs -dsimp [Try.ntmps29, idB, h, h', h2, h2', h3]
    · have h2' : ¬ (x.size : Int) = 32 := by omega
      simp -implicitDefEqProofs -dsimp [Try.ntmps29, idB, h, h', h2, h2', h3]

set_option maxRecDepth 100000 in
set_option maxHeartbeats 4000000 in
theorem rising_fn (nl : Bool) (l : List ByteArray) (least : Int) (hl : l.length < 9223372036854775807) (hs' : ∀ p, p ∈ l → p.size ≤ 1000000) : Fc Try.prog 30 [.sl .imm nl 1 (idc l), .lit (.int .i64 least)] [] (.lit (.bool (idsB l least))) [] := by
  refine Fc.of (anys _ [50]) sch30 mixed Try.func30 rfl (by rfl) (by simp [Try.ntmps30]) (by decide) ?_
  simp -implicitDefEqProofs -dsimp [Try.ntmps30]
  refine LpK.mk (anys _ [50]) mixed (fun i : Nat => i ≤ l.length ∧ ∀ j, j < i → upAt l j = true) (fun i => ⟨[(0, .sl .imm nl 1 (idc l)), (1, .lit (.int .i64 least)), (5, .lit (.int .i64 i))], [], 42⟩) (fun i => l.length - i) 0 ⟨by omega, fun j h => by omega⟩ (by simp -implicitDefEqProofs -dsimp) ?_
  rintro i ⟨hi, hup⟩
  by_cases hlt : i < l.length
  · obtain ⟨p, hp⟩ : ∃ p, l[i] = p := ⟨_, rfl⟩
    have hp' : l[i]? = some p := by rw [List.getElem?_eq_getElem hlt, hp]
    have hw : IntKind.i64.wrap ((i : Int) + 1) = (i : Int) + 1 := wrap64 (by omega) (by omega)
    by_cases h0 : i = 0
    · subst h0
      have hu := up_at (q := p) hp' (fun h => by omega)
      simp only [decide_true, Bool.true_or, Bool.and_true] at hu
      have w1 : IntKind.i64.wrap 1 = 1 := by decide
      by_cases hs : p.size = 32
      · have hs2 : (p.size : Int) = 32 := by omega
        simp -implicitDefEqProofs -dsimp [hlt, hp, hp', hw, hs, hs2]
        exact .mk 1 ⟨by omega, fun j hj => by
          have : j = 0 := by omega
          subst this; rw [hu]; simp [hs]⟩ (by omega) (by simp -implicitDefEqProofs -dsimp [w1])
      · have hs2 : ¬ (p.size : Int) = 32 := by omega
        have hf := up_false hlt (hu.trans (by simp [hs]))
        simp -implicitDefEqProofs -dsimp [hlt, hp, hp', hs, hs2, idsB, hf]
    · have h0' : 0 < i := by omega
      obtain ⟨q, hq⟩ : ∃ q, l[i - 1]? = some q := ⟨_, List.getElem?_eq_getElem (by omega)⟩
      have hq1 : ∀ h, l[i - 1]'h = q := fun h => by rw [List.getElem?_eq_getElem h] at hq; exact Option.some.inj hq
      have hw2 : IntKind.i64.wrap ((i : Int) - 1) = (i : Int) - 1 := wrap64 (by omega) (by omega)
      have hi1 : ((i : Int) - 1).toNat = i - 1 := by omega
      have hi2 : (0 : Int) ≤ (i : Int) - 1 := by omega
      have hi3 : i - 1 < l.length := by omega
      have hi4 : (1 : Int) ≤ i := by omega
      have hu := up_at hp' (fun _ => hq)
      simp only [h0, decide_false, Bool.false_or] at hu
      by_cases hs : p.size = 32
      · have hs2 : (p.size : Int) = 32 := by omega
        simp -implicitDefEqProofs -dsimp [hlt, hp, hp', hw, hs, hs2, h0', hq, hq1, hw2, hi1, hi2, hi3, hi4]
        refine CallK.reads ?_
        simp -implicitDefEqProofs -dsimp
        refine CallQ.same (less_fn q p (hs' q (List.mem_of_getElem? hq))) rfl ?_
        simp -implicitDefEqProofs -dsimp [hlt, hp, hp', hw, hs, hs2, h0', hq, hq1, hw2, hi1, hi2, hi3, hi4]
        by_cases hc : ltS q p = true
        · simp -implicitDefEqProofs -dsimp [hc, hw]
          refine .mk (i + 1) ⟨hlt, fun j hj => ?_⟩ (by omega) (by simp -implicitDefEqProofs -dsimp)
          rcases Nat.lt_or_ge j i with h | h
          · exact hup j h
          · have : j = i := by omega
            subst this; rw [hu]; simp [hs, hc]
        · have hf := up_false hlt (hu.trans (by simp [hc]))
          simp -implicitDefEqProofs -dsimp [hc, idsB, hf]
      · have hs2 : ¬ (p.size : Int) = 32 := by omega
        have hf := up_false hlt (hu.trans (by simp [hs]))
        simp -implicitDefEqProofs -dsimp [hlt, hp, hp', hs, hs2, idsB, hf]
  · have e : i = l.length := by omega
    subst e
    have hf := up_true hup
    by_cases c1 : least ≤ (l.length : Int)
    · simp -implicitDefEqProofs -dsimp [hlt, hf, idsB, c1]
    · simp -implicitDefEqProofs -dsimp [hlt, hf, idsB, c1]
end Go.Proofs.Ytbialojkkhkjeaa
