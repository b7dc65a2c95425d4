/- The wire's statement WireStops. -/
import Derived.Test.YtgpcphddjapceaaWf
namespace Go.Proofs.Ytgpcphddjapceaa
open Go.Sy

set_option maxRecDepth 100000 in
set_option maxHeartbeats 4000000 in
theorem stops_fn (nl n2 n3 : Bool) (b l m : List Int) (hn : nl = true → b = []) (hb : InB b) (hl : ∀ n, n ∈ l → -9223372036854775808 ≤ n ∧ n < 9223372036854775808)
    (hm : ∀ n, n ∈ m → -9223372036854775808 ≤ n ∧ n < 9223372036854775808) :
    Fc Try.prog 11 [.sl .imm nl 1 (u8s b), .sl .imm n2 1 (ints .i64 l), .sl .imm n3 1 (ints .i64 m)] [] (.lit (.bool true)) [] := by
  refine Fc.of (anys _ [29, 34, 35, 39, 37, 36, 42]) [] mixed Try.func11 rfl (by rfl) (by simp [Try.ntmps11]) (by decide) ?_
  simp -implicitDefEqProofs -dsimp [Try.ntmps11]
  refine CallK.reads ?_
  simp -implicitDefEqProofs -dsimp
  refine CallQ.same (wawake_fn) rfl ?_
  simp -implicitDefEqProofs -dsimp
  by_cases c1 : 200 < (b.length : Int)
  · simp -implicitDefEqProofs -dsimp [c1]
  · by_cases c2 : 40 < (l.length : Int)
    · simp -implicitDefEqProofs -dsimp [c1, c2]
    · by_cases c3 : 40 < (m.length : Int)
      · simp -implicitDefEqProofs -dsimp [c1, c2, c3]
      · simp -implicitDefEqProofs -dsimp [c1, c2, c3]
        refine CallK.works ?_
        simp -implicitDefEqProofs -dsimp
        refine CallQ.mk (open_fn nl b hn (by omega)) (by simp) ?_
        simp -implicitDefEqProofs -dsimp
        refine LpK.mk (anys _ [29, 34, 35, 39, 37, 36, 42]) mixed (fun (i, w) => i ≤ l.length ∧ w.Ok)
          (fun ((i, w) : Nat × WS) => ⟨[(0, .sl .imm nl 1 (u8s b)), (1, .sl .imm n2 1 (ints .i64 l)), (2, .sl .imm n3 1 (ints .i64 m)), (7, .lit (.bool true)), (8, .ptr 1290 0), (9, .lit (.int .i64 i))],
            [(1290, .cells (wcells w))], 110⟩) (fun (i, _) => l.length - i) (0, ⟨nl, b, 0⟩)
          ⟨by simp, ⟨hn, hb, by simp; omega⟩⟩ (by simp -implicitDefEqProofs -dsimp) ?_
        rintro ⟨i, w⟩ ⟨hi, hw⟩
        by_cases hlt : i < l.length
        · have hi1 : IntKind.i64.wrap ((i : Int) + 1) = ((i + 1 : Nat) : Int) := wrap64 (by omega) (by omega)
          have hln := hl _ (List.getElem_mem hlt)
          by_cases hneg : l[i] < 0
          · simp -implicitDefEqProofs -dsimp [hlt, hneg]
            refine CallK.works ?_
            simp -implicitDefEqProofs -dsimp
            refine CallQ.same (wnum_fn w hw) rfl ?_
            simp -implicitDefEqProofs -dsimp [hi1]
            refine .mk (i + 1, w.num.2) ⟨by omega, WS.num_ok hw⟩ (by simp; omega) (by simp -implicitDefEqProofs -dsimp)
          · simp -implicitDefEqProofs -dsimp [hlt, hneg]
            refine CallK.works ?_
            simp -implicitDefEqProofs -dsimp
            refine CallQ.same (wtext_fn w hw l[i] hln.1 hln.2) rfl ?_
            simp -implicitDefEqProofs -dsimp [hlt, hi1]
            refine .mk (i + 1, (w.text l[i]).2) ⟨by omega, WS.text_ok hw _⟩ (by simp; omega) (by simp -implicitDefEqProofs -dsimp)
        · have hi : i = l.length := by omega
          subst hi
          simp -implicitDefEqProofs -dsimp
          refine CallK.reads ?_
          simp -implicitDefEqProofs -dsimp
          refine CallQ.same (fail_fn w) rfl ?_
          simp -implicitDefEqProofs -dsimp
          by_cases hf : w.fail = 0
          · simp -implicitDefEqProofs -dsimp [hf]
          · simp -implicitDefEqProofs -dsimp [hf]
            refine CallK.reads ?_
            simp -implicitDefEqProofs -dsimp
            refine CallQ.same (wleft_fn w) rfl ?_
            simp -implicitDefEqProofs -dsimp
            refine LpK.mk (anys _ [29, 34, 35, 39, 37, 36, 42]) mixed (fun i => i ≤ m.length)
              (fun (i : Nat) => ⟨[(0, .sl .imm nl 1 (u8s b)), (1, .sl .imm n2 1 (ints .i64 l)), (2, .sl .imm n3 1 (ints .i64 m)), (7, .lit (.bool true)), (8, .ptr 1290 0), (10, .lit (.int .i64 w.fail)),
                (11, .lit (.int .i64 w.b.length)), (12, .lit (.int .i64 i))],
                [(1290, .cells (wcells w))], 110⟩) (fun i => m.length - i) 0 (by simp) (by simp -implicitDefEqProofs -dsimp) ?_
            rintro i hi
            have e1 : w.num = (0, w) := by simp [WS.num, hf]
            by_cases hlt : i < m.length
            · have hi1 : IntKind.i64.wrap ((i : Int) + 1) = ((i + 1 : Nat) : Int) := wrap64 (by omega) (by omega)
              have hln := hm _ (List.getElem_mem hlt)
              have e2 : w.text m[i] = ((true, []), w) := by simp [WS.text, hf]
              by_cases hneg : m[i] < 0
              · have hneg2 : ¬ 0 ≤ m[i] := by omega
                simp -implicitDefEqProofs -dsimp [hlt, hneg, hneg2]
                refine CallK.works ?_
                simp -implicitDefEqProofs -dsimp
                refine CallQ.same (wnum_fn w hw) rfl ?_
                simp -implicitDefEqProofs -dsimp [hlt, e1, hi1, hneg, hneg2]
                refine .mk (i + 1) (by omega) (by omega) (by simp -implicitDefEqProofs -dsimp)
              · have hneg2 : 0 ≤ m[i] := by omega
                simp -implicitDefEqProofs -dsimp [hlt, hneg, hneg2]
                refine CallK.works ?_
                simp -implicitDefEqProofs -dsimp
                refine CallQ.same (wtext_fn w hw m[i] hln.1 hln.2) rfl ?_
                simp -implicitDefEqProofs -dsimp [hlt, e2, hi1, hneg, hneg2]
                refine .mk (i + 1) (by omega) (by omega) (by simp -implicitDefEqProofs -dsimp)
            · have hi : i = m.length := by omega
              subst hi
              have e3 : w.fin = w.fail := by simp [WS.fin, hf]
              simp -implicitDefEqProofs -dsimp
              refine CallK.reads ?_
              simp -implicitDefEqProofs -dsimp
              refine CallQ.same (wleft_fn w) rfl ?_
              simp -implicitDefEqProofs -dsimp
              refine CallK.reads ?_
              simp -implicitDefEqProofs -dsimp
              refine CallQ.same (fail_fn w) rfl ?_
              simp -implicitDefEqProofs -dsimp
              refine CallK.reads ?_
              simp -implicitDefEqProofs -dsimp
              refine CallQ.same (end_fn w) rfl ?_
              simp -implicitDefEqProofs -dsimp [e3]
end Go.Proofs.Ytgpcphddjapceaa
