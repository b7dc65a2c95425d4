/- The wire's statement WireReads. -/
import Derived.Test.YtgpcphddjapceaaWf
namespace Go.Proofs.Ytgpcphddjapceaa
open Go.Sy

structure RelW (w : WS) (r : RR) : Prop where
  b : w.b = r.rest
  fail : w.fail = r.fail

theorem rel_num {w : WS} {r : RR} (h : RelW w r) : w.num.1 = r.num.1 ∧ RelW w.num.2 r.num.2 := by
  obtain ⟨h1, h2⟩ := id h
  unfold WS.num RR.num
  rw [h1, h2]
  split
  · exact ⟨rfl, h⟩
  · split
    · exact ⟨rfl, ⟨rfl, rfl⟩⟩
    · exact ⟨rfl, ⟨by simp [RR.rest, List.drop_drop], rfl⟩⟩
theorem rel_text {w : WS} {r : RR} (h : RelW w r) (l : Int) : (w.text l).1 = (r.text l).1 ∧ RelW (w.text l).2 (r.text l).2 := by
  obtain ⟨h1, h2⟩ := id h
  unfold WS.text RR.text
  rw [h1, h2]
  split
  · exact ⟨rfl, h⟩
  · split
    · exact ⟨rfl, ⟨rfl, rfl⟩⟩
    · split
      · exact ⟨rfl, ⟨rfl, rfl⟩⟩
      · split
        · exact ⟨rfl, ⟨rfl, rfl⟩⟩
        · exact ⟨rfl, ⟨by simp [RR.rest, List.drop_drop, Nat.add_assoc], rfl⟩⟩
theorem rel_fin {w : WS} {r : RR} (h : RelW w r) : w.fin = r.fin := by
  obtain ⟨h1, h2⟩ := id h
  unfold WS.fin RR.fin
  rw [h2, h1, RR.rest_len]
  by_cases a : r.fail = 0 ∧ r.pos < r.b.length
  · rw [if_pos a, if_pos ⟨a.1, by omega⟩]
  · rw [if_neg a, if_neg (fun c => a ⟨c.1, by omega⟩)]

theorem RR.text_le {s : RR} (h : s.Ok) (limit : Int) : (s.text limit).1.2.length < 9223372036854775807 := by
  have h3 := h.len
  have hl := RR.rest_len (s := s)
  unfold RR.text
  split
  · simp
  · split
    · simp
    · split
      · simp
      · split
        · simp
        · simp; omega

set_option maxRecDepth 100000 in
set_option maxHeartbeats 4000000 in
theorem reads_fn (nl n2 : Bool) (b l : List Int) (hn : nl = true → b = []) (hb : InB b) (hl : ∀ n, n ∈ l → -9223372036854775808 ≤ n ∧ n < 9223372036854775808) :
    Fc Try.prog 10 [.sl .imm nl 1 (u8s b), .sl .imm n2 1 (ints .i64 l)] [] (.lit (.bool true)) [] := by
  refine Fc.of (anys _ [29, 34, 35, 38, 39, 40, 18, 37, 41, 36, 42, 43]) sch10 mixed Try.func10 rfl (by rfl) (by simp [Try.ntmps10]) (by decide) ?_
  simp -implicitDefEqProofs -dsimp [Try.ntmps10]
  refine CallK.reads ?_
  simp -implicitDefEqProofs -dsimp
  refine CallQ.same (wawake_fn) rfl ?_
  simp -implicitDefEqProofs -dsimp
  by_cases c1 : 200 < (b.length : Int)
  · simp -implicitDefEqProofs -dsimp [c1]
  · by_cases c2 : 40 < (l.length : Int)
    · simp -implicitDefEqProofs -dsimp [c1, c2]
    · simp -implicitDefEqProofs -dsimp [c1, c2]
      refine CallK.works ?_
      simp -implicitDefEqProofs -dsimp
      refine CallQ.mk (open_fn nl b hn (by omega)) (by simp) ?_
      simp -implicitDefEqProofs -dsimp
      refine LpK.mk (anys _ [29, 34, 35, 38, 39, 40, 18, 37, 41, 36, 42, 43]) mixed (fun (i, w, r) => i ≤ l.length ∧ w.Ok ∧ r.Ok ∧ RelW w r)
        (fun ((i, w, r) : Nat × WS × RR) => ⟨[(0, .sl .imm nl 1 (u8s b)), (1, .sl .imm n2 1 (ints .i64 l)), (5, .lit (.bool true)), (6, .ptr 1240 0), (7, .ptr 27 0), (8, .lit (.int .i64 i))],
          [(27, .cells (rcells r)), (1240, .cells (wcells w))], 93⟩) (fun (i, _) => l.length - i) (0, ⟨nl, b, 0⟩, ⟨nl, b, 0, 0⟩)
        ⟨by simp, ⟨hn, hb, by simp; omega⟩, ⟨hb, by simp, by simp; omega⟩, ⟨by simp [RR.rest], rfl⟩⟩ (by simp -implicitDefEqProofs -dsimp [rcells]) ?_
      rintro ⟨i, w, r⟩ ⟨hi, hw, hr, hrel⟩
      have hfin := rel_fin hrel
      have hleft : (w.b.length : Int) = (r.b.length : Int) - r.pos := by
        have := hr.pos
        rw [hrel.b, RR.rest_len]; omega
      by_cases hlt : i < l.length
      · have hi1 : IntKind.i64.wrap ((i : Int) + 1) = ((i + 1 : Nat) : Int) := wrap64 (by omega) (by omega)
        have hln := hl _ (List.getElem_mem hlt)
        by_cases hneg : l[i] < 0
        · simp -implicitDefEqProofs -dsimp [hlt, hneg]
          obtain ⟨e1, e2⟩ := rel_num hrel
          have w2 := WS.num_ok hw
          have r2 := RR.num_ok hr
          refine CallK.works ?_
          simp -implicitDefEqProofs -dsimp
          refine CallQ.same (wnum_fn w hw) rfl ?_
          simp -implicitDefEqProofs -dsimp
          refine CallK.works ?_
          simp -implicitDefEqProofs -dsimp
          refine CallQ.same (rrnum_fn r hr) rfl ?_
          simp -implicitDefEqProofs -dsimp
          have hfin := rel_fin e2
          have hleft : (w.num.2.b.length : Int) = (r.num.2.b.length : Int) - r.num.2.pos := by
            have := r2.pos
            rw [e2.b, RR.rest_len]; omega
          have ef := e2.fail
          generalize w.num = W at *
          generalize r.num = R at *
          obtain ⟨m, w'⟩ := W
          obtain ⟨m', r'⟩ := R
          simp only at e1 e2 w2 r2 hfin hleft ef
          simp -implicitDefEqProofs -dsimp [e1]
          refine CallK.reads ?_
          simp -implicitDefEqProofs -dsimp
          refine CallQ.same (wleft_fn w') rfl ?_
          simp -implicitDefEqProofs -dsimp [hleft, ef, hfin, hi1]
          refine CallK.reads ?_
          simp -implicitDefEqProofs -dsimp
          refine CallQ.same (rleft_fn r' r2) rfl ?_
          simp -implicitDefEqProofs -dsimp [hleft, ef, hfin, hi1]
          refine CallK.reads ?_
          simp -implicitDefEqProofs -dsimp
          refine CallQ.same (fail_fn w') rfl ?_
          simp -implicitDefEqProofs -dsimp [hleft, ef, hfin, hi1]
          refine CallK.reads ?_
          simp -implicitDefEqProofs -dsimp
          refine CallQ.same (end_fn w') rfl ?_
          simp -implicitDefEqProofs -dsimp [hleft, ef, hfin, hi1]
          refine CallK.reads ?_
          simp -implicitDefEqProofs -dsimp
          refine CallQ.same (rend_fn r' r2) rfl ?_
          simp -implicitDefEqProofs -dsimp [hleft, ef, hfin, hi1]
          refine .mk (i + 1, w', r') ⟨by omega, w2, r2, e2⟩ (by simp; omega) (by simp -implicitDefEqProofs -dsimp)
        · have w2 := WS.text_ok hw l[i]
          have r2 := RR.text_ok hr l[i]
          have r3 := RR.text_le hr l[i]
          obtain ⟨e1, e2⟩ := rel_text hrel l[i]
          simp -implicitDefEqProofs -dsimp [hlt, hneg]
          refine CallK.works ?_
          simp -implicitDefEqProofs -dsimp
          refine CallQ.same (wtext_fn w hw l[i] hln.1 hln.2) rfl ?_
          simp -implicitDefEqProofs -dsimp [hlt]
          refine CallK.works ?_
          simp -implicitDefEqProofs -dsimp
          refine CallQ.same (rrtext_fn r hr l[i] hln.1 hln.2) rfl ?_
          simp -implicitDefEqProofs -dsimp [hlt]
          have hfin := rel_fin e2
          have hleft : ((w.text l[i]).2.b.length : Int) = ((r.text l[i]).2.b.length : Int) - (r.text l[i]).2.pos := by
            have := r2.pos
            rw [e2.b, RR.rest_len]; omega
          have ef := e2.fail
          generalize w.text l[i] = W at *
          generalize r.text l[i] = R at *
          obtain ⟨⟨m, x⟩, w'⟩ := W
          obtain ⟨⟨m', x'⟩, r'⟩ := R
          simp only at e1 e2 w2 r2 hfin hleft ef r3
          obtain ⟨rfl, rfl⟩ := Prod.mk.inj e1
          refine CallK.reads ?_
          simp -implicitDefEqProofs -dsimp
          refine CallQ.same (same_fn _ _ x x r3) rfl ?_
          simp -implicitDefEqProofs -dsimp
          refine CallK.reads ?_
          simp -implicitDefEqProofs -dsimp
          refine CallQ.same (wleft_fn w') rfl ?_
          simp -implicitDefEqProofs -dsimp [hleft, ef, hfin, hi1]
          refine CallK.reads ?_
          simp -implicitDefEqProofs -dsimp
          refine CallQ.same (rleft_fn r' r2) rfl ?_
          simp -implicitDefEqProofs -dsimp [hleft, ef, hfin, hi1]
          refine CallK.reads ?_
          simp -implicitDefEqProofs -dsimp
          refine CallQ.same (fail_fn w') rfl ?_
          simp -implicitDefEqProofs -dsimp [hleft, ef, hfin, hi1]
          refine CallK.reads ?_
          simp -implicitDefEqProofs -dsimp
          refine CallQ.same (end_fn w') rfl ?_
          simp -implicitDefEqProofs -dsimp [hleft, ef, hfin, hi1]
          refine CallK.reads ?_
          simp -implicitDefEqProofs -dsimp
          refine CallQ.same (rend_fn r' r2) rfl ?_
          simp -implicitDefEqProofs -dsimp [hleft, ef, hfin, hi1]
          refine .mk (i + 1, w', r') ⟨by omega, w2, r2, e2⟩ (by simp; omega) (by simp -implicitDefEqProofs -dsimp)
      · have hi : i = l.length := by omega
        subst hi
        simp -implicitDefEqProofs -dsimp
        refine CallK.reads ?_
        simp -implicitDefEqProofs -dsimp
        refine CallQ.same (wleft_fn w) rfl ?_
        simp -implicitDefEqProofs -dsimp
        refine CallK.reads ?_
        simp -implicitDefEqProofs -dsimp
        refine CallQ.same (rleft_fn r hr) rfl ?_
        simp -implicitDefEqProofs -dsimp [hleft]
end Go.Proofs.Ytgpcphddjapceaa
