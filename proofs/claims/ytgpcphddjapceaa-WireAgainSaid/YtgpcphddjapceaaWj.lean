/- The wire's statement WireAgain. -/
import Derived.Test.YtgpcphddjapceaaWf
namespace Go.Proofs.Ytgpcphddjapceaa
open Go.Sy

theorem lead_append : ∀ (n : Nat) (b c : List Int), lead n b = n ∨ lead n b < b.length → lead n (b ++ c) = lead n b
  | 0, b, c, _ => by simp [lead]
  | n + 1, [], c, h => by simp [lead] at h
  | n + 1, x :: xs, c, h => by
    rw [List.cons_append, lead, lead] at *
    split
    · rename_i hx
      rw [if_pos hx] at h
      rw [lead_append n xs c (by simp at h; omega)]
    · rfl
theorem tk_append (b c : List Int) (h : (tk b).2.2 ≠ 2) : tk (b ++ c) = tk b := by
  obtain ⟨h1, h2, -, -⟩ := lead_spec 10 b
  have hl : lead 10 b = 10 ∨ lead 10 b < b.length := by
    rcases Nat.lt_or_ge (lead 10 b) b.length with h3 | h3
    · exact .inr h3
    · by_cases h4 : lead 10 b = 10
      · exact .inl h4
      · exfalso; apply h
        unfold tk; rw [if_neg h4, if_pos (by omega)]
  have e := lead_append 10 b c hl
  unfold tk
  rw [e]
  by_cases h4 : lead 10 b = 10
  · rw [if_pos h4, if_pos h4]
  · have h5 : lead 10 b < b.length := by omega
    have h6 : ¬ lead 10 b = (b ++ c).length := by simp; omega
    have h7 : ¬ lead 10 b = b.length := by omega
    have h8 : (b ++ c).getD (lead 10 b) 0 = b.getD (lead 10 b) 0 := by
      rw [List.getD_eq_getElem?_getD, List.getD_eq_getElem?_getD, List.getElem?_append_left h5]
    simp only [if_neg h4, if_neg h6, if_neg h7, h8, List.take_append_of_le_length (show lead 10 b + 1 ≤ b.length by omega)]

/-- A read, of bytes and of them with others behind. -/
def Alike (c x y : List Int) (w v : WS) : Prop := w.fail = 2 ∨ (x = y ∧ w.fail = v.fail ∧ (w.b.length : Int) = v.b.length - c.length)

theorem again_num (nl n2 : Bool) (b c : List Int) (hb : InB b) : Alike c [(WS.num ⟨nl, b, 0⟩).1] [(WS.num ⟨n2, b ++ c, 0⟩).1] (WS.num ⟨nl, b, 0⟩).2 (WS.num ⟨n2, b ++ c, 0⟩).2 := by
  have ht := tk_spec b hb
  by_cases h : (tk b).2.2 = 2
  · left; simp [WS.num, h]
  · right
    simp only [WS.num, tk_append b c h, ne_eq, not_true, if_false]
    split
    · exact ⟨rfl, rfl, by simp⟩
    · exact ⟨rfl, rfl, by simp; omega⟩
theorem again_text (nl n2 : Bool) (b c : List Int) (hb : InB b) (limit : Int) : Alike c (WS.text ⟨nl, b, 0⟩ limit).1.2 (WS.text ⟨n2, b ++ c, 0⟩ limit).1.2 (WS.text ⟨nl, b, 0⟩ limit).2 (WS.text ⟨n2, b ++ c, 0⟩ limit).2 := by
  have ht := tk_spec b hb
  by_cases h : (tk b).2.2 = 2
  · left; simp [WS.text, h]
  · simp only [WS.text, tk_append b c h, ne_eq, not_true, if_false]
    split
    · exact .inr ⟨rfl, rfl, by simp⟩
    · split
      · exact .inr ⟨rfl, rfl, by simp⟩
      · by_cases hs : (b.length : Int) - (tk b).2.1 < ((tk b).1 : Int)
        · rw [if_pos hs]; exact .inl rfl
        · rw [if_neg hs, if_neg (by simp; omega)]
          refine .inr ⟨?_, rfl, by simp; omega⟩
          simp only
          rw [List.drop_append_of_le_length (by omega), List.take_append_of_le_length (by simp; omega)]

theorem WS.text_le {s : WS} (h : s.Ok) (limit : Int) : (s.text limit).1.2.length < 9223372036854775807 := by
  have h3 := h.len
  unfold WS.text
  split
  · simp
  · split
    · simp
    · split
      · simp
      · split
        · simp
        · simp; omega

set_option maxRecDepth 100000 in
set_option maxHeartbeats 4000000 in
theorem again_fn (nl n2 : Bool) (b c : List Int) (limit : Int) (hn : nl = true → b = []) (hb : InB b) (hc : InB c) (hl : -9223372036854775808 ≤ limit) (hl2 : limit < 9223372036854775808) :
    Fc Try.prog 13 [.sl .imm nl 1 (u8s b), .sl .imm n2 1 (u8s c), .lit (.int .i64 limit)] [] (.lit (.bool true)) [] := by
  refine Fc.of (anys _ [29, 34, 35, 39, 37, 36, 18]) [] mixed Try.func13 rfl (by rfl) (by simp [Try.ntmps13]) (by decide) ?_
  simp -implicitDefEqProofs -dsimp [Try.ntmps13]
  refine CallK.reads ?_
  simp -implicitDefEqProofs -dsimp
  refine CallQ.same (wawake_fn) rfl ?_
  simp -implicitDefEqProofs -dsimp
  by_cases c1 : 200 < (b.length : Int)
  · simp -implicitDefEqProofs -dsimp [c1]
  · by_cases c2 : 100 < (c.length : Int)
    · simp -implicitDefEqProofs -dsimp [c1, c2]
    · simp -implicitDefEqProofs -dsimp [c1, c2]
      have l1 : b.length ≤ 140737488355328 := by omega
      have l2 : b.length + c.length ≤ 140737488355328 := by omega
      have o1 : WS.Ok ⟨nl, b, 0⟩ := ⟨hn, hb, by simp; omega⟩
      have o2 : WS.Ok ⟨false, b ++ c, 0⟩ := ⟨by simp, fun x hx => (List.mem_append.1 hx).elim (hb x) (hc x), by simp; omega⟩
      refine CallK.works ?_
      simp -implicitDefEqProofs -dsimp
      refine CallQ.mk (open_fn nl b hn (by omega)) (by simp) ?_
      simp -implicitDefEqProofs -dsimp [l1, l2]
      refine CallK.works ?_
      simp -implicitDefEqProofs -dsimp
      refine CallQ.mk (open_fn false (b ++ c) (by simp) (by simp; omega)) (by simp) ?_
      simp -implicitDefEqProofs -dsimp [l1, l2]
      by_cases hneg : limit < 0
      · simp -implicitDefEqProofs -dsimp [hneg]
        refine CallK.works ?_
        simp -implicitDefEqProofs -dsimp
        refine CallQ.same (wnum_fn _ o1) rfl ?_
        simp -implicitDefEqProofs -dsimp
        refine CallK.works ?_
        simp -implicitDefEqProofs -dsimp
        refine CallQ.same (wnum_fn _ o2) rfl ?_
        simp -implicitDefEqProofs -dsimp
        have hA := again_num nl false b c hb
        have p1 := WS.num_ok o1
        have p2 := WS.num_ok o2
        generalize WS.num ⟨nl, b, 0⟩ = W at *
        generalize WS.num ⟨false, b ++ c, 0⟩ = V at *
        obtain ⟨x, w⟩ := W
        obtain ⟨y, v⟩ := V
        simp only at hA p1 p2
        have hv := p2.len
        have hw : IntKind.i64.wrap ((v.b.length : Int) - (c.length : Int)) = (v.b.length : Int) - (c.length : Int) := wrap64 (by omega) (by omega)
        by_cases h2 : w.fail = 2
        · refine CallK.reads ?_
          simp -implicitDefEqProofs -dsimp
          refine CallQ.same (fail_fn w) rfl ?_
          simp -implicitDefEqProofs -dsimp [h2]
        · rcases hA with hA | ⟨h3, h4, h5⟩
          · exact absurd hA h2
          · simp only [List.cons.injEq, and_true] at h3
            obtain rfl : x = y := by omega
            have h6 : ¬ v.fail = 2 := by rw [← h4]; exact h2
            refine CallK.reads ?_
            simp -implicitDefEqProofs -dsimp
            refine CallQ.same (fail_fn w) rfl ?_
            simp -implicitDefEqProofs -dsimp [h4, h5, h6, hw]
            refine CallK.reads ?_
            simp -implicitDefEqProofs -dsimp
            refine CallQ.same (fail_fn w) rfl ?_
            simp -implicitDefEqProofs -dsimp [h4, h5, h6, hw]
            refine CallK.reads ?_
            simp -implicitDefEqProofs -dsimp
            refine CallQ.same (fail_fn v) rfl ?_
            simp -implicitDefEqProofs -dsimp [h4, h5, h6, hw]
            refine CallK.reads ?_
            simp -implicitDefEqProofs -dsimp
            refine CallQ.same (wleft_fn w) rfl ?_
            simp -implicitDefEqProofs -dsimp [h4, h5, h6, hw]
            refine CallK.reads ?_
            simp -implicitDefEqProofs -dsimp
            refine CallQ.same (wleft_fn v) rfl ?_
            simp -implicitDefEqProofs -dsimp [h4, h5, h6, hw]
      · simp -implicitDefEqProofs -dsimp [hneg]
        refine CallK.works ?_
        simp -implicitDefEqProofs -dsimp
        refine CallQ.same (wtext_fn _ o1 limit hl hl2) rfl ?_
        simp -implicitDefEqProofs -dsimp
        refine CallK.works ?_
        simp -implicitDefEqProofs -dsimp
        refine CallQ.same (wtext_fn _ o2 limit hl hl2) rfl ?_
        simp -implicitDefEqProofs -dsimp
        have hA := again_text nl false b c hb limit
        have p1 := WS.text_ok o1 limit
        have p2 := WS.text_ok o2 limit
        have p3 := WS.text_le o1 limit
        generalize WS.text ⟨nl, b, 0⟩ limit = W at *
        generalize WS.text ⟨false, b ++ c, 0⟩ limit = V at *
        obtain ⟨⟨xn, x⟩, w⟩ := W
        obtain ⟨⟨yn, y⟩, v⟩ := V
        simp only at hA p1 p2 p3
        have hv := p2.len
        have hw : IntKind.i64.wrap ((v.b.length : Int) - (c.length : Int)) = (v.b.length : Int) - (c.length : Int) := wrap64 (by omega) (by omega)
        by_cases h2 : w.fail = 2
        · refine CallK.reads ?_
          simp -implicitDefEqProofs -dsimp
          refine CallQ.same (fail_fn w) rfl ?_
          simp -implicitDefEqProofs -dsimp [h2]
        · rcases hA with hA | ⟨h3, h4, h5⟩
          · exact absurd hA h2
          · subst h3
            have h6 : ¬ v.fail = 2 := by rw [← h4]; exact h2
            refine CallK.reads ?_
            simp -implicitDefEqProofs -dsimp
            refine CallQ.same (fail_fn w) rfl ?_
            simp -implicitDefEqProofs -dsimp [h4, h5, h6, hw]
            refine CallK.reads ?_
            simp -implicitDefEqProofs -dsimp
            refine CallQ.same (same_fn _ _ x x p3) rfl ?_
            simp -implicitDefEqProofs -dsimp [h4, h5, h6, hw]
            refine CallK.reads ?_
            simp -implicitDefEqProofs -dsimp
            refine CallQ.same (fail_fn w) rfl ?_
            simp -implicitDefEqProofs -dsimp [h4, h5, h6, hw]
            refine CallK.reads ?_
            simp -implicitDefEqProofs -dsimp
            refine CallQ.same (fail_fn v) rfl ?_
            simp -implicitDefEqProofs -dsimp [h4, h5, h6, hw]
            refine CallK.reads ?_
            simp -implicitDefEqProofs -dsimp
            refine CallQ.same (wleft_fn w) rfl ?_
            simp -implicitDefEqProofs -dsimp [h4, h5, h6, hw]
            refine CallK.reads ?_
            simp -implicitDefEqProofs -dsimp
            refine CallQ.same (wleft_fn v) rfl ?_
            simp -implicitDefEqProofs -dsimp [h4, h5, h6, hw]
end Go.Proofs.Ytgpcphddjapceaa
