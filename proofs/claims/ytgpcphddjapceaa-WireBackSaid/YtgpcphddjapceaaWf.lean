/- The wire's statements: the chapter's examples, what is put, one form. -/
import Derived.Test.YtgpcphddjapceaaWe
namespace Go.Proofs.Ytgpcphddjapceaa
open Go.Sy

theorem wnil_fn (n : Int) (h0 : 0 ≤ n) (h : n < 18446744073709551616) : Fc Try.prog 30 [.sl .imm true 0 [], .lit (.int .u64 n)] [] (.sl (.own (.loc 1070)) false 1 (u8s (enc n.toNat))) [] := by
  have := num_fn' true [] n (fun _ => rfl) (by simp) h0 h
  exact this.args (by simp)

theorem enc_300 : enc 300 = [172, 2] := by
  rw [enc_ge (by omega), enc_lt (by omega)]; rfl

set_option maxRecDepth 100000 in
set_option maxHeartbeats 1000000 in
theorem wawake_fn : Fc Try.prog 29 [] [] (.lit (.bool true)) [] := by
  have e1 : WS.num ⟨false, [128, 0], 0⟩ = (0, ⟨false, [128, 0], 3⟩) := rfl
  have e2 : WS.num ⟨false, [172, 2], 0⟩ = (300, ⟨false, [], 0⟩) := rfl
  have o1 : WS.Ok ⟨false, [128, 0], 0⟩ := ⟨by simp, by simp, by simp⟩
  have o2 : WS.Ok ⟨false, [172, 2], 0⟩ := ⟨by simp, by simp, by simp⟩
  refine Fc.of (anys _ [34, 35, 30, 18, 36, 42]) [] mixed Try.func29 rfl (by rfl) (by simp) (by decide) ?_
  simp -implicitDefEqProofs -dsimp [Try.ntmps29]
  refine CallK.works ?_
  simp -implicitDefEqProofs -dsimp
  refine CallQ.mk (open_fn false [128, 0] (by simp) (by simp)) (by simp) ?_
  simp -implicitDefEqProofs -dsimp [e1, e2]
  refine CallK.works ?_
  simp -implicitDefEqProofs -dsimp
  refine CallQ.mk (open_fn false [172, 2] (by simp) (by simp)) (by simp) ?_
  simp -implicitDefEqProofs -dsimp [e1, e2]
  refine CallK.works ?_
  simp -implicitDefEqProofs -dsimp
  refine CallQ.same (wnum_fn _ o1) rfl ?_
  simp -implicitDefEqProofs -dsimp [e1, e1, e2]
  refine CallK.works ?_
  simp -implicitDefEqProofs -dsimp
  refine CallQ.same (wnum_fn _ o2) rfl ?_
  simp -implicitDefEqProofs -dsimp [e2, e1, e2]
  refine CallK.fresh ?_
  simp -implicitDefEqProofs -dsimp
  refine CallQ.same (wnil_fn 300 (by omega) (by omega)) rfl ?_
  simp -implicitDefEqProofs -dsimp [fr_u8s, enc_300, e1, e2]
  refine CallK.reads ?_
  simp -implicitDefEqProofs -dsimp
  refine CallQ.same (same_fn _ _ [172, 2] [172, 2] (by simp)) rfl ?_
  simp -implicitDefEqProofs -dsimp [e1, e2]
  refine CallK.reads ?_
  simp -implicitDefEqProofs -dsimp
  refine CallQ.same (fail_fn _) rfl ?_
  simp -implicitDefEqProofs -dsimp [e1, e2]
  refine CallK.reads ?_
  simp -implicitDefEqProofs -dsimp
  refine CallQ.same (end_fn _) rfl ?_
  simp -implicitDefEqProofs -dsimp [WS.fin, e1, e2]

theorem tk_form {b : List Int} (hb : InB b) (h : (tk b).2.2 = 0) : enc (tk b).1 = b.take (tk b).2.1 ∧ 1 ≤ (tk b).2.1 ∧ (tk b).2.1 ≤ b.length ∧ (tk b).2.1 ≤ 10 := by
  obtain ⟨h1, h2, h3, h4⟩ := lead_spec 10 b
  unfold tk at h ⊢
  split at h
  · simp at h
  · split at h
    · simp at h
    · split at h
      · simp at h
      · rename_i a1 a2 a3
        have hk : lead 10 b < b.length := by omega
        have hf := (form_iff (fun x hx => hb x hx) hk (by omega) (fun i h hi => h3 i h hi) (h4 (by omega) hk)).2 (by
          rw [List.getD_eq_getElem?_getD, List.getElem?_eq_getElem hk] at a3
          simpa using a3)
        have hv := congrArg val hf
        rw [val_enc] at hv
        rw [hv] at hf
        simp only [if_neg a1, if_neg a2, if_neg a3]
        exact ⟨hf, by omega, by omega, by omega⟩

theorem rnum_fn' (nl : Bool) (b : List Int) (n : Int) (hb : b.length ≤ 10000000) (h0 : 0 ≤ n) (h : n < 18446744073709551616) :
    Fc Try.prog 31 [.sl .imm nl 1 (u8s b), .lit (.int .u64 n)] [] (.sl (.own (.loc 6)) false 1 (u8s (b ++ enc n.toNat))) [] := by
  have := rnum_fn nl b n.toNat hb (by omega)
  rwa [show ((n.toNat : Nat) : Int) = n by omega] at this

set_option maxRecDepth 100000 in
set_option maxHeartbeats 4000000 in
theorem puts_fn (nl n2 : Bool) (b x : List Int) (n : Int) (hn : nl = true → b = []) (h0 : 0 ≤ n) (h : n < 18446744073709551616) :
    Fc Try.prog 8 [.sl .imm nl 1 (u8s b), .lit (.int .u64 n), .sl .imm n2 1 (u8s x)] [] (.lit (.bool true)) [] := by
  refine Fc.of (anys _ [29, 30, 31, 18, 32, 33]) [] mixed Try.func8 rfl (by rfl) (by simp [Try.ntmps8]) (by decide) ?_
  simp -implicitDefEqProofs -dsimp [Try.ntmps8]
  refine CallK.reads ?_
  simp -implicitDefEqProofs -dsimp
  refine CallQ.same (wawake_fn) rfl ?_
  simp -implicitDefEqProofs -dsimp
  by_cases c1 : 200 < (b.length : Int)
  · simp -implicitDefEqProofs -dsimp [c1]
  · by_cases c2 : 200 < (x.length : Int)
    · simp -implicitDefEqProofs -dsimp [c1, c2]
    · have e1 := enc_u64 (n := n.toNat) (by omega)
      have e2 := enc_u64 (n := x.length) (by omega)
      simp -implicitDefEqProofs -dsimp [c1, c2]
      refine CallK.fresh ?_
      simp -implicitDefEqProofs -dsimp
      refine CallQ.same (num_fn' nl b n hn (by omega) h0 h) rfl ?_
      simp -implicitDefEqProofs -dsimp [fr_u8s]
      refine CallK.fresh ?_
      simp -implicitDefEqProofs -dsimp
      refine CallQ.same (rnum_fn' nl b n (by omega) h0 h) rfl ?_
      simp -implicitDefEqProofs -dsimp [fr_u8s]
      refine CallK.reads ?_
      simp -implicitDefEqProofs -dsimp
      refine CallQ.same (same_fn _ _ (b ++ enc n.toNat) (b ++ enc n.toNat) (by simp; omega)) rfl ?_
      simp -implicitDefEqProofs -dsimp
      refine CallK.fresh ?_
      simp -implicitDefEqProofs -dsimp
      refine CallQ.same (text_fn nl n2 b x hn (by omega) (by omega)) rfl ?_
      simp -implicitDefEqProofs -dsimp [fr_u8s]
      refine CallK.fresh ?_
      simp -implicitDefEqProofs -dsimp
      refine CallQ.same (rtext_fn nl n2 b x (by omega) (by omega)) rfl ?_
      simp -implicitDefEqProofs -dsimp [fr_u8s]
      refine CallK.reads ?_
      simp -implicitDefEqProofs -dsimp
      refine CallQ.same (same_fn _ _ (b ++ (enc x.length ++ x)) (b ++ (enc x.length ++ x)) (by simp; omega)) rfl ?_
      simp -implicitDefEqProofs -dsimp

set_option maxRecDepth 100000 in
set_option maxHeartbeats 4000000 in
theorem one_fn (nl : Bool) (b : List Int) (hn : nl = true → b = []) (hb : InB b) :
    Fc Try.prog 9 [.sl .imm nl 1 (u8s b)] [] (.lit (.bool true)) [] := by
  refine Fc.of (anys _ [29, 34, 35, 36, 37, 30, 18]) sch9 mixed Try.func9 rfl (by rfl) (by simp [Try.ntmps9]) (by decide) ?_
  simp -implicitDefEqProofs -dsimp [Try.ntmps9]
  refine CallK.reads ?_
  simp -implicitDefEqProofs -dsimp
  refine CallQ.same (wawake_fn) rfl ?_
  simp -implicitDefEqProofs -dsimp
  by_cases c1 : 200 < (b.length : Int)
  · simp -implicitDefEqProofs -dsimp [c1]
  · have hs : WS.Ok ⟨nl, b, 0⟩ := ⟨hn, hb, by simp; omega⟩
    obtain ⟨t1, t2, t3, t4, t5, t6⟩ := tk_spec b hb
    simp -implicitDefEqProofs -dsimp [c1]
    refine CallK.works ?_
    simp -implicitDefEqProofs -dsimp
    refine CallQ.mk (open_fn nl b hn (by omega)) (by simp) ?_
    simp -implicitDefEqProofs -dsimp
    by_cases he : (tk b).2.2 = 0
    · have e : WS.num ⟨nl, b, 0⟩ = ((tk b).1, ⟨nl, b.drop (tk b).2.1, 0⟩) := by simp [WS.num, he]
      obtain ⟨f1, f2, f3, f4⟩ := tk_form hb he
      refine CallK.works ?_
      simp -implicitDefEqProofs -dsimp
      refine CallQ.same (wnum_fn _ hs) rfl ?_
      simp -implicitDefEqProofs -dsimp [e]
      refine CallK.reads ?_
      simp -implicitDefEqProofs -dsimp
      refine CallQ.same (fail_fn _) rfl ?_
      simp -implicitDefEqProofs -dsimp [e]
      have w1 : IntKind.i64.wrap ((b.length : Int) - ((b.length - (tk b).2.1 : Nat) : Int)) = ((tk b).2.1 : Int) := by rw [wrap64 (by omega) (by omega)]; omega
      have g1 : (1 : Int) ≤ ((tk b).2.1 : Int) := by omega
      have g2 : ((tk b).2.1 : Int) ≤ 10 := by omega
      have g3 : ((tk b).2.1 : Int) ≤ b.length := by omega
      refine CallK.reads ?_
      simp -implicitDefEqProofs -dsimp
      refine CallQ.same (wleft_fn _) rfl ?_
      simp -implicitDefEqProofs -dsimp [e, f1, f3, g1, g2, g3, w1]
      refine CallK.fresh ?_
      simp -implicitDefEqProofs -dsimp
      refine CallQ.same (wnil_fn ((tk b).1 : Int) (by omega) (by omega)) rfl ?_
      simp -implicitDefEqProofs -dsimp [fr_u8s, e, f1, f3, g1, g2, g3, w1]
      refine CallK.reads ?_
      simp -implicitDefEqProofs -dsimp
      refine CallQ.same (same_fn _ _ (b.take (tk b).2.1) (b.take (tk b).2.1) (by simp; omega)) rfl ?_
      simp -implicitDefEqProofs -dsimp [e, f1, f3, g1, g2, g3, w1]
    · have e : WS.num ⟨nl, b, 0⟩ = (0, ⟨nl, b, (tk b).2.2⟩) := by simp [WS.num, he]
      refine CallK.works ?_
      simp -implicitDefEqProofs -dsimp
      refine CallQ.same (wnum_fn _ hs) rfl ?_
      simp -implicitDefEqProofs -dsimp [e, he]
      refine CallK.reads ?_
      simp -implicitDefEqProofs -dsimp
      refine CallQ.same (fail_fn _) rfl ?_
      simp -implicitDefEqProofs -dsimp [e, he]
      refine CallK.reads ?_
      simp -implicitDefEqProofs -dsimp
      refine CallQ.same (wleft_fn _) rfl ?_
      simp -implicitDefEqProofs -dsimp [e, he]
end Go.Proofs.Ytgpcphddjapceaa
