/- The law BundleParts. (and what stands on it) -/
import Derived.Test.YtekokchejkjjjaaDoorNt
import Derived.Test.YtekokchejkjjjaaDoorNo
set_option linter.unusedSimpArgs false
set_option linter.unusedVariables false

/-! The law BundleParts. -/
namespace Go.Proofs.YtekokchejkjjjaaDoor
open Go.Sy
theorem cutW_flat {n : Nat} (h0 : 0 < n) : ∀ (f : Nat) (b : List Int), b.length ≤ f → (cutW n f b).flatten = b
  | 0, b, h => by
    obtain rfl := List.eq_nil_of_length_eq_zero (Nat.le_zero.1 h)
    rfl
  | f + 1, b, h => by
    rw [cutW]
    split
    · rename_i hb; rw [hb]; rfl
    · rename_i hb
      have := List.length_pos_iff.2 hb
      rw [List.flatten_cons, cutW_flat h0 f (b.drop n) (by simp; omega), List.take_append_drop]
theorem cutP_flat {b : List Int} {limit : Int} (h : ¬ limit < 1) : (cutP b limit).flatten = b := by
  rw [cutP, if_neg h]; exact cutW_flat (by omega) _ _ (Nat.le_refl _)
theorem cutP_flat_le (b : List Int) (limit : Int) : (cutP b limit).flatten.length ≤ b.length := by
  by_cases h : limit < 1
  · rw [cutP, if_pos h]; simp
  · rw [cutP_flat h]; exact Nat.le_refl _
theorem partsI_fn (nl : Bool) (b : List Int) (hn : nl = true → b = []) (hl : b.length ≤ 1000000) (limit : Int) (l1 : -9223372036854775808 ≤ limit) (l2 : limit < 9223372036854775808) :
    Fc Tryd.prog 46 [.sl .imm nl 1 (u8s b), .lit (.int .i64 limit)] [] (.sl .imm (cutP b limit).isEmpty 1 (rws (cutP b limit))) [] := by
  have := (parts_fn nl b hn hl limit l1 l2).fz [.loc 27]
  simpa using this

set_option maxRecDepth 100000 in
set_option maxHeartbeats 16000000 in
theorem partsb_fn (nl : Bool) (b : List Int) (hn : nl = true → b = []) (limit : Int) (l1 : -9223372036854775808 ≤ limit) (l2 : limit < 9223372036854775808) :
    Fc Tryd.prog 13 [.sl .imm nl 1 (u8s b), .lit (.int .i64 limit)] [] (.lit (.bool true)) [] := by
  refine Fc.of (anys _ [36, 46, 47, 26, 48, 49]) sch13 mixed Tryd.func13 rfl (by rfl) (by simp [Tryd.ntmps13]) (by decide) ?_
  simp -implicitDefEqProofs -dsimp [Tryd.ntmps13]
  refine CallK.reads ?_
  simp -implicitDefEqProofs -dsimp
  refine CallQ.same (wake_fn) rfl ?_
  simp -implicitDefEqProofs -dsimp
  by_cases c1 : 200 < (b.length : Int)
  · simp -implicitDefEqProofs -dsimp [c1]
  · have hP := partsI_fn nl b hn (by omega) limit l1 l2
    have hR := rparts_fn nl b (by omega) limit
    have hLl := cutP_len b limit
    have hLf := cutP_flat_le b limit
    have hLe := cutP_each b limit
    have hJ := join_fn (cutP b limit) (fun h => by
      have h1 : ¬ limit < 1 := fun h1 => h (by rw [cutP, if_pos h1])
      rw [cutP_flat h1]
      refine List.length_pos_iff.2 fun e => h ?_
      rw [e, cutP, if_neg h1]; rfl) (by omega) (by omega)
    obtain ⟨nj, hK⟩ := rjoin_fn (cutP b limit).isEmpty (cutP b limit) (by omega) (by omega)
    have hfl : ¬ limit < 1 → (cutP b limit).flatten = b := cutP_flat
    generalize cutP b limit = L at *
    generalize hFl : L.flatten = F at *
    simp -implicitDefEqProofs -dsimp [c1]
    refine CallK.works ?_
    simp -implicitDefEqProofs -dsimp
    refine CallQ.mk (hP) (by simp) ?_
    simp -implicitDefEqProofs -dsimp
    refine CallK.works ?_
    simp -implicitDefEqProofs -dsimp
    refine CallQ.mk (hR) (by simp) ?_
    simp -implicitDefEqProofs -dsimp
    refine LpK.mk (anys _ [36, 46, 47, 26, 48, 49]) mixed (fun i : Nat => i ≤ L.length) (fun i => ⟨[(0, .sl .imm nl 1 (u8s b)), (1, .lit (.int .i64 limit)), (5, .lit (.bool true)), (6, .sl .imm L.isEmpty 1 (rws L)), (7, .sl .imm L.isEmpty 1 (rws L)), (8, .lit (.int .i64 i))], [], 59⟩) (fun i => L.length - i) 0 (by simp) (by simp -implicitDefEqProofs -dsimp) ?_
    intro i hi
    by_cases hlt : i < L.length
    · obtain ⟨p, hp⟩ : ∃ p, L[i] = p := ⟨_, rfl⟩
      have hp' : L[i]? = some p := by rw [List.getElem?_eq_getElem hlt, hp]
      have hw : IntKind.i64.wrap ((i : Int) + 1) = (i : Int) + 1 := wrap64 (by omega) (by omega)
      have hS := same_fn false false p p (by have := hLe p (List.mem_of_getElem? hp'); omega)
      simp -implicitDefEqProofs -dsimp [hlt, hp, hp']
      refine CallK.reads ?_
      simp -implicitDefEqProofs -dsimp
      refine CallQ.same (hS) rfl ?_
      simp -implicitDefEqProofs -dsimp [hw]
      exact .mk (i + 1) hlt (by omega) (by simp -implicitDefEqProofs -dsimp)
    · have ein : i = L.length := by omega
      subst ein
      have hS2 := same_fn L.isEmpty nj F F (by omega)
      by_cases c2 : limit < 1
      · simp -implicitDefEqProofs -dsimp [hlt, c2]
        refine CallK.works ?_
        simp -implicitDefEqProofs -dsimp
        refine CallQ.mk (hJ) (by simp) ?_
        simp -implicitDefEqProofs -dsimp
        refine CallK.fresh ?_
        simp -implicitDefEqProofs -dsimp
        refine CallQ.same (hK) rfl ?_
        simp -implicitDefEqProofs -dsimp [fr_u8s]
        refine CallK.reads ?_
        simp -implicitDefEqProofs -dsimp
        refine CallQ.same (hS2) rfl ?_
        simp -implicitDefEqProofs -dsimp
      · have hF := hfl c2
        subst hF
        have hS1 := same_fn L.isEmpty nl F F (by omega)
        simp -implicitDefEqProofs -dsimp [hlt, c2]
        refine CallK.works ?_
        simp -implicitDefEqProofs -dsimp
        refine CallQ.mk (hJ) (by simp) ?_
        simp -implicitDefEqProofs -dsimp
        refine CallK.reads ?_
        simp -implicitDefEqProofs -dsimp
        refine CallQ.same (hS1) rfl ?_
        simp -implicitDefEqProofs -dsimp
        refine CallK.works ?_
        simp -implicitDefEqProofs -dsimp
        refine CallQ.mk (hJ) (by simp) ?_
        simp -implicitDefEqProofs -dsimp
        refine CallK.fresh ?_
        simp -implicitDefEqProofs -dsimp
        refine CallQ.same (hK) rfl ?_
        simp -implicitDefEqProofs -dsimp [fr_u8s]
        refine CallK.reads ?_
        simp -implicitDefEqProofs -dsimp
        refine CallQ.same (hS2) rfl ?_
        simp -implicitDefEqProofs -dsimp
theorem partsb_law (xs : List PV) (h : ShpAll Tryd.prog 6 Tryd.f13.params.toList xs) : Fc Tryd.prog 13 xs [] (.lit (.bool true)) [] := by
  obtain ⟨x, y, rfl, hx, hy⟩ := shp_args2 h
  obtain ⟨nl, b, rfl, k1, k2, k3⟩ := arg_ints (k := .u8) Tryd.underlying39 Tryd.underlying5 cells5 hx
  obtain ⟨a, rfl, ha⟩ := arg_int (k := .i64) Tryd.underlying3 hy
  obtain ⟨a0, a1⟩ := wf_i64 ha
  exact partsb_fn nl b k1 a a0 a1
end Go.Proofs.YtekokchejkjjjaaDoor
