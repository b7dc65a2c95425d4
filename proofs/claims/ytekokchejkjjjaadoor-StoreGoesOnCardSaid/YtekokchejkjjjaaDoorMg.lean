/- The law StoreOpens, walked. (and what stands on it) -/
import Derived.Test.YtekokchejkjjjaaDoorMf
import Derived.Test.YtekokchejkjjjaaDoorMe
set_option linter.unusedSimpArgs false
set_option linter.unusedVariables false

/-! The law StoreOpens, walked. -/
namespace Go.Sy
theorem open_keeps (dg : List Int → ByteArray) : ∀ (n : Nat) (b : List Int) (a : Nat) (L : List Objt), InB b → Kept dg L → Kept dg (openS dg n b a L).1
  | 0, b, a, L, _, hk => by simpa [openS] using hk
  | n + 1, b, a, L, hb, hk => by
    rw [openS]
    split
    · exact hk
    · split
      · exact hk
      · rename_i c1
        split
        · exact hk
        · rename_i c2
          split
          · exact hk
          · rename_i c3
            obtain ⟨q1, q2, q3, q4⟩ := firstS_next dg hb (by simpa using c1) (by simpa using c2)
            refine open_keeps dg n _ _ _ (hb.drop _) ⟨fun o ho => ?_, fun o ho => ?_, fun o ho => ?_, ?_⟩
            · rcases List.mem_append.1 ho with ho | ho
              · exact hk.id o ho
              · simp at ho; subst ho; rfl
            · rcases List.mem_append.1 ho with ho | ho
              · exact hk.bytes o ho
              · simp at ho; subst ho; exact q3
            · rcases List.mem_append.1 ho with ho | ho
              · exact hk.len o ho
              · simp at ho; subst ho; exact q4
            · rw [List.map_append, List.nodup_append]
              refine ⟨hk.apart, by simp, fun x hx y hy e => ?_⟩
              simp only [List.map_cons, List.map_nil, List.mem_singleton] at hy
              subst hy; subst e
              exact c3 (hasO_iff.2 hx)
theorem open_len (dg : List Int → ByteArray) : ∀ (n : Nat) (b : List Int) (a : Nat) (L : List Objt), (openS dg n b a L).1.length ≤ L.length + n
  | 0, b, a, L => by simp [openS]
  | n + 1, b, a, L => by
    rw [openS]
    split
    · simp
    · split
      · simp
      · split
        · simp
        · split
          · simp
          · have := open_len dg n (b.drop (firstS dg b).next) (a + (firstS dg b).next) (L ++ [(dg (firstS dg b).b, (firstS dg b).b)])
            simp only [List.length_append, List.length_singleton] at this; omega
theorem kept0 (dg : List Int → ByteArray) : Kept dg [] := ⟨by simp, by simp, by simp, by simp⟩
end Go.Sy
namespace Go.Proofs.YtekokchejkjjjaaDoor
open Go.Sy
set_option maxRecDepth 100000 in
set_option maxHeartbeats 16000000 in
theorem opens_fn (nb : Bool) (b : List Int) (hn : nb = true → b = []) (hb : InB b) : Fc Tryd.prog 4 [.sl .imm nb 1 (u8s b)] [] (.lit (.bool true)) [] := by
  by_cases hl : 500 < (b.length : Int)
  · refine Fc.of (anys _ [15, 17, 23, 24, 18, 25, 27, 26, 28]) sch4 mixed Tryd.func4 rfl (by rfl) (by simp [Tryd.ntmps4]) (by decide) ?_
    simp -implicitDefEqProofs -dsimp [Tryd.ntmps4]
    refine CallK.reads ?_
    simp -implicitDefEqProofs -dsimp
    refine CallQ.same (awake_fn) rfl ?_
    simp -implicitDefEqProofs -dsimp [hl]
  · have hE := empty_fn 1000 (by decide) (by decide)
    have hA := append_fn (D0 1000) (D0_ok (by decide) (by decide)) nb b
    have hB := rappend_fn (R0 1000) ⟨by simp [R0], by simp [R0], by simp [R0], by simp [R0], by simp [R0]⟩ nb b (by omega)
    have eA : (D0 1000).append b = (0, ⟨b.isEmpty, b, 1000, -1, false⟩) := by
      unfold DS.append DS.app DS.left D0
      rw [if_neg (by simp), if_neg (by simp; omega), if_pos rfl]; simp
    have eB : (R0 1000).append b = (0, ⟨b.isEmpty, b, 1000, false, 0, false⟩) := by
      unfold RS.append RS.app R0
      rw [if_neg (by simp), if_neg (by simp; omega), if_neg (by simp)]; simp
    rw [eA] at hA
    rw [eB] at hB
    simp only [D0, R0] at hE hA hB
    have hd : (DS.mk b.isEmpty b 1000 (-1) false).Ok := ⟨by simp, by simp, by simp only; omega, by simp, by simp, fun h => by simpa using h⟩
    have hK := open_keeps digOf b.length b 0 [] hb (kept0 digOf)
    have hLl := open_len digOf b.length b 0 []
    have hC := open_cut digOf b.length b 0 [] hb
    obtain ⟨⟨L, e, c⟩, hR⟩ : ∃ R, R = openS digOf b.length b 0 [] := ⟨_, rfl⟩
    obtain ⟨B, hBB⟩ : ∃ B, B = openB digOf b.length b [] := ⟨_, rfl⟩
    rw [← hR] at hK hLl hC
    simp only [List.length_nil, Nat.zero_add] at hK hLl hC
    have w0 : b.length ≤ 9223372036854775806 := by omega
    by_cases he : e = 0
    · subst he
      have hS := sopen_ok (DS.mk b.isEmpty b 1000 (-1) false) hd hb rfl (by simp only; omega) L c hR.symm
      have hT := ropen_ok (RS.mk b.isEmpty b 1000 false 0 false) hb rfl (by simp only; omega) L c B hR.symm hBB
      simp only at hS hT
      have hd2 : (DS.mk b.isEmpty (b.take c) 1000 (-1) false).Ok := ⟨by simp, by simp, by simp; omega, by simp, by simp, fun h => by simp at h; simp [h]⟩
      have hSm := ssameI_fn (DS.mk b.isEmpty (b.take c) 1000 (-1) false) (RS.mk (!B && b.isEmpty) (b.take c) 1000 false 0 false) L hK (by omega)
      simp only [saHimm, RS.cells] at hSm
      refine Fc.of (anys _ [15, 17, 23, 24, 18, 25, 27, 26, 28]) sch4 mixed Tryd.func4 rfl (by rfl) (by simp [Tryd.ntmps4]) (by decide) ?_
      simp -implicitDefEqProofs -dsimp [Tryd.ntmps4]
      refine CallK.reads ?_
      simp -implicitDefEqProofs -dsimp
      refine CallQ.same (awake_fn) rfl ?_
      simp -implicitDefEqProofs -dsimp [hl]
      refine CallK.works ?_
      simp -implicitDefEqProofs -dsimp
      refine CallQ.mk (hE) (by simp) ?_
      simp -implicitDefEqProofs -dsimp
      refine CallK.works ?_
      simp -implicitDefEqProofs -dsimp
      refine CallQ.mk (hA) (by simp) ?_
      simp -implicitDefEqProofs -dsimp
      refine CallK.works ?_
      simp -implicitDefEqProofs -dsimp
      refine CallQ.mk (hB) (by simp) ?_
      simp -implicitDefEqProofs -dsimp
      refine CallK.works ?_
      simp -implicitDefEqProofs -dsimp
      refine CallQ.mk (hS) (by simp) ?_
      simp -implicitDefEqProofs -dsimp
      refine CallK.works ?_
      simp -implicitDefEqProofs -dsimp
      refine CallQ.mk (hT) (by simp) ?_
      simp -implicitDefEqProofs -dsimp
      refine CallK.fresh ?_
      simp -implicitDefEqProofs -dsimp
      refine CallQ.same (bytes_fn _ hd2) rfl ?_
      simp -implicitDefEqProofs -dsimp [fr_u8s, RS.cells]
      refine CallK.reads ?_
      simp -implicitDefEqProofs -dsimp
      refine CallQ.same (same_fn b.isEmpty (!B && b.isEmpty) (b.take c) (b.take c) (by simp; omega)) rfl ?_
      simp -implicitDefEqProofs -dsimp
      refine CallK.works ?_
      simp -implicitDefEqProofs -dsimp
      refine CallQ.mk (hSm) (by simp) ?_
      simp -implicitDefEqProofs -dsimp
    · have hS := sopen_bad (DS.mk b.isEmpty b 1000 (-1) false) hd hb rfl (by simp only; omega) L e c he hR.symm
      have hT := ropen_bad (RS.mk b.isEmpty b 1000 false 0 false) hb rfl (by simp only; omega) L e c B he hR.symm hBB
      refine Fc.of (anys _ [15, 17, 23, 24, 18, 25, 27, 26, 28]) sch4 mixed Tryd.func4 rfl (by rfl) (by simp [Tryd.ntmps4]) (by decide) ?_
      simp -implicitDefEqProofs -dsimp [Tryd.ntmps4]
      refine CallK.reads ?_
      simp -implicitDefEqProofs -dsimp
      refine CallQ.same (awake_fn) rfl ?_
      simp -implicitDefEqProofs -dsimp [hl]
      refine CallK.works ?_
      simp -implicitDefEqProofs -dsimp
      refine CallQ.mk (hE) (by simp) ?_
      simp -implicitDefEqProofs -dsimp
      refine CallK.works ?_
      simp -implicitDefEqProofs -dsimp
      refine CallQ.mk (hA) (by simp) ?_
      simp -implicitDefEqProofs -dsimp
      refine CallK.works ?_
      simp -implicitDefEqProofs -dsimp
      refine CallQ.mk (hB) (by simp) ?_
      simp -implicitDefEqProofs -dsimp
      refine CallK.works ?_
      simp -implicitDefEqProofs -dsimp
      refine CallQ.mk (hS) (by simp) ?_
      simp -implicitDefEqProofs -dsimp
      refine CallK.works ?_
      simp -implicitDefEqProofs -dsimp
      refine CallQ.mk (hT) (by simp) ?_
      simp -implicitDefEqProofs -dsimp [he]
      refine CallK.fresh ?_
      simp -implicitDefEqProofs -dsimp
      refine CallQ.same (bytes_fn _ hd) rfl ?_
      simp -implicitDefEqProofs -dsimp [fr_u8s, RS.cells]
      refine CallK.reads ?_
      simp -implicitDefEqProofs -dsimp
      refine CallQ.same (same_fn b.isEmpty b.isEmpty b b (by omega)) rfl ?_
      simp -implicitDefEqProofs -dsimp
end Go.Proofs.YtekokchejkjjjaaDoor

/-! The law StoreOpens. -/
namespace Go.Proofs.YtekokchejkjjjaaDoor
open Go.Sy
theorem opens_law (xs : List PV) (h : ShpAll Tryd.prog 6 Tryd.f4.params.toList xs) : Fc Tryd.prog 4 xs [] (.lit (.bool true)) [] := by
  obtain ⟨x, rfl, hx⟩ := shp_args1 h
  obtain ⟨nl, b, rfl, b1, -, b3⟩ := arg_ints (k := .u8) Tryd.underlying39 Tryd.underlying5 (by kernel_rfl) hx
  exact opens_fn nl b b1 fun n hn => wf_u8 (b3 n hn)
end Go.Proofs.YtekokchejkjjjaaDoor
