/- Objects that come in; the laws BundlePacks and BundleUnpacks. (and what stands on it) -/
import Derived.Test.YtekokchejkjjjaaDoorNg
import Derived.Test.YtekokchejkjjjaaDoorNn
set_option linter.unusedSimpArgs false
set_option linter.unusedVariables false

/-! Objects that come in; the laws BundlePacks and BundleUnpacks. -/
namespace Go.Sy
theorem part_one {ys : List PV} {k : Nat} {y : PV} (h : (ys.drop k).take 1 = [y]) : ys[k]? = some y := by
  have : ((ys.drop k).take 1)[0]? = some y := by rw [h]; rfl
  simpa using this
theorem list2 {ys : List PV} {a b : PV} (hl : ys.length = 2) (h0 : ys[0]? = some a) (h1 : ys[1]? = some b) : ys = [a, b] := by
  apply List.ext_getElem?
  intro j
  match j with
  | 0 => exact h0
  | 1 => exact h1
  | j + 2 => rw [List.getElem?_eq_none (by omega), List.getElem?_eq_none (by simp)]
end Go.Sy
namespace Go.Proofs.YtekokchejkjjjaaDoor
open Go.Sy
theorem cells36 : Tryd.prog.cellsOf 36 = 1 := by kernel_rfl
theorem cells39 : Tryd.prog.cellsOf 39 = 1 := by kernel_rfl
theorem cells5 : Tryd.prog.cellsOf 5 = 1 := by kernel_rfl
theorem cells70 : Tryd.prog.cellsOf 70 = 2 := by kernel_rfl
set_option maxRecDepth 100000 in
theorem arg_objs {x : PV} (h : ∃ ys, Shp Tryd.prog 6 61 ys ∧ x = packE Tryd.prog 61 ys) :
    ∃ nl l, x = .sl .imm nl 2 (obl l) ∧ l.length ≤ maxLen ∧ ∀ o, o ∈ l → o.b.length ≤ maxLen ∧ InB o.b := by
  obtain ⟨nl, xs, rfl, h1, h2, h3⟩ := arg_rows Tryd.underlying61 h
  obtain ⟨l, rfl, h4⟩ := list_choose (p := fun o : OB => o.b.length ≤ maxLen ∧ InB o.b) (f := fun o => PV.agg o.cells) (xs := xs) fun x hx => by
    obtain ⟨zs, hz, rfl⟩ := h3 x hx
    obtain ⟨hl, hf⟩ := shp_struct Tryd.underlying70 hz
    rw [cells70] at hl
    have f0 := hf _ (.head _)
    have f1 := hf _ (.tail _ (.head _))
    simp only [cells36, cells39] at f0 f1
    obtain ⟨i, e0, -⟩ := shp_str Tryd.underlying36 f0
    obtain ⟨nb, b, e1, k1, k2, k3⟩ := shp_ints (k := .u8) Tryd.underlying39 Tryd.underlying5 cells5 f1
    refine ⟨⟨i, nb, b⟩, ⟨k2, fun q hq => wf_u8 (k3 q hq)⟩, ?_⟩
    rw [list2 hl (part_one e0) (part_one e1)]; rfl
  exact ⟨nl, l, by rw [cells70]; rfl, by simpa using h2, h4⟩
theorem obyte_few {l : List OB} (h : fewO l = true) : Fit l ∧ l.length ≤ 6 := by
  obtain ⟨h1, h2⟩ := fewO_iff h
  exact ⟨⟨fun o ho => by have := (h2 o ho).1; omega, fun o ho => by have := (h2 o ho).2; omega⟩, h1⟩
set_option maxRecDepth 100000 in
set_option maxHeartbeats 8000000 in
theorem packs_fn (n1 n2 : Bool) (k l : List OB) (hk : k.length ≤ 9223372036854775807) (hl : l.length ≤ 9223372036854775807) : Fc Tryd.prog 9 [.sl .imm n1 2 (obl k), .sl .imm n2 2 (obl l)] [] (.lit (.bool true)) [] := by
  refine Fc.of (anys _ [36, 37, 38, 39, 26]) [] mixed Tryd.func9 rfl (by rfl) (by simp [Tryd.ntmps9]) (by decide) ?_
  simp -implicitDefEqProofs -dsimp [Tryd.ntmps9]
  refine CallK.reads ?_
  simp -implicitDefEqProofs -dsimp
  refine CallQ.same (wake_fn) rfl ?_
  simp -implicitDefEqProofs -dsimp
  refine CallK.reads ?_
  simp -implicitDefEqProofs -dsimp
  refine CallQ.same (ofew_fn n1 k hk) rfl ?_
  simp -implicitDefEqProofs -dsimp
  refine CallK.reads ?_
  simp -implicitDefEqProofs -dsimp
  refine CallQ.same (ofew_fn n2 l hl) rfl ?_
  simp -implicitDefEqProofs -dsimp
  cases c1 : fewO k with
  | false => simp -implicitDefEqProofs -dsimp [c1]
  | true =>
    cases c2 : fewO l with
    | false => simp -implicitDefEqProofs -dsimp [c1, c2]
    | true =>
      obtain ⟨f1, f2⟩ := obyte_few c1
      obtain ⟨g1, g2⟩ := obyte_few c2
      have hP := packL_length f1 g1 (by omega) l.length (Nat.le_refl _)
      simp -implicitDefEqProofs -dsimp [c1, c2]
      refine CallK.works ?_
      simp -implicitDefEqProofs -dsimp
      refine CallQ.mk (pack_fn n1 n2 k l f1 g1 (by omega) (by omega)) (by simp) ?_
      simp -implicitDefEqProofs -dsimp
      refine CallK.works ?_
      simp -implicitDefEqProofs -dsimp
      refine CallQ.mk (rpack_fn n1 n2 k l f1 g1 (by omega) (by omega)) (by simp) ?_
      simp -implicitDefEqProofs -dsimp
      refine CallK.reads ?_
      simp -implicitDefEqProofs -dsimp
      refine CallQ.same (same_fn false false (packL k l l.length) (packL k l l.length) (by omega)) rfl ?_
      simp -implicitDefEqProofs -dsimp
theorem packs_law (xs : List PV) (h : ShpAll Tryd.prog 6 Tryd.f9.params.toList xs) : Fc Tryd.prog 9 xs [] (.lit (.bool true)) [] := by
  obtain ⟨x, y, rfl, hx, hy⟩ := shp_args2 h
  obtain ⟨n1, k, rfl, h1, -⟩ := arg_objs hx
  obtain ⟨n2, l, rfl, h2, -⟩ := arg_objs hy
  exact packs_fn n1 n2 k l (by simpa [maxLen] using h1) (by simpa [maxLen] using h2)
theorem osame_refl (o : Option (List OB)) (h : ∀ l, o = some l → l.length ≤ 140737488355328 ∧ ∀ o, o ∈ l → o.b.length < 9223372036854775807) : Fc Tryd.prog 42 [oblPV o, oblPV o] [] (.lit (.bool true)) [] := by
  cases o with
  | none =>
    have := (osame_fn true true [] [] (by simp) (by simp)).args (xs := [.sl .imm true 0 [], .sl .imm true 0 []]) (by simp)
    rw [sameO_of rfl] at this
    exact this
  | some l =>
    obtain ⟨h1, h2⟩ := h l rfl
    have := osame_fn l.isEmpty l.isEmpty l l h1 h2
    rw [sameO_of rfl] at this
    exact this
theorem unpW_len (k : List OB) : ∀ (n : Nat) (w : WS) (out : List OB), w.Ok → out.length + n ≤ 1000 → (∀ o, o ∈ out → o.b.length ≤ 131072) → ∀ l e w', unpW k n w out = ((some l, e), w') → l.length ≤ 1000 ∧ ∀ o, o ∈ l → o.b.length ≤ 131072
  | 0, w, out, _, h1, h2, l, e, w', h => by
    rw [unpW] at h; cases h; exact ⟨by omega, h2⟩
  | n + 1, w, out, hw, h1, h2, l, e, w', h => by
    rw [unpW] at h
    rcases oneB_cases (k ++ out) hw with ⟨x, w1, e1, e2, e3⟩ | ⟨er, w1, e1, e2, e3⟩
    · rw [e1] at h
      refine unpW_len k n w1 (out ++ [x]) e3 (by simp; omega) (fun o ho => ?_) l e w' h
      rcases List.mem_append.1 ho with ho | ho
      · exact h2 o ho
      · simp at ho; subst ho; exact e2
    · rw [e1] at h; cases h
theorem unpS_len (k : List OB) (nl : Bool) (b : List Int) (hw : (WS.mk nl b 0).Ok) (l : List OB) (h : (unpS k nl b).1 = some l) : l.length ≤ 1000 ∧ ∀ o, o ∈ l → o.b.length ≤ 131072 := by
  have h1 := unpW_len k (WS.mk nl b 0).num.1 (WS.mk nl b 0).num.2 [] (WS.num_ok hw)
  unfold unpS at h
  extract_lets q at h
  have hq : q.1 = (WS.mk nl b 0).num.1 := rfl
  have h1 : q.1 ≤ 64 → ∀ l e w', unpW k q.1 q.2 [] = ((some l, e), w') → l.length ≤ 1000 ∧ ∀ o, o ∈ l → o.b.length ≤ 131072 := fun h64 => h1 (by rw [List.length_nil]; omega) (by simp)
  by_cases c : 64 < q.1
  · rw [if_pos c] at h; cases h
  · rw [if_neg c] at h
    have h1 := h1 (by omega)
    generalize unpW k q.1 q.2 [] = R at *
    obtain ⟨⟨o, e⟩, w⟩ := R
    cases o with
    | none => cases h
    | some l' =>
      rw [unpE] at h
      split at h
      · cases h
      · cases h; exact h1 l e w rfl
set_option maxRecDepth 100000 in
set_option maxHeartbeats 8000000 in
theorem unpacks_fn (n1 n2 : Bool) (k : List OB) (b : List Int) (hk : k.length ≤ 9223372036854775807) (hki : ∀ o, o ∈ k → InB o.b) (hn : n2 = true → b = []) (hb : InB b) (hl : b.length ≤ 9223372036854775807) :
    Fc Tryd.prog 10 [.sl .imm n1 2 (obl k), .sl .imm n2 1 (u8s b)] [] (.lit (.bool true)) [] := by
  refine Fc.of (anys _ [36, 37, 40, 41, 42]) [] mixed Tryd.func10 rfl (by rfl) (by simp [Tryd.ntmps10]) (by decide) ?_
  simp -implicitDefEqProofs -dsimp [Tryd.ntmps10]
  refine CallK.reads ?_
  simp -implicitDefEqProofs -dsimp
  refine CallQ.same (wake_fn) rfl ?_
  simp -implicitDefEqProofs -dsimp
  refine CallK.reads ?_
  simp -implicitDefEqProofs -dsimp
  refine CallQ.same (ofew_fn n1 k hk) rfl ?_
  simp -implicitDefEqProofs -dsimp
  cases c1 : fewO k with
  | false => simp -implicitDefEqProofs -dsimp [c1]
  | true =>
    by_cases c2 : 500 < (b.length : Int)
    · simp -implicitDefEqProofs -dsimp [c1, c2]
    · obtain ⟨f1, f2⟩ := obyte_few c1
      have hkb : ∀ o, o ∈ k → o.b.length ≤ 1000000 := fun o ho => by have := f1.b o ho; omega
      have hU := unpack_fn n1 k (by omega) hkb n2 b hn hb (by omega)
      have hR := runpack_fn n1 k (by omega) hkb hki n2 b hn hb (by omega)
      have hS := osame_refl (unpS k n2 b).1 fun l hl => by
        obtain ⟨h1, h2⟩ := unpS_len k n2 b ⟨hn, hb, by simp only; omega⟩ l hl
        exact ⟨by omega, fun o ho => by have := h2 o ho; omega⟩
      generalize unpS k n2 b = R at *
      obtain ⟨o, e⟩ := R
      simp only at hU hR hS
      cases o with
      | none =>
        simp -implicitDefEqProofs -dsimp [c1, c2]
        refine CallK.works ?_
        simp -implicitDefEqProofs -dsimp
        refine CallQ.mk (hU) (by simp) ?_
        simp -implicitDefEqProofs -dsimp
        refine CallK.works ?_
        simp -implicitDefEqProofs -dsimp
        refine CallQ.mk (hR) (by simp) ?_
        simp -implicitDefEqProofs -dsimp
        refine CallK.reads ?_
        simp -implicitDefEqProofs -dsimp
        refine CallQ.same (hS) rfl ?_
        simp -implicitDefEqProofs -dsimp
      | some l =>
        simp -implicitDefEqProofs -dsimp [c1, c2]
        refine CallK.works ?_
        simp -implicitDefEqProofs -dsimp
        refine CallQ.mk (hU) (by simp) ?_
        simp -implicitDefEqProofs -dsimp
        refine CallK.works ?_
        simp -implicitDefEqProofs -dsimp
        refine CallQ.mk (hR) (by simp) ?_
        simp -implicitDefEqProofs -dsimp
        refine CallK.reads ?_
        simp -implicitDefEqProofs -dsimp
        refine CallQ.same (hS) rfl ?_
        simp -implicitDefEqProofs -dsimp
theorem unpacks_law (xs : List PV) (h : ShpAll Tryd.prog 6 Tryd.f10.params.toList xs) : Fc Tryd.prog 10 xs [] (.lit (.bool true)) [] := by
  obtain ⟨x, y, rfl, hx, hy⟩ := shp_args2 h
  obtain ⟨n1, k, rfl, h1, h2⟩ := arg_objs hx
  obtain ⟨n2, b, rfl, k1, k2, k3⟩ := arg_ints (k := .u8) Tryd.underlying39 Tryd.underlying5 cells5 hy
  exact unpacks_fn n1 n2 k b (by simpa [maxLen] using h1) (fun o ho => (h2 o ho).2) k1 (fun n hn => wf_u8 (k3 n hn)) (by simpa [maxLen] using k2)
end Go.Proofs.YtekokchejkjjjaaDoor
