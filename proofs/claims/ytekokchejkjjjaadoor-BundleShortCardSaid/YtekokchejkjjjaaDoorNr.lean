/- The law BundleShort. (and what stands on it) -/
import Derived.Test.YtekokchejkjjjaaDoorNq
set_option linter.unusedSimpArgs false
set_option linter.unusedVariables false

/-! The law BundleShort. -/
namespace Go.Sy
theorem bin_cat {P : Program} {t : TypeId} {x y : Operand} {a b : ByteArray} (h : a.size + b.size ≤ 1000000) : binPV P .add t x y (.lit (.string a)) (.lit (.string b)) = some (.lit (.string (a ++ b))) := by
  have hi : IntKind.i64.max = 9223372036854775807 := by decide
  have h' : ¬ (((a.size + b.size : Nat) : Int) > IntKind.i64.max) := by rw [hi]; omega
  have e : binPV P .add t x y (.lit (.string a)) (.lit (.string b)) = (pureOf P (Go.Op.stringOp .add a b)).map .lit := rfl
  rw [e]
  simp only [Go.Op.stringOp]
  rw [if_neg h']
  rfl
theorem bs_cat (a b : ByteArray) : bs (a ++ b) = bs a ++ bs b := by
  simp [bs]
end Go.Sy
namespace Go.Proofs.YtekokchejkjjjaaDoor
open Go.Sy
theorem cmn_front (T B : List Int) : cmn T (T ++ B) = T.length := by
  have h1 := (cmn_ge T.length T (T ++ B)).2 ⟨Nat.le_refl _, by simp, by simp⟩
  have h2 := (cmn_le T (T ++ B)).1
  omega
theorem best_front (T B : List Int) (h : T ≠ []) : ∀ k, best T (T ++ B) (k + 1) = (0, T.length)
  | 0 => by
    have := List.length_pos_iff.2 h
    rw [best, best, List.drop_zero, cmn_front, if_pos this]
  | k + 1 => by
    rw [best, best_front T B h k, if_neg]
    have := (cmn_le (T.drop (k + 1)) (T ++ B)).1
    simp at this ⊢; omega
theorem make_front (T B : List Int) (h1 : 8 ≤ T.length) (h2 : T.length ≤ 60) (h3 : B.length ≤ 10) : (makeS T (T ++ B)).length ≤ B.length + 5 := by
  have hT : T ≠ [] := fun h => by rw [h] at h1; simp at h1
  obtain ⟨m, hm⟩ : ∃ m, T.length = m + 1 := ⟨T.length - 1, by omega⟩
  have hb : best T ((T ++ B).drop 0) T.length = (0, T.length) := by rw [List.drop_zero, hm, best_front T B hT m, hm]
  unfold makeS
  rw [makeW, dif_pos (by simp; omega)]
  simp only [hb]
  rw [dif_neg (by omega), makeW_out]
  have := makeW_len T (T ++ B) (by omega) (by simp; omega) _ (0 + T.length) [] (Nat.le_refl _) (by simp) (by simp)
  have e : ins (enc (T ++ B).length) [] = enc (T ++ B).length := by rw [ins, if_pos rfl]
  have l1 := enc_one (n := (T ++ B).length) (by simp; omega)
  have l2 := enc_one (n := T.length) (by omega)
  have l3 := enc_one (n := 0) (by omega)
  rw [e]
  simp only [List.length_append, List.length_nil] at this l1 ⊢
  omega
theorem dig_ne (b : List Int) : ¬ digOf b = em := fun h => by have := digOf_size b; rw [h] at this; exact absurd this (by decide)
theorem tx_len {i : ByteArray} (h : i.size < 128) : (txA i).length = i.size + 1 := by
  rw [txA, List.length_append, enc_one h, bs_length]; omega
theorem packN_len (x : OB) (h : x.id.size = 32) (hb : x.b.length < 128) : (packL [] [x] 1).length = 36 + x.b.length := by
  have hbI : baseI [] [x] 0 = (em, x.nl, x.b) := by
    rw [baseI]; rfl
  have l1 := tx_len (i := x.id) (by omega)
  have l2 := tx_len (i := em) (by decide)
  have l3 := enc_one (n := x.b.length) hb
  have l4 := enc_one (n := 1) (by omega)
  rw [packL, packL, packI, hbI]
  simp only [List.length_append, List.length_cons, List.length_nil, List.getD_cons_zero, l1, l2, l3] at l4 ⊢
  rw [h, l4, show em.size = 0 from rfl]; omega
theorem packK_len (y x : OB) (hy : y.id.size = 32) (hx : x.id.size = 32) (h : (makeS y.b x.b).length < x.b.length) (hb : x.b.length < 128) : (packL [y] [x] 1).length = 68 + (makeS y.b x.b).length := by
  have hne : ¬ y.id = em := fun e => by rw [e] at hy; exact absurd hy (by decide)
  have hbI : baseI [y] [x] 0 = (y.id, false, makeS y.b x.b) := by
    have : baseI [y] [x] 0 = formL x.b [y] [] (em, x.nl, x.b) := rfl
    rw [this, formL, if_neg (by simp [hasS]), formL, fstep, if_pos ⟨hne, h⟩]
  have l1 := tx_len (i := x.id) (by omega)
  have l2 := tx_len (i := y.id) (by omega)
  have l3 := enc_one (n := (makeS y.b x.b).length) (by omega)
  have l4 := enc_one (n := 1) (by omega)
  rw [packL, packL, packI, hbI]
  simp only [List.length_append, List.length_cons, List.length_nil, List.getD_cons_zero, l1, l2, l3] at l4 ⊢
  rw [hx, hy, l4]; omega

set_option maxRecDepth 100000 in
set_option maxHeartbeats 32000000 in
theorem shortb_fn (x y : ByteArray) (hx : x.size ≤ 9223372036854775807) (hy : y.size ≤ 9223372036854775807) :
    Fc Tryd.prog 14 [.lit (.string x), .lit (.string y)] [] (.lit (.bool true)) [] := by
  refine Fc.of (anys _ [36, 44, 38, 40, 42]) [] mixed Tryd.func14 rfl (by rfl) (by simp [Tryd.ntmps14]) (by decide) ?_
  simp -implicitDefEqProofs -dsimp [Tryd.ntmps14]
  refine CallK.reads ?_
  simp -implicitDefEqProofs -dsimp
  refine CallQ.same (wake_fn) rfl ?_
  simp -implicitDefEqProofs -dsimp
  by_cases c1 : (x.size : Int) < 40
  · simp -implicitDefEqProofs -dsimp [c1]
  · by_cases c2 : 60 < (x.size : Int)
    · simp -implicitDefEqProofs -dsimp [c1, c2]
    · by_cases c3 : 10 < (y.size : Int)
      · simp -implicitDefEqProofs -dsimp [c1, c2, c3]
      · simp -implicitDefEqProofs -dsimp [c1, c2, c3]
        have hT : (bs x).length = x.size := bs_length x
        have hB : (bs y).length = y.size := bs_length y
        have hN1 := namedI_fn false [x] (by simp) (by simp; omega)
        have hN2 := namedI_fn false [x ++ y] (by simp) (by simp; omega)
        have D1 : Dgs (named [x]) := named_dgs (by simp; omega)
        have D2 : Dgs (named [x ++ y]) := named_dgs (by simp; omega)
        obtain ⟨p, hp⟩ : ∃ p : OB, p = ⟨digOf (bs x), false, bs x⟩ := ⟨_, rfl⟩
        obtain ⟨q, hq⟩ : ∃ q : OB, q = ⟨digOf (bs (x ++ y)), false, bs (x ++ y)⟩ := ⟨_, rfl⟩
        have e1 : named [x] = [p] := by rw [hp]; rfl
        have e2 : named [x ++ y] = [q] := by rw [hq]; rfl
        have hp1 : p.id.size = 32 := by rw [hp]; exact digOf_size _
        have hq1 : q.id.size = 32 := by rw [hq]; exact digOf_size _
        have hpb : p.b = bs x := by rw [hp]
        have hqb : q.b = bs x ++ bs y := by rw [hq]; exact bs_cat x y
        have hql : q.b.length = x.size + y.size := by rw [hqb, List.length_append, hT, hB]
        have hmf := make_front (bs x) (bs y) (by omega) (by omega) (by omega)
        rw [← hqb, ← hpb, hB] at hmf
        have l1 := packN_len q hq1 (by omega)
        have l2 := packK_len p q hp1 hq1 (by omega) (by omega)
        simp only [List.isEmpty_cons] at hN1 hN2
        rw [e1] at hN1 D1
        rw [e2] at hN2 D2
        have hA := packN_fn [q] false D2.fit (by simp)
        have hK := pack_fn false false [p] [q] D1.fit D2.fit (by simp) (by simp)
        obtain ⟨o, h1, h2⟩ := unpS_same [p] [q] D1.known D2 (by simp) false
        have hPi := inB_pack (k := [p]) D2
        have hU := unpack_fn false [p] (by simp) (fun o ho => by have := D1.len o ho; omega) false (packL [p] [q] [q].length) (by simp) hPi (by rw [show [q].length = 1 from rfl]; omega)
        rw [h1] at hU
        have hS := osame_to D2 h2 (by simp) false
        simp only [oblPV_some] at hU
        rw [show [q].length = 1 from rfl] at hA hK hU
        have w1 : IntKind.i64.wrap (74 + (y.size : Int)) = 74 + (y.size : Int) := wrap64 (by omega) (by omega)
        have w2 : IntKind.i64.wrap (36 + (x.size : Int)) = 36 + (x.size : Int) := wrap64 (by omega) (by omega)
        have t1 : ((packL [p] [q] 1).length : Int) ≤ 74 + (y.size : Int) := by omega
        have t2 : 36 + (x.size : Int) ≤ ((packL [] [q] 1).length : Int) := by omega
        obtain ⟨A, hAe⟩ : ∃ A, A = packL [] [q] 1 := ⟨_, rfl⟩
        obtain ⟨B, hBe⟩ : ∃ B, B = packL [p] [q] 1 := ⟨_, rfl⟩
        rw [← hAe] at hA t2
        rw [← hBe] at hK hU t1
        have hcat := fun (ta : TypeId) (oa ob : Operand) => bin_cat (P := Tryd.prog) (t := ta) (x := oa) (y := ob) (a := x) (b := y) (by omega)
        refine CallK.works ?_
        simp -implicitDefEqProofs -dsimp
        refine CallQ.mk (hN1) (by simp) ?_
        simp -implicitDefEqProofs -dsimp [hcat]
        refine CallK.works ?_
        simp -implicitDefEqProofs -dsimp
        refine CallQ.mk (hN2) (by simp) ?_
        simp -implicitDefEqProofs -dsimp [hcat]
        refine CallK.works ?_
        simp -implicitDefEqProofs -dsimp
        refine CallQ.mk (hA) (by simp) ?_
        simp -implicitDefEqProofs -dsimp [hcat]
        refine CallK.works ?_
        simp -implicitDefEqProofs -dsimp
        refine CallQ.mk (hK) (by simp) ?_
        simp -implicitDefEqProofs -dsimp [hcat]
        refine CallK.works ?_
        simp -implicitDefEqProofs -dsimp
        refine CallQ.mk (hU) (by simp) ?_
        simp -implicitDefEqProofs -dsimp [hcat]
        refine CallK.reads ?_
        simp -implicitDefEqProofs -dsimp
        refine CallQ.same (hS) rfl ?_
        simp -implicitDefEqProofs -dsimp [w1, w2, t1, t2, hcat]
theorem shortb_law (xs : List PV) (h : ShpAll Tryd.prog 6 Tryd.f14.params.toList xs) : Fc Tryd.prog 14 xs [] (.lit (.bool true)) [] := by
  obtain ⟨x, y, rfl, hx, hy⟩ := shp_args2 h
  obtain ⟨s, rfl, hs⟩ := arg_str Tryd.underlying9 hx
  obtain ⟨t, rfl, ht⟩ := arg_str Tryd.underlying9 hy
  exact shortb_fn s t (by simpa [maxLen] using hs) (by simpa [maxLen] using ht)
end Go.Proofs.YtekokchejkjjjaaDoor
