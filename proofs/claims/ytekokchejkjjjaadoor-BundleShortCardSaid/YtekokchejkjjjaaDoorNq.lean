/- The law BundleBack. (and what stands on it) -/
import Derived.Test.YtekokchejkjjjaaDoorNp
set_option linter.unusedSimpArgs false
set_option linter.unusedVariables false

/-! The law BundleBack. -/
namespace Go.Proofs.YtekokchejkjjjaaDoor
open Go.Sy
theorem unl_mem {l : List OB} (h : Unl l) : ∀ x y, x ∈ l → y ∈ l → x.id = y.id → x.b = y.b := by
  intro x y hx hy he
  obtain ⟨i, hi, rfl⟩ := List.getElem_of_mem hx
  obtain ⟨k, hk, rfl⟩ := List.getElem_of_mem hy
  rcases Nat.lt_trichotomy i k with c | rfl | c
  · exact (h k i _ _ (List.getElem?_eq_getElem hk) (List.getElem?_eq_getElem hi) c he.symm).symm
  · rfl
  · exact h i k _ _ (List.getElem?_eq_getElem hi) (List.getElem?_eq_getElem hk) c he
theorem osame_to {o : List OB} {M : List OB} (hD : Dgs M) (h : o.map OB.key = M.map OB.key) (hM : M.length ≤ 1000) (n2 : Bool) : Fc Tryd.prog 42 [.sl .imm o.isEmpty 2 (obl o), .sl .imm n2 2 (obl M)] [] (.lit (.bool true)) [] := by
  have hol : o.length = M.length := by have := congrArg List.length h; simpa using this
  have hS := osame_fn o.isEmpty n2 o M (by omega) (fun y hy => by
    have : y.key ∈ M.map OB.key := by rw [← h]; exact List.mem_map_of_mem hy
    obtain ⟨z, hz, hze⟩ := List.mem_map.1 this
    simp only [OB.key, Prod.mk.injEq] at hze
    rw [← hze.2]; have := hD.len z hz; omega)
  rw [sameO_of h] at hS
  exact hS

set_option maxRecDepth 100000 in
set_option maxHeartbeats 32000000 in
theorem backb_fn (m1 m2 m3 : Bool) (ks ls ms : List ByteArray) (k1 : ks.length ≤ 9223372036854775807) (k2 : ls.length ≤ 9223372036854775807) (k3 : ms.length ≤ 9223372036854775807) :
    Fc Tryd.prog 12 [.sl .imm m1 1 (idc ks), .sl .imm m2 1 (idc ls), .sl .imm m3 1 (idc ms)] [] (.lit (.bool true)) [] := by
  refine Fc.of (anys _ [36, 43, 44, 45, 38, 40, 42]) [] mixed Tryd.func12 rfl (by rfl) (by simp [Tryd.ntmps12]) (by decide) ?_
  simp -implicitDefEqProofs -dsimp [Tryd.ntmps12]
  refine CallK.reads ?_
  simp -implicitDefEqProofs -dsimp
  refine CallQ.same (wake_fn) rfl ?_
  simp -implicitDefEqProofs -dsimp
  refine CallK.reads ?_
  simp -implicitDefEqProofs -dsimp
  refine CallQ.same (texts_fn m1 ks k1) rfl ?_
  simp -implicitDefEqProofs -dsimp
  refine CallK.reads ?_
  simp -implicitDefEqProofs -dsimp
  refine CallQ.same (texts_fn m2 ls k2) rfl ?_
  simp -implicitDefEqProofs -dsimp
  refine CallK.reads ?_
  simp -implicitDefEqProofs -dsimp
  refine CallQ.same (texts_fn m3 ms k3) rfl ?_
  simp -implicitDefEqProofs -dsimp
  cases c1 : textsB ks with
  | false => simp -implicitDefEqProofs -dsimp [c1]
  | true =>
  cases c2 : textsB ls with
  | false => simp -implicitDefEqProofs -dsimp [c1, c2]
  | true =>
  cases c3 : textsB ms with
  | false => simp -implicitDefEqProofs -dsimp [c1, c2, c3]
  | true =>
    obtain ⟨f1, g1⟩ := textsB_iff c1
    obtain ⟨f2, g2⟩ := textsB_iff c2
    obtain ⟨f3, g3⟩ := textsB_iff c3
    have hN1 := namedI_fn m1 ks (by omega) fun s hs => by have := g1 s hs; omega
    have hN2 := namedI_fn m2 ls (by omega) fun s hs => by have := g2 s hs; omega
    have hN3 := namedI_fn m3 ms (by omega) fun s hs => by have := g3 s hs; omega
    have D1 : Dgs (named ks) := named_dgs fun s hs => by have := g1 s hs; omega
    have D2 : Dgs (named ls) := named_dgs fun s hs => by have := g2 s hs; omega
    have D3 : Dgs (named ms) := named_dgs fun s hs => by have := g3 s hs; omega
    have L1 : (named ks).length ≤ 6 := by simpa using f1
    have L2 : (named ls).length ≤ 6 := by simpa using f2
    have L3 : (named ms).length ≤ 6 := by simpa using f3
    obtain ⟨e1, he1⟩ : ∃ e, e = ks.isEmpty := ⟨_, rfl⟩
    obtain ⟨e2, he2⟩ : ∃ e, e = ls.isEmpty := ⟨_, rfl⟩
    obtain ⟨e3, he3⟩ : ∃ e, e = ms.isEmpty := ⟨_, rfl⟩
    rw [← he1] at hN1
    rw [← he2] at hN2
    rw [← he3] at hN3
    obtain ⟨K, hK⟩ : ∃ K, K = named ks := ⟨_, rfl⟩
    obtain ⟨M, hM⟩ : ∃ M, M = named ls := ⟨_, rfl⟩
    obtain ⟨Q, hQ⟩ : ∃ Q, Q = named ms := ⟨_, rfl⟩
    rw [← hK] at hN1 D1 L1
    rw [← hM] at hN2 D2 L2
    rw [← hQ] at hN3 D3 L3
    have DA : Dgs (K ++ (M ++ Q)) := by
      constructor <;> intro x hx <;> rcases List.mem_append.1 hx with hx | hx <;> (try rcases List.mem_append.1 hx with hx | hx)
      · exact D1.id x hx
      · exact D2.id x hx
      · exact D3.id x hx
      · exact D1.len x hx
      · exact D2.len x hx
      · exact D3.len x hx
      · exact D1.bytes x hx
      · exact D2.bytes x hx
      · exact D3.bytes x hx
    obtain ⟨t, ht⟩ : ∃ t : Bool, t = true ↔ Unl (K ++ (M ++ Q)) := by
      classical
      exact ⟨decide (Unl (K ++ (M ++ Q))), decide_eq_true_iff⟩
    have hUn := unlike_fn false (K ++ (M ++ Q)) (by simp; omega) (fun o ho => by have := DA.len o ho; omega) t ht
    have z1 : K.length ≤ 140737488355328 := by omega
    have z2 : K.length * 40 ≤ 140737488355328 := by omega
    have z3 : K.length + M.length ≤ 140737488355328 := by omega
    have z4 : (K.length + M.length) * 40 ≤ 140737488355328 := by omega
    have z5 : K.length + M.length + Q.length ≤ 140737488355328 := by omega
    have z6 : (K.length + M.length + Q.length) * 40 ≤ 140737488355328 := by omega
    have z7 : K.length + Q.length ≤ 140737488355328 := by omega
    have z8 : (K.length + Q.length) * 40 ≤ 140737488355328 := by omega
    simp -implicitDefEqProofs -dsimp [c1, c2, c3]
    refine CallK.works ?_
    simp -implicitDefEqProofs -dsimp
    refine CallQ.mk (hN1) (by simp) ?_
    simp -implicitDefEqProofs -dsimp [z1, z2, z3, z4, z5, z6, z7, z8]
    refine CallK.works ?_
    simp -implicitDefEqProofs -dsimp
    refine CallQ.mk (hN2) (by simp) ?_
    simp -implicitDefEqProofs -dsimp [z1, z2, z3, z4, z5, z6, z7, z8]
    refine CallK.works ?_
    simp -implicitDefEqProofs -dsimp
    refine CallQ.mk (hN3) (by simp) ?_
    simp -implicitDefEqProofs -dsimp [z1, z2, z3, z4, z5, z6, z7, z8]
    cases t with
    | false =>
      refine CallK.reads ?_
      simp -implicitDefEqProofs -dsimp
      refine CallQ.same (hUn) rfl ?_
      simp -implicitDefEqProofs -dsimp [z1, z2, z3, z4, z5, z6, z7, z8]
    | true =>
      have U := unl_mem (ht.1 rfl)
      have hP := pack_fn e1 e2 K M D1.fit D2.fit (by omega) (by omega)
      have hPl := packL_length D1.fit D2.fit (by omega) M.length (Nat.le_refl _)
      have hPi := inB_pack (k := K) D2
      obtain ⟨x, hx1, hx2⟩ := unpS_same K M D1.known D2 (by omega) false
      have hU1 := unpack_fn e1 K (by omega) (fun o ho => by have := D1.len o ho; omega) false (packL K M M.length) (by simp) hPi (by omega)
      have hkq : (K ++ Q).length ≤ 100 := by simp; omega
      have hU2 := unpack_fn false (K ++ Q) hkq (fun o ho => by
        rcases List.mem_append.1 ho with ho | ho
        · have := D1.len o ho; omega
        · have := D3.len o ho; omega) false (packL K M M.length) (by simp) hPi (by omega)
      have hU3 := unpackN_fn false (packL K M M.length) (by simp) hPi (by omega)
      have sub : ∀ x, x ∈ (K ++ Q) ++ (K ++ M) → x ∈ K ++ (M ++ Q) := fun x hx => by
        simp only [List.mem_append] at hx ⊢
        rcases hx with (h | h) | h | h <;> simp [h]
      obtain ⟨y, hy1, hy2⟩ : ∃ out', unpS (K ++ Q) false (packL K M M.length) = (some out', 0) ∧ out'.map OB.key = M.map OB.key := by
        rcases unpS_pack K M (K ++ Q) D1.known D2 (by omega) false (un_H K M (K ++ Q) fun x y hx hy => U x y (sub x hx) (sub y hy)) with h | ⟨_, q, hq, hn⟩
        · exact h
        · obtain ⟨z, hz⟩ := fndX_of_mem (List.mem_append_left Q hq)
          rw [hn] at hz; cases hz
      have S1 := osame_to D2 hx2 (by omega) e2
      have S2 := osame_to D2 hy2 (by omega) e2
      rw [hx1] at hU1
      rw [hy1] at hU2
      simp only [oblPV_some] at hU1 hU2
      rcases unpS_pack K M [] D1.known D2 (by omega) false (un_H K M [] fun x y hx hy => U x y (sub x (List.mem_append_right _ hx)) (sub y (List.mem_append_right _ hy))) with ⟨z, hz1, hz2⟩ | ⟨hz1, q, hq, hn⟩
      · rw [hz1] at hU3
        simp only [oblPV_some] at hU3
        have S3 := osame_to D2 hz2 (by omega) e2
        refine CallK.reads ?_
        simp -implicitDefEqProofs -dsimp
        refine CallQ.same (hUn) rfl ?_
        simp -implicitDefEqProofs -dsimp [z1, z2, z3, z4, z5, z6, z7, z8]
        refine CallK.works ?_
        simp -implicitDefEqProofs -dsimp
        refine CallQ.mk (hP) (by simp) ?_
        simp -implicitDefEqProofs -dsimp [z1, z2, z3, z4, z5, z6, z7, z8]
        refine CallK.works ?_
        simp -implicitDefEqProofs -dsimp
        refine CallQ.mk (hU1) (by simp) ?_
        simp -implicitDefEqProofs -dsimp [z1, z2, z3, z4, z5, z6, z7, z8]
        refine CallK.works ?_
        simp -implicitDefEqProofs -dsimp
        refine CallQ.mk (hN3) (by simp) ?_
        simp -implicitDefEqProofs -dsimp [z1, z2, z3, z4, z5, z6, z7, z8]
        refine CallK.works ?_
        simp -implicitDefEqProofs -dsimp
        refine CallQ.mk (hU2) (by simp) ?_
        simp -implicitDefEqProofs -dsimp [z1, z2, z3, z4, z5, z6, z7, z8]
        refine CallK.works ?_
        simp -implicitDefEqProofs -dsimp
        refine CallQ.mk (hU3) (by simp) ?_
        simp -implicitDefEqProofs -dsimp [z1, z2, z3, z4, z5, z6, z7, z8]
        refine CallK.reads ?_
        simp -implicitDefEqProofs -dsimp
        refine CallQ.same (S1) rfl ?_
        simp -implicitDefEqProofs -dsimp [z1, z2, z3, z4, z5, z6, z7, z8]
        refine CallK.reads ?_
        simp -implicitDefEqProofs -dsimp
        refine CallQ.same (S2) rfl ?_
        simp -implicitDefEqProofs -dsimp [z1, z2, z3, z4, z5, z6, z7, z8]
        refine CallK.reads ?_
        simp -implicitDefEqProofs -dsimp
        refine CallQ.same (S3) rfl ?_
        simp -implicitDefEqProofs -dsimp [z1, z2, z3, z4, z5, z6, z7, z8]
      · rw [hz1] at hU3
        simp only [oblPV_none] at hU3
        have hK0 : 0 < K.length := List.length_pos_of_mem hq
        refine CallK.reads ?_
        simp -implicitDefEqProofs -dsimp
        refine CallQ.same (hUn) rfl ?_
        simp -implicitDefEqProofs -dsimp [z1, z2, z3, z4, z5, z6, z7, z8]
        refine CallK.works ?_
        simp -implicitDefEqProofs -dsimp
        refine CallQ.mk (hP) (by simp) ?_
        simp -implicitDefEqProofs -dsimp [z1, z2, z3, z4, z5, z6, z7, z8]
        refine CallK.works ?_
        simp -implicitDefEqProofs -dsimp
        refine CallQ.mk (hU1) (by simp) ?_
        simp -implicitDefEqProofs -dsimp [z1, z2, z3, z4, z5, z6, z7, z8]
        refine CallK.works ?_
        simp -implicitDefEqProofs -dsimp
        refine CallQ.mk (hN3) (by simp) ?_
        simp -implicitDefEqProofs -dsimp [z1, z2, z3, z4, z5, z6, z7, z8]
        refine CallK.works ?_
        simp -implicitDefEqProofs -dsimp
        refine CallQ.mk (hU2) (by simp) ?_
        simp -implicitDefEqProofs -dsimp [z1, z2, z3, z4, z5, z6, z7, z8]
        refine CallK.works ?_
        simp -implicitDefEqProofs -dsimp
        refine CallQ.mk (hU3) (by simp) ?_
        simp -implicitDefEqProofs -dsimp [z1, z2, z3, z4, z5, z6, z7, z8]
        refine CallK.reads ?_
        simp -implicitDefEqProofs -dsimp
        refine CallQ.same (S1) rfl ?_
        simp -implicitDefEqProofs -dsimp [z1, z2, z3, z4, z5, z6, z7, z8]
        refine CallK.reads ?_
        simp -implicitDefEqProofs -dsimp
        refine CallQ.same (S2) rfl ?_
        simp -implicitDefEqProofs -dsimp [hK0, z1, z2, z3, z4, z5, z6, z7, z8]
theorem backb_law (xs : List PV) (h : ShpAll Tryd.prog 6 Tryd.f12.params.toList xs) : Fc Tryd.prog 12 xs [] (.lit (.bool true)) [] := by
  obtain ⟨x, y, z, rfl, hx, hy, hz⟩ := shp_args3 h
  obtain ⟨m1, ks, rfl, h1⟩ := arg_ids Tryd.underlying22 Tryd.underlying9 (by kernel_rfl) hx
  obtain ⟨m2, ls, rfl, h2⟩ := arg_ids Tryd.underlying22 Tryd.underlying9 (by kernel_rfl) hy
  obtain ⟨m3, ms, rfl, h3⟩ := arg_ids Tryd.underlying22 Tryd.underlying9 (by kernel_rfl) hz
  exact backb_fn m1 m2 m3 ks ls ms h1 h2 h3
end Go.Proofs.YtekokchejkjjjaaDoor
