/- The law BundleMany. (and what stands on it) -/
import Derived.Test.YtekokchejkjjjaaDoorNo
set_option linter.unusedSimpArgs false
set_option linter.unusedVariables false

/-! The law BundleMany. -/
namespace Go.Sy
/-- One thing describes more than another one. -/
def Imp (x y : PV) : Prop := ∀ (g : G) (w : World) (v : Value), Rep g w x v → Rep g w y v
theorem Imp.refl (x : PV) : Imp x x := fun _ _ _ h => h
def impL : List PV → List PV → Prop
  | [], [] => True
  | x :: xs, y :: ys => Imp x y ∧ impL xs ys
  | _, _ => False
theorem impL_get {xs ys : List PV} (h : impL xs ys) : xs.length = ys.length ∧ ∀ (i : Nat) (y : PV), ys[i]? = some y → ∃ x, xs[i]? = some x ∧ Imp x y := by
  induction xs generalizing ys with
  | nil => cases ys with
    | nil => exact ⟨rfl, fun _ _ h => by simp at h⟩
    | cons y ys => exact h.elim
  | cons x xs ih => cases ys with
    | nil => exact h.elim
    | cons y ys =>
      obtain ⟨h1, h2⟩ := ih h.2
      refine ⟨by simp [h1], fun i z hz => ?_⟩
      cases i with
      | zero => simp at hz; subst hz; exact ⟨x, rfl, h.1⟩
      | succ i => exact h2 i z (by simpa using hz)
theorem Fc.argsI {P : Program} {k : FuncId} {xs bs : List PV} {h h1 : List (Nat × Ob)} {x : PV} (hf : Fc P k bs h x h1) (hw : impL xs bs) : Fc P k xs h x h1 := by
  refine ⟨hf.ok, fun g w vs a b c => hf.run g w vs a b ?_⟩
  obtain ⟨e1, e2⟩ := impL_get hw
  refine ⟨c.1.trans e1, fun i y u hy hu => ?_⟩
  obtain ⟨z, hz, hzw⟩ := e2 i y hy
  exact hzw g w u (c.2 i z u hz hu)
/-- Objects without bodies. -/
def mzs (d : ByteArray) (n : Nat) : List PV := List.replicate n (.agg [.lit (.string d), .sl .imm true 0 []])
@[simp] theorem mzs_length (d : ByteArray) (n : Nat) : (mzs d n).length = n := by simp [mzs]
@[simp] theorem mzs_zero (d : ByteArray) : mzs d 0 = [] := rfl
theorem mzs_snoc (d : ByteArray) (n : Nat) : mzs d n ++ [.agg [.lit (.string d), .sl .imm true 0 []]] = mzs d (n + 1) := by simp [mzs, List.replicate_succ']
theorem mz_data (d : ByteArray) : Go.Sy.Data (.agg [.lit (.string d), .sl .imm true 0 []]) := by
  rw [data_agg]
  constructor
  · intro x hx
    simp only [List.mem_cons, List.not_mem_nil, or_false] at hx
    rcases hx with rfl | rfl
    · exact .lit _ rfl
    · exact (data_sl _ _ _).2 (by simp)
  · intro x hx
    simp only [List.mem_cons, List.not_mem_nil, or_false] at hx
    rcases hx with rfl | rfl <;> rfl
@[simp] theorem mzs_allData {d : ByteArray} {n : Nat} : (∀ x, x ∈ mzs d n → Go.Sy.Data x) = True := eq_true fun x h => by
  rw [(List.mem_replicate.1 h).2]; exact mz_data d
theorem mzs_imp (o : Own) (nl : Bool) (d : ByteArray) (n : Nat) : Imp (.sl o nl 2 (mzs d n)) (.sl o nl 2 (obl (List.replicate n ⟨d, true, []⟩))) := by
  intro g w v h
  have he : obl (List.replicate n ⟨d, true, []⟩) = List.replicate n (.agg [.lit (.string d), .sl .imm true 1 []]) := by simp [obl, OB.cells, ints]
  rw [he]
  have hl : (mzs d n).length = (List.replicate n (PV.agg [.lit (.string d), .sl .imm true 1 []])).length := by simp
  generalize hX : mzs d n = X at h
  rw [hX] at hl
  cases h with
  | nils =>
    have : n = 0 := by have := congrArg List.length hX; simpa using this
    subst this; exact .nils _ _
  | sle _ _ a hlx =>
    have : n = 0 := by have := congrArg List.length hX; simpa using this
    subst this; exact .sle _ _ _ hlx
  | sl _ _ _ b off c U hc hm hacc hd hs hcell hrep =>
    subst hX
    have key : ∀ (j : Nat) (x : PV), (List.replicate n (PV.agg [.lit (.string d), .sl .imm true 1 []]))[j]? = some x → x = .agg [.lit (.string d), .sl .imm true 1 []] ∧ (mzs d n)[j]? = some (.agg [.lit (.string d), .sl .imm true 0 []]) := fun j x hj => by
      rw [List.getElem?_replicate] at hj
      split at hj
      · rename_i hlt
        cases hj
        exact ⟨rfl, by rw [mzs, List.getElem?_replicate, if_pos hlt]⟩
      · cases hj
    rw [hl] at hc hacc ⊢
    refine .sl _ _ _ b off c U hc hm hacc (fun x hx => ?_) (fun x hx => ?_) (fun j x hj i hi => ?_) (fun j x hj i y hy => ?_)
    · rw [(List.mem_replicate.1 hx).2, data_agg]
      constructor
      · intro x hx
        simp only [List.mem_cons, List.not_mem_nil, or_false] at hx
        rcases hx with rfl | rfl
        · exact .lit _ rfl
        · exact (data_sl _ _ _).2 (by simp)
      · intro x hx
        simp only [List.mem_cons, List.not_mem_nil, or_false] at hx
        rcases hx with rfl | rfl <;> rfl
    · rw [(List.mem_replicate.1 hx).2]; rfl
    · exact hcell j _ (key j x hj).2 i hi
    · obtain ⟨rfl, h2⟩ := key j x hj
      have hr := hrep j _ h2 i
      match i, hy with
      | 0, hy =>
        obtain rfl : PV.lit (.string d) = y := by simpa [PV.comps] using hy
        exact hr _ rfl
      | 1, hy =>
        obtain rfl : PV.sl Own.imm true 1 [] = y := by simpa [PV.comps] using hy
        exact Weak.rep (x := .sl .imm true 0 []) (by simp) (hr _ rfl)
      | i + 2, hy => simp [PV.comps] at hy
end Go.Sy
namespace Go.Proofs.YtekokchejkjjjaaDoor
open Go.Sy
def mzo (d : ByteArray) (n : Nat) : List OB := List.replicate n ⟨d, true, []⟩
theorem mzo_dgs (n : Nat) : Dgs (mzo (digOf []) n) := by
  constructor <;> intro x hx <;> rw [(List.mem_replicate.1 hx).2]
  · simp
  · simp [InB]
theorem rof0_fn : Fc Tryd.prog 22 [.sl .imm true 0 []] [] (.lit (.string (digOf []))) [] :=
  (rof_fn true [] (by simp) (by simp [InB])).args (xs := [.sl .imm true 0 []]) (by simp)
theorem tk_one (n : Nat) (h : n < 128) : tk [(n : Int)] = (n, 1, 0) := by
  have := tk_enc n (by omega) [] (by simp [InB])
  rw [enc_lt h, List.append_nil] at this
  exact this
theorem num_one (n : Nat) (h : n < 128) : (WS.mk false [(n : Int)] 0).num = (n, ⟨false, [], 0⟩) := by
  rw [WS.num, if_neg (by simp), tk_one n h, if_neg (by simp)]; rfl

set_option maxRecDepth 100000 in
set_option maxHeartbeats 16000000 in
theorem manyb_fn (a : Int) (h0 : 0 ≤ a) (h1 : a < 256) : Fc Tryd.prog 11 [.lit (.int .u8 a)] [] (.lit (.bool true)) [] := by
  obtain ⟨m, hm⟩ : ∃ m : Nat, a.tmod 10 = m := ⟨(a.tmod 10).toNat, by have := Int.tmod_nonneg 10 h0; omega⟩
  have hm9 : m < 10 := by have := Int.tmod_lt_of_pos a (b := 10) (by omega); omega
  obtain ⟨n, hn⟩ : ∃ n : Nat, n = 60 + m := ⟨_, rfl⟩
  have w1 : IntKind.u8.wrap (m : Int) = m := by rw [wrap_is_u8]; omega
  have w2 : IntKind.i64.wrap (m : Int) = m := wrap64 (by omega) (by omega)
  have w3 : IntKind.i64.wrap (60 + (m : Int)) = n := by rw [wrap64 (by omega) (by omega)]; omega
  obtain ⟨d, hd⟩ : ∃ d, d = digOf [] := ⟨_, rfl⟩
  have hO := rof0_fn
  rw [← hd] at hO
  refine Fc.of (anys _ [36, 22, 38, 40, 42]) [] mixed Tryd.func11 rfl (by rfl) (by simp [Tryd.ntmps11]) (by decide) ?_
  simp -implicitDefEqProofs -dsimp [Tryd.ntmps11]
  refine CallK.reads ?_
  simp -implicitDefEqProofs -dsimp
  refine CallQ.same (wake_fn) rfl ?_
  simp -implicitDefEqProofs -dsimp [hm, w1, w2, w3]
  refine LpK.mk (anys _ [36, 22, 38, 40, 42]) mixed (fun i : Nat => i ≤ n) (fun i => ⟨[(3, .lit (.bool true)), (4, .lit (.int .i64 n)), (5, .sl (.own (.loc 27)) (decide (i = 0)) 2 (mzs d i)), (6, .lit (.int .i64 i))], [], 75⟩) (fun i => n - i) 0 (by simp) (by simp -implicitDefEqProofs -dsimp) ?_
  intro i hi
  by_cases hlt : i < n
  · have hw : IntKind.i64.wrap ((i : Int) + 1) = (i : Int) + 1 := wrap64 (by omega) (by omega)
    have z1 : (i + 1) * 40 ≤ 140737488355328 := by omega
    have z2 : i + 1 ≤ 140737488355328 := by omega
    simp -implicitDefEqProofs -dsimp [hlt]
    refine CallK.reads ?_
    simp -implicitDefEqProofs -dsimp
    refine CallQ.same (hO) rfl ?_
    simp -implicitDefEqProofs -dsimp [z1, z2, hw, mzs_snoc, PV.toks.toksL]
    exact .mk (i + 1) hlt (by omega) (by simp -implicitDefEqProofs -dsimp)
  · have ein : i = n := by omega
    subst ein
    have hi0 : ¬ i = 0 := by omega
    have hlt' : ¬ i < i := by omega
    obtain ⟨L, hL⟩ : ∃ L, L = mzo d i := ⟨_, rfl⟩
    have hLl : L.length = i := by rw [hL]; simp [mzo]
    have hD : Dgs L := by rw [hL, hd]; exact mzo_dgs i
    have hI : Imp (.sl .imm false 2 (mzs d i)) (.sl .imm false 2 (obl L)) := hL ▸ mzs_imp .imm false d i
    by_cases c : 64 < i
    · have c' : (64 : Int) < i := by omega
      have hP := (pack_no true false [] L (by omega)).argsI (xs := [.sl .imm true 0 [], .sl .imm false 2 (mzs d i)]) ⟨fun _ _ _ h => Weak.rep (x := .sl .imm true 0 []) (by simp) h, hI, trivial⟩
      have hU := unpackN_fn false [(i : Int)] (by simp) (by simp [InB]; omega) (by simp)
      have e : unpS [] false [(i : Int)] = (none, 4) := by rw [unpS, num_one i (by omega)]; simp only; rw [if_pos c]
      rw [e] at hU
      have w4 : IntKind.u8.wrap (i : Int) = i := by rw [wrap_is_u8]; omega
      simp -implicitDefEqProofs -dsimp [hlt', hi0]
      refine CallK.works ?_
      simp -implicitDefEqProofs -dsimp
      refine CallQ.mk (hP) (by simp) ?_
      simp -implicitDefEqProofs -dsimp [c', w4]
      refine CallK.works ?_
      simp -implicitDefEqProofs -dsimp
      refine CallQ.mk (hU) (by simp) ?_
      simp -implicitDefEqProofs -dsimp
    · have c' : ¬ (64 : Int) < i := by omega
      have hP := (pack_fn true false [] L fit_nil hD.fit (by simp) (by omega)).argsI (xs := [.sl .imm true 0 [], .sl .imm false 2 (mzs d i)]) ⟨fun _ _ _ h => Weak.rep (x := .sl .imm true 0 []) (by simp) h, hI, trivial⟩
      have hPl := packL_length fit_nil hD.fit (by omega) L.length (Nat.le_refl _)
      have hPi := inB_pack (k := []) hD
      obtain ⟨o, h1, h2⟩ := unpS_same [] L (by simp) hD (by omega) false
      obtain ⟨p, hp⟩ : ∃ p, p = packL [] L L.length := ⟨_, rfl⟩
      rw [← hp] at hP hPi hPl h1
      have hU := unpackN_fn false p (by simp) hPi (by omega)
      rw [h1] at hU
      have hol : o.length = i := by have := congrArg List.length h2; simpa [hLl] using this
      have hS := (osame_fn o.isEmpty false o L (by omega) (fun y hy => by
        have : y.key ∈ L.map OB.key := by rw [← h2]; exact List.mem_map_of_mem hy
        obtain ⟨z, hz, hze⟩ := List.mem_map.1 this
        simp only [OB.key, Prod.mk.injEq] at hze
        rw [← hze.2]; have := hD.len z hz; omega)).argsI (xs := [.sl .imm o.isEmpty 2 (obl o), .sl .imm false 2 (mzs d i)]) ⟨Imp.refl _, hI, trivial⟩
      rw [sameO_of h2] at hS
      simp only [oblPV_some] at hU
      simp -implicitDefEqProofs -dsimp [hlt', hi0]
      refine CallK.works ?_
      simp -implicitDefEqProofs -dsimp
      refine CallQ.mk (hP) (by simp) ?_
      simp -implicitDefEqProofs -dsimp [c']
      refine CallK.works ?_
      simp -implicitDefEqProofs -dsimp
      refine CallQ.mk (hU) (by simp) ?_
      simp -implicitDefEqProofs -dsimp
      refine CallK.reads ?_
      simp -implicitDefEqProofs -dsimp
      refine CallQ.same (hS) rfl ?_
      simp -implicitDefEqProofs -dsimp
theorem many_law (xs : List PV) (h : ShpAll Tryd.prog 6 Tryd.f11.params.toList xs) : Fc Tryd.prog 11 xs [] (.lit (.bool true)) [] := by
  obtain ⟨x, rfl, hx⟩ := shp_args1 h
  obtain ⟨a, rfl, ha⟩ := arg_int (k := .u8) Tryd.underlying5 hx
  obtain ⟨a0, a1⟩ := wf_u8 ha
  exact manyb_fn a a0 a1
end Go.Proofs.YtekokchejkjjjaaDoor
