/- Stores: what one keeps, has, gets, tells. (and what stands on it) -/
import Derived.Test.YtekokchejkjjjaaDoorNa
set_option linter.unusedSimpArgs false
set_option linter.unusedVariables false

/-! Stores: what one keeps, has, gets, tells. -/
namespace Go.Sy
theorem hasO_keys {L : List Objt} {i : ByteArray} (h : hasO L i = false) : fndO L i = none := fnd_none.2 h
/-- What a contract holds of a heap that says more. -/
theorem Fc.heapW {P : Program} {k : FuncId} {al : List PV} {h h2 : List (Nat × Ob)} {x : PV} {h1 : List (Nat × Ob)} (hf : Fc P k al h x h1) (hs : subW h h2) : Fc P k al h2 x h1 :=
  ⟨hf.ok, fun g w vs a1 a2 a3 => hf.run g w vs (subW_sim hs a1) a2 a3⟩
/-- A contract's end, told weaker. -/
theorem Fc.outW {P : Program} {k : FuncId} {al : List PV} {h : List (Nat × Ob)} {x : PV} {h1 h2 : List (Nat × Ob)} (hf : Fc P k al h x h1) (hs : subW h2 h1) : Fc P k al h x h2 := by
  refine ⟨hf.ok, fun g w vs a1 a2 a3 => CallsIn.mono (hf.run g w vs a1 a2 a3) ?_⟩
  rintro e w' ⟨v, y, g', h', rfl, ⟨rfl, rfl⟩, b1, b2, b3, b4⟩
  exact ⟨v, _, g', _, rfl, ⟨rfl, rfl⟩, b1, subW_sim hs b2, b3, b4⟩
theorem Fc.tup {P : Program} {k : FuncId} {al : List PV} {h : List (Nat × Ob)} {xs ys : List PV} {h1 : List (Nat × Ob)} (hf : Fc P k al h (.tup xs) h1) (hw : weakL xs ys) : Fc P k al h (.tup ys) h1 := by
  refine ⟨hf.ok, fun g w vs a1 a2 a3 => CallsIn.mono (hf.run g w vs a1 a2 a3) ?_⟩
  rintro e w' ⟨v, y, g', h', rfl, ⟨rfl, rfl⟩, b1, b2, b3, b4⟩
  refine ⟨v, _, g', _, rfl, ⟨rfl, rfl⟩, ?_, b2, b3, b4⟩
  cases b1 with
  | tup _ us hl hr =>
    obtain ⟨e1, e2⟩ := weakL_get hw
    refine .tup _ us (by omega) fun i y u hy hu => ?_
    obtain ⟨z, hz, hzw⟩ := e2 i y hy
    exact hzw.rep (hr i z u hz hu)
theorem Fc.tupA {P : Program} {k : FuncId} {al : List PV} {h : List (Nat × Ob)} {xs ys : List PV} {y : PV} {h1 : List (Nat × Ob)} (hf : Fc P k al h (.tup [.agg xs, y]) h1) (hw : weakL xs ys) : Fc P k al h (.tup [.agg ys, y]) h1 := by
  refine ⟨hf.ok, fun g w vs a1 a2 a3 => CallsIn.mono (hf.run g w vs a1 a2 a3) ?_⟩
  rintro e w' ⟨v, y', g', h', rfl, ⟨rfl, rfl⟩, b1, b2, b3, b4⟩
  refine ⟨v, _, g', _, rfl, ⟨rfl, rfl⟩, ?_, b2, b3, b4⟩
  cases b1 with
  | tup _ us hl hr =>
    refine .tup _ us hl fun i z u hz hu => ?_
    match i, hz with
    | 0, hz =>
      simp at hz; subst hz
      have := hr 0 (.agg xs) u rfl hu
      cases this with
      | agg _ vs hl2 hr2 =>
        obtain ⟨e1, e2⟩ := weakL_get hw
        refine .agg _ vs (by omega) fun i y u hy hu => ?_
        obtain ⟨z, hz, hzw⟩ := e2 i y hy
        exact hzw.rep (hr2 i z u hz hu)
    | 1, hz => simp at hz; subst hz; exact hr 1 y u rfl hu
    | i + 2, hz => simp at hz
@[simp] theorem fr_idc (n : Nat) (nl : Bool) (xs : List ByteArray) : Fr (.sl (.own (.loc n)) nl 1 (idc xs)) := .row n _ _ _ fun x hx y hy => by
  simp only [idc, List.mem_map] at hx
  obtain ⟨n, _, rfl⟩ := hx
  simp [PV.comps] at hy
  exact ⟨_, hy⟩
/-- What a call leaves beside its result may be left alone. -/
theorem Fc.noHeap {P : Program} {k : FuncId} {al : List PV} {h : List (Nat × Ob)} {x : PV} {h1 : List (Nat × Ob)} (hf : Fc P k al h x h1) : Fc P k al h x [] := by
  refine ⟨hf.ok, fun g w vs a1 a2 a3 => CallsIn.mono (hf.run g w vs a1 a2 a3) ?_⟩
  rintro e w' ⟨v, y, g', h', rfl, ⟨rfl, rfl⟩, b1, b2, b3, b4⟩
  exact ⟨v, _, g', [], rfl, ⟨rfl, rfl⟩, b1, fun p ob hp => (by simp [getO] at hp), b3, b4⟩
end Go.Sy
namespace Go.Proofs.YtekokchejkjjjaaDoor
open Go.Sy
def ids (L : List Objt) : List ByteArray := L.map (·.1)
@[simp] theorem ids_length (L : List Objt) : (ids L).length = L.length := by simp [ids]
theorem ids_snoc (L : List Objt) (i : ByteArray) (b : List Int) : ids L ++ [i] = ids (L ++ [(i, b)]) := by simp [ids]
def stC (L : List Objt) : List PV := [.ptr 100001 0, .sl (.own (.cell 100000 1)) L.isEmpty 1 (idc (ids L)), .mp 100002]
def stH (d : DS) (L : List Objt) : List (Nat × Ob) := [(100000, .cells (stC L)), (100001, .cells (d.cells (.own (.cell 100001 0)))), (100002, .map (objE L))]
theorem cloneI_fn (nl : Bool) (xs : List Int) (hn : nl = true → xs = []) (hl : xs.length ≤ 140737488355328) : Fc Tryd.prog 66 [.sl .imm nl 1 (u8s xs)] [] (.sl .imm nl 1 (u8s xs)) [] := by
  have := (clone_fn nl xs hn hl).fz [.loc 5]
  simpa using this

set_option maxRecDepth 100000 in
set_option maxHeartbeats 4000000 in
theorem keep_fn (d : DS) (L : List Objt) (i : ByteArray) (nl : Bool) (b : List Int) (hi : hasO L i = false) (hl : b.length ≤ 1000000) (hL : L.length ≤ 1000000) :
    Fc Tryd.prog 54 [.ptr 100000 0, .lit (.string i), .sl .imm false 1 (u8s b)] (stH d L) (.tup []) (stH d (L ++ [(i, b)])) := by
  have z1 : (L.length + 1) * 16 ≤ 140737488355328 := by omega
  have z2 : L.length ≤ 140737488355327 := by omega
  have hf := hasO_keys hi
  refine Fc.of (anys _ [66]) sch54 mixed Tryd.func54 rfl (by rfl) (by simp [Tryd.ntmps54]) (by decide) ?_
  simp -implicitDefEqProofs -dsimp [Tryd.ntmps54, stH, stC, z1, z2]
  refine CallK.works ?_
  simp -implicitDefEqProofs -dsimp
  refine CallQ.mk (cloneI_fn false b (by simp) (by omega)) (by simp) ?_
  simp -implicitDefEqProofs -dsimp [mapUpdSt, mapEntryPV, entrySt, hf, keyC_str, ids_snoc L i b]

set_option maxRecDepth 100000 in
set_option maxHeartbeats 4000000 in
theorem has_fn (d : DS) (L : List Objt) (i : ByteArray) : Fc Tryd.prog 51 [.ptr 100000 0, .lit (.string i)] (stH d L) (.lit (.bool (hasO L i))) (stH d L) := by
  refine Fc.of (anys _ []) [] mixed Tryd.func51 rfl (by rfl) (by simp [Tryd.ntmps51]) (by decide) ?_
  by_cases h : hasO L i = true
  · obtain ⟨j, o, h1, h2, h3⟩ := fnd_some h
    simp -implicitDefEqProofs -dsimp [Tryd.ntmps51, stH, stC, lookupPV, keyC_str, h1, h2, h]
  · have h : hasO L i = false := by simpa using h
    have hf := hasO_keys h
    simp -implicitDefEqProofs -dsimp [Tryd.ntmps51, stH, stC, lookupPV, keyC_str, hf, h]

/-- The bytes with an id, or none. -/
def getO' (L : List Objt) (i : ByteArray) : Bool × List Int := match fndO L i with
  | some j => (false, (L[j]?.map (·.2)).getD [])
  | none => (true, [])
set_option maxRecDepth 100000 in
set_option maxHeartbeats 4000000 in
theorem get_fn (d : DS) (L : List Objt) (i : ByteArray) (hl : ∀ o, o ∈ L → o.2.length ≤ 1000000) :
    Fc Tryd.prog 29 [.ptr 100000 0, .lit (.string i)] (stH d L) (.tup [.sl .imm (getO' L i).1 1 (u8s (getO' L i).2), .lit (.bool (hasO L i))]) (stH d L) := by
  by_cases h : hasO L i = true
  · obtain ⟨j, o, h1, h2, h3⟩ := fnd_some h
    have e : getO' L i = (false, o.2) := by simp [getO', h1, h2]
    have hm : o ∈ L := by obtain ⟨q, rfl⟩ := List.getElem?_eq_some_iff.1 h2; exact List.getElem_mem q
    have hol := hl o hm
    rw [e]
    refine Fc.of (anys _ [66]) [] mixed Tryd.func29 rfl (by rfl) (by simp [Tryd.ntmps29]) (by decide) ?_
    simp -implicitDefEqProofs -dsimp [Tryd.ntmps29, stH, stC, lookupPV, keyC_str, h1, h2, h]
    refine CallK.works ?_
    simp -implicitDefEqProofs -dsimp
    refine CallQ.mk (cloneI_fn false o.2 (by simp) (by omega)) (by simp) ?_
    simp -implicitDefEqProofs -dsimp
  · have h : hasO L i = false := by simpa using h
    have hf := hasO_keys h
    have e : getO' L i = (true, []) := by simp [getO', hf]
    rw [e]
    refine Fc.of (anys _ [66]) [] mixed Tryd.func29 rfl (by rfl) (by simp [Tryd.ntmps29]) (by decide) ?_
    simp -implicitDefEqProofs -dsimp [Tryd.ntmps29, stH, stC, lookupPV, keyC_str, hf, h]
    refine CallK.works ?_
    simp -implicitDefEqProofs -dsimp
    refine CallQ.mk ((cloneI_fn true [] (by simp) (by simp)).args (xs := [.sl .imm true 0 []]) (by simp)) (by simp) ?_
    simp -implicitDefEqProofs -dsimp

set_option maxRecDepth 100000 in
theorem clones_fn (nl : Bool) (l : List ByteArray) (hn : nl = true → l = []) (hl : l.length ≤ 1000000) : Fc Tryd.prog 67 [.sl .imm nl 1 (idc l)] [] (.sl (.own (.loc 5)) nl 1 (idc l)) [] := by
  have z : l.length * 16 ≤ 140737488355328 := by omega
  have z2 : l.length ≤ 140737488355328 := by omega
  refine Fc.of (anys _ []) [] mixed Tryd.func67 rfl (by rfl) (by simp [Tryd.ntmps67]) (by decide) ?_
  cases nl with
  | true => simp -implicitDefEqProofs -dsimp [Tryd.ntmps67, hn rfl]
  | false => simp -implicitDefEqProofs -dsimp [Tryd.ntmps67, z, z2]
theorem clonesI_fn (nl : Bool) (l : List ByteArray) (hn : nl = true → l = []) (hl : l.length ≤ 1000000) : Fc Tryd.prog 67 [.sl .imm nl 1 (idc l)] [] (.sl .imm nl 1 (idc l)) [] := by
  have := (clones_fn nl l hn hl).fz [.loc 5]
  simpa using this

set_option maxRecDepth 100000 in
set_option maxHeartbeats 4000000 in
theorem sids_fn (d : DS) (L : List Objt) (hL : L.length ≤ 1000000) : Fc Tryd.prog 30 [.ptr 100000 0] (stH d L) (.sl (.own (.loc 1070)) L.isEmpty 1 (idc (ids L))) (stH d L) := by
  refine Fc.of (anys _ [67]) [] mixed Tryd.func30 rfl (by rfl) (by simp [Tryd.ntmps30]) (by decide) ?_
  have hn : L.isEmpty = true → ids L = [] := fun h => by simp [ids, List.isEmpty_iff.1 h]
  simp -implicitDefEqProofs -dsimp [Tryd.ntmps30, stH, stC]
  refine CallK.fresh ?_
  simp -implicitDefEqProofs -dsimp
  refine CallQ.same (clones_fn L.isEmpty (ids L) hn (by simpa using hL)) rfl ?_
  simp -implicitDefEqProofs -dsimp [fr_u8s]
theorem sidsI_fn (d : DS) (L : List Objt) (hL : L.length ≤ 1000000) : Fc Tryd.prog 30 [.ptr 100000 0] (stH d L) (.sl .imm L.isEmpty 1 (idc (ids L))) (stH d L) := by
  have := (sids_fn d L hL).fz [.loc 1070]
  simpa [stH, stC] using this

set_option maxRecDepth 100000 in
theorem many_fn (d : DS) (L : List Objt) : Fc Tryd.prog 21 [.ptr 100000 0] (stH d L) (.lit (.int .i64 L.length)) (stH d L) := by
  refine Fc.of (anys _ []) [] mixed Tryd.func21 rfl (by rfl) (by simp [Tryd.ntmps21]) (by decide) ?_
  simp -implicitDefEqProofs -dsimp [Tryd.ntmps21, stH, stC]

theorem ofBs_size (l : List Int) : (ofBs l).size = l.length := by simp [ofBs, ByteArray.size]
theorem digOf_size (b : List Int) : (digOf b).size = 32 := by
  rw [digOf, dig, ofBs_size, outB_length, absB_length (absB_length rfl)]
theorem dig4 : ∀ b, 4 ≤ (digOf b).size := fun b => by rw [digOf_size]; decide
end Go.Proofs.YtekokchejkjjjaaDoor

/-! Stores: what is put. -/
namespace Go.Proofs.YtekokchejkjjjaaDoor
open Go.Sy
attribute [simp] stH stC
theorem text0_fn (nl : Bool) (b : List Int) (hl : b.length ≤ 1000000) : Fc Tryd.prog 71 [.sl .imm true 0 [], .sl .imm nl 1 (u8s b)] [] (.sl (.own (.loc 1090)) false 1 (u8s (enc b.length ++ b))) [] := by
  have := text_fn true nl [] b (by simp) (by simp) (by omega)
  exact this.args (by simp)
theorem rtext0_fn (nl : Bool) (b : List Int) (hl : b.length ≤ 1000000) : Fc Tryd.prog 75 [.sl .imm true 0 [], .sl .imm nl 1 (u8s b)] [] (.sl (.own (.loc 1090)) false 1 (u8s (enc b.length ++ b))) [] := by
  have := rtext_fn true nl [] b (by simp) (by omega)
  exact this.args (by simp)
theorem bs_front (i : ByteArray) (n : Nat) : bs (i.extract 0 n) = (bs i).take n := by
  simp [bs, ByteArray.data_extract, List.map_take]
set_option maxRecDepth 100000 in
set_option maxHeartbeats 4000000 in
theorem record_fn (nl : Bool) (b : List Int) (i : ByteArray) (hl : b.length ≤ 1000000) (hi : 4 ≤ i.size) :
    Fc Tryd.prog 56 [.sl .imm nl 1 (u8s b), .lit (.string i)] [] (.sl .imm false 1 (u8s (enc b.length ++ (b ++ (bs i).take 4)))) [] := by
  have hi' : (4 : Int) ≤ i.size := by omega
  have h4 := bs_front i 4
  have m4 : min 4 (bs i).length = 4 := by rw [bs_length]; omega
  have z : (enc b.length).length + b.length + 4 ≤ 140737488355328 := by have := enc_u64 (n := b.length) (by omega); omega
  suffices h : Fc Tryd.prog 56 [.sl .imm nl 1 (u8s b), .lit (.string i)] [] (.sl (.own (.loc 1060)) false 1 (u8s (enc b.length ++ (b ++ (bs i).take 4)))) [] by
    have := h.fz [.loc 1060]
    simpa using this
  refine Fc.of (anys _ [71]) sch56 mixed Tryd.func56 rfl (by rfl) (by simp [Tryd.ntmps56]) (by decide) ?_
  simp -implicitDefEqProofs -dsimp [Tryd.ntmps56, hi']
  refine CallK.fresh ?_
  simp -implicitDefEqProofs -dsimp
  refine CallQ.same (text0_fn nl b hl) rfl ?_
  simp -implicitDefEqProofs -dsimp [fr_u8s, hi', h4, m4, z]

set_option maxRecDepth 100000 in
set_option maxHeartbeats 8000000 in
theorem put_fn (d : DS) (hd : d.Ok) (L : List Objt) (b : List Int) (hl : b.length ≤ 131072) (hL : L.length ≤ 1000000) :
    Fc Tryd.prog 20 [.ptr 100000 0, .sl .imm false 1 (u8s b)] (stH d L) (.tup [.lit (.string (putS digOf d L b).1.1), .lit (.int .i64 (putS digOf d L b).1.2)]) (stH (putS digOf d L b).2.1 (putS digOf d L b).2.2) := by
  have hl' : ¬ 131072 < (b.length : Int) := by omega
  have hO := of_fn false b (by omega)
  have hR := record_fn false b (digOf b) (by omega) (dig4 b)
  have hA := append_fn d hd false (recB digOf b)
  have hr : enc b.length ++ (b ++ (bs (digOf b)).take 4) = recB digOf b := rfl
  rw [hr] at hR
  unfold putS
  by_cases h1 : hasO L (digOf b) = true
  · rw [if_pos h1]
    refine Fc.of (anys _ [53, 51, 56, 23, 54]) sch20 mixed Tryd.func20 rfl (by rfl) (by simp [Tryd.ntmps20]) (by decide) ?_
    simp -implicitDefEqProofs -dsimp [Tryd.ntmps20, hl', stH, stC]
    refine CallK.reads ?_
    simp -implicitDefEqProofs -dsimp
    refine CallQ.same (hO) rfl ?_
    simp -implicitDefEqProofs -dsimp
    refine CallK.works ?_
    simp -implicitDefEqProofs -dsimp
    refine CallQ.mk (has_fn d L (digOf b)) (by simp) ?_
    simp -implicitDefEqProofs -dsimp [h1]
  · rw [if_neg h1]
    have h1 : hasO L (digOf b) = false := by simpa using h1
    obtain ⟨⟨e, d'⟩, hed⟩ : ∃ q, q = d.append (recB digOf b) := ⟨_, rfl⟩
    rw [← hed] at hA ⊢
    by_cases h2 : e = 0
    · rw [if_neg (show ¬ (e, d').1 ≠ 0 from fun h => h h2)]
      subst h2
      refine Fc.of (anys _ [53, 51, 56, 23, 54]) sch20 mixed Tryd.func20 rfl (by rfl) (by simp [Tryd.ntmps20]) (by decide) ?_
      simp -implicitDefEqProofs -dsimp [Tryd.ntmps20, hl', stH, stC]
      refine CallK.reads ?_
      simp -implicitDefEqProofs -dsimp
      refine CallQ.same (hO) rfl ?_
      simp -implicitDefEqProofs -dsimp
      refine CallK.works ?_
      simp -implicitDefEqProofs -dsimp
      refine CallQ.mk (has_fn d L (digOf b)) (by simp) ?_
      simp -implicitDefEqProofs -dsimp [h1]
      refine CallK.works ?_
      simp -implicitDefEqProofs -dsimp
      refine CallQ.mk (hR) (by simp) ?_
      simp -implicitDefEqProofs -dsimp
      refine CallK.works ?_
      simp -implicitDefEqProofs -dsimp
      refine CallQ.mk (hA) (by simp) ?_
      simp -implicitDefEqProofs -dsimp
      refine CallK.works ?_
      simp -implicitDefEqProofs -dsimp
      refine CallQ.mk (keep_fn d' L (digOf b) false b h1 (by omega) hL) (by simp) ?_
      simp -implicitDefEqProofs -dsimp
    · rw [if_pos (show (e, d').1 ≠ 0 from h2)]
      refine Fc.of (anys _ [53, 51, 56, 23, 54]) sch20 mixed Tryd.func20 rfl (by rfl) (by simp [Tryd.ntmps20]) (by decide) ?_
      simp -implicitDefEqProofs -dsimp [Tryd.ntmps20, hl', stH, stC]
      refine CallK.reads ?_
      simp -implicitDefEqProofs -dsimp
      refine CallQ.same (hO) rfl ?_
      simp -implicitDefEqProofs -dsimp
      refine CallK.works ?_
      simp -implicitDefEqProofs -dsimp
      refine CallQ.mk (has_fn d L (digOf b)) (by simp) ?_
      simp -implicitDefEqProofs -dsimp [h1]
      refine CallK.works ?_
      simp -implicitDefEqProofs -dsimp
      refine CallQ.mk (hR) (by simp) ?_
      simp -implicitDefEqProofs -dsimp
      refine CallK.works ?_
      simp -implicitDefEqProofs -dsimp
      refine CallQ.mk (hA) (by simp) ?_
      simp -implicitDefEqProofs -dsimp [h2]
end Go.Proofs.YtekokchejkjjjaaDoor
