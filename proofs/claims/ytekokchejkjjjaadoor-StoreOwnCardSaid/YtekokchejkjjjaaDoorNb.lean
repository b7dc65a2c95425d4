/- Stores: what one keeps, has, gets, tells. (and what stands on it) -/
import Derived.Test.YtekokchejkjjjaaDoorNa
set_option linter.unusedSimpArgs false
set_option linter.unusedVariables false

/-! Stores: what one keeps, has, gets, tells. -/
namespace Go.Sy
theorem hasO_keys {L : List Objt} {i : ByteArray} (h : hasO L i = false) : fndO L i = none := fnd_none.2 h
/-- What a contract holds of a heap that says more. -/
theorem Fc.heapW {P : Program} {k : FuncId} {al : List PV} {h h2 : List (Nat × Ob)} {x : PV} {h1 : List (Nat × Ob)} (hf : Fc P k al h x h1) (hs : subW h h2) : Fc P k al h2 x h1 :=
  ⟨hf.ok, fun g w vs a1 a2 a3 => hf.run g w vs (subW_sim hs a1) a2 a3⟩
/-- A contract's end, told weaker. -/
theorem Fc.outW {P : Program} {k : FuncId} {al : List PV} {h : List (Nat × Ob)} {x : PV} {h1 h2 : List (Nat × Ob)} (hf : Fc P k al h x h1) (hs : subW h2 h1) : Fc P k al h x h2 := by
  refine ⟨hf.ok, fun g w vs a1 a2 a3 => CallsIn.mono (hf.run g w vs a1 a2 a3) ?_⟩
  rintro e w' ⟨v, y, g', h', rfl, ⟨rfl, rfl⟩, b1, b2, b3, b4⟩
  exact ⟨v, _, g', _, rfl, ⟨rfl, rfl⟩, b1, subW_sim hs b2, b3, b4⟩
theorem Fc.tup {P : Program} {k : FuncId} {al : List PV} {h : List (Nat × Ob)} {xs ys : List PV} {h1 : List (Nat × Ob)} (hf : Fc P k al h (.tup xs) h1) (hw : weakL xs ys) : Fc P k al h (.tup ys) h1 := by
  refine ⟨hf.ok, fun g w vs a1 a2 a3 => CallsIn.mono (hf.run g w vs a1 a2 a3) ?_⟩
  rintro e w' ⟨v, y, g', h', rfl, ⟨rfl, rfl⟩, b1, b2, b3, b4⟩
  refine ⟨v, _, g', _, rfl, ⟨rfl, rfl⟩, ?_, b2, b3, b4⟩
  cases b1 with
  | tup _ us hl hr =>
    obtain ⟨e1, e2⟩ := weakL_get hw
    refine .tup _ us (by omega) fun i y u hy hu => ?_
    obtain ⟨z, hz, hzw⟩ := e2 i y hy
    exact hzw.rep (hr i z u hz hu)
theorem Fc.tupA {P : Program} {k : FuncId} {al : List PV} {h : List (Nat × Ob)} {xs ys : List PV} {y : PV} {h1 : List (Nat × Ob)} (hf : Fc P k al h (.tup [.agg xs, y]) h1) (hw : weakL xs ys) : Fc P k al h (.tup [.agg ys, y]) h1 := by
  refine ⟨hf.ok, fun g w vs a1 a2 a3 => CallsIn.mono (hf.run g w vs a1 a2 a3) ?_⟩
  rintro e w' ⟨v, y', g', h', rfl, ⟨rfl, rfl⟩, b1, b2, b3, b4⟩
  refine ⟨v, _, g', _, rfl, ⟨rfl, rfl⟩, ?_, b2, b3, b4⟩
  cases b1 with
  | tup _ us hl hr =>
    refine .tup _ us hl fun i z u hz hu => ?_
    match i, hz with
    | 0, hz =>
      simp at hz; subst hz
      have := hr 0 (.agg xs) u rfl hu
      cases this with
      | agg _ vs hl2 hr2 =>
        obtain ⟨e1, e2⟩ := weakL_get hw
        refine .agg _ vs (by omega) fun i y u hy hu => ?_
        obtain ⟨z, hz, hzw⟩ := e2 i y hy
        exact hzw.rep (hr2 i z u hz hu)
    | 1, hz => simp at hz; subst hz; exact hr 1 y u rfl hu
    | i + 2, hz => simp at hz
@[simp] theorem fr_idc (n : Nat) (nl : Bool) (xs : List ByteArray) : Fr (.sl (.own (.loc n)) nl 1 (idc xs)) := .row n _ _ _ fun x hx y hy => by
  simp only [idc, List.mem_map] at hx
  obtain ⟨n, _, rfl⟩ := hx
  simp [PV.comps] at hy
  exact ⟨_, hy⟩
/-- What a call leaves beside its result may be left alone. -/
theorem Fc.noHeap {P : Program} {k : FuncId} {al : List PV} {h : List (Nat × Ob)} {x : PV} {h1 : List (Nat × Ob)} (hf : Fc P k al h x h1) : Fc P k al h x [] := by
  refine ⟨hf.ok, fun g w vs a1 a2 a3 => CallsIn.mono (hf.run g w vs a1 a2 a3) ?_⟩
  rintro e w' ⟨v, y, g', h', rfl, ⟨rfl, rfl⟩, b1, b2, b3, b4⟩
  exact ⟨v, _, g', [], rfl, ⟨rfl, rfl⟩, b1, fun p ob hp => (by simp [getO] at hp), b3, b4⟩
end Go.Sy
namespace Go.Proofs.YtekokchejkjjjaaDoor
open Go.Sy
def ids (L : List Objt) : List ByteArray := L.map (·.1)
@[simp] theorem ids_length (L : List Objt) : (ids L).length = L.length := by simp [ids]
theorem ids_snoc (L : List Objt) (i : ByteArray) (b : List Int) : ids L ++ [i] = ids (L ++ [(i, b)]) := by simp [ids]
def stC (L : List Objt) : List PV := [.ptr 100001 0, .sl (.own (.cell 100000 1)) L.isEmpty 1 (idc (ids L)), .mp 100002]
def stH (d : DS) (L : List Objt) : List (Nat × Ob) := [(100000, .cells (stC L)), (100001, .cells (d.cells (.own (.cell 100001 0)))), (100002, .map (objE L))]
theorem cloneI_fn (nl : Bool) (xs : List Int) (hn : nl = true → xs = []) (hl : xs.length ≤ 140737488355328) : Fc Tryd.prog 66 [.sl .imm nl 1 (u8s xs)] [] (.sl .imm nl 1 (u8s xs)) [] := by
  have := (clone_fn nl xs hn hl).fz [.loc 5]
  simpa using this

set_option maxRecDepth 100000 in
set_option maxHeartbeats 4000000 in
theorem keep_fn (d : DS) (L : List Objt) (i : ByteArray) (nl : Bool) (b : List Int) (hi : hasO L i = false) (hl : b.length ≤ 1000000) (hL : L.length ≤ 1000000) :
    Fc Tryd.prog 54 [.ptr 100000 0, .lit (.string i), .sl .imm false 1 (u8s b)] (stH d L) (.tup []) (stH d (L ++ [(i, b)])) := by
  have z1 : (L.length + 1) * 16 ≤ 140737488355328 := by omega
  have z2 : L.length ≤ 140737488355327 := by omega
  have hf := hasO_keys hi
  refine Fc.of (anys _ [66]) sch54 mixed Tryd.func54 rfl (by rfl) (by simp [Tryd.ntmps54]) (by decide) ?_
  simp -implicitDefEqProofs -dsimp [Tryd.ntmps54, stH, stC, z1, z2]
  refine CallK.works ?_
  simp -implicitDefEqProofs -dsimp
  refine CallQ.mk (cloneI_fn false b (by simp) (by omega)) (by simp) ?_
  simp -implicitDefEqProofs -dsimp [mapUpdSt, mapEntryPV, entrySt, hf, keyC_str, ids_snoc L i b]

set_option maxRecDepth 100000 in
set_option maxHeartbeats 4000000 in
theorem has_fn (d : DS) (L : List Objt) (i : ByteArray) : Fc Tryd.prog 51 [.ptr 100000 0, .lit (.string i)] (stH d L) (.lit (.bool (hasO L i))) (stH d L) := by
  refine Fc.of (anys _ []) [] mixed Tryd.func51 rfl (by rfl) (by simp [Tryd.ntmps51]) (by decide) ?_
  by_cases h : hasO L i = true
  · obtain ⟨j, o, h1, h2, h3⟩ := fnd_some h
    simp -implicitDefEqProofs -dsimp [Tryd.ntmps51, stH, stC, lookupPV, keyC_str, h1, h2, h]
  · have h : hasO L i = false := by simpa using h
    have hf := hasO_keys h
    simp -implicitDefEqProofs -dsimp [Tryd.ntmps51, stH, stC, lookupPV, keyC_str, hf, h]

/-- The bytes with an id, or none. -/
def getO' (L : List Objt) (i : ByteArray) : Bool × List Int := match fndO L i with
  | some j => (false, (L[j]?.map (·.2)).getD [])
  | none => (true, [])
set_option maxRecDepth 100000 in
set_option maxHeartbeats 4000000 in
theorem get_fn (d : DS) (L : List Objt) (i : ByteArray) (hl : ∀ o, o ∈ L → o.2.length ≤ 1000000) :
    Fc Tryd.prog 29 [.ptr 100000 0, .lit (.string i)] (stH d L) (.tup [.sl .imm (getO' L i).1 1 (u8s (getO' L i).2), .lit (.bool (hasO L i))]) (stH d L) := by
  by_cases h : hasO L i = true
  · obtain ⟨j, o, h1, h2, h3⟩ := fnd_some h
    have e : getO' L i = (false, o.2) := by simp [getO', h1, h2]
    have hm : o ∈ L := by obtain ⟨q, rfl⟩ := List.getElem?_eq_some_iff.1 h2; exact List.getElem_mem q
    have hol := hl o hm
    rw [e]
    refine Fc.of (anys _ [66]) [] mixed Tryd.func29 rfl (by rfl) (by simp [Tryd.ntmps29]) (by decide) ?_
    simp -implicitDefEqProofs -dsimp [Tryd.ntmps29, stH, stC, lookupPV, keyC_str, h1, h2, h]
    refine CallK.works ?_
    simp -implicitDefEqProofs -dsimp
    refine CallQ.mk (cloneI_fn false o.2 (by simp) (by omega)) (by simp) ?_
    simp -implicitDefEqProofs -dsimp
  · have h : hasO L i = false := by simpa using h
    have hf := hasO_keys h
    have e : getO' L i = (true, []) := by simp [getO', hf]
    rw [e]
    refine Fc.of (anys _ [66]) [] mixed Tryd.func29 rfl (by rfl) (by simp [Tryd.ntmps29]) (by decide) ?_
    simp -implicitDefEqProofs -dsimp [Tryd.ntmps29, stH, stC, lookupPV, keyC_str, hf, h]
    refine CallK.works ?_
    simp -implicitDefEqProofs -dsimp
    refine CallQ.mk ((cloneI_fn true [] (by simp) (by simp)).args (xs := [.sl .imm true 0 []]) (by simp)) (by simp) ?_
    simp -implicitDefEqProofs -dsimp

set_option maxRecDepth 100000 in
theorem clones_fn (nl : Bool) (l : List ByteArray) (hn : nl = true → l = []) (hl : l.length ≤ 1000000) : Fc Tryd.prog 67 [.sl .imm nl 1 (idc l)] [] (.sl (.own (.loc 5)) nl 1 (idc l)) [] := by
  have z : l.length * 16 ≤ 140737488355328 := by omega
  have z2 : l.length ≤ 140737488355328 := by omega
  refine Fc.of (anys _ []) [] mixed Tryd.func67 rfl (by rfl) (by simp [Tryd.ntmps67]) (by decide) ?_
  cases nl with
  | true => simp -implicitDefEqProofs -dsimp [Tryd.ntmps67, hn rfl]
  | false => simp -implicitDefEqProofs -dsimp [Tryd.ntmps67, z, z2]
theorem clonesI_fn (nl : Bool) (l : List ByteArray) (hn : nl = true → l = []) (hl : l.length ≤ 1000000) : Fc Tryd.prog 67 [.sl .imm nl 1 (idc l)] [] (.sl .imm nl 1 (idc l)) [] := by
  have := (clones_fn nl l hn hl).fz [.loc 5]
  simpa using this

set_option maxRecDepth 100000 in
set_option maxHeartbeats 4000000 in
theorem sids_fn (d : DS) (L : List Objt) (hL : L.length ≤ 1000000) : Fc Tryd.prog 30 [.ptr 100000 0] (stH d L) (.sl (.own (.loc 1070)) L.isEmpty 1 (idc (ids L))) (stH d L) := by
  refine Fc.of (anys _ [67]) [] mixed Tryd.func30 rfl (by rfl) (by simp [Tryd.ntmps30]) (by decide) ?_
  have hn : L.isEmpty = true → ids L = [] := fun h => by simp [ids, List.isEmpty_iff.1 h]
  simp -implicitDefEqProofs -dsimp [Tryd.ntmps30, stH, stC]
  refine CallK.fresh ?_
  simp -implicitDefEqProofs -dsimp
  refine CallQ.same (clones_fn L.isEmpty (ids L) hn (by simpa using hL)) rfl ?_
  simp -implicitDefEqProofs -dsimp [fr_u8s]
theorem sidsI_fn (d : DS) (L : List Objt) (hL : L.length ≤ 1000000) : Fc Tryd.prog 30 [.ptr 100000 0] (stH d L) (.sl .imm L.isEmpty 1 (idc (ids L))) (stH d L) := by
  have := (sids_fn d L hL).fz [.loc 1070]
  simpa [stH, stC] using this

set_option maxRecDepth 100000 in
theorem many_fn (d : DS) (L : List Objt) : Fc Tryd.prog 21 [.ptr 100000 0] (stH d L) (.lit (.int .i64 L.length)) (stH d L) := by
  refine Fc.of (anys _ []) [] mixed Tryd.func21 rfl (by rfl) (by simp [Tryd.ntmps21]) (by decide) ?_
  simp -implicitDefEqProofs -dsimp [Tryd.ntmps21, stH, stC]

theorem ofBs_size (l : List Int) : (ofBs l).size = l.length := by simp [ofBs, ByteArray.size]
theorem digOf_size (b : List Int) : (digOf b).size = 32 := by
  rw [digOf, dig, ofBs_size, outB_length, absB_length (absB_length rfl)]
theorem dig4 : ∀ b, 4 ≤ (digOf b).size := fun b => by rw [digOf_size]; decide
end Go.Proofs.YtekokchejkjjjaaDoor

/-! Stores: what is put. -/
namespace Go.Proofs.YtekokchejkjjjaaDoor
open Go.Sy
attribute [simp] stH stC
theorem text0_fn (nl : Bool) (b : List Int) (hl : b.length ≤ 1000000) : Fc Tryd.prog 71 [.sl .imm true 0 [], .sl .imm nl 1 (u8s b)] [] (.sl (.own (.loc 1090)) false 1 (u8s (enc b.length ++ b))) [] := by
  have := text_fn true nl [] b (by simp) (by simp) (by omega)
  exact this.args (by simp)
theorem rtext0_fn (nl : Bool) (b : List Int) (hl : b.length ≤ 1000000) : Fc Tryd.prog 75 [.sl .imm true 0 [], .sl .imm nl 1 (u8s b)] [] (.sl (.own (.loc 1090)) false 1 (u8s (enc b.length ++ b))) [] := by
  have := rtext_fn true nl [] b (by simp) (by omega)
  exact this.args (by simp)
theorem bs_front (i : ByteArray) (n : Nat) : bs (i.extract 0 n) = (bs i).take n := by
  simp [bs, ByteArray.data_extract, List.map_take]
set_option maxRecDepth 100000 in
set_option maxHeartbeats 4000000 in
theorem record_fn (nl : Bool) (b : List Int) (i : ByteArray) (hl : b.length ≤ 1000000) (hi : 4 ≤ i.size) :
    Fc Tryd.prog 56 [.sl .imm nl 1 (u8s b), .lit (.string i)] [] (.sl .imm false 1 (u8s (enc b.length ++ (b ++ (bs i).take 4)))) [] := by
  have hi' : (4 : Int) ≤ i.size := by omega
  have h4 := bs_front i 4
  have m4 : min 4 (bs i).length = 4 := by rw [bs_length]; omega
  have z : (enc b.length).length + b.length + 4 ≤ 140737488355328 := by have := enc_u64 (n := b.length) (by omega); omega
  suffices h : Fc Tryd.prog 56 [.sl .imm nl 1 (u8s b), .lit (.string i)] [] (.sl (.own (.loc 1060)) false 1 (u8s (enc b.length ++ (b ++ (bs i).take 4)))) [] by
    have := h.fz [.loc 1060]
    simpa using this
  refine Fc.of (anys _ [71]) sch56 mixed Tryd.func56 rfl (by rfl) (by simp [Tryd.ntmps56]) (by decide) ?_
  simp -implicitDefEqProofs -dsimp [Tryd.ntmps56, hi']
  refine CallK.fresh ?_
  simp -implicitDefEqProofs -dsimp
  refine CallQ.same (text0_fn nl b hl) rfl ?_
  simp -implicitDefEqProofs -dsimp [fr_u8s, hi', h4, m4, z]

set_option maxRecDepth 100000 in
set_option maxHeartbeats 8000000 in
theorem put_fn (d : DS) (hd : d.Ok) (L : List Objt) (b : List Int) (hl : b.length ≤ 131072) (hL : L.length ≤ 1000000) :
    Fc Tryd.prog 20 [.ptr 100000 0, .sl .imm false 1 (u8s b)] (stH d L) (.tup [.lit (.string (putS digOf d L b).1.1), .lit (.int .i64 (putS digOf d L b).1.2)]) (stH (putS digOf d L b).2.1 (putS digOf d L b).2.2) := by
  have hl' : ¬ 131072 < (b.length : Int) := by omega
  have hO := of_fn false b (by omega)
  have hR := record_fn false b (digOf b) (by omega) (dig4 b)
  have hA := append_fn d hd false (recB digOf b)
  have hr : enc b.length ++ (b ++ (bs (digOf b)).take 4) = recB digOf b := rfl
  rw [hr] at hR
  unfold putS
  by_cases h1 : hasO L (digOf b) = true
  · rw [if_pos h1]
    refine Fc.of (anys _ [53, 51, 56, 23, 54]) sch20 mixed Tryd.func20 rfl (by rfl) (by simp [Tryd.ntmps20]) (by decide) ?_
    simp -implicitDefEqProofs -dsimp [Tryd.ntmps20, hl', stH, stC]
    refine CallK.reads ?_
    simp -implicitDefEqProofs -dsimp
    refine CallQ.same (hO) rfl ?_
    simp -implicitDefEqProofs -dsimp
    refine CallK.works ?_
    simp -implicitDefEqProofs -dsimp
    refine CallQ.mk (has_fn d L (digOf b)) (by simp) ?_
    simp -implicitDefEqProofs -dsimp [h1]
  · rw [if_neg h1]
    have h1 : hasO L (digOf b) = false := by simpa using h1
    obtain ⟨⟨e, d'⟩, hed⟩ : ∃ q, q = d.append (recB digOf b) := ⟨_, rfl⟩
    rw [← hed] at hA ⊢
    by_cases h2 : e = 0
    · rw [if_neg (show ¬ (e, d').1 ≠ 0 from fun h => h h2)]
      subst h2
      refine Fc.of (anys _ [53, 51, 56, 23, 54]) sch20 mixed Tryd.func20 rfl (by rfl) (by simp [Tryd.ntmps20]) (by decide) ?_
      simp -implicitDefEqProofs -dsimp [Tryd.ntmps20, hl', stH, stC]
      refine CallK.reads ?_
      simp -implicitDefEqProofs -dsimp
      refine CallQ.same (hO) rfl ?_
      simp -implicitDefEqProofs -dsimp
      refine CallK.works ?_
      simp -implicitDefEqProofs -dsimp
      refine CallQ.mk (has_fn d L (digOf b)) (by simp) ?_
      simp -implicitDefEqProofs -dsimp [h1]
      refine CallK.works ?_
      simp -implicitDefEqProofs -dsimp
      refine CallQ.mk (hR) (by simp) ?_
      simp -implicitDefEqProofs -dsimp
      refine CallK.works ?_
      simp -implicitDefEqProofs -dsimp
      refine CallQ.mk (hA) (by simp) ?_
      simp -implicitDefEqProofs -dsimp
      refine CallK.works ?_
      simp -implicitDefEqProofs -dsimp
      refine CallQ.mk (keep_fn d' L (digOf b) false b h1 (by omega) hL) (by simp) ?_
      simp -implicitDefEqProofs -dsimp
    · rw [if_pos (show (e, d').1 ≠ 0 from h2)]
      refine Fc.of (anys _ [53, 51, 56, 23, 54]) sch20 mixed Tryd.func20 rfl (by rfl) (by simp [Tryd.ntmps20]) (by decide) ?_
      simp -implicitDefEqProofs -dsimp [Tryd.ntmps20, hl', stH, stC]
      refine CallK.reads ?_
      simp -implicitDefEqProofs -dsimp
      refine CallQ.same (hO) rfl ?_
      simp -implicitDefEqProofs -dsimp
      refine CallK.works ?_
      simp -implicitDefEqProofs -dsimp
      refine CallQ.mk (has_fn d L (digOf b)) (by simp) ?_
      simp -implicitDefEqProofs -dsimp [h1]
      refine CallK.works ?_
      simp -implicitDefEqProofs -dsimp
      refine CallQ.mk (hR) (by simp) ?_
      simp -implicitDefEqProofs -dsimp
      refine CallK.works ?_
      simp -implicitDefEqProofs -dsimp
      refine CallQ.mk (hA) (by simp) ?_
      simp -implicitDefEqProofs -dsimp [h2]
end Go.Proofs.YtekokchejkjjjaaDoor

/-! Stores: what bytes begin with. -/
namespace Go.Sy
theorem Fc.aggW {P : Program} {k : FuncId} {al : List PV} {h : List (Nat × Ob)} {xs ys : List PV} {h1 : List (Nat × Ob)} (hf : Fc P k al h (.agg xs) h1) (hw : weakL xs ys) : Fc P k al h (.agg ys) h1 := by
  refine ⟨hf.ok, fun g w vs a1 a2 a3 => CallsIn.mono (hf.run g w vs a1 a2 a3) ?_⟩
  rintro e w' ⟨v, y, g', h', rfl, ⟨rfl, rfl⟩, b1, b2, b3, b4⟩
  refine ⟨v, _, g', _, rfl, ⟨rfl, rfl⟩, ?_, b2, b3, b4⟩
  cases b1 with
  | agg _ us hl hr =>
    obtain ⟨e1, e2⟩ := weakL_get hw
    refine .agg _ us (by omega) fun i y u hy hu => ?_
    obtain ⟨z, hz, hzw⟩ := e2 i y hy
    exact hzw.rep (hr i z u hz hu)
end Go.Sy
namespace Go.Proofs.YtekokchejkjjjaaDoor
open Go.Sy
def PartS.nl (p : PartS) : Bool := decide (p.next = 0)
def partC (p : PartS) : List PV := [.sl .imm (PartS.nl p) 1 (u8s p.b), .lit (.bool p.torn), .lit (.int .i64 p.e), .lit (.int .i64 p.next)]
theorem front_is (d : ByteArray) (c : List Int) (hc : InB c) : (d.extract 0 4 = ofBs (c.take 4)) = ((bs d).take 4 = c.take 4) := by
  rw [eq_iff_iff, ← bs_inj, bs_front, bs_ofBs (hc.take 4)]

set_option maxRecDepth 100000 in
set_option maxHeartbeats 8000000 in
theorem sfirst_fn (nl : Bool) (b : List Int) (hn : nl = true → b = []) (hb : InB b) (hl : b.length ≤ 1000000) : Fc Tryd.prog 84 [.sl .imm nl 1 (u8s b)] [] (.agg (partC (firstS digOf b))) [] := by
  obtain ⟨t1, t2, t3, t4, t5, t6⟩ := tk_spec b hb
  have hok : (WS.mk nl b 0).Ok := ⟨hn, hb, hl⟩
  have hO := open_fn nl b hn hl
  have hN := wnum_fn _ hok
  obtain ⟨⟨n, k, e⟩, ht⟩ : ∃ t, t = tk b := ⟨_, rfl⟩
  have hnum : (WS.mk nl b 0).num = if e ≠ 0 then (0, ⟨nl, b, e⟩) else (n, ⟨nl, b.drop k, 0⟩) := by
    rw [WS.num, if_neg (show ¬ (0 : Int) ≠ 0 by decide)]; simp only [← ht]
  rw [hnum] at hN
  rw [← ht] at t1 t2 t3 t4 t5 t6
  simp only at t1 t2 t3 t4 t5 t6
  have hz : weakL [.sl .imm true 0 [], PV.lit (.bool false), PV.lit (.int .i64 0), PV.lit (.int .i64 0)] [.sl .imm true 1 (u8s []), .lit (.bool false), .lit (.int .i64 0), .lit (.int .i64 0)] := by simp
  unfold firstS
  simp only [← ht]
  by_cases c1 : e = 0
  · rw [if_neg (by omega), if_neg (by simp [c1])]
    subst c1
    rw [if_neg (by simp)] at hN
    by_cases c3 : 131072 < n
    · rw [if_pos c3]
      have c3' : 131072 < (n : Int) := by omega
      refine Fc.aggW (xs := [.sl .imm true 0 [], .lit (.bool false), .lit (.int .i64 4), .lit (.int .i64 0)]) ?_ (by simp [partC, PartS.nl])
      refine Fc.of (anys _ [53, 76, 77, 97, 100]) sch84 mixed Tryd.func84 rfl (by rfl) (by simp [Tryd.ntmps84]) (by decide) ?_
      simp -implicitDefEqProofs -dsimp [Tryd.ntmps84]
      refine CallK.works ?_
      simp -implicitDefEqProofs -dsimp
      refine CallQ.mk (hO) (by simp) ?_
      simp -implicitDefEqProofs -dsimp
      refine CallK.works ?_
      simp -implicitDefEqProofs -dsimp
      refine CallQ.mk (hN) (by simp) ?_
      simp -implicitDefEqProofs -dsimp
      refine CallK.reads ?_
      simp -implicitDefEqProofs -dsimp
      refine CallQ.same (fail_fn ⟨nl, b.drop k, 0⟩) rfl ?_
      simp -implicitDefEqProofs -dsimp [c3']
    · rw [if_neg c3]
      have c3' : ¬ 131072 < (n : Int) := by omega
      have w1 : IntKind.i64.wrap ((b.length : Int) - ((b.length - k : Nat) : Int)) = k := by rw [wrap64 (by omega) (by omega)]; omega
      have w2 : IntKind.i64.wrap (n : Int) = n := wrap64 (by omega) (by omega)
      have w3 : IntKind.i64.wrap ((k : Int) + n) = (k : Int) + n := wrap64 (by omega) (by omega)
      have w4 : IntKind.i64.wrap ((k : Int) + n + 4) = (k : Int) + n + 4 := wrap64 (by omega) (by omega)
      by_cases c4 : b.length < k + n + 4
      · rw [if_pos c4]
        have c4' : (b.length : Int) < (k : Int) + n + 4 := by omega
        refine Fc.aggW (xs := [.sl .imm true 0 [], .lit (.bool true), .lit (.int .i64 0), .lit (.int .i64 0)]) ?_ (by simp [partC, PartS.nl])
        refine Fc.of (anys _ [53, 76, 77, 97, 100]) sch84 mixed Tryd.func84 rfl (by rfl) (by simp [Tryd.ntmps84]) (by decide) ?_
        simp -implicitDefEqProofs -dsimp [Tryd.ntmps84]
        refine CallK.works ?_
        simp -implicitDefEqProofs -dsimp
        refine CallQ.mk (hO) (by simp) ?_
        simp -implicitDefEqProofs -dsimp
        refine CallK.works ?_
        simp -implicitDefEqProofs -dsimp
        refine CallQ.mk (hN) (by simp) ?_
        simp -implicitDefEqProofs -dsimp
        refine CallK.reads ?_
        simp -implicitDefEqProofs -dsimp
        refine CallQ.same (fail_fn ⟨nl, b.drop k, 0⟩) rfl ?_
        simp -implicitDefEqProofs -dsimp [c3']
        refine CallK.reads ?_
        simp -implicitDefEqProofs -dsimp
        refine CallQ.same (wleft_fn ⟨nl, b.drop k, 0⟩) rfl ?_
        simp -implicitDefEqProofs -dsimp [w1, w2, w3, w4, c4']
      · rw [if_neg c4]
        have c4' : ¬ (b.length : Int) < (k : Int) + n + 4 := by omega
        have hnl : nl = false := by
          cases nl with
          | false => rfl
          | true => rw [hn rfl] at c4; simp at c4
        subst hnl
        have q1 : (k : Int) ≤ (k : Int) + n := by omega
        have q2 : (k : Int) + n ≤ b.length := by omega
        have q3 : ((k : Int) + n).toNat = k + n := by omega
        have q4 : (0 : Int) ≤ (k : Int) + n := by omega
        have q5 : List.drop k (List.take (k + n) b) = (b.drop k).take n := by rw [List.drop_take]; congr 1; omega
        have q6 : (k : Int) + n ≤ (k : Int) + n + 4 := by omega
        have q7 : (k : Int) + n + 4 ≤ b.length := by omega
        have q8 : ((k : Int) + n + 4).toNat = k + n + 4 := by omega
        have q9 : List.drop (k + n) (List.take (k + n + 4) b) = (b.drop (k + n)).take 4 := by rw [List.drop_take]; congr 1; omega
        obtain ⟨x, hx⟩ : ∃ x, x = (b.drop k).take n := ⟨_, rfl⟩
        obtain ⟨c, hc⟩ : ∃ c, c = b.drop (k + n) := ⟨_, rfl⟩
        rw [← hx] at q5 ⊢
        rw [← hc] at q9 ⊢
        have hcb : InB c := hc ▸ hb.drop _
        have hcb4 : InB (c.take 4) := hcb.take 4
        have hxl : x.length ≤ 1000000 := by rw [hx, List.length_take, List.length_drop]; omega
        have hD := of_fn false x hxl
        have hd4 : (4 : Int) ≤ (digOf x).size := by have := dig4 x; omega
        have hfr := front_is (digOf x) c hcb
        by_cases c5 : (bs (digOf x)).take 4 = c.take 4
        · rw [if_pos c5]
          have hfr' := hfr.trans (eq_true c5)
          refine Fc.of (anys _ [53, 76, 77, 97, 100]) sch84 mixed Tryd.func84 rfl (by rfl) (by simp [Tryd.ntmps84]) (by decide) ?_
          simp -implicitDefEqProofs -dsimp [Tryd.ntmps84]
          refine CallK.works ?_
          simp -implicitDefEqProofs -dsimp
          refine CallQ.mk (hO) (by simp) ?_
          simp -implicitDefEqProofs -dsimp
          refine CallK.works ?_
          simp -implicitDefEqProofs -dsimp
          refine CallQ.mk (hN) (by simp) ?_
          simp -implicitDefEqProofs -dsimp
          refine CallK.reads ?_
          simp -implicitDefEqProofs -dsimp
          refine CallQ.same (fail_fn ⟨false, b.drop k, 0⟩) rfl ?_
          simp -implicitDefEqProofs -dsimp [c3']
          refine CallK.reads ?_
          simp -implicitDefEqProofs -dsimp
          refine CallQ.same (wleft_fn ⟨false, b.drop k, 0⟩) rfl ?_
          simp -implicitDefEqProofs -dsimp [w1, w2, w3, w4, c4', q1, q2, q3, q4, q5, q6, q7, q8, q9, hcb4]
          refine CallK.reads ?_
          simp -implicitDefEqProofs -dsimp
          refine CallQ.same (hD) rfl ?_
          simp -implicitDefEqProofs -dsimp [hd4, hfr', w4, q1, q2, q3, q4, q5, q6, q7, q8, q9, hcb4, partC, PartS.nl]
        · rw [if_neg c5]
          have hfr' := hfr.trans (eq_false c5)
          refine Fc.aggW (xs := [.sl .imm true 0 [], .lit (.bool false), .lit (.int .i64 12), .lit (.int .i64 0)]) ?_ (by simp [partC, PartS.nl])
          refine Fc.of (anys _ [53, 76, 77, 97, 100]) sch84 mixed Tryd.func84 rfl (by rfl) (by simp [Tryd.ntmps84]) (by decide) ?_
          simp -implicitDefEqProofs -dsimp [Tryd.ntmps84]
          refine CallK.works ?_
          simp -implicitDefEqProofs -dsimp
          refine CallQ.mk (hO) (by simp) ?_
          simp -implicitDefEqProofs -dsimp
          refine CallK.works ?_
          simp -implicitDefEqProofs -dsimp
          refine CallQ.mk (hN) (by simp) ?_
          simp -implicitDefEqProofs -dsimp
          refine CallK.reads ?_
          simp -implicitDefEqProofs -dsimp
          refine CallQ.same (fail_fn ⟨false, b.drop k, 0⟩) rfl ?_
          simp -implicitDefEqProofs -dsimp [c3']
          refine CallK.reads ?_
          simp -implicitDefEqProofs -dsimp
          refine CallQ.same (wleft_fn ⟨false, b.drop k, 0⟩) rfl ?_
          simp -implicitDefEqProofs -dsimp [w1, w2, w3, w4, c4', q1, q2, q3, q4, q5, q6, q7, q8, q9, hcb4]
          refine CallK.reads ?_
          simp -implicitDefEqProofs -dsimp
          refine CallQ.same (hD) rfl ?_
          simp -implicitDefEqProofs -dsimp [hd4, hfr', w4, q1, q2, q3, q4, q5, q6, q7, q8, q9, hcb4]
  · rw [if_pos (by simpa using c1)] at hN
    by_cases c2 : e = 2
    · rw [if_pos c2]
      subst c2
      refine Fc.aggW (xs := [.sl .imm true 0 [], .lit (.bool true), .lit (.int .i64 0), .lit (.int .i64 0)]) ?_ (by simp [partC, PartS.nl])
      refine Fc.of (anys _ [53, 76, 77, 97, 100]) sch84 mixed Tryd.func84 rfl (by rfl) (by simp [Tryd.ntmps84]) (by decide) ?_
      simp -implicitDefEqProofs -dsimp [Tryd.ntmps84]
      refine CallK.works ?_
      simp -implicitDefEqProofs -dsimp
      refine CallQ.mk (hO) (by simp) ?_
      simp -implicitDefEqProofs -dsimp
      refine CallK.works ?_
      simp -implicitDefEqProofs -dsimp
      refine CallQ.mk (hN) (by simp) ?_
      simp -implicitDefEqProofs -dsimp
      refine CallK.reads ?_
      simp -implicitDefEqProofs -dsimp
      refine CallQ.same (fail_fn ⟨nl, b, 2⟩) rfl ?_
      simp -implicitDefEqProofs -dsimp
    · rw [if_neg c2, if_pos (by simpa using c1)]
      refine Fc.aggW (xs := [.sl .imm true 0 [], .lit (.bool false), .lit (.int .i64 e), .lit (.int .i64 0)]) ?_ (by simp [partC, PartS.nl])
      refine Fc.of (anys _ [53, 76, 77, 97, 100]) sch84 mixed Tryd.func84 rfl (by rfl) (by simp [Tryd.ntmps84]) (by decide) ?_
      simp -implicitDefEqProofs -dsimp [Tryd.ntmps84]
      refine CallK.works ?_
      simp -implicitDefEqProofs -dsimp
      refine CallQ.mk (hO) (by simp) ?_
      simp -implicitDefEqProofs -dsimp
      refine CallK.works ?_
      simp -implicitDefEqProofs -dsimp
      refine CallQ.mk (hN) (by simp) ?_
      simp -implicitDefEqProofs -dsimp
      refine CallK.reads ?_
      simp -implicitDefEqProofs -dsimp
      refine CallQ.same (fail_fn ⟨nl, b, e⟩) rfl ?_
      simp -implicitDefEqProofs -dsimp [c1, c2]
end Go.Proofs.YtekokchejkjjjaaDoor

/-! Stores: the parts of a disk's bytes, told one by one; the round of Open over them. -/
namespace Go.Sy
section
variable (dg : List Int → ByteArray)
/-- Are the rounds broken off? -/
def openB : Nat → List Int → List Objt → Bool
  | 0, _, _ => false
  | n + 1, b, L =>
    if b = [] then false
    else if (firstS dg b).torn = true then true
    else if (firstS dg b).e ≠ 0 then true
    else if hasO L (dg (firstS dg b).b) = true then true
    else openB n (b.drop (firstS dg b).next) (L ++ [(dg (firstS dg b).b, (firstS dg b).b)])
theorem openB_more : ∀ (n m : Nat) (b : List Int) (L : List Objt), InB b → b.length ≤ n → b.length ≤ m → openB dg n b L = openB dg m b L := by
  intro n
  induction n with
  | zero =>
    intro m b L hb h1 h2
    have : b = [] := List.eq_nil_of_length_eq_zero (by omega)
    subst this
    cases m <;> simp [openB]
  | succ n ih =>
    intro m b L hb h1 h2
    cases m with
    | zero =>
      have : b = [] := List.eq_nil_of_length_eq_zero (by omega)
      subst this; simp [openB]
    | succ m =>
      rw [openB, openB]
      by_cases c0 : b = []
      · rw [if_pos c0, if_pos c0]
      · rw [if_neg c0, if_neg c0]
        by_cases c1 : (firstS dg b).torn = true
        · rw [if_pos c1, if_pos c1]
        · rw [if_neg c1, if_neg c1]
          by_cases c2 : (firstS dg b).e = 0
          · rw [if_neg (show ¬ (firstS dg b).e ≠ 0 from fun h => h c2), if_neg (show ¬ (firstS dg b).e ≠ 0 from fun h => h c2)]
            by_cases c3 : hasO L (dg (firstS dg b).b) = true
            · rw [if_pos c3, if_pos c3]
            · rw [if_neg c3, if_neg c3]
              obtain ⟨q1, q2, -⟩ := firstS_next dg hb (by simpa using c1) c2
              exact ih m _ _ (hb.drop _) (by simp; omega) (by simp; omega)
          · rw [if_pos c2, if_pos c2]
theorem openS_nil (n a : Nat) (L : List Objt) : openS dg n [] a L = (L, 0, a) := by cases n <;> simp [openS]
theorem openB_nil (n : Nat) (L : List Objt) : openB dg n [] L = false := by cases n <;> simp [openB]
theorem open_step {n : Nat} {b : List Int} (hb : InB b) (h0 : b ≠ []) (hn : b.length ≤ n) (a : Nat) (L : List Objt) :
    openS dg n b a L = (if (firstS dg b).torn = true then (L, 0, a) else if (firstS dg b).e ≠ 0 then (L, (firstS dg b).e, a) else if hasO L (dg (firstS dg b).b) = true then (L, 3, a)
      else openS dg n (b.drop (firstS dg b).next) (a + (firstS dg b).next) (L ++ [(dg (firstS dg b).b, (firstS dg b).b)])) ∧
    openB dg n b L = (if (firstS dg b).torn = true then true else if (firstS dg b).e ≠ 0 then true else if hasO L (dg (firstS dg b).b) = true then true
      else openB dg n (b.drop (firstS dg b).next) (L ++ [(dg (firstS dg b).b, (firstS dg b).b)])) := by
  have hl : 0 < b.length := List.length_pos_iff.2 h0
  obtain ⟨q, rfl⟩ : ∃ q, n = q + 1 := ⟨n - 1, by omega⟩
  rw [openS, openB, if_neg h0, if_neg h0]
  by_cases c1 : (firstS dg b).torn = true
  · rw [if_pos c1, if_pos c1, if_pos c1, if_pos c1]; exact ⟨rfl, rfl⟩
  · rw [if_neg c1, if_neg c1, if_neg c1, if_neg c1]
    by_cases c2 : (firstS dg b).e = 0
    · have c2' : ¬ (firstS dg b).e ≠ 0 := fun h => h c2
      rw [if_neg c2', if_neg c2', if_neg c2', if_neg c2']
      by_cases c3 : hasO L (dg (firstS dg b).b) = true
      · rw [if_pos c3, if_pos c3, if_pos c3, if_pos c3]; exact ⟨rfl, rfl⟩
      · rw [if_neg c3, if_neg c3, if_neg c3, if_neg c3]
        obtain ⟨q1, q2, -⟩ := firstS_next dg hb (by simpa using c1) c2
        exact ⟨openS_more dg _ _ _ _ _ (hb.drop _) (by simp; omega) (by simp; omega), openB_more dg _ _ _ _ (hb.drop _) (by simp; omega) (by simp; omega)⟩
    · rw [if_pos c2, if_pos c2, if_pos c2, if_pos c2]; exact ⟨rfl, rfl⟩
end
end Go.Sy
namespace Go.Proofs.YtekokchejkjjjaaDoor
open Go.Sy
set_option maxRecDepth 100000 in
theorem parts_fn (nl : Bool) (b : List Int) : Fc Tryd.prog 52 [.sl .imm nl 1 (u8s b)] [] (.fn (.func 83) [] [.ptr 1 0]) [(1, .cells [.sl .imm nl 1 (u8s b)])] := by
  refine Fc.of (anys _ []) [] mixed Tryd.func52 rfl (by rfl) (by simp [Tryd.ntmps52]) (by decide) ?_
  simp -implicitDefEqProofs -dsimp [Tryd.ntmps52]
noncomputable def cd18 : Array Tmp × Code × Code := ((Tryd.f18.body).bind rfOf).getD (#[], .skip, .skip)
/-- The loop's record in Open. -/
noncomputable def lpO (s : LoopState) (j : Option Code) : Ob := .loop [(0, .ptr 100002 0), (2, .lit (.pointer none)), (3, .lit (.int .i64 0)), (4, .ptr 100003 0), (5, .ptr 100004 0), (6, .ptr 100005 0)] 56 cd18 s j
noncomputable def opH (nl : Bool) (b : List Int) (d : DS) (lp : Ob) (c w : Int) (L : List Objt) : List (Nat × Ob) :=
  [(100000, lp), (100001, .cells [.sl .imm nl 1 (u8s b)]), (100002, .cells (d.cells (.own (.cell 100002 0)))), (100003, .cells [.ptr 100006 0]), (100004, .cells [.lit (.int .i64 c)]), (100005, .cells [.lit (.int .i64 w)]),
    (100006, .cells [.ptr 100002 0, .sl (.own (.cell 100006 1)) L.isEmpty 1 (idc (ids L)), .mp 100007]), (100007, .map (objE L))]
attribute [simp] opH partC lpO
attribute [simp ↓] getR_scrubR

set_option maxRecDepth 100000 in
set_option maxHeartbeats 16000000 in
theorem parts1_fn (nl : Bool) (b : List Int) (hn : nl = true → b = []) (hb : InB b) (hl : b.length ≤ 1000000) (d : DS) (R : List Objt × Int × Nat) (B : Bool) (hR : R = openS digOf b.length b 0 []) (hB : B = openB digOf b.length b []) :
    Fc Tryd.prog 83 [.yl 100000, .ptr 100001 0] (opH nl b d (lpO .ready none) b.length 0 []) (.tup [])
      (opH nl b d (lpO (if B = true then .done else .ready) (if B = true then some (.exit 0) else none)) (if R.2.1 = 0 then R.2.2 else b.length) R.2.1 R.1) := by
  refine Fc.of (anys _ [84]) [] mixed Tryd.func83 rfl (by rfl) (by simp [Tryd.ntmps83]) (by decide) ?_
  simp -implicitDefEqProofs -dsimp [Tryd.ntmps83]
  refine LpK.mk (anys _ [84]) mixed (fun ((i, L) : Nat × List Objt) => i ≤ b.length ∧ L.length ≤ i ∧ R = openS digOf b.length (b.drop i) i L ∧ B = openB digOf b.length (b.drop i) L)
    (fun ((i, L) : Nat × List Objt) => ⟨[(0, .yl 100000), (1, .ptr 100001 0), (3, .lit (.int .i64 i))], opH nl b d (lpO .ready none) b.length 0 L, 22⟩)
    (fun (i, _) => b.length - i) (0, []) ⟨by omega, by simp, by simpa using hR, by simpa using hB⟩ (by simp -implicitDefEqProofs -dsimp [lpO]) ?_
  rintro ⟨i, L⟩ ⟨hi, hLi, e1, e2⟩
  by_cases hlt : i < b.length
  · have hlt' : (i : Int) < b.length := by omega
    have hnl : nl = false := by
      cases nl with
      | false => rfl
      | true => rw [hn rfl] at hlt; simp at hlt
    subst hnl
    have q1 : (i : Int) ≤ b.length := by omega
    obtain ⟨c, hc⟩ : ∃ c, c = b.drop i := ⟨_, rfl⟩
    have hcb : InB c := hc ▸ hb.drop i
    have hcl : c.length = b.length - i := by rw [hc, List.length_drop]
    have hc0 : c ≠ [] := fun h => by rw [h] at hcl; simp at hcl; omega
    obtain ⟨f1, f2⟩ := open_step digOf hcb hc0 (n := b.length) (by omega) i L
    rw [← hc] at e1 e2
    rw [f1] at e1
    rw [f2] at e2
    have hnx := firstS_next digOf hcb
    have hF := sfirst_fn false c (by simp) hcb (by omega)
    obtain ⟨p, hp⟩ : ∃ p, p = firstS digOf c := ⟨_, rfl⟩
    rw [← hp] at e1 e2 hnx hF
    obtain ⟨tn, e, pb, nx⟩ := p
    simp only at e1 e2 hnx
    simp -implicitDefEqProofs -dsimp [hlt', q1, ← hc]
    refine CallK.works ?_
    simp -implicitDefEqProofs -dsimp
    refine CallQ.mk (hF) (by simp) ?_
    simp -implicitDefEqProofs -dsimp
    obtain ⟨pn, hpn⟩ : ∃ pn, pn = PartS.nl ⟨tn, e, pb, nx⟩ := ⟨_, rfl⟩
    rw [← hpn]
    cases tn with
    | true =>
      rw [if_pos rfl] at e1 e2
      refine YlK.mk (anys _ [53, 51, 54]) sch18 mixed 99999 rfl rfl (by rfl) rfl (by decide) rfl ?_
      intro r vals
      simp -implicitDefEqProofs -dsimp [e1, e2]
    | false =>
      rw [if_neg (by simp)] at e1 e2
      by_cases c2 : e = 0
      · rw [if_neg (fun h => h c2)] at e1 e2
        obtain ⟨x1, x2, x3, x4⟩ := hnx rfl c2
        subst c2
        have hpn' : pn = false := by rw [hpn]; simp [PartS.nl]; omega
        subst hpn'
        have hD := of_fn false pb (by omega)
        by_cases c3 : hasO L (digOf pb) = true
        · rw [if_pos c3] at e1 e2
          refine YlK.mk (anys _ [53, 51, 54]) sch18 mixed 99999 rfl rfl (by rfl) rfl (by decide) rfl ?_
          intro r vals
          simp -implicitDefEqProofs -dsimp
          refine CallK.reads ?_
          simp -implicitDefEqProofs -dsimp
          refine CallQ.same (hD) rfl ?_
          simp -implicitDefEqProofs -dsimp
          refine CallK.works ?_
          simp -implicitDefEqProofs -dsimp
          refine CallQ.mk (has_fn d L (digOf pb)) (by simp) ?_
          simp -implicitDefEqProofs -dsimp [c3, e1, e2]
        · rw [if_neg c3] at e1 e2
          have c3 : hasO L (digOf pb) = false := by simpa using c3
          have hdr : List.drop nx c = b.drop (i + nx) := by rw [hc, List.drop_drop]
          rw [hdr] at e1 e2
          have hw : IntKind.i64.wrap ((i : Int) + nx) = (i : Int) + nx := wrap64 (by omega) (by omega)
          refine YlK.mk (anys _ [53, 51, 54]) sch18 mixed 99999 rfl rfl (by rfl) rfl (by decide) rfl ?_
          intro r vals
          simp -implicitDefEqProofs -dsimp
          refine CallK.reads ?_
          simp -implicitDefEqProofs -dsimp
          refine CallQ.same (hD) rfl ?_
          simp -implicitDefEqProofs -dsimp
          refine CallK.works ?_
          simp -implicitDefEqProofs -dsimp
          refine CallQ.mk (has_fn d L (digOf pb)) (by simp) ?_
          simp -implicitDefEqProofs -dsimp [c3]
          refine CallK.reads ?_
          simp -implicitDefEqProofs -dsimp
          refine CallQ.same (hD) rfl ?_
          simp -implicitDefEqProofs -dsimp
          refine CallK.works ?_
          simp -implicitDefEqProofs -dsimp
          refine CallQ.mk (keep_fn d L (digOf pb) false pb c3 (by omega) (by omega)) (by simp) ?_
          simp -implicitDefEqProofs -dsimp [hw]
          exact .mk (i + nx, L ++ [(digOf pb, pb)]) ⟨by omega, by simp; omega, e1, e2⟩ (by simp; omega) (by simp -implicitDefEqProofs -dsimp)
      · rw [if_pos c2] at e1 e2
        refine YlK.mk (anys _ [53, 51, 54]) sch18 mixed 99999 rfl rfl (by rfl) rfl (by decide) rfl ?_
        intro r vals
        simp -implicitDefEqProofs -dsimp [c2, e1, e2]
  · have ein : i = b.length := by omega
    subst ein
    rw [List.drop_length] at e1 e2
    rw [openS_nil] at e1
    rw [openB_nil] at e2
    simp -implicitDefEqProofs -dsimp [hlt, e1, e2]
end Go.Proofs.YtekokchejkjjjaaDoor

/-! Stores: opened. -/
namespace Go.Sy
theorem open_cut (dg : List Int → ByteArray) : ∀ (n : Nat) (b : List Int) (a : Nat) (L : List Objt), InB b → (openS dg n b a L).2.2 ≤ a + b.length
  | 0, b, a, L, _ => by simp [openS]
  | n + 1, b, a, L, hb => by
    rw [openS]
    split
    · simp
    · split
      · simp
      · rename_i c1
        split
        · simp
        · rename_i c2
          split
          · simp
          · obtain ⟨q1, q2, -⟩ := firstS_next dg hb (by simpa using c1) (by simpa using c2)
            have := open_cut dg n (b.drop (firstS dg b).next) (a + (firstS dg b).next) (L ++ [(dg (firstS dg b).b, (firstS dg b).b)]) (hb.drop _)
            simp only [List.length_drop] at this; omega
end Go.Sy
namespace Go.Proofs.YtekokchejkjjjaaDoor
open Go.Sy
set_option maxRecDepth 100000 in
set_option maxHeartbeats 16000000 in
theorem sopen_ok (d : DS) (hd : d.Ok) (hb : InB d.b) (hdd : d.dead = false) (hl : d.b.length ≤ 1000000) (L : List Objt) (c : Nat) (hR : openS digOf d.b.length d.b 0 [] = (L, 0, c)) :
    Fc Tryd.prog 18 [.ptr 100000 0] [(100000, .cells (d.cells (.own (.cell 100000 0))))] (.tup [.ptr 14 0, .lit (.int .i64 0)])
      [(14, .cells [.ptr 100000 0, .sl (.own (.cell 14 1)) L.isEmpty 1 (idc (ids L)), .mp 12]), (100000, .cells (({ d with b := d.b.take c } : DS).cells (.own (.cell 100000 0)))), (12, .map (objE L))] := by
  have hc : c ≤ d.b.length := by have := open_cut digOf d.b.length d.b 0 [] hb; rw [hR] at this; simpa using this
  have hP := parts1_fn d.nl d.b hd.nil hb hl d (L, 0, c) (openB digOf d.b.length d.b []) hR.symm rfl
  obtain ⟨B, hB⟩ : ∃ B, B = openB digOf d.b.length d.b [] := ⟨_, rfl⟩
  rw [← hB] at hP
  have hC := cut_fn d c
  have e1 : d.cut c = (0, { d with b := d.b.take c }) := by
    unfold DS.cut DS.cut1
    rw [if_neg (by simp [hdd]), if_neg (by omega)]; simp
  rw [e1] at hC
  refine Fc.of (anys _ [34, 19, 27, 52, 83, 55]) sch18 mixed Tryd.func18 rfl (by rfl) (by simp [Tryd.ntmps18]) (by decide) ?_
  simp -implicitDefEqProofs -dsimp [Tryd.ntmps18]
  refine CallK.reads ?_
  simp -implicitDefEqProofs -dsimp
  refine CallQ.same (dead_fn d) rfl ?_
  simp -implicitDefEqProofs -dsimp [hdd]
  refine CallK.reads ?_
  simp -implicitDefEqProofs -dsimp
  refine CallQ.same (size_fn d) rfl ?_
  simp -implicitDefEqProofs -dsimp
  refine CallK.fresh ?_
  simp -implicitDefEqProofs -dsimp
  refine CallQ.same (bytes_fn d hd) rfl ?_
  simp -implicitDefEqProofs -dsimp [fr_u8s]
  refine CallK.works ?_
  simp -implicitDefEqProofs -dsimp
  refine CallQ.mk (parts_fn d.nl d.b) (by simp) ?_
  simp -implicitDefEqProofs -dsimp
  refine RfK.mk 99998 cd18 [(0, .ptr 100000 0), (2, .lit (.pointer none)), (3, .lit (.int .i64 0)), (4, .ptr 4 0), (5, .ptr 5 0), (6, .ptr 6 0)] rfl rfl (by decide) (by simp -implicitDefEqProofs -dsimp) ?_
  simp -implicitDefEqProofs -dsimp
  refine CallK.works ?_
  simp -implicitDefEqProofs -dsimp
  refine CallQ.mk (hP.heapW (h2 := [(100000, lpO .ready none), (100001, .cells [.sl .imm d.nl 1 (u8s d.b)]), (100002, .cells (d.cells (.own (.cell 100002 0)))), (100003, .cells [.ptr 100006 0]),
    (100004, .cells [.lit (.int .i64 d.b.length)]), (100005, .cells [.lit (.int .i64 0)]), (100006, .cells [.ptr 100002 0, .sl .imm true 0 [], .mp 100007]), (100007, .map [])]) (by simp [ids])) (by simp) ?_
  cases B with
  | true =>
    simp -implicitDefEqProofs -dsimp [jumpK]
    refine CallK.works ?_
    simp -implicitDefEqProofs -dsimp
    refine CallQ.mk (hC) (by simp) ?_
    simp -implicitDefEqProofs -dsimp
  | false =>
    simp -implicitDefEqProofs -dsimp [jumpK]
    refine CallK.works ?_
    simp -implicitDefEqProofs -dsimp
    refine CallQ.mk (hC) (by simp) ?_
    simp -implicitDefEqProofs -dsimp
set_option maxRecDepth 100000 in
set_option maxHeartbeats 16000000 in
theorem sopen_bad (d : DS) (hd : d.Ok) (hb : InB d.b) (hdd : d.dead = false) (hl : d.b.length ≤ 1000000) (L : List Objt) (e : Int) (c : Nat) (he : e ≠ 0) (hR : openS digOf d.b.length d.b 0 [] = (L, e, c)) :
    Fc Tryd.prog 18 [.ptr 100000 0] [(100000, .cells (d.cells (.own (.cell 100000 0))))] (.tup [.lit (.pointer none), .lit (.int .i64 e)]) [(100000, .cells (d.cells (.own (.cell 100000 0))))] := by
  have hP := parts1_fn d.nl d.b hd.nil hb hl d (L, e, c) (openB digOf d.b.length d.b []) hR.symm rfl
  obtain ⟨B, hB⟩ : ∃ B, B = openB digOf d.b.length d.b [] := ⟨_, rfl⟩
  rw [← hB] at hP
  refine Fc.of (anys _ [34, 19, 27, 52, 83, 55]) sch18 mixed Tryd.func18 rfl (by rfl) (by simp [Tryd.ntmps18]) (by decide) ?_
  simp -implicitDefEqProofs -dsimp [Tryd.ntmps18]
  refine CallK.reads ?_
  simp -implicitDefEqProofs -dsimp
  refine CallQ.same (dead_fn d) rfl ?_
  simp -implicitDefEqProofs -dsimp [hdd]
  refine CallK.reads ?_
  simp -implicitDefEqProofs -dsimp
  refine CallQ.same (size_fn d) rfl ?_
  simp -implicitDefEqProofs -dsimp
  refine CallK.fresh ?_
  simp -implicitDefEqProofs -dsimp
  refine CallQ.same (bytes_fn d hd) rfl ?_
  simp -implicitDefEqProofs -dsimp [fr_u8s]
  refine CallK.works ?_
  simp -implicitDefEqProofs -dsimp
  refine CallQ.mk (parts_fn d.nl d.b) (by simp) ?_
  simp -implicitDefEqProofs -dsimp
  refine RfK.mk 99998 cd18 [(0, .ptr 100000 0), (2, .lit (.pointer none)), (3, .lit (.int .i64 0)), (4, .ptr 4 0), (5, .ptr 5 0), (6, .ptr 6 0)] rfl rfl (by decide) (by simp -implicitDefEqProofs -dsimp) ?_
  simp -implicitDefEqProofs -dsimp
  refine CallK.works ?_
  simp -implicitDefEqProofs -dsimp
  refine CallQ.mk (hP.heapW (h2 := [(100000, lpO .ready none), (100001, .cells [.sl .imm d.nl 1 (u8s d.b)]), (100002, .cells (d.cells (.own (.cell 100002 0)))), (100003, .cells [.ptr 100006 0]),
    (100004, .cells [.lit (.int .i64 d.b.length)]), (100005, .cells [.lit (.int .i64 0)]), (100006, .cells [.ptr 100002 0, .sl .imm true 0 [], .mp 100007]), (100007, .map [])]) (by simp [ids])) (by simp) ?_
  cases B with
  | true =>
    simp -implicitDefEqProofs -dsimp [jumpK, he]
  | false =>
    simp -implicitDefEqProofs -dsimp [jumpK, he]
end Go.Proofs.YtekokchejkjjjaaDoor
