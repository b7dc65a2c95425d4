/- What is lent: contracts of calls that make rows, of rows that are lent; what is clean. (and what stands on it) -/
import Derived.Test.YtekokchejkjjjaaDoorNb
import Derived.Test.YtekokchejkjjjaaDoorNe
set_option linter.unusedSimpArgs false
set_option linter.unusedVariables false

/-! What is lent: contracts of calls that make rows, of rows that are lent; what is clean. -/
namespace Go.Sy
theorem ints_dataC {k : IntKind} {l : List Int} (x : PV) (h : x ∈ ints k l) : DataC x := by
  simp only [ints, List.mem_map] at h
  obtain ⟨n, _, rfl⟩ := h
  exact .lit _
@[simp] theorem ints_allC {k : IntKind} {l : List Int} : (∀ x, x ∈ ints k l → DataC x) = True := eq_true fun _ => ints_dataC _
theorem idc_dataC {l : List ByteArray} (x : PV) (h : x ∈ idc l) : DataC x := by
  simp only [idc, List.mem_map] at h
  obtain ⟨n, _, rfl⟩ := h
  exact .lit _
@[simp] theorem idc_allC {l : List ByteArray} : (∀ x, x ∈ idc l → DataC x) = True := eq_true fun _ => idc_dataC _
/-- What a call makes of what it reads, it makes of what is lent. -/
theorem Fc.lent {P : Program} {k : FuncId} {al bs : List PV} {x : PV} {h1 : List (Nat × Ob)} (hf : Fc P k bs [] x h1) (hl : lendL [] al = some bs) (hr : Fr x) (hW : (wayR none x).ok = true) :
    Fc P k al [] (x.scrub (Fren (wayR none x).outT) (fun _ => none)) [] := by
  refine ⟨hf.ok, fun g w vs a1 a2 a3 => CallsIn.mono (CallT.fresh _ hW (hf.run.mono fun _ _ h => h.1) hl hr g w vs a1 a2 a3) ?_⟩
  rintro e w' ⟨v, g', rfl, b1, b2, b3, b4, b5⟩
  exact ⟨v, _, g', [], rfl, ⟨rfl, rfl⟩, b3, fun p ob hp => (by simp [getO] at hp), b4, b5⟩
end Go.Sy
namespace Go.Proofs.YtekokchejkjjjaaDoor
open Go.Sy
@[simp] theorem ds_clean (s : DS) (o : Own) : (∀ x, x ∈ s.cells o → Go.Sy.Clean x) = True := eq_true fun x hx => by
  simp only [DS.cells, List.mem_cons, List.not_mem_nil, or_false] at hx
  rcases hx with rfl | rfl | rfl | rfl <;> simp
@[simp] theorem objE_clean (L : List Objt) : (∀ e, e ∈ objE L → Go.Sy.Clean e.1 ∧ Go.Sy.Clean e.2) = True := eq_true fun e he => by
  simp only [objE, List.mem_map] at he
  obtain ⟨o, _, rfl⟩ := he
  simp
@[simp] theorem objE_clean' (L : List Objt) : (∀ a b : PV, (a, b) ∈ objE L → Go.Sy.Clean a ∧ Go.Sy.Clean b) = True := eq_true fun a b he => by
  have := of_eq_true (objE_clean L) (a, b) he
  exact this
theorem cloneR_fn (nl : Bool) (xs : List Int) (hn : nl = true → xs = []) (hl : xs.length ≤ 140737488355328) : Fc Tryd.prog 66 [.sl .rd nl 1 (u8s xs)] [] (.sl .imm nl 1 (u8s xs)) [] := by
  have h := (clone_fn nl xs hn hl).lent (al := [.sl .rd nl 1 (u8s xs)]) rfl (fr_u8s _ _ _) (by rfl)
  have := h.fz [.loc 1000]
  simpa using this
end Go.Proofs.YtekokchejkjjjaaDoor

/-! Stores: what is lent is put; what is got is one's own. -/
namespace Go.Proofs.YtekokchejkjjjaaDoor
open Go.Sy
set_option maxRecDepth 100000 in
set_option maxHeartbeats 4000000 in
theorem keepR_fn (d : DS) (L : List Objt) (i : ByteArray) (b : List Int) (hi : hasO L i = false) (hl : b.length ≤ 1000000) (hL : L.length ≤ 1000000) :
    Fc Tryd.prog 54 [.ptr 100000 0, .lit (.string i), .sl .rd false 1 (u8s b)] (stH d L) (.tup []) (stH d (L ++ [(i, b)])) := by
  have z1 : (L.length + 1) * 16 ≤ 140737488355328 := by omega
  have z2 : L.length ≤ 140737488355327 := by omega
  have hf := hasO_keys hi
  refine Fc.of (anys _ [66]) sch54 mixed Tryd.func54 rfl (by rfl) (by simp [Tryd.ntmps54]) (by decide) ?_
  simp -implicitDefEqProofs -dsimp [Tryd.ntmps54, stH, stC, z1, z2]
  refine CallK.works ?_
  simp -implicitDefEqProofs -dsimp
  refine CallQ.mk (cloneR_fn false b (by simp) (by omega)) (by simp) ?_
  simp -implicitDefEqProofs -dsimp [mapUpdSt, mapEntryPV, entrySt, hf, keyC_str, ids_snoc L i b]

set_option maxRecDepth 100000 in
set_option maxHeartbeats 4000000 in
theorem recordO_fn (nl : Bool) (b : List Int) (i : ByteArray) (hl : b.length ≤ 1000000) (hi : 4 ≤ i.size) :
    Fc Tryd.prog 56 [.sl .imm nl 1 (u8s b), .lit (.string i)] [] (.sl (.own (.loc 1060)) false 1 (u8s (enc b.length ++ (b ++ (bs i).take 4)))) [] := by
  have hi' : (4 : Int) ≤ i.size := by omega
  have h4 := bs_front i 4
  have m4 : min 4 (bs i).length = 4 := by rw [bs_length]; omega
  have z : (enc b.length).length + b.length + 4 ≤ 140737488355328 := by have := enc_u64 (n := b.length) (by omega); omega
  refine Fc.of (anys _ [71]) sch56 mixed Tryd.func56 rfl (by rfl) (by simp [Tryd.ntmps56]) (by decide) ?_
  simp -implicitDefEqProofs -dsimp [Tryd.ntmps56, hi']
  refine CallK.fresh ?_
  simp -implicitDefEqProofs -dsimp
  refine CallQ.same (text0_fn nl b hl) rfl ?_
  simp -implicitDefEqProofs -dsimp [fr_u8s, hi', h4, m4, z]
theorem recordR_fn (nl : Bool) (b : List Int) (i : ByteArray) (hl : b.length ≤ 1000000) (hi : 4 ≤ i.size) :
    Fc Tryd.prog 56 [.sl .rd nl 1 (u8s b), .lit (.string i)] [] (.sl .imm false 1 (u8s (enc b.length ++ (b ++ (bs i).take 4)))) [] := by
  have h := (recordO_fn nl b i hl hi).lent (al := [.sl .rd nl 1 (u8s b), .lit (.string i)]) rfl (fr_u8s _ _ _) (by rfl)
  have := h.fz [.loc 1000]
  simpa using this

set_option maxRecDepth 100000 in
set_option maxHeartbeats 8000000 in
theorem putR_fn (d : DS) (hd : d.Ok) (L : List Objt) (b : List Int) (hl : b.length ≤ 131072) (hL : L.length ≤ 1000000) (h1 : hasO L (digOf b) = false) (h2 : (d.append (recB digOf b)).1 = 0) :
    Fc Tryd.prog 20 [.ptr 100000 0, .sl .rd false 1 (u8s b)] (stH d L) (.tup [.lit (.string (digOf b)), .lit (.int .i64 0)]) (stH (d.append (recB digOf b)).2 (L ++ [(digOf b, b)])) := by
  have hl' : ¬ 131072 < (b.length : Int) := by omega
  have hO := of_fn false b (by omega)
  have hR := recordR_fn false b (digOf b) (by omega) (dig4 b)
  have hA := append_fn d hd false (recB digOf b)
  have hr : enc b.length ++ (b ++ (bs (digOf b)).take 4) = recB digOf b := rfl
  rw [hr] at hR
  obtain ⟨⟨e, d'⟩, hed⟩ : ∃ q, q = d.append (recB digOf b) := ⟨_, rfl⟩
  rw [← hed] at hA h2 ⊢
  obtain rfl : e = 0 := h2
  refine Fc.of (anys _ [53, 51, 56, 23, 54]) sch20 mixed Tryd.func20 rfl (by rfl) (by simp [Tryd.ntmps20]) (by decide) ?_
  simp -implicitDefEqProofs -dsimp [Tryd.ntmps20, hl', stH, stC]
  refine CallK.reads ?_
  simp -implicitDefEqProofs -dsimp
  refine CallQ.same (hO) rfl ?_
  simp -implicitDefEqProofs -dsimp
  refine CallK.works ?_
  simp -implicitDefEqProofs -dsimp
  refine CallQ.mk (has_fn d L (digOf b)) (by simp) ?_
  simp -implicitDefEqProofs -dsimp [h1]
  refine CallK.works ?_
  simp -implicitDefEqProofs -dsimp
  refine CallQ.mk (hR) (by simp) ?_
  simp -implicitDefEqProofs -dsimp
  refine CallK.works ?_
  simp -implicitDefEqProofs -dsimp
  refine CallQ.mk (hA) (by simp) ?_
  simp -implicitDefEqProofs -dsimp
  refine CallK.works ?_
  simp -implicitDefEqProofs -dsimp
  refine CallQ.mk (keepR_fn d' L (digOf b) b h1 (by omega) hL) (by simp) ?_
  simp -implicitDefEqProofs -dsimp

set_option maxRecDepth 100000 in
set_option maxHeartbeats 4000000 in
theorem getO_fn (d : DS) (L : List Objt) (i : ByteArray) (b : List Int) (hb : getB L i = b) (h : hasO L i = true) (hl : b.length ≤ 1000000) :
    Fc Tryd.prog 29 [.ptr 100000 0, .lit (.string i)] (stH d L) (.tup [.sl (.own (.loc 1180)) false 1 (u8s b), .lit (.bool true)]) (stH d L) := by
  obtain ⟨j, o, h1, h2, h3⟩ := fnd_some h
  have e : o.2 = b := by rw [← hb, getB, h1]; simp [h2]
  refine Fc.of (anys _ [66]) [] mixed Tryd.func29 rfl (by rfl) (by simp [Tryd.ntmps29]) (by decide) ?_
  simp -implicitDefEqProofs -dsimp [Tryd.ntmps29, stH, stC, lookupPV, keyC_str, h1, h2, h, e]
  refine CallK.fresh ?_
  simp -implicitDefEqProofs -dsimp
  refine CallQ.same (clone_fn false b (by simp) (by omega)) rfl ?_
  simp -implicitDefEqProofs -dsimp [fr_u8s]
end Go.Proofs.YtekokchejkjjjaaDoor

/-! The law StoreOwn, walked. -/
namespace Go.Proofs.YtekokchejkjjjaaDoor
open Go.Sy
set_option maxRecDepth 100000 in
set_option maxHeartbeats 16000000 in
theorem sown_fn (x : ByteArray) (a v : Int) (ha : 0 ≤ a) (ha2 : a < 256) (hv : 0 ≤ v) (hv2 : v < 256) (hx : x.size ≤ 9223372036854775807) :
    Fc Tryd.prog 5 [.lit (.string x), .lit (.int .u8 a), .lit (.int .u8 v)] [] (.lit (.bool true)) [] := by
  refine Fc.of (anys _ [15, 17, 18, 20, 29, 30, 31]) [] mixed Tryd.func5 rfl (by rfl) (by simp [Tryd.ntmps5]) (by decide) ?_
  simp -implicitDefEqProofs -dsimp [Tryd.ntmps5]
  refine CallK.reads ?_
  simp -implicitDefEqProofs -dsimp
  refine CallQ.same (awake_fn) rfl ?_
  simp -implicitDefEqProofs -dsimp
  by_cases c0 : x = ByteArray.empty
  · simp -implicitDefEqProofs -dsimp [c0]
  · have c1 : 0 < x.size := Nat.pos_of_ne_zero fun h => c0 (ByteArray.size_eq_zero_iff.1 h)
    by_cases c2 : 60 < (x.size : Int)
    · simp -implicitDefEqProofs -dsimp [c0, c2]
    · have c3 : x.size ≤ 140737488355328 := by omega
      have hE := empty_fn 1000 (by omega) (by omega)
      have hd0 := D0_ok (n := 1000) (by omega) (by omega)
      have hS := sopen_ok (D0 1000) hd0 (by simp [D0]) rfl (by simp [D0]) [] 0 (open_nil _ rfl)
      simp only [D0] at hE hd0 hS
      simp only [List.take_zero] at hS
      simp -implicitDefEqProofs -dsimp [c0, c2]
      refine CallK.works ?_
      simp -implicitDefEqProofs -dsimp
      refine CallQ.mk (hE) (by simp) ?_
      simp -implicitDefEqProofs -dsimp
      refine CallK.works ?_
      simp -implicitDefEqProofs -dsimp
      refine CallQ.mk (hS) (by simp) ?_
      simp -implicitDefEqProofs -dsimp [c3]
      obtain ⟨b, hbx⟩ : ∃ b, b = bs x := ⟨_, rfl⟩
      have hbl : b.length = x.size := by rw [hbx, bs_length]
      have hb : InB b := hbx ▸ inB_bs x
      have hob : ofBs b = x := by rw [hbx, ofBs_bs]
      have hre : (recB digOf b).length ≤ 1000 := by
        have h32 : (enc b.length).length = 1 := by rw [enc_lt (by omega)]; rfl
        have hd4 := digOf_size b
        simp only [recB, List.length_append, List.length_take, h32, bs_length, hd4]; omega
      have e : (DS.mk true [] 1000 (-1) false).append (recB digOf b) = (0, ⟨true && (recB digOf b).isEmpty, recB digOf b, 1000, -1, false⟩) := by
        rw [DS.append, if_neg (by simp), DS.app, if_pos rfl, if_neg (by simp [DS.left]; omega)]; rfl
      have hP := putR_fn (DS.mk true [] 1000 (-1) false) hd0 [] b (by omega) (by simp) (by simp [hasO]) (by rw [e])
      rw [e] at hP
      have hG := getO_fn ⟨true && (recB digOf b).isEmpty, recB digOf b, 1000, -1, false⟩ ([] ++ [(digOf b, b)]) (digOf b) b (by simp [getB, fndO]) (by simp [hasO]) (by omega)
      have hI := sids_fn ⟨true && (recB digOf b).isEmpty, recB digOf b, 1000, -1, false⟩ ([] ++ [(digOf b, b)]) (by simp)
      rw [← hbx]
      have hw1 : IntKind.i64.wrap a = a := wrap64 (by omega) (by omega)
      obtain ⟨K, hK⟩ : ∃ K : Nat, a.tmod b.length = (K : Int) := ⟨(a.tmod b.length).toNat, by have := Int.tmod_nonneg (b.length : Int) ha; omega⟩
      have hKl : K < b.length := by have := Int.tmod_lt_of_pos a (b := (b.length : Int)) (by omega); omega
      have c4 : ¬ b = [] := fun h => by rw [h] at hbl; simp at hbl; omega
      have hpk := pokeL_ints (k := .u8) v hKl
      have i1 : isByte (.lit (.int .u8 v)) = true := by simp [isByte, hv]; omega
      have hL1 : ¬ (1 : Int) ≤ 0 := by decide
      have e1 : ids [(digOf b, b)] = [digOf b] := rfl
      simp only [stH, stC, List.nil_append, e1] at hG hI
      refine CallK.lends [.loc 48] ?_
      simp -implicitDefEqProofs -dsimp
      refine CallQ.mk (hP) (by simp) ?_
      simp -implicitDefEqProofs -dsimp [hw1, hK, hKl, c4, hpk, hb, hob, e1]
      refine CallK.works ?_
      simp -implicitDefEqProofs -dsimp
      refine CallQ.mk (hG) (by simp) ?_
      simp -implicitDefEqProofs -dsimp [hw1, hK, hKl, c4, hpk, hb, hob, e1]
      refine CallK.works ?_
      simp -implicitDefEqProofs -dsimp
      refine CallQ.mk (hG) (by simp) ?_
      simp -implicitDefEqProofs -dsimp [hw1, hK, hKl, c4, hpk, hb, hob, e1]
      refine CallK.works ?_
      simp -implicitDefEqProofs -dsimp
      refine CallQ.mk (hI) (by simp) ?_
      simp -implicitDefEqProofs -dsimp [hw1, hK, hKl, c4, hpk, hb, hob, e1]
      refine CallK.works ?_
      simp -implicitDefEqProofs -dsimp
      refine CallQ.mk (hI) (by simp) ?_
      simp -implicitDefEqProofs -dsimp [hw1, hK, hKl, c4, hpk, hb, hob, e1]
      refine CallK.reads ?_
      simp -implicitDefEqProofs -dsimp
      refine CallQ.same (isame_fn false false [digOf b] [digOf b] (by simp)) rfl ?_
      simp -implicitDefEqProofs -dsimp [hw1, hK, hKl, c4, hpk, hb, hob, e1]
end Go.Proofs.YtekokchejkjjjaaDoor

/-! The law StoreOwn. -/
namespace Go.Proofs.YtekokchejkjjjaaDoor
open Go.Sy
theorem sown_law (xs : List PV) (h : ShpAll Tryd.prog 6 Tryd.f5.params.toList xs) : Fc Tryd.prog 5 xs [] (.lit (.bool true)) [] := by
  obtain ⟨x, y, z, rfl, hx, hy, hz⟩ := shp_args3 h
  obtain ⟨s, rfl, hs⟩ := arg_str Tryd.underlying9 hx
  obtain ⟨a, rfl, ha⟩ := arg_int (k := .u8) Tryd.underlying5 hy
  obtain ⟨v, rfl, hv⟩ := arg_int (k := .u8) Tryd.underlying5 hz
  obtain ⟨a0, a1⟩ := wf_u8 ha
  obtain ⟨v0, v1⟩ := wf_u8 hv
  exact sown_fn s a v a0 a1 v0 v1 (by simpa [maxLen] using hs)
end Go.Proofs.YtekokchejkjjjaaDoor
