/- Digests, the document's answer (both tables are laid here). (and what stands on it) -/
import Derived.Test.YtlbbkaeohpaaiaaDoorMc
import Derived.Test.YtlbbkaeohpaaiaaDoorRows
import Derived.OpenShut
import Derived.Lay
import Derived.MakeChecks

/-! Digests, the document's answer (both tables are laid here). -/
namespace Go.Sy
@[simp ↓ high] theorem ev_keys0 (st : St) : st.ev (.global 0) = .cur .imm (ints .u32 keys) := (rfl)
end Go.Sy
namespace Go.Proofs.YtlbbkaeohpaaiaaDoor
open Go.Sy
theorem pokeL_ints {k : IntKind} {l : List Int} {i : Nat} (v : Int) (h : i < l.length) : pokeL (l.length - i) (.lit (.int k v)) (ints k l) = ints k (put1 l i v) := by
  have h1 : (ints k l).length = l.length := ints_length
  rw [pokeL, if_pos (by rw [h1]; omega), h1, show l.length - (l.length - i) = i by omega]
  rw [List.set_eq_take_append_cons_drop, if_pos (by rw [h1]; exact h), ints_take, ints_drop, ints_mid]
  rfl
@[simp] theorem fr_ints (n : Nat) (nl : Bool) (k : IntKind) (xs : List Int) : Fr (.sl (.own (.loc n)) nl 1 (ints k xs)) := .row n _ _ _ fun x hx y hy => by
  simp only [ints, List.mem_map] at hx
  obtain ⟨n, _, rfl⟩ := hx
  simp [PV.comps] at hy
  exact ⟨_, hy⟩

set_option maxRecDepth 100000 in
set_option maxHeartbeats 16000000 in
theorem rof_fn (nl : Bool) (b : List Int) (hb : b.length ≤ 100000) (hi : InB b) : Fc Tryd.prog 10 [.sl .imm nl 1 (u8s b)] [] (.lit (.string (digOf b))) [] := by
  refine Fc.of (anys _ [18, 19, 20]) sch10 mixed Tryd.func10 rfl (by rfl) (by simp [Tryd.ntmps10]) (by decide) ?_
  simp -implicitDefEqProofs -dsimp [Tryd.ntmps10]
  refine CallK.fresh ?_
  simp -implicitDefEqProofs -dsimp
  refine CallQ.same (filled_fn nl b (by omega)) rfl ?_
  simp -implicitDefEqProofs -dsimp [fr_u8s]
  have hFi : InB (filB b) := by
    intro x hx
    rcases List.mem_append.1 hx with hx | hx
    · exact hi x hx
    · rcases List.mem_cons.1 hx with rfl | hx
      · omega
      · rcases List.mem_append.1 hx with hx | hx
        · have := (List.mem_replicate.1 hx).2
          omega
        · simp only [lenB, List.mem_map] at hx
          obtain ⟨i, _, rfl⟩ := hx
          exact wrap8_in _
  have hFl : (filB b).length = b.length + 9 + (63 * b.length + 55) % 64 := by simp [filB]; omega
  have hqe : ∃ q, (filB b).length = 64 * q ∧ q ≤ 2000 := ⟨(b.length + 9 + (63 * b.length + 55) % 64) / 64, by rw [hFl]; omega, by omega⟩
  obtain ⟨q, hq, hql⟩ := hqe
  have hd := dig_fil b
  generalize filB b = F at *
  refine LpK.mk (anys _ [18, 19, 20]) mixed (fun ((k, H) : Nat × List Int) => k ≤ q ∧ H.length = 8 ∧ InW H ∧ absB st0 F = absB H (F.drop (64 * k)))
    (fun ((k, H) : Nat × List Int) => ⟨[(3, .sl (.own (.loc 16)) false 1 (ints .u32 H)), (4, .sl (.own (.loc 1180)) false 1 (u8s F)), (5, .lit (.int .i64 (64 * (k : Int))))], [], 180⟩)
    (fun (k, _) => q - k) (0, st0) ⟨by omega, rfl, by unfold InW st0; decide, by simp⟩ (by simp -implicitDefEqProofs -dsimp [show ints .u32 st0 = [.lit (.int .u32 1779033703), .lit (.int .u32 3144134277), .lit (.int .u32 1013904242), .lit (.int .u32 2773480762), .lit (.int .u32 1359893119), .lit (.int .u32 2600822924), .lit (.int .u32 528734635), .lit (.int .u32 1541459225)] from rfl]) ?_
  rintro ⟨k, H⟩ ⟨hk, hHl, hHi, he⟩
  by_cases hlt : k < q
  · have h1 : 64 * (k : Int) < F.length := by omega
    have w1 : IntKind.i64.wrap (64 * (k : Int) + 64) = 64 * (k : Int) + 64 := wrap64 (by omega) (by omega)
    have h2 : (0 : Int) ≤ 64 * (k : Int) := by omega
    have h3 : 64 * (k : Int) ≤ 64 * (k : Int) + 64 := by omega
    have h4 : 64 * (k : Int) + 64 ≤ F.length := by omega
    have n1 : (64 * (k : Int)).toNat = 64 * k := by omega
    have n2 : (64 * (k : Int) + 64).toNat = 64 * k + 64 := by omega
    obtain ⟨p, hp⟩ : ∃ p, p = List.drop (64 * k) (List.take (64 * k + 64) F) := ⟨_, rfl⟩
    have hp2 : p = (F.drop (64 * k)).take 64 := by rw [hp, List.drop_take]; congr 1; omega
    have hpl : p.length = 64 := by rw [hp2]; simp; omega
    have hpi : InB p := fun x hx => hFi x (by rw [hp2] at hx; exact List.mem_of_mem_drop (List.mem_of_mem_take hx))
    have l8 : H.length ≤ 140737488355328 := by omega
    simp -implicitDefEqProofs -dsimp [h1, w1, h2, h3, h4, n1, n2, ← hp]
    refine CallK.fresh ?_
    simp -implicitDefEqProofs -dsimp
    refine CallQ.same (rspread_fn false p hpl hpi) rfl ?_
    simp -implicitDefEqProofs -dsimp [fr_u8s, hHl]
    have hWl := WS_length p 48 (by omega)
    refine LpK.mk (anys _ [18, 19, 20]) mixed (fun ((n, tok) : Nat × Nat) => n ≤ 64 ∧ (n = 0 ∧ tok = 31 ∨ 0 < n ∧ tok = 128))
      (fun ((n, tok) : Nat × Nat) => ⟨[(3, .sl (.own (.loc 16)) false 1 (ints .u32 H)), (4, .sl (.own (.loc 1180)) false 1 (u8s F)), (5, .lit (.int .i64 (64 * (k : Int)))), (6, .sl (.own (.loc 1300)) false 1 (ints .u32 (WS p 48))), (7, .sl (.own (.loc tok)) false 1 (ints .u32 (rnd p H n))), (8, .lit (.int .i64 n))], [], 180⟩)
      (fun (n, _) => 64 - n) (0, 31) ⟨by omega, .inl ⟨rfl, rfl⟩⟩ (by simp -implicitDefEqProofs -dsimp [rnd]) ?_
    rintro ⟨n, tok⟩ ⟨hn, htok⟩
    have hRl := rnd_length (b := p) hHl n
    have hRi := rnd_in (b := p) hHi n
    by_cases hln : n < 64
    · have m1 : (n : Int) < 64 := by omega
      have hr : rnd p H (n + 1) = stp (keys.getD n 0) ((WS p 48).getD n 0) (rnd p H n) := rfl
      have gw := getD_get (l := WS p 48) (i := n) (by omega)
      have gk := getD_get (l := keys) (i := n) (by rw [keys_length]; omega)
      have kl : n ≤ keys.length := by rw [keys_length]; omega
      have w8 : IntKind.i64.wrap ((n : Int) + 1) = (n : Int) + 1 := wrap64 (by omega) (by omega)
      generalize (WS p 48).getD n 0 = wn at *
      generalize keys.getD n 0 = kn at *
      have hex : ∃ a bb c d e f g h, rnd p H n = [a, bb, c, d, e, f, g, h] := by
        match rnd p H n, hRl with
        | [a, bb, c, d, e, f, g, h], _ => exact ⟨a, bb, c, d, e, f, g, h, rfl⟩
      obtain ⟨a, bb, c, d, e, f, g, h, hRe⟩ := hex
      rw [hRe] at hRi hr
      have ra := hRi a (by simp)
      have re := hRi e (by simp)
      have hnot := not_is re
      simp -implicitDefEqProofs -dsimp [m1, gw, gk, kl, hRe]
      refine CallK.reads ?_
      simp -implicitDefEqProofs -dsimp
      refine CallQ.same (rturn_fn e 6 re (by decide) (by decide)) rfl ?_
      simp -implicitDefEqProofs -dsimp [gw, gk, kl, hnot, hRe, m1]
      refine CallK.reads ?_
      simp -implicitDefEqProofs -dsimp
      refine CallQ.same (rturn_fn e 11 re (by decide) (by decide)) rfl ?_
      simp -implicitDefEqProofs -dsimp [gw, gk, kl, hnot, hRe, m1]
      refine CallK.reads ?_
      simp -implicitDefEqProofs -dsimp
      refine CallQ.same (rturn_fn e 25 re (by decide) (by decide)) rfl ?_
      simp -implicitDefEqProofs -dsimp [gw, gk, kl, hnot, hRe, m1]
      refine CallK.reads ?_
      simp -implicitDefEqProofs -dsimp
      refine CallQ.same (rturn_fn a 2 ra (by decide) (by decide)) rfl ?_
      simp -implicitDefEqProofs -dsimp [gw, gk, kl, hnot, hRe, m1]
      refine CallK.reads ?_
      simp -implicitDefEqProofs -dsimp
      refine CallQ.same (rturn_fn a 13 ra (by decide) (by decide)) rfl ?_
      simp -implicitDefEqProofs -dsimp [gw, gk, kl, hnot, hRe, m1]
      refine CallK.reads ?_
      simp -implicitDefEqProofs -dsimp
      refine CallQ.same (rturn_fn a 22 ra (by decide) (by decide)) rfl ?_
      simp -implicitDefEqProofs -dsimp [w8, gw, gk, kl, hnot, hRe, m1]
      exact .mk (n + 1, 128) ⟨hln, .inr ⟨by omega, rfl⟩⟩ (by show 64 - (n + 1) < 64 - n; omega) (by simp -implicitDefEqProofs -dsimp [hr, stp, stT, stU, ints])
    · have en : n = 64 := by omega
      subst en
      obtain rfl : tok = 128 := by omega
      simp -implicitDefEqProofs -dsimp
      obtain ⟨R, hR⟩ : ∃ R, R = rnd p H 64 := ⟨_, rfl⟩
      rw [← hR] at hRl hRi ⊢
      refine LpK.mk (anys _ [18, 19, 20]) mixed (fun i : Nat => i ≤ 8)
        (fun i => ⟨[(3, .sl (.own (.loc 16)) false 1 (ints .u32 (smL R H i))), (4, .sl (.own (.loc 1180)) false 1 (u8s F)), (5, .lit (.int .i64 (64 * (k : Int)))), (7, .sl (.own (.loc 128)) false 1 (ints .u32 R)), (13, .lit (.int .i64 i))], [], 180⟩)
        (fun i => 8 - i) 0 (by simp) (by simp -implicitDefEqProofs -dsimp [smL]) ?_
      intro i hi8
      have hsl := smL_length (S := R) hHl i hi8
      by_cases hl8 : i < 8
      · have m1 : (i : Int) < 8 := by omega
        have g1 : (smL R H i)[i]? = some (H.getD i 0) := by rw [smL_get hHl i i hi8 (Nat.le_refl i)]; exact getD_get (by omega)
        have g2 := getD_get (l := R) (i := i) (by omega)
        have hr : smL R H (i + 1) = put1 (smL R H i) i (IntKind.u32.wrap (H.getD i 0 + R.getD i 0)) := rfl
        have w8 : IntKind.i64.wrap ((i : Int) + 1) = (i : Int) + 1 := wrap64 (by omega) (by omega)
        generalize H.getD i 0 = x at *
        generalize R.getD i 0 = y at *
        have hlt2 : i < (smL R H i).length := by omega
        simp -implicitDefEqProofs -dsimp [m1, g1, g2, w8, hlt2]
        have g1' : (smL R H i)[i] = x := by
          rw [List.getElem?_eq_getElem hlt2] at g1; exact Option.some.inj g1
        have hpk := pokeL_ints (k := .u32) (IntKind.u32.wrap (x + y)) hlt2
        refine .mk (i + 1) (by omega) (by omega) ?_
        simp -implicitDefEqProofs -dsimp [hr, g1', hpk]
      · have e8 : i = 8 := by omega
        subst e8
        have w64 : IntKind.i64.wrap (64 * (k : Int) + 64) = 64 * ((k : Int) + 1) := by rw [wrap64 (by omega) (by omega)]; omega
        have hb8 : smL R H 8 = bhd p H := by rw [smL_comm hHl hRl, hR]; rfl
        simp -implicitDefEqProofs -dsimp [w64, hb8]
        exact .mk (k + 1, bhd p H) ⟨by omega, bhd_length hHl, bhd_in hHl, by rw [he, absB, if_pos (by simp; omega), ← hp2, List.drop_drop]; rfl⟩ (by show q - (k + 1) < q - k; omega) (by simp -implicitDefEqProofs -dsimp)
  · have e : k = q := by omega
    subst e
    have h1 : ¬ 64 * (k : Int) < F.length := by omega
    simp -implicitDefEqProofs -dsimp [h1]
    have hdn : F.drop (64 * k) = [] := List.drop_eq_nil_of_le (by omega)
    have hab : absB st0 F = (H, []) := by rw [he, hdn, absB, if_neg (by simp)]
    rw [hab] at hd
    refine LpK.mk (anys _ [18, 19, 20]) mixed (fun i : Nat => i ≤ 8)
      (fun i => ⟨[(3, .sl (.own (.loc 16)) false 1 (ints .u32 H)), (14, .sl (.own (.loc 177)) (decide (i = 0)) 1 (u8s (outB (H.take i)))), (15, .lit (.int .i64 i))], [], 180⟩)
      (fun i => 8 - i) 0 (by simp) (by simp -implicitDefEqProofs -dsimp [outB]) ?_
    intro i hi8
    by_cases hl8 : i < 8
    · have m1 : (i : Int) < 8 := by omega
      have g1 := getD_get (l := H) (i := i) (by omega)
      have hx := hHi (H.getD i 0) (List.mem_of_getElem? g1)
      have ho : outB (H.take (i + 1)) = outB (H.take i) ++ byt (H.getD i 0) := by
        unfold outB
        rw [List.take_add_one, g1]; simp
      have hlt2 : i < H.length := by omega
      have g1' : H[i] = H.getD i 0 := by
        rw [List.getElem?_eq_getElem hlt2] at g1; exact Option.some.inj g1
      generalize H.getD i 0 = x at *
      have w8 : IntKind.i64.wrap ((i : Int) + 1) = (i : Int) + 1 := wrap64 (by omega) (by omega)
      have hol : (outB (H.take i)).length + 4 ≤ 140737488355328 := by rw [outB_length]; simp; omega
      have s24 : ishr .u32 x 24 = x / 16777216 := by
        have := ishr_u32 (y := x) (s := 24) (by omega)
        rw [show ((24 : Nat) : Int) = 24 from rfl] at this
        rw [this]; rfl
      have s16 : ishr .u32 x 16 = x / 65536 := by
        have := ishr_u32 (y := x) (s := 16) (by omega)
        rw [show ((16 : Nat) : Int) = 16 from rfl] at this
        rw [this]; rfl
      have s8 : ishr .u32 x 8 = x / 256 := by
        have := ishr_u32 (y := x) (s := 8) (by omega)
        rw [show ((8 : Nat) : Int) = 8 from rfl] at this
        rw [this]; rfl
      have q (c : Int) (hc : 0 < c) : iquo .u32 x c = x / c := by
        unfold iquo
        have h1 : 0 ≤ x / c := Int.ediv_nonneg hx.1 (Int.le_of_lt hc)
        have h2 : x / c ≤ x := Int.ediv_le_self _ hx.1
        rw [Int.tdiv_eq_ediv_of_nonneg hx.1, wrap_u32]; omega
      have q1 := q 16777216 (by omega)
      have q2 := q 65536 (by omega)
      have q3 := q 256 (by omega)
      have r2 : (x / 65536).tmod 256 = (x / 65536) % 256 := Int.tmod_eq_emod_of_nonneg (by omega)
      have r3 : (x / 256).tmod 256 = (x / 256) % 256 := Int.tmod_eq_emod_of_nonneg (by omega)
      have r4 : x.tmod 256 = x % 256 := Int.tmod_eq_emod_of_nonneg (by omega)
      have b2 : IntKind.u8.wrap ((x / 65536) % 256) = IntKind.u8.wrap (ishr .u32 x 16) := by rw [s16, wrap8_is, wrap8_is]; omega
      have b3 : IntKind.u8.wrap ((x / 256) % 256) = IntKind.u8.wrap (ishr .u32 x 8) := by rw [s8, wrap8_is, wrap8_is]; omega
      have b4 : IntKind.u8.wrap (x % 256) = IntKind.u8.wrap x := by rw [wrap8_is, wrap8_is]; omega
      rw [← s24] at q1
      simp -implicitDefEqProofs -dsimp [m1, g1, g1', hlt2, q1, q2, q3, r2, r3, r4, b2, b3, b4, w8, hol]
      exact .mk (i + 1) (by omega) (by omega) (by simp -implicitDefEqProofs -dsimp [ho, byt])
    · have e8 : i = 8 := by omega
      subst e8
      have hTt : H.take 8 = H := List.take_of_length_le (by omega)
      have hin := outB_in H
      simp -implicitDefEqProofs -dsimp [hTt, hin, hd]
end Go.Proofs.YtlbbkaeohpaaiaaDoor

/-! Digests: a text's digest is as the document says. -/
namespace Go.Proofs.YtlbbkaeohpaaiaaDoor
open Go.Sy Go.ChangeShapes Go.WideShapes Go.ChangeAt Go.RowKit

set_option maxRecDepth 100000 in
set_option maxHeartbeats 8000000 in
theorem tells_fn (nl : Bool) (b : List Int) (hi : InB b) : Fc Tryd.prog 3 [.sl .imm nl 1 (u8s b)] [] (.lit (.bool true)) [] := by
  refine Fc.of (anys _ [8, 9, 10]) [] mixed Tryd.func3 rfl (by rfl) (by simp [Tryd.ntmps3]) (by decide) ?_
  simp -implicitDefEqProofs -dsimp [Tryd.ntmps3]
  refine CallK.reads ?_
  simp -implicitDefEqProofs -dsimp
  refine CallQ.same (awake_fn) rfl ?_
  simp -implicitDefEqProofs -dsimp
  by_cases c1 : 300 < (b.length : Int)
  · simp -implicitDefEqProofs -dsimp [c1]
  · have hD : ((digOf b).size : Int) = 32 := by rw [digOf_size]; rfl
    simp -implicitDefEqProofs -dsimp [c1]
    refine CallK.reads ?_
    simp -implicitDefEqProofs -dsimp
    refine CallQ.same (of_fn nl b (by omega)) rfl ?_
    simp -implicitDefEqProofs -dsimp
    refine CallK.reads ?_
    simp -implicitDefEqProofs -dsimp
    refine CallQ.same (rof_fn nl b (by omega) hi) rfl ?_
    simp -implicitDefEqProofs -dsimp
    refine CallK.reads ?_
    simp -implicitDefEqProofs -dsimp
    refine CallQ.same (of_fn nl b (by omega)) rfl ?_
    simp -implicitDefEqProofs -dsimp [hD]

theorem tells_law (xs : List PV) (h : ShpAll Tryd.prog 6 Tryd.f3.params.toList xs) : Fc Tryd.prog 3 xs [] (.lit (.bool true)) [] := by
  obtain ⟨x, rfl, hx⟩ := shp_args1 h
  obtain ⟨n1, b, rfl, -, -, h3⟩ := arg_ints (k := .u8) Tryd.underlying22 Tryd.underlying5 (by kernel_rfl) hx
  exact tells_fn n1 b fun n hn => wf_u8 (h3 n hn)

theorem own : ownKnob Tryd.prog.godebug = none := by kernel_rfl
theorem keys_laid1 : (Rows.laid_grapevine_digest_keys : DataW Unit) = .agg (Go.Sy.keys.map fun n => .lit (.int .u32 n)) := by kernel_rfl
theorem keys_laid0 : (Rows.laid_grapevine_grapevineref01_keys : DataW Unit) = .agg (Go.Sy.keys.map fun n => .lit (.int .u32 n)) := by kernel_rfl
theorem keys_cells {W : World} {g fuel : Nat} {n : String} {cs : Array Value} {d : DataW Unit} {p : List MemPlace} (hg : Tryd.prog.globalNamed n = some g) (hv : W.var? Tryd.prog n = some cs) (hk : d = .agg (Go.Sy.keys.map fun n => .lit (.int .u32 n)))
    (hd : DataW.trod (fun _ => ()) Tryd.prog W 0 (fun _ => true) false fuel 44 cs.toList = some (d, p)) : ∃ T fz, W.heap[g]? = some (.cells (Go.Sy.keys.map (Value.int .u32)).toArray T fz) := by
  obtain ⟨xs, m, _, ex, hcl, hl, hel⟩ := DataW.trod_array Tryd.underlying44 hd
  have c5 : Tryd.prog.cellsOf 39 = 1 := by kernel_rfl
  have c44 : Tryd.prog.cellsOf 44 = 64 := by kernel_rfl
  have hkl : Go.Sy.keys.length = 64 := by kernel_rfl
  rw [hk] at ex
  have e3 : (xs.map (·.1)) = Go.Sy.keys.map fun n => .lit (.int .u32 n) := (DataW.agg.inj (Prod.mk.inj ex).1).symm
  have hcs : cs = (Go.Sy.keys.map (Value.int .u32)).toArray := by
    apply Array.toList_inj.1
    refine List.ext_getElem? fun r => ?_
    rw [List.getElem?_map]
    by_cases hr : r < 64
    · have hE := hel r hr
      rw [c5, Nat.mul_one, List.getElem?_eq_getElem (by omega)] at hE
      obtain ⟨z, e1, e2, _⟩ := DataW.trod_int Tryd.underlying39 hE
      have e4 : (xs.map (·.1))[r]? = (Go.Sy.keys.map fun n => (DataW.lit (.int .u32 n) : DataW Unit))[r]? := by rw [e3]
      rw [List.getElem?_map, List.getElem?_map, List.getElem?_eq_getElem (by omega : r < xs.length), List.getElem?_eq_getElem (by omega : r < Go.Sy.keys.length), e2] at e4
      have h0 : ((cs.toList.drop r).take 1)[0]? = some (.int .u32 z) := by rw [e1]; rfl
      have h1 : cs.toList[r]? = some (.int .u32 z) := by simpa using h0
      rw [h1, List.getElem?_eq_getElem (by omega : r < Go.Sy.keys.length)]
      simp only [Option.map_some, Option.some.injEq, DataW.lit.injEq, Lit.int.injEq, true_and] at e4
      rw [e4]; rfl
    · rw [List.getElem?_eq_none (by omega), List.getElem?_eq_none (by omega)]; rfl
  unfold World.var? at hv
  rw [hg] at hv
  simp only [Option.bind_some] at hv
  split at hv
  · rename_i cs' T fz hb
    cases hv
    exact ⟨T, fz, by rw [hb, hcs]⟩
  · cases hv
theorem keys_tabs {W : World} (h : laidMetH Tryd.prog [("grapevine/grapevineref01.keys", Rows.laid_grapevine_grapevineref01_keys), ("grapevine/digest.keys", Rows.laid_grapevine_digest_keys)] W) : Tabs W := by
  rw [MakeChecks.laidMetH_plain _ _ _ (by kernel_rfl)] at h
  obtain ⟨ps, ⟨g, t, cs, fuel, p, q, hg, ht, hv, hd, ⟨g', t', cs', fuel', p', q', hg', ht', hv', hd', _, _⟩, _⟩, _, _⟩ := h
  obtain rfl := Option.some.inj ((show Tryd.prog.globalNamed "grapevine/grapevineref01.keys" = some 0 by kernel_rfl).symm.trans hg)
  obtain rfl := Option.some.inj ((show (Tryd.prog.globals[0]?).map (·.type) = some 44 by kernel_rfl).symm.trans ht)
  obtain rfl := Option.some.inj ((show Tryd.prog.globalNamed "grapevine/digest.keys" = some 1 by kernel_rfl).symm.trans hg')
  obtain rfl := Option.some.inj ((show (Tryd.prog.globals[1]?).map (·.type) = some 44 by kernel_rfl).symm.trans ht')
  have k0 := keys_cells hg hv keys_laid0 hd
  have k1 := keys_cells hg' hv' keys_laid1 hd'
  intro r hr
  simp only [globs, List.mem_cons, List.not_mem_nil, or_false] at hr
  rcases hr with rfl | rfl
  · exact k1
  · exact k0
end Go.Proofs.YtlbbkaeohpaaiaaDoor
