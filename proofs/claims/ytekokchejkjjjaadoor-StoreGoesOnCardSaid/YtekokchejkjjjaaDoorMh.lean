/- The law StoreOnce, walked. (and what stands on it) -/
import Derived.Test.YtekokchejkjjjaaDoorMf
import Derived.Test.YtekokchejkjjjaaDoorMe
set_option linter.unusedSimpArgs false
set_option linter.unusedVariables false

/-! The law StoreOnce, walked. -/
namespace Go.Proofs.YtekokchejkjjjaaDoor
open Go.Sy
/-- A disk without a fuse takes what there is room for, or tells that there is none. -/
theorem put_plain {d : DS} (hf : d.fuse = -1) (hd : d.dead = false) (L : List Objt) (b : List Int) :
    (putS digOf d L b = ((⟨#[]⟩, 8), d, L)) ∨ (∃ d' L', putS digOf d L b = ((digOf b, 0), d', L') ∧ d'.fuse = -1 ∧ d'.dead = false ∧ hasO L' (digOf b) = true ∧ L'.length ≤ L.length + 1 ∧ ∀ i, hasO L i = true → hasO L' i = true) := by
  unfold putS
  by_cases h1 : hasO L (digOf b) = true
  · rw [if_pos h1]; exact .inr ⟨d, L, rfl, hf, hd, h1, by omega, fun _ h => h⟩
  · rw [if_neg h1]
    have e : d.append (recB digOf b) = if d.left < (recB digOf b).length then (8, d) else (0, { d with nl := d.nl && (recB digOf b).isEmpty, b := d.b ++ recB digOf b }) := by
      rw [DS.append, if_neg (by simp [hd]), DS.app, if_pos hf]
    rw [e]
    by_cases h2 : d.left < (recB digOf b).length
    · rw [if_pos h2, if_pos (show (8 : Int) ≠ 0 by decide)]; exact .inl rfl
    · rw [if_neg h2, if_neg (show ¬ (0 : Int) ≠ 0 by decide)]
      refine .inr ⟨_, _, rfl, hf, hd, ?_, by simp, fun i h => ?_⟩
      · rw [hasO_iff]; simp
      · rw [hasO_iff] at h ⊢; rw [List.map_append]; exact List.mem_append_left _ h
def digs (K : List ByteArray) : List ByteArray := K.map fun s => digOf (bs s)
@[simp] theorem digs_length (K : List ByteArray) : (digs K).length = K.length := by simp [digs]
theorem digs_snoc (K : List ByteArray) (s : ByteArray) : digs K ++ [digOf (bs s)] = digs (K ++ [s]) := by simp [digs]

set_option maxRecDepth 100000 in
set_option maxHeartbeats 16000000 in
theorem once_fn (nl : Bool) (l : List ByteArray) (room : Int) (hl : l.length ≤ 9223372036854775807) (hr0 : 0 ≤ room) (hr : room < 65536) :
    Fc Tryd.prog 3 [.sl .imm nl 1 (idc l), .lit (.int .u16 room)] [] (.lit (.bool true)) [] := by
  have hW := few_fn nl l hl
  by_cases hfew : fewS l = true
  · rw [hfew] at hW
    obtain ⟨l16, l60⟩ := fewS_iff hfew
    obtain ⟨n, hn⟩ : ∃ n, n = room % 1001 := ⟨_, rfl⟩
    have n0 : 0 ≤ n := by omega
    have n1 : n ≤ 1000 := by omega
    have w1 : IntKind.i64.wrap (room.tmod 1001) = n := by rw [Int.tmod_eq_emod_of_nonneg hr0, wrap64 (by omega) (by omega), hn]
    have hE := empty_fn n n0 (by omega)
    have hd0 := D0_ok n0 (n := n) (by omega)
    have hS := sopen_ok (D0 n) hd0 (by simp [D0]) rfl (by simp [D0]) [] 0 (open_nil _ rfl)
    have hin0 := inv0 n0 (n := n) (by omega)
    simp only [D0] at hE hd0 hS hin0
    simp only [List.take_zero] at hS
    refine Fc.of (anys _ [15, 16, 17, 18, 19, 20, 21, 22]) [] mixed Tryd.func3 rfl (by rfl) (by simp [Tryd.ntmps3]) (by decide) ?_
    simp -implicitDefEqProofs -dsimp [Tryd.ntmps3]
    refine CallK.reads ?_
    simp -implicitDefEqProofs -dsimp
    refine CallQ.same (awake_fn) rfl ?_
    simp -implicitDefEqProofs -dsimp
    refine CallK.reads ?_
    simp -implicitDefEqProofs -dsimp
    refine CallQ.same (hW) rfl ?_
    simp -implicitDefEqProofs -dsimp [w1]
    refine CallK.works ?_
    simp -implicitDefEqProofs -dsimp
    refine CallQ.mk (hE) (by simp) ?_
    simp -implicitDefEqProofs -dsimp
    refine CallK.works ?_
    simp -implicitDefEqProofs -dsimp
    refine CallQ.mk (hS) (by simp) ?_
    simp -implicitDefEqProofs -dsimp
    refine LpK.mk (anys _ [15, 16, 17, 18, 19, 20, 21, 22]) mixed (fun ((i, d, L, K) : Nat × DS × List Objt × List ByteArray) => i ≤ l.length ∧ Inv digOf d L ∧ d.fuse = -1 ∧ d.dead = false ∧ L.length ≤ K.length ∧ K.length ≤ i ∧ (∀ s, s ∈ K → hasO L (digOf (bs s)) = true) ∧ ∀ s, s ∈ K → s.size ≤ 60)
      (fun ((i, d, L, K) : Nat × DS × List Objt × List ByteArray) => ⟨[(0, .sl .imm nl 1 (idc l)), (4, .lit (.bool false)), (5, .lit (.bool true)), (7, .ptr 1320 0), (9, .ptr 1390 0), (11, .sl (.own (.loc 74)) K.isEmpty 1 (idc K)), (12, .sl (.own (.loc 78)) K.isEmpty 1 (idc (digs K))), (13, .lit (.int .i64 i))],
        [(1320, .cells (d.cells (.own (.cell 1320 0)))), (1390, .cells [.ptr 1320 0, .sl (.own (.cell 1390 1)) L.isEmpty 1 (idc (ids L)), .mp 1391]), (1391, .map (objE L))], 154⟩)
      (fun (i, _) => l.length - i) (0, ⟨true, [], n, -1, false⟩, [], []) ⟨by omega, hin0, rfl, rfl, by simp, by simp, by simp, by simp⟩ (by simp -implicitDefEqProofs -dsimp [ids, digs]) ?_
    rintro ⟨i, d, L, K⟩ ⟨hi, hin, hfu, hde, hLK, hKi, hKL, hK60⟩
    by_cases hlt : i < l.length
    · obtain ⟨s, hs⟩ : ∃ s, l[i] = s := ⟨_, rfl⟩
      have hs' : l[i]? = some s := by rw [List.getElem?_eq_getElem hlt, hs]
      have hs60 := l60 s (hs ▸ List.getElem_mem hlt)
      have hw : IntKind.i64.wrap ((i : Int) + 1) = (i : Int) + 1 := wrap64 (by omega) (by omega)
      have hbl : (bs s).length ≤ 60 := by rw [bs_length]; omega
      have hP := put_fn d hin.ok L (bs s) (by omega) (by omega)
      have hin2 := put_inv digOf dig4 hin (inB_bs s) (by omega)
      have hsz : s.size ≤ 140737488355328 := by omega
      have z1 : (K.length + 1) * 16 ≤ 140737488355328 := by omega
      have z2 : K.length ≤ 140737488355327 := by omega
      rcases put_plain hfu hde L (bs s) with hp | ⟨d', L', hp, p1, p2, p3, p4, p5⟩
      · rw [hp] at hP hin2
        simp -implicitDefEqProofs -dsimp [hlt]
        refine CallK.reads ?_
        simp -implicitDefEqProofs -dsimp
        refine CallQ.same (size_fn d) rfl ?_
        simp -implicitDefEqProofs -dsimp
        simp -implicitDefEqProofs -dsimp [hlt, hs, hs', hsz]
        refine CallK.works ?_
        simp -implicitDefEqProofs -dsimp
        refine CallQ.mk (hP) (by simp) ?_
        simp -implicitDefEqProofs -dsimp
        refine CallK.reads ?_
        simp -implicitDefEqProofs -dsimp
        refine CallQ.same (size_fn d) rfl ?_
        simp -implicitDefEqProofs -dsimp [hw]
        exact .mk (i + 1, d, L, K) ⟨hlt, hin, hfu, hde, hLK, by omega, hKL, hK60⟩ (by simp; omega) (by simp -implicitDefEqProofs -dsimp)
      · rw [hp] at hP hin2
        simp -implicitDefEqProofs -dsimp [hlt]
        refine CallK.reads ?_
        simp -implicitDefEqProofs -dsimp
        refine CallQ.same (size_fn d) rfl ?_
        simp -implicitDefEqProofs -dsimp
        simp -implicitDefEqProofs -dsimp [hlt, hs, hs', hsz]
        refine CallK.works ?_
        simp -implicitDefEqProofs -dsimp
        refine CallQ.mk (hP) (by simp) ?_
        simp -implicitDefEqProofs -dsimp [hlt, hs, hs', z1, z2, hw, digs_snoc]
        refine .mk (i + 1, d', L', K ++ [s]) ⟨hlt, hin2, p1, p2, by simp; omega, by simp; omega, fun q hq => ?_, fun q hq => ?_⟩ (by simp; omega) (by simp -implicitDefEqProofs -dsimp)
        · rcases List.mem_append.1 hq with hq | hq
          · exact p5 _ (hKL q hq)
          · simp at hq; subst hq; exact p3
        · rcases List.mem_append.1 hq with hq | hq
          · exact hK60 q hq
          · simp at hq; subst hq; exact hs60
    · have ein : i = l.length := by omega
      subst ein
      simp -implicitDefEqProofs -dsimp [hlt]
      refine CallK.reads ?_
      simp -implicitDefEqProofs -dsimp
      refine CallQ.same (size_fn d) rfl ?_
      simp -implicitDefEqProofs -dsimp
      refine CallK.works ?_
      simp -implicitDefEqProofs -dsimp
      refine CallQ.mk (many_fn d L) (by simp) ?_
      simp -implicitDefEqProofs -dsimp
      refine LpK.mk (anys _ [15, 16, 17, 18, 19, 20, 21, 22]) mixed (fun k : Nat => k ≤ K.length)
        (fun k => ⟨[(4, .lit (.bool false)), (5, .lit (.bool true)), (7, .ptr 1320 0), (9, .ptr 1390 0), (11, .sl (.own (.loc 74)) K.isEmpty 1 (idc K)), (12, .sl (.own (.loc 78)) K.isEmpty 1 (idc (digs K))), (17, .lit (.int .i64 d.b.length)), (18, .lit (.int .i64 L.length)), (19, .lit (.int .i64 k))],
          [(1320, .cells (d.cells (.own (.cell 1320 0)))), (1390, .cells [.ptr 1320 0, .sl (.own (.cell 1390 1)) L.isEmpty 1 (idc (ids L)), .mp 1391]), (1391, .map (objE L))], 154⟩)
        (fun k => K.length - k) 0 (by simp) (by simp -implicitDefEqProofs -dsimp) ?_
      intro k hk
      by_cases hlt2 : k < K.length
      · obtain ⟨s, hs⟩ : ∃ s, K[k] = s := ⟨_, rfl⟩
        have hs' : K[k]? = some s := by rw [List.getElem?_eq_getElem hlt2, hs]
        have hsm : s ∈ K := hs ▸ List.getElem_mem hlt2
        have hs60 := hK60 s hsm
        have hw : IntKind.i64.wrap ((k : Int) + 1) = (k : Int) + 1 := wrap64 (by omega) (by omega)
        have hbl : (bs s).length ≤ 60 := by rw [bs_length]; omega
        have hsz : s.size ≤ 140737488355328 := by omega
        have i1 : (digs K)[k]? = some (digOf (bs s)) := by simp [digs, hs']
        have i1' : ∀ h, (digs K)[k]'h = digOf (bs s) := fun h => by simp [digs, hs]
        have hP := put_fn d hin.ok L (bs s) (by omega) (by omega)
        have hp2 : putS digOf d L (bs s) = ((digOf (bs s), 0), d, L) := by unfold putS; rw [if_pos (hKL s hsm)]
        rw [hp2] at hP
        simp -implicitDefEqProofs -dsimp [hlt2, hs, hs', hsz]
        refine CallK.works ?_
        simp -implicitDefEqProofs -dsimp
        refine CallQ.mk (hP) (by simp) ?_
        simp -implicitDefEqProofs -dsimp [hlt2, hs, hs', hsz, i1, i1']
        refine CallK.reads ?_
        simp -implicitDefEqProofs -dsimp
        refine CallQ.same (rof_fn false (bs s) (by omega) (inB_bs s)) rfl ?_
        simp -implicitDefEqProofs -dsimp [hw]
        exact .mk (k + 1) hlt2 (by omega) (by simp -implicitDefEqProofs -dsimp)
      · have ek : k = K.length := by omega
        subst ek
        have hm : (L.length : Int) ≤ K.length := by omega
        simp -implicitDefEqProofs -dsimp [hlt2]
        refine CallK.reads ?_
        simp -implicitDefEqProofs -dsimp
        refine CallQ.same (size_fn d) rfl ?_
        simp -implicitDefEqProofs -dsimp
        refine CallK.works ?_
        simp -implicitDefEqProofs -dsimp
        refine CallQ.mk (many_fn d L) (by simp) ?_
        simp -implicitDefEqProofs -dsimp [hm]
  · have hfew : fewS l = false := by simpa using hfew
    rw [hfew] at hW
    refine Fc.of (anys _ [15, 16, 17, 18, 19, 20, 21, 22]) [] mixed Tryd.func3 rfl (by rfl) (by simp [Tryd.ntmps3]) (by decide) ?_
    simp -implicitDefEqProofs -dsimp [Tryd.ntmps3]
    refine CallK.reads ?_
    simp -implicitDefEqProofs -dsimp
    refine CallQ.same (awake_fn) rfl ?_
    simp -implicitDefEqProofs -dsimp
    refine CallK.reads ?_
    simp -implicitDefEqProofs -dsimp
    refine CallQ.same (hW) rfl ?_
    simp -implicitDefEqProofs -dsimp
end Go.Proofs.YtekokchejkjjjaaDoor

/-! The law StoreOnce. -/
namespace Go.Proofs.YtekokchejkjjjaaDoor
open Go.Sy
theorem once_law (xs : List PV) (h : ShpAll Tryd.prog 6 Tryd.f3.params.toList xs) : Fc Tryd.prog 3 xs [] (.lit (.bool true)) [] := by
  obtain ⟨x, y, rfl, hx, hy⟩ := shp_args2 h
  obtain ⟨nl, l, rfl, h1⟩ := arg_ids Tryd.underlying22 Tryd.underlying9 (by kernel_rfl) hx
  obtain ⟨a, rfl, ha⟩ := arg_int (k := .u16) Tryd.underlying23 hy
  obtain ⟨a0, a1⟩ := wf_u16 ha
  exact once_fn nl l a h1 a0 a1
end Go.Proofs.YtekokchejkjjjaaDoor
