/- The law StoreTears, walked. (and what stands on it) -/
import Derived.Test.YtekokchejkjjjaaDoorMg
import Derived.Test.YtekokchejkjjjaaDoorMe
set_option linter.unusedSimpArgs false
set_option linter.unusedVariables false

/-! The law StoreTears, walked. -/
namespace Go.Proofs.YtekokchejkjjjaaDoor
open Go.Sy
theorem put_room (d : DS) (L : List Objt) (b : List Int) : (putS digOf d L b).2.1.room = d.room := by
  have : (d.append (recB digOf b)).2.room = d.room := by
    unfold DS.append DS.app
    repeat (first | rfl | split)
  unfold putS
  split
  · rfl
  · split <;> exact this
theorem getO_at {L : List Objt} (hK : Kept digOf L) {i : Nat} {o : Objt} (ho : L[i]? = some o) : getO' L o.1 = (false, o.2) := by simp [getO', fnd_at hK ho, ho]

set_option maxRecDepth 100000 in
set_option maxHeartbeats 16000000 in
theorem tears_fn (nl : Bool) (l : List ByteArray) (fuse : Int) (hl : l.length ≤ 9223372036854775807) (hf0 : 0 ≤ fuse) (hf : fuse < 65536) :
    Fc Tryd.prog 8 [.sl .imm nl 1 (idc l), .lit (.int .u16 fuse)] [] (.lit (.bool true)) [] := by
  have hW := few_fn nl l hl
  by_cases hfew : fewS l = true
  · rw [hfew] at hW
    obtain ⟨l16, l60⟩ := fewS_iff hfew
    obtain ⟨n, hn⟩ : ∃ n, n = fuse % 1200 := ⟨_, rfl⟩
    have n0 : 0 ≤ n := by omega
    have n1 : n ≤ 1200 := by omega
    have w1 : IntKind.i64.wrap (fuse.tmod 1200) = n := by rw [Int.tmod_eq_emod_of_nonneg hf0, wrap64 (by omega) (by omega), hn]
    have hE := empty_fn 5000 (by decide) (by decide)
    have hd0 := D0_ok (n := 5000) (by decide) (by decide)
    have hS := sopen_ok (D0 5000) hd0 (by simp [D0]) rfl (by simp [D0]) [] 0 (open_nil _ rfl)
    have hF := fuse_fn (D0 5000) n
    have m1 : max (-1) n = n := by omega
    simp only [D0, m1] at hE hd0 hS hF
    simp only [List.take_zero] at hS
    have hin0 : Inv digOf ⟨true, [], 5000, n, false⟩ [] :=
      ⟨⟨by simp, by simp, by simp, by simp only; omega, by simp only; omega, fun _ => rfl⟩, kept0 _, [], by simp [recs], by simp, .inl rfl, fun _ => rfl⟩
    refine Fc.of (anys _ [15, 16, 17, 18, 32, 20, 30, 35, 27, 31, 26, 29, 21]) [] mixed Tryd.func8 rfl (by rfl) (by simp [Tryd.ntmps8]) (by decide) ?_
    simp -implicitDefEqProofs -dsimp [Tryd.ntmps8]
    refine CallK.reads ?_
    simp -implicitDefEqProofs -dsimp
    refine CallQ.same (awake_fn) rfl ?_
    simp -implicitDefEqProofs -dsimp
    refine CallK.reads ?_
    simp -implicitDefEqProofs -dsimp
    refine CallQ.same (hW) rfl ?_
    simp -implicitDefEqProofs -dsimp
    refine CallK.works ?_
    simp -implicitDefEqProofs -dsimp
    refine CallQ.mk (hE) (by simp) ?_
    simp -implicitDefEqProofs -dsimp
    refine CallK.works ?_
    simp -implicitDefEqProofs -dsimp
    refine CallQ.mk (hS) (by simp) ?_
    simp -implicitDefEqProofs -dsimp [w1]
    refine CallK.works ?_
    simp -implicitDefEqProofs -dsimp
    refine CallQ.mk (hF) (by simp) ?_
    simp -implicitDefEqProofs -dsimp
    refine LpK.mk (anys _ [15, 16, 17, 18, 32, 20, 30, 35, 27, 31, 26, 29, 21]) mixed (fun ((i, d, L) : Nat × DS × List Objt) => i ≤ l.length ∧ Inv digOf d L ∧ d.room = 5000 ∧ L.length ≤ i)
      (fun ((i, d, L) : Nat × DS × List Objt) => ⟨[(0, .sl .imm nl 1 (idc l)), (4, .lit (.bool false)), (5, .lit (.bool true)), (7, .ptr 1320 0), (9, .ptr 1390 0), (11, .lit (.int .i64 i))],
        [(1320, .cells (d.cells (.own (.cell 1320 0)))), (1390, .cells [.ptr 1320 0, .sl (.own (.cell 1390 1)) L.isEmpty 1 (idc (ids L)), .mp 1391]), (1391, .map (objE L))], 181⟩)
      (fun (i, _) => l.length - i) (0, ⟨true, [], 5000, n, false⟩, []) ⟨by omega, hin0, rfl, by simp⟩ (by simp -implicitDefEqProofs -dsimp [ids]) ?_
    rintro ⟨i, d, L⟩ ⟨hi, hin, hro, hLi⟩
    by_cases hlt : i < l.length
    · obtain ⟨s, hs⟩ : ∃ s, l[i] = s := ⟨_, rfl⟩
      have hs' : l[i]? = some s := by rw [List.getElem?_eq_getElem hlt, hs]
      have hs60 := l60 s (hs ▸ List.getElem_mem hlt)
      have hw : IntKind.i64.wrap ((i : Int) + 1) = (i : Int) + 1 := wrap64 (by omega) (by omega)
      have hbl : (bs s).length ≤ 60 := by rw [bs_length]; omega
      have hP := put_fn d hin.ok L (bs s) (by omega) (by omega)
      have hin2 := put_inv digOf dig4 hin (inB_bs s) (by omega)
      have hr2 := put_room d L (bs s)
      have hpl := put_len d L (bs s)
      have hsz : s.size ≤ 140737488355328 := by omega
      obtain ⟨⟨⟨a, g⟩, d', L'⟩, hpq⟩ : ∃ q, q = putS digOf d L (bs s) := ⟨_, rfl⟩
      rw [← hpq] at hP hin2 hr2 hpl
      simp -implicitDefEqProofs -dsimp [hlt, hs, hs', hsz]
      refine CallK.works ?_
      simp -implicitDefEqProofs -dsimp
      refine CallQ.mk (hP) (by simp) ?_
      simp -implicitDefEqProofs -dsimp [hw]
      exact .mk (i + 1, d', L') ⟨hlt, hin2, by simp only at *; omega, by simp only at *; omega⟩ (by simp; omega) (by simp -implicitDefEqProofs -dsimp)
    · have ein : i = l.length := by omega
      subst ein
      have hLl : L.length ≤ 1000000 := by omega
      obtain ⟨d1, hd1⟩ : ∃ d1 : DS, d1 = { d with dead := false, fuse := -1 } := ⟨_, rfl⟩
      have hst := start_fn d
      rw [← hd1] at hst
      have ok1 : d1.Ok := by
        obtain ⟨q1, q2, q3, q4, q5, q6⟩ := hin.ok
        rw [hd1]; exact ⟨q1, q2, q3, by simp, by simp, q6⟩
      have hb1 : d1.b = d.b := by rw [hd1]
      have hlen1 : d1.b.length ≤ 5000 := by have := hin.ok.len; rw [hb1]; omega
      have hbb : InB d.b := by
        obtain ⟨p, hp, hpb, -⟩ := hin.tail
        rw [hp]; exact inBA (inB_recs digOf hin.kept.bytes) hpb
      obtain ⟨o1, o2⟩ := open_inv digOf dig4 hin (n := d.b.length) (Nat.le_refl _)
      have hT := sopen_ok d1 ok1 (by rw [hb1]; exact hbb) (by rw [hd1]) (by omega) L (recs digOf L).length (by rw [hb1]; exact o1)
      rw [hb1, o2] at hT
      obtain ⟨d2, hd2⟩ : ∃ d2 : DS, d2 = { d1 with b := recs digOf L } := ⟨_, rfl⟩
      rw [← hd2] at hT
      have hrl : (recs digOf L).length ≤ d1.b.length := by rw [hb1, ← o2, List.length_take]; omega
      have ok2 : d2.Ok := by
        obtain ⟨q1, q2, q3, q4, q5, q6⟩ := ok1
        rw [hd2]; exact ⟨q1, q2, by simp only; omega, q4, q5, fun h => by
          have := q6 h
          rw [this] at hrl; exact List.eq_nil_of_length_eq_zero (by simpa using hrl)⟩
      have hde2 : d2.dead = false := by rw [hd2, hd1]
      have hin2 : Inv digOf d2 L := ⟨ok2, hin.kept, [], by rw [hd2, List.append_nil], by simp, .inl rfl, fun _ => rfl⟩
      have hb2 : d2.b = recs digOf L := by rw [hd2]
      obtain ⟨o3, o4⟩ := open_inv digOf dig4 hin2 (n := d2.b.length) (Nat.le_refl _)
      have hU := sopen_ok d2 ok2 (by rw [hb2]; exact inB_recs digOf hin.kept.bytes) hde2 (by rw [hb2]; omega) L (recs digOf L).length o3
      have e4 : ({ d2 with b := d2.b.take (recs digOf L).length } : DS) = d2 := by rw [o4, ← hb2]
      rw [e4] at hU
      have hlen : ∀ o, o ∈ L → o.2.length ≤ 1000000 := fun o ho => by have := hin.kept.len o ho; omega
      have hI := isame_fn L.isEmpty L.isEmpty (ids L) (ids L) (by simp; omega)
      have hrow : d2.b.length < 9223372036854775807 := by rw [hb2]; omega
      simp -implicitDefEqProofs -dsimp [hlt]
      refine CallK.works ?_
      simp -implicitDefEqProofs -dsimp
      refine CallQ.mk (sidsI_fn d L hLl) (by simp) ?_
      simp -implicitDefEqProofs -dsimp
      refine CallK.works ?_
      simp -implicitDefEqProofs -dsimp
      refine CallQ.mk (hst) (by simp) ?_
      simp -implicitDefEqProofs -dsimp
      refine CallK.works ?_
      simp -implicitDefEqProofs -dsimp
      refine CallQ.mk (hT) (by simp) ?_
      simp -implicitDefEqProofs -dsimp
      refine CallK.fresh ?_
      simp -implicitDefEqProofs -dsimp
      refine CallQ.same (bytes_fn d2 ok2) rfl ?_
      simp -implicitDefEqProofs -dsimp [fr_u8s]
      refine CallK.works ?_
      simp -implicitDefEqProofs -dsimp
      refine CallQ.mk (hU) (by simp) ?_
      simp -implicitDefEqProofs -dsimp
      refine CallK.works ?_
      simp -implicitDefEqProofs -dsimp
      refine CallQ.mk (sidsI_fn d2 L hLl) (by simp) ?_
      simp -implicitDefEqProofs -dsimp
      refine CallK.reads ?_
      simp -implicitDefEqProofs -dsimp
      refine CallQ.same (hI) rfl ?_
      simp -implicitDefEqProofs -dsimp
      refine CallK.works ?_
      simp -implicitDefEqProofs -dsimp
      refine CallQ.mk (sidsI_fn d2 L hLl) (by simp) ?_
      simp -implicitDefEqProofs -dsimp
      refine CallK.reads ?_
      simp -implicitDefEqProofs -dsimp
      refine CallQ.same (hI) rfl ?_
      simp -implicitDefEqProofs -dsimp
      refine CallK.fresh ?_
      simp -implicitDefEqProofs -dsimp
      refine CallQ.same (bytes_fn d2 ok2) rfl ?_
      simp -implicitDefEqProofs -dsimp [fr_u8s]
      refine CallK.reads ?_
      simp -implicitDefEqProofs -dsimp
      refine CallQ.same (same_fn d2.nl d2.nl d2.b d2.b hrow) rfl ?_
      simp -implicitDefEqProofs -dsimp
      refine LpK.mk (anys _ [15, 16, 17, 18, 32, 20, 30, 35, 27, 31, 26, 29, 21]) mixed (fun i : Nat => i ≤ L.length)
        (fun i => ⟨[(4, .lit (.bool false)), (5, .lit (.bool true)), (7, .ptr 1320 0), (9, .ptr 1390 0), (12, .sl .imm L.isEmpty 1 (idc (ids L))), (13, .ptr 1750 0), (16, .ptr 1880 0), (18, .lit (.int .i64 i))],
          [(1320, .cells (d2.cells (.own (.cell 1320 0)))), (1390, .cells [.ptr 1320 0, .sl (.own (.cell 1390 1)) L.isEmpty 1 (idc (ids L)), .mp 1391]), (1391, .map (objE L)), (1750, .cells [.ptr 1320 0, .sl (.own (.cell 1750 1)) L.isEmpty 1 (idc (ids L)), .mp 1751]), (1751, .map (objE L)), (1880, .cells [.ptr 1320 0, .sl (.own (.cell 1880 1)) L.isEmpty 1 (idc (ids L)), .mp 1881]), (1881, .map (objE L))], 181⟩)
        (fun i => L.length - i) 0 (by simp) (by simp -implicitDefEqProofs -dsimp) ?_
      intro i hi'
      by_cases hlt2 : i < L.length
      · obtain ⟨o, ho⟩ : ∃ o, L[i] = o := ⟨_, rfl⟩
        have ho' : L[i]? = some o := by rw [List.getElem?_eq_getElem hlt2, ho]
        have hw : IntKind.i64.wrap ((i : Int) + 1) = (i : Int) + 1 := wrap64 (by omega) (by omega)
        have i1 : (ids L)[i]? = some o.1 := by simp [ids, ho']
        have i1' : ∀ h, (ids L)[i]'h = o.1 := fun h => by simp [ids, ho]
        have hG := get_fn d2 L o.1 hlen
        rw [getO_at hin.kept ho', has_at ho'] at hG
        have hSm := same_fn false false o.2 o.2 (by have := hlen o (List.mem_of_getElem? ho'); omega)
        simp -implicitDefEqProofs -dsimp [hlt2, i1, i1']
        refine CallK.works ?_
        simp -implicitDefEqProofs -dsimp
        refine CallQ.mk (hG) (by simp) ?_
        simp -implicitDefEqProofs -dsimp [hlt2, i1, i1']
        refine CallK.works ?_
        simp -implicitDefEqProofs -dsimp
        refine CallQ.mk (hG) (by simp) ?_
        simp -implicitDefEqProofs -dsimp [hlt2, i1, i1']
        refine CallK.works ?_
        simp -implicitDefEqProofs -dsimp
        refine CallQ.mk (hG) (by simp) ?_
        simp -implicitDefEqProofs -dsimp
        refine CallK.reads ?_
        simp -implicitDefEqProofs -dsimp
        refine CallQ.same (hSm) rfl ?_
        simp -implicitDefEqProofs -dsimp
        refine CallK.reads ?_
        simp -implicitDefEqProofs -dsimp
        refine CallQ.same (hSm) rfl ?_
        simp -implicitDefEqProofs -dsimp [hw]
        exact .mk (i + 1) hlt2 (by omega) (by simp -implicitDefEqProofs -dsimp)
      · have ei : i = L.length := by omega
        subst ei
        simp -implicitDefEqProofs -dsimp [hlt2]
        refine CallK.works ?_
        simp -implicitDefEqProofs -dsimp
        refine CallQ.mk (many_fn d2 L) (by simp) ?_
        simp -implicitDefEqProofs -dsimp
  · have hfew : fewS l = false := by simpa using hfew
    rw [hfew] at hW
    refine Fc.of (anys _ [15, 16, 17, 18, 32, 20, 30, 35, 27, 31, 26, 29, 21]) [] mixed Tryd.func8 rfl (by rfl) (by simp [Tryd.ntmps8]) (by decide) ?_
    simp -implicitDefEqProofs -dsimp [Tryd.ntmps8]
    refine CallK.reads ?_
    simp -implicitDefEqProofs -dsimp
    refine CallQ.same (awake_fn) rfl ?_
    simp -implicitDefEqProofs -dsimp
    refine CallK.reads ?_
    simp -implicitDefEqProofs -dsimp
    refine CallQ.same (hW) rfl ?_
    simp -implicitDefEqProofs -dsimp
end Go.Proofs.YtekokchejkjjjaaDoor

/-! The law StoreTears. -/
namespace Go.Proofs.YtekokchejkjjjaaDoor
open Go.Sy
theorem tears_law (xs : List PV) (h : ShpAll Tryd.prog 6 Tryd.f8.params.toList xs) : Fc Tryd.prog 8 xs [] (.lit (.bool true)) [] := by
  obtain ⟨x, y, rfl, hx, hy⟩ := shp_args2 h
  obtain ⟨nl, l, rfl, h1⟩ := arg_ids Tryd.underlying22 Tryd.underlying9 (by kernel_rfl) hx
  obtain ⟨a, rfl, ha⟩ := arg_int (k := .u16) Tryd.underlying23 hy
  obtain ⟨a0, a1⟩ := wf_u16 ha
  exact tears_fn nl l a h1 a0 a1
end Go.Proofs.YtekokchejkjjjaaDoor
