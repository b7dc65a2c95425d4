/- The law StorePlays, walked. (and what stands on it) -/
import Derived.Test.YtekokchejkjjjaaDoorMe
set_option linter.unusedSimpArgs false
set_option linter.unusedVariables false

/-! The law StorePlays, walked. -/
namespace Go.Proofs.YtekokchejkjjjaaDoor
open Go.Sy
@[simp ↓] theorem rs_toksI (s : RS) : toksOfL (s.cells .imm) = [] := by simp [RS.cells]
/-- The one disk is as the other. -/
structure Rel (d : DS) (r : RS) : Prop where
  b : d.b = r.b
  room : d.room = r.room
  dead : d.dead = r.dead
  fuse : d.fuse = if r.has = true then r.fuse else -1
theorem rel_append {d : DS} {r : RS} (h : Rel d r) (hf : 0 ≤ r.fuse) (ys : List Int) : (d.append ys).1 = (r.append ys).1 ∧ Rel (d.append ys).2 (r.append ys).2 := by
  obtain ⟨dn, db, droom, df, dd⟩ := d
  obtain ⟨rn, rb, rroom, rh, rf, rd⟩ := r
  obtain ⟨h1, h2, h3, h4⟩ := h
  simp only at h1 h2 h3 h4 hf
  subst h1; subst h2; subst h3
  unfold DS.append RS.append
  cases dd with
  | true => exact ⟨rfl, rfl, rfl, rfl, h4⟩
  | false =>
    simp only [Bool.false_eq_true, if_false]
    unfold DS.app RS.app DS.left
    by_cases hl : droom - (db.length : Int) < ys.length
    · have hl' : droom < (db.length : Int) + ys.length := by omega
      simp only [hl, hl', if_true]
      exact ⟨trivial, rfl, rfl, rfl, h4⟩
    · have hl' : ¬ droom < (db.length : Int) + ys.length := by omega
      simp only [hl, hl', if_false]
      cases rh with
      | false =>
        simp only [Bool.false_eq_true, if_false] at h4
        subst h4
        simp only [if_true, Bool.false_eq_true, false_and, if_false]
        exact ⟨trivial, rfl, rfl, rfl, rfl⟩
      | true =>
        simp only [if_true] at h4
        subst h4
        have hn : ¬ df = -1 := by omega
        by_cases hlt : df < (ys.length : Int)
        · simp only [hn, hlt, if_true, if_false, and_self]
          exact ⟨trivial, rfl, rfl, rfl, rfl⟩
        · simp only [hn, hlt, if_false, and_false, if_true]
          exact ⟨trivial, rfl, rfl, rfl, rfl⟩
theorem rapp_ok {s : RS} (h : s.Ok) (ys : List Int) : (s.append ys).2.Ok := by
  obtain ⟨h1, h2, h3, h4, h5⟩ := id h
  unfold RS.append RS.app
  split
  · exact h
  · split
    · exact h
    · split
      · exact ⟨h1, h2, by simp; omega, by simp, by simp⟩
      · exact ⟨h1, h2, by simp; omega, by simp; split <;> simp_all <;> omega, by simp; split <;> omega⟩
theorem rel_put {d : DS} {r : RS} (h : Rel d r) (hr : r.Ok) (L : List Objt) (b : List Int) :
    (putR digOf r L b).1 = (putS digOf d L b).1 ∧ (putR digOf r L b).2.2 = (putS digOf d L b).2.2 ∧ Rel (putS digOf d L b).2.1 (putR digOf r L b).2.1 ∧ (putR digOf r L b).2.1.Ok := by
  obtain ⟨a1, a2⟩ := rel_append h hr.fuse (recB digOf b)
  have a3 := rapp_ok hr (recB digOf b)
  unfold putR putS
  by_cases h1 : hasO L (digOf b) = true
  · simp only [h1, if_true]; exact ⟨trivial, trivial, h, hr⟩
  · simp only [h1, if_false, Bool.false_eq_true]
    rw [← a1]
    by_cases h2 : (d.append (recB digOf b)).1 = 0
    · simp only [h2, ne_eq, not_true, if_false]; exact ⟨trivial, trivial, a2, a3⟩
    · simp only [h2, ne_eq, not_false_eq_true, if_true]; exact ⟨trivial, trivial, a2, a3⟩
theorem put_len (d : DS) (L : List Objt) (b : List Int) : (putS digOf d L b).2.2.length ≤ L.length + 1 := by
  unfold putS
  split
  · simp
  · split
    · simp
    · simp
theorem inv0 {n : Int} (h : 0 ≤ n) (h2 : n ≤ 16777216) : Inv digOf (D0 n) [] :=
  ⟨D0_ok h h2, ⟨by simp, by simp, by simp, by simp⟩, [], by simp [D0, recs], by simp, .inl rfl, fun _ => rfl⟩

set_option maxRecDepth 100000 in
set_option maxHeartbeats 16000000 in
theorem plays_fn (nl : Bool) (l : List ByteArray) (room fuse : Int) (hl : l.length ≤ 9223372036854775807) (hr0 : 0 ≤ room) (hr : room < 65536) (hf0 : 0 ≤ fuse) (hf : fuse < 65536) :
    Fc Tryd.prog 7 [.sl .imm nl 1 (idc l), .lit (.int .u16 room), .lit (.int .u16 fuse)] [] (.lit (.bool true)) [] := by
  have hW := few_fn nl l hl
  by_cases hfew : fewS l = true
  · rw [hfew] at hW
    obtain ⟨l16, l60⟩ := fewS_iff hfew
    obtain ⟨n, hn⟩ : ∃ n, n = room % 1001 := ⟨_, rfl⟩
    have n0 : 0 ≤ n := by omega
    have n1 : n ≤ 1000 := by omega
    have w1 : IntKind.i64.wrap (room.tmod 1001) = n := by rw [Int.tmod_eq_emod_of_nonneg hr0, wrap64 (by omega) (by omega), hn]
    have w2 : IntKind.i64.wrap fuse = fuse := wrap64 (by omega) (by omega)
    have hE := empty_fn n n0 (by omega)
    have hd0 := D0_ok n0 (n := n) (by omega)
    have hS := sopen_ok (D0 n) hd0 (by simp [D0]) rfl (by simp [D0]) [] 0 (open_nil _ rfl)
    have hR := ropen_ok (R0 n) (by simp [R0]) rfl (by simp [R0]) [] 0 false (by simp [R0, openS_nil]) (by simp [R0, openB_nil])
    have hF := fuse_fn (D0 n) fuse
    have m1 : max (-1) fuse = fuse := by omega
    simp only [D0, R0, m1] at hE hd0 hS hR hF
    simp only [Bool.not_false, Bool.true_and, List.take_zero] at hS hR
    refine Fc.of (anys _ [15, 16, 17, 18, 25, 32, 20, 33, 34, 27, 26, 28]) sch7 mixed Tryd.func7 rfl (by rfl) (by simp [Tryd.ntmps7]) (by decide) ?_
    simp -implicitDefEqProofs -dsimp [Tryd.ntmps7]
    refine CallK.reads ?_
    simp -implicitDefEqProofs -dsimp
    refine CallQ.same (awake_fn) rfl ?_
    simp -implicitDefEqProofs -dsimp
    refine CallK.reads ?_
    simp -implicitDefEqProofs -dsimp
    refine CallQ.same (hW) rfl ?_
    simp -implicitDefEqProofs -dsimp [w1]
    refine CallK.works ?_
    simp -implicitDefEqProofs -dsimp
    refine CallQ.mk (hE) (by simp) ?_
    simp -implicitDefEqProofs -dsimp
    refine CallK.works ?_
    simp -implicitDefEqProofs -dsimp
    refine CallQ.mk (hS) (by simp) ?_
    simp -implicitDefEqProofs -dsimp
    refine CallK.works ?_
    simp -implicitDefEqProofs -dsimp
    refine CallQ.mk (hR) (by simp) ?_
    simp -implicitDefEqProofs -dsimp [w2]
    refine CallK.works ?_
    simp -implicitDefEqProofs -dsimp
    refine CallQ.mk (hF) (by simp) ?_
    simp -implicitDefEqProofs -dsimp [w2, RS.cells]
    have hrel : Rel ⟨true, [], n, fuse, false⟩ ⟨true, [], n, true, fuse, false⟩ := ⟨rfl, rfl, rfl, by simp⟩
    have hin0 : Inv digOf ⟨true, [], n, fuse, false⟩ [] := by
      obtain ⟨q1, q2, q3⟩ := inv0 n0 (n := n) (by omega)
      exact ⟨⟨n0, by simp only; omega, by simp; omega, by simp only; omega, by simp only; omega, fun _ => rfl⟩, q2, [], by simp [recs], by simp, .inl rfl, fun _ => rfl⟩
    refine LpK.mk (anys _ [15, 16, 17, 18, 25, 32, 20, 33, 34, 27, 26, 28]) mixed (fun ((i, d, r, L) : Nat × DS × RS × List Objt) => i ≤ l.length ∧ Inv digOf d L ∧ r.Ok ∧ Rel d r ∧ L.length ≤ i)
      (fun ((i, d, r, L) : Nat × DS × RS × List Objt) => ⟨[(0, .sl .imm nl 1 (idc l)), (6, .lit (.bool false)), (7, .lit (.bool true)), (9, .ptr 1300 0), (10, .ptr 1301 0), (11, .ptr 1370 0), (13, .ptr 1420 0), (15, .lit (.int .i64 i))],
        [(1300, .cells (d.cells (.own (.cell 1300 0)))), (1301, .cells (r.cells (.own (.cell 1301 0)))), (1370, .cells [.ptr 1300 0, .sl (.own (.cell 1370 1)) L.isEmpty 1 (idc (ids L)), .mp 1371]), (1371, .map (objE L)),
          (1420, .cells [.ptr 1301 0, .sl (.own (.cell 1420 1)) L.isEmpty 1 (idc (ids L)), .sl (.own (.cell 1420 2)) L.isEmpty 1 (idc (alls L))])], 130⟩)
      (fun (i, _) => l.length - i) (0, ⟨true, [], n, fuse, false⟩, ⟨true, [], n, true, fuse, false⟩, []) ⟨by omega, hin0, ⟨n0, by simp only; omega, by simp; omega, by simp only; omega, by simp only; omega⟩, hrel, by simp⟩ (by simp -implicitDefEqProofs -dsimp [RS.cells, DS.cells, ids, alls]) ?_
    rintro ⟨i, d, r, L⟩ ⟨hi, hin, hro, hre, hLi⟩
    by_cases hlt : i < l.length
    · obtain ⟨s, hs⟩ : ∃ s, l[i] = s := ⟨_, rfl⟩
      have hs' : l[i]? = some s := by rw [List.getElem?_eq_getElem hlt, hs]
      have hs60 := l60 s (hs ▸ List.getElem_mem hlt)
      have hw : IntKind.i64.wrap ((i : Int) + 1) = (i : Int) + 1 := wrap64 (by omega) (by omega)
      have hbl : (bs s).length ≤ 60 := by rw [bs_length]; omega
      have hP := put_fn d hin.ok L (bs s) (by omega) (by omega)
      have hQ := rput_fn r hro L (bs s) (inB_bs s) (by omega) (by omega)
      have hin2 := put_inv digOf dig4 hin (inB_bs s) (by omega)
      obtain ⟨x1, x2, x3, x4⟩ := rel_put hre hro L (bs s)
      have hpl := put_len d L (bs s)
      have hsz : s.size ≤ 140737488355328 := by omega
      rw [x1, x2] at hQ
      obtain ⟨⟨⟨a, g⟩, d', L'⟩, hpq⟩ : ∃ q, q = putS digOf d L (bs s) := ⟨_, rfl⟩
      rw [← hpq] at hP hQ hin2 x3 hpl
      obtain ⟨r', hr'⟩ : ∃ r', r' = (putR digOf r L (bs s)).2.1 := ⟨_, rfl⟩
      rw [← hr'] at hQ x3 x4
      have hbb : (d'.b = r'.b) = True := eq_true x3.b
      have hdd : (d'.dead == r'.dead) = true := by rw [x3.dead]; simp
      simp -implicitDefEqProofs -dsimp [hlt, hs, hs', hsz]
      refine CallK.works ?_
      simp -implicitDefEqProofs -dsimp
      refine CallQ.mk (hP) (by simp) ?_
      simp -implicitDefEqProofs -dsimp [hs, hs', hlt, hsz]
      refine CallK.works ?_
      simp -implicitDefEqProofs -dsimp
      refine CallQ.mk (hQ) (by simp) ?_
      simp -implicitDefEqProofs -dsimp
      refine CallK.reads ?_
      simp -implicitDefEqProofs -dsimp
      refine CallQ.same (dead_fn d') rfl ?_
      simp -implicitDefEqProofs -dsimp [hdd]
      refine CallK.fresh ?_
      simp -implicitDefEqProofs -dsimp
      refine CallQ.same (bytes_fn d' hin2.ok) rfl ?_
      simp -implicitDefEqProofs -dsimp [fr_u8s]
      refine CallK.reads ?_
      simp -implicitDefEqProofs -dsimp
      refine CallQ.same (same_fn d'.nl r'.nl d'.b r'.b (by have := hin2.ok.len; have := hin2.ok.room; simp only at *; omega)) rfl ?_
      simp -implicitDefEqProofs -dsimp [hbb, hw]
      exact .mk (i + 1, d', r', L') ⟨hlt, hin2, x4, x3, by simp only at *; omega⟩ (by simp; omega) (by simp -implicitDefEqProofs -dsimp)
    · have ein : i = l.length := by omega
      subst ein
      simp -implicitDefEqProofs -dsimp [hlt]
      refine CallK.works ?_
      simp -implicitDefEqProofs -dsimp
      refine CallQ.mk (ssame_fn d r L hin.kept (by omega)) (by simp) ?_
      simp -implicitDefEqProofs -dsimp
  · have hfew : fewS l = false := by simpa using hfew
    rw [hfew] at hW
    refine Fc.of (anys _ [15, 16, 17, 18, 25, 32, 20, 33, 34, 27, 26, 28]) sch7 mixed Tryd.func7 rfl (by rfl) (by simp [Tryd.ntmps7]) (by decide) ?_
    simp -implicitDefEqProofs -dsimp [Tryd.ntmps7]
    refine CallK.reads ?_
    simp -implicitDefEqProofs -dsimp
    refine CallQ.same (awake_fn) rfl ?_
    simp -implicitDefEqProofs -dsimp
    refine CallK.reads ?_
    simp -implicitDefEqProofs -dsimp
    refine CallQ.same (hW) rfl ?_
    simp -implicitDefEqProofs -dsimp
end Go.Proofs.YtekokchejkjjjaaDoor

/-! The law StorePlays. -/
namespace Go.Proofs.YtekokchejkjjjaaDoor
open Go.Sy
theorem plays_law (xs : List PV) (h : ShpAll Tryd.prog 6 Tryd.f7.params.toList xs) : Fc Tryd.prog 7 xs [] (.lit (.bool true)) [] := by
  obtain ⟨x, y, z, rfl, hx, hy, hz⟩ := shp_args3 h
  obtain ⟨nl, l, rfl, h1⟩ := arg_ids Tryd.underlying22 Tryd.underlying9 (by kernel_rfl) hx
  obtain ⟨a, rfl, ha⟩ := arg_int (k := .u16) Tryd.underlying23 hy
  obtain ⟨c, rfl, hc⟩ := arg_int (k := .u16) Tryd.underlying23 hz
  obtain ⟨a0, a1⟩ := wf_u16 ha
  obtain ⟨c0, c1⟩ := wf_u16 hc
  exact plays_fn nl l a c h1 a0 a1 c0 c1
end Go.Proofs.YtekokchejkjjjaaDoor
