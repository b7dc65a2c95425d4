/- The law StoreGoesOn, walked. (and what stands on it) -/
import Derived.Test.YtekokchejkjjjaaDoorMi
import Derived.Test.YtekokchejkjjjaaDoorMh
import Derived.Test.YtekokchejkjjjaaDoorMe
set_option linter.unusedSimpArgs false
set_option linter.unusedVariables false

/-! The law StoreGoesOn, walked. -/
namespace Go.Sy
def blc (l : List Bool) : List PV := l.map fun w => PV.lit (.bool w)
@[simp] theorem blc_length (l : List Bool) : (blc l).length = l.length := by simp [blc]
@[simp] theorem blc_getElem (l : List Bool) (n : Nat) (h : n < (blc l).length) : (blc l)[n] = .lit (.bool (l[n]'(by simpa using h))) := by simp [blc]
@[simp high] theorem blc_get (l : List Bool) (n : Nat) : (blc l)[n]? = (l[n]?).map fun w => .lit (.bool w) := by simp [blc]
@[simp] theorem blc_take (l : List Bool) (n : Nat) : (blc l).take n = blc (l.take n) := by simp [blc, List.map_take]
@[simp] theorem blc_drop (l : List Bool) (n : Nat) : (blc l).drop n = blc (l.drop n) := by simp [blc, List.map_drop]
@[simp] theorem blc_nil_iff {l : List Bool} : blc l = [] ↔ l = [] := by cases l <;> simp [blc]
end Go.Sy
namespace Go.Proofs.YtekokchejkjjjaaDoor
open Go.Sy
theorem put_keeps {d : DS} (hf : d.fuse = -1) (hd : d.dead = false) (L : List Objt) (b : List Int) : (putS digOf d L b).2.1.fuse = -1 ∧ (putS digOf d L b).2.1.dead = false := by
  rcases put_plain hf hd L b with h | ⟨d', L', h, p1, p2, -⟩
  · rw [h]; exact ⟨hf, hd⟩
  · rw [h]; exact ⟨p1, p2⟩
def tId (r : Bool) : Nat := if r = true then 2180 else 1550

set_option maxRecDepth 100000 in
set_option maxHeartbeats 16000000 in
theorem goes_fn (nl nw : Bool) (l : List ByteArray) (ws : List Bool) (room : Int) (hl : l.length ≤ 9223372036854775807) (hr0 : 0 ≤ room) (hr : room < 65536) :
    Fc Tryd.prog 6 [.sl .imm nl 1 (idc l), .sl .imm nw 1 (blc ws), .lit (.int .u16 room)] [] (.lit (.bool true)) [] := by
  have hW := few_fn nl l hl
  by_cases hfew : fewS l = true
  · rw [hfew] at hW
    obtain ⟨l16, l60⟩ := fewS_iff hfew
    obtain ⟨n, hn⟩ : ∃ n, n = room % 1001 := ⟨_, rfl⟩
    have n0 : 0 ≤ n := by omega
    have n1 : n ≤ 1000 := by omega
    have w1 : IntKind.i64.wrap (room.tmod 1001) = n := by rw [Int.tmod_eq_emod_of_nonneg hr0, wrap64 (by omega) (by omega), hn]
    have hE := empty_fn n n0 (by omega)
    have hd0 := D0_ok n0 (n := n) (by omega)
    have hS := sopen_ok (D0 n) hd0 (by simp [D0]) rfl (by simp [D0]) [] 0 (open_nil _ rfl)
    have hin0 := inv0 n0 (n := n) (by omega)
    simp only [D0] at hE hd0 hS hin0
    simp only [List.take_zero] at hS
    refine Fc.of (anys _ [15, 16, 17, 18, 20, 27, 26, 30, 31]) [] mixed Tryd.func6 rfl (by rfl) (by simp [Tryd.ntmps6]) (by decide) ?_
    simp -implicitDefEqProofs -dsimp [Tryd.ntmps6]
    refine CallK.reads ?_
    simp -implicitDefEqProofs -dsimp
    refine CallQ.same (awake_fn) rfl ?_
    simp -implicitDefEqProofs -dsimp
    refine CallK.reads ?_
    simp -implicitDefEqProofs -dsimp
    refine CallQ.same (hW) rfl ?_
    simp -implicitDefEqProofs -dsimp [w1]
    refine CallK.works ?_
    simp -implicitDefEqProofs -dsimp
    refine CallQ.mk (hE) (by simp) ?_
    simp -implicitDefEqProofs -dsimp [w1]
    refine CallK.works ?_
    simp -implicitDefEqProofs -dsimp
    refine CallQ.mk (hE) (by simp) ?_
    simp -implicitDefEqProofs -dsimp
    refine CallK.works ?_
    simp -implicitDefEqProofs -dsimp
    refine CallQ.mk (hS) (by simp) ?_
    simp -implicitDefEqProofs -dsimp
    refine CallK.works ?_
    simp -implicitDefEqProofs -dsimp
    refine CallQ.mk (hS) (by simp) ?_
    simp -implicitDefEqProofs -dsimp
    refine LpK.mk (anys _ [15, 16, 17, 18, 20, 27, 26, 30, 31]) mixed (fun ((i, d, L, r) : Nat × DS × List Objt × Bool) => i ≤ l.length ∧ Inv digOf d L ∧ d.fuse = -1 ∧ d.dead = false ∧ d.room = n ∧ L.length ≤ i)
      (fun ((i, d, L, r) : Nat × DS × List Objt × Bool) => ⟨[(0, .sl .imm nl 1 (idc l)), (1, .sl .imm nw 1 (blc ws)), (6, .lit (.bool false)), (7, .lit (.bool true)), (9, .ptr 1320 0), (11, .ptr 1390 0), (13, .ptr 1500 0), (15, .ptr (tId r) 0), (17, .lit (.int .i64 i))],
        [(1320, .cells (d.cells (.own (.cell 1320 0)))), (1390, .cells (d.cells (.own (.cell 1390 0)))), (1500, .cells [.ptr 1320 0, .sl (.own (.cell 1500 1)) L.isEmpty 1 (idc (ids L)), .mp 1501]), (1501, .map (objE L)),
          (tId r, .cells [.ptr 1390 0, .sl (.own (.cell (tId r) 1)) L.isEmpty 1 (idc (ids L)), .mp (tId r + 1)]), (tId r + 1, .map (objE L))], 142⟩)
      (fun (i, _) => l.length - i) (0, ⟨true, [], n, -1, false⟩, [], false) ⟨by omega, hin0, rfl, rfl, rfl, by simp⟩ (by simp -implicitDefEqProofs -dsimp [ids, tId]) ?_
    rintro ⟨i, d, L, r⟩ ⟨hi, hin, hfu, hde, hro, hLi⟩
    by_cases hlt : i < l.length
    · obtain ⟨s, hs⟩ : ∃ s, l[i] = s := ⟨_, rfl⟩
      have hs' : l[i]? = some s := by rw [List.getElem?_eq_getElem hlt, hs]
      have hs60 := l60 s (hs ▸ List.getElem_mem hlt)
      have hw : IntKind.i64.wrap ((i : Int) + 1) = (i : Int) + 1 := wrap64 (by omega) (by omega)
      have hbl : (bs s).length ≤ 60 := by rw [bs_length]; omega
      have hP := put_fn d hin.ok L (bs s) (by omega) (by omega)
      have hin2 := put_inv digOf dig4 hin (inB_bs s) (by omega)
      have hr2 := put_room d L (bs s)
      have hpl := put_len d L (bs s)
      obtain ⟨hk1, hk2⟩ := put_keeps hfu hde L (bs s)
      have hsz : s.size ≤ 140737488355328 := by omega
      obtain ⟨⟨⟨a, g⟩, d', L'⟩, hpq⟩ : ∃ q, q = putS digOf d L (bs s) := ⟨_, rfl⟩
      rw [← hpq] at hP hin2 hr2 hpl hk1 hk2
      simp only at hr2 hpl hk1 hk2 hin2
      have hlen' : d'.b.length ≤ 1000 := by have := hin2.ok.len; omega
      have hbb : InB d'.b := by
        obtain ⟨p, hp, hpb, -⟩ := hin2.tail
        rw [hp]; exact inBA (inB_recs digOf hin2.kept.bytes) hpb
      obtain ⟨o1, o2⟩ := open_inv digOf dig4 hin2 (n := d'.b.length) (Nat.le_refl _)
      have o3 : d'.b = recs digOf L' := by
        obtain ⟨p, hp, -, -, hpd⟩ := hin2.tail
        rw [hp, hpd hk2, List.append_nil]
      have hT := sopen_ok d' hin2.ok hbb hk2 (by omega) L' (recs digOf L').length o1
      have e4 : ({ d' with b := d'.b.take (recs digOf L').length } : DS) = d' := by rw [o2, ← o3]
      rw [e4] at hT
      have hro' : d'.room = n := hr2.trans hro
      have hLi' : L'.length ≤ i + 1 := by omega
      cases r with
      | true =>
        by_cases hlw : i < ws.length
        · obtain ⟨w, hww⟩ : ∃ w, ws[i] = w := ⟨_, rfl⟩
          have hww' : ws[i]? = some w := by rw [List.getElem?_eq_getElem hlw, hww]
          cases w with
          | true =>
            simp -implicitDefEqProofs -dsimp [tId, hlt, hs, hs', hsz]
            refine CallK.works ?_
            simp -implicitDefEqProofs -dsimp
            refine CallQ.mk (hP) (by simp) ?_
            simp -implicitDefEqProofs -dsimp [hs, hs', hlt, hsz, hw]
            refine CallK.works ?_
            simp -implicitDefEqProofs -dsimp
            refine CallQ.mk (hP) (by simp) ?_
            simp -implicitDefEqProofs -dsimp [hw, hlw, hww, hww']
            refine CallK.works ?_
            simp -implicitDefEqProofs -dsimp
            refine CallQ.mk (hT) (by simp) ?_
            simp -implicitDefEqProofs -dsimp [hw]
            exact .mk (i + 1, d', L', true) ⟨hlt, hin2, hk1, hk2, hro', hLi'⟩ (by simp; omega) (by simp -implicitDefEqProofs -dsimp [tId])
          | false =>
            simp -implicitDefEqProofs -dsimp [tId, hlt, hs, hs', hsz]
            refine CallK.works ?_
            simp -implicitDefEqProofs -dsimp
            refine CallQ.mk (hP) (by simp) ?_
            simp -implicitDefEqProofs -dsimp [hs, hs', hlt, hsz, hw]
            refine CallK.works ?_
            simp -implicitDefEqProofs -dsimp
            refine CallQ.mk (hP) (by simp) ?_
            simp -implicitDefEqProofs -dsimp [hw, hlw, hww, hww']
            exact .mk (i + 1, d', L', true) ⟨hlt, hin2, hk1, hk2, hro', hLi'⟩ (by simp; omega) (by simp -implicitDefEqProofs -dsimp [tId])
        · simp -implicitDefEqProofs -dsimp [tId, hlt, hs, hs', hsz]
          refine CallK.works ?_
          simp -implicitDefEqProofs -dsimp
          refine CallQ.mk (hP) (by simp) ?_
          simp -implicitDefEqProofs -dsimp [hs, hs', hlt, hsz, hw]
          refine CallK.works ?_
          simp -implicitDefEqProofs -dsimp
          refine CallQ.mk (hP) (by simp) ?_
          simp -implicitDefEqProofs -dsimp [hw, hlw]
          exact .mk (i + 1, d', L', true) ⟨hlt, hin2, hk1, hk2, hro', hLi'⟩ (by simp; omega) (by simp -implicitDefEqProofs -dsimp [tId])
      | false =>
        by_cases hlw : i < ws.length
        · obtain ⟨w, hww⟩ : ∃ w, ws[i] = w := ⟨_, rfl⟩
          have hww' : ws[i]? = some w := by rw [List.getElem?_eq_getElem hlw, hww]
          cases w with
          | true =>
            simp -implicitDefEqProofs -dsimp [tId, hlt, hs, hs', hsz]
            refine CallK.works ?_
            simp -implicitDefEqProofs -dsimp
            refine CallQ.mk (hP) (by simp) ?_
            simp -implicitDefEqProofs -dsimp [hs, hs', hlt, hsz, hw]
            refine CallK.works ?_
            simp -implicitDefEqProofs -dsimp
            refine CallQ.mk (hP) (by simp) ?_
            simp -implicitDefEqProofs -dsimp [hw, hlw, hww, hww']
            refine CallK.works ?_
            simp -implicitDefEqProofs -dsimp
            refine CallQ.mk (hT) (by simp) ?_
            simp -implicitDefEqProofs -dsimp [hw]
            exact .mk (i + 1, d', L', true) ⟨hlt, hin2, hk1, hk2, hro', hLi'⟩ (by simp; omega) (by simp -implicitDefEqProofs -dsimp [tId])
          | false =>
            simp -implicitDefEqProofs -dsimp [tId, hlt, hs, hs', hsz]
            refine CallK.works ?_
            simp -implicitDefEqProofs -dsimp
            refine CallQ.mk (hP) (by simp) ?_
            simp -implicitDefEqProofs -dsimp [hs, hs', hlt, hsz, hw]
            refine CallK.works ?_
            simp -implicitDefEqProofs -dsimp
            refine CallQ.mk (hP) (by simp) ?_
            simp -implicitDefEqProofs -dsimp [hw, hlw, hww, hww']
            exact .mk (i + 1, d', L', false) ⟨hlt, hin2, hk1, hk2, hro', hLi'⟩ (by simp; omega) (by simp -implicitDefEqProofs -dsimp [tId])
        · simp -implicitDefEqProofs -dsimp [tId, hlt, hs, hs', hsz]
          refine CallK.works ?_
          simp -implicitDefEqProofs -dsimp
          refine CallQ.mk (hP) (by simp) ?_
          simp -implicitDefEqProofs -dsimp [hs, hs', hlt, hsz, hw]
          refine CallK.works ?_
          simp -implicitDefEqProofs -dsimp
          refine CallQ.mk (hP) (by simp) ?_
          simp -implicitDefEqProofs -dsimp [hw, hlw]
          exact .mk (i + 1, d', L', false) ⟨hlt, hin2, hk1, hk2, hro', hLi'⟩ (by simp; omega) (by simp -implicitDefEqProofs -dsimp [tId])
    · have ein : i = l.length := by omega
      subst ein
      have hrow : d.b.length < 9223372036854775807 := by have := hin.ok.len; omega
      have hI := isame_fn L.isEmpty L.isEmpty (ids L) (ids L) (by simp; omega)
      have hLl : L.length ≤ 1000000 := by omega
      cases r with
      | true =>
        simp -implicitDefEqProofs -dsimp [tId, hlt]
        refine CallK.fresh ?_
        simp -implicitDefEqProofs -dsimp
        refine CallQ.same (bytes_fn d hin.ok) rfl ?_
        simp -implicitDefEqProofs -dsimp [fr_u8s]
        refine CallK.fresh ?_
        simp -implicitDefEqProofs -dsimp
        refine CallQ.same (bytes_fn d hin.ok) rfl ?_
        simp -implicitDefEqProofs -dsimp [fr_u8s]
        refine CallK.reads ?_
        simp -implicitDefEqProofs -dsimp
        refine CallQ.same (same_fn d.nl d.nl d.b d.b hrow) rfl ?_
        simp -implicitDefEqProofs -dsimp
        refine CallK.works ?_
        simp -implicitDefEqProofs -dsimp
        refine CallQ.mk (sidsI_fn d L hLl) (by simp) ?_
        simp -implicitDefEqProofs -dsimp
        refine CallK.works ?_
        simp -implicitDefEqProofs -dsimp
        refine CallQ.mk (sidsI_fn d L hLl) (by simp) ?_
        simp -implicitDefEqProofs -dsimp
        refine CallK.reads ?_
        simp -implicitDefEqProofs -dsimp
        refine CallQ.same (hI) rfl ?_
        simp -implicitDefEqProofs -dsimp
      | false =>
        simp -implicitDefEqProofs -dsimp [tId, hlt]
        refine CallK.fresh ?_
        simp -implicitDefEqProofs -dsimp
        refine CallQ.same (bytes_fn d hin.ok) rfl ?_
        simp -implicitDefEqProofs -dsimp [fr_u8s]
        refine CallK.fresh ?_
        simp -implicitDefEqProofs -dsimp
        refine CallQ.same (bytes_fn d hin.ok) rfl ?_
        simp -implicitDefEqProofs -dsimp [fr_u8s]
        refine CallK.reads ?_
        simp -implicitDefEqProofs -dsimp
        refine CallQ.same (same_fn d.nl d.nl d.b d.b hrow) rfl ?_
        simp -implicitDefEqProofs -dsimp
        refine CallK.works ?_
        simp -implicitDefEqProofs -dsimp
        refine CallQ.mk (sidsI_fn d L hLl) (by simp) ?_
        simp -implicitDefEqProofs -dsimp
        refine CallK.works ?_
        simp -implicitDefEqProofs -dsimp
        refine CallQ.mk (sidsI_fn d L hLl) (by simp) ?_
        simp -implicitDefEqProofs -dsimp
        refine CallK.reads ?_
        simp -implicitDefEqProofs -dsimp
        refine CallQ.same (hI) rfl ?_
        simp -implicitDefEqProofs -dsimp
  · have hfew : fewS l = false := by simpa using hfew
    rw [hfew] at hW
    refine Fc.of (anys _ [15, 16, 17, 18, 20, 27, 26, 30, 31]) [] mixed Tryd.func6 rfl (by rfl) (by simp [Tryd.ntmps6]) (by decide) ?_
    simp -implicitDefEqProofs -dsimp [Tryd.ntmps6]
    refine CallK.reads ?_
    simp -implicitDefEqProofs -dsimp
    refine CallQ.same (awake_fn) rfl ?_
    simp -implicitDefEqProofs -dsimp
    refine CallK.reads ?_
    simp -implicitDefEqProofs -dsimp
    refine CallQ.same (hW) rfl ?_
    simp -implicitDefEqProofs -dsimp
end Go.Proofs.YtekokchejkjjjaaDoor

/-! The law StoreGoesOn. -/
namespace Go.Proofs.YtekokchejkjjjaaDoor
open Go.Sy
theorem goes_law (xs : List PV) (h : ShpAll Tryd.prog 6 Tryd.f6.params.toList xs) : Fc Tryd.prog 6 xs [] (.lit (.bool true)) [] := by
  obtain ⟨x, y, z, rfl, hx, hy, hz⟩ := shp_args3 h
  obtain ⟨nl, l, rfl, h1⟩ := arg_ids Tryd.underlying22 Tryd.underlying9 (by kernel_rfl) hx
  obtain ⟨nw, ys, rfl, -, -, h3⟩ := arg_rows (e := 4) Tryd.underlying57 hy
  obtain ⟨ws, rfl, -⟩ := list_choose (p := fun _ : Bool => True) (f := fun n => PV.lit (.bool n)) (xs := ys) fun q hq => by
    obtain ⟨n, h6⟩ := arg_bool Tryd.underlying4 (h3 q hq)
    exact ⟨n, trivial, h6⟩
  obtain ⟨a, rfl, ha⟩ := arg_int (k := .u16) Tryd.underlying23 hz
  obtain ⟨a0, a1⟩ := wf_u16 ha
  have hc : Tryd.prog.cellsOf 4 = 1 := by kernel_rfl
  rw [hc]
  exact goes_fn nl nw l ws a h1 a0 a1
end Go.Proofs.YtekokchejkjjjaaDoor
