/- The disk's statement DiskCopies. -/
import Derived.Test.YtgpcphddjapceaaDf
import Derived.Test.YtgpcphddjapceaaDh
namespace Go.Proofs.Ytgpcphddjapceaa
open Go.Sy

set_option maxRecDepth 100000 in
set_option maxHeartbeats 8000000 in
theorem copies_fn (room : Int) (nl n2 : Bool) (l m : List OpS) (hl : l.length ≤ 9223372036854775807) (hm : m.length ≤ 9223372036854775807) (hr0 : 0 ≤ room) (hr : room < 65536)
    (ho : ∀ o, o ∈ l → 0 ≤ o.kind ∧ o.kind < 256 ∧ -9223372036854775808 ≤ o.n ∧ o.n < 9223372036854775808)
    (hp : ∀ o, o ∈ m → 0 ≤ o.kind ∧ o.kind < 256 ∧ -9223372036854775808 ≤ o.n ∧ o.n < 9223372036854775808) :
    Fc Try.prog 7 [.lit (.int .u16 room), .sl .imm nl 3 (l.map OpS.pv), .sl .imm n2 3 (m.map OpS.pv)] [] (.lit (.bool true)) [] := by
  have hn1 : IntKind.i64.wrap (room.tmod 1001) = room % 1001 := wrap_u16 hr0 hr (by omega)
  have hn3 := Int.emod_nonneg room (b := 1001) (by omega)
  have hn4 := Int.emod_lt_of_pos room (b := 1001) (by omega)
  obtain ⟨n, hn⟩ : ∃ n, n = room % 1001 := ⟨_, rfl⟩
  rw [← hn] at hn1 hn3 hn4
  refine Fc.of (anys _ [15, 21, 16, 22, 28, 19, 24, 18]) sch7 mixed Try.func7 rfl (by rfl) (by simp [Try.ntmps7]) (by decide) ?_
  simp -implicitDefEqProofs -dsimp [Try.ntmps7]
  refine CallK.reads ?_
  simp -implicitDefEqProofs -dsimp
  refine CallQ.same (awake_fn) rfl ?_
  simp -implicitDefEqProofs -dsimp
  refine CallK.reads ?_
  simp -implicitDefEqProofs -dsimp
  refine CallQ.same (few_fn nl l hl) rfl ?_
  simp -implicitDefEqProofs -dsimp
  refine CallK.reads ?_
  simp -implicitDefEqProofs -dsimp
  refine CallQ.same (few_fn n2 m hm) rfl ?_
  simp -implicitDefEqProofs -dsimp [hn1]
  refine CallK.works ?_
  simp -implicitDefEqProofs -dsimp
  refine CallQ.mk (new_fn n hn3 (by omega)) (by simp) ?_
  simp -implicitDefEqProofs -dsimp
  rw [show (⟨true, [], n, -1, false⟩ : DS) = D0 n from rfl]
  by_cases h1 : fewOps l = true
  · by_cases h2 : fewOps m = true
    · simp -implicitDefEqProofs -dsimp [h1, h2]
      refine LpK.mk (anys _ [15, 21, 16, 22, 28, 19, 24, 18]) mixed (fun (i, d) => i ≤ l.length ∧ d.Ok)
        (fun ((i, d) : Nat × DS) => ⟨[(0, .lit (.int .u16 room)), (1, .sl .imm nl 3 (l.map OpS.pv)), (2, .sl .imm n2 3 (m.map OpS.pv)), (7, .lit (.bool true)), (10, .ptr 1290 0), (12, .lit (.int .i64 i))],
          [(1290, .cells (d.cells (.own (.cell 1290 0))))], 133⟩) (fun (i, _) => l.length - i) (0, D0 n)
        ⟨by simp, D0_ok hn3 (by omega)⟩ (by simp -implicitDefEqProofs -dsimp) ?_
      rintro ⟨i, d⟩ ⟨hi, hd⟩
      by_cases hlt : i < l.length
      · have hw : IntKind.i64.wrap ((i : Int) + 1) = ((i + 1 : Nat) : Int) := wrap64 (by omega) (by omega)
        have hon := ho _ (List.getElem_mem hlt)
        simp -implicitDefEqProofs -dsimp [hlt, OpS.pv, OpS.row]
        refine CallK.works ?_
        simp -implicitDefEqProofs -dsimp
        refine CallQ.same (do_fn d hd l[i]) rfl ?_
        simp -implicitDefEqProofs -dsimp [hlt, OpS.pv, OpS.row, hw]
        refine .mk (i + 1, (d.doOp l[i]).2) ⟨by omega, DS.doOp_ok hd hon.2.2.2⟩ (by simp; omega) (by simp -implicitDefEqProofs -dsimp)
      · have hi : i = l.length := by omega
        subst hi
        simp -implicitDefEqProofs -dsimp
        have hdl : d.b.length < 9223372036854775807 := by have := hd.len; have := hd.room; omega
        refine CallK.works ?_
        simp -implicitDefEqProofs -dsimp
        refine CallQ.mk (copy_fn d hd) (by simp) ?_
        simp -implicitDefEqProofs -dsimp
        refine CallK.works ?_
        simp -implicitDefEqProofs -dsimp
        refine CallQ.mk (copy_fn d hd) (by simp) ?_
        simp -implicitDefEqProofs -dsimp
        refine CallK.fresh ?_
        simp -implicitDefEqProofs -dsimp
        refine CallQ.same (bytes_fn d hd) rfl ?_
        simp -implicitDefEqProofs -dsimp [fr_u8s]
        refine CallK.reads ?_
        simp -implicitDefEqProofs -dsimp
        refine CallQ.same (dead_fn d) rfl ?_
        simp -implicitDefEqProofs -dsimp
        refine LpK.mk (anys _ [15, 21, 16, 22, 28, 19, 24, 18]) mixed (fun (i, e) => i ≤ m.length ∧ e.Ok)
          (fun ((i, e) : Nat × DS) => ⟨[(0, .lit (.int .u16 room)), (1, .sl .imm nl 3 (l.map OpS.pv)), (2, .sl .imm n2 3 (m.map OpS.pv)), (7, .lit (.bool true)), (10, .ptr 1290 0), (13, .ptr 1580 0), (14, .ptr 1600 0),
              (15, .sl (.own (.loc 1620)) d.nl 1 (u8s d.b)), (16, .lit (.bool d.dead)), (17, .lit (.int .i64 i))],
            [(1600, .cells (e.cells (.own (.cell 1600 0)))), (1580, .cells (e.cells (.own (.cell 1580 0)))), (1290, .cells (d.cells (.own (.cell 1290 0))))], 133⟩) (fun (i, _) => m.length - i) (0, d)
          ⟨by simp, hd⟩ (by simp -implicitDefEqProofs -dsimp) ?_
        rintro ⟨i, e⟩ ⟨hi, he⟩
        by_cases hlt : i < m.length
        · have hw : IntKind.i64.wrap ((i : Int) + 1) = ((i + 1 : Nat) : Int) := wrap64 (by omega) (by omega)
          have hon := hp _ (List.getElem_mem hlt)
          simp -implicitDefEqProofs -dsimp [hlt, OpS.pv, OpS.row]
          refine CallK.works ?_
          simp -implicitDefEqProofs -dsimp
          refine CallQ.same (do_fn e he m[i]) rfl ?_
          simp -implicitDefEqProofs -dsimp [hlt, OpS.pv, OpS.row, hw]
          refine CallK.works ?_
          simp -implicitDefEqProofs -dsimp
          refine CallQ.same (do_fn e he m[i]) rfl ?_
          simp -implicitDefEqProofs -dsimp [hlt, OpS.pv, OpS.row, hw]
          refine .mk (i + 1, (e.doOp m[i]).2) ⟨by omega, DS.doOp_ok he hon.2.2.2⟩ (by simp; omega) (by simp -implicitDefEqProofs -dsimp)
        · have hi : i = m.length := by omega
          subst hi
          have hel : e.b.length < 9223372036854775807 := by have := he.len; have := he.room; omega
          simp -implicitDefEqProofs -dsimp
          refine CallK.fresh ?_
          simp -implicitDefEqProofs -dsimp
          refine CallQ.same (bytes_fn d hd) rfl ?_
          simp -implicitDefEqProofs -dsimp [fr_u8s]
          refine LpK.mk (anys _ [15, 21, 16, 22, 28, 19, 24, 18]) mixed (fun (i, z) => i ≤ z.length ∧ z.length = d.b.length)
            (fun ((i, z) : Nat × List Int) => ⟨[(0, .lit (.int .u16 room)), (1, .sl .imm nl 3 (l.map OpS.pv)), (2, .sl .imm n2 3 (m.map OpS.pv)), (7, .lit (.bool true)), (10, .ptr 1290 0), (13, .ptr 1580 0), (14, .ptr 1600 0),
                (15, .sl (.own (.loc 1620)) d.nl 1 (u8s d.b)), (16, .lit (.bool d.dead)), (18, .sl (.own (.loc 1910)) d.nl 1 (u8s z)), (19, .lit (.int .i64 i))],
              [(1600, .cells (e.cells (.own (.cell 1600 0)))), (1580, .cells (e.cells (.own (.cell 1580 0)))), (1290, .cells (d.cells (.own (.cell 1290 0))))], 133⟩) (fun (i, z) => z.length - i) (0, d.b)
            ⟨by simp, rfl⟩ (by simp -implicitDefEqProofs -dsimp) ?_
          rintro ⟨i, z⟩ ⟨hi, hz⟩
          by_cases hlt : i < z.length
          · have hw : IntKind.i64.wrap ((i : Int) + 1) = ((i + 1 : Nat) : Int) := wrap64 (by omega) (by omega)
            simp -implicitDefEqProofs -dsimp [hlt, hw]
            refine .mk (i + 1, z.set i (IntKind.u8.wrap (z[i] + 1))) ⟨by simp; omega, by simp [hz]⟩ (by simp; omega) (by simp -implicitDefEqProofs -dsimp [hlt, pokeL_ints])
          · have hi : i = z.length := by omega
            subst hi
            simp -implicitDefEqProofs -dsimp
            refine CallK.fresh ?_
            simp -implicitDefEqProofs -dsimp
            refine CallQ.same (bytes_fn d hd) rfl ?_
            simp -implicitDefEqProofs -dsimp [fr_u8s]
            refine CallK.reads ?_
            simp -implicitDefEqProofs -dsimp
            refine CallQ.same (same_fn _ _ d.b d.b hdl) rfl ?_
            simp -implicitDefEqProofs -dsimp
            refine CallK.reads ?_
            simp -implicitDefEqProofs -dsimp
            refine CallQ.same (dead_fn d) rfl ?_
            simp -implicitDefEqProofs -dsimp
            refine CallK.fresh ?_
            simp -implicitDefEqProofs -dsimp
            refine CallQ.same (bytes_fn e he) rfl ?_
            simp -implicitDefEqProofs -dsimp [fr_u8s]
            refine CallK.fresh ?_
            simp -implicitDefEqProofs -dsimp
            refine CallQ.same (bytes_fn e he) rfl ?_
            simp -implicitDefEqProofs -dsimp [fr_u8s]
            refine CallK.reads ?_
            simp -implicitDefEqProofs -dsimp
            refine CallQ.same (same_fn _ _ e.b e.b hel) rfl ?_
            simp -implicitDefEqProofs -dsimp
            refine CallK.reads ?_
            simp -implicitDefEqProofs -dsimp
            refine CallQ.same (dead_fn e) rfl ?_
            simp -implicitDefEqProofs -dsimp
            refine CallK.reads ?_
            simp -implicitDefEqProofs -dsimp
            refine CallQ.same (dead_fn e) rfl ?_
            simp -implicitDefEqProofs -dsimp
    · simp -implicitDefEqProofs -dsimp [h1, h2]
  · simp -implicitDefEqProofs -dsimp [h1]
end Go.Proofs.Ytgpcphddjapceaa
