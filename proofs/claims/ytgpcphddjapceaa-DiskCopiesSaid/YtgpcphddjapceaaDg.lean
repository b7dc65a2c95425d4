/- What is there, and what is left, are the room. -/
import Derived.Test.YtgpcphddjapceaaDf
namespace Go.Proofs.Ytgpcphddjapceaa
open Go.Sy

theorem wrap_u16 {x m : Int} (h0 : 0 ≤ x) (h : x < 65536) (hm : 0 < m) : IntKind.i64.wrap (x.tmod m) = x % m := by
  rw [Int.tmod_eq_emod_of_nonneg h0]
  have h1 := Int.emod_nonneg x (b := m) (by omega)
  have h2 := Int.emod_lt_of_pos x hm
  have h3 : x % m ≤ x := by
    have := Int.mul_ediv_add_emod x m
    have := Int.ediv_nonneg h0 (by omega : 0 ≤ m)
    have := Int.mul_nonneg (by omega : 0 ≤ m) this
    omega
  exact wrap64 (by omega) (by omega)

theorem DS.app_dead (s : DS) (h : s.dead = false) (ys : List Int) : decide ((s.append ys).1 = 9) = (s.append ys).2.dead := by
  unfold DS.append DS.app
  rw [h]
  simp only [Bool.false_eq_true, if_false]
  split
  · simp [h]
  · split
    · simp
    · split <;> simp
theorem DS.append_dead (s : DS) (ys : List Int) : decide ((s.append ys).1 = 9) = (s.append ys).2.dead := by
  cases h : s.dead with
  | false => exact DS.app_dead s h ys
  | true => simp [DS.append, h]

theorem fewOps_iff {l : List OpS} (h : fewOps l = true) (i : Nat) (hi : i < l.length) : (l[i]'hi).b.length ≤ 40 := by
  have := (Bool.and_eq_true _ _).mp h
  simpa using (List.all_eq_true.1 this.1) _ (List.getElem_mem hi)

set_option maxRecDepth 100000 in
set_option maxHeartbeats 4000000 in
theorem room_fn (room : Int) (nl : Bool) (l : List OpS) (hl : l.length ≤ 9223372036854775807) (hr0 : 0 ≤ room) (hr : room < 65536)
    (ho : ∀ o, o ∈ l → 0 ≤ o.kind ∧ o.kind < 256 ∧ -9223372036854775808 ≤ o.n ∧ o.n < 9223372036854775808) :
    Fc Try.prog 6 [.lit (.int .u16 room), .sl .imm nl 3 (l.map OpS.pv)] [] (.lit (.bool true)) [] := by
  have hn1 : IntKind.i64.wrap (room.tmod 1001) = room % 1001 := wrap_u16 hr0 hr (by omega)
  have hn3 := Int.emod_nonneg room (b := 1001) (by omega)
  have hn4 := Int.emod_lt_of_pos room (b := 1001) (by omega)
  obtain ⟨n, hn⟩ : ∃ n, n = room % 1001 := ⟨_, rfl⟩
  rw [← hn] at hn1 hn3 hn4
  refine Fc.of (anys _ [15, 21, 16, 22, 23, 24, 20, 25, 19, 18]) [] mixed Try.func6 rfl (by rfl) (by simp [Try.ntmps6]) (by decide) ?_
  simp -implicitDefEqProofs -dsimp [Try.ntmps6]
  refine CallK.reads ?_
  simp -implicitDefEqProofs -dsimp
  refine CallQ.same (awake_fn) rfl ?_
  simp -implicitDefEqProofs -dsimp
  refine CallK.reads ?_
  simp -implicitDefEqProofs -dsimp
  refine CallQ.same (few_fn nl l hl) rfl ?_
  simp -implicitDefEqProofs -dsimp [hn1]
  refine CallK.works ?_
  simp -implicitDefEqProofs -dsimp
  refine CallQ.mk (new_fn n hn3 (by omega)) (by simp) ?_
  simp -implicitDefEqProofs -dsimp
  rw [show (⟨true, [], n, -1, false⟩ : DS) = D0 n from rfl]
  by_cases hfew : fewOps l = true
  · simp -implicitDefEqProofs -dsimp [hfew]
    refine LpK.mk (anys _ [22, 24, 20, 25, 19]) mixed (fun (i, d) => i ≤ l.length ∧ d.Ok ∧ d.room = n)
      (fun ((i, d) : Nat × DS) => ⟨[(1, .sl .imm nl 3 (l.map OpS.pv)), (5, .lit (.bool true)), (7, .lit (.int .i64 n)), (8, .ptr 1200 0), (10, .lit (.int .i64 i))],
        [(1200, .cells (d.cells (.own (.cell 1200 0))))], 85⟩) (fun (i, _) => l.length - i) (0, D0 n)
      ⟨by simp, D0_ok hn3 (by omega), rfl⟩ (by simp -implicitDefEqProofs -dsimp) ?_
    rintro ⟨i, d⟩ ⟨hi, hd, hroom⟩
    by_cases hlt : i < l.length
    · have hw : IntKind.i64.wrap ((i : Int) + 1) = ((i + 1 : Nat) : Int) := wrap64 (by omega) (by omega)
      have hon := ho _ (List.getElem_mem hlt)
      simp -implicitDefEqProofs -dsimp [hlt, OpS.pv, OpS.row]
      refine CallK.works ?_
      simp -implicitDefEqProofs -dsimp
      refine CallQ.same (do_fn d hd l[i]) rfl ?_
      simp -implicitDefEqProofs -dsimp [hlt, OpS.pv, OpS.row]
      have d2 := DS.doOp_ok hd hon.2.2.2
      have d3 := DS.doOp_room d l[i]
      rw [hroom] at d3
      have d4 : l[i].kind = 0 → decide ((d.doOp l[i]).1 = 9) = (d.doOp l[i]).2.dead := fun h0 => by
        simp only [DS.doOp, h0, if_true]; exact DS.append_dead d _
      generalize (d.doOp l[i]).2 = d' at *
      generalize (d.doOp l[i]).1 = f at *
      have q1 := d2.len
      have q2 := d2.room
      have hw2 : IntKind.i64.wrap ((d'.b.length : Int) + (n - d'.b.length)) = n := by rw [wrap64 (by omega) (by omega)]; omega
      have q3 : ¬ n - (d'.b.length : Int) < 0 := by omega
      have q4 : ¬ (d'.b.length : Int) < 0 := by omega
      refine CallK.reads ?_
      simp -implicitDefEqProofs -dsimp
      refine CallQ.same (size_fn d') rfl ?_
      simp -implicitDefEqProofs -dsimp
      refine CallK.reads ?_
      simp -implicitDefEqProofs -dsimp
      refine CallQ.same (left_fn d' d2) rfl ?_
      simp -implicitDefEqProofs -dsimp [DS.left, d3, hw2]
      refine CallK.reads ?_
      simp -implicitDefEqProofs -dsimp
      refine CallQ.same (size_fn d') rfl ?_
      simp -implicitDefEqProofs -dsimp [q4]
      refine CallK.reads ?_
      simp -implicitDefEqProofs -dsimp
      refine CallQ.same (left_fn d' d2) rfl ?_
      simp -implicitDefEqProofs -dsimp [DS.left, d3, hw2, q3]
      refine CallK.fresh ?_
      simp -implicitDefEqProofs -dsimp
      refine CallQ.same (bytes_fn d' d2) rfl ?_
      simp -implicitDefEqProofs -dsimp [fr_u8s]
      refine CallK.reads ?_
      simp -implicitDefEqProofs -dsimp
      refine CallQ.same (size_fn d') rfl ?_
      simp -implicitDefEqProofs -dsimp [hlt, OpS.pv, OpS.row]
      by_cases hk : l[i].kind = 0
      · have d5 := d4 hk
        simp -implicitDefEqProofs -dsimp [hk]
        refine CallK.reads ?_
        simp -implicitDefEqProofs -dsimp
        refine CallQ.same (dead_fn d') rfl ?_
        simp -implicitDefEqProofs -dsimp [d5, hw]
        exact .mk (i + 1, d') ⟨by omega, d2, d3⟩ (by simp; omega) (by simp -implicitDefEqProofs -dsimp)
      · simp -implicitDefEqProofs -dsimp [hk, hw]
        exact .mk (i + 1, d') ⟨by omega, d2, d3⟩ (by simp; omega) (by simp -implicitDefEqProofs -dsimp)
    · have hi : i = l.length := by omega
      subst hi
      simp -implicitDefEqProofs -dsimp
  · simp -implicitDefEqProofs -dsimp [hfew]
end Go.Proofs.Ytgpcphddjapceaa
