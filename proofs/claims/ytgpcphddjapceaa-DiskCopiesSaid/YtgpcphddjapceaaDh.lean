/- What was written stays, and a front of what is being written. -/
import Derived.Test.YtgpcphddjapceaaDg
namespace Go.Proofs.Ytgpcphddjapceaa
open Go.Sy

theorem tear {s : DS} {F : Int} (hd : s.dead = false) (hf : s.fuse = F) (h0 : 0 ≤ F) (ys : List Int) :
    ∃ k : Nat, k ≤ ys.length ∧ (s.append ys).2.b = s.b ++ ys.take k ∧ (s.append ys).2.room = s.room ∧
      (((s.append ys).1 = 0 ∧ k = ys.length ∧ (s.append ys).2.dead = false ∧ (ys.length : Int) ≤ F) ∨ ((s.append ys).1 = 8 ∧ k = 0 ∧ s.left < ys.length) ∨ ((s.append ys).1 = 9 ∧ (s.append ys).2.dead = true ∧ (k : Int) = F ∧ F < ys.length)) := by
  unfold DS.append DS.app
  simp only [hd, Bool.false_eq_true, if_false, hf]
  have hn : ¬ F = -1 := by omega
  split
  · exact ⟨0, by omega, by simp, rfl, .inr (.inl ⟨rfl, rfl, by assumption⟩)⟩
  · split
    · exact ⟨F.toNat, by omega, rfl, rfl, .inr (.inr ⟨rfl, rfl, by omega, by assumption⟩)⟩
    · exact ⟨ys.length, by omega, by simp, rfl, .inl ⟨rfl, rfl, rfl, by omega⟩⟩

set_option maxRecDepth 100000 in
set_option maxHeartbeats 4000000 in
theorem tears_fn (room : Int) (nl nb : Bool) (l : List OpS) (b : List Int) (fuse : Int) (hl : l.length ≤ 9223372036854775807) (hb : b.length ≤ 9223372036854775807) (hr0 : 0 ≤ room) (hr : room < 65536) (hf0 : 0 ≤ fuse) (hf : fuse < 256)
    (ho : ∀ o, o ∈ l → 0 ≤ o.kind ∧ o.kind < 256 ∧ -9223372036854775808 ≤ o.n ∧ o.n < 9223372036854775808) :
    Fc Try.prog 5 [.lit (.int .u16 room), .sl .imm nl 3 (l.map OpS.pv), .sl .imm nb 1 (u8s b), .lit (.int .u8 fuse)] [] (.lit (.bool true)) [] := by
  have hn1 : IntKind.i64.wrap (room.tmod 1001) = room % 1001 := wrap_u16 hr0 hr (by omega)
  have hn3 := Int.emod_nonneg room (b := 1001) (by omega)
  have hn4 := Int.emod_lt_of_pos room (b := 1001) (by omega)
  obtain ⟨n, hn⟩ : ∃ n, n = room % 1001 := ⟨_, rfl⟩
  rw [← hn] at hn1 hn3 hn4
  have hfw : IntKind.i64.wrap fuse = fuse := wrap64 (by omega) (by omega)
  have hfm : max (-1) fuse = fuse := by omega
  refine Fc.of (anys _ [15, 21, 16, 22, 26, 19, 27, 17, 18, 24, 25]) sch5 mixed Try.func5 rfl (by rfl) (by simp [Try.ntmps5]) (by decide) ?_
  simp -implicitDefEqProofs -dsimp [Try.ntmps5]
  refine CallK.reads ?_
  simp -implicitDefEqProofs -dsimp
  refine CallQ.same (awake_fn) rfl ?_
  simp -implicitDefEqProofs -dsimp
  refine CallK.reads ?_
  simp -implicitDefEqProofs -dsimp
  refine CallQ.same (few_fn nl l hl) rfl ?_
  simp -implicitDefEqProofs -dsimp [hn1]
  refine CallK.works ?_
  simp -implicitDefEqProofs -dsimp
  refine CallQ.mk (new_fn n hn3 (by omega)) (by simp) ?_
  simp -implicitDefEqProofs -dsimp
  rw [show (⟨true, [], n, -1, false⟩ : DS) = D0 n from rfl]
  by_cases hfew : fewOps l = true
  · by_cases h40 : 40 < (b.length : Int)
    · simp -implicitDefEqProofs -dsimp [hfew, h40]
    · simp -implicitDefEqProofs -dsimp [hfew, h40]
      refine LpK.mk (anys _ [22]) mixed (fun (i, d) => i ≤ l.length ∧ d.Ok ∧ d.room = n)
        (fun ((i, d) : Nat × DS) => ⟨[(1, .sl .imm nl 3 (l.map OpS.pv)), (2, .sl .imm nb 1 (u8s b)), (3, .lit (.int .u8 fuse)), (9, .lit (.bool true)), (11, .ptr 1250 0), (13, .lit (.int .i64 i))],
          [(1250, .cells (d.cells (.own (.cell 1250 0))))], 157⟩) (fun (i, _) => l.length - i) (0, D0 n)
        ⟨by simp, D0_ok hn3 (by omega), rfl⟩ (by simp -implicitDefEqProofs -dsimp) ?_
      rintro ⟨i, d⟩ ⟨hi, hd, hroom⟩
      by_cases hlt : i < l.length
      · have hw : IntKind.i64.wrap ((i : Int) + 1) = ((i + 1 : Nat) : Int) := wrap64 (by omega) (by omega)
        have hon := ho _ (List.getElem_mem hlt)
        simp -implicitDefEqProofs -dsimp [hlt, OpS.pv, OpS.row]
        refine CallK.works ?_
        simp -implicitDefEqProofs -dsimp
        refine CallQ.same (do_fn d hd l[i]) rfl ?_
        simp -implicitDefEqProofs -dsimp [hw]
        have d2 := DS.doOp_ok hd hon.2.2.2
        have d3 := DS.doOp_room d l[i]
        rw [hroom] at d3
        exact .mk (i + 1, (d.doOp l[i]).2) ⟨by omega, d2, d3⟩ (by simp; omega) (by simp -implicitDefEqProofs -dsimp)
      · have hi : i = l.length := by omega
        subst hi
        obtain ⟨h1, h2, h3, h4, h5, h6⟩ := id hd
        obtain ⟨s1, hs1⟩ : ∃ s1 : DS, s1 = { d with dead := false, fuse := -1 } := ⟨_, rfl⟩
        have o1 : s1.Ok := by subst hs1; exact ⟨h1, h2, h3, by simp, by simp, h6⟩
        have r1 : s1.room = n := by subst hs1; exact hroom
        obtain ⟨s2, hs2⟩ : ∃ s2 : DS, s2 = { s1 with fuse := fuse } := ⟨_, rfl⟩
        have o2 : s2.Ok := by subst hs2; exact ⟨o1.room0, o1.room, o1.len, by simp; omega, by simp; omega, o1.nil⟩
        have e2 : s2.b = s1.b := by rw [hs2]
        have r2 : s2.room = n := by rw [hs2]; exact r1
        obtain ⟨k, hk, k1, k2, k3⟩ := tear (s := s2) (F := fuse) (by rw [hs2, hs1]) (by rw [hs2]) hf0 b
        have o3 := DS.append_ok o2 b
        rw [e2] at k1
        rw [r2] at k2
        simp -implicitDefEqProofs -dsimp
        refine CallK.works ?_
        simp -implicitDefEqProofs -dsimp
        refine CallQ.same (start_fn d) rfl ?_
        simp -implicitDefEqProofs -dsimp
        rw [← hs1]
        refine CallK.fresh ?_
        simp -implicitDefEqProofs -dsimp
        refine CallQ.same (bytes_fn s1 o1) rfl ?_
        simp -implicitDefEqProofs -dsimp [fr_u8s, hfw]
        refine CallK.works ?_
        simp -implicitDefEqProofs -dsimp
        refine CallQ.same (fuse_fn s1 fuse) rfl ?_
        simp -implicitDefEqProofs -dsimp [hfm]
        rw [← hs2]
        refine CallK.works ?_
        simp -implicitDefEqProofs -dsimp
        refine CallQ.same (append_fn s2 o2 nb b) rfl ?_
        simp -implicitDefEqProofs -dsimp
        generalize (s2.append b).2 = s3 at *
        generalize (s2.append b).1 = f at *
        have q1 := o3.len
        have q2 := o3.room
        have q3 := o1.len
        have q4 := o1.room
        have k4 : s3.b.length = s1.b.length + k := by rw [k1]; simp; omega
        have k5 : s3.b.take s1.b.length = s1.b := by rw [k1]; simp
        have k6 : s3.b.drop s1.b.length = b.take k := by rw [k1]; simp
        have hwk : IntKind.i64.wrap ((s1.b.length : Int) + (k : Int) - (s1.b.length : Int)) = k := by rw [wrap64 (by omega) (by omega)]; omega
        have c1 : ¬ (k : Int) < 0 := by omega
        have c2 : ¬ (b.length : Int) < (k : Int) := by omega
        have c3 : (k : Int) ≤ b.length := by omega
        have c4 : (b.take k).length = k := by simp; omega
        have c5 : (s1.b.length : Int) ≤ (s1.b.length : Int) + (k : Int) := by omega
        have c6 : (b.take k).length < 9223372036854775807 := by omega
        have c7 : s1.b.length < 9223372036854775807 := by omega
        have k7 : s3.b.take ((s1.b.length : Int) + (k : Int)).toNat = s3.b := List.take_of_length_le (by omega)
        clear k1
        refine CallK.fresh ?_
        simp -implicitDefEqProofs -dsimp
        refine CallQ.same (bytes_fn s3 o3) rfl ?_
        simp -implicitDefEqProofs -dsimp [fr_u8s, k4, hwk, c1, c2, k5, c5]
        refine CallK.reads ?_
        simp -implicitDefEqProofs -dsimp
        refine CallQ.same (same_fn _ _ s1.b s1.b c7) rfl ?_
        simp -implicitDefEqProofs -dsimp [k4, k6, c3, c5, k7]
        refine CallK.reads ?_
        simp -implicitDefEqProofs -dsimp
        refine CallQ.same (same_fn _ _ (b.take k) (b.take k) c6) rfl ?_
        simp -implicitDefEqProofs -dsimp
        rcases k3 with ⟨f1, f2, f3, f4⟩ | ⟨f1, f2, f3⟩ | ⟨f1, f2, f3, f4⟩
        · simp -implicitDefEqProofs -dsimp [f1, f2]
          refine CallK.reads ?_
          simp -implicitDefEqProofs -dsimp
          refine CallQ.same (dead_fn s3) rfl ?_
          simp -implicitDefEqProofs -dsimp [f3, hfw, f4]
        · have c10 : s3.left < b.length := by
            unfold DS.left at f3 ⊢
            rw [r2, e2] at f3
            rw [k2, k4]
            omega
          simp -implicitDefEqProofs -dsimp [f1, f2]
          refine CallK.reads ?_
          simp -implicitDefEqProofs -dsimp
          refine CallQ.same (left_fn s3 o3) rfl ?_
          simp -implicitDefEqProofs -dsimp [c10]
        · have c8 : (k : Int) < b.length := by omega
          simp -implicitDefEqProofs -dsimp [f1]
          refine CallK.reads ?_
          simp -implicitDefEqProofs -dsimp
          refine CallQ.same (dead_fn s3) rfl ?_
          simp -implicitDefEqProofs -dsimp [f2, hfw, f3, c8, f4]
  · simp -implicitDefEqProofs -dsimp [hfew]
end Go.Proofs.Ytgpcphddjapceaa
