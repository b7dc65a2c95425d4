/- The disk and the document's, side by side. -/
import Derived.Test.YtgpcphddjapceaaDe
namespace Go.Proofs.Ytgpcphddjapceaa
open Go.Sy

theorem DS.doOp_ok {s : DS} (h : s.Ok) {o : OpS} (hn : o.n < 9223372036854775808) : (s.doOp o).2.Ok := by
  obtain ⟨h1, h2, h3, h4, h5, h6⟩ := id h
  unfold DS.doOp
  split
  · exact DS.append_ok h _
  · split
    · unfold DS.cut DS.cut1
      split
      · exact h
      · split
        · exact h
        · exact ⟨h1, h2, by simp; omega, h4, h5, fun e => by simp [h6 e]⟩
    · split
      · exact ⟨h1, h2, h3, by simp; omega, by simp; omega, h6⟩
      · split
        · exact ⟨h1, h2, h3, by simp, by simp, h6⟩
        · exact h
theorem RS.append_ok {s : RS} (h : s.Ok) (ys : List Int) : (s.append ys).2.Ok := by
  obtain ⟨h1, h2, h3, h4, h5⟩ := id h
  unfold RS.append RS.app
  split
  · exact h
  · split
    · exact h
    · split
      · exact ⟨h1, h2, by simp; omega, by simp, by simp⟩
      · exact ⟨h1, h2, by simp; omega, by simp; split <;> simp_all <;> omega, by simp; split <;> omega⟩
theorem RS.doOp_ok {s : RS} (h : s.Ok) {o : OpS} (hn : o.n < 9223372036854775808) : (s.doOp o).2.Ok := by
  obtain ⟨h1, h2, h3, h4, h5⟩ := id h
  unfold RS.doOp
  split
  · exact RS.append_ok h _
  · split
    · unfold RS.cut
      split
      · exact h
      · split
        · exact h
        · exact ⟨h1, h2, by simp; omega, h4, h5⟩
    · split
      · exact ⟨h1, h2, h3, by simp; omega, by simp; omega⟩
      · split
        · exact ⟨h1, h2, h3, h4, h5⟩
        · exact h
theorem DS.doOp_room (s : DS) (o : OpS) : (s.doOp o).2.room = s.room := by
  unfold DS.doOp DS.append DS.app DS.cut DS.cut1
  repeat (first | rfl | split)

/-- The one is as the other. -/
structure Rel (d : DS) (r : RS) : Prop where
  b : d.b = r.b
  room : d.room = r.room
  dead : d.dead = r.dead
  fuse : d.fuse = if r.has = true then r.fuse else -1

theorem rel_do {d : DS} {r : RS} (h : Rel d r) (hr : r.Ok) (o : OpS) : (d.doOp o).1 = (r.doOp o).1 ∧ Rel (d.doOp o).2 (r.doOp o).2 := by
  obtain ⟨dn, db, droom, df, dd⟩ := d
  obtain ⟨rn, rb, rroom, rh, rf, rd⟩ := r
  obtain ⟨h1, h2, h3, h4⟩ := h
  have hf := hr.fuse
  simp only at h1 h2 h3 h4 hf
  subst h1; subst h2; subst h3
  unfold DS.doOp RS.doOp
  split
  · unfold DS.append RS.append
    cases dd with
    | true => exact ⟨rfl, rfl, rfl, rfl, h4⟩
    | false =>
      simp only [Bool.false_eq_true, if_false]
      unfold DS.app RS.app DS.left
      by_cases hl : droom - (db.length : Int) < o.b.length
      · have hl' : droom < (db.length : Int) + o.b.length := by omega
        simp only [hl, hl', if_true]
        exact ⟨trivial, rfl, rfl, rfl, h4⟩
      · have hl' : ¬ droom < (db.length : Int) + o.b.length := by omega
        simp only [hl, hl', if_false]
        cases rh with
        | false =>
          simp only [Bool.false_eq_true, if_false] at h4
          subst h4
          simp only [if_true, Bool.false_eq_true, false_and, if_false]
          exact ⟨trivial, rfl, rfl, rfl, rfl⟩
        | true =>
          simp only [if_true] at h4
          subst h4
          have hn : ¬ df = -1 := by omega
          by_cases hlt : df < (o.b.length : Int)
          · simp only [hn, hlt, if_true, if_false, and_self]
            exact ⟨trivial, rfl, rfl, rfl, rfl⟩
          · simp only [hn, hlt, if_false, and_false, if_true]
            exact ⟨trivial, rfl, rfl, rfl, rfl⟩
  · split
    · unfold DS.cut RS.cut DS.cut1
      cases dd with
      | true => exact ⟨rfl, rfl, rfl, rfl, h4⟩
      | false =>
        simp only [Bool.false_eq_true, if_false]
        split
        · exact ⟨rfl, rfl, rfl, rfl, h4⟩
        · exact ⟨rfl, rfl, rfl, rfl, h4⟩
    · split
      · refine ⟨rfl, rfl, rfl, rfl, ?_⟩
        simp only [decide_eq_true_eq]
        split <;> omega
      · split
        · exact ⟨rfl, rfl, rfl, rfl, by simp⟩
        · exact ⟨rfl, rfl, rfl, rfl, h4⟩

set_option maxRecDepth 100000 in
set_option maxHeartbeats 4000000 in
theorem plays_fn (room : Int) (nl : Bool) (l : List OpS) (hl : l.length ≤ 9223372036854775807) (hr : -9223372036854775808 ≤ room) (hr2 : room < 9223372036854775808)
    (ho : ∀ o, o ∈ l → 0 ≤ o.kind ∧ o.kind < 256 ∧ -9223372036854775808 ≤ o.n ∧ o.n < 9223372036854775808) :
    Fc Try.prog 4 [.lit (.int .i64 room), .sl .imm nl 3 (l.map OpS.pv)] [] (.lit (.bool true)) [] := by
  refine Fc.of (anys _ [15, 21, 16, 22, 23, 24, 20, 25, 19, 18]) sch4 mixed Try.func4 rfl (by rfl) (by simp [Try.ntmps4]) (by decide) ?_
  simp -implicitDefEqProofs -dsimp [Try.ntmps4]
  refine CallK.reads ?_
  simp -implicitDefEqProofs -dsimp
  refine CallQ.same (awake_fn) rfl ?_
  simp -implicitDefEqProofs -dsimp
  refine CallK.reads ?_
  simp -implicitDefEqProofs -dsimp
  refine CallQ.same (few_fn nl l hl) rfl ?_
  simp -implicitDefEqProofs -dsimp
  by_cases hfew : fewOps l = true
  · by_cases h1 : 1000 < room ∧ room ≤ 16777216
    · simp -implicitDefEqProofs -dsimp [hfew, h1]
    · by_cases h0 : room < 0
      · have c1 : ¬ 1000 < room := by omega
        simp -implicitDefEqProofs -dsimp [hfew, c1]
        refine CallK.works ?_
        simp -implicitDefEqProofs -dsimp
        refine CallQ.mk (new_no room (.inl h0)) (by simp) ?_
        simp -implicitDefEqProofs -dsimp [h0]
      · by_cases h2 : 16777216 < room
        · have c1 : 1000 < room := by omega
          have c2 : ¬ room ≤ 16777216 := by omega
          simp -implicitDefEqProofs -dsimp [hfew, c1, c2]
          refine CallK.works ?_
          simp -implicitDefEqProofs -dsimp
          refine CallQ.mk (new_no room (.inr h2)) (by simp) ?_
          simp -implicitDefEqProofs -dsimp [h0, h2]
        · have c1 : ¬ 1000 < room := by omega
          have c3 : 0 ≤ room := by omega
          simp -implicitDefEqProofs -dsimp [hfew, c1]
          refine CallK.works ?_
          simp -implicitDefEqProofs -dsimp
          refine CallQ.mk (new_fn room c3 (by omega)) (by simp) ?_
          simp -implicitDefEqProofs -dsimp [h0, h2]
          rw [show (⟨true, [], room, -1, false⟩ : DS) = D0 room from rfl]
          have hall : ∀ (i : Nat) (h : i < l.length), (l[i]'h).b.length ≤ 40 := fun i h => by
            have := (Bool.and_eq_true _ _).mp hfew
            simpa using (List.all_eq_true.1 this.1) _ (List.getElem_mem h)
          refine LpK.mk (anys _ [22, 23, 24, 20, 25, 19, 18]) mixed (fun (i, d, r) => i ≤ l.length ∧ d.Ok ∧ r.Ok ∧ Rel d r ∧ d.room = room)
            (fun ((i, d, r) : Nat × DS × RS) => ⟨[(0, .lit (.int .i64 room)), (1, .sl .imm nl 3 (l.map OpS.pv)), (5, .lit (.bool true)), (7, .ptr 1290 0), (9, .ptr 55 0), (10, .lit (.int .i64 i))],
              [(55, .cells (r.cells (.own (.cell 55 0)))), (1290, .cells (d.cells (.own (.cell 1290 0))))], 129⟩) (fun (i, _) => l.length - i) (0, D0 room, ⟨true, [], room, false, 0, false⟩)
            ⟨by simp, D0_ok c3 (by omega), by constructor <;> simp <;> omega, by constructor <;> simp [D0], rfl⟩ (by simp -implicitDefEqProofs -dsimp [RS.cells]) ?_
          rintro ⟨i, d, r⟩ ⟨hi, hd, hrr, hrel, hroom⟩
          by_cases hlt : i < l.length
          · have hw : IntKind.i64.wrap ((i : Int) + 1) = ((i + 1 : Nat) : Int) := wrap64 (by omega) (by omega)
            have hb := hall i hlt
            have hon := ho _ (List.getElem_mem hlt)
            simp -implicitDefEqProofs -dsimp [hlt, OpS.pv, OpS.row]
            refine CallK.works ?_
            simp -implicitDefEqProofs -dsimp
            refine CallQ.same (do_fn d hd l[i]) rfl ?_
            simp -implicitDefEqProofs -dsimp [hlt, OpS.pv, OpS.row]
            refine CallK.works ?_
            simp -implicitDefEqProofs -dsimp
            refine CallQ.same (rdo_fn r hrr l[i] (by omega)) rfl ?_
            simp -implicitDefEqProofs -dsimp [hlt, OpS.pv, OpS.row]
            obtain ⟨e1, e2⟩ := rel_do hrel hrr l[i]
            have d2 := DS.doOp_ok hd hon.2.2.2
            have r2 := RS.doOp_ok hrr hon.2.2.2
            have d3 := DS.doOp_room d l[i]
            rw [hroom] at d3
            generalize (d.doOp l[i]).2 = d' at *
            generalize (r.doOp l[i]).2 = r' at *
            simp -implicitDefEqProofs -dsimp [e1]
            refine CallK.reads ?_
            simp -implicitDefEqProofs -dsimp
            refine CallQ.same (dead_fn d') rfl ?_
            simp -implicitDefEqProofs -dsimp [e2.dead]
            refine CallK.reads ?_
            simp -implicitDefEqProofs -dsimp
            refine CallQ.same (size_fn d') rfl ?_
            simp -implicitDefEqProofs -dsimp [e2.b]
            have hrl := r2.len
            have hr9 := r2.room
            have hw2 : IntKind.i64.wrap (room - r'.b.length) = room - r'.b.length := wrap64 (by omega) (by omega)
            refine CallK.reads ?_
            simp -implicitDefEqProofs -dsimp
            refine CallQ.same (left_fn d' d2) rfl ?_
            simp -implicitDefEqProofs -dsimp [DS.left, e2.b, d3, hw2]
            refine CallK.fresh ?_
            simp -implicitDefEqProofs -dsimp
            refine CallQ.same (bytes_fn d' d2) rfl ?_
            simp -implicitDefEqProofs -dsimp [fr_u8s, e2.b]
            have hr8 : r'.b.length < 9223372036854775807 := by omega
            refine CallK.reads ?_
            simp -implicitDefEqProofs -dsimp
            refine CallQ.same (same_fn _ _ r'.b r'.b hr8) rfl ?_
            simp -implicitDefEqProofs -dsimp [hw]
            refine .mk (i + 1, d', r') ⟨by omega, d2, r2, e2, d3⟩ (by simp; omega) (by simp -implicitDefEqProofs -dsimp)
          · have hi : i = l.length := by omega
            subst hi
            have e := hrel.b
            simp -implicitDefEqProofs -dsimp [e]
            refine CallK.reads ?_
            simp -implicitDefEqProofs -dsimp
            refine CallQ.same (size_fn d) rfl ?_
            simp -implicitDefEqProofs -dsimp [e]
  · simp -implicitDefEqProofs -dsimp [hfew]
end Go.Proofs.Ytgpcphddjapceaa
