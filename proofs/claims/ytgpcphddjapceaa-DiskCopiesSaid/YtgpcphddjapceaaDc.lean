/- The references: what their functions do. -/
import Derived.Test.YtgpcphddjapceaaDb
namespace Go.Proofs.Ytgpcphddjapceaa
open Go.Sy

theorem take_same {xs ys : List Int} {i : Nat} (h1 : i < xs.length) (h2 : i < ys.length) (ht : xs.take i = ys.take i) (he : xs[i] = ys[i]) : xs.take (i + 1) = ys.take (i + 1) := by
  rw [List.take_succ_eq_append_getElem h1, List.take_succ_eq_append_getElem h2, ht, he]

set_option maxRecDepth 100000 in
set_option maxHeartbeats 1000000 in
theorem same_fn (n1 n2 : Bool) (xs ys : List Int) (hl : xs.length < 9223372036854775807) : Fc Try.prog 18 [.sl .imm n1 1 (u8s xs), .sl .imm n2 1 (u8s ys)] [] (.lit (.bool (decide (xs = ys)))) [] := by
  refine Fc.of (anys _ []) sch18 mixed Try.func18 rfl (by rfl) (by simp [Try.ntmps18]) (by decide) ?_
  simp -implicitDefEqProofs -dsimp [Try.ntmps18]
  refine Cnd.mk (fun h => ?_) (fun h => ?_)
  · have h : ¬ xs = ys := by rintro rfl; simp at h
    simp -implicitDefEqProofs -dsimp [h]
  · have h : xs.length = ys.length := by simp at h; omega
    simp -implicitDefEqProofs -dsimp
    refine LpK.mk (anys _ []) mixed (fun i : Nat => i ≤ xs.length ∧ xs.take i = ys.take i) (fun i => ⟨[(0, .sl .imm n1 1 (u8s xs)), (1, .sl .imm n2 1 (u8s ys)), (5, .lit (.int .i64 i))], [], 26⟩) (fun i => xs.length - i) 0 (by simp) (by simp -implicitDefEqProofs -dsimp) ?_
    rintro i ⟨hi, ht⟩
    by_cases hlt : i < xs.length
    · have hlt2 : i < ys.length := by omega
      by_cases he : xs[i] = ys[i]
      · have hw : IntKind.i64.wrap ((i : Int) + 1) = ((i + 1 : Nat) : Int) := wrap64 (by omega) (by omega)
        simp -implicitDefEqProofs -dsimp [hlt, hlt2, he, hw]
        exact .mk (i + 1) ⟨by omega, take_same hlt hlt2 ht he⟩ (by omega) (by simp -implicitDefEqProofs -dsimp)
      · have hn : ¬ xs = ys := by rintro rfl; exact he rfl
        simp -implicitDefEqProofs -dsimp [hlt, hlt2, he, hn]
    · have hn : xs = ys := by rwa [List.take_of_length_le (by omega), List.take_of_length_le (by omega)] at ht
      subst hn
      simp -implicitDefEqProofs -dsimp [hlt]
/-- What the document's disk has. -/
structure RS where
  nl : Bool
  b : List Int
  room : Int
  has : Bool
  fuse : Int
  dead : Bool

def RS.cells (s : RS) (o : Own) : List PV := [.sl o s.nl 1 (u8s s.b), .lit (.int .i64 s.room), .lit (.bool s.has), .lit (.int .i64 s.fuse), .lit (.bool s.dead)]
def RS.cellsO (s : RS) : Option Own → List PV
  | some o => s.cells o
  | none => [.dead, .lit (.int .i64 s.room), .lit (.bool s.has), .lit (.int .i64 s.fuse), .lit (.bool s.dead)]
@[simp] theorem rcellsO_some (s : RS) (o : Own) : s.cellsO (some o) = s.cells o := (rfl)
@[simp ↓] theorem rs_scrub (F : Own → Option Own) (p : Nat → Option Nat) (s : RS) (o : Own) : PV.scrubL F p (s.cells o) = s.cellsO (F o) := by
  simp only [RS.cells, PV.scrubL, PV.scrub, RS.cellsO]
  cases F o <;> rfl
@[simp ↓] theorem rs_lend (s : RS) (o : Own) : lendCells (s.cells o) = some (s.cells .imm) := by
  simp [RS.cells, lendCells, lendCell, Value.oneCell']
@[simp ↓] theorem rs_ids (s : RS) (o : Own) : idsOfL (s.cells o) = [] := by simp [RS.cells]
@[simp ↓] theorem rs_toks (s : RS) (t : Tk) : toksOfL (s.cells (.own t)) = [t] := by simp [RS.cells]
@[simp] theorem rs_get0 (s : RS) (o : Own) : (s.cells o)[0]? = some (.sl o s.nl 1 (u8s s.b)) := rfl
@[simp] theorem rs_get1 (s : RS) (o : Own) : (s.cells o)[1]? = some (.lit (.int .i64 s.room)) := rfl
@[simp] theorem rs_get2 (s : RS) (o : Own) : (s.cells o)[2]? = some (.lit (.bool s.has)) := rfl
@[simp] theorem rs_get3 (s : RS) (o : Own) : (s.cells o)[3]? = some (.lit (.int .i64 s.fuse)) := rfl
@[simp] theorem rs_get4 (s : RS) (o : Own) : (s.cells o)[4]? = some (.lit (.bool s.dead)) := rfl

structure RS.Ok (s : RS) : Prop where
  room0 : 0 ≤ s.room
  room : s.room ≤ 16777216
  len : (s.b.length : Int) ≤ s.room
  fuse : 0 ≤ s.fuse
  fuse' : s.fuse < 9223372036854775808

def RS.app (s : RS) (ys : List Int) : Int × RS :=
  if s.room < s.b.length + ys.length then (8, s)
  else if s.has = true ∧ s.fuse < ys.length then (9, { s with nl := (s.b ++ ys.take s.fuse.toNat).isEmpty, b := s.b ++ ys.take s.fuse.toNat, has := false, fuse := 0, dead := true })
  else (0, { s with nl := (s.b ++ ys).isEmpty, b := s.b ++ ys, fuse := if s.has = true then s.fuse - ys.length else s.fuse })
def RS.append (s : RS) (ys : List Int) : Int × RS := if s.dead = true then (9, s) else s.app ys

set_option maxRecDepth 100000 in
set_option maxHeartbeats 1000000 in
theorem rappend_fn (s : RS) (hs : s.Ok) (n1 : Bool) (ys : List Int) (hy : ys.length ≤ 100) : Fc Try.prog 48 [.ptr 100000 0, .sl .imm n1 1 (u8s ys)] [(100000, .cells (s.cells (.own (.cell 100000 0))))]
    (.lit (.int .i64 (s.append ys).1)) [(100000, .cells ((s.append ys).2.cells (.own (.cell 100000 0))))] := by
  have h1 := hs.room
  have h2 := hs.len
  have h3 := hs.fuse
  have h4 := hs.fuse'
  obtain ⟨nl, b, room, has, fuse, dead⟩ := s
  simp only at h1 h2 h3 h4
  refine Fc.of (anys _ []) sch48 mixed Try.func48 rfl (by rfl) (by simp [Try.ntmps48]) (by decide) ?_
  cases dead with
  | true => simp -implicitDefEqProofs -dsimp [Try.ntmps48, RS.cells, RS.append]
  | false =>
    have hw : IntKind.i64.wrap ((b.length : Int) + ys.length) = (b.length : Int) + ys.length := wrap64 (by omega) (by omega)
    by_cases hf : room < (b.length : Int) + ys.length
    · simp -implicitDefEqProofs -dsimp [Try.ntmps48, RS.cells, RS.append, RS.app, hf, hw]
    · have hb : b.length ≤ 140737488355328 := by omega
      simp -implicitDefEqProofs -dsimp [Try.ntmps48, RS.cells, RS.append, hf, hw, hb]
      refine LpK.mk (anys _ []) mixed (fun (i, n, l, f) => i ≤ ys.length ∧ (has = true → (i : Int) ≤ fuse) ∧ l = b ++ ys.take i ∧ n = l.isEmpty ∧ f = if has = true then fuse - i else fuse)
        (fun ((i, n, l, f) : Nat × Bool × List Int × Int) => ⟨[(0, .ptr 100000 0), (1, .sl .imm n1 1 (u8s ys)), (5, .sl (.own (.loc 29)) n 1 (u8s l)), (6, .lit (.int .i64 i))],
        [(100000, .cells (RS.cells ⟨nl, b, room, has, f, false⟩ (.own (.cell 100000 0))))], 80⟩) (fun (i, _) => ys.length - i) (0, b.isEmpty, b, fuse) (by simp; intro; omega) (by simp -implicitDefEqProofs -dsimp [RS.cells]) ?_
      rintro ⟨i, n, l, f⟩ ⟨hi, hfu, hl, hn, hf2⟩
      have hll : l.length = b.length + i := by rw [hl]; simp; omega
      by_cases hlt : i < ys.length
      · have hw1 : IntKind.i64.wrap ((i : Int) + 1) = ((i + 1 : Nat) : Int) := wrap64 (by omega) (by omega)
        have ht : l.length + 1 ≤ 140737488355328 := by omega
        have hsn : l ++ [ys[i]] = b ++ ys.take (i + 1) := by rw [List.take_succ_eq_append_getElem hlt, hl]; simp
        cases has with
        | false =>
          simp -implicitDefEqProofs -dsimp [RS.cells, hlt, hw1, ht]
          exact .mk (i + 1, false, l ++ [ys[i]], f) ⟨by omega, by simp, hsn, by simp, hf2⟩ (by simp; omega) (by simp -implicitDefEqProofs -dsimp [ints, RS.cells])
        | true =>
          simp only [if_true] at hf2
          have := hfu rfl
          by_cases hz : f = 0
          · have e1 : fuse < ys.length := by omega
            have e2 : fuse.toNat = i := by omega
            have hA : RS.app ⟨nl, b, room, true, fuse, false⟩ ys = (9, ⟨n, l, room, false, 0, true⟩) := by simp [RS.app, hf, e1, e2, hl, hn]
            simp -implicitDefEqProofs -dsimp [RS.cells, hlt, hz, RS.append, hA]
          · have hw2 : IntKind.i64.wrap (f - 1) = f - 1 := wrap64 (by omega) (by omega)
            simp -implicitDefEqProofs -dsimp [RS.cells, hlt, hw1, hw2, ht, hz]
            exact .mk (i + 1, false, l ++ [ys[i]], f - 1) ⟨by omega, by intro; omega, hsn, by simp, by simp; omega⟩ (by simp; omega) (by simp -implicitDefEqProofs -dsimp [ints, RS.cells])
      · have hi : i = ys.length := by omega
        subst hi
        have hA : RS.app ⟨nl, b, room, has, fuse, false⟩ ys = (0, ⟨n, l, room, has, f, false⟩) := by
          have e1 : ¬ (has = true ∧ fuse < ys.length) := fun h => by have := hfu h.1; omega
          simp only [RS.app, e1, if_false, if_neg hf, hn, hl, hf2, List.take_length]
        simp -implicitDefEqProofs -dsimp [RS.cells, RS.append, hA]
end Go.Proofs.Ytgpcphddjapceaa
