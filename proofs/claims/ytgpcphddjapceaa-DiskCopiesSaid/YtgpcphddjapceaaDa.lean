/- The disk: what its functions do. -/
import Derived.Test.YtgpcphddjapceaaSc1
import Derived.Test.YtgpcphddjapceaaSs
namespace Go.Proofs.Ytgpcphddjapceaa
open Go.Sy

theorem mixed : Try.prog.follows .mixedOrders = true := by rfl

/-- What a disk has. -/
structure DS where
  nl : Bool
  b : List Int
  room : Int
  fuse : Int
  dead : Bool

def DS.cells (s : DS) (o : Own) : List PV := [.sl o s.nl 1 (u8s s.b), .lit (.int .i64 s.room), .lit (.int .i64 s.fuse), .lit (.bool s.dead)]
def DS.cellsO (s : DS) : Option Own → List PV
  | some o => s.cells o
  | none => [.dead, .lit (.int .i64 s.room), .lit (.int .i64 s.fuse), .lit (.bool s.dead)]
@[simp] theorem cellsO_some (s : DS) (o : Own) : s.cellsO (some o) = s.cells o := rfl
@[simp ↓] theorem ds_scrub (F : Own → Option Own) (p : Nat → Option Nat) (s : DS) (o : Own) : PV.scrubL F p (s.cells o) = s.cellsO (F o) := by
  simp only [DS.cells, PV.scrubL, PV.scrub, DS.cellsO]
  cases F o <;> rfl
@[simp ↓] theorem ds_lend (s : DS) (o : Own) : lendCells (s.cells o) = some (s.cells .imm) := by
  simp -implicitDefEqProofs -dsimp [DS.cells, lendCells, lendCell, Value.oneCell']
@[simp ↓] theorem ds_ids (s : DS) (o : Own) : idsOfL (s.cells o) = [] := by simp [DS.cells]
@[simp ↓] theorem ds_toks (s : DS) (t : Tk) : toksOfL (s.cells (.own t)) = [t] := by simp [DS.cells]

@[simp] theorem ds_get0 (s : DS) (o : Own) : (s.cells o)[0]? = some (.sl o s.nl 1 (u8s s.b)) := rfl
@[simp] theorem ds_get1 (s : DS) (o : Own) : (s.cells o)[1]? = some (.lit (.int .i64 s.room)) := rfl
@[simp] theorem ds_get2 (s : DS) (o : Own) : (s.cells o)[2]? = some (.lit (.int .i64 s.fuse)) := rfl
@[simp] theorem ds_get3 (s : DS) (o : Own) : (s.cells o)[3]? = some (.lit (.bool s.dead)) := rfl

structure DS.Ok (s : DS) : Prop where
  room0 : 0 ≤ s.room
  room : s.room ≤ 16777216
  len : (s.b.length : Int) ≤ s.room
  fuse : -1 ≤ s.fuse
  fuse' : s.fuse < 9223372036854775808
  nil : s.nl = true → s.b = []

theorem wrap64 {n : Int} (h1 : -9223372036854775808 ≤ n) (h2 : n < 9223372036854775808) : IntKind.i64.wrap n = n := by
  simp [IntKind.wrap, IntKind.signed, IntKind.bits]
  omega

def DS.left (s : DS) : Int := s.room - s.b.length

set_option maxRecDepth 100000 in
theorem left_fn (s : DS) (hs : s.Ok) : Fc Try.prog 25 [.cur .imm (s.cells .imm)] [] (.lit (.int .i64 s.left)) [] := by
  have hw : IntKind.i64.wrap s.left = s.left := wrap64 (by have := hs.room0; have := hs.len; simp only [DS.left]; omega) (by have := hs.room; have := hs.len; simp only [DS.left]; omega)
  refine Fc.of (anys _ []) sch25 mixed Try.func25 rfl (by rfl) (by simp [Try.ntmps25]) (by decide) ?_
  simp only [DS.left] at hw
  simp -implicitDefEqProofs -dsimp [Try.ntmps25, DS.cells, DS.left, hw]

set_option maxRecDepth 100000 in
theorem dead_fn (s : DS) : Fc Try.prog 24 [.cur .imm (s.cells .imm)] [] (.lit (.bool s.dead)) [] := by
  refine Fc.of (anys _ []) [] mixed Try.func24 rfl (by rfl) (by simp [Try.ntmps24]) (by decide) ?_
  simp -implicitDefEqProofs -dsimp [Try.ntmps24, DS.cells]

set_option maxRecDepth 100000 in
theorem size_fn (s : DS) : Fc Try.prog 20 [.cur .imm (s.cells .imm)] [] (.lit (.int .i64 s.b.length)) [] := by
  refine Fc.of (anys _ []) [] mixed Try.func20 rfl (by rfl) (by simp [Try.ntmps20]) (by decide) ?_
  simp -implicitDefEqProofs -dsimp [Try.ntmps20, DS.cells]

set_option maxRecDepth 100000 in
theorem start_fn (s : DS) : Fc Try.prog 26 [.ptr 100000 0] [(100000, .cells (s.cells (.own (.cell 100000 0))))] (.tup []) [(100000, .cells ({ s with dead := false, fuse := -1 : DS }.cells (.own (.cell 100000 0))))] := by
  refine Fc.of (anys _ []) [] mixed Try.func26 rfl (by rfl) (by simp [Try.ntmps26]) (by decide) ?_
  simp -implicitDefEqProofs -dsimp [Try.ntmps26, DS.cells]

theorem max_i64 (P : Program) (ty : TypeId) (ats : Array TypeId) (a b : Int) : pureOf P (Builtin.max_ ats ty #[.int .i64 a, .int .i64 b]) = some (.int .i64 (max a b)) := by
  simp [Builtin.max_, Builtin.max2]
  show some (Value.int IntKind.i64 (if a < b then b else a)) = _
  by_cases h : a < b
  · rw [if_pos h, Int.max_eq_right (by omega)]
  · rw [if_neg h, Int.max_eq_left (by omega)]

set_option maxRecDepth 100000 in
theorem fuse_fn (s : DS) (n : Int) : Fc Try.prog 27 [.ptr 100000 0, .lit (.int .i64 n)] [(100000, .cells (s.cells (.own (.cell 100000 0))))] (.tup []) [(100000, .cells ({ s with fuse := max (-1) n : DS }.cells (.own (.cell 100000 0))))] := by
  refine Fc.of (anys _ []) [] mixed Try.func27 rfl (by rfl) (by simp [Try.ntmps27]) (by decide) ?_
  simp -implicitDefEqProofs -dsimp [Try.ntmps27, DS.cells, litL, max_i64]

set_option maxRecDepth 100000 in
theorem clone_fn (nl : Bool) (xs : List Int) (hn : nl = true → xs = []) (hl : xs.length ≤ 140737488355328) : Fc Try.prog 46 [.sl .imm nl 1 (u8s xs)] [] (.sl (.own (.loc 5)) nl 1 (u8s xs)) [] := by
  refine Fc.of (anys _ []) [] mixed Try.func46 rfl (by rfl) (by simp [Try.ntmps46]) (by decide) ?_
  simp -implicitDefEqProofs -dsimp [Try.ntmps46, binPV]
  refine Cnd.mk (fun h => ?_) (fun h => ?_)
  · subst h
    simp [hn rfl]
  · subst h
    simp [hl]

theorem fr_u8s (n : Nat) (nl : Bool) (xs : List Int) : Fr (.sl (.own (.loc n)) nl 1 (u8s xs)) := .row n _ _ _ fun x hx y hy => by
  simp only [u8s, ints, List.mem_map] at hx
  obtain ⟨n, _, rfl⟩ := hx
  simp [PV.comps] at hy
  exact ⟨_, hy⟩

set_option maxRecDepth 100000 in
theorem bytes_fn (s : DS) (hs : s.Ok) : Fc Try.prog 19 [.cur .imm (s.cells .imm)] [] (.sl (.own (.loc 1070)) s.nl 1 (u8s s.b)) [] := by
  refine Fc.of (anys _ [46]) [] mixed Try.func19 rfl (by rfl) (by simp [Try.ntmps19]) (by decide) ?_
  simp -implicitDefEqProofs -dsimp [Try.ntmps19, DS.cells]
  refine CallK.fresh ?_
  simp -implicitDefEqProofs -dsimp
  refine CallQ.mk (clone_fn _ _ hs.nil (by have := hs.len; have := hs.room; omega)) trivial ?_
  simp -implicitDefEqProofs -dsimp [fr_u8s]

/-- Bytes are put behind. -/
def DS.app (s : DS) (ys : List Int) : Int × DS :=
  if s.left < ys.length then (8, s)
  else if s.fuse = -1 then (0, { s with nl := s.nl && ys.isEmpty, b := s.b ++ ys })
  else if s.fuse < ys.length then (9, { s with nl := s.nl && (ys.take s.fuse.toNat).isEmpty, b := s.b ++ ys.take s.fuse.toNat, fuse := -1, dead := true })
  else (0, { s with nl := s.nl && ys.isEmpty, b := s.b ++ ys, fuse := s.fuse - ys.length })

set_option maxRecDepth 100000 in
set_option maxHeartbeats 1000000 in
theorem append1_fn (s : DS) (hs : s.Ok) (n1 : Bool) (ys : List Int) : Fc Try.prog 45 [.ptr 100000 0, .ptr 100001 0] [(100000, .cells [.sl .imm n1 1 (u8s ys)]), (100001, .cells [.ptr 100002 0]), (100002, .cells (s.cells (.own (.cell 100002 0))))]
    (.lit (.int .i64 (s.app ys).1)) [(100000, .cells [.sl .imm n1 1 (u8s ys)]), (100001, .cells [.ptr 100002 0]), (100002, .cells ((s.app ys).2.cells (.own (.cell 100002 0))))] := by
  have hL := left_fn s hs
  obtain ⟨nl, b, room, fuse, dead⟩ := s
  refine Fc.of (anys _ [25]) sch45 mixed Try.func45 rfl (by rfl) (by simp [Try.ntmps45]) (by decide) ?_
  simp only [DS.left, DS.cells] at hL
  simp -implicitDefEqProofs -dsimp [Try.ntmps45, DS.cells]
  refine CallK.reads ?_
  simp -implicitDefEqProofs -dsimp
  refine CallQ.same hL rfl ?_
  simp -implicitDefEqProofs -dsimp
  refine Cnd.mk (fun h => ?_) (fun h => ?_)
  · have h : room - b.length < ys.length := by simpa using h
    simp -implicitDefEqProofs -dsimp [DS.app, DS.left, h, DS.cells]
  · have h : ¬ room - b.length < ys.length := by simpa using h
    have hb : ys.length + b.length ≤ 16777216 := by have := hs.room; simp at this; omega
    have hb2 : b.length + ys.length ≤ 140737488355328 := by omega
    simp -implicitDefEqProofs -dsimp
    refine Cnd.mk (fun h1 => ?_) (fun h1 => ?_)
    · have h1 : fuse = -1 := by simpa using h1
      simp -implicitDefEqProofs -dsimp [hb2, DS.app, DS.left, h, h1, DS.cells]
    · have h1 : fuse ≠ -1 := by simpa using h1
      simp -implicitDefEqProofs -dsimp
      refine Cnd.mk (fun h2 => ?_) (fun h2 => ?_)
      · have h2 : fuse < ys.length := by simpa using h2
        have hf : 0 ≤ fuse := by have := hs.fuse; simp at this; omega
        have h3 : min fuse.toNat ys.length = fuse.toNat := by omega
        have h4 : fuse ≤ ys.length := by omega
        have hb3 : b.length + fuse.toNat ≤ 140737488355328 := by omega
        simp -implicitDefEqProofs -dsimp [hb2, DS.app, DS.left, h, h1, h2, hf, h3, h4, hb3, DS.cells]
      · have h2 : ¬ fuse < ys.length := by simpa using h2
        have h3 : IntKind.i64.wrap (fuse - ys.length) = fuse - ys.length := wrap64 (by omega) (by have := hs.fuse'; simp at this; omega)
        simp -implicitDefEqProofs -dsimp [hb2, DS.app, DS.left, h, h1, h2, h3, DS.cells]

/-- Bytes are put behind, where it is alive. -/
def DS.append (s : DS) (ys : List Int) : Int × DS := if s.dead then (9, s) else s.app ys

set_option maxRecDepth 100000 in
set_option maxHeartbeats 1000000 in
theorem alive1_fn (s : DS) (hs : s.Ok) (n1 : Bool) (ys : List Int) : Fc Try.prog 44 [.ptr 100000 0, .fn (.func 45) [] [.ptr 100001 0, .ptr 100002 0]] [(100000, .cells (s.cells (.own (.cell 100000 0)))), (100001, .cells [.sl .imm n1 1 (u8s ys)]), (100002, .cells [.ptr 100000 0])]
    (.lit (.int .i64 (s.append ys).1)) [(100000, .cells ((s.append ys).2.cells (.own (.cell 100000 0)))), (100001, .cells [.sl .imm n1 1 (u8s ys)]), (100002, .cells [.ptr 100000 0])] := by
  have hA := append1_fn s hs n1 ys
  refine Fc.of (anys _ [45]) [] mixed Try.func44 rfl (by rfl) (by simp [Try.ntmps44]) (by decide) ?_
  simp -implicitDefEqProofs -dsimp [Try.ntmps44]
  refine Cnd.mk (fun h => ?_) (fun h => ?_)
  · simp [DS.append, h]
  · simp
    refine CallK.works ?_
    simp -implicitDefEqProofs -dsimp
    refine CallQ.mk hA (by simp) ?_
    simp -implicitDefEqProofs -dsimp [DS.append, h]

set_option maxRecDepth 100000 in
set_option maxHeartbeats 1000000 in
theorem append_fn (s : DS) (hs : s.Ok) (n1 : Bool) (ys : List Int) : Fc Try.prog 17 [.ptr 100000 0, .sl .imm n1 1 (u8s ys)] [(100000, .cells (s.cells (.own (.cell 100000 0))))]
    (.lit (.int .i64 (s.append ys).1)) [(100000, .cells ((s.append ys).2.cells (.own (.cell 100000 0))))] := by
  refine Fc.of (anys _ [44]) [] mixed Try.func17 rfl (by rfl) (by simp [Try.ntmps17]) (by decide) ?_
  simp -implicitDefEqProofs -dsimp [Try.ntmps17]
  refine CallK.works ?_
  simp -implicitDefEqProofs -dsimp
  refine CallQ.mk (alive1_fn s hs n1 ys) (by simp) ?_
  simp -implicitDefEqProofs -dsimp

/-- The first ones are left alone. -/
def DS.cut1 (s : DS) (n : Int) : Int × DS := if n < 0 ∨ (s.b.length : Int) < n then (1, s) else (0, { s with b := s.b.take n.toNat })
def DS.cut (s : DS) (n : Int) : Int × DS := if s.dead then (9, s) else s.cut1 n

set_option maxRecDepth 100000 in
set_option maxHeartbeats 1000000 in
theorem cut1_fn (s : DS) (n : Int) : Fc Try.prog 55 [.ptr 100000 0, .ptr 100001 0] [(100000, .cells [.lit (.int .i64 n)]), (100001, .cells [.ptr 100002 0]), (100002, .cells (s.cells (.own (.cell 100002 0))))]
    (.lit (.int .i64 (s.cut1 n).1)) [(100000, .cells [.lit (.int .i64 n)]), (100001, .cells [.ptr 100002 0]), (100002, .cells ((s.cut1 n).2.cells (.own (.cell 100002 0))))] := by
  obtain ⟨nl, b, room, fuse, dead⟩ := s
  refine Fc.of (anys _ []) sch55 mixed Try.func55 rfl (by rfl) (by simp [Try.ntmps55]) (by decide) ?_
  by_cases h1 : n < 0
  · simp -implicitDefEqProofs -dsimp [Try.ntmps55, DS.cells, h1, DS.cut1]
  · by_cases h2 : (b.length : Int) < n
    · simp -implicitDefEqProofs -dsimp [Try.ntmps55, DS.cells, h1, h2, DS.cut1]
    · have h3 : 0 ≤ n := by omega
      have h4 : n ≤ b.length := by omega
      have h5 : min n.toNat b.length = n.toNat := by omega
      simp [Try.ntmps55, DS.cells, h1, h2, h3, h4, h5, DS.cut1]

set_option maxRecDepth 100000 in
set_option maxHeartbeats 1000000 in
theorem alive2_fn (s : DS) (n : Int) : Fc Try.prog 44 [.ptr 100000 0, .fn (.func 55) [] [.ptr 100001 0, .ptr 100002 0]] [(100000, .cells (s.cells (.own (.cell 100000 0)))), (100001, .cells [.lit (.int .i64 n)]), (100002, .cells [.ptr 100000 0])]
    (.lit (.int .i64 (s.cut n).1)) [(100000, .cells ((s.cut n).2.cells (.own (.cell 100000 0)))), (100001, .cells [.lit (.int .i64 n)]), (100002, .cells [.ptr 100000 0])] := by
  refine Fc.of (anys _ [55]) [] mixed Try.func44 rfl (by rfl) (by simp [Try.ntmps44]) (by decide) ?_
  simp -implicitDefEqProofs -dsimp [Try.ntmps44]
  refine Cnd.mk (fun h => ?_) (fun h => ?_)
  · simp [DS.cut, h]
  · simp
    refine CallK.works ?_
    simp -implicitDefEqProofs -dsimp
    refine CallQ.mk (cut1_fn s n) (by simp) ?_
    simp -implicitDefEqProofs -dsimp [DS.cut, h]

set_option maxRecDepth 100000 in
set_option maxHeartbeats 1000000 in
theorem cut_fn (s : DS) (n : Int) : Fc Try.prog 47 [.ptr 100000 0, .lit (.int .i64 n)] [(100000, .cells (s.cells (.own (.cell 100000 0))))]
    (.lit (.int .i64 (s.cut n).1)) [(100000, .cells ((s.cut n).2.cells (.own (.cell 100000 0))))] := by
  refine Fc.of (anys _ [44]) [] mixed Try.func47 rfl (by rfl) (by simp [Try.ntmps47]) (by decide) ?_
  simp -implicitDefEqProofs -dsimp [Try.ntmps47]
  refine CallK.works ?_
  simp -implicitDefEqProofs -dsimp
  refine CallQ.mk (alive2_fn s n) (by simp) ?_
  simp -implicitDefEqProofs -dsimp

set_option maxRecDepth 100000 in
theorem new_no (room : Int) (h : room < 0 ∨ 16777216 < room) : Fc Try.prog 16 [.lit (.int .i64 room)] [] (.tup [.lit (.pointer none), .lit (.int .i64 1)]) [] := by
  refine Fc.of (anys _ []) [] mixed Try.func16 rfl (by rfl) (by simp [Try.ntmps16]) (by decide) ?_
  by_cases h1 : room < 0
  · simp -implicitDefEqProofs -dsimp [Try.ntmps16, h1]
  · have h2 : 16777216 < room := by omega
    simp [Try.ntmps16, h1, h2]

set_option maxRecDepth 100000 in
theorem new_fn (room : Int) (h : 0 ≤ room) (h2 : room ≤ 16777216) : Fc Try.prog 16 [.lit (.int .i64 room)] [] (.tup [.ptr 12 0, .lit (.int .i64 0)]) [(12, .cells (DS.cells ⟨true, [], room, -1, false⟩ (.own (.cell 12 0))))] := by
  refine Fc.of (anys _ []) [] mixed Try.func16 rfl (by rfl) (by simp [Try.ntmps16]) (by decide) ?_
  have h1 : ¬ room < 0 := by omega
  have h3 : ¬ 16777216 < room := by omega
  simp -implicitDefEqProofs -dsimp [Try.ntmps16, DS.cells, h1, h3]

set_option maxRecDepth 100000 in
theorem copy_fn (s : DS) (hs : s.Ok) : Fc Try.prog 28 [.ptr 100000 0] [(100000, .cells (s.cells (.own (.cell 100000 0))))] (.ptr 3 0)
    [(3, .cells (s.cells (.own (.cell 3 0)))), (100000, .cells (s.cells (.own (.cell 100000 0))))] := by
  refine Fc.of (anys _ [46]) [] mixed Try.func28 rfl (by rfl) (by simp [Try.ntmps28]) (by decide) ?_
  simp -implicitDefEqProofs -dsimp [Try.ntmps28, DS.cells]
  refine CallK.fresh ?_
  simp -implicitDefEqProofs -dsimp
  refine CallQ.mk (clone_fn _ _ hs.nil (by have := hs.len; have := hs.room; omega)) trivial ?_
  simp -implicitDefEqProofs -dsimp [fr_u8s, DS.cells]
end Go.Proofs.Ytgpcphddjapceaa
