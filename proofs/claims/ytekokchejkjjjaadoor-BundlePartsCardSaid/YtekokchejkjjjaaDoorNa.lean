/- The disk: what its functions do. (and what stands on it) -/
import Derived.Test.YtekokchejkjjjaaDoorN9
import Derived.Test.YtekokchejkjjjaaDoorN4
import Derived.Test.YtekokchejkjjjaaDoorN6
set_option linter.unusedSimpArgs false
set_option linter.unusedVariables false

/-! The disk: what its functions do. -/
namespace Go.Proofs.YtekokchejkjjjaaDoor
open Go.Sy

/-- What a disk has. -/
structure DS where
  nl : Bool
  b : List Int
  room : Int
  fuse : Int
  dead : Bool

def DS.cells (s : DS) (o : Own) : List PV := [.sl o s.nl 1 (u8s s.b), .lit (.int .i64 s.room), .lit (.int .i64 s.fuse), .lit (.bool s.dead)]
def DS.cellsO (s : DS) : Option Own → List PV
  | some o => s.cells o
  | none => [.dead, .lit (.int .i64 s.room), .lit (.int .i64 s.fuse), .lit (.bool s.dead)]
@[simp] theorem cellsO_some (s : DS) (o : Own) : s.cellsO (some o) = s.cells o := rfl
@[simp ↓] theorem ds_scrub (F : Own → Option Own) (p : Nat → Option Nat) (s : DS) (o : Own) : PV.scrubL F p (s.cells o) = s.cellsO (F o) := by
  simp only [DS.cells, PV.scrubL, PV.scrub, DS.cellsO]
  cases F o <;> rfl
@[simp ↓] theorem ds_lend (s : DS) (o : Own) : lendCells (s.cells o) = some (s.cells .imm) := by
  simp -implicitDefEqProofs -dsimp [DS.cells, lendCells, lendCell, Value.oneCell']
@[simp ↓] theorem ds_ids (s : DS) (o : Own) : idsOfL (s.cells o) = [] := by simp [DS.cells]
@[simp ↓] theorem ds_toks (s : DS) (t : Tk) : toksOfL (s.cells (.own t)) = [t] := by simp [DS.cells]

@[simp] theorem ds_get0 (s : DS) (o : Own) : (s.cells o)[0]? = some (.sl o s.nl 1 (u8s s.b)) := rfl
@[simp] theorem ds_get1 (s : DS) (o : Own) : (s.cells o)[1]? = some (.lit (.int .i64 s.room)) := rfl
@[simp] theorem ds_get2 (s : DS) (o : Own) : (s.cells o)[2]? = some (.lit (.int .i64 s.fuse)) := rfl
@[simp] theorem ds_get3 (s : DS) (o : Own) : (s.cells o)[3]? = some (.lit (.bool s.dead)) := rfl

structure DS.Ok (s : DS) : Prop where
  room0 : 0 ≤ s.room
  room : s.room ≤ 16777216
  len : (s.b.length : Int) ≤ s.room
  fuse : -1 ≤ s.fuse
  fuse' : s.fuse < 9223372036854775808
  nil : s.nl = true → s.b = []

def DS.left (s : DS) : Int := s.room - s.b.length

set_option maxRecDepth 100000 in
theorem left_fn (s : DS) (hs : s.Ok) : Fc Tryd.prog 62 [.cur .imm (s.cells .imm)] [] (.lit (.int .i64 s.left)) [] := by
  have hw : IntKind.i64.wrap s.left = s.left := wrap64 (by have := hs.room0; have := hs.len; simp only [DS.left]; omega) (by have := hs.room; have := hs.len; simp only [DS.left]; omega)
  refine Fc.of (anys _ []) sch62 mixed Tryd.func62 rfl (by rfl) (by simp [Tryd.ntmps62]) (by decide) ?_
  simp only [DS.left] at hw
  simp -implicitDefEqProofs -dsimp [Tryd.ntmps62, DS.cells, DS.left, hw]

set_option maxRecDepth 100000 in
theorem dead_fn (s : DS) : Fc Tryd.prog 34 [.cur .imm (s.cells .imm)] [] (.lit (.bool s.dead)) [] := by
  refine Fc.of (anys _ []) [] mixed Tryd.func34 rfl (by rfl) (by simp [Tryd.ntmps34]) (by decide) ?_
  simp -implicitDefEqProofs -dsimp [Tryd.ntmps34, DS.cells]

set_option maxRecDepth 100000 in
theorem size_fn (s : DS) : Fc Tryd.prog 19 [.cur .imm (s.cells .imm)] [] (.lit (.int .i64 s.b.length)) [] := by
  refine Fc.of (anys _ []) [] mixed Tryd.func19 rfl (by rfl) (by simp [Tryd.ntmps19]) (by decide) ?_
  simp -implicitDefEqProofs -dsimp [Tryd.ntmps19, DS.cells]

set_option maxRecDepth 100000 in
theorem start_fn (s : DS) : Fc Tryd.prog 35 [.ptr 100000 0] [(100000, .cells (s.cells (.own (.cell 100000 0))))] (.tup []) [(100000, .cells ({ s with dead := false, fuse := -1 : DS }.cells (.own (.cell 100000 0))))] := by
  refine Fc.of (anys _ []) [] mixed Tryd.func35 rfl (by rfl) (by simp [Tryd.ntmps35]) (by decide) ?_
  simp -implicitDefEqProofs -dsimp [Tryd.ntmps35, DS.cells]

set_option maxRecDepth 100000 in
theorem fuse_fn (s : DS) (n : Int) : Fc Tryd.prog 32 [.ptr 100000 0, .lit (.int .i64 n)] [(100000, .cells (s.cells (.own (.cell 100000 0))))] (.tup []) [(100000, .cells ({ s with fuse := max (-1) n : DS }.cells (.own (.cell 100000 0))))] := by
  refine Fc.of (anys _ []) [] mixed Tryd.func32 rfl (by rfl) (by simp [Tryd.ntmps32]) (by decide) ?_
  simp -implicitDefEqProofs -dsimp [Tryd.ntmps32, DS.cells, litL, max_i64]

set_option maxRecDepth 100000 in
theorem bytes_fn (s : DS) (hs : s.Ok) : Fc Tryd.prog 27 [.cur .imm (s.cells .imm)] [] (.sl (.own (.loc 1070)) s.nl 1 (u8s s.b)) [] := by
  refine Fc.of (anys _ [66]) [] mixed Tryd.func27 rfl (by rfl) (by simp [Tryd.ntmps27]) (by decide) ?_
  simp -implicitDefEqProofs -dsimp [Tryd.ntmps27, DS.cells]
  refine CallK.fresh ?_
  simp -implicitDefEqProofs -dsimp
  refine CallQ.mk (clone_fn _ _ hs.nil (by have := hs.len; have := hs.room; omega)) trivial ?_
  simp -implicitDefEqProofs -dsimp [fr_u8s]

/-- Bytes are put behind. -/
def DS.app (s : DS) (ys : List Int) : Int × DS :=
  if s.left < ys.length then (8, s)
  else if s.fuse = -1 then (0, { s with nl := s.nl && ys.isEmpty, b := s.b ++ ys })
  else if s.fuse < ys.length then (9, { s with nl := s.nl && (ys.take s.fuse.toNat).isEmpty, b := s.b ++ ys.take s.fuse.toNat, fuse := -1, dead := true })
  else (0, { s with nl := s.nl && ys.isEmpty, b := s.b ++ ys, fuse := s.fuse - ys.length })

set_option maxRecDepth 100000 in
set_option maxHeartbeats 1000000 in
theorem append1_fn (s : DS) (hs : s.Ok) (n1 : Bool) (ys : List Int) : Fc Tryd.prog 61 [.ptr 100000 0, .ptr 100001 0] [(100000, .cells [.sl .imm n1 1 (u8s ys)]), (100001, .cells [.ptr 100002 0]), (100002, .cells (s.cells (.own (.cell 100002 0))))]
    (.lit (.int .i64 (s.app ys).1)) [(100000, .cells [.sl .imm n1 1 (u8s ys)]), (100001, .cells [.ptr 100002 0]), (100002, .cells ((s.app ys).2.cells (.own (.cell 100002 0))))] := by
  have hL := left_fn s hs
  obtain ⟨nl, b, room, fuse, dead⟩ := s
  refine Fc.of (anys _ [62]) sch61 mixed Tryd.func61 rfl (by rfl) (by simp [Tryd.ntmps61]) (by decide) ?_
  simp only [DS.left, DS.cells] at hL
  simp -implicitDefEqProofs -dsimp [Tryd.ntmps61, DS.cells]
  refine CallK.reads ?_
  simp -implicitDefEqProofs -dsimp
  refine CallQ.same hL rfl ?_
  simp -implicitDefEqProofs -dsimp
  refine Cnd.mk (fun h => ?_) (fun h => ?_)
  · have h : room - b.length < ys.length := by simpa using h
    simp -implicitDefEqProofs -dsimp [DS.app, DS.left, h, DS.cells]
  · have h : ¬ room - b.length < ys.length := by simpa using h
    have hb : ys.length + b.length ≤ 16777216 := by have := hs.room; simp at this; omega
    have hb2 : b.length + ys.length ≤ 140737488355328 := by omega
    simp -implicitDefEqProofs -dsimp
    refine Cnd.mk (fun h1 => ?_) (fun h1 => ?_)
    · have h1 : fuse = -1 := by simpa using h1
      simp -implicitDefEqProofs -dsimp [hb2, DS.app, DS.left, h, h1, DS.cells]
    · have h1 : fuse ≠ -1 := by simpa using h1
      simp -implicitDefEqProofs -dsimp
      refine Cnd.mk (fun h2 => ?_) (fun h2 => ?_)
      · have h2 : fuse < ys.length := by simpa using h2
        have hf : 0 ≤ fuse := by have := hs.fuse; simp at this; omega
        have h3 : min fuse.toNat ys.length = fuse.toNat := by omega
        have h4 : fuse ≤ ys.length := by omega
        have hb3 : b.length + fuse.toNat ≤ 140737488355328 := by omega
        simp -implicitDefEqProofs -dsimp [hb2, DS.app, DS.left, h, h1, h2, hf, h3, h4, hb3, DS.cells]
      · have h2 : ¬ fuse < ys.length := by simpa using h2
        have h3 : IntKind.i64.wrap (fuse - ys.length) = fuse - ys.length := wrap64 (by omega) (by have := hs.fuse'; simp at this; omega)
        simp -implicitDefEqProofs -dsimp [hb2, DS.app, DS.left, h, h1, h2, h3, DS.cells]

/-- Bytes are put behind, where it is alive. -/
def DS.append (s : DS) (ys : List Int) : Int × DS := if s.dead then (9, s) else s.app ys

set_option maxRecDepth 100000 in
set_option maxHeartbeats 1000000 in
theorem alive1_fn (s : DS) (hs : s.Ok) (n1 : Bool) (ys : List Int) : Fc Tryd.prog 60 [.ptr 100000 0, .fn (.func 61) [] [.ptr 100001 0, .ptr 100002 0]] [(100000, .cells (s.cells (.own (.cell 100000 0)))), (100001, .cells [.sl .imm n1 1 (u8s ys)]), (100002, .cells [.ptr 100000 0])]
    (.lit (.int .i64 (s.append ys).1)) [(100000, .cells ((s.append ys).2.cells (.own (.cell 100000 0)))), (100001, .cells [.sl .imm n1 1 (u8s ys)]), (100002, .cells [.ptr 100000 0])] := by
  have hA := append1_fn s hs n1 ys
  refine Fc.of (anys _ [61]) [] mixed Tryd.func60 rfl (by rfl) (by simp [Tryd.ntmps60]) (by decide) ?_
  simp -implicitDefEqProofs -dsimp [Tryd.ntmps60]
  refine Cnd.mk (fun h => ?_) (fun h => ?_)
  · simp [DS.append, h]
  · simp
    refine CallK.works ?_
    simp -implicitDefEqProofs -dsimp
    refine CallQ.mk hA (by simp) ?_
    simp -implicitDefEqProofs -dsimp [DS.append, h]

set_option maxRecDepth 100000 in
set_option maxHeartbeats 1000000 in
theorem append_fn (s : DS) (hs : s.Ok) (n1 : Bool) (ys : List Int) : Fc Tryd.prog 23 [.ptr 100000 0, .sl .imm n1 1 (u8s ys)] [(100000, .cells (s.cells (.own (.cell 100000 0))))]
    (.lit (.int .i64 (s.append ys).1)) [(100000, .cells ((s.append ys).2.cells (.own (.cell 100000 0))))] := by
  refine Fc.of (anys _ [60]) [] mixed Tryd.func23 rfl (by rfl) (by simp [Tryd.ntmps23]) (by decide) ?_
  simp -implicitDefEqProofs -dsimp [Tryd.ntmps23]
  refine CallK.works ?_
  simp -implicitDefEqProofs -dsimp
  refine CallQ.mk (alive1_fn s hs n1 ys) (by simp) ?_
  simp -implicitDefEqProofs -dsimp

/-- The first ones are left alone. -/
def DS.cut1 (s : DS) (n : Int) : Int × DS := if n < 0 ∨ (s.b.length : Int) < n then (1, s) else (0, { s with b := s.b.take n.toNat })
def DS.cut (s : DS) (n : Int) : Int × DS := if s.dead then (9, s) else s.cut1 n

set_option maxRecDepth 100000 in
set_option maxHeartbeats 1000000 in
theorem cut1_fn (s : DS) (n : Int) : Fc Tryd.prog 88 [.ptr 100000 0, .ptr 100001 0] [(100000, .cells [.lit (.int .i64 n)]), (100001, .cells [.ptr 100002 0]), (100002, .cells (s.cells (.own (.cell 100002 0))))]
    (.lit (.int .i64 (s.cut1 n).1)) [(100000, .cells [.lit (.int .i64 n)]), (100001, .cells [.ptr 100002 0]), (100002, .cells ((s.cut1 n).2.cells (.own (.cell 100002 0))))] := by
  obtain ⟨nl, b, room, fuse, dead⟩ := s
  refine Fc.of (anys _ []) sch88 mixed Tryd.func88 rfl (by rfl) (by simp [Tryd.ntmps88]) (by decide) ?_
  by_cases h1 : n < 0
  · simp -implicitDefEqProofs -dsimp [Tryd.ntmps88, DS.cells, h1, DS.cut1]
  · by_cases h2 : (b.length : Int) < n
    · simp -implicitDefEqProofs -dsimp [Tryd.ntmps88, DS.cells, h1, h2, DS.cut1]
    · have h3 : 0 ≤ n := by omega
      have h4 : n ≤ b.length := by omega
      have h5 : min n.toNat b.length = n.toNat := by omega
      simp [Tryd.ntmps88, DS.cells, h1, h2, h3, h4, h5, DS.cut1]

set_option maxRecDepth 100000 in
set_option maxHeartbeats 1000000 in
theorem alive2_fn (s : DS) (n : Int) : Fc Tryd.prog 60 [.ptr 100000 0, .fn (.func 88) [] [.ptr 100001 0, .ptr 100002 0]] [(100000, .cells (s.cells (.own (.cell 100000 0)))), (100001, .cells [.lit (.int .i64 n)]), (100002, .cells [.ptr 100000 0])]
    (.lit (.int .i64 (s.cut n).1)) [(100000, .cells ((s.cut n).2.cells (.own (.cell 100000 0)))), (100001, .cells [.lit (.int .i64 n)]), (100002, .cells [.ptr 100000 0])] := by
  refine Fc.of (anys _ [88]) [] mixed Tryd.func60 rfl (by rfl) (by simp [Tryd.ntmps60]) (by decide) ?_
  simp -implicitDefEqProofs -dsimp [Tryd.ntmps60]
  refine Cnd.mk (fun h => ?_) (fun h => ?_)
  · simp [DS.cut, h]
  · simp
    refine CallK.works ?_
    simp -implicitDefEqProofs -dsimp
    refine CallQ.mk (cut1_fn s n) (by simp) ?_
    simp -implicitDefEqProofs -dsimp [DS.cut, h]

set_option maxRecDepth 100000 in
set_option maxHeartbeats 1000000 in
theorem cut_fn (s : DS) (n : Int) : Fc Tryd.prog 55 [.ptr 100000 0, .lit (.int .i64 n)] [(100000, .cells (s.cells (.own (.cell 100000 0))))]
    (.lit (.int .i64 (s.cut n).1)) [(100000, .cells ((s.cut n).2.cells (.own (.cell 100000 0))))] := by
  refine Fc.of (anys _ [60]) [] mixed Tryd.func55 rfl (by rfl) (by simp [Tryd.ntmps55]) (by decide) ?_
  simp -implicitDefEqProofs -dsimp [Tryd.ntmps55]
  refine CallK.works ?_
  simp -implicitDefEqProofs -dsimp
  refine CallQ.mk (alive2_fn s n) (by simp) ?_
  simp -implicitDefEqProofs -dsimp

set_option maxRecDepth 100000 in
theorem dnew_no (room : Int) (h : room < 0 ∨ 16777216 < room) : Fc Tryd.prog 50 [.lit (.int .i64 room)] [] (.tup [.lit (.pointer none), .lit (.int .i64 1)]) [] := by
  refine Fc.of (anys _ []) [] mixed Tryd.func50 rfl (by rfl) (by simp [Tryd.ntmps50]) (by decide) ?_
  by_cases h1 : room < 0
  · simp -implicitDefEqProofs -dsimp [Tryd.ntmps50, h1]
  · have h2 : 16777216 < room := by omega
    simp [Tryd.ntmps50, h1, h2]

set_option maxRecDepth 100000 in
theorem dnew_fn (room : Int) (h : 0 ≤ room) (h2 : room ≤ 16777216) : Fc Tryd.prog 50 [.lit (.int .i64 room)] [] (.tup [.ptr 12 0, .lit (.int .i64 0)]) [(12, .cells (DS.cells ⟨true, [], room, -1, false⟩ (.own (.cell 12 0))))] := by
  refine Fc.of (anys _ []) [] mixed Tryd.func50 rfl (by rfl) (by simp [Tryd.ntmps50]) (by decide) ?_
  have h1 : ¬ room < 0 := by omega
  have h3 : ¬ 16777216 < room := by omega
  simp -implicitDefEqProofs -dsimp [Tryd.ntmps50, DS.cells, h1, h3]

end Go.Proofs.YtekokchejkjjjaaDoor

/-! The references: what their functions do. -/
namespace Go.Proofs.YtekokchejkjjjaaDoor
open Go.Sy

/-- What the document's disk has. -/
structure RS where
  nl : Bool
  b : List Int
  room : Int
  has : Bool
  fuse : Int
  dead : Bool

def RS.cells (s : RS) (o : Own) : List PV := [.sl o s.nl 1 (u8s s.b), .lit (.int .i64 s.room), .lit (.bool s.has), .lit (.int .i64 s.fuse), .lit (.bool s.dead)]
def RS.cellsO (s : RS) : Option Own → List PV
  | some o => s.cells o
  | none => [.dead, .lit (.int .i64 s.room), .lit (.bool s.has), .lit (.int .i64 s.fuse), .lit (.bool s.dead)]
@[simp] theorem rcellsO_some (s : RS) (o : Own) : s.cellsO (some o) = s.cells o := (rfl)
@[simp ↓] theorem rs_scrub (F : Own → Option Own) (p : Nat → Option Nat) (s : RS) (o : Own) : PV.scrubL F p (s.cells o) = s.cellsO (F o) := by
  simp only [RS.cells, PV.scrubL, PV.scrub, RS.cellsO]
  cases F o <;> rfl
@[simp ↓] theorem rs_lend (s : RS) (o : Own) : lendCells (s.cells o) = some (s.cells .imm) := by
  simp [RS.cells, lendCells, lendCell, Value.oneCell']
@[simp ↓] theorem rs_ids (s : RS) (o : Own) : idsOfL (s.cells o) = [] := by simp [RS.cells]
@[simp ↓] theorem rs_toks (s : RS) (t : Tk) : toksOfL (s.cells (.own t)) = [t] := by simp [RS.cells]
@[simp] theorem rs_get0 (s : RS) (o : Own) : (s.cells o)[0]? = some (.sl o s.nl 1 (u8s s.b)) := rfl
@[simp] theorem rs_get1 (s : RS) (o : Own) : (s.cells o)[1]? = some (.lit (.int .i64 s.room)) := rfl
@[simp] theorem rs_get2 (s : RS) (o : Own) : (s.cells o)[2]? = some (.lit (.bool s.has)) := rfl
@[simp] theorem rs_get3 (s : RS) (o : Own) : (s.cells o)[3]? = some (.lit (.int .i64 s.fuse)) := rfl
@[simp] theorem rs_get4 (s : RS) (o : Own) : (s.cells o)[4]? = some (.lit (.bool s.dead)) := rfl

structure RS.Ok (s : RS) : Prop where
  room0 : 0 ≤ s.room
  room : s.room ≤ 16777216
  len : (s.b.length : Int) ≤ s.room
  fuse : 0 ≤ s.fuse
  fuse' : s.fuse < 9223372036854775808

def RS.app (s : RS) (ys : List Int) : Int × RS :=
  if s.room < s.b.length + ys.length then (8, s)
  else if s.has = true ∧ s.fuse < ys.length then (9, { s with nl := (s.b ++ ys.take s.fuse.toNat).isEmpty, b := s.b ++ ys.take s.fuse.toNat, has := false, fuse := 0, dead := true })
  else (0, { s with nl := (s.b ++ ys).isEmpty, b := s.b ++ ys, fuse := if s.has = true then s.fuse - ys.length else s.fuse })
def RS.append (s : RS) (ys : List Int) : Int × RS := if s.dead = true then (9, s) else s.app ys

set_option maxRecDepth 100000 in
set_option maxHeartbeats 1000000 in
theorem rappend_fn (s : RS) (hs : s.Ok) (n1 : Bool) (ys : List Int) (hy : ys.length ≤ 100000) : Fc Tryd.prog 24 [.ptr 100000 0, .sl .imm n1 1 (u8s ys)] [(100000, .cells (s.cells (.own (.cell 100000 0))))]
    (.lit (.int .i64 (s.append ys).1)) [(100000, .cells ((s.append ys).2.cells (.own (.cell 100000 0))))] := by
  have h1 := hs.room
  have h2 := hs.len
  have h3 := hs.fuse
  have h4 := hs.fuse'
  obtain ⟨nl, b, room, has, fuse, dead⟩ := s
  simp only at h1 h2 h3 h4
  refine Fc.of (anys _ []) sch24 mixed Tryd.func24 rfl (by rfl) (by simp [Tryd.ntmps24]) (by decide) ?_
  cases dead with
  | true => simp -implicitDefEqProofs -dsimp [Tryd.ntmps24, RS.cells, RS.append]
  | false =>
    have hw : IntKind.i64.wrap ((b.length : Int) + ys.length) = (b.length : Int) + ys.length := wrap64 (by omega) (by omega)
    by_cases hf : room < (b.length : Int) + ys.length
    · simp -implicitDefEqProofs -dsimp [Tryd.ntmps24, RS.cells, RS.append, RS.app, hf, hw]
    · have hb : b.length ≤ 140737488355328 := by omega
      simp -implicitDefEqProofs -dsimp [Tryd.ntmps24, RS.cells, RS.append, hf, hw, hb]
      refine LpK.mk (anys _ []) mixed (fun (i, n, l, f) => i ≤ ys.length ∧ (has = true → (i : Int) ≤ fuse) ∧ l = b ++ ys.take i ∧ n = l.isEmpty ∧ f = if has = true then fuse - i else fuse)
        (fun ((i, n, l, f) : Nat × Bool × List Int × Int) => ⟨[(0, .ptr 100000 0), (1, .sl .imm n1 1 (u8s ys)), (5, .sl (.own (.loc 29)) n 1 (u8s l)), (6, .lit (.int .i64 i))],
        [(100000, .cells (RS.cells ⟨nl, b, room, has, f, false⟩ (.own (.cell 100000 0))))], 80⟩) (fun (i, _) => ys.length - i) (0, b.isEmpty, b, fuse) (by simp; intro; omega) (by simp -implicitDefEqProofs -dsimp [RS.cells]) ?_
      rintro ⟨i, n, l, f⟩ ⟨hi, hfu, hl, hn, hf2⟩
      have hll : l.length = b.length + i := by rw [hl]; simp; omega
      by_cases hlt : i < ys.length
      · have hw1 : IntKind.i64.wrap ((i : Int) + 1) = ((i + 1 : Nat) : Int) := wrap64 (by omega) (by omega)
        have ht : l.length + 1 ≤ 140737488355328 := by omega
        have hsn : l ++ [ys[i]] = b ++ ys.take (i + 1) := by rw [List.take_succ_eq_append_getElem hlt, hl]; simp
        cases has with
        | false =>
          simp -implicitDefEqProofs -dsimp [RS.cells, hlt, hw1, ht]
          exact .mk (i + 1, false, l ++ [ys[i]], f) ⟨by omega, by simp, hsn, by simp, hf2⟩ (by simp; omega) (by simp -implicitDefEqProofs -dsimp [ints, RS.cells])
        | true =>
          simp only [if_true] at hf2
          have := hfu rfl
          by_cases hz : f = 0
          · have e1 : fuse < ys.length := by omega
            have e2 : fuse.toNat = i := by omega
            have hA : RS.app ⟨nl, b, room, true, fuse, false⟩ ys = (9, ⟨n, l, room, false, 0, true⟩) := by simp [RS.app, hf, e1, e2, hl, hn]
            simp -implicitDefEqProofs -dsimp [RS.cells, hlt, hz, RS.append, hA]
          · have hw2 : IntKind.i64.wrap (f - 1) = f - 1 := wrap64 (by omega) (by omega)
            simp -implicitDefEqProofs -dsimp [RS.cells, hlt, hw1, hw2, ht, hz]
            exact .mk (i + 1, false, l ++ [ys[i]], f - 1) ⟨by omega, by intro; omega, hsn, by simp, by simp; omega⟩ (by simp; omega) (by simp -implicitDefEqProofs -dsimp [ints, RS.cells])
      · have hi : i = ys.length := by omega
        subst hi
        have hA : RS.app ⟨nl, b, room, has, fuse, false⟩ ys = (0, ⟨n, l, room, has, f, false⟩) := by
          have e1 : ¬ (has = true ∧ fuse < ys.length) := fun h => by have := hfu h.1; omega
          simp only [RS.app, e1, if_false, if_neg hf, hn, hl, hf2, List.take_length]
        simp -implicitDefEqProofs -dsimp [RS.cells, RS.append, hA]
end Go.Proofs.YtekokchejkjjjaaDoor

/-! Ids: their order; lists that rise; the ids of a range. -/
namespace Go.Sy
theorem bl_irrefl : ∀ x : List UInt8, Op.bytesLess x x = false
  | [] => rfl
  | a :: x => by simp [Op.bytesLess, bl_irrefl x]
theorem bl_trans : ∀ x y z : List UInt8, Op.bytesLess x y = true → Op.bytesLess y z = true → Op.bytesLess x z = true
  | _, [], _, h, _ => by simp [Op.bytesLess] at h
  | _, _ :: _, [], _, h => by simp [Op.bytesLess] at h
  | [], _ :: _, _ :: _, _, _ => rfl
  | a :: x, b :: y, c :: z, h1, h2 => by
    simp only [Op.bytesLess, Bool.or_eq_true, decide_eq_true_eq, Bool.and_eq_true, beq_iff_eq] at *
    rcases h1 with h1 | ⟨rfl, h1⟩
    · rcases h2 with h2 | ⟨rfl, h2⟩
      · exact .inl (UInt8.lt_trans h1 h2)
      · exact .inl h1
    · rcases h2 with h2 | ⟨rfl, h2⟩
      · exact .inl h2
      · exact .inr ⟨rfl, bl_trans x y z h1 h2⟩
theorem bl_tri : ∀ x y : List UInt8, Op.bytesLess x y = false → Op.bytesLess y x = false → x = y
  | [], [], _, _ => rfl
  | [], _ :: _, h, _ => by simp [Op.bytesLess] at h
  | _ :: _, [], _, h => by simp [Op.bytesLess] at h
  | a :: x, b :: y, h1, h2 => by
    simp only [Op.bytesLess, Bool.or_eq_false_iff, decide_eq_false_iff_not, Bool.and_eq_false_iff, beq_eq_false_iff_ne, ne_eq] at *
    have e : a = b := UInt8.le_antisymm (UInt8.not_lt.1 h2.1) (UInt8.not_lt.1 h1.1)
    subst e
    simp at h1 h2
    rw [bl_tri x y h1 h2]
/-- Is a text less than another one? -/
def ltS (p q : ByteArray) : Bool := Op.bytesLess p.toList q.toList
theorem lt_irrefl (p : ByteArray) : ltS p p = false := bl_irrefl _
theorem lt_trans {p q r : ByteArray} (h1 : ltS p q = true) (h2 : ltS q r = true) : ltS p r = true := bl_trans _ _ _ h1 h2
theorem lt_tri {p q : ByteArray} (h1 : ltS p q = false) (h2 : ltS q p = false) : p = q := by
  have := bl_tri _ _ h1 h2
  have h : (p.toList == q.toList) = true := by simp [this]
  rw [ba_eq] at h
  exact of_decide_eq_true h
theorem lt_asymm {p q : ByteArray} (h : ltS p q = true) : ltS q p = false := by
  cases e : ltS q p with
  | false => rfl
  | true => exact (lt_irrefl p).symm.trans (lt_trans h e) |>.symm ▸ rfl
theorem lt_ne {p q : ByteArray} (h : ltS p q = true) : p ≠ q := fun e => by rw [e, lt_irrefl] at h; cases h
theorem not_lt_le {p q r : ByteArray} (h1 : ltS p q = false) (h2 : ltS p r = true) : ltS q r = true := by
  by_cases e : p = q
  · exact e ▸ h2
  · cases h : ltS q p with
    | true => exact lt_trans h h2
    | false => exact absurd (lt_tri h1 h) e
/-- The empty text is least. -/
theorem lt_empty (p : ByteArray) : ltS p (⟨#[]⟩ : ByteArray) = false := by
  have : (⟨#[]⟩ : ByteArray).toList = [] := by rw [ByteArray.toList_eq]
  rw [ltS, this]
  cases p.toList <;> rfl
/-- A list that rises. -/
def Rise (l : List ByteArray) : Prop := l.Pairwise fun p q => ltS p q = true
section
variable {P : Program} {t : TypeId} {x y : Operand}
@[simp] theorem bin_lss_str (p q : ByteArray) : binPV P .lss t x y (.lit (.string p)) (.lit (.string q)) = some (.lit (.bool (ltS p q))) := by
  simp [binPV, valOf, eqGuard, binOp, Op.stringOp, pureOf_pure, ltS]
@[simp] theorem bin_geq_str (p q : ByteArray) : binPV P .geq t x y (.lit (.string p)) (.lit (.string q)) = some (.lit (.bool (!ltS p q))) := by
  simp [binPV, valOf, eqGuard, binOp, Op.stringOp, pureOf_pure, ltS]
end
/-- Ids, as cells. -/
def idc (l : List ByteArray) : List PV := l.map fun p => PV.lit (.string p)
@[simp] theorem idc_length (l : List ByteArray) : (idc l).length = l.length := by simp [idc]
@[simp] theorem idc_nil : idc [] = [] := rfl
@[simp] theorem idc_append (l m : List ByteArray) : idc l ++ idc m = idc (l ++ m) := by simp [idc]
@[simp] theorem idc_take (l : List ByteArray) (n : Nat) : (idc l).take n = idc (l.take n) := by simp [idc, List.map_take]
@[simp] theorem idc_drop (l : List ByteArray) (n : Nat) : (idc l).drop n = idc (l.drop n) := by simp [idc, List.map_drop]
@[simp] theorem idc_getElem (l : List ByteArray) (n : Nat) (h : n < (idc l).length) : (idc l)[n] = .lit (.string (l[n]'(by simpa using h))) := by simp [idc]
@[simp high] theorem idc_get (l : List ByteArray) (n : Nat) : (idc l)[n]? = (l[n]?).map fun p => .lit (.string p) := by simp [idc]
@[simp] theorem idc_inj {l m : List ByteArray} : idc l = idc m ↔ l = m := by
  constructor
  · intro h
    induction l generalizing m with
    | nil => cases m <;> simp [idc] at h ⊢
    | cons x l ih =>
      cases m with
      | nil => simp [idc] at h
      | cons y m =>
        simp only [idc, List.map_cons, List.cons.injEq, PV.lit.injEq, Value.string.injEq] at h
        rw [h.1, ih h.2]
  · rintro rfl; rfl
@[simp] theorem idc_nil_iff {l : List ByteArray} : idc l = [] ↔ l = [] := by cases l <;> simp [idc]
@[simp] theorem idc_empty (l : List ByteArray) : (idc l).isEmpty = l.isEmpty := by cases l <;> simp [idc]
theorem idc_data {l : List ByteArray} (x : PV) (h : x ∈ idc l) : Data x := by
  simp only [idc, List.mem_map] at h
  obtain ⟨n, _, rfl⟩ := h
  simp [Value.oneCell']
@[simp] theorem idc_allData {l : List ByteArray} : (∀ x, x ∈ idc l → Data x) = True := eq_true fun _ => idc_data _
@[simp] theorem idc_snoc (l : List ByteArray) (p : ByteArray) : idc l ++ [PV.lit (.string p)] = idc (l ++ [p]) := by simp [idc]
@[simp ↓] theorem idc_flat {l : List ByteArray} : ((idc l).all fun y => !y.isAgg) = true := by simp [idc, PV.isAgg]
@[simp] theorem lendCells_idc (l : List ByteArray) : lendCells (idc l) = some (idc l) := by
  induction l with
  | nil => rfl
  | cons n l ih =>
    show lendCells (.lit (.string n) :: idc l) = _
    simp only [lendCells, lendCell, ih]; rfl
theorem idc_cons (p : ByteArray) (l : List ByteArray) : idc (p :: l) = .lit (.string p) :: idc l := rfl
end Go.Sy

/-! Stores, as plain lists: what stands on a disk, what its parts are, what is opened. -/
namespace Go.Sy
/-- An object: its id, its bytes. -/
abbrev Objt := ByteArray × List Int
def hasO (L : List Objt) (i : ByteArray) : Bool := L.any fun o => decide (o.1 = i)
theorem hasO_iff {L : List Objt} {i : ByteArray} : hasO L i = true ↔ i ∈ L.map (·.1) := by
  simp [hasO, List.any_eq_true]
structure PartS where
  torn : Bool
  e : Int
  b : List Int
  next : Nat
section
variable (dg : List Int → ByteArray)
/-- An object on a disk. -/
def recB (b : List Int) : List Int := enc b.length ++ (b ++ (bs (dg b)).take 4)
/-- What bytes begin with. -/
def firstS (b : List Int) : PartS :=
  if (tk b).2.2 = 2 then ⟨true, 0, [], 0⟩
  else if (tk b).2.2 ≠ 0 then ⟨false, (tk b).2.2, [], 0⟩
  else if 131072 < (tk b).1 then ⟨false, 4, [], 0⟩
  else if b.length < (tk b).2.1 + (tk b).1 + 4 then ⟨true, 0, [], 0⟩
  else if (bs (dg ((b.drop (tk b).2.1).take (tk b).1))).take 4 = (b.drop ((tk b).2.1 + (tk b).1)).take 4 then ⟨false, 0, (b.drop (tk b).2.1).take (tk b).1, (tk b).2.1 + (tk b).1 + 4⟩
  else ⟨false, 12, [], 0⟩
/-- What a disk's bytes are opened as, in so many rounds: the objects, why there are none, where it is cut. -/
def openS : Nat → List Int → Nat → List Objt → List Objt × Int × Nat
  | 0, _, at', L => (L, 0, at')
  | n + 1, b, at', L =>
    if b = [] then (L, 0, at')
    else if (firstS dg b).torn = true then (L, 0, at')
    else if (firstS dg b).e ≠ 0 then (L, (firstS dg b).e, at')
    else if hasO L (dg (firstS dg b).b) = true then (L, 3, at')
    else openS n (b.drop (firstS dg b).next) (at' + (firstS dg b).next) (L ++ [(dg (firstS dg b).b, (firstS dg b).b)])
theorem firstS_next {b : List Int} (hb : InB b) (h1 : (firstS dg b).torn = false) (h2 : (firstS dg b).e = 0) : 5 ≤ (firstS dg b).next ∧ (firstS dg b).next ≤ b.length ∧ InB (firstS dg b).b ∧ (firstS dg b).b.length ≤ 131072 := by
  obtain ⟨t1, t2, t3, t4, t5, t6⟩ := tk_spec b hb
  unfold firstS at h1 h2 ⊢
  split at h1
  · cases h1
  · rename_i c1
    rw [if_neg c1] at h2
    rw [if_neg c1]
    split at h1
    · rename_i c2; rw [if_pos c2] at h2; exact absurd h2 c2
    · rename_i c2
      rw [if_neg c2] at h2
      rw [if_neg c2]
      have c2' : (tk b).2.2 = 0 := by simpa using c2
      split at h1
      · rename_i c3; rw [if_pos c3] at h2; simp at h2
      · rename_i c3
        rw [if_neg c3] at h2
        rw [if_neg c3]
        split at h1
        · cases h1
        · rename_i c4
          rw [if_neg c4] at h2
          rw [if_neg c4]
          split at h1
          · rename_i c5
            rw [if_pos c5]
            have := t6 c2'
            refine ⟨by show 5 ≤ _ + _ + 4; omega, by show _ + _ + 4 ≤ _; omega, (hb.drop _).take _, ?_⟩
            simp only [List.length_take]; omega
          · rename_i c5; rw [if_neg c5] at h2; simp at h2
/-- More rounds than bytes change nothing. -/
theorem openS_more : ∀ (n m : Nat) (b : List Int) (a : Nat) (L : List Objt), InB b → b.length ≤ n → b.length ≤ m → openS dg n b a L = openS dg m b a L := by
  intro n
  induction n with
  | zero =>
    intro m b a L hb h1 h2
    have : b = [] := List.eq_nil_of_length_eq_zero (by omega)
    subst this
    cases m <;> simp [openS]
  | succ n ih =>
    intro m b a L hb h1 h2
    cases m with
    | zero =>
      have : b = [] := List.eq_nil_of_length_eq_zero (by omega)
      subst this; simp [openS]
    | succ m =>
      rw [openS, openS]
      by_cases c0 : b = []
      · rw [if_pos c0, if_pos c0]
      · rw [if_neg c0, if_neg c0]
        by_cases c1 : (firstS dg b).torn = true
        · rw [if_pos c1, if_pos c1]
        · rw [if_neg c1, if_neg c1]
          by_cases c2 : (firstS dg b).e = 0
          · rw [if_neg (show ¬ (firstS dg b).e ≠ 0 from fun h => h c2), if_neg (show ¬ (firstS dg b).e ≠ 0 from fun h => h c2)]
            by_cases c3 : hasO L (dg (firstS dg b).b) = true
            · rw [if_pos c3, if_pos c3]
            · rw [if_neg c3, if_neg c3]
              obtain ⟨q1, q2, -⟩ := firstS_next dg hb (by simpa using c1) c2
              exact ih m _ _ _ (hb.drop _) (by simp; omega) (by simp; omega)
          · rw [if_pos c2, if_pos c2]
theorem leadE : ∀ (m n : Nat) (c : List Int), (enc n).length ≤ m → lead m (enc n ++ c) + 1 = (enc n).length
  | 0, n, c, h => absurd (enc_ne n) (by simp at h; simp [h])
  | m + 1, n, c, h => by
    by_cases hn : n < 128
    · rw [enc_lt hn, List.cons_append, lead, if_neg (by omega)]; rfl
    · rw [enc_ge (by omega)] at h ⊢
      rw [List.cons_append, lead, if_pos (by omega), leadE m (n / 128) c (by simp at h; omega)]; rfl
theorem inBE (n : Nat) : InB (enc n) := by
  induction n using enc.induct with
  | case1 n h => rw [enc_lt h]; intro x hx; simp at hx; omega
  | case2 n h ih =>
    rw [enc_ge (by omega)]
    intro x hx
    rcases List.mem_cons.1 hx with rfl | hx
    · omega
    · exact ih x hx
theorem inBA {a b : List Int} (h : InB a) (h2 : InB b) : InB (a ++ b) := fun x hx => (List.mem_append.1 hx).elim (h x) (h2 x)
theorem tkE (n : Nat) (h : n < 18446744073709551616) (c : List Int) (hc : InB c) : tk (enc n ++ c) = (n, (enc n).length, 0) := by
  have hl := enc_u64 h
  have e := leadE 10 n c hl
  obtain ⟨h1, h2, h3, h4⟩ := lead_spec 10 (enc n ++ c)
  have hb : InB (enc n ++ c) := inBA (inBE n) hc
  have hk : lead 10 (enc n ++ c) < (enc n ++ c).length := by simp only [List.length_append]; omega
  have ht : (enc n ++ c).take (lead 10 (enc n ++ c) + 1) = enc n := by rw [e]; simp
  have hf := (form_iff (fun x hx => hb x hx) hk (by omega) (fun i h hi => h3 i h hi) (h4 (by omega) hk)).1 (by rw [ht, val_enc, Nat.mod_eq_of_lt h])
  have hg : (enc n ++ c).getD (lead 10 (enc n ++ c)) 0 = (enc n ++ c)[lead 10 (enc n ++ c)] := by
    rw [List.getD_eq_getElem?_getD, List.getElem?_eq_getElem hk]; rfl
  unfold tk
  rw [hg, if_neg (by omega), if_neg (by omega), if_neg hf, ht, e, val_enc]
/-- A front of a number is short. -/
theorem leadP : ∀ (m n j : Nat), j < (enc n).length → j ≤ m → lead m ((enc n).take j) = j
  | m, n, 0, _, _ => by cases m <;> simp [lead]
  | 0, n, j + 1, _, h => by omega
  | m + 1, n, j + 1, h, hm => by
    by_cases hn : n < 128
    · rw [enc_lt hn] at h; simp at h
    · rw [enc_ge (by omega)] at h ⊢
      rw [List.take_succ_cons, lead, if_pos (by omega), leadP m (n / 128) j (by simpa using h) (by omega)]
theorem tkP (n j : Nat) (h : n < 18446744073709551616) (hj : j < (enc n).length) : (tk ((enc n).take j)).2.2 = 2 := by
  have hl := enc_u64 h
  have e := leadP 10 n j hj (by omega)
  have hlen : ((enc n).take j).length = j := by simp; omega
  unfold tk
  rw [e, hlen, if_neg (by omega), if_pos rfl]

variable (hd : ∀ b, 4 ≤ (dg b).size)
include hd
theorem tail4 (b : List Int) : ((bs (dg b)).take 4).length = 4 := by
  have := hd b
  rw [List.length_take, bs_length]; omega
theorem recB_length (b : List Int) : (recB dg b).length = (enc b.length).length + b.length + 4 := by
  have := tail4 dg hd b
  simp only [recB, List.length_append]; omega
omit hd in
theorem inB_recB {b : List Int} (h : InB b) : InB (recB dg b) := inBA (inBE _) (inBA h ((inB_bs _).take _))
theorem first_rec {b : List Int} (hb : InB b) (hl : b.length ≤ 131072) {c : List Int} (hc : InB c) : firstS dg (recB dg b ++ c) = ⟨false, 0, b, (recB dg b).length⟩ := by
  have h4 := tail4 dg hd b
  have ht : tk (recB dg b ++ c) = (b.length, (enc b.length).length, 0) := by
    unfold recB
    rw [List.append_assoc]
    exact tkE b.length (by omega) _ (inBA (inBA hb ((inB_bs _).take _)) hc)
  have hlen := recB_length dg hd b
  have e1 : ((recB dg b ++ c).drop (enc b.length).length).take b.length = b := by
    unfold recB; simp
  have e2 : ((recB dg b ++ c).drop ((enc b.length).length + b.length)).take 4 = (bs (dg b)).take 4 := by
    unfold recB
    rw [← List.drop_drop]
    simp only [List.append_assoc, List.drop_left]
    rw [show (4 : Nat) = ((bs (dg b)).take 4).length from h4.symm]
    simp
  unfold firstS
  rw [ht]
  simp only [e1, e2]
  rw [if_neg (by decide), if_neg (by simp), if_neg (by omega), if_neg (by simp only [List.length_append]; omega), if_pos trivial, hlen]
theorem first_torn {b : List Int} (hb : InB b) (hl : b.length ≤ 131072) {j : Nat} (hj : j < (recB dg b).length) : (firstS dg ((recB dg b).take j)).torn = true := by
  have h4 := tail4 dg hd b
  have hlen := recB_length dg hd b
  rcases Nat.lt_or_ge j (enc b.length).length with h | h
  · have e : (recB dg b).take j = (enc b.length).take j := by unfold recB; rw [List.take_append_of_le_length (by omega)]
    have := tkP b.length j (by omega) h
    unfold firstS
    rw [e, if_pos this]
  · have e : (recB dg b).take j = enc b.length ++ (b ++ (bs (dg b)).take 4).take (j - (enc b.length).length) := by
      unfold recB; rw [List.take_append, List.take_of_length_le h]
    have ht : tk ((recB dg b).take j) = (b.length, (enc b.length).length, 0) := by
      rw [e]; exact tkE b.length (by omega) _ ((inBA hb ((inB_bs _).take _)).take _)
    unfold firstS
    rw [ht]
    simp only
    rw [if_neg (by decide), if_neg (by simp), if_neg (by omega), if_pos (by rw [List.length_take]; omega)]
/-- What stands on a disk that has objects. -/
def recs (L : List Objt) : List Int := L.flatMap fun o => recB dg o.2
omit hd in
theorem recs_append (L M : List Objt) : recs dg (L ++ M) = recs dg L ++ recs dg M := by simp [recs]
structure Kept (L : List Objt) : Prop where
  id : ∀ o, o ∈ L → o.1 = dg o.2
  bytes : ∀ o, o ∈ L → InB o.2
  len : ∀ o, o ∈ L → o.2.length ≤ 131072
  apart : (L.map (·.1)).Nodup
omit hd in
theorem inB_recs {L : List Objt} (h : ∀ o, o ∈ L → InB o.2) : InB (recs dg L) := fun x hx => by
  obtain ⟨o, ho, hx⟩ := List.mem_flatMap.1 hx
  exact inB_recB dg (h o ho) x hx
theorem open_kept : ∀ (M L : List Objt) (a n : Nat) (p : List Int), Kept dg (L ++ M) → InB p → (p = [] ∨ (firstS dg p).torn = true) → (recs dg M ++ p).length ≤ n → openS dg n (recs dg M ++ p) a L = (L ++ M, 0, a + (recs dg M).length)
  | [], L, a, n, p, _, hp, h, hn => by
    simp only [recs, List.flatMap_nil, List.nil_append, List.append_nil, List.length_nil, Nat.add_zero] at *
    cases n with
    | zero => simp [openS]
    | succ n =>
      rw [openS]
      by_cases c : p = []
      · rw [if_pos c]
      · rw [if_neg c, if_pos (h.resolve_left c)]
  | o :: M, L, a, n, p, hk, hp, h, hn => by
    have hob : InB o.2 := hk.bytes o (by simp)
    have hol := hk.len o (by simp)
    have hoi := hk.id o (by simp)
    have hrest : InB (recs dg M ++ p) := inBA (inB_recs dg fun q hq => hk.bytes q (by simp [hq])) hp
    have hf := first_rec dg hd hob hol hrest
    have e : recs dg (o :: M) ++ p = recB dg o.2 ++ (recs dg M ++ p) := by simp [recs]
    have hlen := recB_length dg hd o.2
    rw [e] at hn ⊢
    simp only [List.length_append] at hn
    have ha : ¬ hasO L (dg o.2) = true := by
      rw [hasO_iff]
      have := hk.apart
      rw [List.map_append, List.nodup_append] at this
      intro hm
      exact this.2.2 _ hm _ (by simp) hoi.symm
    cases n with
    | zero => omega
    | succ n =>
      rw [openS, if_neg (by intro h0; have := congrArg List.length h0; simp only [List.length_append, List.length_nil] at this; omega), hf]
      simp only
      rw [if_neg (by simp), if_neg (by simp), if_neg ha, List.drop_left]
      have hk' : Kept dg ((L ++ [(dg o.2, o.2)]) ++ M) := by
        have : (dg o.2, o.2) = o := by rw [← hoi]
        rw [this]; simpa using hk
      rw [open_kept M (L ++ [(dg o.2, o.2)]) (a + (recB dg o.2).length) n p hk' hp h (by simp only [List.length_append]; omega)]
      have : (dg o.2, o.2) = o := by rw [← hoi]
      rw [this]
      simp only [recs, List.flatMap_cons, List.length_append, List.append_assoc, List.singleton_append, Nat.add_assoc]
end
end Go.Sy

/-! Stores: the map of what they have. -/
namespace Go.Sy
/-- The entries of a map from ids to bytes. -/
def objE (L : List Objt) : List (PV × PV) := L.map fun o => (.lit (.string o.1), .sl .imm false 1 (u8s o.2))
@[simp] theorem objE_nil : objE [] = [] := (rfl)
@[simp] theorem objE_length (L : List Objt) : (objE L).length = L.length := by simp [objE]
@[simp] theorem objE_get? (L : List Objt) (j : Nat) : (objE L)[j]? = L[j]?.map fun o => (.lit (.string o.1), .sl .imm false 1 (u8s o.2)) := by simp [objE]
@[simp] theorem objE_get (L : List Objt) (j : Nat) (h : j < (objE L).length) : (objE L)[j] = (.lit (.string (L[j]'(by simpa using h)).1), .sl .imm false 1 (u8s (L[j]'(by simpa using h)).2)) := by simp [objE]
theorem keyC_str (s : ByteArray) : (s.data.toList.map fun c => (c.toNat : Int)) = bs s := rfl
def fndO (L : List Objt) (i : ByteArray) : Option Nat := L.findIdx? fun o => decide (o.1 = i)
@[simp] theorem findC_objE (i : ByteArray) (L : List Objt) : findC (bs i) (objE L) = fndO L i := by
  unfold findC objE fndO
  rw [List.findIdx?_map]
  congr 1; funext o
  show decide (bs o.1 = bs i) = decide (o.1 = i)
  rw [decide_eq_decide]; exact bs_inj
theorem fnd_none {L : List Objt} {i : ByteArray} : fndO L i = none ↔ hasO L i = false := by
  simp [fndO, hasO, List.findIdx?_eq_none_iff]
theorem fnd_some {L : List Objt} {i : ByteArray} (h : hasO L i = true) : ∃ j o, fndO L i = some j ∧ L[j]? = some o ∧ o.1 = i := by
  cases hf : fndO L i with
  | none => rw [fnd_none.1 hf] at h; cases h
  | some j =>
    obtain ⟨h1, h2, -⟩ := List.findIdx?_eq_some_iff_getElem.1 hf
    exact ⟨j, L[j], rfl, List.getElem?_eq_getElem h1, by simpa using h2⟩
/-- The bytes of an id, if it is there. -/
def getB (L : List Objt) (i : ByteArray) : List Int := match fndO L i with
  | some j => (L[j]?.map (·.2)).getD []
  | none => []
@[simp] theorem keysB_objE {P : Program} {kt : TypeId} (h : P.underlying kt = some .string) (L : List Objt) : keysB P kt (objE L) = true := by
  rw [keysB, List.all_eq_true]
  intro x hx
  simp only [objE, List.mem_map] at hx
  obtain ⟨o, _, rfl⟩ := hx
  simp [keyB, h, isStr]
def objO (L : List Objt) : Option Own → List (PV × PV)
  | some o => L.map fun q => (.lit (.string q.1), .sl o false 1 (u8s q.2))
  | none => L.map fun q => (.lit (.string q.1), .dead)
@[simp] theorem objO_imm (L : List Objt) : objO L (some .imm) = objE L := (rfl)
@[simp ↓] theorem objE_scrub (F : Own → Option Own) (p : Nat → Option Nat) (L : List Objt) : scrubM F p (objE L) = objO L (F .imm) := by
  cases h : F .imm with
  | none =>
    apply List.ext_getElem
    · simp [scrubM, objE, objO]
    · intro j h1 h2
      simp [scrubM, objE, objO, PV.scrub, h, ints, scrubL_eq, Function.comp_def]
  | some o =>
    apply List.ext_getElem
    · simp [scrubM, objE, objO]
    · intro j h1 h2
      simp [scrubM, objE, objO, PV.scrub, h, ints, scrubL_eq, Function.comp_def]
@[simp ↓] theorem toksM_objE (L : List Objt) : toksM (objE L) = [] := by
  induction L with
  | nil => rfl
  | cons o L ih =>
    have : objE (o :: L) = (.lit (.string o.1), .sl .imm false 1 (u8s o.2)) :: objE L := rfl
    rw [this, toksM, ih]
    simp [toksOf]
@[simp] theorem objE_new {L : List Objt} {i : ByteArray} {b : List Int} {z : PV} : putV (objE L ++ [(.lit (.string i), z)]) L.length (.sl .imm false 1 (u8s b)) = objE (L ++ [(i, b)]) := by
  apply List.ext_getElem
  · simp [putV]
  · intro j h1 h2
    have hj : j < L.length + 1 := by simpa using h2
    by_cases e : j < L.length
    · have e' : ¬ L.length = j := by omega
      simp [putV, objE, List.getElem_modify, List.getElem_append, e, e']
    · have e' : j = L.length := by omega
      subst e'
      simp [putV, objE, List.getElem_modify, List.getElem_append]
end Go.Sy

/-! Stores: what is put, and what is opened again, on disks as plain values. -/
namespace Go.Proofs.YtekokchejkjjjaaDoor
open Go.Sy
section
variable (dg : List Int → ByteArray)
/-- What is told of an object that is put; the disk, and what the store has, behind it. -/
def putS (d : DS) (L : List Objt) (b : List Int) : (ByteArray × Int) × DS × List Objt :=
  if hasO L (dg b) = true then ((dg b, 0), d, L)
  else if (d.append (recB dg b)).1 ≠ 0 then ((⟨#[]⟩, (d.append (recB dg b)).1), (d.append (recB dg b)).2, L)
  else ((dg b, 0), (d.append (recB dg b)).2, L ++ [(dg b, b)])
/-- What a store stands on. -/
structure Inv (d : DS) (L : List Objt) : Prop where
  ok : d.Ok
  kept : Kept dg L
  tail : ∃ p, d.b = recs dg L ++ p ∧ InB p ∧ (p = [] ∨ (firstS dg p).torn = true) ∧ (d.dead = false → p = [])
theorem app_ok {s : DS} (h : s.Ok) (ys : List Int) : (s.append ys).2.Ok := by
  obtain ⟨h1, h2, h3, h4, h5, h6⟩ := id h
  unfold DS.append DS.app DS.left
  split
  · exact h
  · split
    · exact h
    · rename_i hl
      split
      · exact ⟨h1, h2, by simp; omega, h4, h5, fun e => by simp at e; simp [h6 e.1, e.2]⟩
      · split
        · refine ⟨h1, h2, ?_, by simp, by simp, fun e => ?_⟩
          · simp; omega
          · simp only [Bool.and_eq_true] at e
            simp only [h6 e.1, List.nil_append]
            simpa using e.2
        · exact ⟨h1, h2, by simp; omega, by simp; omega, by simp; omega, fun e => by simp at e; simp [h6 e.1, e.2]⟩
variable (hd : ∀ b, 4 ≤ (dg b).size)
include hd
theorem put_inv {d : DS} {L : List Objt} (h : Inv dg d L) {b : List Int} (hb : InB b) (hl : b.length ≤ 131072) : Inv dg (putS dg d L b).2.1 (putS dg d L b).2.2 := by
  obtain ⟨ho, hk, p, hp, hpb, hpt, hpd⟩ := h
  have hok := app_ok ho (recB dg b)
  unfold putS
  by_cases h1 : hasO L (dg b) = true
  · rw [if_pos h1]; exact ⟨ho, hk, p, hp, hpb, hpt, hpd⟩
  · rw [if_neg h1]
    have hk2 : Kept dg (L ++ [(dg b, b)]) := by
      refine ⟨fun o ho => ?_, fun o ho => ?_, fun o ho => ?_, ?_⟩
      · rcases List.mem_append.1 ho with ho | ho
        · exact hk.id o ho
        · simp at ho; subst ho; rfl
      · rcases List.mem_append.1 ho with ho | ho
        · exact hk.bytes o ho
        · simp at ho; subst ho; exact hb
      · rcases List.mem_append.1 ho with ho | ho
        · exact hk.len o ho
        · simp at ho; subst ho; exact hl
      · rw [List.map_append, List.nodup_append]
        refine ⟨hk.apart, by simp, fun x hx y hy e => ?_⟩
        simp only [List.map_cons, List.map_nil, List.mem_singleton] at hy
        subst hy; subst e
        exact h1 (hasO_iff.2 hx)
    have hr : recs dg (L ++ [(dg b, b)]) = recs dg L ++ recB dg b := by rw [recs_append]; simp [recs]
    cases hdd : d.dead with
    | true =>
      have e : d.append (recB dg b) = (9, d) := by rw [DS.append, if_pos hdd]
      rw [e, if_pos (show (9 : Int) ≠ 0 by decide)]
      exact ⟨ho, hk, p, hp, hpb, hpt, hpd⟩
    | false =>
      have e : d.append (recB dg b) = d.app (recB dg b) := by rw [DS.append, if_neg (by simp [hdd])]
      have hp0 := hpd hdd
      subst hp0
      rw [List.append_nil] at hp
      rw [e] at hok ⊢
      unfold DS.app at hok ⊢
      by_cases c1 : d.left < (recB dg b).length
      · rw [if_pos c1, if_pos (show (8 : Int) ≠ 0 by decide)]
        exact ⟨ho, hk, [], by rw [hp, List.append_nil], by simp, .inl rfl, fun _ => rfl⟩
      · rw [if_neg c1] at hok ⊢
        by_cases c2 : d.fuse = -1
        · rw [if_pos c2] at hok ⊢
          rw [if_neg (show ¬ (0 : Int) ≠ 0 by decide)]
          exact ⟨hok, hk2, [], by simp [hr, hp], by simp, .inl rfl, fun _ => rfl⟩
        · rw [if_neg c2] at hok ⊢
          by_cases c3 : d.fuse < (recB dg b).length
          · rw [if_pos c3] at hok ⊢
            rw [if_pos (show (9 : Int) ≠ 0 by decide)]
            have hf := ho.fuse
            exact ⟨hok, hk, (recB dg b).take d.fuse.toNat, by simp [hp], (inB_recB dg hb).take _, .inr (first_torn dg hd hb hl (by omega)), fun h => by simp at h⟩
          · rw [if_neg c3] at hok ⊢
            rw [if_neg (show ¬ (0 : Int) ≠ 0 by decide)]
            exact ⟨hok, hk2, [], by simp [hr, hp], by simp, .inl rfl, fun _ => rfl⟩
/-- A store that is opened again has what it had. -/
theorem open_inv {d : DS} {L : List Objt} (h : Inv dg d L) {n : Nat} (hn : d.b.length ≤ n) : openS dg n d.b 0 [] = (L, 0, (recs dg L).length) ∧ d.b.take (recs dg L).length = recs dg L := by
  obtain ⟨ho, hk, p, hp, hpb, hpt, hpd⟩ := h
  rw [hp] at hn ⊢
  refine ⟨?_, List.take_left⟩
  have := open_kept dg hd L [] 0 n p (by simpa using hk) hpb hpt hn
  simpa using this
end
end Go.Proofs.YtekokchejkjjjaaDoor
