/- Operations on disks. -/
import Derived.Test.YtgpcphddjapceaaDc
namespace Go.Proofs.Ytgpcphddjapceaa
open Go.Sy

def RS.cut (s : RS) (n : Int) : Int × RS := if s.dead = true then (9, s) else if n < 0 ∨ (s.b.length : Int) < n then (1, s) else (0, { s with nl := false, b := s.b.take n.toNat })

set_option maxRecDepth 100000 in
set_option maxHeartbeats 1000000 in
theorem rcut_fn (s : RS) (hs : s.Ok) (n : Int) : Fc Try.prog 49 [.ptr 100000 0, .lit (.int .i64 n)] [(100000, .cells (s.cells (.own (.cell 100000 0))))]
    (.lit (.int .i64 (s.cut n).1)) [(100000, .cells ((s.cut n).2.cells (.own (.cell 100000 0))))] := by
  have h1 := hs.room
  have h2 := hs.len
  obtain ⟨nl, b, room, has, fuse, dead⟩ := s
  simp only at h1 h2
  refine Fc.of (anys _ []) [] mixed Try.func49 rfl (by rfl) (by simp [Try.ntmps49]) (by decide) ?_
  cases dead with
  | true => simp -implicitDefEqProofs -dsimp [Try.ntmps49, RS.cells, RS.cut]
  | false =>
    by_cases hn : n < 0
    · simp -implicitDefEqProofs -dsimp [Try.ntmps49, RS.cells, RS.cut, hn]
    · by_cases hn2 : (b.length : Int) < n
      · simp -implicitDefEqProofs -dsimp [Try.ntmps49, RS.cells, RS.cut, hn, hn2]
      · have e1 : 0 ≤ n := by omega
        have e2 : n ≤ b.length := by omega
        have e3 : min n.toNat b.length = n.toNat := by omega
        have e4 : n.toNat ≤ 140737488355328 := by omega
        simp -implicitDefEqProofs -dsimp [Try.ntmps49, RS.cells, RS.cut, hn, hn2, e1, e2, e3, e4]

/-- An operation. -/
structure OpS where
  kind : Int
  nl : Bool
  b : List Int
  n : Int
def OpS.row (o : OpS) : List PV := [.lit (.int .u8 o.kind), .sl .imm o.nl 1 (u8s o.b), .lit (.int .i64 o.n)]
def OpS.pv (o : OpS) : PV := .agg o.row

def RS.doOp (s : RS) (o : OpS) : Int × RS :=
  if o.kind = 0 then s.append o.b
  else if o.kind = 1 then s.cut o.n
  else if o.kind = 2 then (0, { s with has := decide (0 ≤ o.n), fuse := max 0 o.n })
  else if o.kind = 3 then (0, { s with dead := false, has := false })
  else (0, s)
def DS.doOp (s : DS) (o : OpS) : Int × DS :=
  if o.kind = 0 then s.append o.b
  else if o.kind = 1 then s.cut o.n
  else if o.kind = 2 then (0, { s with fuse := max (-1) o.n })
  else if o.kind = 3 then (0, { s with dead := false, fuse := -1 })
  else (0, s)

set_option maxRecDepth 100000 in
set_option maxHeartbeats 1000000 in
theorem rdo_fn (s : RS) (hs : s.Ok) (o : OpS) (hb : o.b.length ≤ 100) : Fc Try.prog 23 [.ptr 100000 0, o.pv] [(100000, .cells (s.cells (.own (.cell 100000 0))))]
    (.lit (.int .i64 (s.doOp o).1)) [(100000, .cells ((s.doOp o).2.cells (.own (.cell 100000 0))))] := by
  have hA := rappend_fn s hs o.nl o.b hb
  have hC := rcut_fn s hs o.n
  refine Fc.of (anys _ [48, 49]) [] mixed Try.func23 rfl (by rfl) (by simp [Try.ntmps23]) (by decide) ?_
  obtain ⟨kind, nl, b, n⟩ := o
  by_cases h0 : kind = 0
  · simp -implicitDefEqProofs -dsimp [Try.ntmps23, OpS.pv, OpS.row, RS.doOp, h0]
    refine CallK.works ?_
    simp -implicitDefEqProofs -dsimp
    refine CallQ.same hA rfl ?_
    simp -implicitDefEqProofs -dsimp
  · by_cases h1 : kind = 1
    · simp -implicitDefEqProofs -dsimp [Try.ntmps23, OpS.pv, OpS.row, RS.doOp, h1]
      refine CallK.works ?_
      simp -implicitDefEqProofs -dsimp
      refine CallQ.same hC rfl ?_
      simp -implicitDefEqProofs -dsimp
    · by_cases h2 : kind = 2
      · simp -implicitDefEqProofs -dsimp [Try.ntmps23, OpS.pv, OpS.row, RS.doOp, h2, RS.cells, litL, max_i64]
      · by_cases h3 : kind = 3
        · simp -implicitDefEqProofs -dsimp [Try.ntmps23, OpS.pv, OpS.row, RS.doOp, h3, RS.cells]
        · simp -implicitDefEqProofs -dsimp [Try.ntmps23, OpS.pv, OpS.row, RS.doOp, h0, h1, h2, h3]

set_option maxRecDepth 100000 in
set_option maxHeartbeats 1000000 in
theorem do_fn (s : DS) (hs : s.Ok) (o : OpS) : Fc Try.prog 22 [.ptr 100000 0, o.pv] [(100000, .cells (s.cells (.own (.cell 100000 0))))]
    (.lit (.int .i64 (s.doOp o).1)) [(100000, .cells ((s.doOp o).2.cells (.own (.cell 100000 0))))] := by
  have hA := append_fn s hs o.nl o.b
  have hC := cut_fn s o.n
  refine Fc.of (anys _ [17, 47, 27, 26]) [] mixed Try.func22 rfl (by rfl) (by simp [Try.ntmps22]) (by decide) ?_
  obtain ⟨kind, nl, b, n⟩ := o
  by_cases h0 : kind = 0
  · simp -implicitDefEqProofs -dsimp [Try.ntmps22, OpS.pv, OpS.row, DS.doOp, h0]
    refine CallK.works ?_
    simp -implicitDefEqProofs -dsimp
    refine CallQ.same hA rfl ?_
    simp -implicitDefEqProofs -dsimp
  · by_cases h1 : kind = 1
    · simp -implicitDefEqProofs -dsimp [Try.ntmps22, OpS.pv, OpS.row, DS.doOp, h1]
      refine CallK.works ?_
      simp -implicitDefEqProofs -dsimp
      refine CallQ.same hC rfl ?_
      simp -implicitDefEqProofs -dsimp
    · by_cases h2 : kind = 2
      · simp -implicitDefEqProofs -dsimp [Try.ntmps22, OpS.pv, OpS.row, DS.doOp, h2]
        refine CallK.works ?_
        simp -implicitDefEqProofs -dsimp
        refine CallQ.same (fuse_fn s n) rfl ?_
        simp -implicitDefEqProofs -dsimp
      · by_cases h3 : kind = 3
        · simp -implicitDefEqProofs -dsimp [Try.ntmps22, OpS.pv, OpS.row, DS.doOp, h3]
          refine CallK.works ?_
          simp -implicitDefEqProofs -dsimp
          refine CallQ.same (start_fn s) rfl ?_
          simp -implicitDefEqProofs -dsimp
        · simp -implicitDefEqProofs -dsimp [Try.ntmps22, OpS.pv, OpS.row, DS.doOp, h0, h1, h2, h3]

def fewOps (l : List OpS) : Bool := l.all (fun o => decide (o.b.length ≤ 40)) && decide (l.length ≤ 40)

set_option maxRecDepth 100000 in
set_option maxHeartbeats 1000000 in
theorem few_fn (nl : Bool) (l : List OpS) (hl : l.length ≤ 9223372036854775807) : Fc Try.prog 21 [.sl .imm nl 3 (l.map OpS.pv)] [] (.lit (.bool (fewOps l))) [] := by
  refine Fc.of (anys _ []) [] mixed Try.func21 rfl (by rfl) (by simp [Try.ntmps21]) (by decide) ?_
  simp -implicitDefEqProofs -dsimp [Try.ntmps21]
  refine LpK.mk (anys _ []) mixed (fun i : Nat => i ≤ l.length ∧ (l.take i).all (fun o => decide (o.b.length ≤ 40)) = true) (fun i => ⟨[(0, .sl .imm nl 3 (l.map OpS.pv)), (3, .lit (.int .i64 i))], [], 20⟩) (fun i => l.length - i) 0 (by simp) (by simp -implicitDefEqProofs -dsimp) ?_
  rintro i ⟨hi, ht⟩
  by_cases hlt : i < l.length
  · have hw : IntKind.i64.wrap ((i : Int) + 1) = ((i + 1 : Nat) : Int) := wrap64 (by omega) (by omega)
    by_cases h40 : 40 < (l[i].b.length : Int)
    · have hF : fewOps l = false := by
        simp only [fewOps, Bool.and_eq_false_iff, List.all_eq_false]
        exact .inl ⟨l[i], List.getElem_mem hlt, by simp; omega⟩
      simp -implicitDefEqProofs -dsimp [hlt, OpS.pv, OpS.row, h40, hF]
    · simp -implicitDefEqProofs -dsimp [hlt, OpS.pv, OpS.row, h40, hw]
      refine .mk (i + 1) ⟨by omega, ?_⟩ (by omega) (by simp -implicitDefEqProofs -dsimp [OpS.pv, OpS.row])
      rw [List.take_succ_eq_append_getElem hlt, List.all_append, ht]
      simp; omega
  · have hi : i = l.length := by omega
    subst hi
    rw [List.take_length] at ht
    have e : decide ((l.length : Int) ≤ 40) = decide (l.length ≤ 40) := by rw [decide_eq_decide]; omega
    simp -implicitDefEqProofs -dsimp [fewOps, ht, e]
end Go.Proofs.Ytgpcphddjapceaa
