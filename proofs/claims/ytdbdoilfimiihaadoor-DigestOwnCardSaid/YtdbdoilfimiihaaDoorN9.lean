/- Digests: written in parts. (and what stands on it) -/
import Derived.Test.YtdbdoilfimiihaaDoorN8
import Derived.Test.YtdbdoilfimiihaaDoorN4
set_option linter.unusedSimpArgs false
set_option linter.unusedVariables false

/-! Digests: written in parts. -/
namespace Go.Sy
theorem absB_append (p x : List Int) (S : List Int) : absB S (p ++ x) = absB (absB S p).1 ((absB S p).2 ++ x) := by
  by_cases h : 64 ≤ p.length
  · have e1 : absB S p = absB (bhd (p.take 64) S) (p.drop 64) := by rw [absB, if_pos h]
    have e2 : absB S (p ++ x) = absB (bhd (p.take 64) S) (p.drop 64 ++ x) := by
      rw [absB, if_pos (by simp; omega), List.take_append_of_le_length h, List.drop_append_of_le_length h]
    rw [e1, e2]
    exact absB_append (p.drop 64) x _
  · have e1 : absB S p = (S, p) := by rw [absB, if_neg h]
    rw [e1]
termination_by p.length
decreasing_by simp; omega
end Go.Sy
namespace Go.Proofs.YtdbdoilfimiihaaDoor
open Go.Sy
/-- Is nothing left over? -/
def nz (p x : List Int) : Bool := decide ((absB st0 p).2 ++ x = [])
theorem nz_rest {p x y : List Int} (hy : p ++ x = y) (h : nz p x = true) : (absB st0 y).2 = [] := by
  have h1 : (absB st0 p).2 ++ x = [] := by simpa [nz] using h
  rw [← hy, absB_append, h1, absB, if_neg (by simp)]

theorem write_law (p x y : List Int) (m m' : Int) (nl n2 : Bool) (hy : p ++ x = y) (hm : m = p.length) (hm' : m' = y.length) (hl : y.length ≤ 1000000) :
    Fc Tryd.prog 6 [.ptr 100000 0, .sl .imm n2 1 (u8s x)] [(100000, .cells (sv (absB st0 p).1 ++ [.sl (.own (.cell 100000 8)) nl 1 (u8s (absB st0 p).2), .lit (.int .u64 m)]))] (.tup [])
      [(100000, .cells (sv (absB st0 y).1 ++ [.sl (.own (.cell 100000 8)) (nz p x) 1 (u8s (absB st0 y).2), .lit (.int .u64 m')]))] := by
  have hS := absB_length (S := st0) (l := p) rfl
  have hyl : y.length = p.length + x.length := by rw [← hy]; simp
  have hw : IntKind.u64.wrap (m + x.length) = m' := by rw [wrap_is_u64]; omega
  have ha : absB st0 y = absB (absB st0 p).1 ((absB st0 p).2 ++ x) := by rw [← hy, absB_append]
  by_cases h : (absB st0 p).2 ++ x = []
  · have h2 := List.append_eq_nil_iff.1 h
    have hz : nz p x = true := by simp [nz, h]
    have hb : absB st0 y = ((absB st0 p).1, []) := by rw [ha, h, absB, if_neg (by simp)]
    have := write0_fn (absB st0 p).1 m nl n2 hS
    rw [hz, hb, h2.1, h2.2]
    rw [h2.2] at hw
    simp only [List.length_nil, Int.ofNat_zero, Int.natCast_zero] at hw
    rwa [hw] at this
  · have hz : nz p x = false := by simp [nz] at h ⊢; exact h
    have hr : (absB st0 p).2.length < 64 := absB_rest
    have h3 : 0 < (absB st0 p).2.length + x.length := by
      have := List.length_pos_iff.2 h
      simpa using this
    have := write_fn (absB st0 p).1 (absB st0 p).2 x m nl n2 hS h3 (by omega)
    rw [hz, ha]
    rwa [hw] at this
theorem sum_law (p : List Int) (m : Int) (nl : Bool) (hn : nl = true → (absB st0 p).2 = []) (hm : m = p.length) :
    Fc Tryd.prog 7 [.ptr 100000 0] [(100000, .cells (sv (absB st0 p).1 ++ [.sl (.own (.cell 100000 8)) nl 1 (u8s (absB st0 p).2), .lit (.int .u64 m)]))] (.lit (.string (digOf p)))
      [(100000, .cells (sv (absB st0 p).1 ++ [.sl (.own (.cell 100000 8)) nl 1 (u8s (absB st0 p).2), .lit (.int .u64 m)]))] := by
  have := sum_fn (absB st0 p).1 (absB st0 p).2 m nl hn (absB_length rfl) absB_rest
  rw [digOf, ← hm]; exact this
end Go.Proofs.YtdbdoilfimiihaaDoor

/-! The law DigestOwn. -/
namespace Go.Sy
/-- What a call leaves may be held as memory that turns no more. -/
theorem Fc.fz {P : Program} {k : FuncId} {al : List PV} {h : List (Nat × Ob)} {x : PV} {h1 : List (Nat × Ob)} (hf : Fc P k al h x h1) (ts : List Tk) : Fc P k al h (x.scrub (Ffz (fzOf ts)) some) (scrubO (Ffz (fzOf ts)) some h1) := by
  refine ⟨hf.ok, fun g w vs a1 a2 a3 => CallsIn.mono (hf.run g w vs a1 a2 a3) ?_⟩
  rintro e w' ⟨v, y, g', h', rfl, ⟨rfl, rfl⟩, b1, b2, b3, b4⟩
  have hs0 : Sim g' ⟨[], h', 0⟩ ⟨#[], []⟩ w' := ⟨fun s => by show Rep g' w' .dead _; exact .dead _, rfl, b2⟩
  exact ⟨v, _, g'.fz (fzOf ts), _, rfl, ⟨rfl, rfl⟩, b1.scrub (Turns.fz b3 (fzOf ts)), (hs0.fz b3 (fzOf ts)).heap, b3.fz _, b4.trans (Ext.fz g' _ w')⟩
/-- What a call makes of what it reads, it makes of what is lent. -/
theorem Fc.lent {P : Program} {k : FuncId} {al bs : List PV} {x : PV} {h1 : List (Nat × Ob)} (hf : Fc P k bs [] x h1) (hl : lendL [] al = some bs) (hr : Fr x) (hW : (wayR none x).ok = true) :
    Fc P k al [] (x.scrub (Fren (wayR none x).outT) (fun _ => none)) [] := by
  refine ⟨hf.ok, fun g w vs a1 a2 a3 => CallsIn.mono (CallT.fresh _ hW (hf.run.mono fun _ _ h => h.1) hl hr g w vs a1 a2 a3) ?_⟩
  rintro e w' ⟨v, g', rfl, b1, b2, b3, b4, b5⟩
  exact ⟨v, _, g', [], rfl, ⟨rfl, rfl⟩, b3, fun p ob hp => (by simp [getO] at hp), b4, b5⟩
end Go.Sy
namespace Go.Proofs.YtdbdoilfimiihaaDoor
open Go.Sy
set_option maxRecDepth 100000 in
set_option maxHeartbeats 8000000 in
theorem concatR_fn (n1 n2 : Bool) (a b : List Int) (h0 : 0 < a.length + b.length) (h1 : a.length + b.length ≤ 1000000000) :
    Fc Tryd.prog 12 [.sl .imm false 1 [.sl .imm n1 1 (u8s a), .sl .rd n2 1 (u8s b)]] [] (.sl (.own (.loc 1240)) false 1 (u8s (a ++ b))) [] := by
  refine Fc.of (anys _ [19]) [] mixed Tryd.func12 rfl (by rfl) (by simp [Tryd.ntmps12]) (by decide) ?_
  simp -implicitDefEqProofs -dsimp [Tryd.ntmps12]
  refine LpK.mk (anys _ [19]) mixed (fun i : Nat => i ≤ 2) (fun i => ⟨[(0, .sl .imm false 1 [.sl .imm n1 1 (u8s a), .sl .rd n2 1 (u8s b)]), (9, .sl .imm false 1 [.sl .imm n1 1 (u8s a), .sl .rd n2 1 (u8s b)]), (3, .lit (.int .i64 (two a b i).length)), (10, .lit (.int .i64 2)), (11, .lit (.int .i64 i))], [], 36⟩)
    (fun i => 2 - i) 0 (by simp) (by simp -implicitDefEqProofs -dsimp [two]) ?_
  intro i hi
  have w1 : IntKind.i64.wrap 1 = 1 := by decide
  have w2 : IntKind.i64.wrap 2 = 2 := by decide
  have w3 : IntKind.i64.wrap (a.length : Int) = a.length := wrap64 (by omega) (by omega)
  have w4 : IntKind.i64.wrap ((a.length : Int) + b.length) = a.length + b.length := wrap64 (by omega) (by omega)
  have g1 : ¬ (a.length : Int) < 0 := by omega
  have g2 : ¬ ((a.length : Int) + b.length) < 0 := by omega
  rcases (by omega : i = 0 ∨ i = 1 ∨ i = 2) with rfl | rfl | rfl
  · simp -implicitDefEqProofs -dsimp [two, w1, w3, g1]
    exact .mk 1 (by omega) (by omega) (by simp -implicitDefEqProofs -dsimp [two])
  · simp -implicitDefEqProofs -dsimp [two, w2, w4, g2]
    exact .mk 2 (by omega) (by omega) (by simp -implicitDefEqProofs -dsimp [two])
  · simp -implicitDefEqProofs -dsimp [two]
    refine CallK.fresh ?_
    simp -implicitDefEqProofs -dsimp
    refine CallQ.same (grow_fn (a.length + b.length) h0 h1) rfl ?_
    simp -implicitDefEqProofs -dsimp [fr_u8s]
    refine LpK.mk (anys _ [19]) mixed (fun i : Nat => i ≤ 2) (fun i => ⟨[(25, .sl .imm false 1 [.sl .imm n1 1 (u8s a), .sl .rd n2 1 (u8s b)]), (6, .sl (.own (.loc 1240)) false 1 (u8s (two a b i))), (26, .lit (.int .i64 2)), (27, .lit (.int .i64 i))], [], 36⟩)
      (fun i => 2 - i) 0 (by simp) (by simp -implicitDefEqProofs -dsimp [two]) ?_
    intro i hi
    rcases (by omega : i = 0 ∨ i = 1 ∨ i = 2) with rfl | rfl | rfl
    · have l1 : a.length ≤ 140737488355328 := by omega
      simp -implicitDefEqProofs -dsimp [two, w1, l1]
      exact .mk 1 (by omega) (by omega) (by simp -implicitDefEqProofs -dsimp [two])
    · have l1 : a.length + b.length ≤ 140737488355328 := by omega
      simp -implicitDefEqProofs -dsimp [two, w2, l1]
      exact .mk 2 (by omega) (by omega) (by simp -implicitDefEqProofs -dsimp [two])
    · simp -implicitDefEqProofs -dsimp [two]

set_option maxRecDepth 100000 in
set_option maxHeartbeats 4000000 in
theorem concatR0_fn (n1 n2 : Bool) :
    Fc Tryd.prog 12 [.sl .imm false 1 [.sl .imm n1 1 (u8s []), .sl .rd n2 1 (u8s [])]] [] (.sl .imm true 1 []) [] := by
  refine Fc.of (anys _ [19]) [] mixed Tryd.func12 rfl (by rfl) (by simp [Tryd.ntmps12]) (by decide) ?_
  simp -implicitDefEqProofs -dsimp [Tryd.ntmps12]
  refine LpK.mk (anys _ [19]) mixed (fun i : Nat => i ≤ 2) (fun i => ⟨[(0, .sl .imm false 1 [.sl .imm n1 1 [], .sl .rd n2 1 []]), (9, .sl .imm false 1 [.sl .imm n1 1 [], .sl .rd n2 1 []]), (3, .lit (.int .i64 0)), (10, .lit (.int .i64 2)), (11, .lit (.int .i64 i))], [], 36⟩)
    (fun i => 2 - i) 0 (by simp) (by simp -implicitDefEqProofs -dsimp) ?_
  intro i hi
  have w1 : IntKind.i64.wrap 1 = 1 := by decide
  have w2 : IntKind.i64.wrap 2 = 2 := by decide
  rcases (by omega : i = 0 ∨ i = 1 ∨ i = 2) with rfl | rfl | rfl
  · simp -implicitDefEqProofs -dsimp [w1, wrap_0]
    exact .mk 1 (by omega) (by omega) (by simp -implicitDefEqProofs -dsimp)
  · simp -implicitDefEqProofs -dsimp [w2, wrap_0]
    exact .mk 2 (by omega) (by omega) (by simp -implicitDefEqProofs -dsimp)
  · simp -implicitDefEqProofs -dsimp
    refine CallK.fresh ?_
    simp -implicitDefEqProofs -dsimp
    refine CallQ.same (grow0_fn) rfl ?_
    simp -implicitDefEqProofs -dsimp [fr_u8s]
    refine LpK.mk (anys _ [19]) mixed (fun i : Nat => i ≤ 2) (fun i => ⟨[(25, .sl .imm false 1 [.sl .imm n1 1 [], .sl .rd n2 1 []]), (6, .sl .imm true 1 []), (26, .lit (.int .i64 2)), (27, .lit (.int .i64 i))], [], 36⟩)
      (fun i => 2 - i) 0 (by simp) (by simp -implicitDefEqProofs -dsimp) ?_
    intro i hi
    rcases (by omega : i = 0 ∨ i = 1 ∨ i = 2) with rfl | rfl | rfl
    · simp -implicitDefEqProofs -dsimp [w1]
      exact .mk 1 (by omega) (by omega) (by simp -implicitDefEqProofs -dsimp)
    · simp -implicitDefEqProofs -dsimp [w2]
      exact .mk 2 (by omega) (by omega) (by simp -implicitDefEqProofs -dsimp)
    · simp -implicitDefEqProofs -dsimp
theorem concatRI_fn (n1 n2 : Bool) (a b : List Int) (h0 : 0 < a.length + b.length) (h1 : a.length + b.length ≤ 1000000000) :
    Fc Tryd.prog 12 [.sl .imm false 1 [.sl .imm n1 1 (u8s a), .sl .rd n2 1 (u8s b)]] [] (.sl .imm false 1 (u8s (a ++ b))) [] := by
  have := (concatR_fn n1 n2 a b h0 h1).fz [.loc 1240]
  simpa using this
set_option maxRecDepth 100000 in
set_option maxHeartbeats 8000000 in
theorem writeR_fn (S r b : List Int) (m : Int) (n1 n2 : Bool) (hS : S.length = 8) (h0 : 0 < r.length + b.length) (h1 : r.length + b.length ≤ 1000000000) :
    Fc Tryd.prog 6 [.ptr 100000 0, .sl .rd n2 1 (u8s b)] [(100000, .cells (sv S ++ [.sl (.own (.cell 100000 8)) n1 1 (u8s r), .lit (.int .u64 m)]))] (.tup [])
      [(100000, .cells (sv (absB S (r ++ b)).1 ++ [.sl (.own (.cell 100000 8)) false 1 (u8s (absB S (r ++ b)).2), .lit (.int .u64 (IntKind.u64.wrap (m + b.length)))]))] := by
  have hb : IntKind.u64.wrap (b.length : Int) = b.length := by rw [wrap_is_u64]; omega
  refine Fc.of (anys _ [12, 13, 14]) sch6 mixed Tryd.func6 rfl (by rfl) (by simp [Tryd.ntmps6]) (by decide) ?_
  simp -implicitDefEqProofs -dsimp [Tryd.ntmps6]
  refine CallK.works ?_
  simp -implicitDefEqProofs -dsimp
  refine CallQ.mk (concatRI_fn n1 n2 r b h0 h1) (by simp) ?_
  simp -implicitDefEqProofs -dsimp [hb]
  refine LpK.mk (anys _ [12, 13, 14]) mixed (fun ((T, l) : List Int × List Int) => T.length = 8 ∧ l.length ≤ 1000000000 ∧ absB S (r ++ b) = absB T l)
    (fun ((T, l) : List Int × List Int) => ⟨[(0, .ptr 100000 0), (4, .sl .imm false 1 (u8s l))], [(100000, .cells (sv T ++ [.sl .imm n1 1 (u8s r), .lit (.int .u64 (IntKind.u64.wrap (m + b.length)))]))], 42⟩)
    (fun (_, l) => l.length) (S, r ++ b) ⟨hS, by simpa using h1, rfl⟩ (by simp -implicitDefEqProofs -dsimp) ?_
  rintro ⟨T, l⟩ ⟨hT, hl, he⟩
  by_cases h64 : 64 ≤ l.length
  · have e1 : (64 : Int) ≤ l.length := by omega
    have hlt : (l.take 64).length = 64 := by simp; omega
    have ha : absB T l = absB (bhd (l.take 64) T) (l.drop 64) := by rw [absB, if_pos h64]
    simp -implicitDefEqProofs -dsimp [e1]
    refine CallK.reads ?_
    simp -implicitDefEqProofs -dsimp
    refine CallQ.same (behind_fn2 false (l.take 64) T hlt hT) rfl ?_
    simp -implicitDefEqProofs -dsimp [e1]
    refine .mk (bhd (l.take 64) T, l.drop 64) ⟨bhd_length hT, by simp; omega, he.trans ha⟩ (by simp; omega) (by simp -implicitDefEqProofs -dsimp)
  · have e1 : ¬ (64 : Int) ≤ l.length := by omega
    have ha : absB T l = (T, l) := by rw [absB, if_neg h64]
    rw [ha] at he
    simp -implicitDefEqProofs -dsimp [e1]
    refine CallK.fresh ?_
    simp -implicitDefEqProofs -dsimp
    refine CallQ.same (clone_fn false l (by simp) (by omega)) rfl ?_
    simp -implicitDefEqProofs -dsimp [fr_u8s]
    simp [he]

set_option maxRecDepth 100000 in
set_option maxHeartbeats 8000000 in
theorem writeR0_fn (S : List Int) (m : Int) (n1 n2 : Bool) (hS : S.length = 8) :
    Fc Tryd.prog 6 [.ptr 100000 0, .sl .rd n2 1 (u8s [])] [(100000, .cells (sv S ++ [.sl (.own (.cell 100000 8)) n1 1 (u8s []), .lit (.int .u64 m)]))] (.tup [])
      [(100000, .cells (sv S ++ [.sl (.own (.cell 100000 8)) true 1 (u8s []), .lit (.int .u64 (IntKind.u64.wrap (m + 0)))]))] := by
  have hb : IntKind.u64.wrap 0 = 0 := by decide
  have hab : absB S [] = (S, []) := by rw [absB, if_neg (by simp)]
  refine Fc.of (anys _ [12, 13, 14]) sch6 mixed Tryd.func6 rfl (by rfl) (by simp [Tryd.ntmps6]) (by decide) ?_
  simp -implicitDefEqProofs -dsimp [Tryd.ntmps6]
  refine CallK.works ?_
  simp -implicitDefEqProofs -dsimp
  refine CallQ.mk (concatR0_fn n1 n2) (by simp) ?_
  simp -implicitDefEqProofs -dsimp [hb]
  refine LpK.mk (anys _ [12, 13, 14]) mixed (fun _ : Unit => True)
    (fun _ => ⟨[(0, .ptr 100000 0), (4, .sl .imm true 1 [])], [(100000, .cells (sv S ++ [.sl .imm n1 1 [], .lit (.int .u64 (IntKind.u64.wrap (m + 0)))]))], 42⟩)
    (fun _ => 0) () trivial (by simp -implicitDefEqProofs -dsimp) ?_
  rintro ⟨⟩ -
  simp -implicitDefEqProofs -dsimp
  refine CallK.fresh ?_
  simp -implicitDefEqProofs -dsimp
  refine CallQ.same (clone_fn true [] (by simp) (by simp)) rfl ?_
  simp -implicitDefEqProofs -dsimp [fr_u8s]
theorem writeR_law (p x y : List Int) (m m' : Int) (nl n2 : Bool) (hy : p ++ x = y) (hm : m = p.length) (hm' : m' = y.length) (hl : y.length ≤ 1000000) :
    Fc Tryd.prog 6 [.ptr 100000 0, .sl .rd n2 1 (u8s x)] [(100000, .cells (sv (absB st0 p).1 ++ [.sl (.own (.cell 100000 8)) nl 1 (u8s (absB st0 p).2), .lit (.int .u64 m)]))] (.tup [])
      [(100000, .cells (sv (absB st0 y).1 ++ [.sl (.own (.cell 100000 8)) (nz p x) 1 (u8s (absB st0 y).2), .lit (.int .u64 m')]))] := by
  have hS := absB_length (S := st0) (l := p) rfl
  have hyl : y.length = p.length + x.length := by rw [← hy]; simp
  have hw : IntKind.u64.wrap (m + x.length) = m' := by rw [wrap_is_u64]; omega
  have ha : absB st0 y = absB (absB st0 p).1 ((absB st0 p).2 ++ x) := by rw [← hy, absB_append]
  by_cases h : (absB st0 p).2 ++ x = []
  · have h2 := List.append_eq_nil_iff.1 h
    have hz : nz p x = true := by simp [nz, h]
    have hb : absB st0 y = ((absB st0 p).1, []) := by rw [ha, h, absB, if_neg (by simp)]
    have := writeR0_fn (absB st0 p).1 m nl n2 hS
    rw [hz, hb, h2.1, h2.2]
    rw [h2.2] at hw
    simp only [List.length_nil, Int.ofNat_zero, Int.natCast_zero] at hw
    rwa [hw] at this
  · have hz : nz p x = false := by simp [nz] at h ⊢; exact h
    have hr : (absB st0 p).2.length < 64 := absB_rest
    have h3 : 0 < (absB st0 p).2.length + x.length := by
      have := List.length_pos_iff.2 h
      simpa using this
    have := writeR_fn (absB st0 p).1 (absB st0 p).2 x m nl n2 hS h3 (by omega)
    rw [hz, ha]
    rwa [hw] at this
theorem sv_clean (S : List Int) : ∀ x, x ∈ sv S → Go.Sy.Clean x := fun x hx => by
  simp only [sv, List.mem_cons, List.not_mem_nil, or_false] at hx
  rcases hx with rfl | rfl | rfl | rfl | rfl | rfl | rfl | rfl <;> simp
theorem ints_dataC {k : IntKind} {l : List Int} (x : PV) (h : x ∈ ints k l) : DataC x := by
  simp only [ints, List.mem_map] at h
  obtain ⟨n, _, rfl⟩ := h
  exact .lit _
@[simp] theorem ints_allC {k : IntKind} {l : List Int} : (∀ x, x ∈ ints k l → DataC x) = True := eq_true fun _ => ints_dataC _

set_option maxRecDepth 100000 in
set_option maxHeartbeats 16000000 in
theorem down_fn (nl : Bool) (x : List Int) (pos v : Int) (hb : InB x) (hp : 0 ≤ pos) (hp2 : pos < 65536) (hv : 0 ≤ v) (hv2 : v < 256) :
    Fc Tryd.prog 3 [.sl .imm nl 1 (u8s x), .lit (.int .u16 pos), .lit (.int .u8 v)] [] (.lit (.bool true)) [] := by
  refine Fc.of (anys _ [4, 5, 6, 7, 8]) [] mixed Tryd.func3 rfl (by rfl) (by simp [Tryd.ntmps3]) (by decide) ?_
  simp -implicitDefEqProofs -dsimp [Tryd.ntmps3]
  refine CallK.reads ?_
  simp -implicitDefEqProofs -dsimp
  refine CallQ.same (awake_fn) rfl ?_
  simp -implicitDefEqProofs -dsimp
  by_cases c0 : x = []
  · subst c0
    simp -implicitDefEqProofs -dsimp
  · have hx0 : 0 < x.length := List.length_pos_iff.2 c0
    have c1 : ¬ (x.length : Int) = 0 := by omega
    by_cases c2 : 300 < (x.length : Int)
    · simp -implicitDefEqProofs -dsimp [c0, c1, c2]
    · have hw1 : IntKind.i64.wrap pos = pos := wrap64 (by omega) (by omega)
      obtain ⟨K, hK⟩ : ∃ K : Nat, pos.tmod x.length = (K : Int) := ⟨(pos.tmod x.length).toNat, by have := Int.tmod_nonneg (x.length : Int) hp; omega⟩
      have hKl : K < x.length := by have := Int.tmod_lt_of_pos pos (b := (x.length : Int)) (by omega); omega
      have hpk := pokeL_ints (κ := .u8) (v := v) hKl
      have i1 : isByte (.lit (.int .u8 v)) = true := by simp [isByte, hv]; omega
      have l2 : x.length ≤ 140737488355328 := by omega
      have h00 : absB st0 [] = (st0, []) := by rw [absB, if_neg (by simp)]
      have hW := writeR_law [] x x 0 x.length true false (by simp) (by simp) rfl (by omega)
      rw [h00] at hW
      have hz : nz [] x = false := by simp [nz, h00, c0]
      rw [hz] at hW
      have hS := sum_law x x.length false (by simp) rfl
      have hO := of_fn nl x (by omega)
      simp -implicitDefEqProofs -dsimp [c0, c1, c2, hw1, hK, l2]
      refine CallK.works ?_
      simp -implicitDefEqProofs -dsimp
      refine CallQ.mk (new_fn) (by simp) ?_
      simp -implicitDefEqProofs -dsimp [hw1, hK, l2, hKl, hpk, c0, c1]
      refine CallK.lends [.loc 20] ?_
      simp -implicitDefEqProofs -dsimp
      refine CallQ.mk (hW) (by simp) ?_
      simp -implicitDefEqProofs -dsimp [sv_clean, hw1, hK, l2, hKl, hpk, c0, c1]
      refine CallK.works ?_
      simp -implicitDefEqProofs -dsimp
      refine CallQ.mk (hS) (by simp) ?_
      simp -implicitDefEqProofs -dsimp [hw1, hK, l2, hKl, hpk, c0, c1]
      refine CallK.reads ?_
      simp -implicitDefEqProofs -dsimp
      refine CallQ.same (hO) rfl ?_
      simp -implicitDefEqProofs -dsimp [hw1, hK, l2, hKl, hpk, c0, c1]
theorem down_law (xs : List PV) (h : ShpAll Tryd.prog 6 Tryd.f3.params.toList xs) : Fc Tryd.prog 3 xs [] (.lit (.bool true)) [] := by
  obtain ⟨x, y, z, rfl, hx, hy, hz⟩ := shp_args3 h
  obtain ⟨nl, b, rfl, k1, k2, k3⟩ := arg_ints (k := .u8) Tryd.underlying22 Tryd.underlying5 (by kernel_rfl) hx
  obtain ⟨p, rfl, hp⟩ := arg_int (k := .u16) Tryd.underlying23 hy
  obtain ⟨v, rfl, hv⟩ := arg_int (k := .u8) Tryd.underlying5 hz
  obtain ⟨p0, p1⟩ := wf_u16 hp
  obtain ⟨v0, v1⟩ := wf_u8 hv
  exact down_fn nl b p v (fun n hn => wf_u8 (k3 n hn)) p0 p1 v0 v1
end Go.Proofs.YtdbdoilfimiihaaDoor
