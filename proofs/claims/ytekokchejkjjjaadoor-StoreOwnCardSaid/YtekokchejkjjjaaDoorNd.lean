/- Stores: the document's Open. (and what stands on it) -/
import Derived.Test.YtekokchejkjjjaaDoorNc
import Derived.Test.YtekokchejkjjjaaDoorN4
set_option linter.unusedSimpArgs false
set_option linter.unusedVariables false

/-! Stores: the document's Open. -/
namespace Go.Proofs.YtekokchejkjjjaaDoor
open Go.Sy
def rtHi (r : RS) (L : List Objt) : List (Nat × Ob) := [(100000, .cells (rtC L)), (100001, .cells (r.cells .imm))]
attribute [simp] rtHi
set_option maxRecDepth 100000 in
set_option maxHeartbeats 8000000 in
theorem rhasI_fn (r : RS) (L : List Objt) (i : ByteArray) (hL : L.length ≤ 1000000) : Fc Tryd.prog 65 [.ptr 100000 0, .lit (.string i)] (rtHi r L) (.lit (.bool (hasO L i))) (rtHi r L) := by
  refine Fc.of (anys _ []) [] mixed Tryd.func65 rfl (by rfl) (by simp [Tryd.ntmps65]) (by decide) ?_
  simp -implicitDefEqProofs -dsimp [Tryd.ntmps65]
  refine LpK.mk (anys _ []) mixed (fun k : Nat => k ≤ L.length ∧ ∀ j (hj : j < L.length), j < k → (ids L)[j]'(by simpa using hj) ≠ i)
    (fun k => ⟨[(0, .ptr 100000 0), (1, .lit (.string i)), (5, .lit (.int .i64 k))], rtHi r L, 24⟩) (fun k => L.length - k) 0 ⟨by omega, fun j _ h => by omega⟩ (by simp -implicitDefEqProofs -dsimp) ?_
  rintro k ⟨hk, hall⟩
  by_cases hlt : k < L.length
  · have hlt' : k < (ids L).length := by simpa using hlt
    obtain ⟨p, hp⟩ : ∃ p, (ids L)[k] = p := ⟨_, rfl⟩
    have hp' : (ids L)[k]? = some p := by rw [List.getElem?_eq_getElem hlt', hp]
    have hw : IntKind.i64.wrap ((k : Int) + 1) = (k : Int) + 1 := wrap64 (by omega) (by omega)
    by_cases c : p = i
    · have hh : hasO L i = true := hasO_iff.2 (c ▸ hp ▸ List.getElem_mem hlt')
      simp -implicitDefEqProofs -dsimp [hlt, hp, hp', c, hh]
    · simp -implicitDefEqProofs -dsimp [hlt, hp, hp', c, hw]
      refine .mk (k + 1) ⟨hlt, fun j hj hjk => ?_⟩ (by omega) (by simp -implicitDefEqProofs -dsimp)
      rcases Nat.lt_or_ge j k with h | h
      · exact hall j hj h
      · have : j = k := by omega
        subst this; rw [hp]; exact c
  · have e : k = L.length := by omega
    have hh : hasO L i = false := hasO_take fun j hj => hall j hj (by omega)
    subst e
    simp -implicitDefEqProofs -dsimp [hh]

set_option maxRecDepth 100000 in
set_option maxHeartbeats 16000000 in
theorem ropen_ok (r : RS) (hb : InB r.b) (hdd : r.dead = false) (hl : r.b.length ≤ 100000) (L0 : List Objt) (c0 : Nat) (B : Bool) (hR : openS digOf r.b.length r.b 0 [] = (L0, 0, c0)) (hB : B = openB digOf r.b.length r.b []) :
    Fc Tryd.prog 25 [.ptr 100000 0] [(100000, .cells (r.cells (.own (.cell 100000 0))))] (.tup [.ptr 17 0, .lit (.int .i64 0)])
      [(17, .cells [.ptr 100000 0, .sl .imm L0.isEmpty 1 (idc (ids L0)), .sl .imm L0.isEmpty 1 (idc (alls L0))]), (100000, .cells (({ r with nl := !B && r.nl, b := r.b.take c0 } : RS).cells .imm))] := by
  suffices h : Fc Tryd.prog 25 [.ptr 100000 0] [(100000, .cells (r.cells (.own (.cell 100000 0))))] (.tup [.ptr 17 0, .lit (.int .i64 0)])
      [(17, .cells [.ptr 100000 0, .sl (.own (.cell 17 1)) L0.isEmpty 1 (idc (ids L0)), .sl (.own (.cell 17 2)) L0.isEmpty 1 (idc (alls L0))]), (100000, .cells (({ r with nl := !B && r.nl, b := r.b.take c0 } : RS).cells (if B = true then .own (.cell 100000 0) else .imm)))] by
    have := h.fz [.cell 17 1, .cell 17 2, .cell 100000 0]
    cases B <;> simpa using this
  obtain ⟨rnl, b, room, has, fuse, dead⟩ := r
  simp only at hb hdd hl hR hB ⊢
  subst hdd
  have zc : ∀ m : Nat, min m b.length ≤ 140737488355328 := fun m => by omega
  refine Fc.of (anys _ [63, 64, 22, 65]) sch25 mixed Tryd.func25 rfl (by rfl) (by simp [Tryd.ntmps25]) (by decide) ?_
  simp -implicitDefEqProofs -dsimp [Tryd.ntmps25, RS.cells]
  refine LpK.mkA (anys _ [63, 64, 22, 65]) mixed [.fz [.cell 100000 0]] (fun ((i, L) : Nat × List Objt) => i ≤ b.length ∧ L.length ≤ i ∧ (L0, (0 : Int), c0) = openS digOf b.length (b.drop i) i L ∧ B = openB digOf b.length (b.drop i) L)
    (fun ((i, L) : Nat × List Objt) => ⟨[(0, .ptr 100000 0), (2, .lit (.pointer none)), (3, .lit (.int .i64 0)), (4, .ptr 17 0), (5, .lit (.int .i64 i))],
      [(100000, .cells (RS.cells ⟨rnl, b, room, has, fuse, false⟩ .imm)), (17, .cells [.ptr 100000 0, .sl (.own (.cell 17 1)) L.isEmpty 1 (idc (ids L)), .sl (.own (.cell 17 2)) L.isEmpty 1 (idc (alls L))])], 167⟩)
    (fun (i, _) => b.length - i) (0, []) ⟨by omega, by simp, by simpa using hR.symm, by simpa using hB⟩ (by simp -implicitDefEqProofs -dsimp [RS.cells, ids, alls]) ?_
  rintro ⟨i, L⟩ ⟨hi, hLi, e1, e2⟩
  by_cases hlt : i < b.length
  · have hlt' : (i : Int) < b.length := by omega
    have q1 : (i : Int) ≤ b.length := by omega
    obtain ⟨c, hc⟩ : ∃ c, c = b.drop i := ⟨_, rfl⟩
    have hcb : InB c := hc ▸ hb.drop i
    have hcl : c.length = b.length - i := by rw [hc, List.length_drop]
    have hc0 : c ≠ [] := fun h => by rw [h] at hcl; simp at hcl; omega
    obtain ⟨f1, f2⟩ := open_step digOf hcb hc0 (n := b.length) (by omega) i L
    rw [← hc] at e1 e2
    rw [f1] at e1
    rw [f2] at e2
    obtain ⟨t1, t2, t3, t4, t5, t6⟩ := tk_spec c hcb
    have ok0 : (RR.mk rnl c 0 0).Ok := ⟨hcb, Nat.zero_le _, by simp only; omega⟩
    have hN := rrnum_fn _ ok0
    have hrest : (RR.mk rnl c 0 0).rest = c := by simp [RR.rest]
    obtain ⟨⟨n, k, e⟩, ht⟩ : ∃ t, t = tk c := ⟨_, rfl⟩
    have hnum : (RR.mk rnl c 0 0).num = if e ≠ 0 then (0, ⟨rnl, c, 0, e⟩) else (n, ⟨rnl, c, k, 0⟩) := by
      rw [RR.num, hrest, if_neg (show ¬ (0 : Int) ≠ 0 by decide)]; simp only [← ht, Nat.zero_add]
    rw [hnum] at hN
    rw [← ht] at t1 t2 t3 t4 t5 t6
    simp only at t1 t2 t3 t4 t5 t6
    unfold firstS at e1 e2
    simp only [← ht] at e1 e2
    have c0' : rcells (RR.mk rnl c 0 0) = [.sl .imm rnl 1 (u8s c), .lit (.int .i64 0), .lit (.int .i64 0)] := rfl
    by_cases c1 : e = 0
    · rw [if_neg (show ¬ e ≠ 0 from fun h => h c1)] at hN
      subst c1
      have ok1 : (RR.mk rnl c k 0).Ok := ⟨hcb, t1, by simp only; omega⟩
      have hL := rleft_fn _ ok1
      simp only [show ¬ (0 : Int) = 2 by decide, if_false, ne_eq, not_true] at e1 e2
      by_cases c3 : 131072 < n
      · have c3' : 131072 < (n : Int) := by omega
        simp only [c3, if_true] at e1 e2
        simp only [show (4 : Int) = 0 ↔ False by decide, not_false_eq_true, if_true, Bool.false_eq_true, if_false] at e1 e2
        exact absurd (Prod.mk.inj (Prod.mk.inj e1).2).1 (by decide)
      · have c3' : ¬ 131072 < (n : Int) := by omega
        have w1 : IntKind.i64.wrap (n : Int) = n := wrap64 (by omega) (by omega)
        have w2 : IntKind.i64.wrap ((n : Int) + 4) = (n : Int) + 4 := wrap64 (by omega) (by omega)
        simp only [c3, if_false] at e1 e2
        by_cases c4 : c.length < k + n + 4
        · have c4' : (c.length : Int) - k < (n : Int) + 4 := by omega
          simp only [c4, if_true] at e1 e2
          simp only [Prod.mk.injEq, true_and] at e1
          obtain ⟨rfl, rfl⟩ := e1
          subst e2
          simp -implicitDefEqProofs -dsimp [hlt', q1, RS.cells, ← hc]
          refine CallK.works ?_
          simp -implicitDefEqProofs -dsimp
          refine CallQ.mk hN (by simp [c0']) ?_
          simp -implicitDefEqProofs -dsimp [RS.cells, c3']
          refine CallK.reads ?_
          simp -implicitDefEqProofs -dsimp
          refine CallQ.same (hL) rfl ?_
          simp -implicitDefEqProofs -dsimp [w1, w2, c4', q1, zc, RS.cells]
        · have c4' : ¬ (c.length : Int) - k < (n : Int) + 4 := by omega
          simp only [c4, if_false] at e1 e2
          have w3 : IntKind.i64.wrap ((i : Int) + k) = (i : Int) + k := wrap64 (by omega) (by omega)
          have w4 : IntKind.i64.wrap ((i : Int) + k + n) = (i : Int) + k + n := wrap64 (by omega) (by omega)
          have w5 : IntKind.i64.wrap ((i : Int) + k + n + 4) = (i : Int) + k + n + 4 := wrap64 (by omega) (by omega)
          have p1 : (i : Int) + k ≤ (i : Int) + k + n := by omega
          have p2 : (i : Int) + k + n ≤ b.length := by omega
          have p3 : ((i : Int) + k + n).toNat = i + k + n := by omega
          have p4 : (0 : Int) ≤ (i : Int) + k := by omega
          have p5 : ((i : Int) + k).toNat = i + k := by omega
          have p6 : (i : Int) + k + n ≤ (i : Int) + k + n + 4 := by omega
          have p7 : (i : Int) + k + n + 4 ≤ b.length := by omega
          have p8 : ((i : Int) + k + n + 4).toNat = i + k + n + 4 := by omega
          have p9 : (0 : Int) ≤ (i : Int) + k + n := by omega
          have d1 : List.drop (i + k) (List.take (i + k + n) b) = (c.drop k).take n := by rw [hc, List.drop_drop, List.drop_take]; congr 1; omega
          have d2 : List.drop (i + k + n) (List.take (i + k + n + 4) b) = (c.drop (k + n)).take 4 := by rw [hc, List.drop_drop, List.drop_take, Nat.add_assoc i k n]; congr 1; omega
          obtain ⟨x, hx⟩ : ∃ x, x = (c.drop k).take n := ⟨_, rfl⟩
          obtain ⟨y, hy⟩ : ∃ y, y = c.drop (k + n) := ⟨_, rfl⟩
          rw [← hx] at d1 e1 e2
          rw [← hy] at d2 e1 e2
          have hxb : InB x := hx ▸ (hcb.drop k).take n
          have hyb : InB y := hy ▸ hcb.drop _
          have hyb4 : InB (y.take 4) := hyb.take 4
          have hxl : x.length ≤ 100000 := by rw [hx, List.length_take, List.length_drop]; omega
          have hD := rof_fn rnl x hxl hxb
          have hd4 : (4 : Int) ≤ (digOf x).size := by have := dig4 x; omega
          have hfr := front_is (digOf x) y hyb
          by_cases c5 : (bs (digOf x)).take 4 = y.take 4
          · have hfr' := hfr.trans (eq_true c5)
            simp only [c5, if_true] at e1 e2
            have hH := rhasI_fn ⟨rnl, b, room, has, fuse, false⟩ L (digOf x) (by omega)
            simp only [rtHi, RS.cells] at hH
            by_cases c6 : hasO L (digOf x) = true
            · simp only [c6, if_true, Bool.false_eq_true, if_false] at e1 e2
              exact absurd (Prod.mk.inj (Prod.mk.inj e1).2).1 (by decide)
            · have c6 : hasO L (digOf x) = false := by simpa using c6
              simp only [c6, Bool.false_eq_true, if_false] at e1 e2
              have hdr : List.drop (k + n + 4) c = b.drop (i + (k + n + 4)) := by rw [hc, List.drop_drop]
              rw [hdr] at e1 e2
              have z1 : (L.length + 1) * 16 ≤ 140737488355328 := by omega
              have z2 : L.length ≤ 140737488355327 := by omega
              have nx : ((i + (k + n + 4) : Nat) : Int) = (i : Int) + k + n + 4 := by omega
              simp -implicitDefEqProofs -dsimp [hlt', q1, RS.cells, ← hc]
              refine CallK.works ?_
              simp -implicitDefEqProofs -dsimp
              refine CallQ.mk hN (by simp [c0']) ?_
              simp -implicitDefEqProofs -dsimp [RS.cells, c3']
              refine CallK.reads ?_
              simp -implicitDefEqProofs -dsimp
              refine CallQ.same (hL) rfl ?_
              simp -implicitDefEqProofs -dsimp [w1, w2, c4', w3, w4, w5, p1, p2, p3, p4, p5, p6, p7, p8, p9, d1, d2, RS.cells]
              refine CallK.reads ?_
              simp -implicitDefEqProofs -dsimp
              refine CallQ.same (hD) rfl ?_
              simp -implicitDefEqProofs -dsimp [w1, w2, c4', w3, w4, w5, p1, p2, p3, p4, p5, p6, p7, p8, p9, d1, d2, hd4, hfr', hyb4, RS.cells]
              refine CallK.works ?_
              simp -implicitDefEqProofs -dsimp
              refine CallQ.mk (hH) (by simp) ?_
              simp -implicitDefEqProofs -dsimp [c6, w1, w3, w4, w5, z1, z2, hxb, RS.cells, ids_snoc L (digOf x) x, alls_snoc L (digOf x) x]
              exact .mk [] (i + (k + n + 4), L ++ [(digOf x, x)]) ⟨by omega, by simp; omega, e1, e2⟩ (by simp; omega) (by simp -implicitDefEqProofs -dsimp [RS.cells, nx])
          · have hfr' := hfr.trans (eq_false c5)
            simp only [c5, if_false] at e1 e2
            simp only [show (12 : Int) = 0 ↔ False by decide, not_false_eq_true, if_true, Bool.false_eq_true, if_false] at e1 e2
            exact absurd (Prod.mk.inj (Prod.mk.inj e1).2).1 (by decide)
    · rw [if_pos (show e ≠ 0 from c1)] at hN
      by_cases c2 : e = 2
      · subst c2
        simp only [if_true] at e1 e2
        simp only [Prod.mk.injEq, true_and] at e1
        obtain ⟨rfl, rfl⟩ := e1
        subst e2
        simp -implicitDefEqProofs -dsimp [hlt', q1, RS.cells, ← hc]
        refine CallK.works ?_
        simp -implicitDefEqProofs -dsimp
        refine CallQ.mk hN (by simp [c0']) ?_
        simp -implicitDefEqProofs -dsimp [RS.cells, q1, zc]
      · simp only [c2, c1, if_false, ne_eq, not_false_eq_true, if_true, Bool.false_eq_true] at e1 e2
        exact absurd (Prod.mk.inj (Prod.mk.inj e1).2).1 (by exact fun h => c1 h.symm)
  · have ein : i = b.length := by omega
    subst ein
    rw [List.drop_length] at e1 e2
    rw [openS_nil] at e1
    rw [openB_nil] at e2
    simp only [Prod.mk.injEq, true_and] at e1
    obtain ⟨rfl, rfl⟩ := e1
    subst e2
    simp -implicitDefEqProofs -dsimp [hlt, RS.cells]

set_option maxRecDepth 100000 in
set_option maxHeartbeats 16000000 in
theorem ropen_bad (r : RS) (hb : InB r.b) (hdd : r.dead = false) (hl : r.b.length ≤ 100000) (L0 : List Objt) (e0 : Int) (c0 : Nat) (B : Bool) (he0 : e0 ≠ 0) (hR : openS digOf r.b.length r.b 0 [] = (L0, e0, c0)) (hB : B = openB digOf r.b.length r.b []) :
    Fc Tryd.prog 25 [.ptr 100000 0] [(100000, .cells (r.cells (.own (.cell 100000 0))))] (.tup [.lit (.pointer none), .lit (.int .i64 e0)]) [(100000, .cells (r.cells .imm))] := by
  obtain ⟨rnl, b, room, has, fuse, dead⟩ := r
  simp only at hb hdd hl hR hB ⊢
  subst hdd
  have zc : ∀ m : Nat, min m b.length ≤ 140737488355328 := fun m => by omega
  refine Fc.of (anys _ [63, 64, 22, 65]) sch25 mixed Tryd.func25 rfl (by rfl) (by simp [Tryd.ntmps25]) (by decide) ?_
  simp -implicitDefEqProofs -dsimp [Tryd.ntmps25, RS.cells]
  refine LpK.mkA (anys _ [63, 64, 22, 65]) mixed [.fz [.cell 100000 0]] (fun ((i, L) : Nat × List Objt) => i ≤ b.length ∧ L.length ≤ i ∧ (L0, e0, c0) = openS digOf b.length (b.drop i) i L ∧ B = openB digOf b.length (b.drop i) L)
    (fun ((i, L) : Nat × List Objt) => ⟨[(0, .ptr 100000 0), (2, .lit (.pointer none)), (3, .lit (.int .i64 0)), (4, .ptr 17 0), (5, .lit (.int .i64 i))],
      [(100000, .cells (RS.cells ⟨rnl, b, room, has, fuse, false⟩ .imm)), (17, .cells [.ptr 100000 0, .sl (.own (.cell 17 1)) L.isEmpty 1 (idc (ids L)), .sl (.own (.cell 17 2)) L.isEmpty 1 (idc (alls L))])], 167⟩)
    (fun (i, _) => b.length - i) (0, []) ⟨by omega, by simp, by simpa using hR.symm, by simpa using hB⟩ (by simp -implicitDefEqProofs -dsimp [RS.cells, ids, alls]) ?_
  rintro ⟨i, L⟩ ⟨hi, hLi, e1, e2⟩
  by_cases hlt : i < b.length
  · have hlt' : (i : Int) < b.length := by omega
    have q1 : (i : Int) ≤ b.length := by omega
    obtain ⟨c, hc⟩ : ∃ c, c = b.drop i := ⟨_, rfl⟩
    have hcb : InB c := hc ▸ hb.drop i
    have hcl : c.length = b.length - i := by rw [hc, List.length_drop]
    have hc0 : c ≠ [] := fun h => by rw [h] at hcl; simp at hcl; omega
    obtain ⟨f1, f2⟩ := open_step digOf hcb hc0 (n := b.length) (by omega) i L
    rw [← hc] at e1 e2
    rw [f1] at e1
    rw [f2] at e2
    obtain ⟨t1, t2, t3, t4, t5, t6⟩ := tk_spec c hcb
    have ok0 : (RR.mk rnl c 0 0).Ok := ⟨hcb, Nat.zero_le _, by simp only; omega⟩
    have hN := rrnum_fn _ ok0
    have hrest : (RR.mk rnl c 0 0).rest = c := by simp [RR.rest]
    obtain ⟨⟨n, k, e⟩, ht⟩ : ∃ t, t = tk c := ⟨_, rfl⟩
    have hnum : (RR.mk rnl c 0 0).num = if e ≠ 0 then (0, ⟨rnl, c, 0, e⟩) else (n, ⟨rnl, c, k, 0⟩) := by
      rw [RR.num, hrest, if_neg (show ¬ (0 : Int) ≠ 0 by decide)]; simp only [← ht, Nat.zero_add]
    rw [hnum] at hN
    rw [← ht] at t1 t2 t3 t4 t5 t6
    simp only at t1 t2 t3 t4 t5 t6
    unfold firstS at e1 e2
    simp only [← ht] at e1 e2
    have c0' : rcells (RR.mk rnl c 0 0) = [.sl .imm rnl 1 (u8s c), .lit (.int .i64 0), .lit (.int .i64 0)] := rfl
    by_cases c1 : e = 0
    · rw [if_neg (show ¬ e ≠ 0 from fun h => h c1)] at hN
      subst c1
      have ok1 : (RR.mk rnl c k 0).Ok := ⟨hcb, t1, by simp only; omega⟩
      have hL := rleft_fn _ ok1
      simp only [show ¬ (0 : Int) = 2 by decide, if_false, ne_eq, not_true] at e1 e2
      by_cases c3 : 131072 < n
      · have c3' : 131072 < (n : Int) := by omega
        simp only [c3, if_true] at e1 e2
        simp only [show (4 : Int) = 0 ↔ False by decide, not_false_eq_true, if_true, Bool.false_eq_true, if_false] at e1 e2
        simp only [Prod.mk.injEq] at e1
        obtain ⟨rfl, rfl, rfl⟩ := e1
        simp -implicitDefEqProofs -dsimp [hlt', q1, RS.cells, ← hc]
        refine CallK.works ?_
        simp -implicitDefEqProofs -dsimp
        refine CallQ.mk hN (by simp [c0']) ?_
        simp -implicitDefEqProofs -dsimp [RS.cells, c3']
      · have c3' : ¬ 131072 < (n : Int) := by omega
        have w1 : IntKind.i64.wrap (n : Int) = n := wrap64 (by omega) (by omega)
        have w2 : IntKind.i64.wrap ((n : Int) + 4) = (n : Int) + 4 := wrap64 (by omega) (by omega)
        simp only [c3, if_false] at e1 e2
        by_cases c4 : c.length < k + n + 4
        · have c4' : (c.length : Int) - k < (n : Int) + 4 := by omega
          simp only [c4, if_true] at e1 e2
          exact absurd (Prod.mk.inj (Prod.mk.inj e1).2).1 he0
        · have c4' : ¬ (c.length : Int) - k < (n : Int) + 4 := by omega
          simp only [c4, if_false] at e1 e2
          have w3 : IntKind.i64.wrap ((i : Int) + k) = (i : Int) + k := wrap64 (by omega) (by omega)
          have w4 : IntKind.i64.wrap ((i : Int) + k + n) = (i : Int) + k + n := wrap64 (by omega) (by omega)
          have w5 : IntKind.i64.wrap ((i : Int) + k + n + 4) = (i : Int) + k + n + 4 := wrap64 (by omega) (by omega)
          have p1 : (i : Int) + k ≤ (i : Int) + k + n := by omega
          have p2 : (i : Int) + k + n ≤ b.length := by omega
          have p3 : ((i : Int) + k + n).toNat = i + k + n := by omega
          have p4 : (0 : Int) ≤ (i : Int) + k := by omega
          have p5 : ((i : Int) + k).toNat = i + k := by omega
          have p6 : (i : Int) + k + n ≤ (i : Int) + k + n + 4 := by omega
          have p7 : (i : Int) + k + n + 4 ≤ b.length := by omega
          have p8 : ((i : Int) + k + n + 4).toNat = i + k + n + 4 := by omega
          have p9 : (0 : Int) ≤ (i : Int) + k + n := by omega
          have d1 : List.drop (i + k) (List.take (i + k + n) b) = (c.drop k).take n := by rw [hc, List.drop_drop, List.drop_take]; congr 1; omega
          have d2 : List.drop (i + k + n) (List.take (i + k + n + 4) b) = (c.drop (k + n)).take 4 := by rw [hc, List.drop_drop, List.drop_take, Nat.add_assoc i k n]; congr 1; omega
          obtain ⟨x, hx⟩ : ∃ x, x = (c.drop k).take n := ⟨_, rfl⟩
          obtain ⟨y, hy⟩ : ∃ y, y = c.drop (k + n) := ⟨_, rfl⟩
          rw [← hx] at d1 e1 e2
          rw [← hy] at d2 e1 e2
          have hxb : InB x := hx ▸ (hcb.drop k).take n
          have hyb : InB y := hy ▸ hcb.drop _
          have hyb4 : InB (y.take 4) := hyb.take 4
          have hxl : x.length ≤ 100000 := by rw [hx, List.length_take, List.length_drop]; omega
          have hD := rof_fn rnl x hxl hxb
          have hd4 : (4 : Int) ≤ (digOf x).size := by have := dig4 x; omega
          have hfr := front_is (digOf x) y hyb
          by_cases c5 : (bs (digOf x)).take 4 = y.take 4
          · have hfr' := hfr.trans (eq_true c5)
            simp only [c5, if_true] at e1 e2
            have hH := rhasI_fn ⟨rnl, b, room, has, fuse, false⟩ L (digOf x) (by omega)
            simp only [rtHi, RS.cells] at hH
            by_cases c6 : hasO L (digOf x) = true
            · simp only [c6, if_true, Bool.false_eq_true, if_false] at e1 e2
              replace e1 : (L0, e0, c0) = (L, (3 : Int), i) := e1
              simp only [Prod.mk.injEq] at e1
              obtain ⟨rfl, rfl, rfl⟩ := e1
              simp -implicitDefEqProofs -dsimp [hlt', q1, RS.cells, ← hc]
              refine CallK.works ?_
              simp -implicitDefEqProofs -dsimp
              refine CallQ.mk hN (by simp [c0']) ?_
              simp -implicitDefEqProofs -dsimp [RS.cells, c3']
              refine CallK.reads ?_
              simp -implicitDefEqProofs -dsimp
              refine CallQ.same (hL) rfl ?_
              simp -implicitDefEqProofs -dsimp [w1, w2, c4', w3, w4, w5, p1, p2, p3, p4, p5, p6, p7, p8, p9, d1, d2, RS.cells]
              refine CallK.reads ?_
              simp -implicitDefEqProofs -dsimp
              refine CallQ.same (hD) rfl ?_
              simp -implicitDefEqProofs -dsimp [w1, w2, c4', w3, w4, w5, p1, p2, p3, p4, p5, p6, p7, p8, p9, d1, d2, hd4, hfr', hyb4, RS.cells]
              refine CallK.works ?_
              simp -implicitDefEqProofs -dsimp
              refine CallQ.mk (hH) (by simp) ?_
              simp -implicitDefEqProofs -dsimp [c6, RS.cells]
            · have c6 : hasO L (digOf x) = false := by simpa using c6
              simp only [c6, Bool.false_eq_true, if_false] at e1 e2
              have hdr : List.drop (k + n + 4) c = b.drop (i + (k + n + 4)) := by rw [hc, List.drop_drop]
              rw [hdr] at e1 e2
              have z1 : (L.length + 1) * 16 ≤ 140737488355328 := by omega
              have z2 : L.length ≤ 140737488355327 := by omega
              have nx : ((i + (k + n + 4) : Nat) : Int) = (i : Int) + k + n + 4 := by omega
              simp -implicitDefEqProofs -dsimp [hlt', q1, RS.cells, ← hc]
              refine CallK.works ?_
              simp -implicitDefEqProofs -dsimp
              refine CallQ.mk hN (by simp [c0']) ?_
              simp -implicitDefEqProofs -dsimp [RS.cells, c3']
              refine CallK.reads ?_
              simp -implicitDefEqProofs -dsimp
              refine CallQ.same (hL) rfl ?_
              simp -implicitDefEqProofs -dsimp [w1, w2, c4', w3, w4, w5, p1, p2, p3, p4, p5, p6, p7, p8, p9, d1, d2, RS.cells]
              refine CallK.reads ?_
              simp -implicitDefEqProofs -dsimp
              refine CallQ.same (hD) rfl ?_
              simp -implicitDefEqProofs -dsimp [w1, w2, c4', w3, w4, w5, p1, p2, p3, p4, p5, p6, p7, p8, p9, d1, d2, hd4, hfr', hyb4, RS.cells]
              refine CallK.works ?_
              simp -implicitDefEqProofs -dsimp
              refine CallQ.mk (hH) (by simp) ?_
              simp -implicitDefEqProofs -dsimp [c6, w1, w3, w4, w5, z1, z2, hxb, RS.cells, ids_snoc L (digOf x) x, alls_snoc L (digOf x) x]
              exact .mk [] (i + (k + n + 4), L ++ [(digOf x, x)]) ⟨by omega, by simp; omega, e1, e2⟩ (by simp; omega) (by simp -implicitDefEqProofs -dsimp [RS.cells, nx])
          · have hfr' := hfr.trans (eq_false c5)
            simp only [c5, if_false] at e1 e2
            simp only [show (12 : Int) = 0 ↔ False by decide, not_false_eq_true, if_true, Bool.false_eq_true, if_false] at e1 e2
            simp only [Prod.mk.injEq] at e1
            obtain ⟨rfl, rfl, rfl⟩ := e1
            simp -implicitDefEqProofs -dsimp [hlt', q1, RS.cells, ← hc]
            refine CallK.works ?_
            simp -implicitDefEqProofs -dsimp
            refine CallQ.mk hN (by simp [c0']) ?_
            simp -implicitDefEqProofs -dsimp [RS.cells, c3']
            refine CallK.reads ?_
            simp -implicitDefEqProofs -dsimp
            refine CallQ.same (hL) rfl ?_
            simp -implicitDefEqProofs -dsimp [w1, w2, c4', w3, w4, w5, p1, p2, p3, p4, p5, p6, p7, p8, p9, d1, d2, RS.cells]
            refine CallK.reads ?_
            simp -implicitDefEqProofs -dsimp
            refine CallQ.same (hD) rfl ?_
            simp -implicitDefEqProofs -dsimp [w1, w2, c4', w3, w4, w5, p1, p2, p3, p4, p5, p6, p7, p8, p9, d1, d2, hd4, hfr', hyb4, RS.cells]
    · rw [if_pos (show e ≠ 0 from c1)] at hN
      by_cases c2 : e = 2
      · subst c2
        simp only [if_true] at e1 e2
        exact absurd (Prod.mk.inj (Prod.mk.inj e1).2).1 he0
      · simp only [c2, c1, if_false, ne_eq, not_false_eq_true, if_true, Bool.false_eq_true] at e1 e2
        simp only [Prod.mk.injEq] at e1
        obtain ⟨rfl, rfl, rfl⟩ := e1
        simp -implicitDefEqProofs -dsimp [hlt', q1, RS.cells, ← hc]
        refine CallK.works ?_
        simp -implicitDefEqProofs -dsimp
        refine CallQ.mk hN (by simp [c0']) ?_
        simp -implicitDefEqProofs -dsimp [RS.cells, c1, c2]
  · have ein : i = b.length := by omega
    subst ein
    rw [List.drop_length] at e1 e2
    rw [openS_nil] at e1
    rw [openB_nil] at e2
    exact absurd (Prod.mk.inj (Prod.mk.inj e1).2).1 he0
end Go.Proofs.YtekokchejkjjjaaDoor
