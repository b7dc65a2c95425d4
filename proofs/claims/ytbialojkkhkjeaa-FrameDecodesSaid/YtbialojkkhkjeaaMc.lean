/- Frames: whether a message is right, as the document has it: its walk. (and what stands on it) -/
import Derived.Test.YtbialojkkhkjeaaMb

/-! Frames: whether a message is right, as the document has it: its walk. -/
namespace Go.Sy
def rrB (m : Ms) (np nb : Bool) : Bool :=
  if m.kind = 1 then m.rs.all spanB && (np && (nb && (decide (m.ids = []) && (decide (0 < (m.rs.length : Int)) && decide ((m.rs.length : Int) < 3)))))
  else if m.kind = 2 then np && (decide (m.rs = []) && (idB m.lo true && (idB m.hi true && idsB m.ids 0)))
  else if m.kind = 3 then np && (nb && (decide (m.rs = []) && idsB m.ids 1))
  else if m.kind = 4 then nb && (decide (m.rs = []) && (decide (m.ids = []) && (decide ((m.bundle.size : Int) = 32) && (decide (1 ≤ m.many) && (decide (m.many ≤ 16384) && (decide (0 ≤ m.index) && (decide (m.index < m.many) && (decide (1 ≤ (m.body.length : Int)) && decide ((m.body.length : Int) ≤ 1024)))))))))
  else false
theorem rrB_is (m : Ms) : rrB m (npB m) (nbB m) = rightB m := by
  unfold rrB rightB
  by_cases k1 : m.kind = 1
  · rw [if_pos k1, if_pos k1]
    have e1 : decide (0 < (m.rs.length : Int)) = decide (1 ≤ (m.rs.length : Int)) := by congr 1
    have e2 : decide ((m.rs.length : Int) < 3) = decide ((m.rs.length : Int) ≤ 2) := by congr 1; rw [eq_iff_iff]; omega
    rw [e1, e2]
    simp only [emptyB, npB, nbB, Bool.true_or, Bool.false_or, Bool.true_and]
    cases m.rs.all spanB <;> cases decide (m.bundle = ⟨#[]⟩) <;> cases decide (m.index = 0) <;> cases decide (m.many = 0) <;> cases decide (m.body = []) <;> cases decide (m.lo = ⟨#[]⟩) <;> cases decide (m.hi = ⟨#[]⟩) <;> cases decide (m.ids = []) <;> simp
  · rw [if_neg k1, if_neg k1]
    by_cases k2 : m.kind = 2
    · rw [if_pos k2, if_pos k2]
      simp only [emptyB, npB, nbB, Bool.true_or, Bool.false_or, Bool.true_and]
      cases decide (m.rs = []) <;> cases decide (m.bundle = ⟨#[]⟩) <;> cases decide (m.index = 0) <;> cases decide (m.many = 0) <;> cases decide (m.body = []) <;> simp
    · rw [if_neg k2, if_neg k2]
      by_cases k3 : m.kind = 3
      · rw [if_pos k3, if_pos k3]
        simp only [emptyB, npB, nbB, Bool.true_or, Bool.false_or, Bool.true_and]
        cases decide (m.rs = []) <;> cases decide (m.bundle = ⟨#[]⟩) <;> cases decide (m.index = 0) <;> cases decide (m.many = 0) <;> cases decide (m.body = []) <;> cases decide (m.lo = ⟨#[]⟩) <;> cases decide (m.hi = ⟨#[]⟩) <;> simp
      · rw [if_neg k3, if_neg k3]
        by_cases k4 : m.kind = 4
        · rw [if_pos k4, if_pos k4]
          have e : decide ((m.bundle.size : Int) = 32) = idB m.bundle false := by
            unfold idB
            rw [Bool.false_and, Bool.or_false]; congr 1; rw [eq_iff_iff]; omega
          rw [e]
          simp only [emptyB, npB, nbB, Bool.true_or, Bool.false_or, Bool.true_and, Bool.and_true]
          cases decide (m.rs = []) <;> cases decide (m.lo = ⟨#[]⟩) <;> cases decide (m.hi = ⟨#[]⟩) <;> cases decide (m.ids = []) <;> simp
        · rw [if_neg k4, if_neg k4]
end Go.Sy
namespace Go.Proofs.Ytbialojkkhkjeaa
open Go.Sy
set_option maxRecDepth 100000 in
set_option maxHeartbeats 16000000 in
theorem rright_fn (m : Ms) (hr : m.rs.length ≤ 100000) (hi : m.ids.length ≤ 100000) (his : ∀ p, p ∈ m.ids → p.size ≤ 1000000) : Fc Try.prog 17 [.agg m.cells] [] (.lit (.bool (rightB m))) [] := by
  rw [← rrB_is]
  refine Fc.tr Try.func17 rfl (by simp [Try.ntmps17]) (by decide) ?_
  refine Tr.cut (anys _ []) [] mixed (by rfl) ⟨[(1, .ptr 1 0), (2, .lit (.bool false))], [(1, .cells [PV.lit (.int .i64 m.kind), .sl .imm m.nr 4 (rgs m.rs), .lit (.string m.lo), .lit (.string m.hi), .sl .imm m.ni 1 (idc m.ids), .lit (.string m.bundle), .lit (.int .i64 m.index), .lit (.int .i64 m.many), .sl .imm m.nb 1 (u8s m.body)])], 194⟩ (by simp -implicitDefEqProofs -dsimp [Try.ntmps17, Ms.cells]) ?_
  refine Tr.cut (anys _ []) [] mixed (by rfl) ⟨[(1, .ptr 1 0), (2, .lit (.bool false)), (3, .lit (.bool (npB m)))], [(1, .cells [PV.lit (.int .i64 m.kind), .sl .imm m.nr 4 (rgs m.rs), .lit (.string m.lo), .lit (.string m.hi), .sl .imm m.ni 1 (idc m.ids), .lit (.string m.bundle), .lit (.int .i64 m.index), .lit (.int .i64 m.many), .sl .imm m.nb 1 (u8s m.body)])], 194⟩ ?_ ?_
  · by_cases d1 : m.bundle = ⟨#[]⟩
    · by_cases d2 : m.index = 0
      · by_cases d3 : m.many = 0
        · by_cases d4 : m.body = []
          · simp -implicitDefEqProofs -dsimp [npB, d1, d2, d3, d4]
          · simp -implicitDefEqProofs -dsimp [npB, d1, d2, d3, d4]
        · simp -implicitDefEqProofs -dsimp [npB, d1, d2, d3]
      · simp -implicitDefEqProofs -dsimp [npB, d1, d2]
    · simp -implicitDefEqProofs -dsimp [npB, d1]
  refine Tr.cut (anys _ []) [] mixed (by rfl) ⟨[(1, .ptr 1 0), (2, .lit (.bool false)), (3, .lit (.bool (npB m))), (4, .lit (.bool (nbB m)))], [(1, .cells [PV.lit (.int .i64 m.kind), .sl .imm m.nr 4 (rgs m.rs), .lit (.string m.lo), .lit (.string m.hi), .sl .imm m.ni 1 (idc m.ids), .lit (.string m.bundle), .lit (.int .i64 m.index), .lit (.int .i64 m.many), .sl .imm m.nb 1 (u8s m.body)])], 194⟩ ?_ ?_
  · by_cases d1 : m.lo = ⟨#[]⟩
    · by_cases d2 : m.hi = ⟨#[]⟩
      · simp -implicitDefEqProofs -dsimp [nbB, d1, d2]
      · simp -implicitDefEqProofs -dsimp [nbB, d1, d2]
    · simp -implicitDefEqProofs -dsimp [nbB, d1]
  obtain ⟨np, hnp⟩ : ∃ b, b = npB m := ⟨_, rfl⟩
  obtain ⟨nb, hnb⟩ : ∃ b, b = nbB m := ⟨_, rfl⟩
  rw [← hnp, ← hnb]
  refine Tr.pw (anys _ [29, 30]) [] mixed (by rfl) ?_
  by_cases k1 : m.kind = 1
  · have hk := eq_true k1
    simp -implicitDefEqProofs -dsimp [hk]
    refine LpK.mk (anys _ [29, 30]) mixed (fun i : Nat => i ≤ m.rs.length ∧ ∀ k (h : k < m.rs.length), k < i → spanB (m.rs[k]'h) = true)
      (fun i => ⟨[(1, .ptr 1 0), (3, .lit (.bool np)), (4, .lit (.bool nb)), (5, .lit (.int .i64 i))], [(1, .cells [PV.lit (.int .i64 m.kind), .sl .imm m.nr 4 (rgs m.rs), .lit (.string m.lo), .lit (.string m.hi), .sl .imm m.ni 1 (idc m.ids), .lit (.string m.bundle), .lit (.int .i64 m.index), .lit (.int .i64 m.many), .sl .imm m.nb 1 (u8s m.body)])], 194⟩) (fun i => m.rs.length - i) 0 ⟨by omega, fun k _ h => by omega⟩ (by simp -implicitDefEqProofs -dsimp) ?_
    rintro i ⟨hi', hall⟩
    by_cases hlt : i < m.rs.length
    · obtain ⟨r, hr1⟩ : ∃ r, m.rs[i] = r := ⟨_, rfl⟩
      have hr' : m.rs[i]? = some r := by rw [List.getElem?_eq_getElem hlt, hr1]
      have hw : IntKind.i64.wrap ((i : Int) + 1) = (i : Int) + 1 := wrap64 (by omega) (by omega)
      have hfalse : spanB r = false → m.rs.all spanB = false := fun h => by
        rw [List.all_eq_false]; exact ⟨r, hr1 ▸ List.getElem_mem hlt, by simp [h]⟩
      have hmk : ((r.mark.size : Int) = 32) = (r.mark.size = 32) := by rw [eq_iff_iff]; omega
      simp -implicitDefEqProofs -dsimp [hlt, hr1, hr']
      refine CallK.reads ?_
      simp -implicitDefEqProofs -dsimp
      refine CallQ.same (bound_fn r.lo) rfl ?_
      simp -implicitDefEqProofs -dsimp
      by_cases c1 : idB r.lo true = true
      · simp -implicitDefEqProofs -dsimp [c1]
        refine CallK.reads ?_
        simp -implicitDefEqProofs -dsimp
        refine CallQ.same (bound_fn r.hi) rfl ?_
        simp -implicitDefEqProofs -dsimp [c1]
        by_cases c2 : idB r.hi true = true
        · by_cases c3 : r.mark.size = 32
          · by_cases c4 : r.many < 0
            · have hf := hfalse (by have : ¬ 0 ≤ r.many := by omega
                                    simp [spanB, this])
              simp -implicitDefEqProofs -dsimp [c1, c2, hmk, c3, c4, rrB, k1, hf]
            · by_cases c5 : 1099511627776 < r.many
              · have hf := hfalse (by have : ¬ r.many ≤ 1099511627776 := by omega
                                      simp [spanB, this])
                simp -implicitDefEqProofs -dsimp [c1, c2, hmk, c3, c4, c5, rrB, k1, hf]
              · have hs : spanB r = true := by
                  have a1 : 0 ≤ r.many := by omega
                  have a2 : r.many ≤ 1099511627776 := by omega
                  simp [spanB, c1, c2, a1, a2, idB, c3] at *
                  exact ⟨c1, c2⟩
                simp -implicitDefEqProofs -dsimp [c1, c2, hmk, c3, c4, c5, hw]
                refine .mk (i + 1) ⟨hlt, fun k hk hki => ?_⟩ (by omega) (by simp -implicitDefEqProofs -dsimp)
                rcases Nat.lt_or_ge k i with h | h
                · exact hall k hk h
                · have : k = i := by omega
                  subst this; rw [hr1]; exact hs
          · have hf := hfalse (by simp [spanB, idB, c3])
            simp -implicitDefEqProofs -dsimp [c1, c2, hmk, c3, rrB, k1, hf]
        · have hf := hfalse (by simp [spanB, c2])
          simp -implicitDefEqProofs -dsimp [c1, c2, rrB, k1, hf]
      · have hf := hfalse (by simp [spanB, c1])
        simp -implicitDefEqProofs -dsimp [c1, rrB, k1, hf]
    · have e : i = m.rs.length := by omega
      have hA : m.rs.all spanB = true := by
        rw [List.all_eq_true]; intro r hr
        obtain ⟨k, hk, rfl⟩ := List.getElem_of_mem hr
        exact hall k hk (by omega)
      subst e
      cases np
      · simp -implicitDefEqProofs -dsimp [hlt, rrB, k1, hA]
      · cases nb
        · simp -implicitDefEqProofs -dsimp [hlt, rrB, k1, hA]
        · by_cases d1 : m.ids = []
          · by_cases d2 : 0 < (m.rs.length : Int)
            · have d2' : 0 < m.rs.length := by omega
              have d2'' : ¬ m.rs = [] := fun h => by rw [h] at d2'; simp at d2'
              by_cases d3 : (m.rs.length : Int) < 3
              · simp -implicitDefEqProofs -dsimp [hlt, rrB, k1, hA, d1, d2, d2', d2'', d3]
              · simp -implicitDefEqProofs -dsimp [hlt, rrB, k1, hA, d1, d2, d2', d2'', d3]
            · have d2' : ¬ 0 < m.rs.length := by omega
              have d2'' : m.rs = [] := List.eq_nil_of_length_eq_zero (by omega)
              simp -implicitDefEqProofs -dsimp [hlt, rrB, k1, hA, d1, d2, d2', d2'']
          · simp -implicitDefEqProofs -dsimp [hlt, rrB, k1, hA, d1]
  · by_cases k2 : m.kind = 2
    · have hk := eq_true k2
      cases np
      · simp -implicitDefEqProofs -dsimp [k1, hk, rrB]
      · by_cases d1 : m.rs = []
        · simp -implicitDefEqProofs -dsimp [k1, hk, d1]
          refine CallK.reads ?_
          simp -implicitDefEqProofs -dsimp
          refine CallQ.same (bound_fn m.lo) rfl ?_
          simp -implicitDefEqProofs -dsimp
          by_cases d2 : idB m.lo true = true
          · simp -implicitDefEqProofs -dsimp [d2]
            refine CallK.reads ?_
            simp -implicitDefEqProofs -dsimp
            refine CallQ.same (bound_fn m.hi) rfl ?_
            simp -implicitDefEqProofs -dsimp [d2]
            by_cases d3 : idB m.hi true = true
            · simp -implicitDefEqProofs -dsimp [d2, d3]
              refine CallK.reads ?_
              simp -implicitDefEqProofs -dsimp
              refine CallQ.same (rising_fn _ m.ids 0 (by omega) his) rfl ?_
              simp -implicitDefEqProofs -dsimp [rrB, k1, hk, d1, d2, d3]
            · simp -implicitDefEqProofs -dsimp [d2, d3, rrB, k1, hk, d1]
          · simp -implicitDefEqProofs -dsimp [d2, rrB, k1, hk, d1]
        · simp -implicitDefEqProofs -dsimp [k1, hk, d1, rrB]
    · by_cases k3 : m.kind = 3
      · have hk := eq_true k3
        cases np
        · simp -implicitDefEqProofs -dsimp [k1, k2, hk, rrB]
        · cases nb
          · simp -implicitDefEqProofs -dsimp [k1, k2, hk, rrB]
          · by_cases d1 : m.rs = []
            · simp -implicitDefEqProofs -dsimp [k1, k2, hk, d1]
              refine CallK.reads ?_
              simp -implicitDefEqProofs -dsimp
              refine CallQ.same (rising_fn _ m.ids 1 (by omega) his) rfl ?_
              simp -implicitDefEqProofs -dsimp [rrB, k1, k2, hk, d1]
            · simp -implicitDefEqProofs -dsimp [k1, k2, hk, d1, rrB]
      · by_cases k4 : m.kind = 4
        · have hk := eq_true k4
          cases nb
          · simp -implicitDefEqProofs -dsimp [k1, k2, k3, hk, rrB]
          · by_cases d5 : m.rs = []
            · by_cases d6 : m.ids = []
              · by_cases d7 : (m.bundle.size : Int) = 32
                · by_cases d8 : 1 ≤ m.many
                  · by_cases d9 : m.many ≤ 16384
                    · by_cases d10 : 0 ≤ m.index
                      · by_cases d11 : m.index < m.many
                        · by_cases d12 : 1 ≤ (m.body.length : Int)
                          · by_cases d13 : (m.body.length : Int) ≤ 1024
                            · simp -implicitDefEqProofs -dsimp [rrB, k1, k2, k3, hk, d5, d6, d7, d8, d9, d10, d11, d12, d13]
                            · simp -implicitDefEqProofs -dsimp [rrB, k1, k2, k3, hk, d5, d6, d7, d8, d9, d10, d11, d12, d13]
                          · simp -implicitDefEqProofs -dsimp [rrB, k1, k2, k3, hk, d5, d6, d7, d8, d9, d10, d11, d12]
                        · simp -implicitDefEqProofs -dsimp [rrB, k1, k2, k3, hk, d5, d6, d7, d8, d9, d10, d11]
                      · simp -implicitDefEqProofs -dsimp [rrB, k1, k2, k3, hk, d5, d6, d7, d8, d9, d10]
                    · simp -implicitDefEqProofs -dsimp [rrB, k1, k2, k3, hk, d5, d6, d7, d8, d9]
                  · simp -implicitDefEqProofs -dsimp [rrB, k1, k2, k3, hk, d5, d6, d7, d8]
                · simp -implicitDefEqProofs -dsimp [rrB, k1, k2, k3, hk, d5, d6, d7]
              · simp -implicitDefEqProofs -dsimp [rrB, k1, k2, k3, hk, d5, d6]
            · simp -implicitDefEqProofs -dsimp [rrB, k1, k2, k3, hk, d5]
        · simp -implicitDefEqProofs -dsimp [k1, k2, k3, k4, rrB]
end Go.Proofs.Ytbialojkkhkjeaa

/-! Frames: forms, and frames, as the document has them. -/
namespace Go.Proofs.Ytbialojkkhkjeaa
open Go.Sy
theorem rtx_fn (nl : Bool) (b : List Int) (x : ByteArray) (hb : b.length ≤ 10000000) (hx : x.size ≤ 1000000) :
    Fc Try.prog 47 [.sl .imm nl 1 (u8s b), .sl .imm false 1 (u8s (bs x))] [] (.sl (.own (.loc 1090)) false 1 (u8s (b ++ txB x))) [] := by
  have := rtext_fn nl false b (bs x) hb (by rw [bs_length]; omega)
  rw [bs_length, List.append_assoc] at this
  exact this
theorem rnm_fn (nl : Bool) (b : List Int) (n : Int) (hb : b.length ≤ 10000000) :
    Fc Try.prog 46 [.sl .imm nl 1 (u8s b), .lit (.int .u64 (IntKind.u64.wrap n))] [] (.sl (.own (.loc 6)) false 1 (u8s (b ++ numB n))) [] := by
  obtain ⟨h0, h1⟩ := wrap_u64_in n
  obtain ⟨k, hk⟩ := Int.eq_ofNat_of_zero_le h0
  have := rnum_fn nl b k hb (by omega)
  unfold numB
  rw [hk]
  exact this
theorem rnm0_fn (n : Int) :
    Fc Try.prog 46 [.sl .imm true 0 [], .lit (.int .u64 (IntKind.u64.wrap n))] [] (.sl (.own (.loc 6)) false 1 (u8s (numB n))) [] := by
  have := rnm_fn true [] n (by simp)
  exact this.args (by simp)
theorem idsF_num (l : List ByteArray) (h : l.length ≤ 1000) : idsF l = numB l.length ++ l.flatMap txB := by
  rw [idsF, numB_nat (by omega)]

set_option maxRecDepth 100000 in
set_option maxHeartbeats 16000000 in
theorem rform_fn (m : Ms) (hm : Small m) (hk : m.kind = 1 ∨ m.kind = 2 ∨ m.kind = 3 ∨ m.kind = 4) :
    Fc Try.prog 23 [.agg m.cells] [] (.sl .imm false 1 (u8s (formM m))) [] := by
  obtain ⟨hr, hrs, hlo, hhi, hi, his, hbu, hbo, -⟩ := hm
  have l0 := numB_length m.kind
  have b1 := txB_length (x := m.lo) (by omega)
  have b2 := txB_length (x := m.hi) (by omega)
  have b3 := txB_length (x := m.bundle) (by omega)
  have b4 := numB_length m.index
  have b5 := numB_length m.many
  have c1 : m.lo.size ≤ 140737488355328 := by omega
  have c2 : m.hi.size ≤ 140737488355328 := by omega
  have c3 : m.bundle.size ≤ 140737488355328 := by omega
  have idl := numB_length m.ids.length
  have idf := idsF_num m.ids hi
  have hfl : ∀ i, i ≤ m.ids.length → ((m.ids.take i).flatMap txB).length ≤ 1010 * i := fun i hi' => by
    have := flat_length txB 1010 (m.ids.take i) fun q hq => by have := his q (List.mem_of_mem_take hq); have := txB_length (x := q) (by omega); omega
    rw [List.length_take, Nat.min_eq_left (by omega)] at this; exact this
  rcases hk with k1 | k2 | k3 | k4
  · have el := numB_length m.rs.length
    have hk := eq_true k1
    have n2 : ¬ m.kind = 2 := by omega
    have n3 : ¬ m.kind = 3 := by omega
    have n4 : ¬ m.kind = 4 := by omega
    have hf : formM m = numB m.kind ++ numB m.rs.length ++ m.rs.flatMap rgF := by rw [formM, if_pos k1]; simp
    suffices h : Fc Try.prog 23 [.agg m.cells] [] (.sl (.own (.loc 1610)) false 1 (u8s (formM m))) [] by
      have := h.fz [.loc 1610]
      simpa using this
    rw [hf]
    refine Fc.of (anys _ [46, 47]) [] mixed Try.func23 rfl (by rfl) (by simp [Try.ntmps23]) (by decide) ?_
    simp -implicitDefEqProofs -dsimp [Try.ntmps23, Ms.cells]
    refine CallK.fresh ?_
    simp -implicitDefEqProofs -dsimp
    refine CallQ.same (rnm0_fn m.kind) rfl ?_
    simp -implicitDefEqProofs -dsimp [fr_u8s]
    simp -implicitDefEqProofs -dsimp [hk]
    refine CallK.fresh ?_
    simp -implicitDefEqProofs -dsimp
    refine CallQ.same (rnm_fn false (numB m.kind) m.rs.length (by omega)) rfl ?_
    simp -implicitDefEqProofs -dsimp [fr_u8s]
    obtain ⟨c, hc⟩ : ∃ c, c = numB m.kind ++ numB m.rs.length := ⟨_, rfl⟩
    have hcl : c.length ≤ 20 := by rw [hc, List.length_append]; omega
    rw [← hc]
    refine LpK.mkA (anys _ [46, 47]) mixed [.mv 1180 1610] (fun i : Nat => i ≤ m.rs.length) (fun i => ⟨[(1, .ptr 1 0), (3, .sl (.own (.loc 1610)) false 1 (u8s (c ++ (m.rs.take i).flatMap rgF))), (4, .lit (.int .i64 i))], [(1, .cells [PV.lit (.int .i64 m.kind), .sl .imm m.nr 4 (rgs m.rs), .lit (.string m.lo), .lit (.string m.hi), .sl .imm m.ni 1 (idc m.ids), .lit (.string m.bundle), .lit (.int .i64 m.index), .lit (.int .i64 m.many), .sl .imm m.nb 1 (u8s m.body)])], 127⟩) (fun i => m.rs.length - i) 0 (by simp) (by simp -implicitDefEqProofs -dsimp) ?_
    intro i hi
    by_cases hlt : i < m.rs.length
    · obtain ⟨r, hp⟩ : ∃ r, m.rs[i] = r := ⟨_, rfl⟩
      have hp' : m.rs[i]? = some r := by rw [List.getElem?_eq_getElem hlt, hp]
      obtain ⟨s1, s2, s3⟩ := hrs r (hp ▸ List.getElem_mem hlt)
      have hw : IntKind.i64.wrap ((i : Int) + 1) = (i : Int) + 1 := wrap64 (by omega) (by omega)
      have hsn := flat_snoc rgF m.rs hp'
      have hfl := flat_length rgF 3100 (m.rs.take i) fun q hq => by
        obtain ⟨a, b, c⟩ := hrs q (List.mem_of_mem_take hq)
        exact rgF_length a b c
      rw [List.length_take, Nat.min_eq_left (by omega)] at hfl
      obtain ⟨d, hd⟩ : ∃ d, d = c ++ (m.rs.take i).flatMap rgF := ⟨_, rfl⟩
      have hdl : d.length ≤ 1000000 := by rw [hd, List.length_append]; omega
      have hnx : c ++ (m.rs.take (i + 1)).flatMap rgF = d ++ (txB r.lo ++ (txB r.hi ++ (numB r.many ++ txB r.mark))) := by rw [hsn, hd]; simp [rgF]
      have q1 := txB_length (x := r.lo) (by omega)
      have q2 := txB_length (x := r.hi) (by omega)
      have q3 := numB_length r.many
      have z1 : r.lo.size ≤ 140737488355328 := by omega
      have z2 : r.hi.size ≤ 140737488355328 := by omega
      have z3 : r.mark.size ≤ 140737488355328 := by omega
      rw [← hd]
      simp -implicitDefEqProofs -dsimp [hlt, hp, hp', z1]
      refine CallK.fresh ?_
      simp -implicitDefEqProofs -dsimp
      refine CallQ.same (rtx_fn false d r.lo (by omega) (by omega)) rfl ?_
      simp -implicitDefEqProofs -dsimp [fr_u8s, hlt, hp, hp', hw, z1, z2, z3]
      refine CallK.fresh ?_
      simp -implicitDefEqProofs -dsimp
      refine CallQ.same (rtx_fn false (d ++ txB r.lo) r.hi (by simp; omega) (by omega)) rfl ?_
      simp -implicitDefEqProofs -dsimp [fr_u8s, hlt, hp, hp', hw, z1, z2, z3]
      refine CallK.fresh ?_
      simp -implicitDefEqProofs -dsimp
      refine CallQ.same (rnm_fn false (d ++ (txB r.lo ++ txB r.hi)) r.many (by simp; omega)) rfl ?_
      simp -implicitDefEqProofs -dsimp [fr_u8s, hlt, hp, hp', hw, z1, z2, z3]
      refine CallK.fresh ?_
      simp -implicitDefEqProofs -dsimp
      refine CallQ.same (rtx_fn false (d ++ (txB r.lo ++ (txB r.hi ++ numB r.many))) r.mark (by simp; omega) (by omega)) rfl ?_
      simp -implicitDefEqProofs -dsimp [fr_u8s, hlt, hp, hp', hw, z1, z2, z3]
      exact .mk [] (i + 1) hlt (by omega) (by simp -implicitDefEqProofs -dsimp [hnx])
    · have e : i = m.rs.length := by omega
      subst e
      simp -implicitDefEqProofs -dsimp [k1]
  · have hk := eq_true k2
    have n1 : ¬ m.kind = 1 := by omega
    have n4 : ¬ m.kind = 4 := by omega
    have hf : formM m = numB m.kind ++ txB m.lo ++ txB m.hi ++ numB m.ids.length ++ m.ids.flatMap txB := by rw [formM, if_neg n1, if_pos k2, idf]; simp
    suffices h : Fc Try.prog 23 [.agg m.cells] [] (.sl (.own (.loc 2030)) false 1 (u8s (formM m))) [] by
      have := h.fz [.loc 2030]
      simpa using this
    rw [hf]
    refine Fc.of (anys _ [46, 47]) [] mixed Try.func23 rfl (by rfl) (by simp [Try.ntmps23]) (by decide) ?_
    simp -implicitDefEqProofs -dsimp [Try.ntmps23, Ms.cells]
    refine CallK.fresh ?_
    simp -implicitDefEqProofs -dsimp
    refine CallQ.same (rnm0_fn m.kind) rfl ?_
    simp -implicitDefEqProofs -dsimp [fr_u8s]
    simp -implicitDefEqProofs -dsimp [n1, hk, c1]
    refine CallK.fresh ?_
    simp -implicitDefEqProofs -dsimp
    refine CallQ.same (rtx_fn false (numB m.kind) m.lo (by omega) (by omega)) rfl ?_
    simp -implicitDefEqProofs -dsimp [fr_u8s, c1, c2]
    refine CallK.fresh ?_
    simp -implicitDefEqProofs -dsimp
    refine CallQ.same (rtx_fn false (numB m.kind ++ txB m.lo) m.hi (by simp; omega) (by omega)) rfl ?_
    simp -implicitDefEqProofs -dsimp [fr_u8s, hk, c1, c2]
    refine CallK.fresh ?_
    simp -implicitDefEqProofs -dsimp
    refine CallQ.same (rnm_fn false (numB m.kind ++ (txB m.lo ++ txB m.hi)) m.ids.length (by simp; omega)) rfl ?_
    simp -implicitDefEqProofs -dsimp [fr_u8s, hk, c1, c2]
    obtain ⟨c, hc⟩ : ∃ c, c = numB m.kind ++ (txB m.lo ++ (txB m.hi ++ numB m.ids.length)) := ⟨_, rfl⟩
    have hcl : c.length ≤ 3000 := by rw [hc]; simp only [List.length_append]; omega
    rw [← hc]
    refine LpK.mkA (anys _ [46, 47]) mixed [.mv 1880 2030] (fun i : Nat => i ≤ m.ids.length) (fun i => ⟨[(1, .ptr 1 0), (3, .sl (.own (.loc 2030)) false 1 (u8s (c ++ (m.ids.take i).flatMap txB))), (5, .lit (.int .i64 i))], [(1, .cells [PV.lit (.int .i64 m.kind), .sl .imm m.nr 4 (rgs m.rs), .lit (.string m.lo), .lit (.string m.hi), .sl .imm m.ni 1 (idc m.ids), .lit (.string m.bundle), .lit (.int .i64 m.index), .lit (.int .i64 m.many), .sl .imm m.nb 1 (u8s m.body)])], 127⟩) (fun i => m.ids.length - i) 0 (by simp) (by simp -implicitDefEqProofs -dsimp) ?_
    intro i hi'
    by_cases hlt : i < m.ids.length
    · obtain ⟨p, hp⟩ : ∃ p, m.ids[i] = p := ⟨_, rfl⟩
      have hp' : m.ids[i]? = some p := by rw [List.getElem?_eq_getElem hlt, hp]
      have hps := his p (hp ▸ List.getElem_mem hlt)
      have hw : IntKind.i64.wrap ((i : Int) + 1) = (i : Int) + 1 := wrap64 (by omega) (by omega)
      have hsn := flat_snoc txB m.ids hp'
      have hfl' := hfl i hi'
      obtain ⟨d, hd⟩ : ∃ d, d = c ++ (m.ids.take i).flatMap txB := ⟨_, rfl⟩
      have hdl : d.length ≤ 10000000 := by rw [hd, List.length_append]; omega
      have hnx : c ++ (m.ids.take (i + 1)).flatMap txB = d ++ txB p := by rw [hsn, hd]; simp
      have z1 : p.size ≤ 140737488355328 := by omega
      rw [← hd]
      simp -implicitDefEqProofs -dsimp [hlt, hp, hp', z1]
      refine CallK.fresh ?_
      simp -implicitDefEqProofs -dsimp
      refine CallQ.same (rtx_fn false d p hdl (by omega)) rfl ?_
      simp -implicitDefEqProofs -dsimp [fr_u8s, hw, c1, c2]
      exact .mk [] (i + 1) hlt (by omega) (by simp -implicitDefEqProofs -dsimp [hnx])
    · have e : i = m.ids.length := by omega
      subst e
      simp -implicitDefEqProofs -dsimp [hk, n4]
      rw [hc]; simp
  · have hk := eq_true k3
    have n1 : ¬ m.kind = 1 := by omega
    have n2 : ¬ m.kind = 2 := by omega
    have n4 : ¬ m.kind = 4 := by omega
    have hf : formM m = numB m.kind ++ numB m.ids.length ++ m.ids.flatMap txB := by rw [formM, if_neg n1, if_neg n2, if_pos k3, idf]; simp
    suffices h : Fc Try.prog 23 [.agg m.cells] [] (.sl (.own (.loc 2030)) false 1 (u8s (formM m))) [] by
      have := h.fz [.loc 2030]
      simpa using this
    rw [hf]
    refine Fc.of (anys _ [46, 47]) [] mixed Try.func23 rfl (by rfl) (by simp [Try.ntmps23]) (by decide) ?_
    simp -implicitDefEqProofs -dsimp [Try.ntmps23, Ms.cells]
    refine CallK.fresh ?_
    simp -implicitDefEqProofs -dsimp
    refine CallQ.same (rnm0_fn m.kind) rfl ?_
    simp -implicitDefEqProofs -dsimp [fr_u8s, c1, c2]
    simp -implicitDefEqProofs -dsimp [n1, n2, hk]
    refine CallK.fresh ?_
    simp -implicitDefEqProofs -dsimp
    refine CallQ.same (rnm_fn false (numB m.kind) m.ids.length (by omega)) rfl ?_
    simp -implicitDefEqProofs -dsimp [fr_u8s, c1, c2]
    obtain ⟨c, hc⟩ : ∃ c, c = numB m.kind ++ numB m.ids.length := ⟨_, rfl⟩
    have hcl : c.length ≤ 3000 := by rw [hc]; simp only [List.length_append]; omega
    rw [← hc]
    refine LpK.mkA (anys _ [46, 47]) mixed [.mv 1880 2030] (fun i : Nat => i ≤ m.ids.length) (fun i => ⟨[(1, .ptr 1 0), (3, .sl (.own (.loc 2030)) false 1 (u8s (c ++ (m.ids.take i).flatMap txB))), (5, .lit (.int .i64 i))], [(1, .cells [PV.lit (.int .i64 m.kind), .sl .imm m.nr 4 (rgs m.rs), .lit (.string m.lo), .lit (.string m.hi), .sl .imm m.ni 1 (idc m.ids), .lit (.string m.bundle), .lit (.int .i64 m.index), .lit (.int .i64 m.many), .sl .imm m.nb 1 (u8s m.body)])], 127⟩) (fun i => m.ids.length - i) 0 (by simp) (by simp -implicitDefEqProofs -dsimp) ?_
    intro i hi'
    by_cases hlt : i < m.ids.length
    · obtain ⟨p, hp⟩ : ∃ p, m.ids[i] = p := ⟨_, rfl⟩
      have hp' : m.ids[i]? = some p := by rw [List.getElem?_eq_getElem hlt, hp]
      have hps := his p (hp ▸ List.getElem_mem hlt)
      have hw : IntKind.i64.wrap ((i : Int) + 1) = (i : Int) + 1 := wrap64 (by omega) (by omega)
      have hsn := flat_snoc txB m.ids hp'
      have hfl' := hfl i hi'
      obtain ⟨d, hd⟩ : ∃ d, d = c ++ (m.ids.take i).flatMap txB := ⟨_, rfl⟩
      have hdl : d.length ≤ 10000000 := by rw [hd, List.length_append]; omega
      have hnx : c ++ (m.ids.take (i + 1)).flatMap txB = d ++ txB p := by rw [hsn, hd]; simp
      have z1 : p.size ≤ 140737488355328 := by omega
      rw [← hd]
      simp -implicitDefEqProofs -dsimp [hlt, hp, hp', z1]
      refine CallK.fresh ?_
      simp -implicitDefEqProofs -dsimp
      refine CallQ.same (rtx_fn false d p hdl (by omega)) rfl ?_
      simp -implicitDefEqProofs -dsimp [fr_u8s, hw, c1, c2]
      exact .mk [] (i + 1) hlt (by omega) (by simp -implicitDefEqProofs -dsimp [hnx])
    · have e : i = m.ids.length := by omega
      subst e
      simp -implicitDefEqProofs -dsimp [hk, n4]
  · have hk := eq_true k4
    have n1 : ¬ m.kind = 1 := by omega
    have n2 : ¬ m.kind = 2 := by omega
    have n3 : ¬ m.kind = 3 := by omega
    have hf : formM m = numB m.kind ++ txB m.bundle ++ numB m.index ++ numB m.many ++ enc m.body.length ++ m.body := by rw [formM, if_neg n1, if_neg n2, if_neg n3]; simp
    suffices h : Fc Try.prog 23 [.agg m.cells] [] (.sl (.own (.loc 2250)) false 1 (u8s (formM m))) [] by
      have := h.fz [.loc 2250]
      simpa using this
    rw [hf]
    refine Fc.of (anys _ [46, 47]) [] mixed Try.func23 rfl (by rfl) (by simp [Try.ntmps23]) (by decide) ?_
    simp -implicitDefEqProofs -dsimp [Try.ntmps23, Ms.cells]
    refine CallK.fresh ?_
    simp -implicitDefEqProofs -dsimp
    refine CallQ.same (rnm0_fn m.kind) rfl ?_
    simp -implicitDefEqProofs -dsimp [fr_u8s, c1, c2]
    simp -implicitDefEqProofs -dsimp [n1, n2, n3, hk, c3]
    refine CallK.fresh ?_
    simp -implicitDefEqProofs -dsimp
    refine CallQ.same (rtx_fn false (numB m.kind) m.bundle (by omega) (by omega)) rfl ?_
    simp -implicitDefEqProofs -dsimp [fr_u8s, c1, c2]
    refine CallK.fresh ?_
    simp -implicitDefEqProofs -dsimp
    refine CallQ.same (rnm_fn false (numB m.kind ++ txB m.bundle) m.index (by simp; omega)) rfl ?_
    simp -implicitDefEqProofs -dsimp [fr_u8s, c1, c2]
    refine CallK.fresh ?_
    simp -implicitDefEqProofs -dsimp
    refine CallQ.same (rnm_fn false (numB m.kind ++ (txB m.bundle ++ numB m.index)) m.many (by simp; omega)) rfl ?_
    simp -implicitDefEqProofs -dsimp [fr_u8s, c1, c2]
    refine CallK.fresh ?_
    simp -implicitDefEqProofs -dsimp
    refine CallQ.same (rtext_fn false _ (numB m.kind ++ (txB m.bundle ++ (numB m.index ++ numB m.many))) m.body (by simp; omega) (by omega)) rfl ?_
    simp -implicitDefEqProofs -dsimp [fr_u8s, c1, c2]

set_option maxRecDepth 100000 in
set_option maxHeartbeats 8000000 in
theorem rframed_fn (nl : Bool) (b : List Int) (hb : InB b) (hl : b.length ≤ 1000000) : Fc Try.prog 21 [.sl .imm nl 1 (u8s b)] [] (.sl (.own (.loc 6)) false 1 (u8s (frB b))) [] := by
  refine Fc.of (anys _ [11]) [] mixed Try.func21 rfl (by rfl) (by simp [Try.ntmps21]) (by decide) ?_
  have hc := crc_lt b
  obtain ⟨c, hcc⟩ : ∃ c, c = crc b := ⟨_, rfl⟩
  have hf : frB b = b ++ ck4 c := by rw [frB, hcc]
  have hK := rcheck_fn nl b hb hl
  rw [← hcc] at hK hc
  rw [hf]
  have t : ∀ x : Nat, (x : Int).tmod 256 = ((x % 256 : Nat) : Int) := fun x => by rw [Int.tmod_eq_emod_of_nonneg (by omega)]; omega
  have w : ∀ x : Nat, IntKind.u8.wrap ((x % 256 : Nat) : Int) = ((x % 256 : Nat) : Int) := fun x => by rw [wrap_is_u8]; omega
  have q1 : iquo .u32 (c : Int) 256 = ((c / 256 : Nat) : Int) := by unfold iquo; rw [Int.tdiv_eq_ediv_of_nonneg (by omega), wrap_is_u32]; omega
  have q2 : iquo .u32 (c : Int) 65536 = ((c / 65536 : Nat) : Int) := by unfold iquo; rw [Int.tdiv_eq_ediv_of_nonneg (by omega), wrap_is_u32]; omega
  have q3 : iquo .u32 (c : Int) 16777216 = ((c / 16777216 : Nat) : Int) := by unfold iquo; rw [Int.tdiv_eq_ediv_of_nonneg (by omega), wrap_is_u32]; omega
  have w3 : IntKind.u8.wrap ((c / 16777216 : Nat) : Int) = ((c / 16777216 % 256 : Nat) : Int) := by rw [wrap_is_u8]; omega
  have z1 : b.length ≤ 140737488355328 := by omega
  have z2 : b.length + 4 ≤ 140737488355328 := by omega
  have z3 : b.length ≤ 140737488355324 := by omega
  simp -implicitDefEqProofs -dsimp [Try.ntmps21]
  refine CallK.reads ?_
  simp -implicitDefEqProofs -dsimp
  refine CallQ.same (hK) rfl ?_
  simp -implicitDefEqProofs -dsimp [t, w, q1, q2, q3, w3, z1, z2, z3]
  have e0 : IntKind.u8.wrap ((c : Int) % 256) = ((c % 256 : Nat) : Int) := by rw [wrap_is_u8]; omega
  have e1 : IntKind.u8.wrap (((c : Int) / 256).tmod 256) = ((c / 256 % 256 : Nat) : Int) := by rw [Int.tmod_eq_emod_of_nonneg (by omega), wrap_is_u8]; omega
  have e2 : IntKind.u8.wrap (((c : Int) / 65536).tmod 256) = ((c / 65536 % 256 : Nat) : Int) := by rw [Int.tmod_eq_emod_of_nonneg (by omega), wrap_is_u8]; omega
  have e3 : IntKind.u8.wrap ((c : Int) / 16777216) = ((c / 16777216 % 256 : Nat) : Int) := by rw [wrap_is_u8]; omega
  rw [e0, e1, e2, e3]
  simp [ck4, ints]

theorem right_kind {m : Ms} (h : rightB m = true) : m.kind = 1 ∨ m.kind = 2 ∨ m.kind = 3 ∨ m.kind = 4 := by
  unfold rightB at h
  split at h
  · exact .inl ‹_›
  · split at h
    · exact .inr (.inl ‹_›)
    · split at h
      · exact .inr (.inr (.inl ‹_›))
      · split at h
        · exact .inr (.inr (.inr ‹_›))
        · cases h

set_option maxRecDepth 100000 in
set_option maxHeartbeats 8000000 in
theorem rencode_fn (m : Ms) (hm : Small m) (hfl : (formM m).length ≤ 1000000) : Fc Try.prog 14 [.agg m.cells] [] (.tup [.sl .imm (encM m).1.1 1 (u8s (encM m).1.2), .lit (.int .i64 (encM m).2)]) [] := by
  have hr := rright_fn m (by have := hm.rs; omega) (by have := hm.il; omega) fun p hp => Nat.le_trans (hm.ids p hp) (by decide)
  simp only [Ms.cells] at hr
  by_cases hR : rightB m = true
  · have he : encM m = ((false, frB (formM m)), 0) := by rw [encM, if_pos hR]
    rw [he]
    have hf := rform_fn m hm (right_kind hR)
    simp only [Ms.cells] at hf
    suffices h : Fc Try.prog 14 [.agg m.cells] [] (.tup [.sl (.own (.loc 1110)) false 1 (u8s (frB (formM m))), .lit (.int .i64 0)]) [] by
      have := h.fz [.loc 1110]
      simpa using this
    have hb := inB_formM hm.inB
    refine Fc.of (anys _ [17, 21, 23]) [] mixed Try.func14 rfl (by rfl) (by simp [Try.ntmps14]) (by decide) ?_
    simp -implicitDefEqProofs -dsimp [Try.ntmps14, Ms.cells]
    refine CallK.reads ?_
    simp -implicitDefEqProofs -dsimp
    refine CallQ.same (hr) rfl ?_
    simp -implicitDefEqProofs -dsimp [hR]
    refine CallK.works ?_
    simp -implicitDefEqProofs -dsimp
    refine CallQ.mk (hf) (by simp) ?_
    simp -implicitDefEqProofs -dsimp
    refine CallK.fresh ?_
    simp -implicitDefEqProofs -dsimp
    refine CallQ.same (rframed_fn false (formM m) hb hfl) rfl ?_
    simp -implicitDefEqProofs -dsimp [fr_u8s]
  · have he : encM m = ((true, []), 1) := by rw [encM, if_neg hR]
    rw [he]
    refine Fc.tup (xs := [.sl .imm true 0 [], .lit (.int .i64 1)]) ?_ (by simp)
    refine Fc.of (anys _ [17, 21, 23]) [] mixed Try.func14 rfl (by rfl) (by simp [Try.ntmps14]) (by decide) ?_
    simp -implicitDefEqProofs -dsimp [Try.ntmps14, Ms.cells]
    refine CallK.reads ?_
    simp -implicitDefEqProofs -dsimp
    refine CallQ.same (hr) rfl ?_
    simp -implicitDefEqProofs -dsimp [hR]

theorem formM_few {m : Ms} (h : Small m) (l1 : m.ids.length ≤ 70) (l2 : m.rs.length ≤ 4) (l3 : m.body.length ≤ 1100) : (formM m).length ≤ 200000 := by
  have a0 := numB_length m.kind
  have a1 := numB_length m.rs.length
  have a2 := flat_length rgF 3100 m.rs fun r hr => by obtain ⟨x, y, z⟩ := h.rg r hr; exact rgF_length x y z
  have a3 := txB_length (x := m.lo) (by have := h.lo; omega)
  have a4 := txB_length (x := m.hi) (by have := h.hi; omega)
  have a5 := flat_length txB 1010 m.ids fun q hq => by have := h.ids q hq; have := txB_length (x := q) (by omega); omega
  have a6 := enc_u64 (n := m.ids.length) (by omega)
  have a7 := txB_length (x := m.bundle) (by have := h.bundle; omega)
  have a8 := numB_length m.index
  have a9 := numB_length m.many
  have b1 := enc_u64 (n := m.body.length) (by omega)
  have := h.lo
  have := h.hi
  have := h.bundle
  have hi : (idsF m.ids).length ≤ 71000 := by unfold idsF; rw [List.length_append]; omega
  unfold formM
  rw [List.length_append]
  split
  · rw [List.length_append]; omega
  · split
    · simp only [List.length_append]; omega
    · split
      · omega
      · simp only [List.length_append]; omega

set_option maxRecDepth 100000 in
set_option maxHeartbeats 8000000 in
theorem encodes_fn (m : Ms) (h1 : m.rs.length ≤ 9223372036854775807) (h2 : m.ids.length ≤ 9223372036854775807) (hb : InB m.body) : Fc Try.prog 4 [.agg m.cells] [] (.lit (.bool true)) [] := by
  have hF := few_fn m h1 h2
  simp only [Ms.cells] at hF
  by_cases hf : fewM m = true
  · obtain ⟨hS, l1, l2, l3, l4, l5, l6, l7⟩ := fewM_small hf hb
    have hfl := formM_few hS l1 l2 l3
    have hR := right_fn m (by omega) (by omega)
    have hRR := rright_fn m (by omega) (by omega) fun p hp => by have := l4 p hp; omega
    have hE := encode_fn m hS
    have hRE := rencode_fn m hS (by omega)
    have hlen : (encM m).1.2.length ≤ 200004 := by
      unfold encM
      split
      · show (frB (formM m)).length ≤ _
        unfold frB; rw [List.length_append, ck4_length]; omega
      · show ([] : List Int).length ≤ _; simp
    obtain ⟨⟨⟨n, x⟩, e⟩, hx⟩ : ∃ q, q = encM m := ⟨_, rfl⟩
    rw [← hx] at hE hRE hlen
    simp only [Ms.cells] at hR hRR hE hRE
    refine Fc.of (anys _ [9, 12, 13, 14, 15, 16, 17]) sch4 mixed Try.func4 rfl (by rfl) (by simp [Try.ntmps4]) (by decide) ?_
    simp -implicitDefEqProofs -dsimp [Try.ntmps4, Ms.cells]
    refine CallK.reads ?_
    simp -implicitDefEqProofs -dsimp
    refine CallQ.same (awake_fn) rfl ?_
    simp -implicitDefEqProofs -dsimp
    refine CallK.reads ?_
    simp -implicitDefEqProofs -dsimp
    refine CallQ.same (hF) rfl ?_
    simp -implicitDefEqProofs -dsimp [hf]
    refine CallK.works ?_
    simp -implicitDefEqProofs -dsimp
    refine CallQ.mk (hE) (by simp) ?_
    simp -implicitDefEqProofs -dsimp
    refine CallK.works ?_
    simp -implicitDefEqProofs -dsimp
    refine CallQ.mk (hRE) (by simp) ?_
    simp -implicitDefEqProofs -dsimp
    have hlen' : x.length ≤ 200004 := hlen
    refine CallK.reads ?_
    simp -implicitDefEqProofs -dsimp
    refine CallQ.same (same_fn n n x x (by omega)) rfl ?_
    simp -implicitDefEqProofs -dsimp
    refine CallK.reads ?_
    simp -implicitDefEqProofs -dsimp
    refine CallQ.same (hR) rfl ?_
    simp -implicitDefEqProofs -dsimp
    refine CallK.reads ?_
    simp -implicitDefEqProofs -dsimp
    refine CallQ.same (hRR) rfl ?_
    simp -implicitDefEqProofs -dsimp
  · refine Fc.of (anys _ [9, 12, 13, 14, 15, 16, 17]) sch4 mixed Try.func4 rfl (by rfl) (by simp [Try.ntmps4]) (by decide) ?_
    simp -implicitDefEqProofs -dsimp [Try.ntmps4, Ms.cells]
    refine CallK.reads ?_
    simp -implicitDefEqProofs -dsimp
    refine CallQ.same (awake_fn) rfl ?_
    simp -implicitDefEqProofs -dsimp
    refine CallK.reads ?_
    simp -implicitDefEqProofs -dsimp
    refine CallQ.same (hF) rfl ?_
    simp -implicitDefEqProofs -dsimp [hf]
end Go.Proofs.Ytbialojkkhkjeaa
