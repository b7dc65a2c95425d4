/- The law FrameLimits, walked. (and what stands on it) -/
import Derived.Test.YtbialojkkhkjeaaMf
import Derived.Test.YtbialojkkhkjeaaMd

/-! The law FrameLimits, walked. -/
namespace Go.Sy
/-- An id whose first byte is a number. -/
def mkI (i : Nat) : ByteArray := ofBs ((i : Int) :: List.replicate 31 0)
def idsTo (n : Nat) : List ByteArray := (List.range n).map mkI
def mL (n : Nat) : Ms := ⟨2, true, [], ByteArray.empty, ByteArray.empty, false, idsTo n, ByteArray.empty, 0, 0, true, []⟩
def mP (p l : Nat) : Ms := ⟨4, true, [], ByteArray.empty, ByteArray.empty, true, [], mkI 0, 0, p, false, List.replicate l 0⟩
@[simp] theorem idsTo_length (n : Nat) : (idsTo n).length = n := by simp [idsTo]
theorem idsTo_succ (n : Nat) : idsTo (n + 1) = idsTo n ++ [mkI n] := by simp [idsTo, List.range_succ]
theorem mkI_size (i : Nat) (h : i < 256) : (mkI i).size = 32 := by
  unfold mkI
  have h1 : InB ((i : Int) :: List.replicate 31 0) := by
    rw [inB_cons]
    exact ⟨by omega, fun x hx => by rw [List.eq_of_mem_replicate hx]; decide⟩
  have := bs_length (ofBs ((i : Int) :: List.replicate 31 0))
  rw [bs_ofBs h1] at this
  simpa using this.symm
theorem mem_idsTo {n : Nat} {p : ByteArray} (h : p ∈ idsTo n) : ∃ i, i < n ∧ p = mkI i := by
  simp only [idsTo, List.mem_map, List.mem_range] at h
  obtain ⟨i, hi, rfl⟩ := h
  exact ⟨i, hi, rfl⟩
end Go.Sy
namespace Go.Proofs.Ytbialojkkhkjeaa
open Go.Sy
theorem right_mL (k : Nat) (h : k < 10) : rightB (mL (60 + k)) = decide (60 + (k : Int) ≤ 64) := by
  rcases (by omega : k = 0 ∨ k = 1 ∨ k = 2 ∨ k = 3 ∨ k = 4 ∨ k = 5 ∨ k = 6 ∨ k = 7 ∨ k = 8 ∨ k = 9) with rfl | rfl | rfl | rfl | rfl | rfl | rfl | rfl | rfl | rfl <;> kernel_rfl
theorem right_mP (p l : Nat) (h1 : 1 ≤ p) (h2 : 1 ≤ l) : rightB (mP p l) = (decide ((p : Int) ≤ 16384) && decide ((l : Int) ≤ 1024)) := by
  have e0 : (ByteArray.empty : ByteArray) = ⟨#[]⟩ := rfl
  have e1 : idB (mkI 0) false = true := by simp [idB, mkI_size]
  have a1 : (1 : Int) ≤ p := by omega
  have a2 : (1 : Int) ≤ l := by omega
  have a3 : 0 < p := by omega
  simp [rightB, mP, emptyB, e0, e1, a1, a2, a3]
theorem small_mL (n : Nat) (h : n ≤ 69) : Small (mL n) :=
  ⟨by simp [mL], fun r hr => by simp [mL] at hr, by simp [mL], by simp [mL], by simp [mL]; omega, fun p hp => by
    obtain ⟨i, hi, rfl⟩ := mem_idsTo (n := n) hp
    rw [mkI_size i (by omega)]; decide, by simp [mL], by simp [mL], by simp [mL]⟩
theorem small_mP (p l : Nat) (h : l ≤ 1100) : Small (mP p l) :=
  ⟨by simp [mP], fun r hr => by simp [mP] at hr, by simp [mP], by simp [mP], by simp [mP], fun p hp => by simp [mP] at hp, by rw [show (mP p l).bundle = mkI 0 from rfl, mkI_size 0 (by decide)]; decide, by simp [mP]; omega, fun x hx => by rw [List.eq_of_mem_replicate hx]; decide⟩
theorem encM_short {m : Ms} : (encM m).1.2.length ≤ 4096 := by
  unfold encM
  split
  · have := form_short ‹_›
    show (frB (formM m)).length ≤ _
    unfold frB; rw [List.length_append, ck4_length]; omega
  · simp

set_option maxRecDepth 100000 in
set_option maxHeartbeats 8000000 in
theorem limits_fn (a b c : Nat) (ha : a < 256) (hb : b < 256) (hc : c < 256) :
    Fc Try.prog 8 [.lit (.int .u8 a), .lit (.int .u8 b), .lit (.int .u8 c)] [] (.lit (.bool true)) [] := by
  obtain ⟨k, hk⟩ : ∃ k, k = a % 10 := ⟨_, rfl⟩
  obtain ⟨n, hn⟩ : ∃ n, n = 60 + k := ⟨_, rfl⟩
  have w1 : ((a : Int)).tmod 10 = k := by rw [hk]; rfl
  have w2 : IntKind.i64.wrap (k : Int) = k := wrap64 (by omega) (by omega)
  have w3 : IntKind.i64.wrap (60 + (k : Int)) = n := by rw [hn]; exact wrap64 (by omega) (by omega)
  refine Fc.of (anys _ [9, 13]) sch8 mixed Try.func8 rfl (by rfl) (by simp [Try.ntmps8]) (by decide) ?_
  simp -implicitDefEqProofs -dsimp [Try.ntmps8]
  refine CallK.reads ?_
  simp -implicitDefEqProofs -dsimp
  refine CallQ.same (awake_fn) rfl ?_
  simp -implicitDefEqProofs -dsimp [w1, w2, w3]
  refine LpK.mk (anys _ [9, 13]) mixed (fun i : Nat => i ≤ n) (fun i => ⟨[(7, .lit (.bool true)), (8, .lit (.int .i64 n)), (9, .ptr 9 0), (10, .lit (.int .i64 i)), (1, .lit (.int .u8 b)), (2, .lit (.int .u8 c))],
     [(9, .cells [.lit (.int .i64 2), .sl .imm true 0 [], .lit (.string ByteArray.empty), .lit (.string ByteArray.empty), .sl (.own (.cell 9 4)) (decide (i = 0)) 1 (idc (idsTo i)), .lit (.string ByteArray.empty), .lit (.int .i64 0), .lit (.int .i64 0), .sl .imm true 0 []])], 96⟩) (fun i => n - i) 0 (by omega) (by simp -implicitDefEqProofs -dsimp [idsTo]) ?_
  intro i hi
  have v2 : IntKind.i64.wrap ((i : Int) + 1) = (i : Int) + 1 := wrap64 (by omega) (by omega)
  by_cases hlt : i < n
  · have hlt' : (i : Int) < n := by omega
    have v3 : IntKind.u8.wrap (i : Int) = i := by rw [wrap_is_u8]; omega
    have v4 : (i : Int) < 256 := by omega
    have hpk : pokeL 32 (PV.lit (.int .u8 (i : Int))) (u8s [0, 0, 0, 0, 0, 0, 0, 0, 0, 0, 0, 0, 0, 0, 0, 0, 0, 0, 0, 0, 0, 0, 0, 0, 0, 0, 0, 0, 0, 0, 0, 0]) = u8s [(i : Int), 0, 0, 0, 0, 0, 0, 0, 0, 0, 0, 0, 0, 0, 0, 0, 0, 0, 0, 0, 0, 0, 0, 0, 0, 0, 0, 0, 0, 0, 0, 0] := rfl
    have hof : ofBs [(i : Int), 0, 0, 0, 0, 0, 0, 0, 0, 0, 0, 0, 0, 0, 0, 0, 0, 0, 0, 0, 0, 0, 0, 0, 0, 0, 0, 0, 0, 0, 0, 0] = mkI i := rfl
    have hcap : (i + 1) * 16 ≤ 140737488355328 := by omega
    have hcap2 : i ≤ 140737488355327 := by omega
    have hsn := idsTo_succ i
    simp -implicitDefEqProofs -dsimp [hlt', v2, v3, -reps, reps_u8]
    simp -implicitDefEqProofs -dsimp [v2, v4, hpk, hof, hcap, hcap2]
    exact .mk (i + 1) (by omega) (by omega) (by simp -implicitDefEqProofs -dsimp [hsn])
  · have e : i = n := by omega
    subst e
    obtain ⟨q, hq⟩ : ∃ q, q = 16380 + c % 9 := ⟨_, rfl⟩
    obtain ⟨l, hl⟩ : ∃ l, l = 1020 + b % 9 := ⟨_, rfl⟩
    have h0 : (idsTo i)[0]? = some (mkI 0) := by rw [List.getElem?_eq_getElem (by simp; omega)]; simp [idsTo]
    have u1 : (b : Int).tmod 9 = ((b % 9 : Nat) : Int) := rfl
    have u2 : (c : Int).tmod 9 = ((c % 9 : Nat) : Int) := rfl
    obtain ⟨b9, hb9⟩ : ∃ b9, b9 = b % 9 := ⟨_, rfl⟩
    obtain ⟨c9, hc9⟩ : ∃ c9, c9 = c % 9 := ⟨_, rfl⟩
    rw [← hb9] at u1 hl
    rw [← hc9] at u2 hq
    have u3 : IntKind.i64.wrap (b9 : Int) = b9 := wrap64 (by omega) (by omega)
    have u4 : IntKind.i64.wrap (c9 : Int) = c9 := wrap64 (by omega) (by omega)
    have u5 : IntKind.i64.wrap (16380 + (c9 : Int)) = q := by rw [hq]; exact wrap64 (by omega) (by omega)
    have u6 : IntKind.i64.wrap (1020 + (b9 : Int)) = l := by rw [hl]; exact wrap64 (by omega) (by omega)
    have hl0 : (l : Int) ≤ 9223372036854775807 := by omega
    have hl1 : (l : Int) ≤ 281474976710656 := by omega
    have hi0 : ¬ i = 0 := by omega
    have hE := encode_fn (mL i) (small_mL i (by omega))
    have hP := encode_fn (mP q l) (small_mP q l (by omega))
    have s1 := encM_short (m := mL i)
    have s2 := encM_short (m := mP q l)
    obtain ⟨⟨⟨x1, y1⟩, e1⟩, he1⟩ : ∃ q, q = encM (mL i) := ⟨_, rfl⟩
    obtain ⟨⟨⟨x2, y2⟩, e2⟩, he2⟩ : ∃ r, r = encM (mP q l) := ⟨_, rfl⟩
    have r1 : decide (e1 = 0) = decide ((i : Int) ≤ 64) := by
      have h := right_mL k (by omega)
      rw [← hn] at h
      have e : e1 = (encM (mL i)).2 := by rw [← he1]
      rw [e, encM, h, hn]
      by_cases t : 60 + (k : Int) ≤ 64
      · have t' : (((60 + k : Nat) : Int)) ≤ 64 := by omega
        simp [t, t']
      · have t' : ¬ (((60 + k : Nat) : Int)) ≤ 64 := by omega
        simp [t, t']
    have r2 : decide (e2 = 0) = (decide ((q : Int) ≤ 16384) && decide ((l : Int) ≤ 1024)) := by
      have h := right_mP q l (by omega) (by omega)
      have e : e2 = (encM (mP q l)).2 := by rw [← he2]
      rw [e, encM, h]
      cases decide ((q : Int) ≤ 16384) && decide ((l : Int) ≤ 1024) <;> rfl
    rw [← he1] at hE s1
    rw [← he2] at hP s2
    have s1' : (y1.length : Int) ≤ 4096 := by have : y1.length ≤ 4096 := s1; omega
    have s2' : (y2.length : Int) ≤ 4096 := by have : y2.length ≤ 4096 := s2; omega
    have wL : weakL [PV.lit (.int .i64 2), .sl .imm true 0 [], .lit (.string ByteArray.empty), .lit (.string ByteArray.empty), .sl .imm false 1 (idc (idsTo i)), .lit (.string ByteArray.empty), .lit (.int .i64 0), .lit (.int .i64 0), .sl .imm true 0 []] (mL i).cells := by simp [mL, Ms.cells, rgs]
    have wP : weakL [PV.lit (.int .i64 4), .sl .imm true 0 [], .lit (.string ByteArray.empty), .lit (.string ByteArray.empty), .sl .imm true 0 [], .lit (.string (mkI 0)), .lit (.int .i64 0), .lit (.int .i64 q), .sl .imm false 1 (u8s (List.replicate l 0))] (mP q l).cells := by simp [mP, Ms.cells, rgs, idc]
    have hE := hE.argsA (ys := [.agg _]) ⟨wL, trivial⟩
    have hP := hP.argsA (ys := [.agg _]) ⟨wP, trivial⟩
    simp -implicitDefEqProofs -dsimp [h0, u1, u2, u3, u4, u5, u6, hi0]
    refine AltK.mk ?_ ?_
    · simp -implicitDefEqProofs -dsimp [h0, u1, u2, u3, u4, u5, u6, hl0, hl1, hi0, -reps, reps_u8]
      refine CallK.works ?_
      simp -implicitDefEqProofs -dsimp
      refine CallQ.mk (hE) (by simp) ?_
      simp -implicitDefEqProofs -dsimp
      refine CallK.works ?_
      simp -implicitDefEqProofs -dsimp
      refine CallQ.mk (hP) (by simp) ?_
      simp -implicitDefEqProofs -dsimp [r1, r2, s1', s2']
      by_cases t : (q : Int) ≤ 16384
      · simp -implicitDefEqProofs -dsimp [t, r1, r2, s1', s2']
      · simp -implicitDefEqProofs -dsimp [t, r1, r2, s1', s2']
    · simp -implicitDefEqProofs -dsimp [h0, u1, u2, u3, u4, u5, u6, hl0, hl1, hi0, -reps, reps_u8]
      refine CallK.works ?_
      simp -implicitDefEqProofs -dsimp
      refine CallQ.mk (hE) (by simp) ?_
      simp -implicitDefEqProofs -dsimp
      refine CallK.works ?_
      simp -implicitDefEqProofs -dsimp
      refine CallQ.mk (hP) (by simp) ?_
      simp -implicitDefEqProofs -dsimp [r1, r2, s1', s2']
      by_cases t : (q : Int) ≤ 16384
      · simp -implicitDefEqProofs -dsimp [t, r1, r2, s1', s2']
      · simp -implicitDefEqProofs -dsimp [t, r1, r2, s1', s2']
end Go.Proofs.Ytbialojkkhkjeaa

/-! The law FrameLimits. -/
namespace Go.Proofs.Ytbialojkkhkjeaa
open Go.Sy
theorem limits_law (xs : List PV) (h : ShpAll Try.prog 6 Try.f8.params.toList xs) : Fc Try.prog 8 xs [] (.lit (.bool true)) [] := by
  obtain ⟨x, y, z, rfl, hx, hy, hz⟩ := shp_args3 h
  obtain ⟨a, rfl, ha⟩ := arg_int (k := .u8) Try.underlying5 hx
  obtain ⟨b, rfl, hb⟩ := arg_int (k := .u8) Try.underlying5 hy
  obtain ⟨c, rfl, hc⟩ := arg_int (k := .u8) Try.underlying5 hz
  obtain ⟨a0, a1⟩ := wf_u8 ha
  obtain ⟨b0, b1⟩ := wf_u8 hb
  obtain ⟨c0, c1⟩ := wf_u8 hc
  obtain ⟨a', rfl⟩ := Int.eq_ofNat_of_zero_le a0
  obtain ⟨b', rfl⟩ := Int.eq_ofNat_of_zero_le b0
  obtain ⟨c', rfl⟩ := Int.eq_ofNat_of_zero_le c0
  exact limits_fn a' b' c' (by omega) (by omega) (by omega)
end Go.Proofs.Ytbialojkkhkjeaa
