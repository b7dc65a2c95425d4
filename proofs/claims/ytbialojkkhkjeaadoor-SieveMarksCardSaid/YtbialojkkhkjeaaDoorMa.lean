/- Sieve: what is told of ranges is as the document says; parts. (and what stands on it) -/
import Derived.Test.YtbialojkkhkjeaaDoorM9
import Derived.Test.YtbialojkkhkjeaaDoorMc

/-! Sieve: what is told of ranges is as the document says; parts. -/
namespace Go.Sy
/-- Is a list of a size that is looked at? -/
def fewB (l : List ByteArray) : Bool := l.all (fun p => decide (p.size ≤ 40)) && decide (l.length ≤ 24)
theorem fewB_iff {l : List ByteArray} : fewB l = true ↔ (∀ p, p ∈ l → p.size ≤ 40) ∧ l.length ≤ 24 := by simp [fewB]
theorem srt_few {l : List ByteArray} (h : fewB l = true) : Rise (srtI l) ∧ (srtI l).length ≤ 24 ∧ ∀ p, p ∈ srtI l → p.size ≤ 40 := by
  obtain ⟨h1, h2⟩ := fewB_iff.1 h
  exact ⟨srt_rise l, Nat.le_trans (srt_length l) h2, fun p hp => h1 p ((mem_srt l p).1 hp)⟩
end Go.Sy
namespace Go.Proofs.YtbialojkkhkjeaaDoor
open Go.Sy
@[simp] theorem field_many (r : Rg) : fieldPV Tryd.prog 30 2 (.agg r.cells) = some (.lit (.int .i64 r.many)) := by
  simp [fieldPV, Rg.cells]
theorem few_fn2 (nl : Bool) (xs : List ByteArray) (hl : xs.length ≤ 9223372036854775807) : Fc Tryd.prog 9 [.sl .imm nl 1 (idc xs)] [] (.lit (.bool (fewB xs))) [] := few_fn nl xs hl

/-- The ids of a range that is cut are those of its parts, one behind the other. -/
theorem win_parts {l : List ByteArray} (hR : Rise l) {lo m hi : ByteArray} (hm : inI lo hi m = true) (hne : m ≠ ⟨#[]⟩) : winI l lo m ++ winI l m hi = winI l lo hi := by
  simp only [inI, Bool.and_eq_true, Bool.not_eq_true', Bool.or_eq_true, decide_eq_true_eq] at hm
  refine Rise.ext (List.pairwise_append.2 ⟨hR.filter _, hR.filter _, fun p hp q hq => ?_⟩) (hR.filter _) fun p => ?_
  · simp only [mem_win, inI, Bool.and_eq_true, Bool.not_eq_true', Bool.or_eq_true, decide_eq_true_eq] at hp hq
    have h1 := hp.2.2.resolve_left hne
    cases h : ltS q m with
    | true => rw [hq.2.1] at h; cases h
    | false =>
      by_cases e : m = q
      · exact e ▸ h1
      · refine lt_trans h1 ?_
        cases h2 : ltS m q with
        | true => rfl
        | false => exact absurd (lt_tri h2 h) e
  · simp only [List.mem_append, mem_win, inI, Bool.and_eq_true, Bool.not_eq_true', Bool.or_eq_true, decide_eq_true_eq]
    constructor
    · rintro (⟨h1, h2, h3⟩ | ⟨h1, h2, h3⟩)
      · refine ⟨h1, h2, hm.2.imp id fun h => ?_⟩
        exact lt_trans (h3.resolve_left hne) h
      · refine ⟨h1, ?_, h3⟩
        cases h : ltS p lo with
        | false => rfl
        | true =>
          have : ltS m lo = true := not_lt_le h2 h |> fun h => by
            by_cases e : p = m
            · exact h
            · exact h
          rw [hm.1] at this; cases this
    · rintro ⟨h1, h2, h3⟩
      cases h : ltS p m with
      | true => exact .inl ⟨h1, h2, .inr rfl⟩
      | false => exact .inr ⟨h1, rfl, h3⟩

theorem win_parts_length {l : List ByteArray} (hR : Rise l) {lo m hi : ByteArray} (hm : inI lo hi m = true) (hne : m ≠ ⟨#[]⟩) : (winI l lo m).length + (winI l m hi).length = (winI l lo hi).length := by
  rw [← win_parts hR hm hne, List.length_append]

set_option maxRecDepth 100000 in
set_option maxHeartbeats 8000000 in
theorem parts_fn (n1 : Bool) (a : List ByteArray) (lo m hi : ByteArray) (ha : a.length ≤ 9223372036854775807) :
    Fc Tryd.prog 7 [.sl .imm n1 1 (idc a), .lit (.string lo), .lit (.string m), .lit (.string hi)] [] (.lit (.bool true)) [] := by
  refine Fc.of (anys _ [8, 9, 10, 11, 12, 14, 23]) [] mixed Tryd.func7 rfl (by rfl) (by simp [Tryd.ntmps7]) (by decide) ?_
  simp -implicitDefEqProofs -dsimp [Tryd.ntmps7]
  refine CallK.reads ?_
  simp -implicitDefEqProofs -dsimp
  refine CallQ.same (awake_fn) rfl ?_
  simp -implicitDefEqProofs -dsimp
  refine CallK.reads ?_
  simp -implicitDefEqProofs -dsimp
  refine CallQ.same (few_fn2 n1 a ha) rfl ?_
  simp -implicitDefEqProofs -dsimp
  refine CallK.reads ?_
  simp -implicitDefEqProofs -dsimp
  refine CallQ.same (few_fn2 false [lo, m, hi] (by simp)) rfl ?_
  simp -implicitDefEqProofs -dsimp
  by_cases h1 : fewB a = true
  · by_cases h2 : fewB [lo, m, hi] = true
    · simp -implicitDefEqProofs -dsimp [h1, h2]
      obtain ⟨r1, l1, s1⟩ := srt_few h1
      have k1 := fewB_iff.1 h1
      have k2 := (fewB_iff.1 h2).1
      have s1' : ∀ n, 40 ≤ n → ∀ p, p ∈ srtI a → p.size ≤ n := fun n hn p hp => Nat.le_trans (s1 p hp) hn
      have hms : m.size ≤ 1000000 := Nat.le_trans (k2 m (by simp)) (by decide)
      refine CallK.fresh ?_
      simp -implicitDefEqProofs -dsimp
      refine CallQ.same (sorted_fn n1 a (by omega) fun p hp => Nat.le_trans (k1.1 p hp) (by decide)) rfl ?_
      simp -implicitDefEqProofs -dsimp [fr_u8s]
      refine CallK.reads ?_
      simp -implicitDefEqProofs -dsimp
      refine CallQ.same (in_fn m lo hi hms) rfl ?_
      simp -implicitDefEqProofs -dsimp
      by_cases c1 : inI lo hi m = true
      · by_cases c2 : m = ⟨#[]⟩
        · subst c2
          simp -implicitDefEqProofs -dsimp [c1]
        · simp -implicitDefEqProofs -dsimp [c1, c2]
          have hp := win_parts r1 c1 c2
          have hpl := win_parts_length r1 c1 c2
          have hl : (winI (srtI a) lo hi).length ≤ (srtI a).length := List.length_filter_le _ _
          obtain ⟨X, hX⟩ : ∃ X, X = srtI a := ⟨_, rfl⟩
          rw [← hX] at r1 l1 s1 s1' hp hpl hl ⊢
          refine CallK.works ?_
          simp -implicitDefEqProofs -dsimp
          refine CallQ.mk (within_fn _ X lo m r1 (by omega)) (by simp) ?_
          simp -implicitDefEqProofs -dsimp
          refine CallK.works ?_
          simp -implicitDefEqProofs -dsimp
          refine CallQ.mk (within_fn _ X m hi r1 (by omega)) (by simp) ?_
          simp -implicitDefEqProofs -dsimp
          obtain ⟨p, hpp⟩ : ∃ p, p = winI X lo m := ⟨_, rfl⟩
          obtain ⟨q, hqq⟩ : ∃ q, q = winI X m hi := ⟨_, rfl⟩
          rw [← hpp, ← hqq] at hp hpl ⊢
          have z1 : p.length * 16 ≤ 140737488355328 := by omega
          have z2 : p.length ≤ 140737488355328 := by omega
          have z3 : (p.length + q.length) * 16 ≤ 140737488355328 := by omega
          have z4 : p.length + q.length ≤ 140737488355328 := by omega
          have z5 : IntKind.i64.wrap ((p.length : Int) + q.length) = (p.length : Int) + q.length := wrap64 (by omega) (by omega)
          have z6 : ((winI X lo hi).length : Int) = p.length + q.length := by omega
          have f1 : (sumI X lo m).many = p.length := by rw [hpp]; rfl
          have f2 : (sumI X m hi).many = q.length := by rw [hqq]; rfl
          have f3 : (sumI X lo hi).many = (winI X lo hi).length := rfl
          simp -implicitDefEqProofs -dsimp [z1, z2, z3, z4]
          refine CallK.works ?_
          simp -implicitDefEqProofs -dsimp
          refine CallQ.mk (within_fn _ X lo hi r1 (by omega)) (by simp) ?_
          simp -implicitDefEqProofs -dsimp [z5, z6, f1, f2, f3, hp]
          refine CallK.reads ?_
          simp -implicitDefEqProofs -dsimp
          refine CallQ.same (ids_fn _ _ (winI X lo hi) (winI X lo hi) (by omega)) rfl ?_
          simp -implicitDefEqProofs -dsimp [z5, z6, f1, f2, f3, hp]
          refine CallK.reads ?_
          simp -implicitDefEqProofs -dsimp
          refine CallQ.same (sum_rg _ X lo m r1 (by omega) (s1' _ (by decide))) rfl ?_
          simp -implicitDefEqProofs -dsimp [z5, z6, f1, f2, f3, hp]
          refine CallK.reads ?_
          simp -implicitDefEqProofs -dsimp
          refine CallQ.same (sum_rg _ X m hi r1 (by omega) (s1' _ (by decide))) rfl ?_
          simp -implicitDefEqProofs -dsimp [z5, z6, f1, f2, f3, hp]
          refine CallK.reads ?_
          simp -implicitDefEqProofs -dsimp
          refine CallQ.same (sum_rg _ X lo hi r1 (by omega) (s1' _ (by decide))) rfl ?_
          simp -implicitDefEqProofs -dsimp [z5, z6, f1, f2, f3, hp]
      · simp -implicitDefEqProofs -dsimp [c1]
    · simp -implicitDefEqProofs -dsimp [h1, h2]
  · simp -implicitDefEqProofs -dsimp [h1]
end Go.Proofs.YtbialojkkhkjeaaDoor

/-! Sieve: what is told of ranges is as the document says; marks. -/
namespace Go.Proofs.YtbialojkkhkjeaaDoor
open Go.Sy
set_option maxRecDepth 100000 in
set_option maxHeartbeats 8000000 in
theorem rsum_rg (nl : Bool) (l : List ByteArray) (lo hi : ByteArray) (hl : l.length ≤ 90) (hs : ∀ p, p ∈ l → p.size ≤ 1000) :
    Fc Tryd.prog 15 [.sl .imm nl 1 (idc l), .lit (.string lo), .lit (.string hi)] [] (.agg (sumI l lo hi).cells) [] := by
  refine Fc.of (anys _ [13, 21, 22]) [] mixed Tryd.func15 rfl (by rfl) (by simp [Tryd.ntmps15]) (by decide) ?_
  have h1 := win_length l lo hi
  have h2 := formI_length (winI l lo hi) (win_sizes hs lo hi)
  simp -implicitDefEqProofs -dsimp [Tryd.ntmps15]
  refine CallK.fresh ?_
  simp -implicitDefEqProofs -dsimp
  refine CallQ.same (rwithin_fn nl l lo hi (by omega) (fun p hp => Nat.le_trans (hs p hp) (by decide))) rfl ?_
  simp -implicitDefEqProofs -dsimp [fr_u8s]
  refine CallK.fresh ?_
  simp -implicitDefEqProofs -dsimp
  refine CallQ.same (form_fn (winI l lo hi).isEmpty (winI l lo hi) (by omega) (win_sizes hs lo hi)) rfl ?_
  simp -implicitDefEqProofs -dsimp [fr_u8s]
  refine CallK.reads ?_
  simp -implicitDefEqProofs -dsimp
  refine CallQ.same (rof_fn (winI l lo hi).isEmpty (formI (winI l lo hi)) (by omega) (formI_in _)) rfl ?_
  simp -implicitDefEqProofs -dsimp [sumI, Rg.cells]


set_option maxRecDepth 100000 in
set_option maxHeartbeats 8000000 in
theorem rhalves_fn (nl : Bool) (l : List ByteArray) (lo hi : ByteArray) (hl : l.length ≤ 90) (hs : ∀ p, p ∈ l → p.size ≤ 1000) :
    Fc Tryd.prog 18 [.sl .imm nl 1 (idc l), .lit (.string lo), .lit (.string hi)] [] (.sl .imm false 4 (rgs (halfI l lo hi))) [] := by
  have h1 := win_length l lo hi
  obtain ⟨w, hw⟩ : ∃ w, w = winI l lo hi := ⟨_, rfl⟩
  have hW := rwithin_fn nl l lo hi (by omega) fun p hp => Nat.le_trans (hs p hp) (by decide)
  rw [← hw] at h1 hW
  by_cases hlt : w.length < 2
  · have hh : halfI l lo hi = [sumI l lo hi] := by rw [halfI, ← hw, if_pos hlt]
    suffices h : Fc Tryd.prog 18 [.sl .imm nl 1 (idc l), .lit (.string lo), .lit (.string hi)] [] (.sl (.own (.loc 20)) false 4 (rgs (halfI l lo hi))) [] by
      have := h.fz [.loc 20]
      simpa using this
    refine Fc.of (anys _ [13, 15]) [] mixed Tryd.func18 rfl (by rfl) (by simp [Tryd.ntmps18]) (by decide) ?_
    simp -implicitDefEqProofs -dsimp [Tryd.ntmps18]
    refine CallK.fresh ?_
    simp -implicitDefEqProofs -dsimp
    refine CallQ.same (hW) rfl ?_
    simp -implicitDefEqProofs -dsimp [fr_u8s]
    have c : (w.length : Int) < 2 := by omega
    simp -implicitDefEqProofs -dsimp [c]
    refine CallK.reads ?_
    simp -implicitDefEqProofs -dsimp
    refine CallQ.same (rsum_rg nl l lo hi (by omega) hs) rfl ?_
    simp -implicitDefEqProofs -dsimp
    simp [hh, rgs]
  · obtain ⟨m, hm⟩ : ∃ m, w[w.length / 2]? = some m := ⟨_, List.getElem?_eq_getElem (by omega)⟩
    have hm' : ∀ h, w[w.length / 2]'h = m := fun h => by rw [List.getElem?_eq_getElem h] at hm; exact Option.some.inj hm
    have hmid : midI l lo hi = m := by rw [midI, ← hw, List.getD_eq_getElem?_getD, hm]; rfl
    have hh : halfI l lo hi = [sumI l lo m, sumI l m hi] := by rw [halfI, ← hw, if_neg hlt, hmid]
    suffices h : Fc Tryd.prog 18 [.sl .imm nl 1 (idc l), .lit (.string lo), .lit (.string hi)] [] (.sl (.own (.loc 35)) false 4 (rgs (halfI l lo hi))) [] by
      have := h.fz [.loc 35]
      simpa using this
    refine Fc.of (anys _ [13, 15]) [] mixed Tryd.func18 rfl (by rfl) (by simp [Tryd.ntmps18]) (by decide) ?_
    simp -implicitDefEqProofs -dsimp [Tryd.ntmps18]
    refine CallK.fresh ?_
    simp -implicitDefEqProofs -dsimp
    refine CallQ.same (hW) rfl ?_
    simp -implicitDefEqProofs -dsimp [fr_u8s]
    have c : ¬ (w.length : Int) < 2 := by omega
    have q : iquo .i64 (w.length : Int) 2 = ((w.length / 2 : Nat) : Int) := by
      unfold iquo
      rw [Int.tdiv_eq_ediv_of_nonneg (by omega), wrap64 (by omega) (by omega)]; omega
    have q2 : w.length / 2 < w.length := by omega
    have q3 : ((w.length : Int) / 2).toNat = w.length / 2 := by omega
    have q4 : (0 : Int) ≤ (w.length : Int) / 2 := by omega
    simp -implicitDefEqProofs -dsimp [c, q, q2, q3, q4, hm, hm']
    refine CallK.reads ?_
    simp -implicitDefEqProofs -dsimp
    refine CallQ.same (rsum_rg nl l lo m (by omega) hs) rfl ?_
    simp -implicitDefEqProofs -dsimp
    refine CallK.reads ?_
    simp -implicitDefEqProofs -dsimp
    refine CallQ.same (rsum_rg nl l m hi (by omega) hs) rfl ?_
    simp -implicitDefEqProofs -dsimp
    simp [hh, rgs]


set_option maxRecDepth 100000 in
set_option maxHeartbeats 8000000 in
theorem tells_fn (n1 n2 : Bool) (a b : List ByteArray) (lo hi : ByteArray) (ha : a.length ≤ 9223372036854775807) (hb : b.length ≤ 9223372036854775807) :
    Fc Tryd.prog 3 [.sl .imm n1 1 (idc a), .sl .imm n2 1 (idc b), .lit (.string lo), .lit (.string hi)] [] (.lit (.bool true)) [] := by
  refine Fc.of (anys _ [8, 9, 10, 11, 12, 13, 14, 15, 16, 17, 18, 19, 20]) [] mixed Tryd.func3 rfl (by rfl) (by simp [Tryd.ntmps3]) (by decide) ?_
  simp -implicitDefEqProofs -dsimp [Tryd.ntmps3]
  refine CallK.reads ?_
  simp -implicitDefEqProofs -dsimp
  refine CallQ.same (awake_fn) rfl ?_
  simp -implicitDefEqProofs -dsimp
  refine CallK.reads ?_
  simp -implicitDefEqProofs -dsimp
  refine CallQ.same (few_fn2 n1 a ha) rfl ?_
  simp -implicitDefEqProofs -dsimp
  refine CallK.reads ?_
  simp -implicitDefEqProofs -dsimp
  refine CallQ.same (few_fn2 n2 b hb) rfl ?_
  simp -implicitDefEqProofs -dsimp
  by_cases h1 : fewB a = true
  · by_cases h2 : fewB b = true
    · by_cases c1 : 40 < (lo.size : Int)
      · simp -implicitDefEqProofs -dsimp [h1, h2, c1]
      · by_cases c2 : 40 < (hi.size : Int)
        · simp -implicitDefEqProofs -dsimp [h1, h2, c1, c2]
        · simp -implicitDefEqProofs -dsimp [h1, h2, c1, c2]
          obtain ⟨r1, l1, s1⟩ := srt_few h1
          obtain ⟨r2, l2, s2⟩ := srt_few h2
          have k1 := fewB_iff.1 h1
          have k2 := fewB_iff.1 h2
          have s1' : ∀ n, 40 ≤ n → ∀ p, p ∈ srtI a → p.size ≤ n := fun n hn p hp => Nat.le_trans (s1 p hp) hn
          have wl := win_length (srtI a) lo hi
          have ml : (missI (srtI a) (srtI b)).length ≤ (srtI a).length := List.length_filter_le _ _
          refine CallK.fresh ?_
          simp -implicitDefEqProofs -dsimp
          refine CallQ.same (sorted_fn n1 a (by omega) fun p hp => Nat.le_trans (k1.1 p hp) (by decide)) rfl ?_
          simp -implicitDefEqProofs -dsimp [fr_u8s]
          refine CallK.fresh ?_
          simp -implicitDefEqProofs -dsimp
          refine CallQ.same (sorted_fn n2 b (by omega) fun p hp => Nat.le_trans (k2.1 p hp) (by decide)) rfl ?_
          simp -implicitDefEqProofs -dsimp [fr_u8s]
          refine CallK.works ?_
          simp -implicitDefEqProofs -dsimp
          refine CallQ.mk (within_fn _ (srtI a) lo hi r1 (by omega)) (by simp) ?_
          simp -implicitDefEqProofs -dsimp
          refine CallK.fresh ?_
          simp -implicitDefEqProofs -dsimp
          refine CallQ.same (rwithin_fn _ (srtI a) lo hi (by omega) (s1' _ (by decide))) rfl ?_
          simp -implicitDefEqProofs -dsimp [fr_u8s]
          refine CallK.reads ?_
          simp -implicitDefEqProofs -dsimp
          refine CallQ.same (ids_fn _ _ (winI (srtI a) lo hi) (winI (srtI a) lo hi) (by omega)) rfl ?_
          simp -implicitDefEqProofs -dsimp
          refine CallK.reads ?_
          simp -implicitDefEqProofs -dsimp
          refine CallQ.same (sum_rg _ (srtI a) lo hi r1 (by omega) (s1' _ (by decide))) rfl ?_
          simp -implicitDefEqProofs -dsimp
          refine CallK.reads ?_
          simp -implicitDefEqProofs -dsimp
          refine CallQ.same (rsum_rg _ (srtI a) lo hi (by omega) (s1' _ (by decide))) rfl ?_
          simp -implicitDefEqProofs -dsimp
          refine CallK.works ?_
          simp -implicitDefEqProofs -dsimp
          refine CallQ.mk (halves_fn _ (srtI a) lo hi r1 (by omega) (s1' _ (by decide))) (by simp) ?_
          simp -implicitDefEqProofs -dsimp
          refine CallK.works ?_
          simp -implicitDefEqProofs -dsimp
          refine CallQ.mk (rhalves_fn _ (srtI a) lo hi (by omega) (s1' _ (by decide))) (by simp) ?_
          simp -implicitDefEqProofs -dsimp
          have hl2 : (halfI (srtI a) lo hi).length ≤ 2 := by unfold halfI; split <;> simp
          refine CallK.reads ?_
          simp -implicitDefEqProofs -dsimp
          refine CallQ.same (rsame_fn _ _ (halfI (srtI a) lo hi) (halfI (srtI a) lo hi) (by omega)) rfl ?_
          simp -implicitDefEqProofs -dsimp
          refine CallK.fresh ?_
          simp -implicitDefEqProofs -dsimp
          refine CallQ.same (missing_fn _ _ (srtI a) (srtI b) r2 (by omega) (by omega)) rfl ?_
          simp -implicitDefEqProofs -dsimp [fr_u8s]
          refine CallK.fresh ?_
          simp -implicitDefEqProofs -dsimp
          refine CallQ.same (rmissing_fn _ _ (srtI a) (srtI b) (by omega) (by omega)) rfl ?_
          simp -implicitDefEqProofs -dsimp [fr_u8s]
          refine CallK.reads ?_
          simp -implicitDefEqProofs -dsimp
          refine CallQ.same (ids_fn _ _ (missI (srtI a) (srtI b)) (missI (srtI a) (srtI b)) (by omega)) rfl ?_
          simp -implicitDefEqProofs -dsimp
    · simp -implicitDefEqProofs -dsimp [h1, h2]
  · simp -implicitDefEqProofs -dsimp [h1]


set_option maxRecDepth 100000 in
set_option maxHeartbeats 8000000 in
theorem marks_fn (n1 n2 : Bool) (a b : List ByteArray) (lo hi : ByteArray) (ha : a.length ≤ 9223372036854775807) (hb : b.length ≤ 9223372036854775807) :
    Fc Tryd.prog 5 [.sl .imm n1 1 (idc a), .sl .imm n2 1 (idc b), .lit (.string lo), .lit (.string hi)] [] (.lit (.bool true)) [] := by
  refine Fc.of (anys _ [8, 9, 10, 11, 13, 14, 21, 22]) [] mixed Tryd.func5 rfl (by rfl) (by simp [Tryd.ntmps5]) (by decide) ?_
  simp -implicitDefEqProofs -dsimp [Tryd.ntmps5]
  refine CallK.reads ?_
  simp -implicitDefEqProofs -dsimp
  refine CallQ.same (awake_fn) rfl ?_
  simp -implicitDefEqProofs -dsimp
  refine CallK.reads ?_
  simp -implicitDefEqProofs -dsimp
  refine CallQ.same (few_fn2 n1 a ha) rfl ?_
  simp -implicitDefEqProofs -dsimp
  refine CallK.reads ?_
  simp -implicitDefEqProofs -dsimp
  refine CallQ.same (few_fn2 n2 b hb) rfl ?_
  simp -implicitDefEqProofs -dsimp
  by_cases h1 : fewB a = true
  · by_cases h2 : fewB b = true
    · by_cases c1 : 40 < (lo.size : Int)
      · simp -implicitDefEqProofs -dsimp [h1, h2, c1]
      · by_cases c2 : 40 < (hi.size : Int)
        · simp -implicitDefEqProofs -dsimp [h1, h2, c1, c2]
        · simp -implicitDefEqProofs -dsimp [h1, h2, c1, c2]
          obtain ⟨r1, l1, s1⟩ := srt_few h1
          obtain ⟨r2, l2, s2⟩ := srt_few h2
          have k1 := fewB_iff.1 h1
          have k2 := fewB_iff.1 h2
          refine CallK.fresh ?_
          simp -implicitDefEqProofs -dsimp
          refine CallQ.same (sorted_fn n1 a (by omega) fun p hp => Nat.le_trans (k1.1 p hp) (by decide)) rfl ?_
          simp -implicitDefEqProofs -dsimp [fr_u8s]
          refine CallK.fresh ?_
          simp -implicitDefEqProofs -dsimp
          refine CallQ.same (sorted_fn n2 b (by omega) fun p hp => Nat.le_trans (k2.1 p hp) (by decide)) rfl ?_
          simp -implicitDefEqProofs -dsimp [fr_u8s]
          obtain ⟨X, hX⟩ : ∃ X, X = srtI a := ⟨_, rfl⟩
          obtain ⟨Y, hY⟩ : ∃ Y, Y = srtI b := ⟨_, rfl⟩
          rw [← hX] at r1 l1 s1 ⊢
          rw [← hY] at r2 l2 s2 ⊢
          have s1' : ∀ n, 40 ≤ n → ∀ p, p ∈ X → p.size ≤ n := fun n hn p hp => Nat.le_trans (s1 p hp) hn
          have s2' : ∀ n, 40 ≤ n → ∀ p, p ∈ Y → p.size ≤ n := fun n hn p hp => Nat.le_trans (s2 p hp) hn
          have wl1 := win_length X lo hi
          have wl2 := win_length Y lo hi
          have fl1 := formI_length (winI X lo hi) (win_sizes (s1' _ (by decide)) lo hi)
          have fl2 := formI_length (winI Y lo hi) (win_sizes (s2' _ (by decide)) lo hi)
          refine CallK.fresh ?_
          simp -implicitDefEqProofs -dsimp
          refine CallQ.same (rwithin_fn _ X lo hi (by omega) (s1' _ (by decide))) rfl ?_
          simp -implicitDefEqProofs -dsimp [fr_u8s]
          refine CallK.fresh ?_
          simp -implicitDefEqProofs -dsimp
          refine CallQ.same (rwithin_fn _ Y lo hi (by omega) (s2' _ (by decide))) rfl ?_
          simp -implicitDefEqProofs -dsimp [fr_u8s]
          refine CallK.reads ?_
          simp -implicitDefEqProofs -dsimp
          refine CallQ.same (ids_fn _ _ (winI X lo hi) (winI Y lo hi) (by omega)) rfl ?_
          simp -implicitDefEqProofs -dsimp
          by_cases hs : winI X lo hi = winI Y lo hi
          · have hsum : sumI X lo hi = sumI Y lo hi := by rw [sumI, sumI, hs]
            simp -implicitDefEqProofs -dsimp [hs]
            refine CallK.reads ?_
            simp -implicitDefEqProofs -dsimp
            refine CallQ.same (sum_rg _ X lo hi r1 (by omega) (s1' _ (by decide))) rfl ?_
            simp -implicitDefEqProofs -dsimp [hsum]
            refine CallK.reads ?_
            simp -implicitDefEqProofs -dsimp
            refine CallQ.same (sum_rg _ Y lo hi r2 (by omega) (s2' _ (by decide))) rfl ?_
            simp -implicitDefEqProofs -dsimp [hsum]
          · simp -implicitDefEqProofs -dsimp [hs]
            refine CallK.fresh ?_
            simp -implicitDefEqProofs -dsimp
            refine CallQ.same (form_fn _ (winI X lo hi) (by omega) (win_sizes (s1' _ (by decide)) lo hi)) rfl ?_
            simp -implicitDefEqProofs -dsimp [fr_u8s]
            refine CallK.reads ?_
            simp -implicitDefEqProofs -dsimp
            refine CallQ.same (rof_fn _ (formI (winI X lo hi)) (by omega) (formI_in _)) rfl ?_
            simp -implicitDefEqProofs -dsimp
            refine CallK.fresh ?_
            simp -implicitDefEqProofs -dsimp
            refine CallQ.same (form_fn _ (winI Y lo hi) (by omega) (win_sizes (s2' _ (by decide)) lo hi)) rfl ?_
            simp -implicitDefEqProofs -dsimp [fr_u8s]
            refine CallK.reads ?_
            simp -implicitDefEqProofs -dsimp
            refine CallQ.same (rof_fn _ (formI (winI Y lo hi)) (by omega) (formI_in _)) rfl ?_
            simp -implicitDefEqProofs -dsimp
            by_cases hd : digOf (formI (winI X lo hi)) = digOf (formI (winI Y lo hi))
            · simp -implicitDefEqProofs -dsimp [hd]
            · have hsum : ¬ sumI X lo hi = sumI Y lo hi := fun h => hd (congrArg Rg.mark h)
              simp -implicitDefEqProofs -dsimp [hd]
              refine CallK.reads ?_
              simp -implicitDefEqProofs -dsimp
              refine CallQ.same (sum_rg _ X lo hi r1 (by omega) (s1' _ (by decide))) rfl ?_
              simp -implicitDefEqProofs -dsimp [hsum]
              refine CallK.reads ?_
              simp -implicitDefEqProofs -dsimp
              refine CallQ.same (sum_rg _ Y lo hi r2 (by omega) (s2' _ (by decide))) rfl ?_
              simp -implicitDefEqProofs -dsimp [hsum]
    · simp -implicitDefEqProofs -dsimp [h1, h2]
  · simp -implicitDefEqProofs -dsimp [h1]
end Go.Proofs.YtbialojkkhkjeaaDoor
