/- Sieve: what is told of ranges is as the document says; parts. (and what stands on it) -/
import Derived.Test.YtbialojkkhkjeaaDoorM9
import Derived.Test.YtbialojkkhkjeaaDoorM4

/-! Sieve: what is told of ranges is as the document says; parts. -/
namespace Go.Sy
/-- Is a list of a size that is looked at? -/
def fewB (l : List ByteArray) : Bool := l.all (fun p => decide (p.size ≤ 40)) && decide (l.length ≤ 24)
theorem fewB_iff {l : List ByteArray} : fewB l = true ↔ (∀ p, p ∈ l → p.size ≤ 40) ∧ l.length ≤ 24 := by simp [fewB]
theorem srt_few {l : List ByteArray} (h : fewB l = true) : Rise (srtI l) ∧ (srtI l).length ≤ 24 ∧ ∀ p, p ∈ srtI l → p.size ≤ 40 := by
  obtain ⟨h1, h2⟩ := fewB_iff.1 h
  exact ⟨srt_rise l, Nat.le_trans (srt_length l) h2, fun p hp => h1 p ((mem_srt l p).1 hp)⟩
end Go.Sy
namespace Go.Proofs.YtbialojkkhkjeaaDoor
open Go.Sy
@[simp] theorem field_many (r : Rg) : fieldPV Tryd.prog 30 2 (.agg r.cells) = some (.lit (.int .i64 r.many)) := by
  simp [fieldPV, Rg.cells]
theorem few_fn2 (nl : Bool) (xs : List ByteArray) (hl : xs.length ≤ 9223372036854775807) : Fc Tryd.prog 9 [.sl .imm nl 1 (idc xs)] [] (.lit (.bool (fewB xs))) [] := few_fn nl xs hl

/-- The ids of a range that is cut are those of its parts, one behind the other. -/
theorem win_parts {l : List ByteArray} (hR : Rise l) {lo m hi : ByteArray} (hm : inI lo hi m = true) (hne : m ≠ ⟨#[]⟩) : winI l lo m ++ winI l m hi = winI l lo hi := by
  simp only [inI, Bool.and_eq_true, Bool.not_eq_true', Bool.or_eq_true, decide_eq_true_eq] at hm
  refine Rise.ext (List.pairwise_append.2 ⟨hR.filter _, hR.filter _, fun p hp q hq => ?_⟩) (hR.filter _) fun p => ?_
  · simp only [mem_win, inI, Bool.and_eq_true, Bool.not_eq_true', Bool.or_eq_true, decide_eq_true_eq] at hp hq
    have h1 := hp.2.2.resolve_left hne
    cases h : ltS q m with
    | true => rw [hq.2.1] at h; cases h
    | false =>
      by_cases e : m = q
      · exact e ▸ h1
      · refine lt_trans h1 ?_
        cases h2 : ltS m q with
        | true => rfl
        | false => exact absurd (lt_tri h2 h) e
  · simp only [List.mem_append, mem_win, inI, Bool.and_eq_true, Bool.not_eq_true', Bool.or_eq_true, decide_eq_true_eq]
    constructor
    · rintro (⟨h1, h2, h3⟩ | ⟨h1, h2, h3⟩)
      · refine ⟨h1, h2, hm.2.imp id fun h => ?_⟩
        exact lt_trans (h3.resolve_left hne) h
      · refine ⟨h1, ?_, h3⟩
        cases h : ltS p lo with
        | false => rfl
        | true =>
          have : ltS m lo = true := not_lt_le h2 h |> fun h => by
            by_cases e : p = m
            · exact h
            · exact h
          rw [hm.1] at this; cases this
    · rintro ⟨h1, h2, h3⟩
      cases h : ltS p m with
      | true => exact .inl ⟨h1, h2, .inr rfl⟩
      | false => exact .inr ⟨h1, rfl, h3⟩

theorem win_parts_length {l : List ByteArray} (hR : Rise l) {lo m hi : ByteArray} (hm : inI lo hi m = true) (hne : m ≠ ⟨#[]⟩) : (winI l lo m).length + (winI l m hi).length = (winI l lo hi).length := by
  rw [← win_parts hR hm hne, List.length_append]

set_option maxRecDepth 100000 in
set_option maxHeartbeats 8000000 in
theorem parts_fn (n1 : Bool) (a : List ByteArray) (lo m hi : ByteArray) (ha : a.length ≤ 9223372036854775807) :
    Fc Tryd.prog 7 [.sl .imm n1 1 (idc a), .lit (.string lo), .lit (.string m), .lit (.string hi)] [] (.lit (.bool true)) [] := by
  refine Fc.of (anys _ [8, 9, 10, 11, 12, 14, 23]) [] mixed Tryd.func7 rfl (by rfl) (by simp [Tryd.ntmps7]) (by decide) ?_
  simp -implicitDefEqProofs -dsimp [Tryd.ntmps7]
  refine CallK.reads ?_
  simp -implicitDefEqProofs -dsimp
  refine CallQ.same (awake_fn) rfl ?_
  simp -implicitDefEqProofs -dsimp
  refine CallK.reads ?_
  simp -implicitDefEqProofs -dsimp
  refine CallQ.same (few_fn2 n1 a ha) rfl ?_
  simp -implicitDefEqProofs -dsimp
  refine CallK.reads ?_
  simp -implicitDefEqProofs -dsimp
  refine CallQ.same (few_fn2 false [lo, m, hi] (by simp)) rfl ?_
  simp -implicitDefEqProofs -dsimp
  by_cases h1 : fewB a = true
  · by_cases h2 : fewB [lo, m, hi] = true
    · simp -implicitDefEqProofs -dsimp [h1, h2]
      obtain ⟨r1, l1, s1⟩ := srt_few h1
      have k1 := fewB_iff.1 h1
      have k2 := (fewB_iff.1 h2).1
      have s1' : ∀ n, 40 ≤ n → ∀ p, p ∈ srtI a → p.size ≤ n := fun n hn p hp => Nat.le_trans (s1 p hp) hn
      have hms : m.size ≤ 1000000 := Nat.le_trans (k2 m (by simp)) (by decide)
      refine CallK.fresh ?_
      simp -implicitDefEqProofs -dsimp
      refine CallQ.same (sorted_fn n1 a (by omega) fun p hp => Nat.le_trans (k1.1 p hp) (by decide)) rfl ?_
      simp -implicitDefEqProofs -dsimp [fr_u8s]
      refine CallK.reads ?_
      simp -implicitDefEqProofs -dsimp
      refine CallQ.same (in_fn m lo hi hms) rfl ?_
      simp -implicitDefEqProofs -dsimp
      by_cases c1 : inI lo hi m = true
      · by_cases c2 : m = ⟨#[]⟩
        · subst c2
          simp -implicitDefEqProofs -dsimp [c1]
        · simp -implicitDefEqProofs -dsimp [c1, c2]
          have hp := win_parts r1 c1 c2
          have hpl := win_parts_length r1 c1 c2
          have hl : (winI (srtI a) lo hi).length ≤ (srtI a).length := List.length_filter_le _ _
          obtain ⟨X, hX⟩ : ∃ X, X = srtI a := ⟨_, rfl⟩
          rw [← hX] at r1 l1 s1 s1' hp hpl hl ⊢
          refine CallK.works ?_
          simp -implicitDefEqProofs -dsimp
          refine CallQ.mk (within_fn _ X lo m r1 (by omega)) (by simp) ?_
          simp -implicitDefEqProofs -dsimp
          refine CallK.works ?_
          simp -implicitDefEqProofs -dsimp
          refine CallQ.mk (within_fn _ X m hi r1 (by omega)) (by simp) ?_
          simp -implicitDefEqProofs -dsimp
          obtain ⟨p, hpp⟩ : ∃ p, p = winI X lo m := ⟨_, rfl⟩
          obtain ⟨q, hqq⟩ : ∃ q, q = winI X m hi := ⟨_, rfl⟩
          rw [← hpp, ← hqq] at hp hpl ⊢
          have z1 : p.length * 16 ≤ 140737488355328 := by omega
          have z2 : p.length ≤ 140737488355328 := by omega
          have z3 : (p.length + q.length) * 16 ≤ 140737488355328 := by omega
          have z4 : p.length + q.length ≤ 140737488355328 := by omega
          have z5 : IntKind.i64.wrap ((p.length : Int) + q.length) = (p.length : Int) + q.length := wrap64 (by omega) (by omega)
          have z6 : ((winI X lo hi).length : Int) = p.length + q.length := by omega
          have f1 : (sumI X lo m).many = p.length := by rw [hpp]; rfl
          have f2 : (sumI X m hi).many = q.length := by rw [hqq]; rfl
          have f3 : (sumI X lo hi).many = (winI X lo hi).length := rfl
          simp -implicitDefEqProofs -dsimp [z1, z2, z3, z4]
          refine CallK.works ?_
          simp -implicitDefEqProofs -dsimp
          refine CallQ.mk (within_fn _ X lo hi r1 (by omega)) (by simp) ?_
          simp -implicitDefEqProofs -dsimp [z5, z6, f1, f2, f3, hp]
          refine CallK.reads ?_
          simp -implicitDefEqProofs -dsimp
          refine CallQ.same (ids_fn _ _ (winI X lo hi) (winI X lo hi) (by omega)) rfl ?_
          simp -implicitDefEqProofs -dsimp [z5, z6, f1, f2, f3, hp]
          refine CallK.reads ?_
          simp -implicitDefEqProofs -dsimp
          refine CallQ.same (sum_rg _ X lo m r1 (by omega) (s1' _ (by decide))) rfl ?_
          simp -implicitDefEqProofs -dsimp [z5, z6, f1, f2, f3, hp]
          refine CallK.reads ?_
          simp -implicitDefEqProofs -dsimp
          refine CallQ.same (sum_rg _ X m hi r1 (by omega) (s1' _ (by decide))) rfl ?_
          simp -implicitDefEqProofs -dsimp [z5, z6, f1, f2, f3, hp]
          refine CallK.reads ?_
          simp -implicitDefEqProofs -dsimp
          refine CallQ.same (sum_rg _ X lo hi r1 (by omega) (s1' _ (by decide))) rfl ?_
          simp -implicitDefEqProofs -dsimp [z5, z6, f1, f2, f3, hp]
      · simp -implicitDefEqProofs -dsimp [c1]
    · simp -implicitDefEqProofs -dsimp [h1, h2]
  · simp -implicitDefEqProofs -dsimp [h1]
end Go.Proofs.YtbialojkkhkjeaaDoor

/-! Sieve: halves have all of a range. -/
namespace Go.Proofs.YtbialojkkhkjeaaDoor
open Go.Sy
/-- The halves' ids: those ahead of the middle one, and those from it on. -/
theorem half_split {X : List ByteArray} (hR : Rise X) {lo hi m : ByteArray} {k : Nat} (hk : 0 < k) (hm : (winI X lo hi)[k]? = some m) :
    winI X lo m = (winI X lo hi).take k ∧ winI X m hi = (winI X lo hi).drop k := by
  have hRw : Rise (winI X lo hi) := hR.filter _
  obtain ⟨hkl, hmk⟩ := List.getElem?_eq_some_iff.1 hm
  have hmem : m ∈ winI X lo hi := hmk ▸ List.getElem_mem hkl
  obtain ⟨hmX, hin⟩ := mem_win.1 hmem
  have hne : m ≠ ⟨#[]⟩ := fun e => by
    have := hRw.get hk hkl
    rw [hmk, e, lt_empty] at this; cases this
  have hp := win_parts hR hin hne
  have hm2 : m ∈ winI X m hi := by
    rw [mem_win]
    simp only [inI, lt_irrefl, Bool.not_false, Bool.true_and]
    simp only [inI, Bool.and_eq_true] at hin
    exact ⟨hmX, hin.2⟩
  have hall : ∀ p, p ∈ winI X m hi → ltS p m = false := fun p hp => by
    have := (mem_win.1 hp).2
    simp only [inI, Bool.and_eq_true, Bool.not_eq_true'] at this
    exact this.1
  obtain ⟨q, l, hql⟩ : ∃ q l, winI X m hi = q :: l := by
    cases h : winI X m hi with
    | nil => rw [h] at hm2; cases hm2
    | cons q l => exact ⟨q, l, rfl⟩
  have hq : q = m := by
    rw [hql] at hm2 hall
    rcases List.mem_cons.1 hm2 with h | h
    · exact h.symm
    · have hr : Rise (q :: l) := hql ▸ hR.filter _
      have := hr.head h
      rw [hall q (by simp)] at this; cases this
  have hj : (winI X lo m).length = k := by
    have h1 : (winI X lo hi)[(winI X lo m).length]? = some m := by
      rw [← hp, List.getElem?_append_right (Nat.le_refl _), hql]; simp [hq]
    obtain ⟨h2, h3⟩ := List.getElem?_eq_some_iff.1 h1
    rcases Nat.lt_trichotomy (winI X lo m).length k with h | h | h
    · have := hRw.get h hkl
      rw [h3, hmk, lt_irrefl] at this; cases this
    · exact h
    · have := hRw.get h h2
      rw [h3, hmk, lt_irrefl] at this; cases this
  constructor
  · rw [← hp, ← hj, List.take_left]
  · rw [← hp, ← hj, List.drop_left]

theorem half_ok {X : List ByteArray} (hR : Rise X) (lo hi : ByteArray) :
    (∀ r, r ∈ halfI X lo hi → r = sumI X r.lo r.hi) ∧ ((halfI X lo hi).length = 2 → ∀ r, r ∈ halfI X lo hi → 0 < (winI X r.lo r.hi).length ∧ (winI X r.lo r.hi).length < (winI X lo hi).length) ∧
    (halfI X lo hi).flatMap (fun r => winI X r.lo r.hi) = winI X lo hi ∧ ((winI X lo hi).length < 2 → (halfI X lo hi).length = 1) ∧ (2 ≤ (winI X lo hi).length → (halfI X lo hi).length = 2) ∧
    (∃ r, (halfI X lo hi)[0]? = some r ∧ r.lo = lo) ∧ (∃ r, (halfI X lo hi)[(halfI X lo hi).length - 1]? = some r ∧ r.hi = hi) := by
  by_cases h : (winI X lo hi).length < 2
  · rw [halfI, if_pos h]
    refine ⟨fun r hr => ?_, fun h => by simp at h, by simp [sumI], fun _ => rfl, fun h2 => by omega, ⟨_, rfl, rfl⟩, ⟨_, rfl, rfl⟩⟩
    simp only [List.mem_singleton] at hr; rw [hr]; rfl
  · have hm : (winI X lo hi)[(winI X lo hi).length / 2]? = some (midI X lo hi) := by
      rw [midI, List.getD_eq_getElem?_getD, List.getElem?_eq_getElem (by omega)]; rfl
    obtain ⟨e1, e2⟩ := half_split hR (by omega : 0 < (winI X lo hi).length / 2) hm
    rw [halfI, if_neg h]
    refine ⟨fun r hr => ?_, fun _ r hr => ?_, ?_, fun h2 => absurd h2 h, fun _ => rfl, ⟨_, rfl, rfl⟩, ⟨_, rfl, rfl⟩⟩
    · simp only [List.mem_cons, List.not_mem_nil, or_false] at hr
      rcases hr with rfl | rfl <;> rfl
    · simp only [List.mem_cons, List.not_mem_nil, or_false] at hr
      rcases hr with rfl | rfl
      · show 0 < (winI X lo (midI X lo hi)).length ∧ (winI X lo (midI X lo hi)).length < _
        rw [e1, List.length_take]; omega
      · show 0 < (winI X (midI X lo hi) hi).length ∧ (winI X (midI X lo hi) hi).length < _
        rw [e2, List.length_drop]; omega
    · show winI X lo (midI X lo hi) ++ (winI X (midI X lo hi) hi ++ []) = _
      rw [e1, e2, List.append_nil, List.take_append_drop]

set_option maxRecDepth 100000 in
set_option maxHeartbeats 8000000 in
theorem halves_law_fn (n1 : Bool) (a : List ByteArray) (lo hi : ByteArray) (ha : a.length ≤ 9223372036854775807) :
    Fc Tryd.prog 4 [.sl .imm n1 1 (idc a), .lit (.string lo), .lit (.string hi)] [] (.lit (.bool true)) [] := by
  refine Fc.of (anys _ [8, 9, 10, 11, 12, 14, 17]) sch4 mixed Tryd.func4 rfl (by rfl) (by simp [Tryd.ntmps4]) (by decide) ?_
  simp -implicitDefEqProofs -dsimp [Tryd.ntmps4]
  refine CallK.reads ?_
  simp -implicitDefEqProofs -dsimp
  refine CallQ.same (awake_fn) rfl ?_
  simp -implicitDefEqProofs -dsimp
  refine CallK.reads ?_
  simp -implicitDefEqProofs -dsimp
  refine CallQ.same (few_fn2 n1 a ha) rfl ?_
  simp -implicitDefEqProofs -dsimp
  by_cases h1 : fewB a = true
  · by_cases c1 : 40 < (lo.size : Int)
    · simp -implicitDefEqProofs -dsimp [h1, c1]
    · by_cases c2 : 40 < (hi.size : Int)
      · simp -implicitDefEqProofs -dsimp [h1, c1, c2]
      · simp -implicitDefEqProofs -dsimp [h1, c1, c2]
        obtain ⟨r1, l1, s1⟩ := srt_few h1
        have k1 := fewB_iff.1 h1
        refine CallK.fresh ?_
        simp -implicitDefEqProofs -dsimp
        refine CallQ.same (sorted_fn n1 a (by omega) fun p hp => Nat.le_trans (k1.1 p hp) (by decide)) rfl ?_
        simp -implicitDefEqProofs -dsimp [fr_u8s]
        obtain ⟨X, hX⟩ : ∃ X, X = srtI a := ⟨_, rfl⟩
        rw [← hX] at r1 l1 s1 ⊢
        have s1' : ∀ n, 40 ≤ n → ∀ p, p ∈ X → p.size ≤ n := fun n hn p hp => Nat.le_trans (s1 p hp) hn
        refine CallK.works ?_
        simp -implicitDefEqProofs -dsimp
        refine CallQ.mk (halves_fn _ X lo hi r1 (by omega) (s1' _ (by decide))) (by simp) ?_
        simp -implicitDefEqProofs -dsimp
        refine CallK.works ?_
        simp -implicitDefEqProofs -dsimp
        refine CallQ.mk (within_fn _ X lo hi r1 (by omega)) (by simp) ?_
        simp -implicitDefEqProofs -dsimp
        obtain ⟨g1, g2, g3, g4, g5, ⟨ra, g6, g7⟩, ⟨rb, g8, g9⟩⟩ := half_ok r1 lo hi
        have wl := win_length X lo hi
        obtain ⟨w, hw⟩ : ∃ w, w = winI X lo hi := ⟨_, rfl⟩
        obtain ⟨hs, hhs⟩ : ∃ hs, hs = halfI X lo hi := ⟨_, rfl⟩
        rw [← hw] at g2 g3 g4 g5 wl ⊢
        rw [← hhs] at g1 g2 g3 g4 g5 g6 g8 ⊢
        have hl2 : hs.length ≤ 2 := by
          rcases Nat.lt_or_ge w.length 2 with h | h
          · rw [g4 h]; decide
          · rw [g5 h]; decide
        have hl1 : 1 ≤ hs.length := by
          rcases Nat.lt_or_ge w.length 2 with h | h
          · rw [g4 h]; decide
          · rw [g5 h]; decide
        refine LpK.mk (anys _ [8, 9, 10, 11, 12, 14, 17]) mixed (fun i : Nat => i ≤ hs.length)
          (fun i => ⟨[(1, .lit (.string lo)), (2, .lit (.string hi)), (7, .lit (.bool true)), (9, .sl .imm X.isEmpty 1 (idc X)), (10, .sl .imm false 4 (rgs hs)), (11, .sl .imm w.isEmpty 1 (idc w)),
            (12, .sl (.own (.loc 105)) ((hs.take i).flatMap fun r => winI X r.lo r.hi).isEmpty 1 (idc ((hs.take i).flatMap fun r => winI X r.lo r.hi))), (13, .lit (.int .i64 i))], [], 150⟩)
          (fun i => hs.length - i) 0 (by simp) (by simp -implicitDefEqProofs -dsimp) ?_
        intro i hi'
        by_cases hlt : i < hs.length
        · obtain ⟨r, hr⟩ : ∃ r, hs[i] = r := ⟨_, rfl⟩
          have hr' : hs[i]? = some r := by rw [List.getElem?_eq_getElem hlt, hr]
          have hrm : r ∈ hs := hr ▸ List.getElem_mem hlt
          have hsum := g1 r hrm
          have hmany : r.many = (winI X r.lo r.hi).length := by rw [hsum]; rfl
          have hd := eq_true hsum
          have hi1 : IntKind.i64.wrap ((i : Int) + 1) = (i : Int) + 1 := wrap64 (by omega) (by omega)
          have ol := win_length X r.lo r.hi
          have hfs : (hs.take (i + 1)).flatMap (fun r => winI X r.lo r.hi) = (hs.take i).flatMap (fun r => winI X r.lo r.hi) ++ winI X r.lo r.hi := by
            rw [List.take_add_one, hr']; simp
          have hal : ((hs.take i).flatMap fun r => winI X r.lo r.hi).length ≤ 24 * i := by
            have : ∀ l : List Rg, (l.flatMap fun r => winI X r.lo r.hi).length ≤ 24 * l.length := fun l => by
              induction l with
              | nil => simp
              | cons x l ih =>
                have := win_length X x.lo x.hi
                simp only [List.flatMap_cons, List.length_append, List.length_cons]; omega
            exact Nat.le_trans (this _) (by simp; omega)
          have hg2 := fun h => g2 h r hrm
          simp -implicitDefEqProofs -dsimp [hlt, hr, hr']
          refine CallK.works ?_
          simp -implicitDefEqProofs -dsimp
          refine CallQ.mk (within_fn _ X r.lo r.hi r1 (by omega)) (by simp) ?_
          simp -implicitDefEqProofs -dsimp [hlt, hr, hr', hmany, hd, hi1]
          refine CallK.reads ?_
          simp -implicitDefEqProofs -dsimp
          refine CallQ.same (sum_rg _ X r.lo r.hi r1 (by omega) (s1' _ (by decide))) rfl ?_
          simp -implicitDefEqProofs -dsimp [hlt, hr, hr', hmany, hd, hi1]
          obtain ⟨o, ho⟩ : ∃ o, o = winI X r.lo r.hi := ⟨_, rfl⟩
          obtain ⟨al, hal'⟩ : ∃ al, al = (hs.take i).flatMap fun r => winI X r.lo r.hi := ⟨_, rfl⟩
          rw [← ho] at hmany ol hg2 hfs ⊢
          rw [← hal'] at hal hfs ⊢
          have z1 : (al.length + o.length) * 16 ≤ 140737488355328 := by omega
          have z2 : al.length + o.length ≤ 140737488355328 := by omega
          have hemp : (al ++ o).isEmpty = (al.isEmpty && o.isEmpty) := by cases al <;> simp
          by_cases e2 : hs.length = 2
          · have e2' : (hs.length : Int) = 2 := by omega
            obtain ⟨b1, b2⟩ := hg2 e2
            have b1' : ¬ (o.length : Int) = 0 := by omega
            have b2' : ¬ (w.length : Int) ≤ o.length := by omega
            have b3 : ¬ o = [] := fun h => by rw [h] at b1; exact absurd b1 (by simp)
            simp -implicitDefEqProofs -dsimp [e2', b1', b2', b3, hmany, z1, z2, hi1]
            exact .mk (i + 1) hlt (by omega) (by simp -implicitDefEqProofs -dsimp [hfs, hemp])
          · have e2' : ¬ (hs.length : Int) = 2 := by omega
            simp -implicitDefEqProofs -dsimp [e2', hmany, z1, z2, hi1]
            exact .mk (i + 1) hlt (by omega) (by simp -implicitDefEqProofs -dsimp [hfs, hemp])
        · have e : i = hs.length := by omega
          subst e
          have ht : hs.take hs.length = hs := List.take_length
          obtain ⟨q1, q2⟩ := List.getElem?_eq_some_iff.1 g6
          obtain ⟨q3, q4⟩ := List.getElem?_eq_some_iff.1 g8
          have hwl : w.length < 9223372036854775807 := by omega
          simp -implicitDefEqProofs -dsimp [ht, g3]
          refine CallK.reads ?_
          simp -implicitDefEqProofs -dsimp
          refine CallQ.same (ids_fn _ _ w w hwl) rfl ?_
          simp -implicitDefEqProofs -dsimp
          rcases Nat.lt_or_ge w.length 2 with h | h
          · have hl := g4 h
            have d1 : ¬ (2 : Int) ≤ w.length := by omega
            have d2 : IntKind.i64.wrap 0 = 0 := by decide
            rw [hl] at g8
            have q4' : ∀ h, hs[0]'h = rb := fun h => by rw [List.getElem?_eq_getElem h] at g8; exact Option.some.inj g8
            have q2' : rb.lo = lo := by
              have : some rb = some ra := g8.symm.trans g6
              rw [Option.some.inj this, g7]
            simp -implicitDefEqProofs -dsimp [hl, d1, d2, g8, q4', g9, q2']
          · have hl := g5 h
            have d1 : (2 : Int) ≤ w.length := by omega
            have d2 : IntKind.i64.wrap 1 = 1 := by decide
            rw [hl] at g8
            have q4' : ∀ h, hs[1]'h = rb := fun h => by rw [List.getElem?_eq_getElem h] at g8; exact Option.some.inj g8
            have q2' : ∀ h, hs[0]'h = ra := fun h => by rw [List.getElem?_eq_getElem h] at g6; exact Option.some.inj g6
            simp -implicitDefEqProofs -dsimp [hl, d1, d2, g8, g6, q4', q2', g9, g7]
  · simp -implicitDefEqProofs -dsimp [h1]
end Go.Proofs.YtbialojkkhkjeaaDoor

/-! Sieve: what is missing is found by halves. -/
namespace Go.Proofs.YtbialojkkhkjeaaDoor
open Go.Sy
@[simp ↓ high] theorem cells_plainB (r : Rg) : (r.cells.all fun y => y.plain && !y.isAgg) = true := rfl
@[simp ↓ high] theorem cells_plainA (r : Rg) : (∀ x, x ∈ r.cells → (x.plain && !x.isAgg) = true) = True := eq_true fun x hx => by
  simp only [Rg.cells, List.mem_cons, List.not_mem_nil, or_false] at hx
  rcases hx with rfl | rfl | rfl | rfl <;> rfl
@[simp ↓ high] theorem cells_plainC (r : Rg) : (∀ x, x ∈ r.cells → x.plain = true ∧ x.isAgg = false) = True := eq_true fun x hx => by
  simp only [Rg.cells, List.mem_cons, List.not_mem_nil, or_false] at hx
  rcases hx with rfl | rfl | rfl | rfl <;> exact ⟨rfl, rfl⟩
@[simp ↓ high] theorem cells_noOwn (r : Rg) : noOwn r.cells = true := rfl
@[simp] theorem writeAt_cells (r : Rg) (a b c d : PV) : writeAt [a, b, c, d] 0 r.cells = r.cells := rfl
/-- How many a range may have at a depth. -/
def bnd : Nat → Nat
  | 0 => 24
  | 1 => 12
  | 2 => 6
  | 3 => 3
  | 4 => 2
  | _ => 1
theorem bnd_succ : ∀ d n, n ≤ bnd d → (n + 1) / 2 ≤ bnd (d + 1)
  | 0, n, h => by simp [bnd] at *; omega
  | 1, n, h => by simp [bnd] at *; omega
  | 2, n, h => by simp [bnd] at *; omega
  | 3, n, h => by simp [bnd] at *; omega
  | 4, n, h => by simp [bnd] at *; omega
  | d + 5, n, h => by simp [bnd] at *; omega
/-- What the other list lacks of a range. -/
def lackI (X Y : List ByteArray) (r : Rg) : List ByteArray := missI (winI X r.lo r.hi) Y
theorem miss_append (a b c : List ByteArray) : missI (a ++ b) c = missI a c ++ missI b c := by simp [missI]
theorem lack_half {X : List ByteArray} (hR : Rise X) (Y : List ByteArray) (lo hi : ByteArray) : (halfI X lo hi).flatMap (lackI X Y) = missI (winI X lo hi) Y := by
  have h := (half_ok hR lo hi).2.2.1
  have : ∀ l : List Rg, l.flatMap (lackI X Y) = missI (l.flatMap fun r => winI X r.lo r.hi) Y := fun l => by
    induction l with
    | nil => rfl
    | cons r l ih => rw [List.flatMap_cons, List.flatMap_cons, miss_append, ih]; rfl
  rw [this, h]
theorem half_many {X : List ByteArray} (hR : Rise X) {lo hi : ByteArray} (h2 : 2 ≤ (winI X lo hi).length) : ∀ r, r ∈ halfI X lo hi → r.many ≤ ((winI X lo hi).length + 1) / 2 := by
  have hm : (winI X lo hi)[(winI X lo hi).length / 2]? = some (midI X lo hi) := by
    rw [midI, List.getD_eq_getElem?_getD, List.getElem?_eq_getElem (by omega)]; rfl
  obtain ⟨e1, e2⟩ := half_split hR (by omega : 0 < (winI X lo hi).length / 2) hm
  intro r hr
  rw [halfI, if_neg (by omega)] at hr
  simp only [List.mem_cons, List.not_mem_nil, or_false] at hr
  rcases hr with rfl | rfl
  · show (winI X lo (midI X lo hi)).length ≤ _
    rw [e1, List.length_take]; omega
  · show (winI X (midI X lo hi) hi).length ≤ _
    rw [e2, List.length_drop]; omega
theorem miss_same {p Y : List ByteArray} (h : ∀ x, x ∈ p → x ∈ Y) : missI p Y = [] := by
  unfold missI
  rw [List.filter_eq_nil_iff]
  intro x hx
  have := hasI_iff.2 (h x hx)
  simp [this]
theorem win_all (X : List ByteArray) : winI X ⟨#[]⟩ ⟨#[]⟩ = X := by
  unfold winI
  rw [List.filter_eq_self]
  intro p _
  simp [inI, lt_empty]
/-- Ids that are those missing, in whatever order: made to rise they are the missing ones. -/
theorem found_all {X Y f : List ByteArray} (hR : Rise X) (h : f.Perm (missI X Y)) : srtI f = missI X Y :=
  Rise.ext (srt_rise f) (hR.filter _) fun p => by rw [mem_srt]; exact h.mem_iff

theorem perm_skip {f m n w : List ByteArray} (h : (f ++ m ++ ([] ++ n)).Perm w) : (f ++ m ++ n).Perm w := h
theorem perm_found {f m x n w : List ByteArray} (h : (f ++ m ++ (x ++ n)).Perm w) : (f ++ x ++ m ++ n).Perm w := by
  refine List.Perm.trans ?_ h
  simp only [List.append_assoc]
  refine List.Perm.append_left f ?_
  rw [← List.append_assoc, ← List.append_assoc]
  exact List.Perm.append_right n List.perm_append_comm
theorem perm_more {f m x n w : List ByteArray} (h : (f ++ m ++ (x ++ n)).Perm w) : (f ++ (m ++ x) ++ n).Perm w := by
  simpa using h

set_option maxRecDepth 100000 in
set_option maxHeartbeats 8000000 in
theorem sorted_im (nl : Bool) (l : List ByteArray) (hl : l.length ≤ 1000000) (hs : ∀ p, p ∈ l → p.size ≤ 1000000) :
    Fc Tryd.prog 10 [.sl .imm nl 1 (idc l)] [] (.sl .imm (srtI l).isEmpty 1 (idc (srtI l))) [] := by
  have := (sorted_fn nl l hl hs).fz [.loc 1160]
  simpa using this

set_option maxRecDepth 100000 in
set_option maxHeartbeats 16000000 in
theorem finds_fn (n1 n2 : Bool) (a b : List ByteArray) (ha : a.length ≤ 9223372036854775807) (hb : b.length ≤ 9223372036854775807) :
    Fc Tryd.prog 6 [.sl .imm n1 1 (idc a), .sl .imm n2 1 (idc b)] [] (.lit (.bool true)) [] := by
  refine Fc.of (anys _ [8, 9, 10, 11, 12, 13, 14, 17, 19, 20]) [] mixed Tryd.func6 rfl (by rfl) (by simp [Tryd.ntmps6]) (by decide) ?_
  simp -implicitDefEqProofs -dsimp [Tryd.ntmps6]
  refine CallK.reads ?_
  simp -implicitDefEqProofs -dsimp
  refine CallQ.same (awake_fn) rfl ?_
  simp -implicitDefEqProofs -dsimp
  refine CallK.reads ?_
  simp -implicitDefEqProofs -dsimp
  refine CallQ.same (few_fn2 n1 a ha) rfl ?_
  simp -implicitDefEqProofs -dsimp
  refine CallK.reads ?_
  simp -implicitDefEqProofs -dsimp
  refine CallQ.same (few_fn2 n2 b hb) rfl ?_
  simp -implicitDefEqProofs -dsimp
  by_cases h1 : fewB a = true
  · by_cases h2 : fewB b = true
    · simp -implicitDefEqProofs -dsimp [h1, h2]
      obtain ⟨r1, l1, s1⟩ := srt_few h1
      obtain ⟨r2, l2, s2⟩ := srt_few h2
      have k1 := fewB_iff.1 h1
      have k2 := fewB_iff.1 h2
      refine CallK.works ?_
      simp -implicitDefEqProofs -dsimp
      refine CallQ.mk (sorted_im n1 a (by omega) fun p hp => Nat.le_trans (k1.1 p hp) (by decide)) (by simp) ?_
      simp -implicitDefEqProofs -dsimp
      refine CallK.works ?_
      simp -implicitDefEqProofs -dsimp
      refine CallQ.mk (sorted_im n2 b (by omega) fun p hp => Nat.le_trans (k2.1 p hp) (by decide)) (by simp) ?_
      simp -implicitDefEqProofs -dsimp
      obtain ⟨X, hX⟩ : ∃ X, X = srtI a := ⟨_, rfl⟩
      obtain ⟨Y, hY⟩ : ∃ Y, Y = srtI b := ⟨_, rfl⟩
      rw [← hX] at r1 l1 s1 ⊢
      rw [← hY] at r2 l2 s2 ⊢
      have s1' : ∀ n, 40 ≤ n → ∀ p, p ∈ X → p.size ≤ n := fun n hn p hp => Nat.le_trans (s1 p hp) hn
      have s2' : ∀ n, 40 ≤ n → ∀ p, p ∈ Y → p.size ≤ n := fun n hn p hp => Nat.le_trans (s2 p hp) hn
      have ml : (missI X Y).length ≤ X.length := List.length_filter_le _ _
      refine CallK.reads ?_
      simp -implicitDefEqProofs -dsimp
      refine CallQ.same (sum_rg _ X ⟨#[]⟩ ⟨#[]⟩ r1 (by omega) (s1' _ (by decide))) rfl ?_
      simp -implicitDefEqProofs -dsimp
      have hinit : (0 ≤ 6) ∧ [sumI X ⟨#[]⟩ ⟨#[]⟩].length ≤ 2 ^ 0 ∧ (∀ r, r ∈ [sumI X ⟨#[]⟩ ⟨#[]⟩] → r = sumI X r.lo r.hi ∧ r.many ≤ bnd 0) ∧ (0 = 6 → [sumI X ⟨#[]⟩ ⟨#[]⟩] = []) ∧ ([] ++ [sumI X ⟨#[]⟩ ⟨#[]⟩].flatMap (lackI X Y)).Perm (missI X Y) := by
        refine ⟨by omega, by simp, fun r hr => ?_, fun h => by omega, ?_⟩
        · simp only [List.mem_singleton] at hr
          subst hr
          refine ⟨rfl, ?_⟩
          show (winI X ⟨#[]⟩ ⟨#[]⟩).length ≤ 24
          rw [win_all]; exact l1
        · have : lackI X Y (sumI X ⟨#[]⟩ ⟨#[]⟩) = missI X Y := by
            show missI (winI X ⟨#[]⟩ ⟨#[]⟩) Y = _
            rw [win_all]
          simp [this]
      refine LpK.mkF (anys _ [8, 9, 10, 11, 12, 13, 14, 17, 19, 20]) mixed [.loc 39]
        (fun ((nx, f, d) : List Rg × List ByteArray × Nat) => d ≤ 6 ∧ nx.length ≤ 2 ^ d ∧ (∀ r, r ∈ nx → r = sumI X r.lo r.hi ∧ r.many ≤ bnd d) ∧ (d = 6 → nx = []) ∧ (f ++ nx.flatMap (lackI X Y)).Perm (missI X Y))
        (fun ((nx, f, d) : List Rg × List ByteArray × Nat) => ⟨[(5, .lit (.bool true)), (8, .sl .imm X.isEmpty 1 (idc X)), (9, .sl .imm Y.isEmpty 1 (idc Y)), (10, .sl (.own (.loc 101)) f.isEmpty 1 (idc f)), (11, .sl .imm nx.isEmpty 4 (rgs nx)), (12, .lit (.int .i64 d))], [], 139⟩)
        (fun (_, _, d) => 8 - d) ([sumI X ⟨#[]⟩ ⟨#[]⟩], [], 0) hinit (by simp -implicitDefEqProofs -dsimp [rgs]) ?_
      rintro ⟨nx, f, d⟩ ⟨hd, hnl, hnx, hd6, hp⟩
      have hfl := hp.length_eq
      simp only [List.length_append] at hfl
      cases nx with
      | nil =>
        simp only [List.flatMap_nil, List.append_nil] at hp
        have hsrt := found_all r1 hp
        have hlen := hp.length_eq
        have hlen' : (f.length : Int) = (missI X Y).length := by omega
        have hfs : ∀ p, p ∈ f → p.size ≤ 1000000 := fun p hp' => Nat.le_trans (s1 p (List.mem_filter.1 (hp.mem_iff.1 hp')).1) (by decide)
        have hd' : (d : Int) ≤ 6 := by omega
        simp -implicitDefEqProofs -dsimp
        refine CallK.fresh ?_
        simp -implicitDefEqProofs -dsimp
        refine CallQ.same (rmissing_fn _ _ X Y (by omega) (by omega)) rfl ?_
        simp -implicitDefEqProofs -dsimp [fr_u8s]
        simp -implicitDefEqProofs -dsimp [hlen']
        refine CallK.fresh ?_
        simp -implicitDefEqProofs -dsimp
        refine CallQ.same (sorted_fn _ f (by omega) hfs) rfl ?_
        simp -implicitDefEqProofs -dsimp [fr_u8s, hsrt]
        refine CallK.reads ?_
        simp -implicitDefEqProofs -dsimp
        refine CallQ.same (ids_fn _ _ (missI X Y) (missI X Y) (by omega)) rfl ?_
        simp -implicitDefEqProofs -dsimp [hd']
      | cons r0 nx0 =>
        obtain ⟨nx, hnn⟩ : ∃ nx, nx = r0 :: nx0 := ⟨_, rfl⟩
        rw [← hnn] at hp hnl hnx hd6 hfl ⊢
        have hne : nx ≠ [] := by rw [hnn]; simp
        have hd5 : d ≤ 5 := by
          rcases Nat.lt_or_ge d 6 with h | h
          · omega
          · exact absurd (hd6 (by omega)) hne
        have hl32 : nx.length ≤ 32 := Nat.le_trans hnl (Nat.le_trans (Nat.pow_le_pow_right (by decide) hd5) (by decide))
        have c0 : 0 < nx.length := List.length_pos_iff.2 hne
        have c0' : (0 : Int) < nx.length := by omega
        have c8 : (d : Int) < 8 := by omega
        have wd : IntKind.i64.wrap ((d : Int) + 1) = (d : Int) + 1 := wrap64 (by omega) (by omega)
        simp -implicitDefEqProofs -dsimp [c0, c0', c8, hne]
        refine LpK.mk (anys _ [8, 9, 10, 11, 12, 13, 14, 17, 19, 20]) mixed
          (fun ((i, mo, f) : Nat × List Rg × List ByteArray) => i ≤ nx.length ∧ mo.length ≤ 2 * i ∧ (∀ r, r ∈ mo → r = sumI X r.lo r.hi ∧ r.many ≤ bnd (d + 1)) ∧ (d = 5 → mo = []) ∧ (f ++ mo.flatMap (lackI X Y) ++ (nx.drop i).flatMap (lackI X Y)).Perm (missI X Y))
          (fun ((i, mo, f) : Nat × List Rg × List ByteArray) => ⟨[(5, .lit (.bool true)), (8, .sl .imm X.isEmpty 1 (idc X)), (9, .sl .imm Y.isEmpty 1 (idc Y)), (10, .sl (.own (.loc 101)) f.isEmpty 1 (idc f)), (11, .sl .imm nx.isEmpty 4 (rgs nx)), (12, .lit (.int .i64 d)),
            (13, .sl (.own (.loc 109)) mo.isEmpty 4 (rgs mo)), (14, .lit (.int .i64 i))], [], 139⟩)
          (fun (i, _, _) => nx.length - i) (0, [], f) ⟨by omega, by simp, by simp, fun _ => rfl, by simpa using hp⟩ (by simp -implicitDefEqProofs -dsimp) ?_
        rintro ⟨i, mo, f⟩ ⟨hi, hmo, hmr, hm5, hp⟩
        by_cases hlt : i < nx.length
        · obtain ⟨r, hr⟩ : ∃ r, nx[i] = r := ⟨_, rfl⟩
          have hr' : nx[i]? = some r := by rw [List.getElem?_eq_getElem hlt, hr]
          obtain ⟨hrs, hrb⟩ := hnx r (hr ▸ List.getElem_mem hlt)
          have hrm : r.many = (winI X r.lo r.hi).length := by rw [hrs]; rfl
          have hdr : (nx.drop i).flatMap (lackI X Y) = missI (winI X r.lo r.hi) Y ++ (nx.drop (i + 1)).flatMap (lackI X Y) := by
            rw [List.drop_eq_getElem_cons hlt, hr]; rfl
          rw [hdr] at hp
          have hfl := hp.length_eq
          simp only [List.length_append] at hfl
          have wi : IntKind.i64.wrap ((i : Int) + 1) = (i : Int) + 1 := wrap64 (by omega) (by omega)
          have wlX := win_length X r.lo r.hi
          have hSum := fun nl => sum_rg nl Y r.lo r.hi r2 (by omega) (s2' _ (by decide))
          obtain ⟨sy, hsy⟩ : ∃ s, s = sumI Y r.lo r.hi := ⟨_, rfl⟩
          rw [← hsy] at hSum
          simp -implicitDefEqProofs -dsimp [hlt, hr, hr']
          refine CallK.reads ?_
          simp -implicitDefEqProofs -dsimp
          refine CallQ.same (hSum _) rfl ?_
          simp -implicitDefEqProofs -dsimp [hlt, hr, hr', wi]
          refine onSome_iff.2 ⟨_, if_pos (fun x hx => ?_), ?_⟩
          · simp only [Rg.cells, List.mem_cons, List.not_mem_nil, or_false] at hx
            rcases hx with rfl | rfl | rfl | rfl <;> exact ⟨rfl, rfl⟩
          simp -implicitDefEqProofs -dsimp [hlt, hr, hr']
          refine CallK.fresh ?_
          simp -implicitDefEqProofs -dsimp
          refine CallQ.same (rwithin_fn _ X r.lo r.hi (by omega) (s1' _ (by decide))) rfl ?_
          simp -implicitDefEqProofs -dsimp [fr_u8s, hlt, hr, hr', wi]
          refine CallK.fresh ?_
          simp -implicitDefEqProofs -dsimp
          refine CallQ.same (rwithin_fn _ Y r.lo r.hi (by omega) (s2' _ (by decide))) rfl ?_
          simp -implicitDefEqProofs -dsimp [fr_u8s, hlt, hr, hr', wi]
          refine CallK.reads ?_
          simp -implicitDefEqProofs -dsimp
          refine CallQ.same (ids_fn _ _ (winI X r.lo r.hi) (winI Y r.lo r.hi) (by omega)) rfl ?_
          simp -implicitDefEqProofs -dsimp [hlt, hr, hr', wi]
          by_cases c1 : sy = r
          · by_cases c2 : winI X r.lo r.hi = winI Y r.lo r.hi
            · simp -implicitDefEqProofs -dsimp [c1, c2, wi]
              have hz : missI (winI X r.lo r.hi) Y = [] := miss_same fun x hx => (mem_win.1 (c2 ▸ hx)).1
              rw [hz] at hp
              exact .mk (i + 1, mo, f) ⟨hlt, by omega, hmr, hm5, hp⟩ (by show nx.length - (i + 1) < nx.length - i; omega) (by simp -implicitDefEqProofs -dsimp)
            · simp -implicitDefEqProofs -dsimp [c1, c2]
          · by_cases c3 : r.many < 2
            · have c3' : (r.many : Int) < 2 := by omega
              simp -implicitDefEqProofs -dsimp [c1, c3']
              refine CallK.works ?_
              simp -implicitDefEqProofs -dsimp
              refine CallQ.mk (within_fn _ X r.lo r.hi r1 (by omega)) (by simp) ?_
              simp -implicitDefEqProofs -dsimp [hlt, hr, hr', wi]
              obtain ⟨m, hm⟩ : ∃ m, m = missI (winI X r.lo r.hi) Y := ⟨_, rfl⟩
              have hMi := fun a b => missing_fn a b (winI X r.lo r.hi) Y r2 (by omega) (by omega)
              rw [← hm] at hMi hp hfl
              have z1 : (f.length + m.length) * 16 ≤ 140737488355328 := by omega
              have z2 : f.length + m.length ≤ 140737488355328 := by omega
              have z3 : (f ++ m).isEmpty = (f.isEmpty && m.isEmpty) := by cases f <;> simp
              refine CallK.fresh ?_
              simp -implicitDefEqProofs -dsimp
              refine CallQ.same (hMi _ _) rfl ?_
              simp -implicitDefEqProofs -dsimp [fr_u8s, z1, z2, hlt, hr, hr', wi]
              exact .mk (i + 1, mo, f ++ m) ⟨hlt, by omega, hmr, hm5, perm_found hp⟩ (by show nx.length - (i + 1) < nx.length - i; omega) (by simp -implicitDefEqProofs -dsimp [z3])
            · have c3' : ¬ (r.many : Int) < 2 := by omega
              simp -implicitDefEqProofs -dsimp [c1, c3']
              have w2 : 2 ≤ (winI X r.lo r.hi).length := by omega
              obtain ⟨o1, -, -, -, o5, -, -⟩ := half_ok r1 r.lo r.hi
              have o6 := half_many r1 w2
              have o7 := o5 w2
              have o8 := lack_half r1 Y r.lo r.hi
              have hHa := fun a => halves_fn a X r.lo r.hi r1 (by omega) (s1' _ (by decide))
              obtain ⟨hs, hhs⟩ : ∃ hs, hs = halfI X r.lo r.hi := ⟨_, rfl⟩
              rw [← hhs] at o1 o6 o7 o8 hHa
              rw [← o8] at hp
              have z1 : (mo.length + hs.length) * 56 ≤ 140737488355328 := by omega
              have z2 : mo.length + hs.length ≤ 140737488355328 := by omega
              have z3 : (mo ++ hs).isEmpty = (mo.isEmpty && hs.isEmpty) := by cases mo <;> simp
              refine CallK.works ?_
              simp -implicitDefEqProofs -dsimp
              refine CallQ.mk (hHa _) (by simp) ?_
              simp -implicitDefEqProofs -dsimp [z1, z2, hlt, hr, hr', wi]
              refine .mk (i + 1, mo ++ hs, f) ⟨hlt, by simp; omega, fun q hq => ?_, fun h5 => ?_, ?_⟩ (by show nx.length - (i + 1) < nx.length - i; omega) (by simp -implicitDefEqProofs -dsimp [z3])
              · rcases List.mem_append.1 hq with hq | hq
                · exact hmr q hq
                · exact ⟨o1 q hq, Nat.le_trans (o6 q hq) (bnd_succ d _ (by omega))⟩
              · rw [h5] at hrb
                simp only [bnd] at hrb; omega
              · rw [List.flatMap_append]; exact perm_more hp
        · have e : i = nx.length := by omega
          subst e
          rw [List.drop_length, List.flatMap_nil, List.append_nil] at hp
          simp -implicitDefEqProofs -dsimp [wd]
          refine .mk [.loc 109] (mo, f, d + 1) ⟨by omega, ?_, hmr, fun h => hm5 (by omega), hp⟩ (by show 8 - (d + 1) < 8 - d; omega) (by simp -implicitDefEqProofs -dsimp)
          rw [Nat.pow_succ]; omega
    · simp -implicitDefEqProofs -dsimp [h1, h2]
  · simp -implicitDefEqProofs -dsimp [h1]
end Go.Proofs.YtbialojkkhkjeaaDoor
