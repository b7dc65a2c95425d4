/- Ids: what lies in a range, told one by one. (and what stands on it) -/
import Derived.Test.YtbialojkkhkjeaaDoorM8
import Derived.Test.YtbialojkkhkjeaaDoorM7
import Derived.Laws.StructEq

/-! Ids: what lies in a range, told one by one. -/
namespace Go.Proofs.YtbialojkkhkjeaaDoor
open Go.Sy

set_option maxRecDepth 100000 in
set_option maxHeartbeats 4000000 in
theorem rmissing_fn (n1 n2 : Bool) (a b : List ByteArray) (ha : a.length ≤ 1000000) (hb : b.length ≤ 1000000) :
    Fc Tryd.prog 20 [.sl .imm n1 1 (idc a), .sl .imm n2 1 (idc b)] [] (.sl (.own (.loc 41)) (missI a b).isEmpty 1 (idc (missI a b))) [] := by
  refine Fc.of (anys _ []) sch20 mixed Tryd.func20 rfl (by rfl) (by simp [Tryd.ntmps20]) (by decide) ?_
  simp -implicitDefEqProofs -dsimp [Tryd.ntmps20]
  refine LpK.mk (anys _ []) mixed (fun i : Nat => i ≤ a.length) (fun i => ⟨[(0, .sl .imm n1 1 (idc a)), (1, .sl .imm n2 1 (idc b)), (5, .sl (.own (.loc 41)) (missI (a.take i) b).isEmpty 1 (idc (missI (a.take i) b))), (6, .lit (.int .i64 i))], [], 43⟩) (fun i => a.length - i) 0 (by simp) (by simp -implicitDefEqProofs -dsimp [missI]) ?_
  intro i hi
  by_cases hlt : i < a.length
  · obtain ⟨p, hp⟩ : ∃ p, a[i] = p := ⟨_, rfl⟩
    have hp' : a[i]? = some p := by rw [List.getElem?_eq_getElem hlt, hp]
    have hw : IntKind.i64.wrap ((i : Int) + 1) = (i : Int) + 1 := wrap64 (by omega) (by omega)
    have hn := miss_snoc a b hp'
    obtain ⟨w, hw'⟩ : ∃ w, w = missI (a.take i) b := ⟨_, rfl⟩
    have hwl : w.length ≤ a.length := by rw [hw']; exact Nat.le_trans (List.length_filter_le _ _) (by simp; omega)
    have hc1 : (w.length + 1) * 16 ≤ 140737488355328 := by omega
    have hc2 : w.length ≤ 140737488355327 := by omega
    rw [← hw'] at hn ⊢
    simp -implicitDefEqProofs -dsimp [hlt, hp, hp', hw]
    refine LpK.mk (anys _ []) mixed (fun k : Nat => k ≤ b.length) (fun k => ⟨[(0, .sl .imm n1 1 (idc a)), (1, .sl .imm n2 1 (idc b)), (5, .sl (.own (.loc 41)) w.isEmpty 1 (idc w)), (6, .lit (.int .i64 i)), (7, .lit (.bool (hasI (b.take k) p))), (8, .lit (.int .i64 k))], [], 43⟩) (fun k => b.length - k) 0 (by simp) (by simp -implicitDefEqProofs -dsimp [hasI]) ?_
    intro k hk
    by_cases hlt2 : k < b.length
    · obtain ⟨q, hq⟩ : ∃ q, b[k] = q := ⟨_, rfl⟩
      have hq' : b[k]? = some q := by rw [List.getElem?_eq_getElem hlt2, hq]
      have hw2 : IntKind.i64.wrap ((k : Int) + 1) = (k : Int) + 1 := wrap64 (by omega) (by omega)
      have hh := hasI_snoc b p hq'
      obtain ⟨c, hc⟩ : ∃ c, c = hasI (b.take k) p := ⟨_, rfl⟩
      rw [← hc] at hh ⊢
      cases c
      · simp -implicitDefEqProofs -dsimp [hlt, hp, hp', hlt2, hq, hq', hw2]
        exact .mk (k + 1) (by omega) (by omega) (by simp -implicitDefEqProofs -dsimp [hh])
      · simp -implicitDefEqProofs -dsimp [hlt, hp, hp', hlt2, hq, hq', hw2]
        exact .mk (k + 1) (by omega) (by omega) (by simp -implicitDefEqProofs -dsimp [hh])
    · have e : k = b.length := by omega
      subst e
      have ht : b.take b.length = b := List.take_length
      by_cases hc : hasI b p = true
      · rw [if_pos hc, List.append_nil] at hn
        simp -implicitDefEqProofs -dsimp [hc, hw, ht]
        exact .mk (i + 1) (by omega) (by omega) (by simp -implicitDefEqProofs -dsimp [hn, hw])
      · rw [if_neg hc] at hn
        simp -implicitDefEqProofs -dsimp [hc, hw, hc1, hc2, hp, hp', hlt, ht]
        exact .mk (i + 1) (by omega) (by omega) (by simp -implicitDefEqProofs -dsimp [hn, hw])
  · have e : i = a.length := by omega
    subst e
    simp -implicitDefEqProofs -dsimp

set_option maxRecDepth 100000 in
set_option maxHeartbeats 4000000 in
theorem within_mk (nl : Bool) (l : List ByteArray) (lo hi : ByteArray) (hR : Rise l) (hl : l.length ≤ 1000000) :
    Fc Tryd.prog 26 [.sl .imm nl 1 (idc l), .lit (.string lo), .lit (.string hi)] [] (.fn (.func 39) [] [.ptr 3 0, .ptr 7 0, .ptr 5 0])
      [(7, .cells [.lit (.int .i64 (fromI l lo))]), (5, .cells [.lit (.string hi)]), (3, .cells [.sl .imm nl 1 (idc l)])] := by
  refine Fc.of (anys _ [31]) [] mixed Tryd.func26 rfl (by rfl) (by simp [Tryd.ntmps26]) (by decide) ?_
  simp -implicitDefEqProofs -dsimp [Tryd.ntmps26]
  refine CallK.reads ?_
  simp -implicitDefEqProofs -dsimp
  refine CallQ.same (search_fn nl l lo hR hl) rfl ?_
  simp -implicitDefEqProofs -dsimp [plain_tup]

/-- The round over a range's ids: they are put behind a list. -/
noncomputable def cd38 : Array Tmp × Code × Code := ((Tryd.f38.body).bind rfOf).getD (#[], .skip, .skip)

theorem till_step (hi : ByteArray) (l : List ByteArray) {i : Nat} {p : ByteArray} (hp : l[i]? = some p) : tillI hi (l.drop i) = if (decide (hi = (⟨#[]⟩ : ByteArray)) || ltS p hi) = true then p :: tillI hi (l.drop (i + 1)) else [] := by
  obtain ⟨h1, h2⟩ := List.getElem?_eq_some_iff.1 hp
  rw [List.drop_eq_getElem_cons h1, tillI_cons, h2]

set_option maxRecDepth 100000 in
set_option maxHeartbeats 8000000 in
theorem yield38_fn (nl : Bool) (l : List ByteArray) (f : Nat) (hi : ByteArray) (hf : f ≤ l.length) (hl : l.length ≤ 1000000) :
    Fc Tryd.prog 39 [.yl 100000, .ptr 100001 0, .ptr 100002 0, .ptr 100003 0]
      [(100000, .loop [(2, .ptr 100004 0)] 13 cd38 .ready none), (100001, .cells [.sl .imm nl 1 (idc l)]), (100002, .cells [.lit (.int .i64 f)]), (100003, .cells [.lit (.string hi)]), (100004, .cells [.sl .imm true 0 []])] (.tup [])
      [(100000, .loop [(2, .ptr 100004 0)] 13 cd38 .ready none), (100004, .cells [.sl (.own (.cell 100004 0)) (tillI hi (l.drop f)).isEmpty 1 (idc (tillI hi (l.drop f)))])] := by
  refine Fc.of (anys _ []) [] mixed Tryd.func39 rfl (by rfl) (by simp [Tryd.ntmps39]) (by decide) ?_
  have hf' : (f : Int) ≤ l.length := by omega
  simp -implicitDefEqProofs -dsimp [Tryd.ntmps39, hf']
  obtain ⟨m, hm⟩ : ∃ m, m = l.drop f := ⟨_, rfl⟩
  have hml : m.length ≤ 1000000 := by rw [hm]; simp; omega
  have hmf : l.length - f = m.length := by rw [hm]; simp
  rw [← hm]
  refine LpK.mk (anys _ []) mixed (fun i : Nat => i ≤ m.length ∧ tillI hi m = m.take i ++ tillI hi (m.drop i))
    (fun i => ⟨[(0, .yl 100000), (3, .ptr 100003 0), (9, .sl .imm nl 1 (idc m)), (10, .lit (.int .i64 m.length)), (11, .lit (.int .i64 i))],
      [(100000, .loop [(2, .ptr 100004 0)] 13 cd38 .ready none), (100003, .cells [.lit (.string hi)]), (100004, .cells [.sl (.own (.cell 100004 0)) (m.take i).isEmpty 1 (idc (m.take i))])], 29⟩)
    (fun i => m.length - i) 0 ⟨by simp, by simp⟩ (by simp -implicitDefEqProofs -dsimp [hmf]) ?_
  rintro i ⟨hi', ht⟩
  by_cases hlt : i < m.length
  · obtain ⟨p, hp⟩ : ∃ p, m[i] = p := ⟨_, rfl⟩
    have hp' : m[i]? = some p := by rw [List.getElem?_eq_getElem hlt, hp]
    have hw : IntKind.i64.wrap ((i : Int) + 1) = (i : Int) + 1 := wrap64 (by omega) (by omega)
    have hs := till_step hi m hp'
    have hta : m.take (i + 1) = m.take i ++ [p] := by rw [List.take_add_one, hp']; rfl
    have hae : (m.take i ++ [p]).isEmpty = false := by simp
    have htl : (m.take i).length ≤ i := by simp; omega
    obtain ⟨r, hr⟩ : ∃ r, r = m.take i := ⟨_, rfl⟩
    rw [← hr] at hta hae htl ht ⊢
    have hc1 : (r.length + 1) * 16 ≤ 140737488355328 := by omega
    have hc2 : r.length ≤ 140737488355327 := by omega
    by_cases c1 : hi = ⟨#[]⟩
    · subst c1
      rw [if_pos (by simp)] at hs
      simp -implicitDefEqProofs -dsimp [hlt, hp, hp', hw]
      refine YlK.mk (anys _ []) [] mixed 99999 rfl rfl (by rfl) rfl (by decide) rfl ?_
      intro rr vals
      simp -implicitDefEqProofs -dsimp [hc1, hc2, hw]
      exact .mk (i + 1) ⟨hlt, by rw [ht, hs, hta]; simp⟩ (by omega) (by simp -implicitDefEqProofs -dsimp [hta])
    · by_cases c2 : ltS p hi = true
      · rw [if_pos (by simp [c2])] at hs
        simp -implicitDefEqProofs -dsimp [hlt, hp, hp', hw, c1, c2]
        refine YlK.mk (anys _ []) [] mixed 99999 rfl rfl (by rfl) rfl (by decide) rfl ?_
        intro rr vals
        simp -implicitDefEqProofs -dsimp [hc1, hc2, hw]
        exact .mk (i + 1) ⟨hlt, by rw [ht, hs, hta]; simp⟩ (by omega) (by simp -implicitDefEqProofs -dsimp [hta])
      · rw [if_neg (by simp [c1, c2])] at hs
        have hz : tillI hi m = r := by rw [ht, hs, List.append_nil]
        simp -implicitDefEqProofs -dsimp [hlt, hp, hp', hw, c1, c2, hz]
  · have e : i = m.length := by omega
    subst e
    have hz : tillI hi m = m := by rw [ht]; simp [tillI]
    simp -implicitDefEqProofs -dsimp [hz]

set_option maxRecDepth 100000 in
set_option maxHeartbeats 8000000 in
theorem append_fn (nl : Bool) (l : List ByteArray) (f : Nat) (hi : ByteArray) (hf : f ≤ l.length) (hl : l.length ≤ 1000000) :
    Fc Tryd.prog 38 [.sl .imm true 0 [], .fn (.func 39) [] [.ptr 100000 0, .ptr 100001 0, .ptr 100002 0]]
      [(100000, .cells [.sl .imm nl 1 (idc l)]), (100001, .cells [.lit (.int .i64 f)]), (100002, .cells [.lit (.string hi)])] (.sl .imm (tillI hi (l.drop f)).isEmpty 1 (idc (tillI hi (l.drop f)))) [] := by
  suffices h : Fc Tryd.prog 38 [.sl .imm true 0 [], .fn (.func 39) [] [.ptr 100000 0, .ptr 100001 0, .ptr 100002 0]]
      [(100000, .cells [.sl .imm nl 1 (idc l)]), (100001, .cells [.lit (.int .i64 f)]), (100002, .cells [.lit (.string hi)])] (.sl (.own (.cell 2 0)) (tillI hi (l.drop f)).isEmpty 1 (idc (tillI hi (l.drop f)))) [] by
    have := h.fz [.cell 2 0]
    simpa using this
  refine Fc.of (anys _ [39]) [] mixed Tryd.func38 rfl (by rfl) (by simp [Tryd.ntmps38]) (by decide) ?_
  simp -implicitDefEqProofs -dsimp [Tryd.ntmps38]
  refine RfK.mk 99998 cd38 [(2, .ptr 2 0)] rfl rfl (by decide) (by simp -implicitDefEqProofs -dsimp) ?_
  simp -implicitDefEqProofs -dsimp
  refine CallK.works ?_
  simp -implicitDefEqProofs -dsimp
  refine CallQ.mk (yield38_fn nl l f hi hf hl) (by simp) ?_
  simp -implicitDefEqProofs -dsimp
end Go.Proofs.YtbialojkkhkjeaaDoor

/-! Ranges: their ids, their sums. -/
namespace Go.Sy
/-- A range, with how many it has, and their mark. -/
structure Rg where
  lo : ByteArray
  hi : ByteArray
  many : Nat
  mark : ByteArray
  deriving DecidableEq
def Rg.cells (r : Rg) : List PV := [.lit (.string r.lo), .lit (.string r.hi), .lit (.int .i64 r.many), .lit (.string r.mark)]
end Go.Sy
namespace Go.Proofs.YtbialojkkhkjeaaDoor
open Go.Sy
set_option maxRecDepth 100000 in
set_option maxHeartbeats 4000000 in
theorem collect_fn (nl : Bool) (l : List ByteArray) (f : Nat) (hi : ByteArray) (hf : f ≤ l.length) (hl : l.length ≤ 1000000) :
    Fc Tryd.prog 25 [.fn (.func 39) [] [.ptr 100000 0, .ptr 100001 0, .ptr 100002 0]]
      [(100000, .cells [.sl .imm nl 1 (idc l)]), (100001, .cells [.lit (.int .i64 f)]), (100002, .cells [.lit (.string hi)])] (.sl .imm (tillI hi (l.drop f)).isEmpty 1 (idc (tillI hi (l.drop f)))) [] := by
  refine Fc.of (anys _ [38]) [] mixed Tryd.func25 rfl (by rfl) (by simp [Tryd.ntmps25]) (by decide) ?_
  simp -implicitDefEqProofs -dsimp [Tryd.ntmps25]
  refine CallK.works ?_
  simp -implicitDefEqProofs -dsimp
  refine CallQ.mk (append_fn nl l f hi hf hl) (by simp) ?_
  simp -implicitDefEqProofs -dsimp

set_option maxRecDepth 100000 in
set_option maxHeartbeats 4000000 in
theorem within_fn (nl : Bool) (l : List ByteArray) (lo hi : ByteArray) (hR : Rise l) (hl : l.length ≤ 1000000) :
    Fc Tryd.prog 12 [.sl .imm nl 1 (idc l), .lit (.string lo), .lit (.string hi)] [] (.sl .imm (winI l lo hi).isEmpty 1 (idc (winI l lo hi))) [] := by
  have hw := win_till hR lo hi
  refine Fc.of (anys _ [25, 26]) [] mixed Tryd.func12 rfl (by rfl) (by simp [Tryd.ntmps12]) (by decide) ?_
  simp -implicitDefEqProofs -dsimp [Tryd.ntmps12]
  refine CallK.works ?_
  simp -implicitDefEqProofs -dsimp
  refine CallQ.mk (within_mk nl l lo hi hR hl) (by simp) ?_
  simp -implicitDefEqProofs -dsimp
  refine CallK.works ?_
  simp -implicitDefEqProofs -dsimp
  refine CallQ.mk (collect_fn nl l (fromI l lo) hi (fromI_le l lo) hl) (by simp) ?_
  simp -implicitDefEqProofs -dsimp [hw]

theorem text0_fn (n2 : Bool) (x : List Int) (hx : x.length ≤ 10000000) :
    Fc Tryd.prog 29 [.sl .imm true 0 [], .sl .imm n2 1 (u8s x)] [] (.sl (.own (.loc 1090)) false 1 (u8s (enc x.length ++ x))) [] := by
  have := text_fn true n2 [] x (by simp) (by simp) hx
  exact Fc.args this (by simp)

/-- The round over a range's ids: they are counted, their texts written. -/
noncomputable def cd14 : Array Tmp × Code × Code := ((Tryd.f14.body).bind rfOf).getD (#[], .skip, .skip)

/-- What has been written, with how many. -/
def hcO (o : Own) (l : List ByteArray) : List PV := sv (absB st0 (formI l)).1 ++ [.sl o l.isEmpty 1 (u8s (absB st0 (formI l)).2), .lit (.int .u64 (formI l).length)]
def hcD (l : List ByteArray) : List PV := sv (absB st0 (formI l)).1 ++ [.dead, .lit (.int .u64 (formI l).length)]
abbrev hcl (k : Nat) (l : List ByteArray) : List PV := hcO (.own (.cell k 8)) l
theorem sv_scrub (F : Own → Option Own) (p : Nat → Option Nat) (S : List Int) : PV.scrubL F p (sv S) = sv S := by simp [sv, PV.scrubL, PV.scrub]
theorem scrubL_app (F : Own → Option Own) (p : Nat → Option Nat) (a b : List PV) : PV.scrubL F p (a ++ b) = PV.scrubL F p a ++ PV.scrubL F p b := by simp [scrubL_eq]
@[simp ↓] theorem hc_scrub (F : Own → Option Own) (p : Nat → Option Nat) (l : List ByteArray) (o : Own) : PV.scrubL F p (hcO o l) = match F o with
    | some o' => hcO o' l
    | none => hcD l := by
  rw [hcO, scrubL_app, sv_scrub]
  simp only [PV.scrubL, PV.scrub]
  cases F o <;> rfl
@[simp ↓] theorem hc_ids (l : List ByteArray) (o : Own) : idsOfL (hcO o l) = [] := by simp [hcO, sv]
@[simp ↓] theorem hc_toks (l : List ByteArray) (t : Tk) : toksOfL (hcO (.own t) l) = [t] := by simp [hcO, sv]
theorem write_id (l : List ByteArray) (p : ByteArray) (n2 : Bool) (hl : (formI (l ++ [p])).length ≤ 1000000) :
    Fc Tryd.prog 28 [.ptr 100000 0, .sl .imm n2 1 (u8s (enc p.size ++ bs p))] [(100000, .cells (hcl 100000 l))] (.tup []) [(100000, .cells (hcl 100000 (l ++ [p])))] := by
  have hf : formI l ++ (enc p.size ++ bs p) = formI (l ++ [p]) := by simp [formI]
  have := write_law (formI l) (enc p.size ++ bs p) (formI (l ++ [p])) (formI l).length (formI (l ++ [p])).length l.isEmpty n2 hf rfl rfl hl
  have hz : nz (formI l) (enc p.size ++ bs p) = (l ++ [p]).isEmpty := by
    have h1 : (l ++ [p]).isEmpty = false := by simp
    rw [h1, nz, decide_eq_false_iff_not]
    intro h
    have := (List.append_eq_nil_iff.1 (List.append_eq_nil_iff.1 h).2).1
    exact enc_ne _ this
  rw [hz] at this
  exact this
theorem sum_id (l : List ByteArray) : Fc Tryd.prog 30 [.ptr 100000 0] [(100000, .cells (hcl 100000 l))] (.lit (.string (digOf (formI l)))) [(100000, .cells (hcl 100000 l))] := by
  refine sum_law (formI l) (formI l).length l.isEmpty (fun h => ?_) rfl
  rw [List.isEmpty_iff] at h
  subst h
  show (absB st0 []).2 = []
  rw [absB, if_neg (by simp)]

set_option maxRecDepth 100000 in
set_option maxHeartbeats 8000000 in
theorem yield14_fn (nl : Bool) (l : List ByteArray) (f : Nat) (lo hi e : ByteArray) (hf : f ≤ l.length) (hl : l.length ≤ 900) (hs : ∀ p, p ∈ l → p.size ≤ 1000) :
    Fc Tryd.prog 39 [.yl 100000, .ptr 100001 0, .ptr 100002 0, .ptr 100003 0]
      [(100000, .loop [(7, .ptr 100004 0), (8, .ptr 100005 0)] 32 cd14 .ready none), (100001, .cells [.sl .imm nl 1 (idc l)]), (100002, .cells [.lit (.int .i64 f)]), (100003, .cells [.lit (.string hi)]),
        (100004, .cells (Rg.mk lo hi 0 e).cells), (100005, .cells [.ptr 100006 0]), (100006, .cells (hcl 100006 []))] (.tup [])
      [(100000, .loop [(7, .ptr 100004 0), (8, .ptr 100005 0)] 32 cd14 .ready none), (100004, .cells (Rg.mk lo hi (tillI hi (l.drop f)).length e).cells), (100005, .cells [.ptr 100006 0]), (100006, .cells (hcl 100006 (tillI hi (l.drop f))))] := by
  refine Fc.of (anys _ []) [] mixed Tryd.func39 rfl (by rfl) (by simp [Tryd.ntmps39]) (by decide) ?_
  have hf' : (f : Int) ≤ l.length := by omega
  simp -implicitDefEqProofs -dsimp [Tryd.ntmps39, hf']
  obtain ⟨m, hm⟩ : ∃ m, m = l.drop f := ⟨_, rfl⟩
  have hml : m.length ≤ 900 := by rw [hm]; simp; omega
  have hms : ∀ p, p ∈ m → p.size ≤ 1000 := fun p hp => hs p (List.mem_of_mem_drop (hm ▸ hp))
  have hmf : l.length - f = m.length := by rw [hm]; simp
  rw [← hm]
  refine LpK.mk (anys _ []) mixed (fun i : Nat => i ≤ m.length ∧ tillI hi m = m.take i ++ tillI hi (m.drop i))
    (fun i => ⟨[(0, .yl 100000), (3, .ptr 100003 0), (9, .sl .imm nl 1 (idc m)), (10, .lit (.int .i64 m.length)), (11, .lit (.int .i64 i))],
      [(100000, .loop [(7, .ptr 100004 0), (8, .ptr 100005 0)] 32 cd14 .ready none), (100003, .cells [.lit (.string hi)]), (100004, .cells (Rg.mk lo hi (m.take i).length e).cells), (100005, .cells [.ptr 100006 0]), (100006, .cells (hcl 100006 (m.take i)))], 29⟩)
    (fun i => m.length - i) 0 ⟨by simp, by simp⟩ (by simp -implicitDefEqProofs -dsimp [hmf]) ?_
  rintro i ⟨hi', ht⟩
  by_cases hlt : i < m.length
  · obtain ⟨p, hp⟩ : ∃ p, m[i] = p := ⟨_, rfl⟩
    have hp' : m[i]? = some p := by rw [List.getElem?_eq_getElem hlt, hp]
    have hw : IntKind.i64.wrap ((i : Int) + 1) = (i : Int) + 1 := wrap64 (by omega) (by omega)
    have hst := till_step hi m hp'
    have hta : m.take (i + 1) = m.take i ++ [p] := by rw [List.take_add_one, hp']; rfl
    have hrl : (m.take i).length = i := by simp; omega
    have hps := hms p (hp ▸ List.getElem_mem hlt)
    have hfl := formI_length (m.take (i + 1)) fun q hq => hms q (List.mem_of_mem_take hq)
    have hbl := bs_length p
    have hps' : p.size ≤ 140737488355328 := by omega
    rw [hta] at hfl
    obtain ⟨r, hr⟩ : ∃ r, r = m.take i := ⟨_, rfl⟩
    rw [← hr] at hta ht hfl hrl ⊢
    have hfl2 : (formI (r ++ [p])).length ≤ 1000000 := by simp at hfl; omega
    have hwr : IntKind.i64.wrap ((r.length : Int) + 1) = (r.length : Int) + 1 := by rw [hrl]; exact hw
    by_cases c1 : hi = ⟨#[]⟩
    · subst c1
      rw [if_pos (by simp)] at hst
      simp -implicitDefEqProofs -dsimp [hlt, hp, hp', hw]
      refine YlK.mk (anys _ [28, 29]) sch14 mixed 99999 rfl rfl (by rfl) rfl (by decide) rfl ?_
      intro rr vals
      simp -implicitDefEqProofs -dsimp [hps', Rg.cells]
      refine CallK.fresh ?_
      simp -implicitDefEqProofs -dsimp
      refine CallQ.same (text0_fn false (bs p) (by omega)) rfl ?_
      simp -implicitDefEqProofs -dsimp [fr_u8s, hbl, hps', hwr, hw]
      refine CallK.works ?_
      simp -implicitDefEqProofs -dsimp
      refine CallQ.same (write_id r p false hfl2) rfl ?_
      simp -implicitDefEqProofs -dsimp [hps', hwr, hw]
      exact .mk (i + 1) ⟨hlt, by rw [ht, hst, hta]; simp⟩ (by omega) (by simp -implicitDefEqProofs -dsimp [hta, Rg.cells])
    · by_cases c2 : ltS p hi = true
      · rw [if_pos (by simp [c2])] at hst
        simp -implicitDefEqProofs -dsimp [hlt, hp, hp', hw, c1, c2]
        refine YlK.mk (anys _ [28, 29]) sch14 mixed 99999 rfl rfl (by rfl) rfl (by decide) rfl ?_
        intro rr vals
        simp -implicitDefEqProofs -dsimp [hps', Rg.cells]
        refine CallK.fresh ?_
        simp -implicitDefEqProofs -dsimp
        refine CallQ.same (text0_fn false (bs p) (by omega)) rfl ?_
        simp -implicitDefEqProofs -dsimp [fr_u8s, hbl, hps', hwr, hw]
        refine CallK.works ?_
        simp -implicitDefEqProofs -dsimp
        refine CallQ.same (write_id r p false hfl2) rfl ?_
        simp -implicitDefEqProofs -dsimp [hps', hwr, hw]
        exact .mk (i + 1) ⟨hlt, by rw [ht, hst, hta]; simp⟩ (by omega) (by simp -implicitDefEqProofs -dsimp [hta, Rg.cells])
      · rw [if_neg (by simp [c1, c2])] at hst
        have hz : tillI hi m = r := by rw [ht, hst, List.append_nil]
        simp -implicitDefEqProofs -dsimp [hlt, hp, hp', hw, c1, c2, hz]
  · have e : i = m.length := by omega
    subst e
    have hz : tillI hi m = m := by rw [ht]; simp [tillI]
    simp -implicitDefEqProofs -dsimp [hz]

theorem new_id : Fc Tryd.prog 27 [] [] (.ptr 3 0) [(3, .cells (hcl 3 []))] := by
  have h : absB st0 [] = (st0, []) := by rw [absB, if_neg (by simp)]
  have : hcl 3 [] = sv st0 ++ [.sl (.own (.cell 3 8)) true 1 [], .lit (.int .u64 0)] := by
    simp [hcO, formI, h]
  rw [this]; exact new_fn

/-- A range's sum. -/
def sumI (l : List ByteArray) (lo hi : ByteArray) : Rg := ⟨lo, hi, (winI l lo hi).length, digOf (formI (winI l lo hi))⟩

set_option maxRecDepth 100000 in
set_option maxHeartbeats 8000000 in
theorem sum_rg (nl : Bool) (l : List ByteArray) (lo hi : ByteArray) (hR : Rise l) (hl : l.length ≤ 900) (hs : ∀ p, p ∈ l → p.size ≤ 1000) :
    Fc Tryd.prog 14 [.sl .imm nl 1 (idc l), .lit (.string lo), .lit (.string hi)] [] (.agg (sumI l lo hi).cells) [] := by
  have hw := win_till hR lo hi
  refine Fc.of (anys _ [26, 27, 30, 39]) sch14 mixed Tryd.func14 rfl (by rfl) (by simp [Tryd.ntmps14]) (by decide) ?_
  simp -implicitDefEqProofs -dsimp [Tryd.ntmps14]
  refine CallK.works ?_
  simp -implicitDefEqProofs -dsimp
  refine CallQ.mk (new_id) (by simp) ?_
  simp -implicitDefEqProofs -dsimp
  refine CallK.works ?_
  simp -implicitDefEqProofs -dsimp
  refine CallQ.mk (within_mk nl l lo hi hR (by omega)) (by simp) ?_
  simp -implicitDefEqProofs -dsimp
  refine RfK.mk 99998 cd14 [(7, .ptr 7 0), (8, .ptr 8 0)] rfl rfl (by decide) (by simp -implicitDefEqProofs -dsimp) ?_
  simp -implicitDefEqProofs -dsimp
  refine CallK.works ?_
  simp -implicitDefEqProofs -dsimp
  refine CallQ.mk (yield14_fn nl l (fromI l lo) lo hi ByteArray.empty (fromI_le l lo) hl hs) (by simp [Rg.cells]) ?_
  simp -implicitDefEqProofs -dsimp [hw, Rg.cells]
  refine CallK.works ?_
  simp -implicitDefEqProofs -dsimp
  refine CallQ.same (sum_id (winI l lo hi)) rfl ?_
  simp -implicitDefEqProofs -dsimp
  simp -implicitDefEqProofs -dsimp [sumI, Rg.cells]
end Go.Proofs.YtbialojkkhkjeaaDoor

/-! Structs held against each other; ranges. -/
namespace Go.Sy
section
variable {P : Program} {t : TypeId}
theorem pureOf_program {α : Type} (f : Program → Sem α) : pureOf P (program >>= f) = pureOf P (f P) := by rw [pureOf_bind]; rfl
theorem equalIn_str (d : Nat) (h : P.underlying t = some .string) (a b : ByteArray) : pureOf P (Op.equalIn (d + 1) t (.string a) (.string b)) = some (decide (a = b)) := by
  unfold Op.equalIn
  rw [underlying_bind h]
  simp only [pureOf_pure]
  rw [beq_toListBytes, ba_eq]
theorem equalIn_int (d : Nat) {k : IntKind} (h : P.underlying t = some (.int k)) (a b : Int) : pureOf P (Op.equalIn (d + 1) t (.int k a) (.int k b)) = some (decide (a = b)) := by
  unfold Op.equalIn
  rw [underlying_bind h]
  simp only [if_true, pureOf_pure]
  rfl
theorem equalIn_struct (d : Nat) {fs : Array Field} (ht : P.underlying t = some (.struct fs)) (hp : P.stoodInHeld t = false) (xs ys : Array Value) :
    pureOf P (Op.equalIn (d + 1) t (.agg xs) (.agg ys)) = pureOf P (Op.eqFields d xs ys fs.toList) := by
  unfold Op.equalIn
  rw [underlying_bind ht]
  simp only [pureOf_program, hp, Bool.false_eq_true, if_false]
  rw [← Array.forIn_toList]
  generalize fs.toList = fs
  induction fs with
  | nil => simp [Op.eqFields, pureOf_pure, pureOf_bind]
  | cons f fs ih =>
    simp only [List.forIn_cons, Op.eqFields, pureOf_bind]
    split
    · simp only [pureOf_bind]
      cases pureOf P (part f.type xs f.offset) with
      | none => rfl
      | some a =>
        simp only [Option.bind_some]
        cases pureOf P (part f.type ys f.offset) with
        | none => rfl
        | some b =>
          simp only [Option.bind_some]
          cases pureOf P (Op.equalIn d f.type a b) with
          | none => rfl
          | some r =>
            cases r
            · simp [pureOf_pure]
            · simp only [Option.bind_some, Bool.not_true, Bool.false_eq_true, if_false, pureOf_pure]
              rw [pureOf_bind] at ih
              exact ih
    · simp only [pureOf_pure, Option.bind_some]
      rw [pureOf_bind] at ih
      exact ih
theorem part_at {cs : Array Value} {off : Nat} {v : Value} (ha : pureOf P (isAgg t) = some false) (h : cs[off]? = some v) : pureOf P (part t cs off) = some v := by
  unfold part
  rw [pureOf_bind, ha]
  simp [h, pureOf_pure]
theorem eqFields_cons {d : Nat} {xs ys : Array Value} {f : Field} {fs : List Field} (hn : f.name ≠ "_") {a b : Value} (ha : pureOf P (part f.type xs f.offset) = some a) (hb : pureOf P (part f.type ys f.offset) = some b) {r : Bool}
    (hr : pureOf P (Op.equalIn d f.type a b) = some r) : pureOf P (Op.eqFields d xs ys (f :: fs)) = if r = true then pureOf P (Op.eqFields d xs ys fs) else some false := by
  rw [Op.eqFields, if_pos hn, pureOf_bind, ha]
  simp only [Option.bind_some]
  rw [pureOf_bind, hb]
  simp only [Option.bind_some]
  rw [pureOf_bind, hr]
  cases r <;> simp [pureOf_pure]
theorem eqFields_nil {d : Nat} {xs ys : Array Value} : pureOf P (Op.eqFields d xs ys []) = some true := rfl
end
end Go.Sy
namespace Go.Proofs.YtbialojkkhkjeaaDoor
open Go.Sy
theorem isAgg23 : pureOf Tryd.prog (isAgg 23) = some false := by kernel_rfl
theorem isAgg3 : pureOf Tryd.prog (isAgg 3) = some false := by kernel_rfl
theorem guard30 : Tryd.prog.eqGuardType Tryd.prog.depth 30 = false := by kernel_rfl
theorem stood30 : Tryd.prog.stoodInHeld 30 = false := by kernel_rfl
theorem rg_ext {r s : Rg} : r = s ↔ r.lo = s.lo ∧ r.hi = s.hi ∧ r.many = s.many ∧ r.mark = s.mark := by
  cases r; cases s; simp
theorem equal_rg (r s : Rg) : pureOf Tryd.prog (Op.equal 30 (.agg #[.string r.lo, .string r.hi, .int .i64 r.many, .string r.mark]) (.agg #[.string s.lo, .string s.hi, .int .i64 s.many, .string s.mark])) = some (decide (r = s)) := by
  unfold Op.equal
  rw [show Op.maxDepth = 9999 + 1 from rfl, equalIn_struct 9999 Tryd.underlying30 stood30]
  rw [show (9999 : Nat) = 9998 + 1 from rfl]
  rw [eqFields_cons (by decide) (part_at isAgg23 (v := .string r.lo) rfl) (part_at isAgg23 (v := .string s.lo) rfl) (equalIn_str _ Tryd.underlying23 _ _),
    eqFields_cons (by decide) (part_at isAgg23 (v := .string r.hi) rfl) (part_at isAgg23 (v := .string s.hi) rfl) (equalIn_str _ Tryd.underlying23 _ _),
    eqFields_cons (by decide) (part_at isAgg3 (v := .int .i64 r.many) rfl) (part_at isAgg3 (v := .int .i64 s.many) rfl) (equalIn_int _ Tryd.underlying3 _ _),
    eqFields_cons (by decide) (part_at isAgg23 (v := .string r.mark) rfl) (part_at isAgg23 (v := .string s.mark) rfl) (equalIn_str _ Tryd.underlying23 _ _), eqFields_nil]
  simp only [decide_eq_true_eq]
  have e := rg_ext (r := r) (s := s)
  have e3 : ((r.many : Int) = s.many) = (r.many = s.many) := by rw [eq_iff_iff]; omega
  simp only [e3]
  by_cases h1 : r.lo = s.lo <;> by_cases h2 : r.hi = s.hi <;> by_cases h3 : r.many = s.many <;> by_cases h4 : r.mark = s.mark <;> simp [e, h1, h2, h3, h4]
theorem guard_rg {op : BinOp} {x y : Operand} (a b : Array Value) : pureOf Tryd.prog (eqGuard op 30 x y (.agg a) (.agg b)) = some () := by
  unfold eqGuard
  cases op <;> first | rfl | skip
  all_goals
    simp only [Bool.not_true, Bool.false_eq_true, if_false]
    simp [pureOf_bind, guard30, pureOf_pure, show pureOf Tryd.prog program = some Tryd.prog from rfl]
@[simp] theorem bin_eql_rg {x y : Operand} (r s : Rg) : binPV Tryd.prog .eql 30 x y (.agg r.cells) (.agg s.cells) = some (.lit (.bool (decide (r = s)))) := by
  have : binPV Tryd.prog .eql 30 x y (.agg r.cells) (.agg s.cells) = (pureOf Tryd.prog (do eqGuard .eql 30 x y (.agg #[.string r.lo, .string r.hi, .int .i64 r.many, .string r.mark]) (.agg #[.string s.lo, .string s.hi, .int .i64 s.many, .string s.mark]); binOp .eql 30 (.agg #[.string r.lo, .string r.hi, .int .i64 r.many, .string r.mark]) (.agg #[.string s.lo, .string s.hi, .int .i64 s.many, .string s.mark]))).map .lit := rfl
  rw [this, pureOf_bind, guard_rg]
  simp only [Option.bind_some]
  rw [show binOp .eql 30 (.agg #[.string r.lo, .string r.hi, .int .i64 r.many, .string r.mark]) (.agg #[.string s.lo, .string s.hi, .int .i64 s.many, .string s.mark]) = (do pure (.bool (← Op.equal 30 (.agg #[.string r.lo, .string r.hi, .int .i64 r.many, .string r.mark]) (.agg #[.string s.lo, .string s.hi, .int .i64 s.many, .string s.mark])))) from rfl, pureOf_bind, equal_rg]
  rfl
@[simp] theorem bin_neq_rg {x y : Operand} (r s : Rg) : binPV Tryd.prog .neq 30 x y (.agg r.cells) (.agg s.cells) = some (.lit (.bool (!decide (r = s)))) := by
  have : binPV Tryd.prog .neq 30 x y (.agg r.cells) (.agg s.cells) = (pureOf Tryd.prog (do eqGuard .neq 30 x y (.agg #[.string r.lo, .string r.hi, .int .i64 r.many, .string r.mark]) (.agg #[.string s.lo, .string s.hi, .int .i64 s.many, .string s.mark]); binOp .neq 30 (.agg #[.string r.lo, .string r.hi, .int .i64 r.many, .string r.mark]) (.agg #[.string s.lo, .string s.hi, .int .i64 s.many, .string s.mark]))).map .lit := rfl
  rw [this, pureOf_bind, guard_rg]
  simp only [Option.bind_some]
  rw [show binOp .neq 30 (.agg #[.string r.lo, .string r.hi, .int .i64 r.many, .string r.mark]) (.agg #[.string s.lo, .string s.hi, .int .i64 s.many, .string s.mark]) = (do pure (.bool (!(← Op.equal 30 (.agg #[.string r.lo, .string r.hi, .int .i64 r.many, .string r.mark]) (.agg #[.string s.lo, .string s.hi, .int .i64 s.many, .string s.mark]))))) from rfl, pureOf_bind, equal_rg]
  rfl
end Go.Proofs.YtbialojkkhkjeaaDoor

/-! Ranges: rows of them; halves. -/
namespace Go.Sy
/-- Ranges, as a row's elements. -/
def rgs (l : List Rg) : List PV := l.map fun r => .agg r.cells
@[simp] theorem rgs_length (l : List Rg) : (rgs l).length = l.length := by simp [rgs]
@[simp] theorem rgs_nil : rgs [] = [] := rfl
@[simp] theorem rgs_append (l m : List Rg) : rgs l ++ rgs m = rgs (l ++ m) := by simp [rgs]
@[simp] theorem rgs_getElem (l : List Rg) (n : Nat) (h : n < (rgs l).length) : (rgs l)[n] = .agg (l[n]'(by simpa using h)).cells := by simp [rgs]
@[simp high] theorem rgs_get (l : List Rg) (n : Nat) : (rgs l)[n]? = (l[n]?).map fun p => .agg p.cells := by simp [rgs]
@[simp] theorem rgs_nil_iff {l : List Rg} : rgs l = [] ↔ l = [] := by cases l <;> simp [rgs]
@[simp] theorem rgs_empty (l : List Rg) : (rgs l).isEmpty = l.isEmpty := by cases l <;> simp [rgs]
@[simp] theorem cells_length (r : Rg) : r.cells.length = 4 := rfl
@[simp] theorem plain_rg (r : Rg) : Plain (.agg r.cells) := .agg _ fun x hx => by
  simp only [Rg.cells, List.mem_cons, List.not_mem_nil, or_false] at hx
  rcases hx with rfl | rfl | rfl | rfl <;> exact ⟨_, rfl⟩
theorem rgs_data {l : List Rg} (x : PV) (h : x ∈ rgs l) : Data x := by
  simp only [rgs, List.mem_map] at h
  obtain ⟨n, _, rfl⟩ := h
  rw [data_agg']
  intro x hx
  simp only [Rg.cells, List.mem_cons, List.not_mem_nil, or_false] at hx
  rcases hx with rfl | rfl | rfl | rfl <;> simp [Value.oneCell', PV.isAgg]
@[simp] theorem rgs_allData {l : List Rg} : (∀ x, x ∈ rgs l → Data x) = True := eq_true fun _ => rgs_data _
@[simp] theorem cells_take (r : Rg) : r.cells.take 4 = r.cells := rfl
@[simp] theorem cells_get0 (r : Rg) : r.cells[0]? = some (.lit (.string r.lo)) := rfl
@[simp] theorem cells_get1 (r : Rg) : r.cells[1]? = some (.lit (.string r.hi)) := rfl
@[simp] theorem cells_get2 (r : Rg) : r.cells[2]? = some (.lit (.int .i64 r.many)) := rfl
@[simp] theorem cells_get3 (r : Rg) : r.cells[3]? = some (.lit (.string r.mark)) := rfl
@[simp] theorem cells_at0 (r : Rg) (h : 0 < r.cells.length) : r.cells[0]'h = .lit (.string r.lo) := rfl
@[simp] theorem cells_at1 (r : Rg) (h : 1 < r.cells.length) : r.cells[1]'h = .lit (.string r.hi) := rfl
@[simp] theorem cells_at2 (r : Rg) (h : 2 < r.cells.length) : r.cells[2]'h = .lit (.int .i64 r.many) := rfl
@[simp] theorem cells_at3 (r : Rg) (h : 3 < r.cells.length) : r.cells[3]'h = .lit (.string r.mark) := rfl
@[simp ↓] theorem cells_scrub (F : Own → Option Own) (p : Nat → Option Nat) (r : Rg) : PV.scrubL F p r.cells = r.cells := by simp [Rg.cells, PV.scrubL, PV.scrub]
@[simp ↓ high] theorem cells_all (r : Rg) : (∀ x, x ∈ r.cells → Data x ∧ x.isAgg = false) = True := eq_true fun x hx => by
  simp only [Rg.cells, List.mem_cons, List.not_mem_nil, or_false] at hx
  rcases hx with rfl | rfl | rfl | rfl <;> simp [Value.oneCell', PV.isAgg]
@[simp ↓ high] theorem cells_toksL (r : Rg) : PV.toks.toksL r.cells = [] := rfl
@[simp ↓] theorem cells_view (r : Rg) : PV.viewL r.cells = r.cells := by simp [Rg.cells]
@[simp ↓] theorem cells_ids (r : Rg) : idsOfL r.cells = [] := by simp [Rg.cells]
@[simp ↓] theorem cells_toks (r : Rg) : toksOfL r.cells = [] := by simp [Rg.cells]
theorem inB_enc (n : Nat) : InB (enc n) := by
  induction n using Nat.strongRecOn with
  | _ n ih =>
    by_cases h : n < 128
    · rw [enc_lt h]; simp; omega
    · rw [enc_ge (by omega), inB_cons]
      exact ⟨by omega, ih _ (by omega)⟩
end Go.Sy
namespace Go.Proofs.YtbialojkkhkjeaaDoor
open Go.Sy
theorem win_sizes {l : List ByteArray} {n : Nat} (h : ∀ p, p ∈ l → p.size ≤ n) (lo hi : ByteArray) : ∀ p, p ∈ winI l lo hi → p.size ≤ n := fun p hp => h p (List.mem_filter.1 hp).1
theorem win_length (l : List ByteArray) (lo hi : ByteArray) : (winI l lo hi).length ≤ l.length := List.length_filter_le _ _
theorem formI_in (l : List ByteArray) : InB (formI l) := by
  intro x hx
  simp only [formI, List.mem_flatMap] at hx
  obtain ⟨p, _, hx⟩ := hx
  rcases List.mem_append.1 hx with h | h
  · exact inB_enc _ x h
  · exact inB_bs p x h

set_option maxRecDepth 100000 in
set_option maxHeartbeats 4000000 in
theorem rsame_fn (n1 n2 : Bool) (xs ys : List Rg) (hl : xs.length < 9223372036854775807) : Fc Tryd.prog 16 [.sl .imm n1 4 (rgs xs), .sl .imm n2 4 (rgs ys)] [] (.lit (.bool (decide (xs = ys)))) [] := by
  refine Fc.of (anys _ []) sch16 mixed Tryd.func16 rfl (by rfl) (by simp [Tryd.ntmps16]) (by decide) ?_
  simp -implicitDefEqProofs -dsimp [Tryd.ntmps16]
  refine Cnd.mk (fun h => ?_) (fun h => ?_)
  · have h : ¬ xs = ys := by rintro rfl; simp at h
    simp -implicitDefEqProofs -dsimp [h]
  · have h : xs.length = ys.length := by simp at h; omega
    simp -implicitDefEqProofs -dsimp
    refine LpK.mk (anys _ []) mixed (fun i : Nat => i ≤ xs.length ∧ xs.take i = ys.take i) (fun i => ⟨[(0, .sl .imm n1 4 (rgs xs)), (1, .sl .imm n2 4 (rgs ys)), (5, .lit (.int .i64 i))], [], 26⟩) (fun i => xs.length - i) 0 (by simp) (by simp -implicitDefEqProofs -dsimp) ?_
    rintro i ⟨hi, ht⟩
    by_cases hlt : i < xs.length
    · have hlt2 : i < ys.length := by omega
      by_cases he : xs[i] = ys[i]
      · have hw : IntKind.i64.wrap ((i : Int) + 1) = ((i + 1 : Nat) : Int) := wrap64 (by omega) (by omega)
        simp -implicitDefEqProofs -dsimp [hlt, hlt2, he, hw]
        exact .mk (i + 1) ⟨by omega, by rw [List.take_succ_eq_append_getElem hlt, List.take_succ_eq_append_getElem hlt2, ht, he]⟩ (by omega) (by simp -implicitDefEqProofs -dsimp)
      · have hn : ¬ xs = ys := by rintro rfl; exact he rfl
        simp -implicitDefEqProofs -dsimp [hlt, hlt2, he, hn]
    · have hn : xs = ys := by rwa [List.take_of_length_le (by omega), List.take_of_length_le (by omega)] at ht
      subst hn
      simp -implicitDefEqProofs -dsimp [hlt]

/-- The middle id of a range. -/
def midI (l : List ByteArray) (lo hi : ByteArray) : ByteArray := (winI l lo hi).getD ((winI l lo hi).length / 2) ⟨#[]⟩
/-- A range's halves. -/
def halfI (l : List ByteArray) (lo hi : ByteArray) : List Rg := if (winI l lo hi).length < 2 then [sumI l lo hi] else [sumI l lo (midI l lo hi), sumI l (midI l lo hi) hi]

set_option maxRecDepth 100000 in
set_option maxHeartbeats 8000000 in
theorem halves_fn (nl : Bool) (l : List ByteArray) (lo hi : ByteArray) (hR : Rise l) (hl : l.length ≤ 90) (hs : ∀ p, p ∈ l → p.size ≤ 1000) :
    Fc Tryd.prog 17 [.sl .imm nl 1 (idc l), .lit (.string lo), .lit (.string hi)] [] (.sl .imm false 4 (rgs (halfI l lo hi))) [] := by
  have h1 := win_length l lo hi
  obtain ⟨w, hw⟩ : ∃ w, w = winI l lo hi := ⟨_, rfl⟩
  have hW := within_fn nl l lo hi hR (by omega)
  rw [← hw] at h1 hW
  by_cases hlt : w.length < 2
  · have hh : halfI l lo hi = [sumI l lo hi] := by rw [halfI, ← hw, if_pos hlt]
    suffices h : Fc Tryd.prog 17 [.sl .imm nl 1 (idc l), .lit (.string lo), .lit (.string hi)] [] (.sl (.own (.loc 20)) false 4 (rgs (halfI l lo hi))) [] by
      have := h.fz [.loc 20]
      simpa using this
    refine Fc.of (anys _ [12, 14]) [] mixed Tryd.func17 rfl (by rfl) (by simp [Tryd.ntmps17]) (by decide) ?_
    simp -implicitDefEqProofs -dsimp [Tryd.ntmps17]
    refine CallK.works ?_
    simp -implicitDefEqProofs -dsimp
    refine CallQ.mk (hW) (by simp) ?_
    simp -implicitDefEqProofs -dsimp
    have c : (w.length : Int) < 2 := by omega
    simp -implicitDefEqProofs -dsimp [c]
    refine CallK.reads ?_
    simp -implicitDefEqProofs -dsimp
    refine CallQ.same (sum_rg nl l lo hi hR (by omega) hs) rfl ?_
    simp -implicitDefEqProofs -dsimp
    simp [hh, rgs]
  · obtain ⟨m, hm⟩ : ∃ m, w[w.length / 2]? = some m := ⟨_, List.getElem?_eq_getElem (by omega)⟩
    have hm' : ∀ h, w[w.length / 2]'h = m := fun h => by rw [List.getElem?_eq_getElem h] at hm; exact Option.some.inj hm
    have hmid : midI l lo hi = m := by rw [midI, ← hw, List.getD_eq_getElem?_getD, hm]; rfl
    have hh : halfI l lo hi = [sumI l lo m, sumI l m hi] := by rw [halfI, ← hw, if_neg hlt, hmid]
    suffices h : Fc Tryd.prog 17 [.sl .imm nl 1 (idc l), .lit (.string lo), .lit (.string hi)] [] (.sl (.own (.loc 35)) false 4 (rgs (halfI l lo hi))) [] by
      have := h.fz [.loc 35]
      simpa using this
    refine Fc.of (anys _ [12, 14]) [] mixed Tryd.func17 rfl (by rfl) (by simp [Tryd.ntmps17]) (by decide) ?_
    simp -implicitDefEqProofs -dsimp [Tryd.ntmps17]
    refine CallK.works ?_
    simp -implicitDefEqProofs -dsimp
    refine CallQ.mk (hW) (by simp) ?_
    simp -implicitDefEqProofs -dsimp
    have c : ¬ (w.length : Int) < 2 := by omega
    have q : iquo .i64 (w.length : Int) 2 = ((w.length / 2 : Nat) : Int) := by
      unfold iquo
      rw [Int.tdiv_eq_ediv_of_nonneg (by omega), wrap64 (by omega) (by omega)]; omega
    have q2 : w.length / 2 < w.length := by omega
    have q3 : ((w.length : Int) / 2).toNat = w.length / 2 := by omega
    have q4 : (0 : Int) ≤ (w.length : Int) / 2 := by omega
    simp -implicitDefEqProofs -dsimp [c, q, q2, q3, q4, hm, hm']
    refine CallK.reads ?_
    simp -implicitDefEqProofs -dsimp
    refine CallQ.same (sum_rg nl l lo m hR (by omega) hs) rfl ?_
    simp -implicitDefEqProofs -dsimp
    refine CallK.reads ?_
    simp -implicitDefEqProofs -dsimp
    refine CallQ.same (sum_rg nl l m hi hR (by omega) hs) rfl ?_
    simp -implicitDefEqProofs -dsimp
    simp [hh, rgs]
end Go.Proofs.YtbialojkkhkjeaaDoor

/-! Sieve: the chapter's example. -/
namespace Go.Proofs.YtbialojkkhkjeaaDoor
open Go.Sy
abbrev ia : ByteArray := ⟨#[97]⟩
abbrev ib : ByteArray := ⟨#[98]⟩
abbrev ic : ByteArray := ⟨#[99]⟩
abbrev i0 : ByteArray := ⟨#[]⟩
theorem lts (p q : ByteArray) : ltS p q = Op.bytesLess p.data.toList q.data.toList := by rw [ltS, ByteArray.toList_eq, ByteArray.toList_eq]
theorem rise_abc : Rise [ia, ib, ic] := by
  simp [Rise, lts, Op.bytesLess]
theorem win_abc : winI [ia, ib, ic] i0 i0 = [ia, ib, ic] := by
  simp [winI, inI, lts, Op.bytesLess, List.filter]
theorem win_a : winI [ia, ib, ic] i0 ib = [ia] := by
  simp [winI, inI, lts, Op.bytesLess, List.filter]
theorem win_bc : winI [ia, ib, ic] ib i0 = [ib, ic] := by
  simp [winI, inI, lts, Op.bytesLess, List.filter]
theorem miss_b : missI [ia, ib, ic] [ib] = [ia, ic] := by
  simp [missI, hasI, List.filter]
theorem half_abc : halfI [ia, ib, ic] i0 i0 = [sumI [ia, ib, ic] i0 ib, sumI [ia, ib, ic] ib i0] := by
  have : midI [ia, ib, ic] i0 i0 = ib := by rw [midI, win_abc]; rfl
  rw [halfI, win_abc, if_neg (by decide), this]

set_option maxRecDepth 100000 in
set_option maxHeartbeats 8000000 in
theorem awake_fn : Fc Tryd.prog 8 [] [] (.lit (.bool true)) [] := by
  refine Fc.of (anys _ [11, 12, 14, 17, 19]) sch8 mixed Tryd.func8 rfl (by rfl) (by simp [Tryd.ntmps8]) (by decide) ?_
  have h1 := halves_fn false [ia, ib, ic] i0 i0 rise_abc (by decide) (fun p hp => by simp at hp; rcases hp with rfl | rfl | rfl <;> decide)
  have h2 := sum_rg false [ia, ib, ic] i0 ib rise_abc (by decide) (fun p hp => by simp at hp; rcases hp with rfl | rfl | rfl <;> decide)
  have m1 : (sumI [ia, ib, ic] i0 ib).many = 1 := by rw [sumI, win_a]; rfl
  have m2 : (sumI [ia, ib, ic] ib i0).many = 2 := by rw [sumI, win_bc]; rfl
  have m3 : (sumI [ia, ib, ic] ib i0).lo = ib := rfl
  have h3 := within_fn false [ia, ib, ic] ib i0 rise_abc (by decide)
  have h4 := missing_fn false false [ia, ib, ic] [ib] (by simp [Rise]) (by decide) (by decide)
  rw [half_abc] at h1
  rw [win_bc] at h3
  rw [miss_b] at h4
  obtain ⟨r1, e1⟩ : ∃ r, r = sumI [ia, ib, ic] i0 ib := ⟨_, rfl⟩
  obtain ⟨r2, e2⟩ : ∃ r, r = sumI [ia, ib, ic] ib i0 := ⟨_, rfl⟩
  rw [← e1] at h1 h2 m1
  rw [← e2] at h1 m2 m3
  simp -implicitDefEqProofs -dsimp [Tryd.ntmps8]
  refine CallK.works ?_
  simp -implicitDefEqProofs -dsimp
  refine CallQ.mk (h1) (by simp) ?_
  simp -implicitDefEqProofs -dsimp
  refine CallK.reads ?_
  simp -implicitDefEqProofs -dsimp
  refine CallQ.same (h2) rfl ?_
  simp -implicitDefEqProofs -dsimp [m1, m2, m3]
  refine AltK.mk ?_ ?_
  · simp -implicitDefEqProofs -dsimp
    refine CallK.works ?_
    simp -implicitDefEqProofs -dsimp
    refine CallQ.mk (h3) (by simp) ?_
    simp -implicitDefEqProofs -dsimp [m1, m2, m3]
    refine CallK.reads ?_
    simp -implicitDefEqProofs -dsimp
    refine CallQ.same (ids_fn _ _ [ib, ic] [ib, ic] (by decide)) rfl ?_
    simp -implicitDefEqProofs -dsimp [m1, m2, m3]
    refine AltK.mk ?_ ?_
    · simp -implicitDefEqProofs -dsimp
      refine AltK.mk ?_ ?_
      · simp -implicitDefEqProofs -dsimp
        refine CallK.fresh ?_
        simp -implicitDefEqProofs -dsimp
        refine CallQ.same (h4) rfl ?_
        simp -implicitDefEqProofs -dsimp [fr_u8s, m1, m2, m3]
        refine CallK.reads ?_
        simp -implicitDefEqProofs -dsimp
        refine CallQ.same (ids_fn _ _ [ia, ic] [ia, ic] (by decide)) rfl ?_
        simp -implicitDefEqProofs -dsimp [m1, m2, m3]
      · simp -implicitDefEqProofs -dsimp
        refine CallK.fresh ?_
        simp -implicitDefEqProofs -dsimp
        refine CallQ.same (h4) rfl ?_
        simp -implicitDefEqProofs -dsimp [fr_u8s, m1, m2, m3]
        refine CallK.reads ?_
        simp -implicitDefEqProofs -dsimp
        refine CallQ.same (ids_fn _ _ [ia, ic] [ia, ic] (by decide)) rfl ?_
        simp -implicitDefEqProofs -dsimp [m1, m2, m3]
    · simp -implicitDefEqProofs -dsimp
      refine CallK.fresh ?_
      simp -implicitDefEqProofs -dsimp
      refine CallQ.same (h4) rfl ?_
      simp -implicitDefEqProofs -dsimp [fr_u8s, m1, m2, m3]
      refine CallK.reads ?_
      simp -implicitDefEqProofs -dsimp
      refine CallQ.same (ids_fn _ _ [ia, ic] [ia, ic] (by decide)) rfl ?_
      simp -implicitDefEqProofs -dsimp [m1, m2, m3]
  · simp -implicitDefEqProofs -dsimp
    refine CallK.works ?_
    simp -implicitDefEqProofs -dsimp
    refine CallQ.mk (h3) (by simp) ?_
    simp -implicitDefEqProofs -dsimp [m1, m2, m3]
    refine CallK.reads ?_
    simp -implicitDefEqProofs -dsimp
    refine CallQ.same (ids_fn _ _ [ib, ic] [ib, ic] (by decide)) rfl ?_
    simp -implicitDefEqProofs -dsimp [m1, m2, m3]
    refine AltK.mk ?_ ?_
    · simp -implicitDefEqProofs -dsimp
      refine AltK.mk ?_ ?_
      · simp -implicitDefEqProofs -dsimp
        refine CallK.fresh ?_
        simp -implicitDefEqProofs -dsimp
        refine CallQ.same (h4) rfl ?_
        simp -implicitDefEqProofs -dsimp [fr_u8s, m1, m2, m3]
        refine CallK.reads ?_
        simp -implicitDefEqProofs -dsimp
        refine CallQ.same (ids_fn _ _ [ia, ic] [ia, ic] (by decide)) rfl ?_
        simp -implicitDefEqProofs -dsimp [m1, m2, m3]
      · simp -implicitDefEqProofs -dsimp
        refine CallK.fresh ?_
        simp -implicitDefEqProofs -dsimp
        refine CallQ.same (h4) rfl ?_
        simp -implicitDefEqProofs -dsimp [fr_u8s, m1, m2, m3]
        refine CallK.reads ?_
        simp -implicitDefEqProofs -dsimp
        refine CallQ.same (ids_fn _ _ [ia, ic] [ia, ic] (by decide)) rfl ?_
        simp -implicitDefEqProofs -dsimp [m1, m2, m3]
    · simp -implicitDefEqProofs -dsimp
      refine CallK.fresh ?_
      simp -implicitDefEqProofs -dsimp
      refine CallQ.same (h4) rfl ?_
      simp -implicitDefEqProofs -dsimp [fr_u8s, m1, m2, m3]
      refine CallK.reads ?_
      simp -implicitDefEqProofs -dsimp
      refine CallQ.same (ids_fn _ _ [ia, ic] [ia, ic] (by decide)) rfl ?_
      simp -implicitDefEqProofs -dsimp [m1, m2, m3]
end Go.Proofs.YtbialojkkhkjeaaDoor
