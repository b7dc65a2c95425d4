/- Stores: what the laws ask, of texts, of disks, of both stores. (and what stands on it) -/
import Derived.Test.YtekokchejkjjjaaDoorNd
import Derived.Test.YtekokchejkjjjaaDoorN7
import Derived.Test.YtekokchejkjjjaaDoorNa
import Derived.Test.YtekokchejkjjjaaDoorN4
import Derived.Test.YtekokchejkjjjaaDoorRows
import Derived.OpenShut
import Derived.Lay
import Derived.MakeChecks
set_option linter.unusedSimpArgs false
set_option linter.unusedVariables false

/-! Stores: what the laws ask, of texts, of disks, of both stores. -/
namespace Go.Proofs.YtekokchejkjjjaaDoor
open Go.Sy
theorem take_sameB {xs ys : List ByteArray} {i : Nat} (h1 : i < xs.length) (h2 : i < ys.length) (ht : xs.take i = ys.take i) (he : xs[i] = ys[i]) : xs.take (i + 1) = ys.take (i + 1) := by
  rw [List.take_succ_eq_append_getElem h1, List.take_succ_eq_append_getElem h2, ht, he]
set_option maxRecDepth 100000 in
set_option maxHeartbeats 4000000 in
theorem isame_fn (n1 n2 : Bool) (xs ys : List ByteArray) (hl : xs.length < 9223372036854775807) : Fc Tryd.prog 31 [.sl .imm n1 1 (idc xs), .sl .imm n2 1 (idc ys)] [] (.lit (.bool (decide (xs = ys)))) [] := by
  refine Fc.of (anys _ []) sch31 mixed Tryd.func31 rfl (by rfl) (by simp [Tryd.ntmps31]) (by decide) ?_
  simp -implicitDefEqProofs -dsimp [Tryd.ntmps31]
  refine Cnd.mk (fun h => ?_) (fun h => ?_)
  · have h : ¬ xs = ys := by rintro rfl; simp at h
    simp -implicitDefEqProofs -dsimp [h]
  · have h : xs.length = ys.length := by simp at h; omega
    simp -implicitDefEqProofs -dsimp
    refine LpK.mk (anys _ []) mixed (fun i : Nat => i ≤ xs.length ∧ xs.take i = ys.take i) (fun i => ⟨[(0, .sl .imm n1 1 (idc xs)), (1, .sl .imm n2 1 (idc ys)), (5, .lit (.int .i64 i))], [], 26⟩) (fun i => xs.length - i) 0 (by simp) (by simp -implicitDefEqProofs -dsimp) ?_
    rintro i ⟨hi, ht⟩
    by_cases hlt : i < xs.length
    · have hlt2 : i < ys.length := by omega
      by_cases he : xs[i] = ys[i]
      · have hw : IntKind.i64.wrap ((i : Int) + 1) = ((i + 1 : Nat) : Int) := wrap64 (by omega) (by omega)
        simp -implicitDefEqProofs -dsimp [hlt, hlt2, he, hw]
        exact .mk (i + 1) ⟨by omega, take_sameB hlt hlt2 ht he⟩ (by omega) (by simp -implicitDefEqProofs -dsimp)
      · have hn : ¬ xs = ys := by rintro rfl; exact he rfl
        simp -implicitDefEqProofs -dsimp [hlt, hlt2, he, hn]
    · have hn : xs = ys := by rwa [List.take_of_length_le (by omega), List.take_of_length_le (by omega)] at ht
      subst hn
      simp -implicitDefEqProofs -dsimp [hlt]

/-- Are texts of a size that is looked at? -/
def fewS (l : List ByteArray) : Bool := l.all (fun s => decide (s.size ≤ 60)) && decide (l.length ≤ 16)
set_option maxRecDepth 100000 in
set_option maxHeartbeats 4000000 in
theorem few_fn (nl : Bool) (l : List ByteArray) (hl : l.length ≤ 9223372036854775807) : Fc Tryd.prog 16 [.sl .imm nl 1 (idc l)] [] (.lit (.bool (fewS l))) [] := by
  refine Fc.of (anys _ []) [] mixed Tryd.func16 rfl (by rfl) (by simp [Tryd.ntmps16]) (by decide) ?_
  simp -implicitDefEqProofs -dsimp [Tryd.ntmps16]
  refine LpK.mk (anys _ []) mixed (fun i : Nat => i ≤ l.length ∧ ∀ j (hj : j < l.length), j < i → (l[j]'hj).size ≤ 60) (fun i => ⟨[(0, .sl .imm nl 1 (idc l)), (3, .lit (.int .i64 i))], [], 19⟩) (fun i => l.length - i) 0 ⟨by omega, fun j _ h => by omega⟩ (by simp -implicitDefEqProofs -dsimp) ?_
  rintro i ⟨hi, hall⟩
  by_cases hlt : i < l.length
  · obtain ⟨p, hp⟩ : ∃ p, l[i] = p := ⟨_, rfl⟩
    have hp' : l[i]? = some p := by rw [List.getElem?_eq_getElem hlt, hp]
    have hw : IntKind.i64.wrap ((i : Int) + 1) = (i : Int) + 1 := wrap64 (by omega) (by omega)
    by_cases c : 60 < (p.size : Int)
    · have hf : fewS l = false := by
        have : l.all (fun s => decide (s.size ≤ 60)) = false := by
          rw [List.all_eq_false]; exact ⟨p, hp ▸ List.getElem_mem hlt, by simp; omega⟩
        rw [fewS, this]; rfl
      simp -implicitDefEqProofs -dsimp [hlt, hp, hp', c, hf]
    · simp -implicitDefEqProofs -dsimp [hlt, hp, hp', c, hw]
      refine .mk (i + 1) ⟨hlt, fun j hj hji => ?_⟩ (by omega) (by simp -implicitDefEqProofs -dsimp)
      rcases Nat.lt_or_ge j i with h | h
      · exact hall j hj h
      · have : j = i := by omega
        subst this; rw [hp]; omega
  · have ein : i = l.length := by omega
    have hA : l.all (fun s => decide (s.size ≤ 60)) = true := by
      rw [List.all_eq_true]; intro s hs
      obtain ⟨j, hj, rfl⟩ := List.getElem_of_mem hs
      exact decide_eq_true (hall j hj (by omega))
    subst ein
    have e : decide ((l.length : Int) ≤ 16) = decide (l.length ≤ 16) := by congr 1; rw [eq_iff_iff]; omega
    simp -implicitDefEqProofs -dsimp [hlt, fewS, hA, e]
theorem fewS_iff {l : List ByteArray} (h : fewS l = true) : l.length ≤ 16 ∧ ∀ s, s ∈ l → s.size ≤ 60 := by
  simp only [fewS, Bool.and_eq_true, decide_eq_true_eq, List.all_eq_true] at h
  exact ⟨h.2, h.1⟩
/-- A disk without bytes. -/
def D0 (n : Int) : DS := ⟨true, [], n, -1, false⟩
def R0 (n : Int) : RS := ⟨true, [], n, false, 0, false⟩
theorem D0_ok {n : Int} (h : 0 ≤ n) (h2 : n ≤ 16777216) : (D0 n).Ok := by constructor <;> simp [D0] <;> omega

set_option maxRecDepth 100000 in
set_option maxHeartbeats 4000000 in
theorem empty_fn (n : Int) (h : 0 ≤ n) (h2 : n ≤ 16777216) : Fc Tryd.prog 17 [.lit (.int .i64 n)] [] (.tup [.ptr 1080 0, .ptr 16 0])
    [(1080, .cells ((D0 n).cells (.own (.cell 1080 0)))), (16, .cells ((R0 n).cells (.own (.cell 16 0))))] := by
  have hN := dnew_fn n h h2
  refine Fc.of (anys _ [50]) [] mixed Tryd.func17 rfl (by rfl) (by simp [Tryd.ntmps17]) (by decide) ?_
  simp -implicitDefEqProofs -dsimp [Tryd.ntmps17]
  refine CallK.works ?_
  simp -implicitDefEqProofs -dsimp
  refine CallQ.mk (hN) (by simp) ?_
  simp -implicitDefEqProofs -dsimp [D0, R0, RS.cells, DS.cells]
theorem fnd_at {L : List Objt} (hK : Kept digOf L) {i : Nat} {o : Objt} (ho : L[i]? = some o) : fndO L o.1 = some i := by
  obtain ⟨hi, rfl⟩ := List.getElem?_eq_some_iff.1 ho
  rw [fndO, List.findIdx?_eq_some_iff_getElem]
  refine ⟨hi, by simp, fun j hj => ?_⟩
  have hn := hK.apart
  simp only [decide_eq_true_eq]
  intro e
  have hj' : j < L.length := by omega
  have := (List.getElem_inj (h₀ := by simpa using hj') (h₁ := by simpa using hi) hn).1 (by simpa using e)
  omega
theorem has_at {L : List Objt} {i : Nat} {o : Objt} (ho : L[i]? = some o) : hasO L o.1 = true := by
  rw [hasO_iff]
  exact List.mem_map_of_mem (List.mem_of_getElem? ho)
theorem has_not {L : List Objt} (hK : Kept digOf L) {i : ByteArray} (h : i.size ≠ 32) : hasO L i = false := by
  cases e : hasO L i with
  | false => rfl
  | true =>
    obtain ⟨o, ho, rfl⟩ := List.mem_map.1 (hasO_iff.1 e)
    rw [hK.id o ho, digOf_size] at h
    exact absurd rfl h
theorem ids_nil {L : List Objt} : L.isEmpty = true → ids L = [] := fun h => by simp [ids, List.isEmpty_iff.1 h]

def saHown (d : DS) (r : RS) (L : List Objt) : List (Nat × Ob) := [(100000, .cells [.ptr 100002 0, .sl (.own (.cell 100000 1)) L.isEmpty 1 (idc (ids L)), .mp 100003]),
  (100001, .cells [.ptr 100004 0, .sl (.own (.cell 100001 1)) L.isEmpty 1 (idc (ids L)), .sl (.own (.cell 100001 2)) L.isEmpty 1 (idc (alls L))]), (100002, .cells (d.cells (.own (.cell 100002 0)))), (100003, .map (objE L)), (100004, .cells (r.cells (.own (.cell 100004 0))))]
attribute [simp] saHown
set_option maxRecDepth 100000 in
set_option maxHeartbeats 16000000 in
theorem ssame_fn (d : DS) (r : RS) (L : List Objt) (hK : Kept digOf L) (hL : L.length ≤ 1000000) : Fc Tryd.prog 28 [.ptr 100000 0, .ptr 100001 0] (saHown d r L) (.lit (.bool true)) (saHown d r L) := by
  have hlen : ∀ o, o ∈ L → o.2.length ≤ 1000000 := fun o ho => by have := hK.len o ho; omega
  have hq : hasO L (ByteArray.mk #[63]) = false := has_not hK (by decide)
  have hz : hasO L (ByteArray.mk #[]) = false := has_not hK (by decide)
  refine Fc.of (anys _ [21, 30, 31, 29, 51]) sch28 mixed Tryd.func28 rfl (by rfl) (by simp [Tryd.ntmps28]) (by decide) ?_
  simp -implicitDefEqProofs -dsimp [Tryd.ntmps28]
  refine CallK.works ?_
  simp -implicitDefEqProofs -dsimp
  refine CallQ.mk (many_fn d L) (by simp) ?_
  simp -implicitDefEqProofs -dsimp
  refine CallK.works ?_
  simp -implicitDefEqProofs -dsimp
  refine CallQ.mk (sidsI_fn d L hL) (by simp) ?_
  simp -implicitDefEqProofs -dsimp
  refine CallK.reads ?_
  simp -implicitDefEqProofs -dsimp
  refine CallQ.same (isame_fn L.isEmpty L.isEmpty (ids L) (ids L) (by simp; omega)) rfl ?_
  simp -implicitDefEqProofs -dsimp
  refine LpK.mk (anys _ [21, 30, 31, 29, 51]) mixed (fun i : Nat => i ≤ L.length) (fun i => ⟨[(0, .ptr 100000 0), (1, .ptr 100001 0), (5, .lit (.int .i64 i))], saHown d r L, 87⟩) (fun i => L.length - i) 0 (by simp) (by simp -implicitDefEqProofs -dsimp) ?_
  intro i hi
  by_cases hlt : i < L.length
  · obtain ⟨o, ho⟩ : ∃ o, L[i] = o := ⟨_, rfl⟩
    have ho' : L[i]? = some o := by rw [List.getElem?_eq_getElem hlt, ho]
    have hw : IntKind.i64.wrap ((i : Int) + 1) = (i : Int) + 1 := wrap64 (by omega) (by omega)
    have i1 : (ids L)[i]? = some o.1 := by simp [ids, ho']
    have i2 : (alls L)[i]? = some (ofBs o.2) := by simp [alls, ho']
    have i1' : ∀ h, (ids L)[i]'h = o.1 := fun h => by simp [ids, ho]
    have i2' : ∀ h, (alls L)[i]'h = ofBs o.2 := fun h => by simp [alls, ho]
    have hob : InB o.2 := hK.bytes o (List.mem_of_getElem? ho')
    have hg : getO' L o.1 = (false, o.2) := by simp [getO', fnd_at hK ho', ho']
    have hh := has_at ho'
    have hG := get_fn d L o.1 hlen
    rw [hg, hh] at hG
    have hH := has_fn d L o.1
    rw [hh] at hH
    simp -implicitDefEqProofs -dsimp [hlt, i1, i2, i1', i2']
    refine CallK.works ?_
    simp -implicitDefEqProofs -dsimp
    refine CallQ.mk (hG) (by simp) ?_
    simp -implicitDefEqProofs -dsimp [hlt, i1, i2, i1', i2', hob]
    refine CallK.works ?_
    simp -implicitDefEqProofs -dsimp
    refine CallQ.mk (hH) (by simp) ?_
    simp -implicitDefEqProofs -dsimp [hw, hlt, i1, i2, i1', i2', hob]
    exact .mk (i + 1) hlt (by omega) (by simp -implicitDefEqProofs -dsimp)
  · have ein : i = L.length := by omega
    subst ein
    simp -implicitDefEqProofs -dsimp [hlt]
    refine CallK.works ?_
    simp -implicitDefEqProofs -dsimp
    refine CallQ.mk (get_fn d L _ hlen) (by simp) ?_
    simp -implicitDefEqProofs -dsimp [hq]
    refine CallK.works ?_
    simp -implicitDefEqProofs -dsimp
    refine CallQ.mk (has_fn d L _) (by simp) ?_
    simp -implicitDefEqProofs -dsimp [hz]

def saHimm (d : DS) (r : RS) (L : List Objt) : List (Nat × Ob) := [(100000, .cells [.ptr 100002 0, .sl (.own (.cell 100000 1)) L.isEmpty 1 (idc (ids L)), .mp 100003]),
  (100001, .cells [.ptr 100004 0, .sl .imm L.isEmpty 1 (idc (ids L)), .sl .imm L.isEmpty 1 (idc (alls L))]), (100002, .cells (d.cells (.own (.cell 100002 0)))), (100003, .map (objE L)), (100004, .cells (r.cells .imm))]
attribute [simp] saHimm
set_option maxRecDepth 100000 in
set_option maxHeartbeats 16000000 in
theorem ssameI_fn (d : DS) (r : RS) (L : List Objt) (hK : Kept digOf L) (hL : L.length ≤ 1000000) : Fc Tryd.prog 28 [.ptr 100000 0, .ptr 100001 0] (saHimm d r L) (.lit (.bool true)) (saHimm d r L) := by
  have hlen : ∀ o, o ∈ L → o.2.length ≤ 1000000 := fun o ho => by have := hK.len o ho; omega
  have hq : hasO L (ByteArray.mk #[63]) = false := has_not hK (by decide)
  have hz : hasO L (ByteArray.mk #[]) = false := has_not hK (by decide)
  refine Fc.of (anys _ [21, 30, 31, 29, 51]) sch28 mixed Tryd.func28 rfl (by rfl) (by simp [Tryd.ntmps28]) (by decide) ?_
  simp -implicitDefEqProofs -dsimp [Tryd.ntmps28]
  refine CallK.works ?_
  simp -implicitDefEqProofs -dsimp
  refine CallQ.mk (many_fn d L) (by simp) ?_
  simp -implicitDefEqProofs -dsimp
  refine CallK.works ?_
  simp -implicitDefEqProofs -dsimp
  refine CallQ.mk (sidsI_fn d L hL) (by simp) ?_
  simp -implicitDefEqProofs -dsimp
  refine CallK.reads ?_
  simp -implicitDefEqProofs -dsimp
  refine CallQ.same (isame_fn L.isEmpty L.isEmpty (ids L) (ids L) (by simp; omega)) rfl ?_
  simp -implicitDefEqProofs -dsimp
  refine LpK.mk (anys _ [21, 30, 31, 29, 51]) mixed (fun i : Nat => i ≤ L.length) (fun i => ⟨[(0, .ptr 100000 0), (1, .ptr 100001 0), (5, .lit (.int .i64 i))], saHimm d r L, 87⟩) (fun i => L.length - i) 0 (by simp) (by simp -implicitDefEqProofs -dsimp) ?_
  intro i hi
  by_cases hlt : i < L.length
  · obtain ⟨o, ho⟩ : ∃ o, L[i] = o := ⟨_, rfl⟩
    have ho' : L[i]? = some o := by rw [List.getElem?_eq_getElem hlt, ho]
    have hw : IntKind.i64.wrap ((i : Int) + 1) = (i : Int) + 1 := wrap64 (by omega) (by omega)
    have i1 : (ids L)[i]? = some o.1 := by simp [ids, ho']
    have i2 : (alls L)[i]? = some (ofBs o.2) := by simp [alls, ho']
    have i1' : ∀ h, (ids L)[i]'h = o.1 := fun h => by simp [ids, ho]
    have i2' : ∀ h, (alls L)[i]'h = ofBs o.2 := fun h => by simp [alls, ho]
    have hob : InB o.2 := hK.bytes o (List.mem_of_getElem? ho')
    have hg : getO' L o.1 = (false, o.2) := by simp [getO', fnd_at hK ho', ho']
    have hh := has_at ho'
    have hG := get_fn d L o.1 hlen
    rw [hg, hh] at hG
    have hH := has_fn d L o.1
    rw [hh] at hH
    simp -implicitDefEqProofs -dsimp [hlt, i1, i2, i1', i2']
    refine CallK.works ?_
    simp -implicitDefEqProofs -dsimp
    refine CallQ.mk (hG) (by simp) ?_
    simp -implicitDefEqProofs -dsimp [hlt, i1, i2, i1', i2', hob]
    refine CallK.works ?_
    simp -implicitDefEqProofs -dsimp
    refine CallQ.mk (hH) (by simp) ?_
    simp -implicitDefEqProofs -dsimp [hw, hlt, i1, i2, i1', i2', hob]
    exact .mk (i + 1) hlt (by omega) (by simp -implicitDefEqProofs -dsimp)
  · have ein : i = L.length := by omega
    subst ein
    simp -implicitDefEqProofs -dsimp [hlt]
    refine CallK.works ?_
    simp -implicitDefEqProofs -dsimp
    refine CallQ.mk (get_fn d L _ hlen) (by simp) ?_
    simp -implicitDefEqProofs -dsimp [hq]
    refine CallK.works ?_
    simp -implicitDefEqProofs -dsimp
    refine CallQ.mk (has_fn d L _) (by simp) ?_
    simp -implicitDefEqProofs -dsimp [hz]
end Go.Proofs.YtekokchejkjjjaaDoor

/-! Stores: the chapter's example. -/
namespace Go.Proofs.YtekokchejkjjjaaDoor
open Go.Sy
theorem abc_4 : (bs (digOf [97, 98, 99])).take 4 = [186, 120, 22, 191] := by
  have h1 : absB st0 [97, 98, 99] = (st0, [97, 98, 99]) := by rw [absB, if_neg (by decide)]
  have h2 : ∀ S, absB S [] = (S, []) := fun S => by rw [absB, if_neg (by decide)]
  have h3 : absB st0 abcP = (bhd abcP st0, []) := by
    rw [absB, if_pos (by decide), show abcP.take 64 = abcP from rfl, show abcP.drop 64 = [] from rfl, h2]
  have h4 : bhd abcP st0 = _ := abc_b
  rw [digOf, h1]
  show (bs (ofBs (outB (absB st0 (padB [97, 98, 99] 3)).1))).take 4 = _
  rw [abc_pad, h3, h4]
  kernel_rfl
theorem abc_rec : recB digOf [97, 98, 99] = [3, 97, 98, 99, 186, 120, 22, 191] := by
  rw [recB, abc_4, show ([97, 98, 99] : List Int).length = 3 from rfl, enc_lt (by decide)]; rfl
theorem open_nil (d : DS) (h : d.b = []) : openS digOf d.b.length d.b 0 [] = ([], 0, 0) := by rw [h, openS_nil]

set_option maxRecDepth 100000 in
set_option maxHeartbeats 8000000 in
theorem awake_fn : Fc Tryd.prog 15 [] [] (.lit (.bool true)) [] := by
  have hN := dnew_fn 100 (by decide) (by decide)
  have hd0 : (DS.mk true [] 100 (-1) false).Ok := D0_ok (n := 100) (by decide) (by decide)
  have hS := sopen_ok (DS.mk true [] 100 (-1) false) hd0 (by simp) rfl (by simp) [] 0 (open_nil _ rfl)
  have hP := put_fn (DS.mk true [] 100 (-1) false) hd0 [] [97, 98, 99] (by decide) (by decide)
  obtain ⟨g, hg⟩ : ∃ g, g = digOf [97, 98, 99] := ⟨_, rfl⟩
  have hput : putS digOf (DS.mk true [] 100 (-1) false) [] [97, 98, 99] = ((g, 0), DS.mk false [3, 97, 98, 99, 186, 120, 22, 191] 100 (-1) false, [(g, [97, 98, 99])]) := by
    unfold putS DS.append DS.app DS.left
    rw [abc_rec, ← hg]
    simp [hasO]
  rw [hput] at hP
  have hd1 : (DS.mk false [3, 97, 98, 99, 186, 120, 22, 191] 100 (-1) false).Ok := by constructor <;> simp
  have hL : ∀ o : Objt, o ∈ [(g, ([97, 98, 99] : List Int))] → o.2.length ≤ 1000000 := by simp
  have hh : hasO [(g, ([97, 98, 99] : List Int))] g = true := by simp [hasO]
  have hg' : getO' [(g, ([97, 98, 99] : List Int))] g = (false, [97, 98, 99]) := by simp [getO', fndO]
  have hG := get_fn (DS.mk false [3, 97, 98, 99, 186, 120, 22, 191] 100 (-1) false) [(g, [97, 98, 99])] g hL
  rw [hg', hh] at hG
  have hH := has_fn (DS.mk false [3, 97, 98, 99, 186, 120, 22, 191] 100 (-1) false) [(g, [97, 98, 99])] g
  rw [hh] at hH
  have hO := rof_fn false [97, 98, 99] (by decide) (by simp)
  rw [← hg] at hO
  have habc : ofBs [97, 98, 99] = (⟨#[97, 98, 99]⟩ : ByteArray) := rfl
  refine Fc.of (anys _ [50, 18, 20, 29, 22, 27, 26, 21, 51]) [] mixed Tryd.func15 rfl (by rfl) (by simp [Tryd.ntmps15]) (by decide) ?_
  simp -implicitDefEqProofs -dsimp [Tryd.ntmps15]
  refine CallK.works ?_
  simp -implicitDefEqProofs -dsimp
  refine CallQ.mk (hN) (by simp) ?_
  simp -implicitDefEqProofs -dsimp
  refine CallK.works ?_
  simp -implicitDefEqProofs -dsimp
  refine CallQ.mk (hS) (by simp) ?_
  simp -implicitDefEqProofs -dsimp
  refine CallK.works ?_
  simp -implicitDefEqProofs -dsimp
  refine CallQ.mk (hP) (by simp) ?_
  simp -implicitDefEqProofs -dsimp
  refine CallK.works ?_
  simp -implicitDefEqProofs -dsimp
  refine CallQ.mk (hG) (by simp) ?_
  simp -implicitDefEqProofs -dsimp
  refine CallK.reads ?_
  simp -implicitDefEqProofs -dsimp
  refine CallQ.same (hO) rfl ?_
  simp -implicitDefEqProofs -dsimp [habc]
  refine CallK.fresh ?_
  simp -implicitDefEqProofs -dsimp
  refine CallQ.same (bytes_fn _ hd1) rfl ?_
  simp -implicitDefEqProofs -dsimp [fr_u8s]
  refine CallK.reads ?_
  simp -implicitDefEqProofs -dsimp
  refine CallQ.same (same_fn false false [3, 97, 98, 99, 186, 120, 22, 191] [3, 97, 98, 99, 186, 120, 22, 191] (by decide)) rfl ?_
  simp -implicitDefEqProofs -dsimp
  refine CallK.works ?_
  simp -implicitDefEqProofs -dsimp
  refine CallQ.mk (many_fn (DS.mk false [3, 97, 98, 99, 186, 120, 22, 191] 100 (-1) false) [(g, [97, 98, 99])]) (by simp) ?_
  simp -implicitDefEqProofs -dsimp
  refine CallK.works ?_
  simp -implicitDefEqProofs -dsimp
  refine CallQ.mk (hH) (by simp) ?_
  simp -implicitDefEqProofs -dsimp
end Go.Proofs.YtekokchejkjjjaaDoor

/-! Stores: what comes in; the tables lie where the rows say. -/
namespace Go.Sy
theorem arg_ids {P : Program} {t e : TypeId} {m : Nat} {x : PV} (ht : P.underlying t = some (.slice e)) (he : P.underlying e = some .string) (hc : P.cellsOf e = 1) (h : ∃ ys, Shp P (m + 2) t ys ∧ x = packE P t ys) :
    ∃ nl l, x = .sl .imm nl 1 (idc l) ∧ l.length ≤ maxLen := by
  obtain ⟨nl, xs, rfl, h1, h2, h3⟩ := arg_rows ht h
  obtain ⟨l, rfl, h4⟩ := list_choose (p := fun _ : ByteArray => True) (f := fun n => PV.lit (.string n)) (xs := xs) fun x hx => by
    obtain ⟨n, h5, h6⟩ := arg_str he (h3 x hx)
    exact ⟨n, trivial, h5⟩
  exact ⟨nl, l, by rw [hc]; rfl, by simpa using h2⟩
end Go.Sy
namespace Go.Proofs.YtekokchejkjjjaaDoor
open Go.Sy Go.ChangeShapes Go.WideShapes Go.ChangeAt Go.RowKit
theorem own : ownKnob Tryd.prog.godebug = none := by kernel_rfl
theorem keys_laid1 : (Rows.laid_grapevine_digest_keys : DataW Unit) = .agg (Go.Sy.keys.map fun n => .lit (.int .u32 n)) := by kernel_rfl
theorem keys_laid0 : (Rows.laid_grapevine_grapevineref01_keys : DataW Unit) = .agg (Go.Sy.keys.map fun n => .lit (.int .u32 n)) := by kernel_rfl
theorem keys_cells {W : World} {g fuel : Nat} {n : String} {cs : Array Value} {d : DataW Unit} {p : List MemPlace} (hg : Tryd.prog.globalNamed n = some g) (hv : W.var? Tryd.prog n = some cs) (hk : d = .agg (Go.Sy.keys.map fun n => .lit (.int .u32 n)))
    (hd : DataW.trod (fun _ => ()) Tryd.prog W 0 (fun _ => true) false fuel 100 cs.toList = some (d, p)) : ∃ T fz, W.heap[g]? = some (.cells (Go.Sy.keys.map (Value.int .u32)).toArray T fz) := by
  obtain ⟨xs, m, _, ex, hcl, hl, hel⟩ := DataW.trod_array Tryd.underlying100 hd
  have c5 : Tryd.prog.cellsOf 95 = 1 := by kernel_rfl
  have c100 : Tryd.prog.cellsOf 100 = 64 := by kernel_rfl
  have hkl : Go.Sy.keys.length = 64 := by kernel_rfl
  rw [hk] at ex
  have e3 : (xs.map (·.1)) = Go.Sy.keys.map fun n => .lit (.int .u32 n) := (DataW.agg.inj (Prod.mk.inj ex).1).symm
  have hcs : cs = (Go.Sy.keys.map (Value.int .u32)).toArray := by
    apply Array.toList_inj.1
    refine List.ext_getElem? fun r => ?_
    rw [List.getElem?_map]
    by_cases hr : r < 64
    · have hE := hel r hr
      rw [c5, Nat.mul_one, List.getElem?_eq_getElem (by omega)] at hE
      obtain ⟨z, e1, e2, _⟩ := DataW.trod_int Tryd.underlying95 hE
      have e4 : (xs.map (·.1))[r]? = (Go.Sy.keys.map fun n => (DataW.lit (.int .u32 n) : DataW Unit))[r]? := by rw [e3]
      rw [List.getElem?_map, List.getElem?_map, List.getElem?_eq_getElem (by omega : r < xs.length), List.getElem?_eq_getElem (by omega : r < Go.Sy.keys.length), e2] at e4
      have h0 : ((cs.toList.drop r).take 1)[0]? = some (.int .u32 z) := by rw [e1]; rfl
      have h1 : cs.toList[r]? = some (.int .u32 z) := by simpa using h0
      rw [h1, List.getElem?_eq_getElem (by omega : r < Go.Sy.keys.length)]
      simp only [Option.map_some, Option.some.injEq, DataW.lit.injEq, Lit.int.injEq, true_and] at e4
      rw [e4]; rfl
    · rw [List.getElem?_eq_none (by omega), List.getElem?_eq_none (by omega)]; rfl
  unfold World.var? at hv
  rw [hg] at hv
  simp only [Option.bind_some] at hv
  split at hv
  · rename_i cs' T fz hb
    cases hv
    exact ⟨T, fz, by rw [hb, hcs]⟩
  · cases hv
theorem keys_tabs2 {W : World} (h : laidMetH Tryd.prog [("grapevine/grapevineref01.keys", Rows.laid_grapevine_grapevineref01_keys), ("grapevine/digest.keys", Rows.laid_grapevine_digest_keys)] W) :
    (∃ T fz, W.heap[0]? = some (.cells (Go.Sy.keys.map (Value.int .u32)).toArray T fz)) ∧ ∃ T fz, W.heap[1]? = some (.cells (Go.Sy.keys.map (Value.int .u32)).toArray T fz) := by
  rw [MakeChecks.laidMetH_plain _ _ _ (by kernel_rfl)] at h
  obtain ⟨ps, ⟨g, t, cs, fuel, p, q, hg, ht, hv, hd, ⟨g', t', cs', fuel', p', q', hg', ht', hv', hd', _, _⟩, _⟩, _, _⟩ := h
  obtain rfl := Option.some.inj ((show Tryd.prog.globalNamed "grapevine/grapevineref01.keys" = some 0 by kernel_rfl).symm.trans hg)
  obtain rfl := Option.some.inj ((show (Tryd.prog.globals[0]?).map (·.type) = some 100 by kernel_rfl).symm.trans ht)
  obtain rfl := Option.some.inj ((show Tryd.prog.globalNamed "grapevine/digest.keys" = some 1 by kernel_rfl).symm.trans hg')
  obtain rfl := Option.some.inj ((show (Tryd.prog.globals[1]?).map (·.type) = some 100 by kernel_rfl).symm.trans ht')
  exact ⟨keys_cells hg hv keys_laid0 hd, keys_cells hg' hv' keys_laid1 hd'⟩
theorem keys_tabs {W : World} (h : laidMetH Tryd.prog [("grapevine/grapevineref01.keys", Rows.laid_grapevine_grapevineref01_keys), ("grapevine/digest.keys", Rows.laid_grapevine_digest_keys)] W) : Tabs W := by
  intro r hr
  simp only [globs, List.mem_cons, List.not_mem_nil, or_false] at hr
  rcases hr with rfl | rfl
  · exact (keys_tabs2 h).1
  · exact (keys_tabs2 h).2
end Go.Proofs.YtekokchejkjjjaaDoor
