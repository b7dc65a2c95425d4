/- Bundles: packed. (and what stands on it) -/
import Derived.Test.YtekokchejkjjjaaDoorNj
import Derived.Test.YtekokchejkjjjaaDoorNg
set_option linter.unusedSimpArgs false
set_option linter.unusedVariables false

/-! Bundles: packed. -/
namespace Go.Proofs.YtekokchejkjjjaaDoor
open Go.Sy
theorem textI_fn (nl n2 : Bool) (b x : List Int) (hn : nl = true → b = []) (hb : b.length ≤ 10000000) (hx : x.length ≤ 10000000) :
    Fc Tryd.prog 71 [.sl .imm nl 1 (u8s b), .sl .imm n2 1 (u8s x)] [] (.sl .imm false 1 (u8s (b ++ enc x.length ++ x))) [] := by
  have := (text_fn nl n2 b x hn hb hx).fz [.loc 1090]
  simpa using this
theorem num0I_fn (n : Nat) (h : n < 18446744073709551616) : Fc Tryd.prog 69 [.sl .imm true 0 [], .lit (.int .u64 n)] [] (.sl .imm false 1 (u8s (enc n))) [] := by
  have := ((num_fn true [] n (by simp) (by simp) h).args (xs := [.sl .imm true 0 [], .lit (.int .u64 n)]) (by simp)).fz [.loc 1070]
  simpa using this
/-- A text, put. -/
def txA (x : ByteArray) : List Int := enc x.size ++ bs x
/-- The base of the i-th object, and what tells it. -/
def baseI (k l : List OB) (i : Nat) : ByteArray × Bool × List Int := formL (l.getD i ⟨⟨#[]⟩, true, []⟩).b (k ++ l.take i) [] (⟨#[]⟩, (l.getD i ⟨⟨#[]⟩, true, []⟩).nl, (l.getD i ⟨⟨#[]⟩, true, []⟩).b)
def packI (k l : List OB) (i : Nat) : List Int := txA (l.getD i ⟨⟨#[]⟩, true, []⟩).id ++ (txA (baseI k l i).1 ++ (enc (baseI k l i).2.2.length ++ (baseI k l i).2.2))
def packL (k l : List OB) : Nat → List Int
  | 0 => enc l.length
  | i + 1 => packL k l i ++ packI k l i
theorem fstep_le (text : List Int) (st : ByteArray × Bool × List Int) (x : OB) : (fstep text st x).2.2.length ≤ st.2.2.length := by
  unfold fstep
  split
  · rename_i h; exact Nat.le_of_lt h.2
  · exact Nat.le_refl _
theorem formL_le (text : List Int) : ∀ (A : List OB) (S : List ByteArray) (st : ByteArray × Bool × List Int), (formL text A S st).2.2.length ≤ st.2.2.length
  | [], _, _ => Nat.le_refl _
  | x :: A, S, st => by
    rw [formL]
    split
    · exact formL_le text A S st
    · exact Nat.le_trans (formL_le text A _ _) (fstep_le text st x)
theorem formL_id (text : List Int) (p : ByteArray → Prop) : ∀ (A : List OB) (S : List ByteArray) (st : ByteArray × Bool × List Int), p st.1 → (∀ o, o ∈ A → p o.id) → p (formL text A S st).1
  | [], _, _, h, _ => h
  | x :: A, S, st, h, hA => by
    rw [formL]
    split
    · exact formL_id text p A S st h fun o ho => hA o (by simp [ho])
    · refine formL_id text p A _ _ ?_ fun o ho => hA o (by simp [ho])
      unfold fstep
      split
      · exact hA x (by simp)
      · exact h
/-- Objects of a size that can be told. -/
structure Fit (l : List OB) : Prop where
  id : ∀ o, o ∈ l → o.id.size ≤ 1000
  b : ∀ o, o ∈ l → o.b.length ≤ 1000
theorem txA_length {x : ByteArray} (h : x.size ≤ 1000) : (txA x).length ≤ 1010 := by
  have := enc_u64 (n := x.size) (by omega)
  simp only [txA, List.length_append, bs_length]; omega
theorem base_fit {k l : List OB} (hk : Fit k) (hl : Fit l) {i : Nat} {x : OB} (hx : l[i]? = some x) : (baseI k l i).1.size ≤ 1000 ∧ (baseI k l i).2.2.length ≤ 1000 := by
  have hd : l.getD i ⟨⟨#[]⟩, true, []⟩ = x := by rw [List.getD_eq_getElem?_getD, hx]; rfl
  have hm := List.mem_of_getElem? hx
  refine ⟨?_, ?_⟩
  · refine formL_id _ (fun q => q.size ≤ 1000) _ _ _ (by show (ByteArray.mk #[]).size ≤ 1000; decide) fun o ho => ?_
    rcases List.mem_append.1 ho with ho | ho
    · exact hk.id o ho
    · exact hl.id o (List.mem_of_mem_take ho)
  · refine Nat.le_trans (formL_le _ _ _ _) ?_
    rw [hd]; exact hl.b x hm
theorem packL_length {k l : List OB} (hk : Fit k) (hl : Fit l) (h64 : l.length ≤ 1000) : ∀ i, i ≤ l.length → (packL k l i).length ≤ 10 + 3100 * i
  | 0, _ => by have := enc_u64 (n := l.length) (by omega); simp only [packL]; omega
  | i + 1, hi => by
    have := packL_length hk hl h64 i (by omega)
    have hx : l[i]? = some l[i] := List.getElem?_eq_getElem (by omega)
    obtain ⟨h1, h2⟩ := base_fit hk hl hx
    have hd : l.getD i ⟨⟨#[]⟩, true, []⟩ = l[i] := by rw [List.getD_eq_getElem?_getD, hx]; rfl
    have h3 := txA_length (hl.id l[i] (List.getElem_mem (by omega)))
    have h4 := txA_length h1
    have h5 := enc_u64 (n := (baseI k l i).2.2.length) (by omega)
    simp only [packL, packI, hd, List.length_append]; omega

set_option maxRecDepth 100000 in
set_option maxHeartbeats 16000000 in
theorem pack_fn (n1 n2 : Bool) (k l : List OB) (hk : Fit k) (hl : Fit l) (hkl : k.length ≤ 100) (h64 : l.length ≤ 64) :
    Fc Tryd.prog 38 [.sl .imm n1 2 (obl k), .sl .imm n2 2 (obl l)] [] (.tup [.sl .imm false 1 (u8s (packL k l l.length)), .lit (.int .i64 0)]) [] := by
  have h64' : ¬ 64 < (l.length : Int) := by omega
  have w0 : IntKind.u64.wrap (l.length : Int) = (l.length : Int) := by rw [wrap_is_u64]; omega
  have hN := num0I_fn l.length (by omega)
  refine Fc.of (anys _ [69, 70, 71]) sch38 mixed Tryd.func38 rfl (by rfl) (by simp [Tryd.ntmps38]) (by decide) ?_
  simp -implicitDefEqProofs -dsimp [Tryd.ntmps38, h64', w0]
  refine CallK.works ?_
  simp -implicitDefEqProofs -dsimp
  refine CallQ.mk (hN) (by simp) ?_
  simp -implicitDefEqProofs -dsimp
  refine LpK.mk (anys _ [69, 70, 71]) mixed (fun i : Nat => i ≤ l.length)
    (fun i => ⟨[(0, .sl .imm n1 2 (obl k)), (1, .sl .imm n2 2 (obl l)), (6, .sl .imm false 1 (u8s (packL k l i))), (18, .sl .imm n2 2 (obl l)), (19, .lit (.int .i64 l.length)), (20, .lit (.int .i64 i))], [], 47⟩)
    (fun i => l.length - i) 0 (by simp) (by simp -implicitDefEqProofs -dsimp [packL]) ?_
  intro i hi
  by_cases hlt : i < l.length
  · obtain ⟨x, hx⟩ : ∃ x, l[i] = x := ⟨_, rfl⟩
    have hx' : l[i]? = some x := by rw [List.getElem?_eq_getElem hlt, hx]
    have hw : IntKind.i64.wrap ((i : Int) + 1) = (i : Int) + 1 := wrap64 (by omega) (by omega)
    have hdx : l.getD i ⟨⟨#[]⟩, true, []⟩ = x := by rw [List.getD_eq_getElem?_getD, hx']; rfl
    have hxm := List.mem_of_getElem? hx'
    have hP := packL_length hk hl (by omega) i hi
    obtain ⟨h1, h2⟩ := base_fit hk hl hx'
    have hxi := hl.id x hxm
    have hxb := hl.b x hxm
    have hF := form_fn n1 n2 x.nl k (l.take i) x.b (by rw [List.length_take]; omega) (fun o ho => by
      rcases List.mem_append.1 ho with ho | ho
      · exact hk.b o ho
      · exact hl.b o (List.mem_of_mem_take ho)) hxb
    have hbI : baseI k l i = formL x.b (k ++ l.take i) [] (⟨#[]⟩, x.nl, x.b) := by rw [baseI, hdx]
    rw [← hbI] at hF
    have hp1 : packL k l (i + 1) = packL k l i ++ (txA x.id ++ (txA (baseI k l i).1 ++ (enc (baseI k l i).2.2.length ++ (baseI k l i).2.2))) := by rw [packL, packI, hdx]
    obtain ⟨⟨sb, sn, sl⟩, hst⟩ : ∃ st, st = baseI k l i := ⟨_, rfl⟩
    rw [← hst] at hF h1 h2 hp1
    simp only at h1 h2
    have hT1 := textI_fn false false (packL k l i) (bs x.id) (by simp) (by omega) (by rw [bs_length]; omega)
    have hT2 := textI_fn false false (packL k l i ++ (enc (bs x.id).length ++ bs x.id)) (bs sb) (by simp) (by have := txA_length hxi; simp only [txA, bs_length, List.length_append] at *; omega) (by rw [bs_length]; omega)
    have hT3 := textI_fn false sn (packL k l i ++ (enc (bs x.id).length ++ (bs x.id ++ (enc (bs sb).length ++ bs sb)))) sl (by simp) (by have := txA_length hxi; have := txA_length h1; simp only [txA, bs_length, List.length_append] at *; omega) (by omega)
    have hc : (i : Int) ≤ l.length := by omega
    have z1 : x.id.size ≤ 140737488355328 := by omega
    have z2 : sb.size ≤ 140737488355328 := by omega
    have hfin : packL k l i ++ (enc (bs x.id).length ++ (bs x.id ++ (enc (bs sb).length ++ bs sb))) ++ enc sl.length ++ sl = packL k l (i + 1) := by rw [hp1]; simp [txA, bs_length]
    rw [hfin] at hT3
    simp -implicitDefEqProofs -dsimp [hlt, hx, hx', OB.cells, hc]
    refine CallK.works ?_
    simp -implicitDefEqProofs -dsimp
    refine CallQ.mk (hF) (by simp) ?_
    simp -implicitDefEqProofs -dsimp [z1, z2]
    refine CallK.works ?_
    simp -implicitDefEqProofs -dsimp
    refine CallQ.mk (hT1) (by simp) ?_
    simp -implicitDefEqProofs -dsimp [z2]
    refine CallK.works ?_
    simp -implicitDefEqProofs -dsimp
    refine CallQ.mk (hT2) (by simp) ?_
    simp -implicitDefEqProofs -dsimp
    refine CallK.works ?_
    simp -implicitDefEqProofs -dsimp
    refine CallQ.mk (hT3) (by simp) ?_
    simp -implicitDefEqProofs -dsimp [hw]
    exact .mk (i + 1) hlt (by omega) (by simp -implicitDefEqProofs -dsimp)
  · have ei : i = l.length := by omega
    subst ei
    simp -implicitDefEqProofs -dsimp [hlt]
theorem pack_no (n1 n2 : Bool) (k l : List OB) (h64 : 64 < l.length) : Fc Tryd.prog 38 [.sl .imm n1 2 (obl k), .sl .imm n2 2 (obl l)] [] (.tup [.sl .imm true 0 [], .lit (.int .i64 4)]) [] := by
  have h64' : 64 < (l.length : Int) := by omega
  refine Fc.of (anys _ [69, 70, 71]) sch38 mixed Tryd.func38 rfl (by rfl) (by simp [Tryd.ntmps38]) (by decide) ?_
  simp -implicitDefEqProofs -dsimp [Tryd.ntmps38, h64']
end Go.Proofs.YtekokchejkjjjaaDoor

/-! Bundles: packed, as the document has it. -/
namespace Go.Proofs.YtekokchejkjjjaaDoor
open Go.Sy
set_option maxRecDepth 100000 in
set_option maxHeartbeats 16000000 in
theorem rfind_fn (n1 n2 : Bool) (a b : List OB) (q : ByteArray) (hab : a.length + b.length ≤ 1000) :
    Fc Tryd.prog 73 [.sl .imm n1 2 (obl a), .sl .imm n2 2 (obl b), .lit (.string q)] [] (.tup [.sl .imm (fndR (a ++ b) q).1 1 (u8s (fndR (a ++ b) q).2), .lit (.bool (fndT (a ++ b) q))]) [] := by
  obtain ⟨A, hAe⟩ : ∃ A, A = a ++ b := ⟨_, rfl⟩
  have hAl : A.length = a.length + b.length := by rw [hAe, List.length_append]
  have hw0 : IntKind.i64.wrap ((a.length : Int) + b.length) = (a.length : Int) + b.length := wrap64 (by omega) (by omega)
  suffices h : ∀ rn rb t, (rn, rb) = fndR A q → t = fndT A q → Fc Tryd.prog 73 [.sl .imm n1 2 (obl a), .sl .imm n2 2 (obl b), .lit (.string q)] [] (.tup [.sl .imm rn (if t = true then 1 else 0) (u8s rb), .lit (.bool t)]) [] by
    rw [← hAe]
    have := h (fndR A q).1 (fndR A q).2 (fndT A q) rfl rfl
    cases e : fndX A q with
    | some x =>
      have e1 : fndT A q = true := by rw [fndT, e]; rfl
      rw [e1, if_pos rfl] at this
      rw [e1]; exact this
    | none =>
      have e1 : fndT A q = false := by rw [fndT, e]; rfl
      have e2 : fndR A q = (true, []) := by rw [fndR, e]
      rw [e1, e2] at this
      rw [e1, e2]
      exact Fc.tup this (by simp)
  intro rn rb t hr ht
  refine Fc.of (anys _ []) [] mixed Tryd.func73 rfl (by rfl) (by simp [Tryd.ntmps73]) (by decide) ?_
  simp -implicitDefEqProofs -dsimp [Tryd.ntmps73]
  refine LpK.mk (anys _ []) mixed (fun i : Nat => i ≤ A.length ∧ fndX A q = fndX (A.drop i) q)
    (fun i => ⟨[(0, .sl .imm n1 2 (obl a)), (1, .sl .imm n2 2 (obl b)), (2, .lit (.string q)), (8, .lit (.int .i64 i))], [], 41⟩) (fun i => A.length - i) 0 ⟨by omega, by simp⟩ (by simp -implicitDefEqProofs -dsimp) ?_
  rintro i ⟨hi, he⟩
  by_cases hlt : i < A.length
  · have hlt' : (i : Int) < (a.length : Int) + b.length := by omega
    have hw : IntKind.i64.wrap ((i : Int) + 1) = (i : Int) + 1 := wrap64 (by omega) (by omega)
    obtain ⟨x, hx⟩ : ∃ x, A[i] = x := ⟨_, rfl⟩
    have hx' : A[i]? = some x := by rw [List.getElem?_eq_getElem hlt, hx]
    have hd : A.drop i = x :: A.drop (i + 1) := by rw [List.drop_eq_getElem_cons hlt, hx]
    rw [hd, fndX] at he
    have fin : x.id = q → rn = x.nl ∧ rb = x.b ∧ t = true := fun c => by
      rw [if_pos c] at he
      rw [fndR, he] at hr
      rw [fndT, he] at ht
      obtain ⟨rfl, rfl⟩ := Prod.mk.inj hr
      exact ⟨rfl, rfl, ht⟩
    by_cases ca : i < a.length
    · have ax : a[i] = x := by
        have : (a ++ b)[i]? = some x := by rw [← hAe]; exact hx'
        rw [List.getElem?_append_left ca, List.getElem?_eq_getElem ca] at this
        simpa using this
      have ax' : a[i]? = some x := by rw [List.getElem?_eq_getElem ca, ax]
      by_cases c : x.id = q
      · obtain ⟨rfl, rfl, rfl⟩ := fin c
        have c' := eq_true c
        simp -implicitDefEqProofs -dsimp [hlt', hw0, ca, ax, ax', OB.cells, c']
      · rw [if_neg c] at he
        simp -implicitDefEqProofs -dsimp [hlt', hw0, ca, ax, ax', OB.cells, c, hw]
        exact .mk (i + 1) ⟨hlt, he⟩ (by omega) (by simp -implicitDefEqProofs -dsimp)
    · have hs : IntKind.i64.wrap ((i : Int) - a.length) = ((i - a.length : Nat) : Int) := by rw [wrap64 (by omega) (by omega)]; omega
      have cb : i - a.length < b.length := by omega
      have bx' : b[i - a.length]? = some x := by
        have : (a ++ b)[i]? = some x := by rw [← hAe]; exact hx'
        rwa [List.getElem?_append_right (by omega)] at this
      have bx : b[i - a.length] = x := by rw [List.getElem?_eq_getElem cb] at bx'; simpa using bx'
      by_cases c : x.id = q
      · obtain ⟨rfl, rfl, rfl⟩ := fin c
        have c' := eq_true c
        simp -implicitDefEqProofs -dsimp [hlt', hw0, ca, hs, cb, bx, bx', OB.cells, c']
      · rw [if_neg c] at he
        simp -implicitDefEqProofs -dsimp [hlt', hw0, ca, hs, cb, bx, bx', OB.cells, c, hw]
        exact .mk (i + 1) ⟨hlt, he⟩ (by omega) (by simp -implicitDefEqProofs -dsimp)
  · have hlt' : ¬ (i : Int) < (a.length : Int) + b.length := by omega
    have ei : i = A.length := by omega
    rw [ei, List.drop_length, fndX] at he
    rw [fndR, he] at hr
    rw [fndT, he] at ht
    obtain ⟨rfl, rfl⟩ := Prod.mk.inj hr
    subst ht
    simp -implicitDefEqProofs -dsimp [hlt', hw0]
end Go.Proofs.YtekokchejkjjjaaDoor

/-! Bundles: packed as the document has it, what that is. -/
namespace Go.Proofs.YtekokchejkjjjaaDoor
open Go.Sy
def fnO (A : List OB) (x : OB) : OB := ⟨x.id, (fndR A x.id).1, (fndR A x.id).2⟩
def rformL (text : List Int) (A : List OB) : List OB → ByteArray × Bool × List Int → ByteArray × Bool × List Int
  | [], st => st
  | x :: xs, st => rformL text A xs (fstep text st (fnO A x))
theorem fnd_first {A1 : List OB} {x : OB} {xs : List OB} (h : ∀ y, y ∈ A1 → ¬ y.id = x.id) : fndX (A1 ++ x :: xs) x.id = some x := by
  induction A1 with
  | nil => simp [fndX]
  | cons y A1 ih =>
    rw [List.cons_append, fndX, if_neg (h y (by simp))]
    exact ih fun z hz => h z (by simp [hz])
theorem hasS_iff {S : List ByteArray} {i : ByteArray} : hasS S i = true ↔ i ∈ S := by simp [hasS]
theorem form_same (text : List Int) (A : List OB) : ∀ (A2 A1 : List OB) (S : List ByteArray) (st : ByteArray × Bool × List Int), A = A1 ++ A2 → (∀ i, i ∈ S ↔ ∃ y, y ∈ A1 ∧ y.id = i) →
    (∀ y, y ∈ A1 → ¬ y.id = ⟨#[]⟩ → st.2.2.length ≤ (makeS (fnO A y).b text).length) → formL text A2 S st = rformL text A A2 st
  | [], _, _, _, _, _, _ => rfl
  | x :: A2, A1, S, st, hA, hS, hI => by
    rw [formL, rformL]
    by_cases c : hasS S x.id = true
    · rw [if_pos c]
      obtain ⟨y, hy, hyx⟩ := (hS x.id).1 (hasS_iff.1 c)
      have e : fnO A x = ⟨x.id, (fnO A y).nl, (fnO A y).b⟩ := by simp [fnO, hyx]
      have e2 : fstep text st (fnO A x) = st := by
        rw [fstep, if_neg]
        rintro ⟨h1, h2⟩
        have := hI y hy (by rw [hyx]; exact h1)
        rw [e] at h2; simp only at h2; omega
      rw [e2]
      refine form_same text A A2 (A1 ++ [x]) S st (by rw [hA]; simp) (fun i => ?_) fun z hz hz0 => ?_
      · rw [hS i]
        constructor
        · rintro ⟨y, h1, h2⟩; exact ⟨y, List.mem_append_left _ h1, h2⟩
        · rintro ⟨z, h1, h2⟩
          rcases List.mem_append.1 h1 with h1 | h1
          · exact ⟨z, h1, h2⟩
          · simp at h1; subst h1; exact ⟨y, hy, hyx.trans h2⟩
      · rcases List.mem_append.1 hz with hz | hz
        · exact hI z hz hz0
        · simp at hz; subst hz
          rw [e]; exact hI y hy (by rw [hyx]; exact hz0)
    · rw [if_neg c]
      have hn : ∀ y, y ∈ A1 → ¬ y.id = x.id := fun y hy h => c (hasS_iff.2 ((hS x.id).2 ⟨y, hy, h⟩))
      have hx : fndX A x.id = some x := by rw [hA]; exact fnd_first hn
      have e : fnO A x = x := by simp [fnO, fndR, hx]
      rw [e]
      refine form_same text A A2 (A1 ++ [x]) (S ++ [x.id]) _ (by rw [hA]; simp) (fun i => ?_) fun z hz hz0 => ?_
      · rw [List.mem_append, hS i]
        constructor
        · rintro (⟨y, h1, h2⟩ | h)
          · exact ⟨y, List.mem_append_left _ h1, h2⟩
          · simp at h; subst h; exact ⟨x, by simp, rfl⟩
        · rintro ⟨z, h1, h2⟩
          rcases List.mem_append.1 h1 with h1 | h1
          · exact .inl ⟨z, h1, h2⟩
          · simp at h1; subst h1; exact .inr (by simp [h2])
      · rcases List.mem_append.1 hz with hz | hz
        · exact Nat.le_trans (fstep_le text st x) (hI z hz hz0)
        · simp at hz; subst hz
          rw [e]
          unfold fstep
          split
          · exact Nat.le_refl _
          · rename_i h
            exact Nat.le_of_not_lt fun h2 => h ⟨hz0, h2⟩
theorem formL_r (text : List Int) (A : List OB) (st : ByteArray × Bool × List Int) : formL text A [] st = rformL text A A st :=
  form_same text A A [] [] st rfl (by simp) (by simp)
theorem fndR_mem {A : List OB} {i : ByteArray} {n : Nat} (h : ∀ o, o ∈ A → o.b.length ≤ n) : (fndR A i).2.length ≤ n := by
  unfold fndR
  split
  · rename_i x hx
    have : x ∈ A := by
      clear h
      induction A with
      | nil => simp [fndX] at hx
      | cons y A ih =>
        rw [fndX] at hx
        split at hx
        · simp at hx; simp [hx]
        · simp [ih hx]
    exact h x this
  · simp
theorem rtextI_fn (nl n2 : Bool) (b x : List Int) (hb : b.length ≤ 10000000) (hx : x.length ≤ 10000000) :
    Fc Tryd.prog 75 [.sl .imm nl 1 (u8s b), .sl .imm n2 1 (u8s x)] [] (.sl .imm false 1 (u8s (b ++ enc x.length ++ x))) [] := by
  have := (rtext_fn nl n2 b x hb hx).fz [.loc 1090]
  simpa using this

set_option maxRecDepth 100000 in
set_option maxHeartbeats 16000000 in
theorem rpack_fn (n1 n2 : Bool) (k l : List OB) (hk : Fit k) (hl : Fit l) (hkl : k.length ≤ 100) (h64 : l.length ≤ 64) :
    Fc Tryd.prog 39 [.sl .imm n1 2 (obl k), .sl .imm n2 2 (obl l)] [] (.tup [.sl .imm false 1 (u8s (packL k l l.length)), .lit (.int .i64 0)]) [] := by
  have h64' : ¬ 64 < (l.length : Int) := by omega
  have w0 : IntKind.u64.wrap (l.length : Int) = (l.length : Int) := by rw [wrap_is_u64]; omega
  have hN := rnil_fz l.length (by omega)
  refine Fc.of (anys _ [72, 73, 74, 75]) [] mixed Tryd.func39 rfl (by rfl) (by simp [Tryd.ntmps39]) (by decide) ?_
  simp -implicitDefEqProofs -dsimp [Tryd.ntmps39, h64', w0]
  refine CallK.works ?_
  simp -implicitDefEqProofs -dsimp
  refine CallQ.mk (hN) (by simp) ?_
  simp -implicitDefEqProofs -dsimp
  refine LpK.mk (anys _ [72, 73, 74, 75]) mixed (fun i : Nat => i ≤ l.length)
    (fun i => ⟨[(0, .sl .imm n1 2 (obl k)), (1, .sl .imm n2 2 (obl l)), (6, .sl .imm false 1 (u8s (packL k l i))), (7, .lit (.int .i64 i))], [], 101⟩)
    (fun i => l.length - i) 0 (by simp) (by simp -implicitDefEqProofs -dsimp [packL]) ?_
  intro i hi
  by_cases hlt : i < l.length
  · obtain ⟨x, hx⟩ : ∃ x, l[i] = x := ⟨_, rfl⟩
    have hx' : l[i]? = some x := by rw [List.getElem?_eq_getElem hlt, hx]
    have hw : IntKind.i64.wrap ((i : Int) + 1) = (i : Int) + 1 := wrap64 (by omega) (by omega)
    have hdx : l.getD i ⟨⟨#[]⟩, true, []⟩ = x := by rw [List.getD_eq_getElem?_getD, hx']; rfl
    have hxm := List.mem_of_getElem? hx'
    have hP := packL_length hk hl (by omega) i hi
    obtain ⟨h1, h2⟩ := base_fit hk hl hx'
    have hxi := hl.id x hxm
    have hxb := hl.b x hxm
    obtain ⟨A, hA⟩ : ∃ A, A = k ++ l.take i := ⟨_, rfl⟩
    have hAl : A.length = k.length + i := by rw [hA, List.length_append, List.length_take]; omega
    have hAb : ∀ o, o ∈ A → o.b.length ≤ 1000 := fun o ho => by
      rw [hA] at ho
      rcases List.mem_append.1 ho with ho | ho
      · exact hk.b o ho
      · exact hl.b o (List.mem_of_mem_take ho)
    have hbI : baseI k l i = rformL x.b A A (⟨#[]⟩, x.nl, x.b) := by rw [baseI, hdx, ← hA, formL_r]
    have hw1 : IntKind.i64.wrap ((k.length : Int) + i) = (k.length : Int) + i := wrap64 (by omega) (by omega)
    have hc : (i : Int) ≤ l.length := by omega
    simp -implicitDefEqProofs -dsimp [hlt, hx, hx', OB.cells]
    refine LpK.mk (anys _ [72, 73, 74, 75]) mixed (fun ((j, st) : Nat × ByteArray × Bool × List Int) => j ≤ A.length ∧ baseI k l i = rformL x.b A (A.drop j) st)
      (fun ((j, st) : Nat × ByteArray × Bool × List Int) => ⟨[(0, .sl .imm n1 2 (obl k)), (1, .sl .imm n2 2 (obl l)), (6, .sl .imm false 1 (u8s (packL k l i))), (7, .lit (.int .i64 i)), (8, .sl .imm st.2.1 1 (u8s st.2.2)), (9, .lit (.string st.1)), (10, .lit (.int .i64 j))], [], 101⟩)
      (fun (j, _) => A.length - j) (0, ⟨#[]⟩, x.nl, x.b) ⟨by omega, by simpa using hbI⟩ (by simp -implicitDefEqProofs -dsimp) ?_
    rintro ⟨j, sb, sn, sl⟩ ⟨hj, he⟩
    by_cases hlt2 : j < A.length
    · have hlt2' : (j : Int) < (k.length : Int) + i := by omega
      obtain ⟨y, hy⟩ : ∃ y, A[j] = y := ⟨_, rfl⟩
      have hy' : A[j]? = some y := by rw [List.getElem?_eq_getElem hlt2, hy]
      have hd : A.drop j = y :: A.drop (j + 1) := by rw [List.drop_eq_getElem_cons hlt2, hy]
      rw [hd, rformL] at he
      have hwj : IntKind.i64.wrap ((j : Int) + 1) = (j : Int) + 1 := wrap64 (by omega) (by omega)
      have hF := rfind_fn n1 n2 k (l.take i) y.id (by rw [List.length_take]; omega)
      rw [← hA] at hF
      have hM := rmake_fn (fndR A y.id).1 x.nl (fndR A y.id).2 x.b (fndR_mem hAb) hxb
      obtain ⟨m, hm⟩ : ∃ m, m = makeS (fndR A y.id).2 x.b := ⟨_, rfl⟩
      rw [← hm] at hM
      have st1 : ∀ h : y.id = ⟨#[]⟩, fstep x.b (sb, sn, sl) (fnO A y) = (sb, sn, sl) := fun h => by rw [fstep, if_neg (fun q => q.1 h)]
      have st2 : ¬ y.id = ⟨#[]⟩ → m.length < sl.length → fstep x.b (sb, sn, sl) (fnO A y) = (y.id, false, m) := fun h h3 => by
        rw [fstep, if_pos ⟨h, by rw [hm] at h3; exact h3⟩, hm]; rfl
      have st3 : ¬ m.length < sl.length → fstep x.b (sb, sn, sl) (fnO A y) = (sb, sn, sl) := fun h => by
        rw [fstep, if_neg (fun q => h (by rw [hm]; exact q.2))]
      have jj : j + 1 ≤ A.length := hlt2
      by_cases ca : j < k.length
      · have ax' : k[j]? = some y := by
          have : (k ++ l.take i)[j]? = some y := by rw [← hA]; exact hy'
          rwa [List.getElem?_append_left ca] at this
        have ax : k[j] = y := by rw [List.getElem?_eq_getElem ca] at ax'; simpa using ax'
        by_cases c2 : y.id = ⟨#[]⟩
        · have c2' := eq_true c2
          have e := st1 c2
          rw [e] at he
          simp -implicitDefEqProofs -dsimp [hlt2', hw1, ca, ax, ax', OB.cells, hc]
          refine CallK.works ?_
          simp -implicitDefEqProofs -dsimp
          refine CallQ.mk (hF) (by simp) ?_
          simp -implicitDefEqProofs -dsimp [hlt, hx, hx', OB.cells]
          refine CallK.works ?_
          simp -implicitDefEqProofs -dsimp
          refine CallQ.mk (hM) (by simp) ?_
          simp -implicitDefEqProofs -dsimp [c2', hwj]
          exact .mk (j + 1, sb, sn, sl) ⟨jj, he⟩ (by simp; omega) (by simp -implicitDefEqProofs -dsimp)
        · by_cases c3 : m.length < sl.length
          · have e := st2 c2 c3
            rw [e] at he
            simp -implicitDefEqProofs -dsimp [hlt2', hw1, ca, ax, ax', OB.cells, hc]
            refine CallK.works ?_
            simp -implicitDefEqProofs -dsimp
            refine CallQ.mk (hF) (by simp) ?_
            simp -implicitDefEqProofs -dsimp [hlt, hx, hx', OB.cells]
            refine CallK.works ?_
            simp -implicitDefEqProofs -dsimp
            refine CallQ.mk (hM) (by simp) ?_
            simp -implicitDefEqProofs -dsimp [c2, c3, hwj]
            exact .mk (j + 1, y.id, false, m) ⟨jj, he⟩ (by simp; omega) (by simp -implicitDefEqProofs -dsimp)
          · have e := st3 c3
            rw [e] at he
            simp -implicitDefEqProofs -dsimp [hlt2', hw1, ca, ax, ax', OB.cells, hc]
            refine CallK.works ?_
            simp -implicitDefEqProofs -dsimp
            refine CallQ.mk (hF) (by simp) ?_
            simp -implicitDefEqProofs -dsimp [hlt, hx, hx', OB.cells]
            refine CallK.works ?_
            simp -implicitDefEqProofs -dsimp
            refine CallQ.mk (hM) (by simp) ?_
            simp -implicitDefEqProofs -dsimp [c2, c3, hwj]
            exact .mk (j + 1, sb, sn, sl) ⟨jj, he⟩ (by simp; omega) (by simp -implicitDefEqProofs -dsimp)
      · have hs : IntKind.i64.wrap ((j : Int) - k.length) = ((j - k.length : Nat) : Int) := by rw [wrap64 (by omega) (by omega)]; omega
        have cb : j - k.length < l.length := by omega
        have bx' : l[j - k.length]? = some y := by
          have : (k ++ l.take i)[j]? = some y := by rw [← hA]; exact hy'
          rw [List.getElem?_append_right (by omega), List.getElem?_take_of_lt (by omega)] at this
          exact this
        have bx : l[j - k.length] = y := by rw [List.getElem?_eq_getElem cb] at bx'; simpa using bx'
        by_cases c2 : y.id = ⟨#[]⟩
        · have c2' := eq_true c2
          have e := st1 c2
          rw [e] at he
          simp -implicitDefEqProofs -dsimp [hlt2', hw1, ca, hs, cb, bx, bx', OB.cells, hc]
          refine CallK.works ?_
          simp -implicitDefEqProofs -dsimp
          refine CallQ.mk (hF) (by simp) ?_
          simp -implicitDefEqProofs -dsimp [hlt, hx, hx', OB.cells]
          refine CallK.works ?_
          simp -implicitDefEqProofs -dsimp
          refine CallQ.mk (hM) (by simp) ?_
          simp -implicitDefEqProofs -dsimp [c2', hwj]
          exact .mk (j + 1, sb, sn, sl) ⟨jj, he⟩ (by simp; omega) (by simp -implicitDefEqProofs -dsimp)
        · by_cases c3 : m.length < sl.length
          · have e := st2 c2 c3
            rw [e] at he
            simp -implicitDefEqProofs -dsimp [hlt2', hw1, ca, hs, cb, bx, bx', OB.cells, hc]
            refine CallK.works ?_
            simp -implicitDefEqProofs -dsimp
            refine CallQ.mk (hF) (by simp) ?_
            simp -implicitDefEqProofs -dsimp [hlt, hx, hx', OB.cells]
            refine CallK.works ?_
            simp -implicitDefEqProofs -dsimp
            refine CallQ.mk (hM) (by simp) ?_
            simp -implicitDefEqProofs -dsimp [c2, c3, hwj]
            exact .mk (j + 1, y.id, false, m) ⟨jj, he⟩ (by simp; omega) (by simp -implicitDefEqProofs -dsimp)
          · have e := st3 c3
            rw [e] at he
            simp -implicitDefEqProofs -dsimp [hlt2', hw1, ca, hs, cb, bx, bx', OB.cells, hc]
            refine CallK.works ?_
            simp -implicitDefEqProofs -dsimp
            refine CallQ.mk (hF) (by simp) ?_
            simp -implicitDefEqProofs -dsimp [hlt, hx, hx', OB.cells]
            refine CallK.works ?_
            simp -implicitDefEqProofs -dsimp
            refine CallQ.mk (hM) (by simp) ?_
            simp -implicitDefEqProofs -dsimp [c2, c3, hwj]
            exact .mk (j + 1, sb, sn, sl) ⟨jj, he⟩ (by simp; omega) (by simp -implicitDefEqProofs -dsimp)
    · have ej : j = A.length := by omega
      rw [ej, List.drop_length, rformL] at he
      have hlt2' : ¬ (j : Int) < (k.length : Int) + i := by omega
      have hp1 : packL k l (i + 1) = packL k l i ++ (txA x.id ++ (txA (baseI k l i).1 ++ (enc (baseI k l i).2.2.length ++ (baseI k l i).2.2))) := by rw [packL, packI, hdx]
      rw [he] at h1 h2 hp1
      simp only at h1 h2 hp1
      have hT1 := rtextI_fn false false (packL k l i) (bs x.id) (by omega) (by rw [bs_length]; omega)
      have hT2 := rtextI_fn false false (packL k l i ++ (enc (bs x.id).length ++ bs x.id)) (bs sb) (by have := txA_length hxi; simp only [txA, bs_length, List.length_append] at *; omega) (by rw [bs_length]; omega)
      have hT3 := rtextI_fn false sn (packL k l i ++ (enc (bs x.id).length ++ (bs x.id ++ (enc (bs sb).length ++ bs sb)))) sl (by have := txA_length hxi; have := txA_length h1; simp only [txA, bs_length, List.length_append] at *; omega) (by omega)
      have z1 : x.id.size ≤ 140737488355328 := by omega
      have z2 : sb.size ≤ 140737488355328 := by omega
      have hfin : packL k l i ++ (enc (bs x.id).length ++ (bs x.id ++ (enc (bs sb).length ++ bs sb))) ++ enc sl.length ++ sl = packL k l (i + 1) := by rw [hp1]; simp [txA, bs_length]
      rw [hfin] at hT3
      simp -implicitDefEqProofs -dsimp [hlt2', hw1, hlt, hx, hx', OB.cells, z1]
      refine CallK.works ?_
      simp -implicitDefEqProofs -dsimp
      refine CallQ.mk (hT1) (by simp) ?_
      simp -implicitDefEqProofs -dsimp [z2]
      refine CallK.works ?_
      simp -implicitDefEqProofs -dsimp
      refine CallQ.mk (hT2) (by simp) ?_
      simp -implicitDefEqProofs -dsimp
      refine CallK.works ?_
      simp -implicitDefEqProofs -dsimp
      refine CallQ.mk (hT3) (by simp) ?_
      simp -implicitDefEqProofs -dsimp [hw]
      exact .mk (i + 1) hlt (by omega) (by simp -implicitDefEqProofs -dsimp)
  · have ei : i = l.length := by omega
    subst ei
    simp -implicitDefEqProofs -dsimp [hlt]
end Go.Proofs.YtekokchejkjjjaaDoor

/-! Bundles: who may be a base, and the one with an id, where the objects ahead are lent. -/
namespace Go.Proofs.YtekokchejkjjjaaDoor
open Go.Sy
set_option maxRecDepth 100000 in
set_option maxHeartbeats 4000000 in
theorem concatOR_fn (n1 n2 : Bool) (a b : List OB) (h0 : 0 < a.length + b.length) (h1 : a.length + b.length ≤ 100000) :
    Fc Tryd.prog 105 [.sl .imm false 1 [.sl .imm n1 2 (obl a), .sl .rd n2 2 (obl b)]] [] (.sl (.own (.loc 1240)) false 2 (obl (a ++ b))) [] := by
  refine Fc.of (anys _ [115]) [] mixed Tryd.func105 rfl (by rfl) (by simp [Tryd.ntmps105]) (by decide) ?_
  simp -implicitDefEqProofs -dsimp [Tryd.ntmps105]
  refine LpK.mk (anys _ [115]) mixed (fun i : Nat => i ≤ 2) (fun i => ⟨[(0, .sl .imm false 1 [.sl .imm n1 2 (obl a), .sl .rd n2 2 (obl b)]), (9, .sl .imm false 1 [.sl .imm n1 2 (obl a), .sl .rd n2 2 (obl b)]), (3, .lit (.int .i64 (twoO a b i).length)), (10, .lit (.int .i64 2)), (11, .lit (.int .i64 i))], [], 36⟩)
    (fun i => 2 - i) 0 (by simp) (by simp -implicitDefEqProofs -dsimp [twoO]) ?_
  intro i hi
  have w1 : IntKind.i64.wrap 1 = 1 := by decide
  have w2 : IntKind.i64.wrap 2 = 2 := by decide
  have w3 : IntKind.i64.wrap (a.length : Int) = a.length := wrap64 (by omega) (by omega)
  have w4 : IntKind.i64.wrap ((a.length : Int) + b.length) = a.length + b.length := wrap64 (by omega) (by omega)
  have g1 : ¬ (a.length : Int) < 0 := by omega
  have g2 : ¬ ((a.length : Int) + b.length) < 0 := by omega
  rcases (by omega : i = 0 ∨ i = 1 ∨ i = 2) with rfl | rfl | rfl
  · simp -implicitDefEqProofs -dsimp [twoO, w1, w3, g1]
    exact .mk 1 (by omega) (by omega) (by simp -implicitDefEqProofs -dsimp [twoO])
  · simp -implicitDefEqProofs -dsimp [twoO, w2, w4, g2]
    exact .mk 2 (by omega) (by omega) (by simp -implicitDefEqProofs -dsimp [twoO])
  · simp -implicitDefEqProofs -dsimp [twoO]
    refine CallK.fresh ?_
    simp -implicitDefEqProofs -dsimp
    refine CallQ.same (growO_fn (a.length + b.length) h0 (by omega)) rfl ?_
    simp -implicitDefEqProofs -dsimp [fr_u8s]
    refine LpK.mk (anys _ [115]) mixed (fun i : Nat => i ≤ 2) (fun i => ⟨[(25, .sl .imm false 1 [.sl .imm n1 2 (obl a), .sl .rd n2 2 (obl b)]), (6, .sl (.own (.loc 1240)) false 2 (obl (twoO a b i))), (26, .lit (.int .i64 2)), (27, .lit (.int .i64 i))], [], 36⟩)
      (fun i => 2 - i) 0 (by simp) (by simp -implicitDefEqProofs -dsimp [twoO]) ?_
    intro i hi
    rcases (by omega : i = 0 ∨ i = 1 ∨ i = 2) with rfl | rfl | rfl
    · have l1 : a.length ≤ 140737488355328 := by omega
      have l2 : a.length * 40 ≤ 140737488355328 := by omega
      simp -implicitDefEqProofs -dsimp [twoO, w1, l1, l2]
      exact .mk 1 (by omega) (by omega) (by simp -implicitDefEqProofs -dsimp [twoO])
    · have l1 : a.length + b.length ≤ 140737488355328 := by omega
      have l2 : (a.length + b.length) * 40 ≤ 140737488355328 := by omega
      simp -implicitDefEqProofs -dsimp [twoO, w2, l1, l2]
      exact .mk 2 (by omega) (by omega) (by simp -implicitDefEqProofs -dsimp [twoO])
    · simp -implicitDefEqProofs -dsimp [twoO]

set_option maxRecDepth 100000 in
set_option maxHeartbeats 4000000 in
theorem concatO0R_fn (n1 n2 : Bool) :
    Fc Tryd.prog 105 [.sl .imm false 1 [.sl .imm n1 2 (obl []), .sl .rd n2 2 (obl [])]] [] (.sl .imm true 2 []) [] := by
  refine Fc.of (anys _ [115]) [] mixed Tryd.func105 rfl (by rfl) (by simp [Tryd.ntmps105]) (by decide) ?_
  simp -implicitDefEqProofs -dsimp [Tryd.ntmps105]
  refine LpK.mk (anys _ [115]) mixed (fun i : Nat => i ≤ 2) (fun i => ⟨[(0, .sl .imm false 1 [.sl .imm n1 2 [], .sl .rd n2 2 []]), (9, .sl .imm false 1 [.sl .imm n1 2 [], .sl .rd n2 2 []]), (3, .lit (.int .i64 0)), (10, .lit (.int .i64 2)), (11, .lit (.int .i64 i))], [], 36⟩)
    (fun i => 2 - i) 0 (by simp) (by simp -implicitDefEqProofs -dsimp) ?_
  intro i hi
  have w1 : IntKind.i64.wrap 1 = 1 := by decide
  have w2 : IntKind.i64.wrap 2 = 2 := by decide
  rcases (by omega : i = 0 ∨ i = 1 ∨ i = 2) with rfl | rfl | rfl
  · simp -implicitDefEqProofs -dsimp [w1, wrap_0]
    exact .mk 1 (by omega) (by omega) (by simp -implicitDefEqProofs -dsimp)
  · simp -implicitDefEqProofs -dsimp [w2, wrap_0]
    exact .mk 2 (by omega) (by omega) (by simp -implicitDefEqProofs -dsimp)
  · simp -implicitDefEqProofs -dsimp
    refine CallK.fresh ?_
    simp -implicitDefEqProofs -dsimp
    refine CallQ.same (growO0_fn) rfl ?_
    simp -implicitDefEqProofs -dsimp [fr_u8s]
    refine LpK.mk (anys _ [115]) mixed (fun i : Nat => i ≤ 2) (fun i => ⟨[(25, .sl .imm false 1 [.sl .imm n1 2 [], .sl .rd n2 2 []]), (6, .sl .imm true 2 []), (26, .lit (.int .i64 2)), (27, .lit (.int .i64 i))], [], 36⟩)
      (fun i => 2 - i) 0 (by simp) (by simp -implicitDefEqProofs -dsimp) ?_
    intro i hi
    rcases (by omega : i = 0 ∨ i = 1 ∨ i = 2) with rfl | rfl | rfl
    · simp -implicitDefEqProofs -dsimp [w1]
      exact .mk 1 (by omega) (by omega) (by simp -implicitDefEqProofs -dsimp)
    · simp -implicitDefEqProofs -dsimp [w2]
      exact .mk 2 (by omega) (by omega) (by simp -implicitDefEqProofs -dsimp)
    · simp -implicitDefEqProofs -dsimp
theorem concatIR_fn (n1 n2 : Bool) (a b : List OB) (h1 : a.length + b.length ≤ 100000) : Fc Tryd.prog 105 [.sl .imm false 1 [.sl .imm n1 2 (obl a), .sl .rd n2 2 (obl b)]] [] (.sl .imm (a ++ b).isEmpty 2 (obl (a ++ b))) [] := by
  by_cases h : 0 < a.length + b.length
  · have e : (a ++ b).isEmpty = false := by
      cases a with
      | nil => cases b with
        | nil => simp at h
        | cons => rfl
      | cons => rfl
    rw [e]
    have := (concatOR_fn n1 n2 a b h h1).fz [.loc 1240]
    simpa using this
  · have ha : a = [] := List.eq_nil_of_length_eq_zero (by omega)
    have hb : b = [] := List.eq_nil_of_length_eq_zero (by omega)
    subst ha; subst hb
    exact concatO0R_fn n1 n2

set_option maxRecDepth 100000 in
theorem basesR_mk (n1 n2 : Bool) (a b : List OB) : Fc Tryd.prog 90 [.sl .imm n1 2 (obl a), .sl .rd n2 2 (obl b)] [] (.fn (.func 104) [] [.ptr 2 0, .ptr 3 0]) [(2, .cells [.sl .imm n1 2 (obl a)]), (3, .cells [.sl .rd n2 2 (obl b)])] := by
  refine Fc.of (anys _ []) [] mixed Tryd.func90 rfl (by rfl) (by simp [Tryd.ntmps90]) (by decide) ?_
  simp -implicitDefEqProofs -dsimp [Tryd.ntmps90]
noncomputable def fiHR (n1 n2 : Bool) (a b : List OB) (i : ByteArray) (s : LoopState) (j : Option Code) (r : Bool × List Int) (ok : Bool) : List (Nat × Ob) :=
  [(100000, .loop [(5, .ptr 100003 0), (6, .ptr 100004 0), (7, .ptr 100005 0)] 19 cd110 s j), (100001, .cells [.sl .imm n1 2 (obl a)]), (100002, .cells [.sl .rd n2 2 (obl b)]), (100003, .cells [.lit (.string i)]),
    (100004, .cells [.sl .imm r.1 1 (u8s r.2)]), (100005, .cells [.lit (.bool ok)])]
attribute [simp] fiHR

set_option maxRecDepth 100000 in
set_option maxHeartbeats 16000000 in
theorem findsR_fn (n1 n2 : Bool) (a b : List OB) (q : ByteArray) (hab : a.length + b.length ≤ 1000) :
    Fc Tryd.prog 104 [.yl 100000, .ptr 100001 0, .ptr 100002 0] (fiHR n1 n2 a b q .ready none (true, []) false) (.tup [])
      (fiHR n1 n2 a b q (if fndT (a ++ b) q = true then .done else .ready) (if fndT (a ++ b) q = true then some .ret else none) (fndR (a ++ b) q) (fndT (a ++ b) q)) := by
  have hC := concatIR_fn n1 n2 a b (by omega)
  obtain ⟨A, hAe⟩ : ∃ A, A = a ++ b := ⟨_, rfl⟩
  have hAl : A.length ≤ 1000 := by rw [hAe, List.length_append]; exact hab
  rw [← hAe] at hC ⊢
  refine Fc.of (anys _ [105]) [] mixed Tryd.func104 rfl (by rfl) (by simp [Tryd.ntmps104]) (by decide) ?_
  simp -implicitDefEqProofs -dsimp [Tryd.ntmps104]
  refine CallK.works ?_
  simp -implicitDefEqProofs -dsimp
  refine CallQ.mk (hC) (by simp) ?_
  simp -implicitDefEqProofs -dsimp
  refine LpK.mk (anys _ [105]) mixed (fun ((i, S) : Nat × List ByteArray) => i ≤ A.length ∧ hasS S q = false ∧ fndX A q = fndX (A.drop i) q)
    (fun ((i, S) : Nat × List ByteArray) => ⟨[(0, .yl 100000), (4, .mp 7), (11, .sl .imm A.isEmpty 2 (obl A)), (12, .lit (.int .i64 A.length)), (13, .lit (.int .i64 i))],
      (7, .map (seeE S)) :: fiHR n1 n2 a b q .ready none (true, []) false, 32⟩)
    (fun (i, _) => A.length - i) (0, []) ⟨by omega, by simp [hasS], by simp⟩ (by simp -implicitDefEqProofs -dsimp) ?_
  rintro ⟨i, S⟩ ⟨hi, hS, he⟩
  by_cases hlt : i < A.length
  · obtain ⟨x, hx⟩ : ∃ x, A[i] = x := ⟨_, rfl⟩
    have hx' : A[i]? = some x := by rw [List.getElem?_eq_getElem hlt, hx]
    have hw : IntKind.i64.wrap ((i : Int) + 1) = (i : Int) + 1 := wrap64 (by omega) (by omega)
    have hd : A.drop i = x :: A.drop (i + 1) := by rw [List.drop_eq_getElem_cons hlt, hx]
    rw [hd, fndX] at he
    by_cases c0 : hasS S x.id = true
    · obtain ⟨j, j1, j2⟩ := fndS_some c0
      have jl : j < S.length := (List.getElem?_eq_some_iff.1 j2).1
      have hne : ¬ x.id = q := fun h => by rw [h, hS] at c0; cases c0
      rw [if_neg hne] at he
      simp -implicitDefEqProofs -dsimp [hlt, hx, hx', OB.cells, lookupPV, keyC_str, j1, j2, jl, mapUpdSt, mapEntryPV, entrySt, hw]
      exact .mk (i + 1, S) ⟨hlt, hS, he⟩ (by simp; omega) (by simp -implicitDefEqProofs -dsimp)
    · have c0 : hasS S x.id = false := by simpa using c0
      have j0 := fndS_none.2 c0
      by_cases c1 : x.id = q
      · rw [if_pos c1] at he
        have e1 : fndT A q = true := by rw [fndT, he]; rfl
        have e2 : fndR A q = (x.nl, x.b) := by rw [fndR, he]
        simp -implicitDefEqProofs -dsimp [hlt, hx, hx', OB.cells, lookupPV, keyC_str, j0]
        refine YlK.mk (anys _ []) [] mixed 99999 rfl rfl (by rfl) rfl (by decide) rfl ?_
        intro r vals
        simp -implicitDefEqProofs -dsimp [c1, e1, e2]
      · rw [if_neg c1] at he
        have hS2 : hasS (S ++ [x.id]) q = false := by
          simp only [hasS, List.any_append, Bool.or_eq_false_iff]
          exact ⟨hS, by simp [c1]⟩
        simp -implicitDefEqProofs -dsimp [hlt, hx, hx', OB.cells, lookupPV, keyC_str, j0]
        refine YlK.mk (anys _ []) [] mixed 99999 rfl rfl (by rfl) rfl (by decide) rfl ?_
        intro r vals
        simp -implicitDefEqProofs -dsimp [c1, mapUpdSt, mapEntryPV, entrySt, keyC_str, j0, hw]
        exact .mk (i + 1, S ++ [x.id]) ⟨hlt, hS2, he⟩ (by simp; omega) (by simp -implicitDefEqProofs -dsimp)
  · have ei : i = A.length := by omega
    subst ei
    rw [List.drop_length, fndX] at he
    have e1 : fndT A q = false := by rw [fndT, he]; rfl
    have e2 : fndR A q = (true, []) := by rw [fndR, he]
    simp -implicitDefEqProofs -dsimp [hlt, e1, e2]

set_option maxRecDepth 100000 in
set_option maxHeartbeats 16000000 in
theorem findR_fn (n1 n2 : Bool) (a b : List OB) (q : ByteArray) (hab : a.length + b.length ≤ 1000) :
    Fc Tryd.prog 110 [.sl .imm n1 2 (obl a), .sl .rd n2 2 (obl b), .lit (.string q)] [] (.tup [.sl .imm (fndR (a ++ b) q).1 1 (u8s (fndR (a ++ b) q).2), .lit (.bool (fndT (a ++ b) q))]) [] := by
  have hF := findsR_fn n1 n2 a b q hab
  obtain ⟨⟨rn, rb⟩, hr⟩ : ∃ r, r = fndR (a ++ b) q := ⟨_, rfl⟩
  have hn : fndT (a ++ b) q = false → fndR (a ++ b) q = (true, []) := fun h => by
    rw [fndT] at h
    cases e : fndX (a ++ b) q with
    | none => rw [fndR, e]
    | some x => rw [e] at h; cases h
  rw [← hr] at hF hn ⊢
  cases ht : fndT (a ++ b) q with
  | true =>
    rw [ht] at hF
    refine Fc.of (anys _ [90, 104]) [] mixed Tryd.func110 rfl (by rfl) (by simp [Tryd.ntmps110]) (by decide) ?_
    simp -implicitDefEqProofs -dsimp [Tryd.ntmps110]
    refine CallK.works ?_
    simp -implicitDefEqProofs -dsimp
    refine CallQ.mk (basesR_mk n1 n2 a b) (by simp) ?_
    simp -implicitDefEqProofs -dsimp
    refine RfK.mk 99998 cd110 [(5, .ptr 5 0), (6, .ptr 6 0), (7, .ptr 7 0)] rfl rfl (by decide) (by simp -implicitDefEqProofs -dsimp) ?_
    simp -implicitDefEqProofs -dsimp
    refine CallK.works ?_
    simp -implicitDefEqProofs -dsimp
    refine CallQ.mk (hF.heapW (h2 := [(100000, .loop [(5, .ptr 100003 0), (6, .ptr 100004 0), (7, .ptr 100005 0)] 19 cd110 .ready none), (100001, .cells [.sl .imm n1 2 (obl a)]), (100002, .cells [.sl .rd n2 2 (obl b)]), (100003, .cells [.lit (.string q)]), (100004, .cells [.sl .imm true 0 []]), (100005, .cells [.lit (.bool false)])]) (by simp)) (by simp) ?_
    simp -implicitDefEqProofs -dsimp [jumpK]
  | false =>
    obtain ⟨rfl, rfl⟩ := Prod.mk.inj (hn ht)
    rw [ht] at hF
    refine Fc.tup (xs := [.sl .imm true 0 [], .lit (.bool false)]) ?_ (by simp)
    refine Fc.of (anys _ [90, 104]) [] mixed Tryd.func110 rfl (by rfl) (by simp [Tryd.ntmps110]) (by decide) ?_
    simp -implicitDefEqProofs -dsimp [Tryd.ntmps110]
    refine CallK.works ?_
    simp -implicitDefEqProofs -dsimp
    refine CallQ.mk (basesR_mk n1 n2 a b) (by simp) ?_
    simp -implicitDefEqProofs -dsimp
    refine RfK.mk 99998 cd110 [(5, .ptr 5 0), (6, .ptr 6 0), (7, .ptr 7 0)] rfl rfl (by decide) (by simp -implicitDefEqProofs -dsimp) ?_
    simp -implicitDefEqProofs -dsimp
    refine CallK.works ?_
    simp -implicitDefEqProofs -dsimp
    refine CallQ.mk (hF.heapW (h2 := [(100000, .loop [(5, .ptr 100003 0), (6, .ptr 100004 0), (7, .ptr 100005 0)] 19 cd110 .ready none), (100001, .cells [.sl .imm n1 2 (obl a)]), (100002, .cells [.sl .rd n2 2 (obl b)]), (100003, .cells [.lit (.string q)]), (100004, .cells [.sl .imm true 0 []]), (100005, .cells [.lit (.bool false)])]) (by simp)) (by simp) ?_
    simp -implicitDefEqProofs -dsimp [jumpK]
end Go.Proofs.YtekokchejkjjjaaDoor
