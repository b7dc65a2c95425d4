/- Deltas: what two texts have in common, inserts, one part. (and what stands on it) -/
import Derived.Test.YtekokchejkjjjaaDoorN9
set_option linter.unusedSimpArgs false
set_option linter.unusedVariables false

/-! Deltas: what two texts have in common, inserts, one part. -/
namespace Go.Sy
/-- How many bytes two texts have in common in front. -/
def cmn : List Int → List Int → Nat
  | x :: xs, y :: ys => if x = y then cmn xs ys + 1 else 0
  | _, _ => 0
theorem cmn_step {a b : List Int} {i : Nat} (h1 : i < a.length) (h2 : i < b.length) : cmn (a.drop i) (b.drop i) = if a[i] = b[i] then cmn (a.drop (i + 1)) (b.drop (i + 1)) + 1 else 0 := by
  rw [List.drop_eq_getElem_cons h1, List.drop_eq_getElem_cons h2, cmn]
theorem cmn_nil (a : List Int) : cmn a [] = 0 := by cases a <;> rfl
theorem cmn_le : ∀ (a b : List Int), cmn a b ≤ a.length ∧ cmn a b ≤ b.length
  | [], b => by simp [cmn]
  | x :: xs, [] => by simp [cmn]
  | x :: xs, y :: ys => by
    have := cmn_le xs ys
    simp only [cmn]
    split <;> simp <;> omega
end Go.Sy
namespace Go.Proofs.YtekokchejkjjjaaDoor
open Go.Sy

set_option maxRecDepth 100000 in
set_option maxHeartbeats 4000000 in
theorem common_fn (n1 n2 : Bool) (a b : List Int) (ha : a.length < 9223372036854775807) : Fc Tryd.prog 116 [.sl .imm n1 1 (u8s a), .sl .imm n2 1 (u8s b)] [] (.lit (.int .i64 (cmn a b))) [] := by
  refine Fc.of (anys _ []) sch116 mixed Tryd.func116 rfl (by rfl) (by simp [Tryd.ntmps116]) (by decide) ?_
  simp -implicitDefEqProofs -dsimp [Tryd.ntmps116]
  refine LpK.mk (anys _ []) mixed (fun i => i ≤ a.length ∧ i ≤ b.length ∧ cmn a b = i + cmn (a.drop i) (b.drop i))
    (fun (i : Nat) => ⟨[(0, .sl .imm n1 1 (u8s a)), (1, .sl .imm n2 1 (u8s b)), (5, .lit (.int .i64 i))], [], 30⟩) (fun i => a.length - i) 0 (by simp) (by simp -implicitDefEqProofs -dsimp) ?_
  rintro i ⟨h1, h2, h3⟩
  by_cases hl : i < a.length
  · by_cases hm : i < b.length
    · have hs := cmn_step hl hm
      have hw : IntKind.i64.wrap ((i : Int) + 1) = ((i + 1 : Nat) : Int) := wrap64 (by omega) (by omega)
      by_cases he : a[i] = b[i]
      · rw [if_pos he] at hs
        simp -implicitDefEqProofs -dsimp [hl, hm, he, hw]
        refine .mk (i + 1) ⟨by omega, by omega, by omega⟩ (by omega) (by simp -implicitDefEqProofs -dsimp)
      · rw [if_neg he] at hs
        have e : cmn a b = i := by omega
        simp -implicitDefEqProofs -dsimp [hl, hm, he, e]
    · have e : cmn a b = i := by rw [h3, List.drop_eq_nil_of_le (by omega : b.length ≤ i), cmn_nil]; rfl
      simp -implicitDefEqProofs -dsimp [hl, hm, e]
  · have e : cmn a b = i := by rw [h3, List.drop_eq_nil_of_le (by omega : a.length ≤ i)]; simp [cmn]
    simp -implicitDefEqProofs -dsimp [hl, e]

set_option maxRecDepth 100000 in
set_option maxHeartbeats 4000000 in
theorem clip_fn (nl : Bool) (b : List Int) : Fc Tryd.prog 118 [.sl .imm nl 1 (u8s b)] [] (.sl .imm nl 1 (u8s b)) [] := by
  have q := Fc.of (P := Tryd.prog) (args := [.sl .imm nl 1 (u8s b)]) (h := []) (X := .sl (.own (.wk 8)) nl 1 (u8s b)) (H := []) (anys _ []) [] mixed Tryd.func118 rfl (by rfl) (by simp [Tryd.ntmps118]) (by decide) ?_
  · have := q.fz [.wk 8]
    simpa [fzOf] using this
  · simp -implicitDefEqProofs -dsimp [Tryd.ntmps118]

/-- An insert of some bytes. -/
def ins (o l : List Int) : List Int := if l = [] then o else o ++ enc 0 ++ enc l.length ++ l

theorem num_fz (nl : Bool) (b : List Int) (n : Nat) (hn : nl = true → b = []) (hb : b.length ≤ 10000000) (h : n < 18446744073709551616) :
    Fc Tryd.prog 69 [.sl .imm nl 1 (u8s b), .lit (.int .u64 n)] [] (.sl .imm false 1 (u8s (b ++ enc n))) [] := by
  have := (num_fn nl b n hn hb h).fz [.loc 1070]
  simpa [fzOf] using this
theorem text_fz (nl n2 : Bool) (b x : List Int) (hn : nl = true → b = []) (hb : b.length ≤ 10000000) (hx : x.length ≤ 10000000) :
    Fc Tryd.prog 71 [.sl .imm nl 1 (u8s b), .sl .imm n2 1 (u8s x)] [] (.sl .imm false 1 (u8s (b ++ (enc x.length ++ x)))) [] := by
  have := (text_fn nl n2 b x hn hb hx).fz [.loc 1090]
  simpa [fzOf] using this

set_option maxRecDepth 100000 in
set_option maxHeartbeats 4000000 in
theorem insert_fn (b l : List Int) (nl : Bool) (hb : b.length ≤ 1000000) (hl : l.length ≤ 1000000) : Fc Tryd.prog 108 [.sl .imm false 1 (u8s b), .sl .imm nl 1 (u8s l)] [] (.sl .imm false 1 (u8s (ins b l))) [] := by
  refine Fc.of (anys _ [69, 71]) [] mixed Tryd.func108 rfl (by rfl) (by simp [Tryd.ntmps108]) (by decide) ?_
  have h0 : (enc 0).length ≤ 10 := enc_u64 (by omega)
  by_cases he : l = []
  · subst he
    simp -implicitDefEqProofs -dsimp [Tryd.ntmps108, ins]
  · have e : ins b l = b ++ (enc 0 ++ (enc l.length ++ l)) := by simp [ins, he]
    have hl0 : ¬ (l.length : Int) = 0 := by have := List.length_pos_iff.2 he; omega
    simp -implicitDefEqProofs -dsimp [Tryd.ntmps108, he, hl0, e]
    refine CallK.works ?_
    simp -implicitDefEqProofs -dsimp
    refine CallQ.same (num_fz false b 0 (by simp) (by omega) (by omega)) rfl ?_
    simp -implicitDefEqProofs -dsimp
    refine CallK.works ?_
    simp -implicitDefEqProofs -dsimp
    refine CallQ.same (text_fz false nl (b ++ enc 0) l (by simp) (by simp; omega) (by omega)) rfl ?_
    simp -implicitDefEqProofs -dsimp
end Go.Proofs.YtekokchejkjjjaaDoor

/-! Deltas: one part of a delta. -/
namespace Go.Proofs.YtekokchejkjjjaaDoor
open Go.Sy

/-- One part, of a text that lacks so many bytes: what it has, why it has none, the reader behind it. -/
def oneS (bn : Bool) (base : List Int) (w : WS) (lacks : Nat) : (Option (Bool × List Int) × Int) × WS :=
  if w.num.2.fail ≠ 0 then ((none, w.num.2.fail), w.num.2)
  else if lacks < w.num.1 then ((none, 4), w.num.2)
  else if 0 < w.num.1 then
    if w.num.2.num.2.fail ≠ 0 then ((none, w.num.2.num.2.fail), w.num.2.num.2)
    else if base.length < w.num.2.num.1 ∨ base.length < w.num.2.num.1 + w.num.1 then ((none, 11), w.num.2.num.2)
    else ((some (bn, (base.drop w.num.2.num.1).take w.num.1), 0), w.num.2.num.2)
  else
    if (w.num.2.text 262144).2.fail ≠ 0 then ((none, (w.num.2.text 262144).2.fail), (w.num.2.text 262144).2)
    else if lacks < (w.num.2.text 262144).1.2.length then ((none, 4), (w.num.2.text 262144).2)
    else if (w.num.2.text 262144).1.2 = [] then ((none, 3), (w.num.2.text 262144).2)
    else ((some (w.num.2.text 262144).1, 0), (w.num.2.text 262144).2)

def rowPV : Option (Bool × List Int) → PV
  | none => .sl .imm true 0 []
  | some (nl, l) => .sl .imm nl 1 (u8s l)
@[simp] theorem rowPV_none : rowPV none = .sl .imm true 0 [] := (rfl)
@[simp] theorem rowPV_some (nl : Bool) (l : List Int) : rowPV (some (nl, l)) = .sl .imm nl 1 (u8s l) := (rfl)

theorem WS.num_lt {w : WS} (h : w.Ok) : w.num.1 < 18446744073709551616 := by
  have := tk_spec w.b h.bytes
  unfold WS.num
  split
  · simp
  · split
    · simp
    · simp only; omega

set_option maxRecDepth 100000 in
set_option maxHeartbeats 4000000 in
theorem one_fn (bn : Bool) (base : List Int) (w : WS) (hw : w.Ok) (lacks : Nat) (hl : lacks ≤ 262144) (hb : base.length ≤ 1000000) :
    Fc Tryd.prog 117 [.ptr 100000 0, .sl .imm bn 1 (u8s base), .lit (.int .i64 lacks)] [(100000, .cells (wcells w))]
      (.tup [rowPV (oneS bn base w lacks).1.1, .lit (.int .i64 (oneS bn base w lacks).1.2)]) [(100000, .cells (wcells (oneS bn base w lacks).2))] := by
  refine Fc.of (anys _ [77, 97, 96]) [] mixed Tryd.func117 rfl (by rfl) (by simp [Tryd.ntmps117]) (by decide) ?_
  have w1 : IntKind.u64.wrap (lacks : Int) = (lacks : Int) := by rw [wrap_is_u64]; omega
  have o1 := WS.num_ok hw
  have l1 := WS.num_lt hw
  simp -implicitDefEqProofs -dsimp [Tryd.ntmps117]
  refine CallK.works ?_
  simp -implicitDefEqProofs -dsimp
  refine CallQ.same (wnum_fn w hw) rfl ?_
  simp -implicitDefEqProofs -dsimp
  refine CallK.reads ?_
  simp -implicitDefEqProofs -dsimp
  refine CallQ.same (fail_fn _) rfl ?_
  simp -implicitDefEqProofs -dsimp
  by_cases h1 : w.num.2.fail = 0
  · have n1 : ¬ (w.num.2.fail ≠ 0) := fun h => h h1
    by_cases h2 : (lacks : Int) < (w.num.1 : Int)
    · have e : oneS bn base w lacks = ((none, 4), w.num.2) := by unfold oneS; rw [if_neg n1, if_pos (by omega)]
      simp -implicitDefEqProofs -dsimp [h1, w1, h2, e]
    · have n2 : ¬ lacks < w.num.1 := by omega
      by_cases h3 : (0 : Int) < (w.num.1 : Int)
      · have p3 : 0 < w.num.1 := by omega
        have o2 := WS.num_ok o1
        have l2 := WS.num_lt o1
        simp -implicitDefEqProofs -dsimp [h1, w1, h2, p3]
        refine CallK.works ?_
        simp -implicitDefEqProofs -dsimp
        refine CallQ.same (wnum_fn w.num.2 o1) rfl ?_
        simp -implicitDefEqProofs -dsimp [h1, w1, h2, p3]
        refine CallK.reads ?_
        simp -implicitDefEqProofs -dsimp
        refine CallQ.same (fail_fn _) rfl ?_
        simp -implicitDefEqProofs -dsimp [h1, w1, h2, p3]
        by_cases h4 : w.num.2.num.2.fail = 0
        · have n4 : ¬ (w.num.2.num.2.fail ≠ 0) := fun h => h h4
          have w2 : IntKind.u64.wrap (base.length : Int) = (base.length : Int) := by rw [wrap_is_u64]; omega
          by_cases h5 : base.length < w.num.2.num.1
          · have e : oneS bn base w lacks = ((none, 11), w.num.2.num.2) := by unfold oneS; rw [if_neg n1, if_neg n2, if_pos p3, if_neg n4, if_pos (.inl h5)]
            simp -implicitDefEqProofs -dsimp [h4, w2, h5, e]
          · have w3 : IntKind.u64.wrap ((base.length : Int) - (w.num.2.num.1 : Int)) = (base.length : Int) - (w.num.2.num.1 : Int) := by rw [wrap_is_u64]; omega
            by_cases h6 : (base.length : Int) - (w.num.2.num.1 : Int) < (w.num.1 : Int)
            · have e : oneS bn base w lacks = ((none, 11), w.num.2.num.2) := by unfold oneS; rw [if_neg n1, if_neg n2, if_pos p3, if_neg n4, if_pos (.inr (by omega))]
              simp -implicitDefEqProofs -dsimp [h4, w2, w3, h5, h6, e]
            · have e : oneS bn base w lacks = ((some (bn, (base.drop w.num.2.num.1).take w.num.1), 0), w.num.2.num.2) := by unfold oneS; rw [if_neg n1, if_neg n2, if_pos p3, if_neg n4, if_neg (by omega)]
              have w4 : IntKind.u64.wrap ((w.num.2.num.1 : Int) + (w.num.1 : Int)) = (w.num.2.num.1 : Int) + (w.num.1 : Int) := by rw [wrap_is_u64]; omega
              have w5 : (w.num.2.num.1 : Int) ≤ (w.num.2.num.1 : Int) + (w.num.1 : Int) := by omega
              have w6 : (w.num.2.num.1 : Int) + (w.num.1 : Int) ≤ (base.length : Int) := by omega
              have w7 : ((w.num.2.num.1 : Int) + (w.num.1 : Int)).toNat = w.num.2.num.1 + w.num.1 := by omega
              have w8 : (base.take (w.num.2.num.1 + w.num.1)).drop w.num.2.num.1 = (base.drop w.num.2.num.1).take w.num.1 := by rw [List.drop_take]; congr 1; omega
              have w9 : (0 : Int) ≤ (w.num.2.num.1 : Int) + (w.num.1 : Int) := by omega
              simp -implicitDefEqProofs -dsimp [h4, w2, w3, h5, h6, e, w4, w5, w6, w7, w8, w9]
        · have e : oneS bn base w lacks = ((none, w.num.2.num.2.fail), w.num.2.num.2) := by unfold oneS; rw [if_neg n1, if_neg n2, if_pos p3, if_pos h4]
          simp -implicitDefEqProofs -dsimp [h4, e]
      · have p3 : ¬ 0 < w.num.1 := by omega
        have o2 := WS.text_ok o1 262144
        simp -implicitDefEqProofs -dsimp [h1, w1, h2, p3]
        refine CallK.works ?_
        simp -implicitDefEqProofs -dsimp
        refine CallQ.same (wtext_fn w.num.2 o1 262144 (by omega) (by omega)) rfl ?_
        simp -implicitDefEqProofs -dsimp [h1, w1, h2, p3]
        refine CallK.reads ?_
        simp -implicitDefEqProofs -dsimp
        refine CallQ.same (fail_fn _) rfl ?_
        simp -implicitDefEqProofs -dsimp [h1, w1, h2, p3]
        by_cases h4 : (w.num.2.text 262144).2.fail = 0
        · have n4 : ¬ ((w.num.2.text 262144).2.fail ≠ 0) := fun h => h h4
          by_cases h5 : (lacks : Int) < ((w.num.2.text 262144).1.2.length : Int)
          · have e : oneS bn base w lacks = ((none, 4), (w.num.2.text 262144).2) := by unfold oneS; rw [if_neg n1, if_neg n2, if_neg p3, if_neg n4, if_pos (by omega)]
            simp -implicitDefEqProofs -dsimp [h4, h5, e]
          · by_cases h6 : (w.num.2.text 262144).1.2 = []
            · have e : oneS bn base w lacks = ((none, 3), (w.num.2.text 262144).2) := by unfold oneS; rw [if_neg n1, if_neg n2, if_neg p3, if_neg n4, if_neg (by omega), if_pos h6]
              have h7 : ((w.num.2.text 262144).1.2.length : Int) = 0 := by rw [h6]; rfl
              have h8 : ¬ (lacks : Int) < 0 := by omega
              simp -implicitDefEqProofs -dsimp [h4, h5, h6, h7, h8, e]
            · have e : oneS bn base w lacks = ((some (w.num.2.text 262144).1, 0), (w.num.2.text 262144).2) := by unfold oneS; rw [if_neg n1, if_neg n2, if_neg p3, if_neg n4, if_neg (by omega), if_neg h6]
              have h7 : ¬ ((w.num.2.text 262144).1.2.length : Int) = 0 := by have := List.length_pos_iff.2 h6; omega
              have e2 : rowPV (some (w.num.2.text 262144).1) = .sl .imm (w.num.2.text 262144).1.1 1 (u8s (w.num.2.text 262144).1.2) := rfl
              simp -implicitDefEqProofs -dsimp [h4, h5, h6, h7, e, e2]
        · have e : oneS bn base w lacks = ((none, (w.num.2.text 262144).2.fail), (w.num.2.text 262144).2) := by unfold oneS; rw [if_neg n1, if_neg n2, if_neg p3, if_pos h4]
          simp -implicitDefEqProofs -dsimp [h4, e]
  · have e : oneS bn base w lacks = ((none, w.num.2.fail), w.num.2) := by unfold oneS; rw [if_pos h1]
    simp -implicitDefEqProofs -dsimp [h1, e]

theorem oneS_cases (bn : Bool) (base : List Int) {w : WS} (hw : w.Ok) (lacks : Nat) :
    (∃ b' l w', oneS bn base w lacks = ((some (b', l), 0), w') ∧ l ≠ [] ∧ l.length ≤ lacks ∧ w'.Ok) ∨ (∃ er w', oneS bn base w lacks = ((none, er), w') ∧ er ≠ 0 ∧ w'.Ok) := by
  have o1 := WS.num_ok hw
  have o2 := WS.num_ok o1
  have o3 := WS.text_ok o1 262144
  unfold oneS
  split
  · rename_i h; exact .inr ⟨_, _, rfl, h, o1⟩
  · split
    · exact .inr ⟨_, _, rfl, by decide, o1⟩
    · split
      · split
        · rename_i h; exact .inr ⟨_, _, rfl, h, o2⟩
        · split
          · exact .inr ⟨_, _, rfl, by decide, o2⟩
          · refine .inl ⟨_, _, _, rfl, fun h => ?_, by simp; omega, o2⟩
            have := congrArg List.length h
            simp at this; omega
      · split
        · rename_i h; exact .inr ⟨_, _, rfl, h, o3⟩
        · split
          · exact .inr ⟨_, _, rfl, by decide, o3⟩
          · rename_i hle
            split
            · exact .inr ⟨_, _, rfl, by decide, o3⟩
            · rename_i h; exact .inl ⟨_, _, _, rfl, h, Nat.le_of_not_lt hle, o3⟩
end Go.Proofs.YtekokchejkjjjaaDoor

/-! Deltas: the text of a delta. -/
namespace Go.Proofs.YtekokchejkjjjaaDoor
open Go.Sy

/-- The parts of a text of n bytes: why it ends, what stands there, the reader behind. -/
def playW (bn : Bool) (base : List Int) (n : Nat) (w : WS) (out : List Int) : Int × List Int × WS :=
  if h : out.length < n then
    match oneS bn base w (n - out.length) with
    | ((some (_, l), _), w') => if h2 : l = [] then (0, out, w') else playW bn base n w' (out ++ l)
    | ((none, e), w') => (e, out, w')
  else (0, out, w)
termination_by n - out.length
decreasing_by
  have := List.length_pos_iff.2 h2
  simp only [List.length_append]; omega

def playS (bn : Bool) (base : List Int) (nl : Bool) (b : List Int) : Option (List Int) × Int :=
  let q := WS.num ⟨nl, b, 0⟩
  let e0 := if 262144 < q.1 then 4 else q.2.fail
  if e0 ≠ 0 then (none, e0)
  else
    let r := playW bn base q.1 q.2 []
    let e1 := if r.1 = 0 then r.2.2.fin else r.1
    if e1 ≠ 0 then (none, e1) else (some r.2.1, 0)
def outPV : Option (List Int) → PV
  | none => .sl .imm true 0 []
  | some l => .sl .imm l.isEmpty 1 (u8s l)
@[simp] theorem outPV_none : outPV none = .sl .imm true 0 [] := (rfl)
@[simp] theorem outPV_some (l : List Int) : outPV (some l) = .sl .imm l.isEmpty 1 (u8s l) := (rfl)

set_option maxRecDepth 100000 in
set_option maxHeartbeats 4000000 in
theorem play_fn (bn : Bool) (base : List Int) (nl : Bool) (b : List Int) (hn : nl = true → b = []) (hi : InB b) (hb : base.length ≤ 1000000) (hl : b.length ≤ 1000000) :
    Fc Tryd.prog 111 [.sl .imm bn 1 (u8s base), .sl .imm nl 1 (u8s b)] [] (.tup [outPV (playS bn base nl b).1, .lit (.int .i64 (playS bn base nl b).2)]) [] := by
  refine Fc.of (anys _ [76, 77, 97, 117, 79, 118]) [] mixed Tryd.func111 rfl (by rfl) (by simp [Tryd.ntmps111]) (by decide) ?_
  have hw : WS.Ok ⟨nl, b, 0⟩ := ⟨hn, hi, hl⟩
  have o1 := WS.num_ok hw
  have l1 := WS.num_lt hw
  simp -implicitDefEqProofs -dsimp [Tryd.ntmps111]
  refine CallK.works ?_
  simp -implicitDefEqProofs -dsimp
  refine CallQ.mk (open_fn nl b hn hl) (by simp) ?_
  simp -implicitDefEqProofs -dsimp
  refine CallK.works ?_
  simp -implicitDefEqProofs -dsimp
  refine CallQ.same (wnum_fn _ hw) rfl ?_
  simp -implicitDefEqProofs -dsimp
  refine CallK.reads ?_
  simp -implicitDefEqProofs -dsimp
  refine CallQ.same (fail_fn _) rfl ?_
  simp -implicitDefEqProofs -dsimp
  have hq : playS bn base nl b = if (if 262144 < (WS.num ⟨nl, b, 0⟩).1 then 4 else (WS.num ⟨nl, b, 0⟩).2.fail) ≠ 0 then (none, if 262144 < (WS.num ⟨nl, b, 0⟩).1 then 4 else (WS.num ⟨nl, b, 0⟩).2.fail)
      else if (if (playW bn base (WS.num ⟨nl, b, 0⟩).1 (WS.num ⟨nl, b, 0⟩).2 []).1 = 0 then (playW bn base (WS.num ⟨nl, b, 0⟩).1 (WS.num ⟨nl, b, 0⟩).2 []).2.2.fin else (playW bn base (WS.num ⟨nl, b, 0⟩).1 (WS.num ⟨nl, b, 0⟩).2 []).1) ≠ 0 then
        (none, if (playW bn base (WS.num ⟨nl, b, 0⟩).1 (WS.num ⟨nl, b, 0⟩).2 []).1 = 0 then (playW bn base (WS.num ⟨nl, b, 0⟩).1 (WS.num ⟨nl, b, 0⟩).2 []).2.2.fin else (playW bn base (WS.num ⟨nl, b, 0⟩).1 (WS.num ⟨nl, b, 0⟩).2 []).1)
      else (some (playW bn base (WS.num ⟨nl, b, 0⟩).1 (WS.num ⟨nl, b, 0⟩).2 []).2.1, 0) := rfl
  generalize WS.num ⟨nl, b, 0⟩ = N at *
  obtain ⟨n, w1⟩ := N
  simp only at o1 l1 hq
  by_cases h1 : (262144 : Int) < (n : Int)
  · have h2 : 262144 < n := by omega
    have e : playS bn base nl b = (none, 4) := by rw [hq, if_pos h2, if_pos (by decide)]
    simp -implicitDefEqProofs -dsimp [h1, e]
    refine LpK.mk (anys _ [76, 77, 97, 117, 79, 118]) mixed (fun _ => True) (fun (_ : Unit) => ⟨[(8, .lit (.int .i64 4))], [], 55⟩) (fun _ => 0) () trivial (by simp -implicitDefEqProofs -dsimp) ?_
    rintro ⟨⟩ -
    simp -implicitDefEqProofs -dsimp [e]
  · have h2 : ¬ 262144 < n := by omega
    rw [if_neg h2] at hq
    by_cases h3 : w1.fail = 0
    · rw [if_neg (fun h => h h3)] at hq
      simp -implicitDefEqProofs -dsimp [h1, h3]
      obtain ⟨R, hR⟩ : ∃ R, R = playW bn base n w1 [] := ⟨_, rfl⟩
      rw [← hR] at hq
      have hn1 : IntKind.i64.wrap (n : Int) = (n : Int) := wrap64 (by omega) (by omega)
      refine LpK.mk (anys _ [76, 77, 97, 117, 79, 118]) mixed (fun (w, nl', out) => w.Ok ∧ nl' = out.isEmpty ∧ out.length ≤ n ∧ playW bn base n w out = R)
        (fun ((w, nl', out) : WS × Bool × List Int) => ⟨[(0, .sl .imm bn 1 (u8s base)), (6, .ptr 1130 0), (7, .lit (.int .u64 n)), (8, .lit (.int .i64 0)), (9, .sl (.own (.loc 45)) nl' 1 (u8s out))],
          [(1130, .cells (wcells w))], 55⟩) (fun (_, _, out) => n - out.length) (w1, true, [])
        ⟨o1, rfl, by simp, hR.symm⟩ (by simp -implicitDefEqProofs -dsimp) ?_
      rintro ⟨w, nl', out⟩ ⟨hw2, hnl, hol, hpl⟩
      by_cases hlt : out.length < n
      · have hlt2 : (out.length : Int) < (n : Int) := by omega
        have hw3 : IntKind.i64.wrap ((n : Int) - (out.length : Int)) = ((n - out.length : Nat) : Int) := by rw [wrap64 (by omega) (by omega)]; omega
        rw [playW, dif_pos hlt] at hpl
        simp -implicitDefEqProofs -dsimp [hlt, hlt2, hn1, hw3]
        rcases oneS_cases bn base hw2 (n - out.length) with ⟨b', l, w', e1, e2, e3, e4⟩ | ⟨er, w', e1, e2, e4⟩
        · rw [e1] at hpl
          simp only [dif_neg e2] at hpl
          have hl2 : out.length + l.length ≤ 140737488355328 := by omega
          refine CallK.works ?_
          simp -implicitDefEqProofs -dsimp
          refine CallQ.same (one_fn bn base w hw2 (n - out.length) (by omega) hb) rfl ?_
          simp -implicitDefEqProofs -dsimp [e1, hl2]
          refine .mk (w', false, out ++ l) ⟨e4, by simp [e2], by simp only [List.length_append]; omega, hpl⟩ (by simp only [List.length_append]; have := List.length_pos_iff.2 e2; omega) (by simp -implicitDefEqProofs -dsimp [e2])
        · rw [e1] at hpl
          simp only at hpl
          have e : playS bn base nl b = (none, er) := by rw [hq, ← hpl]; simp [e2]
          refine CallK.works ?_
          simp -implicitDefEqProofs -dsimp
          refine CallQ.same (one_fn bn base w hw2 (n - out.length) (by omega) hb) rfl ?_
          simp -implicitDefEqProofs -dsimp [e1, e2, e]
      · have hlt2 : ¬ (out.length : Int) < (n : Int) := by omega
        rw [playW, dif_neg hlt] at hpl
        simp -implicitDefEqProofs -dsimp [hlt, hlt2, hn1]
        by_cases hf : w.fin = 0
        · have e : playS bn base nl b = (some out, 0) := by rw [hq, ← hpl]; simp [hf]
          refine CallK.reads ?_
          simp -implicitDefEqProofs -dsimp
          refine CallQ.same (end_fn w) rfl ?_
          simp -implicitDefEqProofs -dsimp [hf]
          refine CallK.works ?_
          simp -implicitDefEqProofs -dsimp
          refine CallQ.same (clip_fn nl' out) rfl ?_
          simp -implicitDefEqProofs -dsimp [e, hnl]
        · have e : playS bn base nl b = (none, w.fin) := by rw [hq, ← hpl]; simp [hf]
          refine CallK.reads ?_
          simp -implicitDefEqProofs -dsimp
          refine CallQ.same (end_fn w) rfl ?_
          simp -implicitDefEqProofs -dsimp [hf, e]
    · have e : playS bn base nl b = (none, w1.fail) := by rw [hq, if_pos h3]
      simp -implicitDefEqProofs -dsimp [h1, e]
      refine LpK.mk (anys _ [76, 77, 97, 117, 79, 118]) mixed (fun _ => True) (fun (_ : Unit) => ⟨[(8, .lit (.int .i64 w1.fail))], [], 55⟩) (fun _ => 0) () trivial (by simp -implicitDefEqProofs -dsimp) ?_
      rintro ⟨⟩ -
      simp -implicitDefEqProofs -dsimp [h3, e]
end Go.Proofs.YtekokchejkjjjaaDoor

/-! Deltas: the text of a delta, as the document has it. -/
namespace Go.Proofs.YtekokchejkjjjaaDoor
open Go.Sy

structure RelW (w : WS) (r : RR) : Prop where
  b : w.b = r.rest
  fail : w.fail = r.fail

theorem rel_num {w : WS} {r : RR} (h : RelW w r) : w.num.1 = r.num.1 ∧ RelW w.num.2 r.num.2 := by
  obtain ⟨h1, h2⟩ := id h
  unfold WS.num RR.num
  rw [h1, h2]
  split
  · exact ⟨rfl, h⟩
  · split
    · exact ⟨rfl, ⟨rfl, rfl⟩⟩
    · exact ⟨rfl, ⟨by simp [RR.rest, List.drop_drop], rfl⟩⟩
theorem rel_text {w : WS} {r : RR} (h : RelW w r) (l : Int) : (w.text l).1 = (r.text l).1 ∧ RelW (w.text l).2 (r.text l).2 := by
  obtain ⟨h1, h2⟩ := id h
  unfold WS.text RR.text
  rw [h1, h2]
  split
  · exact ⟨rfl, h⟩
  · split
    · exact ⟨rfl, ⟨rfl, rfl⟩⟩
    · split
      · exact ⟨rfl, ⟨rfl, rfl⟩⟩
      · split
        · exact ⟨rfl, ⟨rfl, rfl⟩⟩
        · exact ⟨rfl, ⟨by simp [RR.rest, List.drop_drop, Nat.add_assoc], rfl⟩⟩
theorem rel_fin {w : WS} {r : RR} (h : RelW w r) : w.fin = r.fin := by
  obtain ⟨h1, h2⟩ := id h
  unfold WS.fin RR.fin
  rw [h2, h1, RR.rest_len]
  by_cases a : r.fail = 0 ∧ r.pos < r.b.length
  · rw [if_pos a, if_pos ⟨a.1, by omega⟩]
  · rw [if_neg a, if_neg (fun c => a ⟨c.1, by omega⟩)]


set_option maxRecDepth 100000 in
set_option maxHeartbeats 8000000 in
theorem rplay_fn (bn : Bool) (base : List Int) (nl : Bool) (b : List Int) (hn : nl = true → b = []) (hi : InB b) (hb : base.length ≤ 1000000) (hl : b.length ≤ 1000000) :
    Fc Tryd.prog 81 [.sl .imm bn 1 (u8s base), .sl .imm nl 1 (u8s b)] [] (.tup [outPV (playS bn base nl b).1, .lit (.int .i64 (playS bn base nl b).2)]) [] := by
  have hw : WS.Ok ⟨nl, b, 0⟩ := ⟨hn, hi, hl⟩
  have hr : RR.Ok ⟨nl, b, 0, 0⟩ := ⟨hi, by simp, hl⟩
  have hrel : RelW ⟨nl, b, 0⟩ ⟨nl, b, 0, 0⟩ := ⟨by simp [RR.rest], rfl⟩
  have o1 := WS.num_ok hw
  have q1 := RR.num_ok hr
  have l1 := WS.num_lt hw
  obtain ⟨a1, a2⟩ := rel_num hrel
  have q := Fc.of (P := Tryd.prog) (args := [.sl .imm bn 1 (u8s base), .sl .imm nl 1 (u8s b)]) (h := []) (X := .tup [match (playS bn base nl b).1 with | none => .sl .imm true 0 [] | some l => .sl (.own (.loc 85)) l.isEmpty 1 (u8s l), .lit (.int .i64 (playS bn base nl b).2)]) (H := [])
    (anys _ [63, 80, 64]) sch81 mixed Tryd.func81 rfl (by rfl) (by simp [Tryd.ntmps81]) (by decide) ?_
  · have := q.fz [.loc 85]
    revert this
    cases (playS bn base nl b).1 <;> simp [fzOf]
  have hq : playS bn base nl b = if (if 262144 < (WS.num ⟨nl, b, 0⟩).1 then 4 else (WS.num ⟨nl, b, 0⟩).2.fail) ≠ 0 then (none, if 262144 < (WS.num ⟨nl, b, 0⟩).1 then 4 else (WS.num ⟨nl, b, 0⟩).2.fail)
      else if (if (playW bn base (WS.num ⟨nl, b, 0⟩).1 (WS.num ⟨nl, b, 0⟩).2 []).1 = 0 then (playW bn base (WS.num ⟨nl, b, 0⟩).1 (WS.num ⟨nl, b, 0⟩).2 []).2.2.fin else (playW bn base (WS.num ⟨nl, b, 0⟩).1 (WS.num ⟨nl, b, 0⟩).2 []).1) ≠ 0 then
        (none, if (playW bn base (WS.num ⟨nl, b, 0⟩).1 (WS.num ⟨nl, b, 0⟩).2 []).1 = 0 then (playW bn base (WS.num ⟨nl, b, 0⟩).1 (WS.num ⟨nl, b, 0⟩).2 []).2.2.fin else (playW bn base (WS.num ⟨nl, b, 0⟩).1 (WS.num ⟨nl, b, 0⟩).2 []).1)
      else (some (playW bn base (WS.num ⟨nl, b, 0⟩).1 (WS.num ⟨nl, b, 0⟩).2 []).2.1, 0) := rfl
  have hz : (WS.num ⟨nl, b, 0⟩).2.fail ≠ 0 → (WS.num ⟨nl, b, 0⟩).1 = 0 := by
    simp only [WS.num, ne_eq, not_true, if_false]
    split
    · simp
    · simp
  simp -implicitDefEqProofs -dsimp [Tryd.ntmps81]
  rw [show ([.sl .imm nl 1 (u8s b), .lit (.int .i64 0), .lit (.int .i64 0)] : List PV) = rcells ⟨nl, b, 0, 0⟩ from rfl]
  refine CallK.works ?_
  simp -implicitDefEqProofs -dsimp
  refine CallQ.same (rrnum_fn _ hr) rfl ?_
  simp -implicitDefEqProofs -dsimp
  generalize WS.num ⟨nl, b, 0⟩ = N at *
  generalize RR.num ⟨nl, b, 0, 0⟩ = M at *
  obtain ⟨n, w1⟩ := N
  obtain ⟨n', r1⟩ := M
  simp only at o1 q1 l1 hq a1 a2 hz
  subst a1
  have af := a2.fail
  by_cases h3 : w1.fail = 0
  · rw [h3] at af
    rw [h3] at hq
    by_cases h1 : (262144 : Int) < (n : Int)
    · have h2 : 262144 < n := by omega
      have e : playS bn base nl b = (none, 4) := by rw [hq, if_pos h2, if_pos (by decide)]
      simp -implicitDefEqProofs -dsimp [← af, h1, e]
    · have h2 : ¬ 262144 < n := by omega
      rw [if_neg h2, if_neg (by simp)] at hq
      obtain ⟨R, hR⟩ : ∃ R, R = playW bn base n w1 [] := ⟨_, rfl⟩
      rw [← hR] at hq
      simp -implicitDefEqProofs -dsimp [← af, h1]
      have hn1 : IntKind.i64.wrap (n : Int) = (n : Int) := wrap64 (by omega) (by omega)
      refine LpK.mk (anys _ [63, 80, 64]) mixed (fun (w, r, nl', out) => w.Ok ∧ r.Ok ∧ RelW w r ∧ w.fail = 0 ∧ nl' = out.isEmpty ∧ out.length ≤ n ∧ playW bn base n w out = R)
        (fun ((w, r, nl', out) : WS × RR × Bool × List Int) => ⟨[(0, .sl .imm bn 1 (u8s base)), (6, .ptr 14 0), (7, .lit (.int .u64 n)), (8, .sl (.own (.loc 85)) nl' 1 (u8s out))],
          [(14, .cells (rcells r))], 115⟩) (fun (_, _, _, out) => n - out.length) (w1, r1, true, [])
        ⟨o1, q1, a2, h3, rfl, by simp, hR.symm⟩ (by simp -implicitDefEqProofs -dsimp) ?_
      rintro ⟨w, r, nl', out⟩ ⟨hw2, hr2, hrel2, hw0, hnl, hol, hpl⟩
      by_cases hlt : out.length < n
      · have hlt2 : (out.length : Int) < (n : Int) := by omega
        rw [playW, dif_pos hlt] at hpl
        obtain ⟨b1, b2⟩ := rel_num hrel2
        have b1 := b1.symm
        have bf := b2.fail.symm
        have o2 := WS.num_ok hw2
        have l2 := WS.num_lt hw2
        have q2 := RR.num_ok hr2
        have w2 : IntKind.u64.wrap (out.length : Int) = (out.length : Int) := by rw [wrap_is_u64]; omega
        have w3 : IntKind.u64.wrap ((n : Int) - (out.length : Int)) = (n : Int) - (out.length : Int) := by rw [wrap_is_u64]; omega
        simp -implicitDefEqProofs -dsimp [hlt, hlt2, hn1]
        refine CallK.works ?_
        simp -implicitDefEqProofs -dsimp
        refine CallQ.same (rrnum_fn r hr2) rfl ?_
        simp -implicitDefEqProofs -dsimp [b1, bf, w2, w3]
        by_cases c1 : w.num.2.fail = 0
        · have n1 : ¬ (w.num.2.fail ≠ 0) := fun h => h c1
          by_cases c2 : (n : Int) - (out.length : Int) < (w.num.1 : Int)
          · have e1 : oneS bn base w (n - out.length) = ((none, 4), w.num.2) := by unfold oneS; rw [if_neg n1, if_pos (by omega)]
            rw [e1] at hpl
            have e : playS bn base nl b = (none, 4) := by rw [hq, ← hpl]; rfl
            simp -implicitDefEqProofs -dsimp [c1, c2, w2, w3, b1, bf, e]
          · have n2 : ¬ (n - out.length) < w.num.1 := by omega
            by_cases p3 : 0 < w.num.1
            · obtain ⟨d1, d2⟩ := rel_num b2
              have d1 := d1.symm
              have df := d2.fail.symm
              have o3 := WS.num_ok o2
              have l3 := WS.num_lt o2
              have q3 := RR.num_ok q2
              simp -implicitDefEqProofs -dsimp [c1, c2, p3, w2, w3, b1, bf]
              refine CallK.works ?_
              simp -implicitDefEqProofs -dsimp
              refine CallQ.same (rrnum_fn _ q2) rfl ?_
              simp -implicitDefEqProofs -dsimp [b1, bf, w2, w3, d1, df]
              by_cases c4 : w.num.2.num.2.fail = 0
              · have n4 : ¬ (w.num.2.num.2.fail ≠ 0) := fun h => h c4
                have w4 : IntKind.u64.wrap (base.length : Int) = (base.length : Int) := by rw [wrap_is_u64]; omega
                by_cases c5 : base.length < w.num.2.num.1
                · have e1 : oneS bn base w (n - out.length) = ((none, 11), w.num.2.num.2) := by unfold oneS; rw [if_neg n1, if_neg n2, if_pos p3, if_neg n4, if_pos (.inl c5)]
                  rw [e1] at hpl
                  have e : playS bn base nl b = (none, 11) := by rw [hq, ← hpl]; rfl
                  simp -implicitDefEqProofs -dsimp [c4, w4, c5, d1, df, e]
                · have w5 : IntKind.u64.wrap ((base.length : Int) - (w.num.2.num.1 : Int)) = (base.length : Int) - (w.num.2.num.1 : Int) := by rw [wrap_is_u64]; omega
                  by_cases c6 : (base.length : Int) - (w.num.2.num.1 : Int) < (w.num.1 : Int)
                  · have e1 : oneS bn base w (n - out.length) = ((none, 11), w.num.2.num.2) := by unfold oneS; rw [if_neg n1, if_neg n2, if_pos p3, if_neg n4, if_pos (.inr (by omega))]
                    rw [e1] at hpl
                    have e : playS bn base nl b = (none, 11) := by rw [hq, ← hpl]; rfl
                    simp -implicitDefEqProofs -dsimp [c4, w4, w5, c5, c6, d1, df, e]
                  · have e1 : oneS bn base w (n - out.length) = ((some (bn, (base.drop w.num.2.num.1).take w.num.1), 0), w.num.2.num.2) := by unfold oneS; rw [if_neg n1, if_neg n2, if_pos p3, if_neg n4, if_neg (by omega)]
                    have g1 : ((base.drop w.num.2.num.1).take w.num.1).length = w.num.1 := by simp; omega
                    have g2 : (base.drop w.num.2.num.1).take w.num.1 ≠ [] := fun h => by rw [h] at g1; simp at g1; omega
                    rw [e1] at hpl
                    simp only [dif_neg g2] at hpl
                    have u4 : IntKind.u64.wrap ((w.num.2.num.1 : Int) + (w.num.1 : Int)) = (w.num.2.num.1 : Int) + (w.num.1 : Int) := by rw [wrap_is_u64]; omega
                    have u5 : (w.num.2.num.1 : Int) ≤ (w.num.2.num.1 : Int) + (w.num.1 : Int) := by omega
                    have u6 : (w.num.2.num.1 : Int) + (w.num.1 : Int) ≤ (base.length : Int) := by omega
                    have u7 : ((w.num.2.num.1 : Int) + (w.num.1 : Int)).toNat = w.num.2.num.1 + w.num.1 := by omega
                    have u8 : (base.take (w.num.2.num.1 + w.num.1)).drop w.num.2.num.1 = (base.drop w.num.2.num.1).take w.num.1 := by rw [List.drop_take]; congr 1; omega
                    have u9 : (0 : Int) ≤ (w.num.2.num.1 : Int) + (w.num.1 : Int) := by omega
                    generalize hX : (base.drop w.num.2.num.1).take w.num.1 = X at *
                    have u10 : out.length + X.length ≤ 140737488355328 := by omega
                    simp -implicitDefEqProofs -dsimp [c4, w4, w5, c5, c6, d1, df, u4, u5, u6, u7, u8, u9, u10]
                    refine .mk (w.num.2.num.2, r.num.2.num.2, false, out ++ X) ⟨o3, q3, d2, c4, by simp [g2], by simp only [List.length_append]; omega, hpl⟩ (by simp only [List.length_append]; omega) (by simp -implicitDefEqProofs -dsimp [g2])
              · have e1 : oneS bn base w (n - out.length) = ((none, w.num.2.num.2.fail), w.num.2.num.2) := by unfold oneS; rw [if_neg n1, if_neg n2, if_pos p3, if_pos c4]
                rw [e1] at hpl
                have e : playS bn base nl b = (none, w.num.2.num.2.fail) := by rw [hq, ← hpl]; simp [c4]
                simp -implicitDefEqProofs -dsimp [c4, df, e]
            · obtain ⟨d1, d2⟩ := rel_text b2 262144
              have d1 := d1.symm
              have df := d2.fail.symm
              have o3 := WS.text_ok o2 262144
              have q3 := RR.text_ok q2 262144
              simp -implicitDefEqProofs -dsimp [c1, c2, p3, w2, w3, b1, bf]
              refine CallK.works ?_
              simp -implicitDefEqProofs -dsimp
              refine CallQ.same (rrtext_fn _ q2 262144 (by omega) (by omega)) rfl ?_
              simp -implicitDefEqProofs -dsimp [b1, bf, w2, w3, d1, df]
              by_cases c4 : (w.num.2.text 262144).2.fail = 0
              · have n4 : ¬ ((w.num.2.text 262144).2.fail ≠ 0) := fun h => h c4
                have w4 : IntKind.i64.wrap ((n : Int) - (out.length : Int)) = (n : Int) - (out.length : Int) := wrap64 (by omega) (by omega)
                by_cases c5 : (n : Int) - (out.length : Int) < ((w.num.2.text 262144).1.2.length : Int)
                · have e1 : oneS bn base w (n - out.length) = ((none, 4), (w.num.2.text 262144).2) := by unfold oneS; rw [if_neg n1, if_neg n2, if_neg p3, if_neg n4, if_pos (by omega)]
                  rw [e1] at hpl
                  have e : playS bn base nl b = (none, 4) := by rw [hq, ← hpl]; rfl
                  simp -implicitDefEqProofs -dsimp [c4, w4, c5, hn1, d1, df, w2, e]
                · by_cases c6 : (w.num.2.text 262144).1.2 = []
                  · have e1 : oneS bn base w (n - out.length) = ((none, 3), (w.num.2.text 262144).2) := by unfold oneS; rw [if_neg n1, if_neg n2, if_neg p3, if_neg n4, if_neg (by omega), if_pos c6]
                    rw [e1] at hpl
                    have e : playS bn base nl b = (none, 3) := by rw [hq, ← hpl]; rfl
                    have c7 : ¬ (n : Int) - (out.length : Int) < 0 := by omega
                    simp -implicitDefEqProofs -dsimp [c4, w4, c5, c6, c7, hn1, d1, df, w2, e]
                  · have e1 : oneS bn base w (n - out.length) = ((some (w.num.2.text 262144).1, 0), (w.num.2.text 262144).2) := by unfold oneS; rw [if_neg n1, if_neg n2, if_neg p3, if_neg n4, if_neg (by omega), if_neg c6]
                    rw [e1] at hpl
                    have hpl' : playW bn base n (w.num.2.text 262144).2 (out ++ (w.num.2.text 262144).1.2) = R := by
                      revert hpl; generalize (w.num.2.text 262144).1 = Y at *; obtain ⟨y1, y2⟩ := Y; simp only [dif_neg c6]; exact id
                    have u10 : out.length + (w.num.2.text 262144).1.2.length ≤ 140737488355328 := by omega
                    have hY := List.length_pos_iff.2 c6
                    have u11 : ¬ ((w.num.2.text 262144).1.2.length : Int) = 0 := by omega
                    simp -implicitDefEqProofs -dsimp [c4, w4, c5, c6, u10, u11, hn1, d1, df, w2]
                    refine .mk ((w.num.2.text 262144).2, (r.num.2.text 262144).2, false, out ++ (w.num.2.text 262144).1.2) ⟨o3, q3, d2, c4, by simp [c6], by simp only [List.length_append]; omega, hpl'⟩ (by simp only [List.length_append]; omega) (by simp -implicitDefEqProofs -dsimp [c6])
              · have e1 : oneS bn base w (n - out.length) = ((none, (w.num.2.text 262144).2.fail), (w.num.2.text 262144).2) := by unfold oneS; rw [if_neg n1, if_neg n2, if_neg p3, if_pos c4]
                rw [e1] at hpl
                have e : playS bn base nl b = (none, (w.num.2.text 262144).2.fail) := by rw [hq, ← hpl]; simp [c4]
                simp -implicitDefEqProofs -dsimp [c4, df, e]
        · have e1 : oneS bn base w (n - out.length) = ((none, w.num.2.fail), w.num.2) := by unfold oneS; rw [if_pos c1]
          rw [e1] at hpl
          have e : playS bn base nl b = (none, w.num.2.fail) := by rw [hq, ← hpl]; simp [c1]
          simp -implicitDefEqProofs -dsimp [c1, bf, e]
      · have hlt2 : ¬ (out.length : Int) < (n : Int) := by omega
        rw [playW, dif_neg hlt] at hpl
        have hlen : (w.b.length : Int) = (r.b.length : Int) - r.pos := by
          have := hr2.pos
          rw [hrel2.b, RR.rest_len]; omega
        simp -implicitDefEqProofs -dsimp [hlt, hlt2, hn1]
        by_cases hf : 0 < w.b.length
        · have e : playS bn base nl b = (none, 5) := by rw [hq, ← hpl]; simp [WS.fin, hw0, hf]
          have hf2 : r.pos < r.b.length := by omega
          refine CallK.reads ?_
          simp -implicitDefEqProofs -dsimp
          refine CallQ.same (rleft_fn r hr2) rfl ?_
          simp -implicitDefEqProofs -dsimp [hf2, e]
        · have e : playS bn base nl b = (some out, 0) := by rw [hq, ← hpl]; simp [WS.fin, hw0, hf]
          have hf2 : ¬ r.pos < r.b.length := by omega
          refine CallK.reads ?_
          simp -implicitDefEqProofs -dsimp
          refine CallQ.same (rleft_fn r hr2) rfl ?_
          simp -implicitDefEqProofs -dsimp [hf2, e, hnl]
  · have h2 : ¬ 262144 < n := by rw [hz h3]; omega
    have e : playS bn base nl b = (none, w1.fail) := by rw [hq, if_neg h2, if_pos h3]
    simp -implicitDefEqProofs -dsimp [← af, h3, e]
end Go.Proofs.YtekokchejkjjjaaDoor

/-! Deltas: what two texts have in common from places on, as the document has it. -/
namespace Go.Proofs.YtekokchejkjjjaaDoor
open Go.Sy

set_option maxRecDepth 100000 in
set_option maxHeartbeats 4000000 in
theorem rcommon_fn (n1 n2 : Bool) (a b : List Int) (i k : Nat) (ha : a.length ≤ 1000000) (hb : b.length ≤ 1000000) (hi : i ≤ a.length) (hk : k ≤ b.length) :
    Fc Tryd.prog 92 [.sl .imm n1 1 (u8s a), .lit (.int .i64 i), .sl .imm n2 1 (u8s b), .lit (.int .i64 k)] [] (.lit (.int .i64 (cmn (a.drop i) (b.drop k)))) [] := by
  refine Fc.of (anys _ []) sch92 mixed Tryd.func92 rfl (by rfl) (by simp [Tryd.ntmps92]) (by decide) ?_
  simp -implicitDefEqProofs -dsimp [Tryd.ntmps92]
  refine LpK.mk (anys _ []) mixed (fun n => i + n ≤ a.length ∧ k + n ≤ b.length ∧ cmn (a.drop i) (b.drop k) = n + cmn (a.drop (i + n)) (b.drop (k + n)))
    (fun (n : Nat) => ⟨[(0, .sl .imm n1 1 (u8s a)), (1, .lit (.int .i64 i)), (2, .sl .imm n2 1 (u8s b)), (3, .lit (.int .i64 k)), (9, .lit (.int .i64 n))], [], 42⟩) (fun n => a.length - n) 0 (by simp [hi, hk]) (by simp -implicitDefEqProofs -dsimp) ?_
  rintro n ⟨h1, h2, h3⟩
  have w1 : IntKind.i64.wrap ((i : Int) + (n : Int)) = (i : Int) + (n : Int) := wrap64 (by omega) (by omega)
  have w2 : IntKind.i64.wrap ((k : Int) + (n : Int)) = (k : Int) + (n : Int) := wrap64 (by omega) (by omega)
  have w3 : IntKind.i64.wrap ((n : Int) + 1) = ((n + 1 : Nat) : Int) := wrap64 (by omega) (by omega)
  have t1 : ((i : Int) + (n : Int)).toNat = i + n := by omega
  have t2 : ((k : Int) + (n : Int)).toNat = k + n := by omega
  have z1 : (0 : Int) ≤ (i : Int) + (n : Int) := by omega
  have z2 : (0 : Int) ≤ (k : Int) + (n : Int) := by omega
  by_cases hl : i + n < a.length
  · have hl2 : (i : Int) + (n : Int) < (a.length : Int) := by omega
    by_cases hm : k + n < b.length
    · have hm2 : (k : Int) + (n : Int) < (b.length : Int) := by omega
      have hs : cmn (a.drop (i + n)) (b.drop (k + n)) = if a[i + n] = b[k + n] then cmn (a.drop (i + n + 1)) (b.drop (k + n + 1)) + 1 else 0 := by
        rw [List.drop_eq_getElem_cons hl, List.drop_eq_getElem_cons hm, cmn]
      by_cases he : a[i + n] = b[k + n]
      · rw [if_pos he] at hs
        simp -implicitDefEqProofs -dsimp [hl, hm, hl2, hm2, he, w1, w2, w3, t1, t2, z1, z2]
        refine .mk (n + 1) ⟨by omega, by omega, by rw [← Nat.add_assoc, ← Nat.add_assoc]; omega⟩ (by omega) (by simp -implicitDefEqProofs -dsimp)
      · rw [if_neg he] at hs
        have e : cmn (a.drop i) (b.drop k) = n := by omega
        simp -implicitDefEqProofs -dsimp [hl, hm, hl2, hm2, he, e, w1, w2, t1, t2, z1, z2]
    · have hm2 : ¬ (k : Int) + (n : Int) < (b.length : Int) := by omega
      have e : cmn (a.drop i) (b.drop k) = n := by rw [h3, List.drop_eq_nil_of_le (by omega : b.length ≤ k + n), cmn_nil]; rfl
      simp -implicitDefEqProofs -dsimp [hl, hm, hl2, hm2, e, w1, w2]
  · have hl2 : ¬ (i : Int) + (n : Int) < (a.length : Int) := by omega
    have e : cmn (a.drop i) (b.drop k) = n := by rw [h3, List.drop_eq_nil_of_le (by omega : a.length ≤ i + n)]; simp [cmn]
    simp -implicitDefEqProofs -dsimp [hl, hl2, e, w1]
end Go.Proofs.YtekokchejkjjjaaDoor

/-! Deltas: the delta of a text, as the document has it. -/
namespace Go.Proofs.YtekokchejkjjjaaDoor
open Go.Sy

/-- Of the first k places of the base, where a text's longest start stands, and how long it is. -/
def best (base rest : List Int) : Nat → Nat × Nat
  | 0 => (0, 0)
  | k + 1 => if (best base rest k).2 < cmn (base.drop k) rest then (k, cmn (base.drop k) rest) else best base rest k
theorem best_le (base rest : List Int) (k : Nat) : (best base rest k).2 ≤ rest.length ∧ (best base rest k).1 ≤ k := by
  induction k with
  | zero => simp [best]
  | succ k ih =>
    have := cmn_le (base.drop k) rest
    simp only [best]
    split <;> (try simp only) <;> omega

def makeW (base text : List Int) (i : Nat) (open' out : List Int) : List Int :=
  if h : i < text.length then
    if h8 : (best base (text.drop i) base.length).2 < 8 then makeW base text (i + 1) (open' ++ [text[i]]) out
    else makeW base text (i + (best base (text.drop i) base.length).2) [] (ins out open' ++ enc (best base (text.drop i) base.length).2 ++ enc (best base (text.drop i) base.length).1)
  else ins out open'
termination_by text.length - i
decreasing_by all_goals omega

def makeS (base text : List Int) : List Int := makeW base text 0 [] (enc text.length)

theorem rnum_fz (nl : Bool) (b : List Int) (n : Nat) (hb : b.length ≤ 10000000) (h : n < 18446744073709551616) :
    Fc Tryd.prog 72 [.sl .imm nl 1 (u8s b), .lit (.int .u64 n)] [] (.sl .imm false 1 (u8s (b ++ enc n))) [] := by
  have := (rnum_fn nl b n hb h).fz [.loc 6]
  simpa [fzOf] using this
theorem rnil_fz (n : Nat) (h : n < 18446744073709551616) : Fc Tryd.prog 72 [.sl .imm true 0 [], .lit (.int .u64 n)] [] (.sl .imm false 1 (u8s (enc n))) [] := by
  have := (rnil_fn n h).fz [.loc 6]
  simpa [fzOf] using this
theorem rtext_fz (nl n2 : Bool) (b x : List Int) (hb : b.length ≤ 10000000) (hx : x.length ≤ 10000000) :
    Fc Tryd.prog 75 [.sl .imm nl 1 (u8s b), .sl .imm n2 1 (u8s x)] [] (.sl .imm false 1 (u8s (b ++ (enc x.length ++ x)))) [] := by
  have := (rtext_fn nl n2 b x hb hx).fz [.loc 1090]
  simpa [fzOf] using this

theorem ins_le (o l : List Int) (hl : l.length ≤ 1000000) : (ins o l).length ≤ o.length + 20 + l.length := by
  have h0 : (enc 0).length ≤ 10 := enc_u64 (by omega)
  have h1 : (enc l.length).length ≤ 10 := enc_u64 (by omega)
  unfold ins
  split
  · omega
  · simp; omega

set_option maxRecDepth 100000 in
set_option maxHeartbeats 8000000 in
theorem rmake_fn (bn tn : Bool) (base text : List Int) (hb : base.length ≤ 1000) (ht : text.length ≤ 1000) :
    Fc Tryd.prog 74 [.sl .imm bn 1 (u8s base), .sl .imm tn 1 (u8s text)] [] (.sl .imm false 1 (u8s (makeS base text))) [] := by
  refine Fc.of (anys _ [72, 92, 75]) [] mixed Tryd.func74 rfl (by rfl) (by simp [Tryd.ntmps74]) (by decide) ?_
  have w0 : IntKind.u64.wrap (text.length : Int) = (text.length : Int) := by rw [wrap_is_u64]; omega
  have e0 := enc_u64 (n := text.length) (by omega)
  have ez : (enc 0).length ≤ 10 := enc_u64 (by omega)
  simp -implicitDefEqProofs -dsimp [Tryd.ntmps74, w0]
  refine CallK.works ?_
  simp -implicitDefEqProofs -dsimp
  refine CallQ.same (rnil_fz text.length (by omega)) rfl ?_
  simp -implicitDefEqProofs -dsimp
  refine LpK.mk (anys _ [72, 92, 75]) mixed (fun (i, nl, op, out) => i ≤ text.length ∧ nl = op.isEmpty ∧ op.length ≤ i ∧ out.length + op.length ≤ 10 + 50 * i ∧ makeW base text i op out = makeS base text)
    (fun ((i, nl, op, out) : Nat × Bool × List Int × List Int) => ⟨[(0, .sl .imm bn 1 (u8s base)), (1, .sl .imm tn 1 (u8s text)), (5, .sl .imm false 1 (u8s out)), (6, .sl (.own (.loc 44)) nl 1 (u8s op)), (7, .lit (.int .i64 i))], [], 75⟩)
    (fun (i, _) => text.length - i) (0, true, [], enc text.length) ⟨by simp, rfl, by simp, by simpa using e0, rfl⟩ (by simp -implicitDefEqProofs -dsimp) ?_
  rintro ⟨i, nl, op, out⟩ ⟨hi, hnl, hop, hlen, hm⟩
  by_cases hlt : i < text.length
  · have hlt2 : (i : Int) < (text.length : Int) := by omega
    rw [makeW, dif_pos hlt] at hm
    simp -implicitDefEqProofs -dsimp [hlt, hlt2]
    refine LpK.mk (anys _ [72, 92, 75]) mixed (fun (k, p) => k ≤ base.length ∧ p = best base (text.drop i) k)
      (fun ((k, p) : Nat × Nat × Nat) => ⟨[(0, .sl .imm bn 1 (u8s base)), (1, .sl .imm tn 1 (u8s text)), (5, .sl .imm false 1 (u8s out)), (6, .sl (.own (.loc 44)) nl 1 (u8s op)), (7, .lit (.int .i64 i)),
        (8, .lit (.int .i64 p.1)), (9, .lit (.int .i64 p.2)), (10, .lit (.int .i64 k))], [], 75⟩)
      (fun (k, _) => base.length - k) (0, 0, 0) ⟨by simp, rfl⟩ (by simp -implicitDefEqProofs -dsimp) ?_
    rintro ⟨k, p⟩ ⟨hk, hp⟩
    by_cases hkl : k < base.length
    · have hkw : IntKind.i64.wrap ((k : Int) + 1) = ((k + 1 : Nat) : Int) := wrap64 (by omega) (by omega)
      have hbs : best base (text.drop i) (k + 1) = if p.2 < cmn (base.drop k) (text.drop i) then (k, cmn (base.drop k) (text.drop i)) else p := by rw [best, ← hp]
      simp -implicitDefEqProofs -dsimp [hkl]
      by_cases hc : p.2 < cmn (base.drop k) (text.drop i)
      · rw [if_pos hc] at hbs
        refine CallK.reads ?_
        simp -implicitDefEqProofs -dsimp
        refine CallQ.same (rcommon_fn bn tn base text k i (by omega) (by omega) (by omega) (by omega)) rfl ?_
        simp -implicitDefEqProofs -dsimp [hc, hkw]
        refine .mk (k + 1, k, cmn (base.drop k) (text.drop i)) ⟨by omega, hbs.symm⟩ (by simp; omega) (by simp -implicitDefEqProofs -dsimp)
      · rw [if_neg hc] at hbs
        refine CallK.reads ?_
        simp -implicitDefEqProofs -dsimp
        refine CallQ.same (rcommon_fn bn tn base text k i (by omega) (by omega) (by omega) (by omega)) rfl ?_
        simp -implicitDefEqProofs -dsimp [hc, hkw]
        refine .mk (k + 1, p) ⟨by omega, hbs.symm⟩ (by simp; omega) (by simp -implicitDefEqProofs -dsimp)
    · have hke : k = base.length := by omega
      subst hke
      rw [← hp] at hm
      have hpl := best_le base (text.drop i) base.length
      rw [← hp] at hpl
      simp only [List.length_drop] at hpl
      obtain ⟨at', m⟩ := p
      simp only at hm hpl
      by_cases h8 : m < 8
      · rw [dif_pos h8] at hm
        have h82 : (m : Int) < 8 := by omega
        have hiw : IntKind.i64.wrap ((i : Int) + 1) = ((i + 1 : Nat) : Int) := wrap64 (by omega) (by omega)
        have hap : op.length + 1 ≤ 140737488355328 := by omega
        simp -implicitDefEqProofs -dsimp [h8, h82, hiw, hlt, hap]
        refine .mk (i + 1, false, op ++ [text[i]], out) ⟨by omega, by simp, by simp; omega, by simp; omega, hm⟩ (by simp; omega) (by simp -implicitDefEqProofs -dsimp [ints])
      · rw [dif_neg h8] at hm
        have h82 : ¬ (m : Int) < 8 := by omega
        have hiw : IntKind.i64.wrap ((i : Int) + (m : Int)) = ((i + m : Nat) : Int) := by rw [wrap64 (by omega) (by omega)]; omega
        have wm : IntKind.u64.wrap (m : Int) = (m : Int) := by rw [wrap_is_u64]; omega
        have wa : IntKind.u64.wrap (at' : Int) = (at' : Int) := by rw [wrap_is_u64]; omega
        have e1 := enc_u64 (n := m) (by omega)
        have e2 := enc_u64 (n := at') (by omega)
        have e3 := enc_u64 (n := op.length) (by omega)
        by_cases ho : op = []
        · have hm' : makeW base text (i + m) [] (out ++ enc m ++ enc at') = makeS base text := by rw [← hm]; simp [ins, ho]
          subst ho
          simp -implicitDefEqProofs -dsimp [h8, h82, wm]
          refine CallK.works ?_
          simp -implicitDefEqProofs -dsimp
          refine CallQ.same (rnum_fz false out m (by simp at hlen; omega) (by omega)) rfl ?_
          simp -implicitDefEqProofs -dsimp [wm, wa, hiw]
          refine CallK.works ?_
          simp -implicitDefEqProofs -dsimp
          refine CallQ.same (rnum_fz false (out ++ enc m) at' (by simp at hlen; simp; omega) (by omega)) rfl ?_
          simp -implicitDefEqProofs -dsimp [wm, wa, hiw]
          refine .mk (i + m, true, [], out ++ enc m ++ enc at') ⟨by omega, rfl, by simp, by simp at hlen; simp; omega, hm'⟩ (by simp; omega) (by simp -implicitDefEqProofs -dsimp [hnl])
        · have hm' : makeW base text (i + m) [] (out ++ enc 0 ++ enc op.length ++ op ++ enc m ++ enc at') = makeS base text := by rw [← hm]; simp [ins, ho]
          have ho2 : 0 < op.length := List.length_pos_iff.2 ho
          simp -implicitDefEqProofs -dsimp [h8, h82, ho2]
          refine CallK.works ?_
          simp -implicitDefEqProofs -dsimp
          refine CallQ.same (rnum_fz false out 0 (by omega) (by omega)) rfl ?_
          simp -implicitDefEqProofs -dsimp [wm, wa, hiw]
          refine CallK.works ?_
          simp -implicitDefEqProofs -dsimp
          refine CallQ.same (rtext_fz false nl (out ++ enc 0) op (by simp; omega) (by omega)) rfl ?_
          simp -implicitDefEqProofs -dsimp [wm, wa, hiw]
          refine CallK.works ?_
          simp -implicitDefEqProofs -dsimp
          refine CallQ.same (rnum_fz false (out ++ (enc 0 ++ (enc op.length ++ op))) m (by simp; omega) (by omega)) rfl ?_
          simp -implicitDefEqProofs -dsimp [wm, wa, hiw]
          refine CallK.works ?_
          simp -implicitDefEqProofs -dsimp
          refine CallQ.same (rnum_fz false (out ++ (enc 0 ++ (enc op.length ++ (op ++ enc m)))) at' (by simp; omega) (by omega)) rfl ?_
          simp -implicitDefEqProofs -dsimp [wm, wa, hiw]
          refine .mk (i + m, true, [], out ++ enc 0 ++ enc op.length ++ op ++ enc m ++ enc at') ⟨by omega, rfl, by simp, by simp; omega, hm'⟩ (by simp; omega) (by simp -implicitDefEqProofs -dsimp)
  · have hie : i = text.length := by omega
    subst hie
    rw [makeW, dif_neg hlt] at hm
    have e3 := enc_u64 (n := op.length) (by omega)
    by_cases ho : op = []
    · have hm' : makeS base text = out := by rw [← hm]; simp [ins, ho]
      subst ho
      simp -implicitDefEqProofs -dsimp [hm']
    · have hm' : makeS base text = out ++ (enc 0 ++ (enc op.length ++ op)) := by rw [← hm]; simp [ins, ho]
      have ho2 : 0 < op.length := List.length_pos_iff.2 ho
      simp -implicitDefEqProofs -dsimp [hm', ho2]
      refine CallK.works ?_
      simp -implicitDefEqProofs -dsimp
      refine CallQ.same (rnum_fz false out 0 (by omega) (by omega)) rfl ?_
      simp -implicitDefEqProofs -dsimp [hm']
      refine CallK.works ?_
      simp -implicitDefEqProofs -dsimp
      refine CallQ.same (rtext_fz false nl (out ++ enc 0) op (by simp; omega) (by omega)) rfl ?_
      simp -implicitDefEqProofs -dsimp [hm']
end Go.Proofs.YtekokchejkjjjaaDoor

/-! Deltas: of the places where eight bytes agree, the longest start. -/
namespace Go.Proofs.YtekokchejkjjjaaDoor
open Go.Sy

/-- The places among the first k at which eight bytes of a text stand, rising. -/
def at8 (base rest : List Int) : Nat → List Nat
  | 0 => []
  | k + 1 => if 8 ≤ cmn (base.drop k) rest then at8 base rest k ++ [k] else at8 base rest k

/-- The longest start at some places. -/
def longL (base rest : List Int) (l : List Nat) : Nat × Nat := l.foldl (fun p k => if p.2 < cmn (base.drop k) rest then (k, cmn (base.drop k) rest) else p) (0, 0)

theorem longL_best (base rest : List Int) (k : Nat) : longL base rest (at8 base rest k) = if (best base rest k).2 < 8 then (0, 0) else best base rest k := by
  induction k with
  | zero => simp [longL, at8, best]
  | succ k ih =>
    simp only [at8, best]
    by_cases hc : 8 ≤ cmn (base.drop k) rest
    · rw [if_pos hc]
      have e : longL base rest (at8 base rest k ++ [k]) = if (longL base rest (at8 base rest k)).2 < cmn (base.drop k) rest then (k, cmn (base.drop k) rest) else longL base rest (at8 base rest k) := by
        unfold longL; rw [List.foldl_append]; rfl
      rw [e, ih]
      by_cases hb : (best base rest k).2 < 8
      · simp [hb, show (best base rest k).2 < cmn (base.drop k) rest by omega, show 0 < cmn (base.drop k) rest by omega, show ¬ cmn (base.drop k) rest < 8 by omega]
      · by_cases h : (best base rest k).2 < cmn (base.drop k) rest
        · simp [hb, h, show ¬ cmn (base.drop k) rest < 8 by omega]
        · simp [hb, h]
    · rw [if_neg hc, ih]
      by_cases h : (best base rest k).2 < cmn (base.drop k) rest
      · simp [h, show (best base rest k).2 < 8 by omega, show cmn (base.drop k) rest < 8 by omega]
      · simp [h]

/-- Once a start is the whole text nothing is longer. -/
theorem longL_stop (base rest : List Int) (l m : List Nat) (h : (longL base rest l).2 = rest.length) : longL base rest (l ++ m) = longL base rest l := by
  simp only [longL, List.foldl_append] at *
  generalize List.foldl (fun p k => if p.2 < cmn (base.drop k) rest then (k, cmn (base.drop k) rest) else p) (0, 0) l = p at *
  induction m with
  | nil => rfl
  | cons k m ih =>
    have := cmn_le (base.drop k) rest
    rw [List.foldl_cons, if_neg (by omega), ih]

/-- Where eight bytes agree. -/
theorem cmn_ge : ∀ (n : Nat) (a b : List Int), n ≤ cmn a b ↔ n ≤ a.length ∧ n ≤ b.length ∧ a.take n = b.take n
  | 0, a, b => by simp
  | n + 1, [], b => by simp [cmn]
  | n + 1, x :: xs, [] => by simp [cmn]
  | n + 1, x :: xs, y :: ys => by
    have ih := cmn_ge n xs ys
    simp only [cmn]
    by_cases h : x = y
    · subst h
      simp only [if_true, List.length_cons, List.take_succ_cons, List.cons.injEq, true_and, Nat.add_le_add_iff_right]
      exact ih
    · simp [h]
end Go.Proofs.YtekokchejkjjjaaDoor
