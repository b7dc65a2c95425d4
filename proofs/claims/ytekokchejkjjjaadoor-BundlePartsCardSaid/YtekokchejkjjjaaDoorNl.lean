/- Bundles: an object read; unpacked. (and what stands on it) -/
import Derived.Test.YtekokchejkjjjaaDoorNk
import Derived.Test.YtekokchejkjjjaaDoorNh
import Derived.Test.YtekokchejkjjjaaDoorN8
set_option linter.unusedSimpArgs false
set_option linter.unusedVariables false

/-! Bundles: an object read; unpacked. -/
namespace Go.Sy
theorem WS.text_row {s : WS} (h : s.Ok) (limit : Int) : InB (s.text limit).1.2 ∧ (s.text limit).1.2.length ≤ 1000000 ∧ ((s.text limit).1.1 = true → (s.text limit).1.2 = []) := by
  obtain ⟨h1, h2, h3⟩ := id h
  unfold WS.text
  split
  · exact ⟨by simp [InB], by simp, by simp⟩
  · split
    · exact ⟨by simp [InB], by simp, by simp⟩
    · split
      · exact ⟨by simp [InB], by simp, by simp⟩
      · split
        · exact ⟨by simp [InB], by simp, by simp⟩
        · exact ⟨(h2.drop _).take _, by simp; omega, by simp⟩
end Go.Sy
namespace Go.Proofs.YtekokchejkjjjaaDoor
open Go.Sy
/-- What tells an object, made whole. -/
def bodyS (A : List OB) (base : ByteArray) (t : Bool × List Int) : Option (Bool × List Int) × Int :=
  if base = ⟨#[]⟩ then (some t, 0)
  else match fndX A base with
    | none => (none, 11)
    | some x => match playS x.nl x.b t.1 t.2 with
      | (some l, e) => (some (l.isEmpty, l), e)
      | (none, e) => (none, e)
/-- One object: what it is, or why there is none; the reader behind it. -/
def oneB (A : List OB) (w : WS) : (Option OB × Int) × WS :=
  let a := w.text 32
  let c := a.2.text 32
  let t := c.2.text 262144
  if t.2.fail ≠ 0 then ((none, t.2.fail), t.2)
  else match bodyS A (ofBs c.1.2) t.1 with
    | (none, e) => ((none, e), t.2)
    | (some x, _) => if 131072 < x.2.length then ((none, 4), t.2) else if digOf x.2 ≠ ofBs a.1.2 then ((none, 12), t.2) else ((some ⟨ofBs a.1.2, x.1, x.2⟩, 0), t.2)
def unpW (k : List OB) : Nat → WS → List OB → (Option (List OB) × Int) × WS
  | 0, w, out => ((some out, 0), w)
  | n + 1, w, out => match oneB (k ++ out) w with
    | ((none, e), w') => ((none, e), w')
    | ((some x, _), w') => unpW k n w' (out ++ [x])
def unpE : (Option (List OB) × Int) × WS → Option (List OB) × Int
  | ((none, e), _) => (none, e)
  | ((some out, _), w) => if w.fin ≠ 0 then (none, w.fin) else (some out, 0)
def unpS (k : List OB) (nl : Bool) (b : List Int) : Option (List OB) × Int :=
  let q := WS.num ⟨nl, b, 0⟩
  if 64 < q.1 then (none, 4) else unpE (unpW k q.1 q.2 [])
theorem playW_err (bn : Bool) (base : List Int) (n : Nat) : ∀ (f : Nat) (w : WS) (out : List Int), n - out.length ≤ f → w.Ok → (playW bn base n w out).2.2.Ok
  | 0, w, out, hf, hw => by rw [playW, dif_neg (by omega)]; exact hw
  | f + 1, w, out, hf, hw => by
    rw [playW]
    split
    · rcases oneS_cases bn base hw (n - out.length) with ⟨b', l, w', e1, e2, e3, e4⟩ | ⟨er, w', e1, e2, e4⟩
      · rw [e1]
        simp only [dif_neg e2]
        have := List.length_pos_iff.2 e2
        exact playW_err bn base n f w' (out ++ l) (by simp; omega) e4
      · rw [e1]; exact e4
    · exact hw
theorem playS_err {bn : Bool} {base : List Int} {nl : Bool} {b : List Int} : ((playS bn base nl b).1 = none → (playS bn base nl b).2 ≠ 0) ∧ ((playS bn base nl b).1 ≠ none → (playS bn base nl b).2 = 0) := by
  unfold playS
  extract_lets q e0 r e1
  by_cases c : e0 ≠ 0
  · rw [if_pos c]; exact ⟨fun _ => c, fun h => absurd rfl h⟩
  · rw [if_neg c]
    by_cases c1 : e1 ≠ 0
    · rw [if_pos c1]; exact ⟨fun _ => c1, fun h => absurd rfl h⟩
    · rw [if_neg c1]; exact ⟨fun h => (by cases h), fun _ => rfl⟩
theorem bodyS_err {A : List OB} {base : ByteArray} {t : Bool × List Int} {o : Option (Bool × List Int)} {e : Int} (h : bodyS A base t = (o, e)) : (o = none → e ≠ 0) ∧ (o ≠ none → e = 0) := by
  unfold bodyS at h
  split at h
  · obtain ⟨rfl, rfl⟩ := Prod.mk.inj h; exact ⟨fun h => (by cases h), fun _ => rfl⟩
  · split at h
    · obtain ⟨rfl, rfl⟩ := Prod.mk.inj h; exact ⟨fun _ => (by decide), fun h => absurd rfl h⟩
    · rename_i x hx
      obtain ⟨p1, p2⟩ := playS_err (bn := x.nl) (base := x.b) (nl := t.1) (b := t.2)
      split at h
      · rename_i hp; rw [hp] at p1 p2; obtain ⟨rfl, rfl⟩ := Prod.mk.inj h; exact ⟨fun h => (by cases h), fun _ => p2 (by simp)⟩
      · rename_i hp; rw [hp] at p1 p2; obtain ⟨rfl, rfl⟩ := Prod.mk.inj h; exact ⟨fun _ => p1 rfl, fun h => absurd rfl h⟩
theorem fndX_mem {A : List OB} {i : ByteArray} {x : OB} (h : fndX A i = some x) : x ∈ A ∧ x.id = i := by
  induction A with
  | nil => simp [fndX] at h
  | cons y A ih =>
    rw [fndX] at h
    split at h
    · simp at h; subst h; rename_i hy; exact ⟨by simp, hy⟩
    · exact ⟨by simp [(ih h).1], (ih h).2⟩

set_option maxRecDepth 100000 in
set_option maxHeartbeats 8000000 in
theorem body_fn (n1 n2 : Bool) (a b : List OB) (q : ByteArray) (t : Bool × List Int) (hab : a.length + b.length ≤ 1000) (hA : ∀ o, o ∈ a ++ b → o.b.length ≤ 1000000) (h1 : t.1 = true → t.2 = []) (h2 : InB t.2) (h3 : t.2.length ≤ 1000000) :
    Fc Tryd.prog 98 [.sl .imm n1 2 (obl a), .sl .rd n2 2 (obl b), .lit (.string q), .sl .imm t.1 1 (u8s t.2)] [] (.tup [rowPV (bodyS (a ++ b) q t).1, .lit (.int .i64 (bodyS (a ++ b) q t).2)]) [] := by
  have hF := findR_fn n1 n2 a b q hab
  by_cases c1 : q = ⟨#[]⟩
  · have e : bodyS (a ++ b) q t = (some t, 0) := by rw [bodyS, if_pos c1]
    rw [e]
    refine Fc.of (anys _ [110, 111]) [] mixed Tryd.func98 rfl (by rfl) (by simp [Tryd.ntmps98]) (by decide) ?_
    have c1' := eq_true c1
    simp -implicitDefEqProofs -dsimp [Tryd.ntmps98, c1', rowPV]
  · cases hx : fndX (a ++ b) q with
    | none =>
      have e : bodyS (a ++ b) q t = (none, 11) := by rw [bodyS, if_neg c1, hx]
      have e1 : fndT (a ++ b) q = false := by rw [fndT, hx]; rfl
      have e2 : fndR (a ++ b) q = (true, []) := by rw [fndR, hx]
      rw [e]
      rw [e1, e2] at hF
      refine Fc.of (anys _ [110, 111]) [] mixed Tryd.func98 rfl (by rfl) (by simp [Tryd.ntmps98]) (by decide) ?_
      simp -implicitDefEqProofs -dsimp [Tryd.ntmps98, c1]
      refine CallK.works ?_
      simp -implicitDefEqProofs -dsimp
      refine CallQ.mk (hF) (by simp) ?_
      simp -implicitDefEqProofs -dsimp
    | some x =>
      have e : bodyS (a ++ b) q t = (match playS x.nl x.b t.1 t.2 with | (some l, e) => (some (l.isEmpty, l), e) | (none, e) => (none, e)) := by rw [bodyS, if_neg c1, hx]
      have e1 : fndT (a ++ b) q = true := by rw [fndT, hx]; rfl
      have e2 : fndR (a ++ b) q = (x.nl, x.b) := by rw [fndR, hx]
      have hP := play_fn x.nl x.b t.1 t.2 h1 h2 (hA x (fndX_mem hx).1) h3
      rw [e1, e2] at hF
      rw [e]
      generalize playS x.nl x.b t.1 t.2 = R at *
      obtain ⟨o, er⟩ := R
      cases o with
      | none =>
        refine Fc.of (anys _ [110, 111]) [] mixed Tryd.func98 rfl (by rfl) (by simp [Tryd.ntmps98]) (by decide) ?_
        simp -implicitDefEqProofs -dsimp [Tryd.ntmps98, c1]
        refine CallK.works ?_
        simp -implicitDefEqProofs -dsimp
        refine CallQ.mk (hF) (by simp) ?_
        simp -implicitDefEqProofs -dsimp
        refine CallK.works ?_
        simp -implicitDefEqProofs -dsimp
        refine CallQ.mk (hP) (by simp) ?_
        simp -implicitDefEqProofs -dsimp
      | some l =>
        refine Fc.of (anys _ [110, 111]) [] mixed Tryd.func98 rfl (by rfl) (by simp [Tryd.ntmps98]) (by decide) ?_
        simp -implicitDefEqProofs -dsimp [Tryd.ntmps98, c1]
        refine CallK.works ?_
        simp -implicitDefEqProofs -dsimp
        refine CallQ.mk (hF) (by simp) ?_
        simp -implicitDefEqProofs -dsimp
        refine CallK.works ?_
        simp -implicitDefEqProofs -dsimp
        refine CallQ.mk (hP) (by simp) ?_
        simp -implicitDefEqProofs -dsimp

def obPV : Option OB → PV
  | none => .agg [.lit (.string ByteArray.empty), .sl .imm true 0 []]
  | some x => .agg x.cells

set_option maxRecDepth 100000 in
set_option maxHeartbeats 16000000 in
theorem oneb_fn (n1 n2 : Bool) (a b : List OB) (w : WS) (hw : w.Ok) (hab : a.length + b.length ≤ 1000) (hA : ∀ o, o ∈ a ++ b → o.b.length ≤ 1000000) :
    Fc Tryd.prog 78 [.ptr 100000 0, .sl .imm n1 2 (obl a), .sl .rd n2 2 (obl b)] [(100000, .cells (wcells w))]
      (.tup [obPV (oneB (a ++ b) w).1.1, .lit (.int .i64 (oneB (a ++ b) w).1.2)]) [(100000, .cells (wcells (oneB (a ++ b) w).2))] := by
  obtain ⟨A1, A2, A3⟩ := WS.text_row hw 32
  have hT1 := wtext_fn w hw 32 (by omega) (by omega)
  have o1 := WS.text_ok hw 32
  have hB : oneB (a ++ b) w = (let a' := w.text 32; let c := a'.2.text 32; let t := c.2.text 262144
    if t.2.fail ≠ 0 then ((none, t.2.fail), t.2)
    else match bodyS (a ++ b) (ofBs c.1.2) t.1 with
      | (none, e) => ((none, e), t.2)
      | (some x, _) => if 131072 < x.2.length then ((none, 4), t.2) else if digOf x.2 ≠ ofBs a'.1.2 then ((none, 12), t.2) else ((some ⟨ofBs a'.1.2, x.1, x.2⟩, 0), t.2)) := rfl
  rw [hB]
  clear hB
  generalize w.text 32 = V1 at *
  obtain ⟨⟨i1, i2⟩, w1⟩ := V1
  simp only at A1 A2 A3 hT1 o1 ⊢
  obtain ⟨B1, B2, B3⟩ := WS.text_row o1 32
  have hT2 := wtext_fn w1 o1 32 (by omega) (by omega)
  have o2 := WS.text_ok o1 32
  generalize w1.text 32 = V2 at *
  obtain ⟨⟨c1, c2⟩, w2⟩ := V2
  simp only at B1 B2 B3 hT2 o2 ⊢
  obtain ⟨C1, C2, C3⟩ := WS.text_row o2 262144
  have hT3 := wtext_fn w2 o2 262144 (by omega) (by omega)
  have o3 := WS.text_ok o2 262144
  generalize w2.text 262144 = V3 at *
  obtain ⟨⟨t1, t2⟩, w3⟩ := V3
  simp only at C1 C2 C3 hT3 o3 ⊢
  by_cases q1 : w3.fail = 0
  · rw [if_neg (fun h => h q1)]
    have hBd := body_fn n1 n2 a b (ofBs c2) (t1, t2) hab hA C3 C1 C2
    have hE := @bodyS_err (a ++ b) (ofBs c2) (t1, t2)
    generalize bodyS (a ++ b) (ofBs c2) (t1, t2) = R at *
    obtain ⟨o, er⟩ := R
    obtain ⟨E1, E2⟩ := hE rfl
    cases o with
    | none =>
      have E1 := E1 rfl
      refine Fc.of (anys _ [96, 97, 98, 53]) [] mixed Tryd.func78 rfl (by rfl) (by simp [Tryd.ntmps78]) (by decide) ?_
      simp -implicitDefEqProofs -dsimp [Tryd.ntmps78]
      refine CallK.works ?_
      simp -implicitDefEqProofs -dsimp
      refine CallQ.mk (hT1) (by simp) ?_
      simp -implicitDefEqProofs -dsimp [A1]
      refine CallK.works ?_
      simp -implicitDefEqProofs -dsimp
      refine CallQ.mk (hT2) (by simp) ?_
      simp -implicitDefEqProofs -dsimp [B1]
      refine CallK.works ?_
      simp -implicitDefEqProofs -dsimp
      refine CallQ.mk (hT3) (by simp) ?_
      simp -implicitDefEqProofs -dsimp
      refine CallK.reads ?_
      simp -implicitDefEqProofs -dsimp
      refine CallQ.same (fail_fn w3) rfl ?_
      simp -implicitDefEqProofs -dsimp [q1]
      refine CallK.works ?_
      simp -implicitDefEqProofs -dsimp
      refine CallQ.mk (hBd) (by simp) ?_
      simp -implicitDefEqProofs -dsimp [E1, obPV]
    | some x =>
      obtain ⟨x1, x2⟩ := x
      have E2 := E2 (by simp)
      simp only [rowPV_some] at hBd ⊢
      by_cases q2 : 131072 < x2.length
      · rw [if_pos q2]
        have q2' : (131072 : Int) < x2.length := by omega
        refine Fc.of (anys _ [96, 97, 98, 53]) [] mixed Tryd.func78 rfl (by rfl) (by simp [Tryd.ntmps78]) (by decide) ?_
        simp -implicitDefEqProofs -dsimp [Tryd.ntmps78]
        refine CallK.works ?_
        simp -implicitDefEqProofs -dsimp
        refine CallQ.mk (hT1) (by simp) ?_
        simp -implicitDefEqProofs -dsimp [A1]
        refine CallK.works ?_
        simp -implicitDefEqProofs -dsimp
        refine CallQ.mk (hT2) (by simp) ?_
        simp -implicitDefEqProofs -dsimp [B1]
        refine CallK.works ?_
        simp -implicitDefEqProofs -dsimp
        refine CallQ.mk (hT3) (by simp) ?_
        simp -implicitDefEqProofs -dsimp
        refine CallK.reads ?_
        simp -implicitDefEqProofs -dsimp
        refine CallQ.same (fail_fn w3) rfl ?_
        simp -implicitDefEqProofs -dsimp [q1]
        refine CallK.works ?_
        simp -implicitDefEqProofs -dsimp
        refine CallQ.mk (hBd) (by simp) ?_
        simp -implicitDefEqProofs -dsimp [E2, q2', obPV]
      · rw [if_neg q2]
        have q2' : ¬ (131072 : Int) < x2.length := by omega
        have hO := of_fn x1 x2 (by omega)
        by_cases q3 : digOf x2 = ofBs i2
        · rw [if_neg (fun h => h q3)]
          have q3' := eq_true q3
          refine Fc.of (anys _ [96, 97, 98, 53]) [] mixed Tryd.func78 rfl (by rfl) (by simp [Tryd.ntmps78]) (by decide) ?_
          simp -implicitDefEqProofs -dsimp [Tryd.ntmps78]
          refine CallK.works ?_
          simp -implicitDefEqProofs -dsimp
          refine CallQ.mk (hT1) (by simp) ?_
          simp -implicitDefEqProofs -dsimp [A1]
          refine CallK.works ?_
          simp -implicitDefEqProofs -dsimp
          refine CallQ.mk (hT2) (by simp) ?_
          simp -implicitDefEqProofs -dsimp [B1]
          refine CallK.works ?_
          simp -implicitDefEqProofs -dsimp
          refine CallQ.mk (hT3) (by simp) ?_
          simp -implicitDefEqProofs -dsimp
          refine CallK.reads ?_
          simp -implicitDefEqProofs -dsimp
          refine CallQ.same (fail_fn w3) rfl ?_
          simp -implicitDefEqProofs -dsimp [q1]
          refine CallK.works ?_
          simp -implicitDefEqProofs -dsimp
          refine CallQ.mk (hBd) (by simp) ?_
          simp -implicitDefEqProofs -dsimp [E2, q2']
          refine CallK.reads ?_
          simp -implicitDefEqProofs -dsimp
          refine CallQ.same (hO) rfl ?_
          simp -implicitDefEqProofs -dsimp [q3', obPV, OB.cells]
        · rw [if_pos q3]
          have q3' := q3
          refine Fc.of (anys _ [96, 97, 98, 53]) [] mixed Tryd.func78 rfl (by rfl) (by simp [Tryd.ntmps78]) (by decide) ?_
          simp -implicitDefEqProofs -dsimp [Tryd.ntmps78]
          refine CallK.works ?_
          simp -implicitDefEqProofs -dsimp
          refine CallQ.mk (hT1) (by simp) ?_
          simp -implicitDefEqProofs -dsimp [A1]
          refine CallK.works ?_
          simp -implicitDefEqProofs -dsimp
          refine CallQ.mk (hT2) (by simp) ?_
          simp -implicitDefEqProofs -dsimp [B1]
          refine CallK.works ?_
          simp -implicitDefEqProofs -dsimp
          refine CallQ.mk (hT3) (by simp) ?_
          simp -implicitDefEqProofs -dsimp
          refine CallK.reads ?_
          simp -implicitDefEqProofs -dsimp
          refine CallQ.same (fail_fn w3) rfl ?_
          simp -implicitDefEqProofs -dsimp [q1]
          refine CallK.works ?_
          simp -implicitDefEqProofs -dsimp
          refine CallQ.mk (hBd) (by simp) ?_
          simp -implicitDefEqProofs -dsimp [E2, q2']
          refine CallK.reads ?_
          simp -implicitDefEqProofs -dsimp
          refine CallQ.same (hO) rfl ?_
          simp -implicitDefEqProofs -dsimp [q3', obPV]
  · rw [if_pos q1]
    refine Fc.of (anys _ [96, 97, 98, 53]) [] mixed Tryd.func78 rfl (by rfl) (by simp [Tryd.ntmps78]) (by decide) ?_
    simp -implicitDefEqProofs -dsimp [Tryd.ntmps78]
    refine CallK.works ?_
    simp -implicitDefEqProofs -dsimp
    refine CallQ.mk (hT1) (by simp) ?_
    simp -implicitDefEqProofs -dsimp [A1]
    refine CallK.works ?_
    simp -implicitDefEqProofs -dsimp
    refine CallQ.mk (hT2) (by simp) ?_
    simp -implicitDefEqProofs -dsimp [B1]
    refine CallK.works ?_
    simp -implicitDefEqProofs -dsimp
    refine CallQ.mk (hT3) (by simp) ?_
    simp -implicitDefEqProofs -dsimp
    refine CallK.reads ?_
    simp -implicitDefEqProofs -dsimp
    refine CallQ.same (fail_fn w3) rfl ?_
    simp -implicitDefEqProofs -dsimp [q1, obPV]
end Go.Proofs.YtekokchejkjjjaaDoor

/-! Bundles: unpacked. -/
namespace Go.Sy
@[simp] theorem obl_allC {l : List OB} : (∀ x, x ∈ obl l → DataC x) = True := eq_true fun x h => by
  simp only [obl, List.mem_map] at h
  obtain ⟨o, _, rfl⟩ := h
  rw [dataC_agg]
  intro y hy
  simp only [OB.cells, List.mem_cons, List.not_mem_nil, or_false] at hy
  rcases hy with rfl | rfl
  · exact .lit _
  · exact (dataC_sl _ _ _).2 fun z hz => ints_dataC _ hz
@[simp] theorem ws_clean (s : WS) : (∀ x, x ∈ Go.Proofs.YtekokchejkjjjaaDoor.wcells s → Go.Sy.Clean x) = True := eq_true fun x hx => by
  simp only [Go.Proofs.YtekokchejkjjjaaDoor.wcells, List.mem_cons, List.not_mem_nil, or_false] at hx
  rcases hx with rfl | rfl <;> simp
theorem obl_cells (l : List OB) (x : OB) : obl l ++ [PV.agg x.cells] = obl (l ++ [x]) := by simp [obl]
@[simp] theorem ob_clean (x : OB) : Go.Sy.Clean (.agg x.cells) = True := eq_true (by simp [OB.cells])
end Go.Sy
namespace Go.Proofs.YtekokchejkjjjaaDoor
open Go.Sy
def oblPV : Option (List OB) → PV
  | none => .sl .imm true 0 []
  | some l => .sl .imm l.isEmpty 2 (obl l)
@[simp] theorem oblPV_none : oblPV none = .sl .imm true 0 [] := (rfl)
@[simp] theorem oblPV_some (l : List OB) : oblPV (some l) = .sl .imm l.isEmpty 2 (obl l) := (rfl)
theorem oneB_cases (A : List OB) {w : WS} (hw : w.Ok) : (∃ x w', oneB A w = ((some x, 0), w') ∧ x.b.length ≤ 131072 ∧ w'.Ok) ∨ (∃ e w', oneB A w = ((none, e), w') ∧ e ≠ 0 ∧ w'.Ok) := by
  have o3 := WS.text_ok (WS.text_ok (WS.text_ok hw 32) 32) 262144
  unfold oneB
  extract_lets a c t
  by_cases q1 : t.2.fail ≠ 0
  · rw [if_pos q1]; exact .inr ⟨_, _, rfl, q1, o3⟩
  · rw [if_neg q1]
    have hE := @bodyS_err A (ofBs c.1.2) t.1
    generalize bodyS A (ofBs c.1.2) t.1 = R at *
    obtain ⟨o, er⟩ := R
    obtain ⟨E1, E2⟩ := hE rfl
    cases o with
    | none => exact .inr ⟨_, _, rfl, E1 rfl, o3⟩
    | some x =>
      simp only
      split
      · exact .inr ⟨_, _, rfl, by decide, o3⟩
      · rename_i h
        split
        · exact .inr ⟨_, _, rfl, by decide, o3⟩
        · exact .inl ⟨_, _, rfl, by simpa using h, o3⟩

set_option maxRecDepth 100000 in
set_option maxHeartbeats 16000000 in
theorem unpack_fn (n1 : Bool) (k : List OB) (hk : k.length ≤ 100) (hkb : ∀ o, o ∈ k → o.b.length ≤ 1000000) (nl : Bool) (b : List Int) (hn : nl = true → b = []) (hi : InB b) (hl : b.length ≤ 1000000) :
    Fc Tryd.prog 40 [.sl .imm n1 2 (obl k), .sl .imm nl 1 (u8s b)] [] (.tup [oblPV (unpS k nl b).1, .lit (.int .i64 (unpS k nl b).2)]) [] := by
  have hw : WS.Ok ⟨nl, b, 0⟩ := ⟨hn, hi, hl⟩
  have hO := open_fn nl b hn hl
  have hN := wnum_fn _ hw
  have o1 := WS.num_ok hw
  have l1 := WS.num_lt hw
  have hq : unpS k nl b = (let q := WS.num ⟨nl, b, 0⟩; if 64 < q.1 then (none, 4) else unpE (unpW k q.1 q.2 [])) := rfl
  rw [hq]
  clear hq
  generalize WS.num ⟨nl, b, 0⟩ = N at *
  obtain ⟨n, w1⟩ := N
  simp only at o1 l1 hN ⊢
  by_cases c1 : 64 < n
  · rw [if_pos c1]
    have c1' : (64 : Int) < n := by omega
    refine Fc.of (anys _ [76, 77, 78, 79]) [] mixed Tryd.func40 rfl (by rfl) (by simp [Tryd.ntmps40]) (by decide) ?_
    simp -implicitDefEqProofs -dsimp [Tryd.ntmps40]
    refine CallK.works ?_
    simp -implicitDefEqProofs -dsimp
    refine CallQ.mk (hO) (by simp) ?_
    simp -implicitDefEqProofs -dsimp
    refine CallK.works ?_
    simp -implicitDefEqProofs -dsimp
    refine CallQ.mk (hN) (by simp) ?_
    simp -implicitDefEqProofs -dsimp [c1']
  · rw [if_neg c1]
    have c1' : ¬ (64 : Int) < n := by omega
    obtain ⟨R, hR⟩ : ∃ R, R = unpW k n w1 [] := ⟨_, rfl⟩
    rw [← hR]
    have q := Fc.of (P := Tryd.prog) (args := [.sl .imm n1 2 (obl k), .sl .imm nl 1 (u8s b)]) (h := []) (X := .tup [match (unpE R).1 with | none => .sl .imm true 0 [] | some l => .sl (.own (.loc 34)) l.isEmpty 2 (obl l),
        .lit (.int .i64 (unpE R).2)]) (H := [])
      (anys _ [76, 77, 78, 79]) [] mixed Tryd.func40 rfl (by rfl) (by simp [Tryd.ntmps40]) (by decide) ?_
    · have := q.fz [.loc 34]
      clear q
      revert this
      generalize unpE R = Z
      obtain ⟨o, e⟩ := Z
      cases o <;> simp [fzOf]
    simp -implicitDefEqProofs -dsimp [Tryd.ntmps40]
    refine CallK.works ?_
    simp -implicitDefEqProofs -dsimp
    refine CallQ.mk (hO) (by simp) ?_
    simp -implicitDefEqProofs -dsimp
    refine CallK.works ?_
    simp -implicitDefEqProofs -dsimp
    refine CallQ.mk (hN) (by simp) ?_
    simp -implicitDefEqProofs -dsimp [c1']
    refine LpK.mk (anys _ [76, 77, 78, 79]) mixed (fun ((i, w, out) : Nat × WS × List OB) => i ≤ n ∧ w.Ok ∧ out.length = i ∧ (∀ o, o ∈ out → o.b.length ≤ 1000000) ∧ R = unpW k (n - i) w out)
      (fun ((i, w, out) : Nat × WS × List OB) => ⟨[(0, .sl .imm n1 2 (obl k)), (6, .ptr 1130 0), (8, .sl (.own (.loc 34)) out.isEmpty 2 (obl out)), (18, .lit (.int .u64 n)), (19, .lit (.int .u64 i))],
        [(1130, .cells (wcells w))], 42⟩) (fun (i, _) => n - i) (0, w1, []) ⟨by omega, o1, rfl, by simp, hR⟩ (by simp -implicitDefEqProofs -dsimp) ?_
    rintro ⟨i, w, out⟩ ⟨hin, hw2, hol, hob, hpl⟩
    by_cases hlt : i < n
    · have hlt' : (i : Int) < n := by omega
      have w2 : IntKind.u64.wrap ((i : Int) + 1) = (i : Int) + 1 := by rw [wrap_is_u64]; omega
      have hB := oneb_fn n1 out.isEmpty k out w hw2 (by omega) (fun o ho => by
        rcases List.mem_append.1 ho with ho | ho
        · exact hkb o ho
        · exact hob o ho)
      have e0 : n - i = (n - (i + 1)) + 1 := by omega
      rw [e0, unpW] at hpl
      rcases oneB_cases (k ++ out) hw2 with ⟨x, w', e1, e2, e3⟩ | ⟨er, w', e1, e2, e3⟩
      · rw [e1] at hB hpl
        obtain ⟨xi, xn, xb⟩ := x
        simp only [obPV, OB.cells] at hB hpl
        have hz : (out.length + 1) * 40 ≤ 140737488355328 := by omega
        have hz2 : out.length + 1 ≤ 140737488355328 := by omega
        simp -implicitDefEqProofs -dsimp [hlt']
        refine CallK.lends [.loc 34] ?_
        simp -implicitDefEqProofs -dsimp
        refine CallQ.mk (hB) (by simp) ?_
        simp -implicitDefEqProofs -dsimp [hz, hz2, obl_snoc, w2, PV.toks.toksL]
        refine .mk (i + 1, w', out ++ [⟨xi, xn, xb⟩]) ⟨hlt, e3, by simp; omega, fun o ho => ?_, hpl⟩ (by simp; omega) (by simp -implicitDefEqProofs -dsimp)
        rcases List.mem_append.1 ho with ho | ho
        · exact hob o ho
        · simp at ho; subst ho; simp only at e2 ⊢; omega
      · rw [e1] at hB hpl
        simp only [obPV] at hB hpl
        simp -implicitDefEqProofs -dsimp [hlt']
        refine CallK.lends [.loc 34] ?_
        simp -implicitDefEqProofs -dsimp
        refine CallQ.mk (hB) (by simp) ?_
        simp -implicitDefEqProofs -dsimp [e2, hpl, unpE]
    · have hlt' : ¬ (i : Int) < n := by omega
      have e0 : n - i = 0 := by omega
      rw [e0, unpW] at hpl
      simp -implicitDefEqProofs -dsimp [hlt']
      by_cases hf : w.fin = 0
      · refine CallK.reads ?_
        simp -implicitDefEqProofs -dsimp
        refine CallQ.same (end_fn w) rfl ?_
        simp -implicitDefEqProofs -dsimp [hf, hpl, unpE]
      · refine CallK.reads ?_
        simp -implicitDefEqProofs -dsimp
        refine CallQ.same (end_fn w) rfl ?_
        simp -implicitDefEqProofs -dsimp [hf, hpl, unpE]
end Go.Proofs.YtekokchejkjjjaaDoor

/-! Bundles: unpacked as the document has it. -/
namespace Go.Sy
@[simp ↓] theorem tailOf_rd {s i : Nat} {xs : List PV} {x : PV} : tailOf .rd s xs i x = .cur .rd x.comps := by unfold tailOf; rfl
end Go.Sy
namespace Go.Proofs.YtekokchejkjjjaaDoor
open Go.Sy
set_option maxRecDepth 100000 in
set_option maxHeartbeats 16000000 in
theorem rfindR_fn (n1 n2 : Bool) (a b : List OB) (q : ByteArray) (hab : a.length + b.length ≤ 1000) :
    Fc Tryd.prog 73 [.sl .imm n1 2 (obl a), .sl .rd n2 2 (obl b), .lit (.string q)] [] (.tup [.sl .imm (fndR (a ++ b) q).1 1 (u8s (fndR (a ++ b) q).2), .lit (.bool (fndT (a ++ b) q))]) [] := by
  obtain ⟨A, hAe⟩ : ∃ A, A = a ++ b := ⟨_, rfl⟩
  have hAl : A.length = a.length + b.length := by rw [hAe, List.length_append]
  have hw0 : IntKind.i64.wrap ((a.length : Int) + b.length) = (a.length : Int) + b.length := wrap64 (by omega) (by omega)
  suffices h : ∀ rn rb t, (rn, rb) = fndR A q → t = fndT A q → Fc Tryd.prog 73 [.sl .imm n1 2 (obl a), .sl .rd n2 2 (obl b), .lit (.string q)] [] (.tup [.sl .imm rn (if t = true then 1 else 0) (u8s rb), .lit (.bool t)]) [] by
    rw [← hAe]
    have := h (fndR A q).1 (fndR A q).2 (fndT A q) rfl rfl
    cases e : fndX A q with
    | some x =>
      have e1 : fndT A q = true := by rw [fndT, e]; rfl
      rw [e1, if_pos rfl] at this
      rw [e1]; exact this
    | none =>
      have e1 : fndT A q = false := by rw [fndT, e]; rfl
      have e2 : fndR A q = (true, []) := by rw [fndR, e]
      rw [e1, e2] at this
      rw [e1, e2]
      exact Fc.tup this (by simp)
  intro rn rb t hr ht
  refine Fc.of (anys _ []) [] mixed Tryd.func73 rfl (by rfl) (by simp [Tryd.ntmps73]) (by decide) ?_
  simp -implicitDefEqProofs -dsimp [Tryd.ntmps73]
  refine LpK.mk (anys _ []) mixed (fun i : Nat => i ≤ A.length ∧ fndX A q = fndX (A.drop i) q)
    (fun i => ⟨[(0, .sl .imm n1 2 (obl a)), (1, .sl .rd n2 2 (obl b)), (2, .lit (.string q)), (8, .lit (.int .i64 i))], [], 41⟩) (fun i => A.length - i) 0 ⟨by omega, by simp⟩ (by simp -implicitDefEqProofs -dsimp) ?_
  rintro i ⟨hi, he⟩
  by_cases hlt : i < A.length
  · have hlt' : (i : Int) < (a.length : Int) + b.length := by omega
    have hw : IntKind.i64.wrap ((i : Int) + 1) = (i : Int) + 1 := wrap64 (by omega) (by omega)
    obtain ⟨x, hx⟩ : ∃ x, A[i] = x := ⟨_, rfl⟩
    have hx' : A[i]? = some x := by rw [List.getElem?_eq_getElem hlt, hx]
    have hd : A.drop i = x :: A.drop (i + 1) := by rw [List.drop_eq_getElem_cons hlt, hx]
    rw [hd, fndX] at he
    have fin : x.id = q → rn = x.nl ∧ rb = x.b ∧ t = true := fun c => by
      rw [if_pos c] at he
      rw [fndR, he] at hr
      rw [fndT, he] at ht
      obtain ⟨rfl, rfl⟩ := Prod.mk.inj hr
      exact ⟨rfl, rfl, ht⟩
    by_cases ca : i < a.length
    · have ax : a[i] = x := by
        have : (a ++ b)[i]? = some x := by rw [← hAe]; exact hx'
        rw [List.getElem?_append_left ca, List.getElem?_eq_getElem ca] at this
        simpa using this
      have ax' : a[i]? = some x := by rw [List.getElem?_eq_getElem ca, ax]
      by_cases c : x.id = q
      · obtain ⟨rfl, rfl, rfl⟩ := fin c
        have c' := eq_true c
        simp -implicitDefEqProofs -dsimp [hlt', hw0, ca, ax, ax', OB.cells, c']
      · rw [if_neg c] at he
        simp -implicitDefEqProofs -dsimp [hlt', hw0, ca, ax, ax', OB.cells, c, hw]
        exact .mk (i + 1) ⟨hlt, he⟩ (by omega) (by simp -implicitDefEqProofs -dsimp)
    · have hs : IntKind.i64.wrap ((i : Int) - a.length) = ((i - a.length : Nat) : Int) := by rw [wrap64 (by omega) (by omega)]; omega
      have cb : i - a.length < b.length := by omega
      have bx' : b[i - a.length]? = some x := by
        have : (a ++ b)[i]? = some x := by rw [← hAe]; exact hx'
        rwa [List.getElem?_append_right (by omega)] at this
      have bx : b[i - a.length] = x := by rw [List.getElem?_eq_getElem cb] at bx'; simpa using bx'
      by_cases c : x.id = q
      · obtain ⟨rfl, rfl, rfl⟩ := fin c
        have c' := eq_true c
        simp -implicitDefEqProofs -dsimp [hlt', hw0, ca, hs, cb, bx, bx', OB.cells, c']
      · rw [if_neg c] at he
        simp -implicitDefEqProofs -dsimp [hlt', hw0, ca, hs, cb, bx, bx', OB.cells, c, hw]
        exact .mk (i + 1) ⟨hlt, he⟩ (by omega) (by simp -implicitDefEqProofs -dsimp)
  · have hlt' : ¬ (i : Int) < (a.length : Int) + b.length := by omega
    have ei : i = A.length := by omega
    rw [ei, List.drop_length, fndX] at he
    rw [fndR, he] at hr
    rw [fndT, he] at ht
    obtain ⟨rfl, rfl⟩ := Prod.mk.inj hr
    subst ht
    simp -implicitDefEqProofs -dsimp [hlt', hw0]
theorem num_fail0 {w : WS} (hw : w.fail = 0) (h : w.num.2.fail ≠ 0) : w.num.1 = 0 := by
  revert h
  unfold WS.num
  rw [if_neg (by simp [hw])]
  split
  · simp
  · simp [hw]
theorem ofBs_empty {l : List Int} (h : InB l) : (ofBs l = ⟨#[]⟩) ↔ l = [] := by
  constructor
  · intro e
    have := congrArg bs e
    rw [bs_ofBs h] at this
    rw [this]; rfl
  · rintro rfl; rfl

theorem oneS_in (bn : Bool) {base : List Int} (hb : InB base) {w : WS} (hw : w.Ok) (lacks : Nat) {b' : Bool} {l : List Int} {e : Int} {w' : WS} (h : oneS bn base w lacks = ((some (b', l), e), w')) : InB l := by
  have o1 := WS.num_ok hw
  unfold oneS at h
  split at h
  · cases h
  · split at h
    · cases h
    · split at h
      · split at h
        · cases h
        · split at h
          · cases h
          · cases h; exact (hb.drop _).take _
      · split at h
        · cases h
        · split at h
          · cases h
          · split at h
            · cases h
            · have := (WS.text_row o1 262144).1
              simp only [Prod.mk.injEq, Option.some.injEq] at h
              rw [h.1.1] at this; exact this
theorem playW_in (bn : Bool) {base : List Int} (hb : InB base) (n : Nat) : ∀ (f : Nat) (w : WS) (out : List Int), n - out.length ≤ f → w.Ok → InB out → InB (playW bn base n w out).2.1
  | 0, w, out, hf, hw, ho => by rw [playW, dif_neg (by omega)]; exact ho
  | f + 1, w, out, hf, hw, ho => by
    rw [playW]
    split
    · rcases oneS_cases bn base hw (n - out.length) with ⟨b', l, w', e1, e2, e3, e4⟩ | ⟨er, w', e1, e2, e4⟩
      · have hl := oneS_in bn hb hw _ e1
        rw [e1]
        simp only [dif_neg e2]
        have := List.length_pos_iff.2 e2
        exact playW_in bn hb n f w' (out ++ l) (by simp; omega) e4 (fun x hx => (List.mem_append.1 hx).elim (ho x) (hl x))
      · rw [e1]; exact ho
    · exact ho
theorem playS_in {bn : Bool} {base : List Int} (hb : InB base) {nl : Bool} {b : List Int} (hw : (WS.mk nl b 0).Ok) {l : List Int} (h : (playS bn base nl b).1 = some l) : InB l := by
  unfold playS at h
  extract_lets q e0 r e1 at h
  by_cases c : e0 ≠ 0
  · rw [if_pos c] at h; cases h
  · rw [if_neg c] at h
    by_cases c1 : e1 ≠ 0
    · rw [if_pos c1] at h; cases h
    · rw [if_neg c1] at h
      cases h
      exact playW_in bn hb q.1 _ q.2 [] (Nat.le_refl _) (WS.num_ok hw) (by simp [InB])
theorem bodyS_in {A : List OB} (hA : ∀ o, o ∈ A → InB o.b) {base : ByteArray} {t : Bool × List Int} (hw : (WS.mk t.1 t.2 0).Ok) {x : Bool × List Int} {e : Int} (h : bodyS A base t = (some x, e)) : InB x.2 := by
  unfold bodyS at h
  split at h
  · cases h; exact hw.bytes
  · split at h
    · cases h
    · rename_i y hy
      have hp := @playS_in y.nl y.b (hA y (fndX_mem hy).1) t.1 t.2 hw
      split at h
      · rename_i l e' hl
        rw [hl] at hp
        cases h; exact hp rfl
      · cases h
set_option maxRecDepth 100000 in
set_option maxHeartbeats 32000000 in
theorem runpack_fn (n1 : Bool) (k : List OB) (hk : k.length ≤ 100) (hkb : ∀ o, o ∈ k → o.b.length ≤ 1000000) (hki : ∀ o, o ∈ k → InB o.b) (nl : Bool) (b : List Int) (hn : nl = true → b = []) (hi : InB b) (hl : b.length ≤ 1000000) :
    Fc Tryd.prog 41 [.sl .imm n1 2 (obl k), .sl .imm nl 1 (u8s b)] [] (.tup [oblPV (unpS k nl b).1, .lit (.int .i64 (unpS k nl b).2)]) [] := by
  have hw : WS.Ok ⟨nl, b, 0⟩ := ⟨hn, hi, hl⟩
  have hr : RR.Ok ⟨nl, b, 0, 0⟩ := ⟨hi, by simp, hl⟩
  have hrel : RelW ⟨nl, b, 0⟩ ⟨nl, b, 0, 0⟩ := ⟨by simp [RR.rest], rfl⟩
  have o1 := WS.num_ok hw
  have q1 := RR.num_ok hr
  have l1 := WS.num_lt hw
  have hN := rrnum_fn _ hr
  obtain ⟨a1, a2⟩ := rel_num hrel
  have h0 : (WS.mk nl b 0).num.2.fail ≠ 0 → (WS.mk nl b 0).num.1 = 0 := num_fail0 rfl
  have hq : unpS k nl b = (let q := WS.num ⟨nl, b, 0⟩; if 64 < q.1 then (none, 4) else unpE (unpW k q.1 q.2 [])) := rfl
  rw [hq]
  clear hq
  generalize WS.num ⟨nl, b, 0⟩ = N at *
  generalize RR.num ⟨nl, b, 0, 0⟩ = M at *
  obtain ⟨n, w1⟩ := N
  obtain ⟨n', r1⟩ := M
  simp only at o1 q1 l1 hN a1 a2 h0 ⊢
  subst a1
  have hc0 : rcells ⟨nl, b, 0, 0⟩ = [.sl .imm nl 1 (u8s b), .lit (.int .i64 0), .lit (.int .i64 0)] := rfl
  by_cases c0 : w1.fail = 0
  · have c0' : r1.fail = 0 := a2.fail ▸ c0
    by_cases c1 : 64 < n
    · rw [if_pos c1]
      have c1' : (64 : Int) < n := by omega
      refine Fc.of (anys _ [63, 80, 73, 81, 22, 64]) sch41 mixed Tryd.func41 rfl (by rfl) (by simp [Tryd.ntmps41]) (by decide) ?_
      simp -implicitDefEqProofs -dsimp [Tryd.ntmps41]
      rw [← hc0]
      refine CallK.works ?_
      simp -implicitDefEqProofs -dsimp
      refine CallQ.mk (hN) (by simp) ?_
      simp -implicitDefEqProofs -dsimp [c1', c0']
    · rw [if_neg c1]
      have c1' : ¬ (64 : Int) < n := by omega
      have wn : IntKind.i64.wrap (n : Int) = n := wrap64 (by omega) (by omega)
      obtain ⟨R, hR⟩ : ∃ R, R = unpW k n w1 [] := ⟨_, rfl⟩
      rw [← hR]
      have q := Fc.of (P := Tryd.prog) (args := [.sl .imm n1 2 (obl k), .sl .imm nl 1 (u8s b)]) (h := []) (X := .tup [match (unpE R).1 with | none => .sl .imm true 0 [] | some l => .sl (.own (.loc 91)) l.isEmpty 2 (obl l),
          .lit (.int .i64 (unpE R).2)]) (H := [])
        (anys _ [63, 80, 73, 81, 22, 64]) sch41 mixed Tryd.func41 rfl (by rfl) (by simp [Tryd.ntmps41]) (by decide) ?_
      · have := q.fz [.loc 91]
        clear q
        revert this
        generalize unpE R = Z
        obtain ⟨o, e⟩ := Z
        cases o <;> simp [fzOf]
      simp -implicitDefEqProofs -dsimp [Tryd.ntmps41]
      rw [← hc0]
      refine CallK.works ?_
      simp -implicitDefEqProofs -dsimp
      refine CallQ.mk (hN) (by simp) ?_
      simp -implicitDefEqProofs -dsimp [c1', c0']
      refine LpK.mk (anys _ [63, 80, 73, 81, 22, 64]) mixed (fun ((i, w, r, out) : Nat × WS × RR × List OB) => i ≤ n ∧ w.Ok ∧ r.Ok ∧ RelW w r ∧ w.fail = 0 ∧ out.length = i ∧ (∀ o, o ∈ out → o.b.length ≤ 1000000) ∧ (∀ o, o ∈ out → InB o.b) ∧ R = unpW k (n - i) w out)
        (fun ((i, w, r, out) : Nat × WS × RR × List OB) => ⟨[(0, .sl .imm n1 2 (obl k)), (6, .ptr 19 0), (7, .lit (.int .u64 n)), (8, .sl (.own (.loc 91)) out.isEmpty 2 (obl out)), (9, .lit (.int .i64 i))],
          [(19, .cells (rcells r))], 96⟩) (fun (i, _) => n - i) (0, w1, r1, []) ⟨by omega, o1, q1, a2, c0, rfl, by simp, by simp, hR⟩ (by simp -implicitDefEqProofs -dsimp) ?_
      rintro ⟨i, w, r, out⟩ ⟨hin, hw2, hr2, hrel2, hf0, hol, hob, hoi, hpl⟩
      by_cases hlt : i < n
      · have hlt' : (i : Int) < n := by omega
        have w2 : IntKind.i64.wrap ((i : Int) + 1) = (i : Int) + 1 := wrap64 (by omega) (by omega)
        have e0 : n - i = (n - (i + 1)) + 1 := by omega
        rw [e0, unpW] at hpl
        have hB : oneB (k ++ out) w = (let a' := w.text 32; let c := a'.2.text 32; let t := c.2.text 262144
          if t.2.fail ≠ 0 then ((none, t.2.fail), t.2)
          else match bodyS (k ++ out) (ofBs c.1.2) t.1 with
            | (none, e) => ((none, e), t.2)
            | (some x, _) => if 131072 < x.2.length then ((none, 4), t.2) else if digOf x.2 ≠ ofBs a'.1.2 then ((none, 12), t.2) else ((some ⟨ofBs a'.1.2, x.1, x.2⟩, 0), t.2)) := rfl
        rw [hB] at hpl
        clear hB
        obtain ⟨A1, A2, A3⟩ := WS.text_row hw2 32
        have hT1 := rrtext_fn r hr2 32 (by omega) (by omega)
        have v1 := WS.text_ok hw2 32
        have u1 := RR.text_ok hr2 32
        obtain ⟨s1, s2⟩ := rel_text hrel2 32
        rw [← s1] at hT1
        generalize w.text 32 = V1 at *
        generalize r.text 32 = U1 at *
        obtain ⟨⟨i1, i2⟩, w1'⟩ := V1
        obtain ⟨Y1, r1'⟩ := U1
        simp only at A1 A2 A3 hT1 v1 u1 s1 s2 hpl
        obtain ⟨B1, B2, B3⟩ := WS.text_row v1 32
        have hT2 := rrtext_fn r1' u1 32 (by omega) (by omega)
        have v2 := WS.text_ok v1 32
        have u2 := RR.text_ok u1 32
        obtain ⟨s3, s4⟩ := rel_text s2 32
        rw [← s3] at hT2
        generalize w1'.text 32 = V2 at *
        generalize r1'.text 32 = U2 at *
        obtain ⟨⟨c1, c2⟩, w2'⟩ := V2
        obtain ⟨Y2, r2'⟩ := U2
        simp only at B1 B2 B3 hT2 v2 u2 s3 s4 hpl
        obtain ⟨C1, C2, C3⟩ := WS.text_row v2 262144
        have hT3 := rrtext_fn r2' u2 262144 (by omega) (by omega)
        have v3 := WS.text_ok v2 262144
        have u3 := RR.text_ok u2 262144
        obtain ⟨s5, s6⟩ := rel_text s4 262144
        rw [← s5] at hT3
        generalize w2'.text 262144 = V3 at *
        generalize r2'.text 262144 = U3 at *
        obtain ⟨⟨t1, t2⟩, w3⟩ := V3
        obtain ⟨Y3, r3⟩ := U3
        simp only at C1 C2 C3 hT3 v3 u3 s5 s6 hpl
        have hz : (out.length + 1) * 40 ≤ 140737488355328 := by omega
        have hz2 : out.length + 1 ≤ 140737488355328 := by omega
        have sf := s6.fail
        by_cases f3 : w3.fail = 0
        · rw [if_neg (fun h => h f3)] at hpl
          have g3 : r3.fail = 0 := sf ▸ f3
          have fin : ∀ x1 x2, bodyS (k ++ out) (ofBs c2) (t1, t2) = (some (x1, x2), 0) → R = (match (if 131072 < x2.length then ((none, 4), w3) else if digOf x2 ≠ ofBs i2 then ((none, 12), w3) else ((some ⟨ofBs i2, x1, x2⟩, 0), w3) : (Option OB × Int) × WS) with
              | ((none, e), w') => ((none, e), w')
              | ((some x, _), w') => unpW k (n - (i + 1)) w' (out ++ [x])) := fun x1 x2 h => by have := hpl; rw [h] at this; exact this
          have hkA : ∀ o, o ∈ k ++ out → InB o.b := fun o ho => by
            rcases List.mem_append.1 ho with ho | ho
            · exact hki o ho
            · exact hoi o ho
          have hkl : ∀ o, o ∈ k ++ out → o.b.length ≤ 1000000 := fun o ho => by
            rcases List.mem_append.1 ho with ho | ho
            · exact hkb o ho
            · exact hob o ho
          have hbi := @bodyS_in (k ++ out) hkA (ofBs c2) (t1, t2) ⟨C3, C1, C2⟩
          have NS : ∀ {s : St} {x1 x2}, InB x2 → x2.length ≤ 131072 → R = unpW k (n - (i + 1)) w3 (out ++ [⟨ofBs i2, x1, x2⟩]) → subS ⟨[(0, .sl .imm n1 2 (obl k)), (6, .ptr 19 0), (7, .lit (.int .u64 n)), (8, .sl (.own (.loc 91)) (out ++ [(⟨ofBs i2, x1, x2⟩ : OB)]).isEmpty 2 (obl (out ++ [(⟨ofBs i2, x1, x2⟩ : OB)]))), (9, .lit (.int .i64 ((i + 1 : Nat) : Int)))],
                [(19, .cells (rcells r3))], 96⟩ s → NextK (fun ((i, w, r, out) : Nat × WS × RR × List OB) => i ≤ n ∧ w.Ok ∧ r.Ok ∧ RelW w r ∧ w.fail = 0 ∧ out.length = i ∧ (∀ o, o ∈ out → o.b.length ≤ 1000000) ∧ (∀ o, o ∈ out → InB o.b) ∧ R = unpW k (n - i) w out)
              (fun ((i, w, r, out) : Nat × WS × RR × List OB) => ⟨[(0, .sl .imm n1 2 (obl k)), (6, .ptr 19 0), (7, .lit (.int .u64 n)), (8, .sl (.own (.loc 91)) out.isEmpty 2 (obl out)), (9, .lit (.int .i64 i))],
                [(19, .cells (rcells r))], 96⟩) (fun (i, _) => n - i) (n - i) s := fun {s x1 x2} h1 h2 h3 h4 => by
            refine .mk (i + 1, w3, r3, out ++ [⟨ofBs i2, x1, x2⟩]) ⟨hlt, v3, u3, s6, f3, by simp; omega, fun o ho => ?_, fun o ho => ?_, h3⟩ (by show n - (i + 1) < n - i; omega) h4
            · rcases List.mem_append.1 ho with ho | ho
              · exact hob o ho
              · simp at ho; subst ho; simp only; omega
            · rcases List.mem_append.1 ho with ho | ho
              · exact hoi o ho
              · simp at ho; subst ho; exact h1
          by_cases f4 : c2 = []
          · subst f4
            have e := fin t1 t2 (by rw [bodyS, if_pos ((ofBs_empty B1).2 rfl)])
            clear fin hpl
            simp -implicitDefEqProofs -dsimp [hlt', wn]
            refine CallK.works ?_
            simp -implicitDefEqProofs -dsimp
            refine CallQ.mk (hT1) (by simp) ?_
            simp -implicitDefEqProofs -dsimp
            refine CallK.works ?_
            simp -implicitDefEqProofs -dsimp
            refine CallQ.mk (hT2) (by simp) ?_
            simp -implicitDefEqProofs -dsimp
            refine CallK.works ?_
            simp -implicitDefEqProofs -dsimp
            refine CallQ.mk (hT3) (by simp) ?_
            simp -implicitDefEqProofs -dsimp [g3]
            by_cases f5 : 131072 < t2.length
            · have f5' : (131072 : Int) < t2.length := by omega
              rw [if_pos f5] at e
              simp -implicitDefEqProofs -dsimp [f5', e, unpE]
            · have f5' : ¬ (131072 : Int) < t2.length := by omega
              rw [if_neg f5] at e
              have hO := rof_fn t1 t2 (by omega) C1
              simp -implicitDefEqProofs -dsimp [f5', A1]
              by_cases f6 : digOf t2 = ofBs i2
              · rw [if_neg (fun h => h f6)] at e
                have f6' := eq_true f6
                refine CallK.reads ?_
                simp -implicitDefEqProofs -dsimp
                refine CallQ.same (hO) rfl ?_
                simp -implicitDefEqProofs -dsimp [f6', A1, hz, hz2, obl_snoc, PV.toks.toksL, w2]
                exact NS C1 (by omega) e (by simp -implicitDefEqProofs -dsimp)
              · rw [if_pos f6] at e
                refine CallK.reads ?_
                simp -implicitDefEqProofs -dsimp
                refine CallQ.same (hO) rfl ?_
                simp -implicitDefEqProofs -dsimp [f6, A1, e, unpE]
          · have f4' : (0 : Int) < c2.length := by have := List.length_pos_iff.2 f4; omega
            have f4'' : 0 < c2.length := List.length_pos_iff.2 f4
            have hq4 : ¬ ofBs c2 = ⟨#[]⟩ := fun h => f4 ((ofBs_empty B1).1 h)
            have hF := rfindR_fn n1 out.isEmpty k out (ofBs c2) (by omega)
            cases hx : fndX (k ++ out) (ofBs c2) with
            | none =>
              have e : bodyS (k ++ out) (ofBs c2) (t1, t2) = (none, 11) := by rw [bodyS, if_neg hq4, hx]
              have e1 : fndT (k ++ out) (ofBs c2) = false := by rw [fndT, hx]; rfl
              have e2 : fndR (k ++ out) (ofBs c2) = (true, []) := by rw [fndR, hx]
              rw [e1, e2] at hF
              rw [e] at hpl
              simp -implicitDefEqProofs -dsimp [hlt', wn]
              refine CallK.works ?_
              simp -implicitDefEqProofs -dsimp
              refine CallQ.mk (hT1) (by simp) ?_
              simp -implicitDefEqProofs -dsimp
              refine CallK.works ?_
              simp -implicitDefEqProofs -dsimp
              refine CallQ.mk (hT2) (by simp) ?_
              simp -implicitDefEqProofs -dsimp
              refine CallK.works ?_
              simp -implicitDefEqProofs -dsimp
              refine CallQ.mk (hT3) (by simp) ?_
              simp -implicitDefEqProofs -dsimp [g3, f4', f4'', B1]
              refine CallK.lends [.loc 91] ?_
              simp -implicitDefEqProofs -dsimp
              refine CallQ.mk (hF) (by simp) ?_
              simp -implicitDefEqProofs -dsimp [hpl, unpE]
            | some y =>
              have e : bodyS (k ++ out) (ofBs c2) (t1, t2) = (match playS y.nl y.b t1 t2 with | (some l, e) => (some (l.isEmpty, l), e) | (none, e) => (none, e)) := by rw [bodyS, if_neg hq4, hx] <;> rfl
              have e1 : fndT (k ++ out) (ofBs c2) = true := by rw [fndT, hx]; rfl
              have e2 : fndR (k ++ out) (ofBs c2) = (y.nl, y.b) := by rw [fndR, hx]
              have hym := (fndX_mem hx).1
              have hP := rplay_fn y.nl y.b t1 t2 C3 C1 (hkl y hym) C2
              obtain ⟨p1, p2⟩ := playS_err (bn := y.nl) (base := y.b) (nl := t1) (b := t2)
              have p3 := @playS_in y.nl y.b (hkA y hym) t1 t2 ⟨C3, C1, C2⟩
              rw [e1, e2] at hF
              generalize playS y.nl y.b t1 t2 = Q at *
              obtain ⟨o, er⟩ := Q
              cases o with
              | none =>
                have p1 := p1 rfl
                rw [e] at hpl
                simp only at p1 hpl hP
                simp -implicitDefEqProofs -dsimp [hlt', wn]
                refine CallK.works ?_
                simp -implicitDefEqProofs -dsimp
                refine CallQ.mk (hT1) (by simp) ?_
                simp -implicitDefEqProofs -dsimp
                refine CallK.works ?_
                simp -implicitDefEqProofs -dsimp
                refine CallQ.mk (hT2) (by simp) ?_
                simp -implicitDefEqProofs -dsimp
                refine CallK.works ?_
                simp -implicitDefEqProofs -dsimp
                refine CallQ.mk (hT3) (by simp) ?_
                simp -implicitDefEqProofs -dsimp [g3, f4', f4'', B1]
                refine CallK.lends [.loc 91] ?_
                simp -implicitDefEqProofs -dsimp
                refine CallQ.mk (hF) (by simp) ?_
                simp -implicitDefEqProofs -dsimp
                refine CallK.works ?_
                simp -implicitDefEqProofs -dsimp
                refine CallQ.mk (hP) (by simp) ?_
                simp -implicitDefEqProofs -dsimp [p1, hpl, unpE]
              | some l =>
                have p2 := p2 (by simp)
                have p4 := p3 rfl
                simp only at p2 hP e
                subst p2
                have e := fin l.isEmpty l e
                clear fin hpl
                simp -implicitDefEqProofs -dsimp [hlt', wn]
                refine CallK.works ?_
                simp -implicitDefEqProofs -dsimp
                refine CallQ.mk (hT1) (by simp) ?_
                simp -implicitDefEqProofs -dsimp
                refine CallK.works ?_
                simp -implicitDefEqProofs -dsimp
                refine CallQ.mk (hT2) (by simp) ?_
                simp -implicitDefEqProofs -dsimp
                refine CallK.works ?_
                simp -implicitDefEqProofs -dsimp
                refine CallQ.mk (hT3) (by simp) ?_
                simp -implicitDefEqProofs -dsimp [g3, f4', f4'', B1]
                refine CallK.lends [.loc 91] ?_
                simp -implicitDefEqProofs -dsimp
                refine CallQ.mk (hF) (by simp) ?_
                simp -implicitDefEqProofs -dsimp
                by_cases f5 : 131072 < l.length
                · have f5' : (131072 : Int) < l.length := by omega
                  rw [if_pos f5] at e
                  refine CallK.works ?_
                  simp -implicitDefEqProofs -dsimp
                  refine CallQ.mk (hP) (by simp) ?_
                  simp -implicitDefEqProofs -dsimp [f5', e, unpE]
                · have f5' : ¬ (131072 : Int) < l.length := by omega
                  rw [if_neg f5] at e
                  have hO := rof_fn l.isEmpty l (by omega) p4
                  refine CallK.works ?_
                  simp -implicitDefEqProofs -dsimp
                  refine CallQ.mk (hP) (by simp) ?_
                  simp -implicitDefEqProofs -dsimp [f5', A1]
                  by_cases f6 : digOf l = ofBs i2
                  · rw [if_neg (fun h => h f6)] at e
                    have f6' := eq_true f6
                    refine CallK.reads ?_
                    simp -implicitDefEqProofs -dsimp
                    refine CallQ.same (hO) rfl ?_
                    simp -implicitDefEqProofs -dsimp [f6', A1, hz, hz2, obl_snoc, PV.toks.toksL, w2]
                    exact NS p4 (by omega) e (by simp -implicitDefEqProofs -dsimp)
                  · rw [if_pos f6] at e
                    refine CallK.reads ?_
                    simp -implicitDefEqProofs -dsimp
                    refine CallQ.same (hO) rfl ?_
                    simp -implicitDefEqProofs -dsimp [f6, A1, e, unpE]
        · rw [if_pos f3] at hpl
          have g3 : ¬ r3.fail = 0 := sf ▸ f3
          simp -implicitDefEqProofs -dsimp [hlt', wn]
          refine CallK.works ?_
          simp -implicitDefEqProofs -dsimp
          refine CallQ.mk (hT1) (by simp) ?_
          simp -implicitDefEqProofs -dsimp
          refine CallK.works ?_
          simp -implicitDefEqProofs -dsimp
          refine CallQ.mk (hT2) (by simp) ?_
          simp -implicitDefEqProofs -dsimp
          refine CallK.works ?_
          simp -implicitDefEqProofs -dsimp
          refine CallQ.mk (hT3) (by simp) ?_
          simp -implicitDefEqProofs -dsimp [g3, hpl, unpE, sf]
      · have hlt' : ¬ (i : Int) < n := by omega
        have e0 : n - i = 0 := by omega
        rw [e0, unpW] at hpl
        have hfin := rel_fin hrel2
        have hRL := rleft_fn r hr2
        have hlen : (w.b.length : Int) = (r.b.length : Int) - r.pos := by
          have := hrel2.b; rw [this, RR.rest_len]; have := hr2.pos; omega
        by_cases hf : 0 < w.b.length
        · have hf' : r.pos < r.b.length := by omega
          have e : w.fin = 5 := by rw [WS.fin, if_pos ⟨hf0, hf⟩]
          simp -implicitDefEqProofs -dsimp [hlt', wn]
          refine CallK.reads ?_
          simp -implicitDefEqProofs -dsimp
          refine CallQ.same (hRL) rfl ?_
          simp -implicitDefEqProofs -dsimp [hf', hpl, unpE, e]
        · have hf' : ¬ r.pos < r.b.length := by omega
          have e : w.fin = 0 := by rw [WS.fin, if_neg (fun h => hf h.2)]; exact hf0
          simp -implicitDefEqProofs -dsimp [hlt', wn]
          refine CallK.reads ?_
          simp -implicitDefEqProofs -dsimp
          refine CallQ.same (hRL) rfl ?_
          simp -implicitDefEqProofs -dsimp [hf', hpl, unpE, e]
  · have c0' : ¬ r1.fail = 0 := a2.fail ▸ c0
    have hn0 := h0 c0
    subst hn0
    have e : unpE (unpW k 0 w1 []) = (none, w1.fail) := by
      have : w1.fin = w1.fail := by rw [WS.fin, if_neg (fun h => c0 h.1)]
      simp [unpW, unpE, this, c0]
    have af := a2.fail
    rw [if_neg (by omega), e]
    refine Fc.of (anys _ [63, 80, 73, 81, 22, 64]) sch41 mixed Tryd.func41 rfl (by rfl) (by simp [Tryd.ntmps41]) (by decide) ?_
    simp -implicitDefEqProofs -dsimp [Tryd.ntmps41]
    rw [← hc0]
    refine CallK.works ?_
    simp -implicitDefEqProofs -dsimp
    refine CallQ.mk (hN) (by simp) ?_
    simp -implicitDefEqProofs -dsimp [c0', af]
end Go.Proofs.YtekokchejkjjjaaDoor
