/- Readers, as plain values. -/
import Derived.Test.YtgpcphddjapceaaW1
namespace Go.Sy

structure WS where
  nl : Bool
  b : List Int
  fail : Int
structure WS.Ok (s : WS) : Prop where
  nil : s.nl = true → s.b = []
  bytes : InB s.b
  len : s.b.length ≤ 1000000
def WS.num (s : WS) : Nat × WS := if s.fail ≠ 0 then (0, s) else if (tk s.b).2.2 ≠ 0 then (0, { s with fail := (tk s.b).2.2 }) else ((tk s.b).1, { s with b := s.b.drop (tk s.b).2.1 })
def WS.text (s : WS) (limit : Int) : (Bool × List Int) × WS :=
  if s.fail ≠ 0 then ((true, []), s)
  else if (tk s.b).2.2 ≠ 0 then ((true, []), { s with fail := (tk s.b).2.2 })
  else if max 0 limit < ((tk s.b).1 : Int) then ((true, []), { s with fail := 4 })
  else if (s.b.length : Int) - (tk s.b).2.1 < ((tk s.b).1 : Int) then ((true, []), { s with fail := 2 })
  else ((false, (s.b.drop (tk s.b).2.1).take (tk s.b).1), { s with b := s.b.drop ((tk s.b).2.1 + (tk s.b).1) })
def WS.fin (s : WS) : Int := if s.fail = 0 ∧ 0 < s.b.length then 5 else s.fail

theorem tk_spec (b : List Int) (hb : InB b) : (tk b).2.1 ≤ b.length ∧ (tk b).2.1 ≤ 10 ∧ (tk b).1 < 18446744073709551616 ∧ ((tk b).2.2 = 0 ∨ (tk b).2.2 = 2 ∨ (tk b).2.2 = 3) ∧ ((tk b).2.2 ≠ 0 → (tk b).1 = 0 ∧ (tk b).2.1 = 0) ∧ ((tk b).2.2 = 0 → 0 < (tk b).2.1) := by
  obtain ⟨h1, h2, h3, h4⟩ := lead_spec 10 b
  unfold tk
  split
  · simp
  · split
    · simp
    · split
      · simp
      · rename_i a1 a2 a3
        refine ⟨by simp; omega, by simp; omega, ?_, .inl rfl, by simp, by simp⟩
        have hk : lead 10 b < b.length := by omega
        have := (form_iff (fun x hx => hb x hx) hk (by omega) (fun i h hi => h3 i h hi) (h4 (by omega) hk)).2 (by
          rw [List.getD_eq_getElem?_getD, List.getElem?_eq_getElem hk] at a3
          simpa using a3)
        have hv := congrArg val this
        rw [val_enc] at hv
        simp only
        omega
theorem WS.num_ok {s : WS} (h : s.Ok) : s.num.2.Ok := by
  obtain ⟨h1, h2, h3⟩ := id h
  unfold WS.num
  split
  · exact h
  · split
    · exact ⟨h1, h2, h3⟩
    · exact ⟨fun e => by simp [h1 e], h2.drop _, by simp; omega⟩
theorem WS.text_ok {s : WS} (h : s.Ok) (limit : Int) : (s.text limit).2.Ok := by
  obtain ⟨h1, h2, h3⟩ := id h
  unfold WS.text
  split
  · exact h
  · split
    · exact ⟨h1, h2, h3⟩
    · split
      · exact ⟨h1, h2, h3⟩
      · split
        · exact ⟨h1, h2, h3⟩
        · exact ⟨fun e => by simp [h1 e], h2.drop _, by simp; omega⟩
end Go.Sy
