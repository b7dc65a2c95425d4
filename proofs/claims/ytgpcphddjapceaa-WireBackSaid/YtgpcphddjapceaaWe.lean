/- The wire: the document's readers, their reads. -/
import Derived.Test.YtgpcphddjapceaaWd
namespace Go.Proofs.Ytgpcphddjapceaa
open Go.Sy

def RR.rest (s : RR) : List Int := s.b.drop s.pos
def RR.num (s : RR) : Nat × RR := if s.fail ≠ 0 then (0, s) else if (tk s.rest).2.2 ≠ 0 then (0, { s with fail := (tk s.rest).2.2 }) else ((tk s.rest).1, { s with pos := s.pos + (tk s.rest).2.1 })
def RR.text (s : RR) (limit : Int) : (Bool × List Int) × RR :=
  if s.fail ≠ 0 then ((true, []), s)
  else if (tk s.rest).2.2 ≠ 0 then ((true, []), { s with fail := (tk s.rest).2.2 })
  else if max 0 limit < ((tk s.rest).1 : Int) then ((true, []), { s with fail := 4 })
  else if (s.rest.length : Int) - (tk s.rest).2.1 < ((tk s.rest).1 : Int) then ((true, []), { s with fail := 2 })
  else ((false, (s.rest.drop (tk s.rest).2.1).take (tk s.rest).1), { s with pos := s.pos + (tk s.rest).2.1 + (tk s.rest).1 })
def RR.fin (s : RR) : Int := if s.fail = 0 ∧ s.pos < s.b.length then 5 else s.fail

theorem RR.rest_len {s : RR} : s.rest.length = s.b.length - s.pos := by simp [RR.rest]
theorem RR.num_ok {s : RR} (h : s.Ok) : s.num.2.Ok := by
  obtain ⟨h1, h2, h3⟩ := id h
  have ht := tk_spec s.rest (h1.drop _)
  have hl := RR.rest_len (s := s)
  unfold RR.num
  split
  · exact h
  · split
    · exact ⟨h1, h2, h3⟩
    · exact ⟨h1, by simp only; omega, h3⟩
theorem RR.text_ok {s : RR} (h : s.Ok) (limit : Int) : (s.text limit).2.Ok := by
  obtain ⟨h1, h2, h3⟩ := id h
  have ht := tk_spec s.rest (h1.drop _)
  have hl := RR.rest_len (s := s)
  unfold RR.text
  split
  · exact h
  · split
    · exact ⟨h1, h2, h3⟩
    · split
      · exact ⟨h1, h2, h3⟩
      · split
        · exact ⟨h1, h2, h3⟩
        · exact ⟨h1, by simp only; omega, h3⟩

set_option maxRecDepth 100000 in
set_option maxHeartbeats 1000000 in
theorem rend_fn (s : RR) (hs : s.Ok) : Fc Try.prog 43 [.cur .imm (rcells s)] [] (.lit (.int .i64 s.fin)) [] := by
  have h1 := hs.pos
  refine Fc.of (anys _ [41]) [] mixed Try.func43 rfl (by rfl) (by simp [Try.ntmps43]) (by decide) ?_
  by_cases hf : s.fail = 0
  · simp -implicitDefEqProofs -dsimp [Try.ntmps43, hf]
    refine CallK.reads ?_
    simp -implicitDefEqProofs -dsimp
    refine CallQ.same (rleft_fn s hs) rfl ?_
    simp -implicitDefEqProofs -dsimp
    by_cases h2 : s.pos < s.b.length
    · have c : (s.pos : Int) < s.b.length := by omega
      simp -implicitDefEqProofs -dsimp [RR.fin, hf, h2, c]
    · have c : ¬ (s.pos : Int) < s.b.length := by omega
      simp -implicitDefEqProofs -dsimp [RR.fin, hf, h2, c]
  · simp -implicitDefEqProofs -dsimp [Try.ntmps43, hf, RR.fin]

set_option maxRecDepth 100000 in
set_option maxHeartbeats 1000000 in
theorem rrnum_fn (s : RR) (hs : s.Ok) : Fc Try.prog 38 [.ptr 100000 0] [(100000, .cells (rcells s))] (.lit (.int .u64 s.num.1)) [(100000, .cells (rcells s.num.2))] := by
  have h1 := hs.pos
  have h2 := hs.len
  have ht := tk_spec s.rest (hs.bytes.drop _)
  have hl := RR.rest_len (s := s)
  have hN := next_fn s hs
  rw [show s.b.drop s.pos = s.rest from rfl] at hN
  refine Fc.of (anys _ [53]) [] mixed Try.func38 rfl (by rfl) (by simp [Try.ntmps38]) (by decide) ?_
  by_cases hf : s.fail = 0
  · simp -implicitDefEqProofs -dsimp [Try.ntmps38, hf]
    refine CallK.reads ?_
    simp -implicitDefEqProofs -dsimp
    refine CallQ.same (hN) rfl ?_
    simp -implicitDefEqProofs -dsimp [plain_tup]
    by_cases he : (tk s.rest).2.2 = 0
    · have e : s.num = ((tk s.rest).1, ⟨s.nl, s.b, s.pos + (tk s.rest).2.1, 0⟩) := by simp [RR.num, hf, he]
      have c : IntKind.i64.wrap ((s.pos : Int) + ((tk s.rest).2.1 : Int)) = (s.pos : Int) + ((tk s.rest).2.1 : Int) := wrap64 (by omega) (by omega)
      simp -implicitDefEqProofs -dsimp [he, e, rcells, c, hf]
    · have e : s.num = (0, ⟨s.nl, s.b, s.pos, (tk s.rest).2.2⟩) := by simp [RR.num, hf, he]
      simp -implicitDefEqProofs -dsimp [he, e, rcells]
  · have e : s.num = (0, s) := by simp [RR.num, hf]
    simp -implicitDefEqProofs -dsimp [Try.ntmps38, hf, e]

set_option maxRecDepth 100000 in
set_option maxHeartbeats 4000000 in
theorem rrtext_fn (s : RR) (hs : s.Ok) (limit : Int) (hlm1 : -9223372036854775808 ≤ limit) (hlm2 : limit < 9223372036854775808) :
    Fc Try.prog 40 [.ptr 100000 0, .lit (.int .i64 limit)] [(100000, .cells (rcells s))] (.sl .imm (s.text limit).1.1 1 (u8s (s.text limit).1.2)) [(100000, .cells (rcells (s.text limit).2))] := by
  have h1 := hs.pos
  have h2 := hs.len
  obtain ⟨t1, t2, t3, t4, t5, t6⟩ := tk_spec s.rest (hs.bytes.drop _)
  have hl := RR.rest_len (s := s)
  have hN := next_fn s hs
  have hL := rleft_fn s hs
  rw [show s.b.drop s.pos = s.rest from rfl] at hN
  have q := Fc.of (P := Try.prog) (args := [.ptr 100000 0, .lit (.int .i64 limit)]) (h := [(100000, .cells (rcells s))])
    (X := .sl (.own (.loc 59)) (s.text limit).1.1 1 (u8s (s.text limit).1.2)) (H := [(100000, .cells (rcells (s.text limit).2))])
    (anys _ [53, 41]) sch40 mixed Try.func40 rfl (by rfl) (by simp [Try.ntmps40]) (by decide) ?_
  · have := q.fz [.loc 59]
    simpa [fzOf] using this
  · by_cases hf : s.fail = 0
    · simp -implicitDefEqProofs -dsimp [Try.ntmps40, hf]
      refine CallK.reads ?_
      simp -implicitDefEqProofs -dsimp
      refine CallQ.same (hN) rfl ?_
      simp -implicitDefEqProofs -dsimp [plain_tup]
      by_cases he : (tk s.rest).2.2 = 0
      · have hlm : IntKind.u64.wrap (max 0 limit) = max 0 limit := by rw [wrap_is_u64]; omega
        by_cases hlim : max 0 limit < ((tk s.rest).1 : Int)
        · have e : s.text limit = ((true, []), ⟨s.nl, s.b, s.pos, 4⟩) := by simp [RR.text, hf, he, hlim]
          simp -implicitDefEqProofs -dsimp [he, e, litL, max_i64, hlm, hlim, rcells, hf]
        · have hw1 : IntKind.i64.wrap ((s.b.length : Int) - (s.pos : Int) - ((tk s.rest).2.1 : Int)) = (s.rest.length : Int) - ((tk s.rest).2.1 : Int) := by rw [wrap64 (by omega) (by omega)]; omega
          have hw2 : IntKind.u64.wrap ((s.rest.length : Int) - ((tk s.rest).2.1 : Int)) = (s.rest.length : Int) - ((tk s.rest).2.1 : Int) := by rw [wrap_is_u64]; omega
          simp -implicitDefEqProofs -dsimp [he, litL, max_i64, hlm, hlim]
          refine CallK.reads ?_
          simp -implicitDefEqProofs -dsimp
          refine CallQ.same (hL) rfl ?_
          simp -implicitDefEqProofs -dsimp [hw1, hw2]
          by_cases hsh : (s.rest.length : Int) - ((tk s.rest).2.1 : Int) < ((tk s.rest).1 : Int)
          · have e : s.text limit = ((true, []), ⟨s.nl, s.b, s.pos, 2⟩) := by simp only [RR.text, hf, he, ne_eq, not_true, if_false, if_neg hlim, if_pos hsh]
            simp -implicitDefEqProofs -dsimp [hsh, e, rcells, hf]
          · have e : s.text limit = ((false, (s.rest.drop (tk s.rest).2.1).take (tk s.rest).1), ⟨s.nl, s.b, s.pos + (tk s.rest).2.1 + (tk s.rest).1, 0⟩) := by simp only [RR.text, hf, he, ne_eq, not_true, if_false, if_neg hlim, if_neg hsh]
            have hw3 : IntKind.i64.wrap ((tk s.rest).1 : Int) = ((tk s.rest).1 : Int) := wrap64 (by omega) (by omega)
            have hw4 : IntKind.i64.wrap ((s.pos : Int) + ((tk s.rest).2.1 : Int)) = (s.pos : Int) + ((tk s.rest).2.1 : Int) := wrap64 (by omega) (by omega)
            have hw5 : IntKind.i64.wrap ((s.pos : Int) + ((tk s.rest).2.1 : Int) + ((tk s.rest).1 : Int)) = (s.pos : Int) + ((tk s.rest).2.1 : Int) + ((tk s.rest).1 : Int) := wrap64 (by omega) (by omega)
            have c0 : s.rest = s.b.drop s.pos := rfl
            generalize hT : tk s.rest = T at *
            obtain ⟨n, k, ee⟩ := T
            simp only at *
            have c1 : (s.pos : Int) + (k : Int) ≤ (s.pos : Int) + (k : Int) + (n : Int) := by omega
            have c2 : (s.pos : Int) + (k : Int) + (n : Int) ≤ s.b.length := by omega
            have c3 : ((s.pos : Int) + (k : Int) + (n : Int)).toNat = s.pos + k + n := by omega
            have c4 : ((s.pos : Int) + (k : Int)).toNat = s.pos + k := by omega
            have c5 : (0 : Int) ≤ (s.pos : Int) + (k : Int) := by omega
            have c6 : (s.b.take (s.pos + k + n)).drop (s.pos + k) = (s.rest.drop k).take n := by
              rw [c0, List.drop_drop, List.drop_take]; congr 1; omega
            have c7 : min n (s.rest.length - k) ≤ 140737488355328 := by omega
            simp -implicitDefEqProofs -dsimp [hsh, e, rcells, hf, hw3, hw4, hw5, c1, c2, c3, c4, c5, c6, c7]
      · have e : s.text limit = ((true, []), ⟨s.nl, s.b, s.pos, (tk s.rest).2.2⟩) := by simp [RR.text, hf, he]
        simp -implicitDefEqProofs -dsimp [he, e, rcells, hf]
    · have e : s.text limit = ((true, []), s) := by simp [RR.text, hf]
      simp -implicitDefEqProofs -dsimp [Try.ntmps40, hf, e]
end Go.Proofs.Ytgpcphddjapceaa
