/- The wire: readers. -/
import Derived.Test.YtgpcphddjapceaaWb
import Derived.Test.YtgpcphddjapceaaW2
namespace Go.Proofs.Ytgpcphddjapceaa
open Go.Sy

def wcells (s : WS) : List PV := [.sl .imm s.nl 1 (u8s s.b), .lit (.int .i64 s.fail)]
def wcellsO (s : WS) : Option Own → List PV
  | some o => [.sl o s.nl 1 (u8s s.b), .lit (.int .i64 s.fail)]
  | none => [.dead, .lit (.int .i64 s.fail)]
@[simp] theorem wcellsO_imm (s : WS) : wcellsO s (some .imm) = wcells s := (rfl)
@[simp ↓] theorem ws_scrub (F : Own → Option Own) (p : Nat → Option Nat) (s : WS) : PV.scrubL F p (wcells s) = wcellsO s (F .imm) := by
  simp only [wcells, PV.scrubL, PV.scrub, wcellsO]
  cases F .imm <;> rfl
@[simp ↓] theorem ws_lend (s : WS) : lendCells (wcells s) = some (wcells s) := by
  simp [wcells, lendCells, lendCell, Value.oneCell']
@[simp ↓] theorem ws_ids (s : WS) : idsOfL (wcells s) = [] := by simp [wcells]
@[simp ↓] theorem ws_toks (s : WS) : toksOfL (wcells s) = [] := by simp [wcells]
@[simp] theorem ws_get0 (s : WS) : (wcells s)[0]? = some (.sl .imm s.nl 1 (u8s s.b)) := rfl
@[simp] theorem ws_get1 (s : WS) : (wcells s)[1]? = some (.lit (.int .i64 s.fail)) := rfl

set_option maxRecDepth 100000 in
theorem fail_fn (s : WS) : Fc Try.prog 36 [.cur .imm (wcells s)] [] (.lit (.int .i64 s.fail)) [] := by
  refine Fc.of (anys _ []) [] mixed Try.func36 rfl (by rfl) (by simp [Try.ntmps36]) (by decide) ?_
  simp -implicitDefEqProofs -dsimp [Try.ntmps36, wcells]
set_option maxRecDepth 100000 in
theorem wleft_fn (s : WS) : Fc Try.prog 37 [.cur .imm (wcells s)] [] (.lit (.int .i64 s.b.length)) [] := by
  refine Fc.of (anys _ []) [] mixed Try.func37 rfl (by rfl) (by simp [Try.ntmps37]) (by decide) ?_
  simp -implicitDefEqProofs -dsimp [Try.ntmps37, wcells]
set_option maxRecDepth 100000 in
theorem end_fn (s : WS) : Fc Try.prog 42 [.cur .imm (wcells s)] [] (.lit (.int .i64 s.fin)) [] := by
  refine Fc.of (anys _ []) [] mixed Try.func42 rfl (by rfl) (by simp [Try.ntmps42]) (by decide) ?_
  by_cases h : s.fail = 0
  · by_cases h2 : 0 < s.b.length
    · simp -implicitDefEqProofs -dsimp [Try.ntmps42, wcells, h, h2, WS.fin]
    · simp -implicitDefEqProofs -dsimp [Try.ntmps42, wcells, h, h2, WS.fin]
  · simp -implicitDefEqProofs -dsimp [Try.ntmps42, wcells, h, WS.fin]

set_option maxRecDepth 100000 in
theorem open_fn0 (nl : Bool) (b : List Int) (hn : nl = true → b = []) (hb : b.length ≤ 1000000) : Fc Try.prog 34 [.sl .imm nl 1 (u8s b)] [] (.ptr 6 0) [(6, .cells [.sl (.own (.cell 6 0)) nl 1 (u8s b), .lit (.int .i64 0)])] := by
  refine Fc.of (anys _ [46]) [] mixed Try.func34 rfl (by rfl) (by simp [Try.ntmps34]) (by decide) ?_
  simp -implicitDefEqProofs -dsimp [Try.ntmps34]
  refine CallK.fresh ?_
  simp -implicitDefEqProofs -dsimp
  refine CallQ.same (clone_fn nl b hn (by omega)) rfl ?_
  simp -implicitDefEqProofs -dsimp [fr_u8s]
theorem open_fn (nl : Bool) (b : List Int) (hn : nl = true → b = []) (hb : b.length ≤ 1000000) : Fc Try.prog 34 [.sl .imm nl 1 (u8s b)] [] (.ptr 6 0) [(6, .cells (wcells ⟨nl, b, 0⟩))] := by
  have := (open_fn0 nl b hn hb).fz [.cell 6 0]
  simpa [fzOf, wcells] using this

set_option maxRecDepth 100000 in
set_option maxHeartbeats 1000000 in
theorem num1_fn (s : WS) (hs : s.Ok) (v : Int) : Fc Try.prog 51 [.ptr 100000 0, .ptr 100001 0] [(100000, .cells [.ptr 100002 0]), (100001, .cells [.lit (.int .u64 v)]), (100002, .cells (wcells s))]
    (.lit (.int .i64 (tk s.b).2.2)) [(100000, .cells [.ptr 100002 0]), (100001, .cells [.lit (.int .u64 (tk s.b).1)]), (100002, .cells (wcells { s with b := s.b.drop (tk s.b).2.1 }))] := by
  obtain ⟨h1, h2, h3, h4, h5⟩ := tk_spec s.b hs.bytes
  have hk : ((tk s.b).2.1 : Int) ≤ s.b.length := by omega
  refine Fc.of (anys _ [52]) sch51 mixed Try.func51 rfl (by rfl) (by simp [Try.ntmps51]) (by decide) ?_
  simp -implicitDefEqProofs -dsimp [Try.ntmps51]
  refine CallK.reads ?_
  simp -implicitDefEqProofs -dsimp
  refine CallQ.same (take_fn s.nl s.b hs.bytes (by have := hs.len; omega)) rfl ?_
  simp -implicitDefEqProofs -dsimp [plain_tup, h1, wcells]

set_option maxRecDepth 100000 in
set_option maxHeartbeats 1000000 in
theorem try1_fn (s : WS) (hs : s.Ok) : Fc Try.prog 50 [.ptr 100000 0, .fn (.func 51) [] [.ptr 100001 0, .ptr 100002 0]] [(100000, .cells (wcells s)), (100001, .cells [.ptr 100000 0]), (100002, .cells [.lit (.int .u64 0)])]
    (.tup []) [(100000, .cells (wcells s.num.2)), (100001, .cells [.ptr 100000 0]), (100002, .cells [.lit (.int .u64 s.num.1)])] := by
  obtain ⟨h1, h2, h3, h4, h5, h6⟩ := tk_spec s.b hs.bytes
  refine Fc.of (anys _ [51]) [] mixed Try.func50 rfl (by rfl) (by simp [Try.ntmps50]) (by decide) ?_
  by_cases hf : s.fail = 0
  · by_cases he : (tk s.b).2.2 = 0
    · have e : s.num = ((tk s.b).1, ⟨s.nl, s.b.drop (tk s.b).2.1, 0⟩) := by simp [WS.num, hf, he]
      simp -implicitDefEqProofs -dsimp [Try.ntmps50, hf]
      refine CallK.works ?_
      simp -implicitDefEqProofs -dsimp
      refine CallQ.mk (num1_fn s hs 0) (by simp) ?_
      simp -implicitDefEqProofs -dsimp [he, hf, e, wcells]
    · have e : s.num = (0, ⟨s.nl, s.b, (tk s.b).2.2⟩) := by simp [WS.num, hf, he]
      simp -implicitDefEqProofs -dsimp [Try.ntmps50, hf]
      refine CallK.works ?_
      simp -implicitDefEqProofs -dsimp
      refine CallQ.mk (num1_fn s hs 0) (by simp) ?_
      simp -implicitDefEqProofs -dsimp [he, hf, e, wcells, (h5 he).1]
  · have e : s.num = (0, s) := by simp [WS.num, hf]
    simp -implicitDefEqProofs -dsimp [Try.ntmps50, hf, e]

set_option maxRecDepth 100000 in
set_option maxHeartbeats 1000000 in
theorem wnum_fn (s : WS) (hs : s.Ok) : Fc Try.prog 35 [.ptr 100000 0] [(100000, .cells (wcells s))] (.lit (.int .u64 s.num.1)) [(100000, .cells (wcells s.num.2))] := by
  refine Fc.of (anys _ [50]) [] mixed Try.func35 rfl (by rfl) (by simp [Try.ntmps35]) (by decide) ?_
  simp -implicitDefEqProofs -dsimp [Try.ntmps35]
  refine CallK.works ?_
  simp -implicitDefEqProofs -dsimp
  refine CallQ.mk (try1_fn s hs) (by simp) ?_
  simp -implicitDefEqProofs -dsimp

set_option maxRecDepth 100000 in
set_option maxHeartbeats 1000000 in
theorem text1_fn (s : WS) (hs : s.Ok) (hf : s.fail = 0) (limit : Int) (hl : -9223372036854775808 ≤ limit) (hl2 : limit < 9223372036854775808) :
    Fc Try.prog 54 [.ptr 100000 0, .ptr 100001 0, .ptr 100002 0] [(100000, .cells [.ptr 100003 0]), (100001, .cells [.lit (.int .i64 limit)]), (100002, .cells [.sl .imm true 0 []]), (100003, .cells (wcells s))]
    (.lit (.int .i64 (s.text limit).2.fail)) [(100000, .cells [.ptr 100003 0]), (100001, .cells [.lit (.int .i64 limit)]), (100002, .cells [.sl .imm (s.text limit).1.1 1 (u8s (s.text limit).1.2)]), (100003, .cells (wcells { (s.text limit).2 with fail := 0 }))] := by
  obtain ⟨h1, h2, h3, h4, h5, h6⟩ := tk_spec s.b hs.bytes
  have hlen := hs.len
  have q := Fc.of (P := Try.prog) (args := [.ptr 100000 0, .ptr 100001 0, .ptr 100002 0]) (h := [(100000, .cells [.ptr 100003 0]), (100001, .cells [.lit (.int .i64 limit)]), (100002, .cells [.sl .imm true 0 []]), (100003, .cells (wcells s))])
    (X := .lit (.int .i64 (s.text limit).2.fail)) (H := [(100000, .cells [.ptr 100003 0]), (100001, .cells [.lit (.int .i64 limit)]), (100002, .cells [.sl (.own (.cell 100002 0)) (s.text limit).1.1 1 (u8s (s.text limit).1.2)]), (100003, .cells (wcells { (s.text limit).2 with fail := 0 }))])
    (anys _ [52, 46]) sch54 mixed Try.func54 rfl (by rfl) (by simp [Try.ntmps54]) (by decide) ?_
  · have := q.fz [.cell 100002 0]
    simpa [fzOf] using this
  · simp -implicitDefEqProofs -dsimp [Try.ntmps54]
    refine CallK.reads ?_
    simp -implicitDefEqProofs -dsimp
    refine CallQ.same (take_fn s.nl s.b hs.bytes (by omega)) rfl ?_
    simp -implicitDefEqProofs -dsimp [plain_tup]
    by_cases he : (tk s.b).2.2 = 0
    · have hnl : s.nl = false := by
        cases hn : s.nl with
        | false => rfl
        | true =>
          have h7 := h6 he
          have h8 : s.b.length = 0 := by rw [hs.nil hn]; rfl
          omega
      have hlm : IntKind.u64.wrap (max 0 limit) = max 0 limit := by rw [wrap_is_u64]; omega
      by_cases hlim : max 0 limit < ((tk s.b).1 : Int)
      · have e : s.text limit = ((true, []), ⟨s.nl, s.b, 4⟩) := by simp [WS.text, hf, he, hlim]
        simp -implicitDefEqProofs -dsimp [he, e, litL, max_i64, hlm, hlim, wcells, hf]
      · have hlim' : ¬ max 0 limit < ((tk s.b).1 : Int) := hlim
        have hw1 : IntKind.i64.wrap ((s.b.length : Int) - ((tk s.b).2.1 : Int)) = (s.b.length : Int) - ((tk s.b).2.1 : Int) := wrap64 (by omega) (by omega)
        have hw2 : IntKind.u64.wrap ((s.b.length : Int) - ((tk s.b).2.1 : Int)) = (s.b.length : Int) - ((tk s.b).2.1 : Int) := by rw [wrap_is_u64]; omega
        by_cases hsh : (s.b.length : Int) - ((tk s.b).2.1 : Int) < ((tk s.b).1 : Int)
        · have e : s.text limit = ((true, []), ⟨s.nl, s.b, 2⟩) := by simp only [WS.text, hf, he, ne_eq, not_true, if_false, if_neg hlim, if_pos hsh]
          simp -implicitDefEqProofs -dsimp [he, e, litL, max_i64, hlm, hlim, wcells, hf, hw1, hw2, hsh]
        · have e : s.text limit = ((false, (s.b.drop (tk s.b).2.1).take (tk s.b).1), ⟨s.nl, s.b.drop ((tk s.b).2.1 + (tk s.b).1), 0⟩) := by simp only [WS.text, hf, he, ne_eq, not_true, if_false, if_neg hlim, if_neg hsh]
          have hw3 : IntKind.i64.wrap ((tk s.b).1 : Int) = ((tk s.b).1 : Int) := wrap64 (by omega) (by omega)
          have hw4 : IntKind.i64.wrap (((tk s.b).2.1 : Int) + ((tk s.b).1 : Int)) = (((tk s.b).2.1 + (tk s.b).1 : Nat) : Int) := by rw [wrap64 (by omega) (by omega)]; omega
          generalize tk s.b = T at *
          obtain ⟨n, k, ee⟩ := T
          simp only at *
          have c1 : (k : Int) ≤ (k : Int) + (n : Int) := by omega
          have c2 : (k : Int) + (n : Int) ≤ s.b.length := by omega
          have c3 : ((k : Int) + (n : Int)).toNat = k + n := by omega
          have c4 : (s.b.take (k + n)).drop k = (s.b.drop k).take n := by rw [List.drop_take]; congr 1; omega
          have c5 : ((s.b.drop k).take n).length ≤ 140737488355328 := by simp; omega
          have c6 : (0 : Int) ≤ (k : Int) + (n : Int) := by omega
          simp -implicitDefEqProofs -dsimp [he, e, litL, max_i64, hlm, hlim, wcells, hf, hw1, hw2, hw3, hw4, hsh, c1, c2, c3, c4, c6]
          refine CallK.fresh ?_
          simp -implicitDefEqProofs -dsimp
          refine CallQ.same (clone_fn s.nl ((s.b.drop k).take n) (by rw [hnl]; simp) c5) rfl ?_
          simp -implicitDefEqProofs -dsimp [fr_u8s, c1, c2, c3, c4, c6, hnl, e, wcells]
    · have e : s.text limit = ((true, []), ⟨s.nl, s.b, (tk s.b).2.2⟩) := by simp [WS.text, hf, he]
      simp -implicitDefEqProofs -dsimp [he, e, wcells, hf]

set_option maxRecDepth 100000 in
set_option maxHeartbeats 1000000 in
theorem try2_fn (s : WS) (hs : s.Ok) (limit : Int) (hl : -9223372036854775808 ≤ limit) (hl2 : limit < 9223372036854775808) :
    Fc Try.prog 50 [.ptr 100000 0, .fn (.func 54) [] [.ptr 100001 0, .ptr 100002 0, .ptr 100003 0]] [(100000, .cells (wcells s)), (100001, .cells [.ptr 100000 0]), (100002, .cells [.lit (.int .i64 limit)]), (100003, .cells [.sl .imm true 0 []])]
    (.tup []) [(100000, .cells (wcells (s.text limit).2)), (100001, .cells [.ptr 100000 0]), (100002, .cells [.lit (.int .i64 limit)]), (100003, .cells [.sl .imm (s.text limit).1.1 1 (u8s (s.text limit).1.2)])] := by
  refine Fc.of (anys _ [54]) [] mixed Try.func50 rfl (by rfl) (by simp [Try.ntmps50]) (by decide) ?_
  by_cases hf : s.fail = 0
  · have hT := text1_fn s hs hf limit hl hl2
    simp -implicitDefEqProofs -dsimp [Try.ntmps50, hf]
    refine CallK.works ?_
    simp -implicitDefEqProofs -dsimp
    refine CallQ.mk hT (by simp) ?_
    by_cases he : (s.text limit).2.fail = 0
    · simp -implicitDefEqProofs -dsimp [he, hf, wcells]
    · have e : (s.text limit).2.b = s.b ∧ (s.text limit).2.nl = s.nl := by
        unfold WS.text at he ⊢
        split
        · exact ⟨rfl, rfl⟩
        · split
          · exact ⟨rfl, rfl⟩
          · split
            · exact ⟨rfl, rfl⟩
            · split
              · exact ⟨rfl, rfl⟩
              · simp_all
      simp -implicitDefEqProofs -dsimp [he, hf, e.1, e.2, wcells]
  · have e : s.text limit = ((true, []), s) := by simp [WS.text, hf]
    simp -implicitDefEqProofs -dsimp [Try.ntmps50, hf, e]

set_option maxRecDepth 100000 in
set_option maxHeartbeats 1000000 in
theorem wtext_fn (s : WS) (hs : s.Ok) (limit : Int) (hl : -9223372036854775808 ≤ limit) (hl2 : limit < 9223372036854775808) :
    Fc Try.prog 39 [.ptr 100000 0, .lit (.int .i64 limit)] [(100000, .cells (wcells s))] (.sl .imm (s.text limit).1.1 1 (u8s (s.text limit).1.2)) [(100000, .cells (wcells (s.text limit).2))] := by
  refine Fc.of (anys _ [50]) [] mixed Try.func39 rfl (by rfl) (by simp [Try.ntmps39]) (by decide) ?_
  simp -implicitDefEqProofs -dsimp [Try.ntmps39]
  refine CallK.works ?_
  simp -implicitDefEqProofs -dsimp
  refine CallQ.mk (try2_fn s hs limit hl hl2) (by simp) ?_
  simp -implicitDefEqProofs -dsimp
end Go.Proofs.Ytgpcphddjapceaa
