/- Frames: the document's reader, as the program's one reads; what the document reads of a frame. (and what stands on it) -/
import Derived.Test.YtbialojkkhkjeaaMe

/-! Frames: the document's reader, as the program's one reads; what the document reads of a frame. -/
namespace Go.Sy
/-- What a call leaves beside its result may be left alone. -/
theorem Fc.noHeap {P : Program} {k : FuncId} {al : List PV} {h : List (Nat × Ob)} {x : PV} {h1 : List (Nat × Ob)} (hf : Fc P k al h x h1) : Fc P k al h x [] := by
  refine ⟨hf.ok, fun g w vs a1 a2 a3 => CallsIn.mono (hf.run g w vs a1 a2 a3) ?_⟩
  rintro e w' ⟨v, y, g', h', rfl, ⟨rfl, rfl⟩, b1, b2, b3, b4⟩
  exact ⟨v, _, g', [], rfl, ⟨rfl, rfl⟩, b1, fun p ob hp => (by simp [getO] at hp), b3, b4⟩
/-- A number of what is left, cut at a limit. -/
def wmany (s : WS) (l : Int) : Int := min (s.num.1 : Int) l
theorem wmany_in (s : WS) {l : Int} (h : 0 ≤ l) : 0 ≤ wmany s l ∧ wmany s l ≤ l := by unfold wmany; omega
def rdSumsR (k : Int) (s : WS) : Ms × WS := ({ zms k with nr := (readRgs (wmany s 9).toNat s.num.2).1.isEmpty, rs := (readRgs (wmany s 9).toNat s.num.2).1 }, (readRgs (wmany s 9).toNat s.num.2).2)
def rdIdsR (s : WS) : List ByteArray × WS := readIds (wmany s 99).toNat s.num.2
def rdListR (k : Int) (s : WS) : Ms × WS := ({ zms k with lo := s.id, hi := s.id2.id, ni := (rdIdsR s.id2.id2).1.isEmpty, ids := (rdIdsR s.id2.id2).1 }, (rdIdsR s.id2.id2).2)
def rdWantR (k : Int) (s : WS) : Ms × WS := ({ zms k with ni := (rdIdsR s).1.isEmpty, ids := (rdIdsR s).1 }, (rdIdsR s).2)
def rdPartR (k : Int) (s : WS) : Ms × WS := ({ zms k with bundle := s.id, index := wmany s.id2 99999, many := wmany s.id2.num.2 99999, nb := (s.id2.num.2.num.2.text 1024).1.1, body := (s.id2.num.2.num.2.text 1024).1.2 }, (s.id2.num.2.num.2.text 1024).2)
def rdK (k : Int) (s : WS) : Ms × WS := if k = 1 then rdSumsR 1 s else if k = 2 then rdListR 2 s else if k = 3 then rdWantR 3 s else if k = 4 then rdPartR 4 s else (zms k, s)
def rdX (b : List Int) : Ms × WS := rdK (wmany ⟨false, b, 0⟩ 9) (WS.num ⟨false, b, 0⟩).2
end Go.Sy
namespace Go.Proofs.Ytbialojkkhkjeaa
open Go.Sy
/-- The document's reader, as a reader that is cut. -/
def RR.toW (s : RR) : WS := ⟨false, s.rest, s.fail⟩
theorem rest_adv (s : RR) (k : Nat) (f : Int) : RR.rest ⟨s.nl, s.b, s.pos + k, f⟩ = s.rest.drop k := by simp [RR.rest]
theorem rest_fail (s : RR) (f : Int) : RR.rest ⟨s.nl, s.b, s.pos, f⟩ = s.rest := rfl
theorem RR.toW_num (s : RR) : s.toW.num = (s.num.1, s.num.2.toW) := by
  unfold WS.num RR.num RR.toW
  by_cases h : s.fail = 0
  · by_cases h2 : (tk s.rest).2.2 = 0
    · simp [h, h2, rest_adv]
    · simp [h, h2, rest_fail]
  · simp [h]
theorem RR.toW_text (s : RR) (l : Int) : s.toW.text l = ((s.text l).1, (s.text l).2.toW) := by
  unfold WS.text RR.text RR.toW
  by_cases h : s.fail = 0
  · by_cases h2 : (tk s.rest).2.2 = 0
    · by_cases h3 : max 0 l < ((tk s.rest).1 : Int)
      · simp only [h, h2, h3, rest_fail, ne_eq, not_true, if_false, if_true]
      · by_cases h4 : (s.rest.length : Int) - (tk s.rest).2.1 < ((tk s.rest).1 : Int)
        · simp only [h, h2, h3, h4, rest_fail, ne_eq, not_true, if_false, if_true]
        · simp only [h, h2, h3, h4, ne_eq, not_true, if_false, Nat.add_assoc, rest_adv]
    · simp [h, h2, rest_fail]
  · simp [h]
theorem RR.toW_fin (s : RR) : s.toW.fin = s.fin := by
  unfold WS.fin RR.fin RR.toW
  have : (0 < s.rest.length) = (s.pos < s.b.length) := by rw [eq_iff_iff]; simp only [RR.rest, List.length_drop]; omega
  simp only [this]
theorem RR.toW_ok {s : RR} (h : s.Ok) : s.toW.Ok := ⟨by simp [RR.toW], h.bytes.drop _, by have := h.len; simp only [RR.toW, RR.rest, List.length_drop]; omega⟩
/-- The reader behind a number, and behind an id. -/
def RR.txt (s : RR) : RR := (s.text 32).2
theorem RR.num2 (s : RR) : s.num.2.toW = s.toW.num.2 := by rw [RR.toW_num]
theorem RR.num1 (s : RR) : s.num.1 = s.toW.num.1 := by rw [RR.toW_num]
theorem RR.id2 (s : RR) : s.txt.toW = s.toW.id2 := by rw [RR.txt, WS.id2, RR.toW_text]
theorem RR.id1 (s : RR) : ofBs (s.text 32).1.2 = s.toW.id := by rw [WS.id, RR.toW_text]
theorem RR.text1 (s : RR) (l : Int) : (s.text l).1 = (s.toW.text l).1 := by rw [RR.toW_text]
theorem RR.text2 (s : RR) (l : Int) : (s.text l).2.toW = (s.toW.text l).2 := by rw [RR.toW_text]
theorem RR.txt_ok {s : RR} (h : s.Ok) : s.txt.Ok := RR.text_ok h 32
theorem RR.text_in {s : RR} (h : s.Ok) (l : Int) : InB (s.text l).1.2 := by rw [RR.text1]; exact WS.text_in (RR.toW_ok h) l
def rr0 (nl : Bool) (b : List Int) : RR := ⟨nl, b, 0, 0⟩
theorem rr0_ok (nl : Bool) {b : List Int} (hb : InB b) (hl : b.length ≤ 1000000) : (rr0 nl b).Ok := ⟨hb, Nat.zero_le _, hl⟩
theorem rr0_toW (nl : Bool) (b : List Int) : (rr0 nl b).toW = ⟨false, b, 0⟩ := by simp [rr0, RR.toW, RR.rest]
theorem fin_no' {s : WS} : (s.fail = 0 ∧ s.b.length = 0) ↔ s.fin = 0 := by
  unfold WS.fin
  by_cases h : s.fail = 0
  · by_cases h2 : 0 < s.b.length
    · rw [if_pos ⟨h, h2⟩]; constructor
      · rintro ⟨_, h3⟩; omega
      · intro h3; omega
    · rw [if_neg (fun c => h2 c.2)]; exact ⟨fun _ => h, fun _ => ⟨h, by omega⟩⟩
  · rw [if_neg (fun c => h c.1)]; exact ⟨fun c => absurd c.1 h, fun c => absurd c h⟩
end Go.Proofs.Ytbialojkkhkjeaa

/-! Frames: what the document reads, kind by kind. -/
namespace Go.Proofs.Ytbialojkkhkjeaa
open Go.Sy
theorem rrid_fn (s : RR) (hs : s.Ok) : Fc Try.prog 58 [.ptr 100000 0, .lit (.int .i64 32)] [(100000, .cells (rcells s))] (.sl .imm (s.text 32).1.1 1 (u8s (s.text 32).1.2)) [(100000, .cells (rcells s.txt))] :=
  rrtext_fn s hs 32 (by decide) (by decide)
theorem rfin_left {s : RR} (hs : s.Ok) (hf : s.fail = 0) : (s.fin = 0) = ((s.b.length : Int) - s.pos = 0) := by
  have := hs.pos
  unfold RR.fin
  rw [eq_iff_iff]
  by_cases h : s.pos < s.b.length
  · rw [if_pos ⟨hf, h⟩]; omega
  · rw [if_neg (fun c => h c.2)]; omega
theorem rfin_bad {s : RR} (hf : ¬ s.fail = 0) : (s.fin = 0) = False := by
  unfold RR.fin
  rw [if_neg (fun c => hf c.1), eq_iff_iff]
  simp [hf]
theorem wrapm {n : Nat} {l : Int} (h0 : 0 ≤ l) (h1 : l ≤ 1099511627777) : IntKind.i64.wrap (min (n : Int) l) = min (n : Int) l := wrap64 (by omega) (by omega)

set_option maxRecDepth 100000 in
set_option maxHeartbeats 16000000 in
theorem read4_fn (nl : Bool) (b : List Int) (hb : InB b) (hl : b.length ≤ 1000000) (hk : wmany ⟨false, b, 0⟩ 9 = 4) : Fc Try.prog 39 [.sl .imm nl 1 (u8s b)] [] (.tup [.agg (rdX b).1.cells, .lit (.bool (decide ((rdX b).2.fin = 0)))]) [] := by
  have w0 : rdX b = rdPartR 4 (WS.num ⟨false, b, 0⟩).2 := by rw [rdX, hk]; rfl
  rw [w0]
  obtain ⟨s0, e0⟩ : ∃ s, s = rr0 nl b := ⟨_, rfl⟩
  have o0 : s0.Ok := e0 ▸ rr0_ok nl hb hl
  have t0 : (⟨false, b, 0⟩ : WS) = s0.toW := by rw [e0, rr0_toW]
  have c0 : rcells s0 = [.sl .imm nl 1 (u8s b), .lit (.int .i64 0), .lit (.int .i64 0)] := by rw [e0]; rfl
  simp only [t0, rdPartR, wmany, ← RR.num2, ← RR.num1, ← RR.id2, ← RR.id1, ← RR.text1, ← RR.text2, RR.toW_fin] at hk ⊢
  have hk' : IntKind.i64.wrap (min (s0.num.1 : Int) 9) = 4 := by rw [wrapm (by decide) (by decide)]; exact hk
  have o1 := RR.num_ok o0
  have hm1 := rrnum_fn s0 o0
  obtain ⟨s1, e1⟩ : ∃ s, s = s0.num.2 := ⟨_, rfl⟩
  rw [← e1] at o1 hm1 ⊢
  have i1 := RR.text_in o1 32
  have o2 := RR.txt_ok o1
  have o3 := RR.num_ok o2
  have o4 := RR.num_ok o3
  have o5 := RR.text_ok o4 1024
  have hm5 := rrtext_fn s1.txt.num.2.num.2 o4 1024 (by decide) (by decide)
  obtain ⟨T, eT⟩ : ∃ T, T = s1.txt.num.2.num.2.text 1024 := ⟨_, rfl⟩
  rw [← eT] at o5 hm5 ⊢
  obtain ⟨⟨tn, tb⟩, s5⟩ := T
  simp only at o5 hm5 ⊢
  have q2 := wrapm (n := s1.txt.num.1) (l := 99999) (by decide) (by decide)
  have q3 := wrapm (n := s1.txt.num.2.num.1) (l := 99999) (by decide) (by decide)
  refine Fc.tupA (xs := [.lit (.int .i64 4), .sl .imm true 0 [], .lit (.string ByteArray.empty), .lit (.string ByteArray.empty), .sl .imm true 0 [], .lit (.string (ofBs (s1.text 32).1.2)), .lit (.int .i64 (min (s1.txt.num.1 : Int) 99999)), .lit (.int .i64 (min (s1.txt.num.2.num.1 : Int) 99999)), .sl .imm tn 1 (u8s tb)]) ?_ (by simp [zms, Ms.cells])
  refine Fc.of (anys _ [57, 58, 59]) sch39 mixed Try.func39 rfl (by rfl) (by simp [Try.ntmps39]) (by decide) ?_
  simp -implicitDefEqProofs -dsimp [Try.ntmps39]
  refine CallK.works ?_
  simp -implicitDefEqProofs -dsimp
  refine CallQ.mk hm1 (by simp [c0]) ?_
  simp -implicitDefEqProofs -dsimp [litL, min_u64, hk']
  refine CallK.works ?_
  simp -implicitDefEqProofs -dsimp
  refine CallQ.mk (rrid_fn s1 o1) (by simp) ?_
  simp -implicitDefEqProofs -dsimp [i1]
  refine CallK.works ?_
  simp -implicitDefEqProofs -dsimp
  refine CallQ.mk (rrnum_fn s1.txt o2) (by simp) ?_
  simp -implicitDefEqProofs -dsimp [litL, min_u64, q2]
  refine CallK.works ?_
  simp -implicitDefEqProofs -dsimp
  refine CallQ.mk (rrnum_fn s1.txt.num.2 o3) (by simp) ?_
  simp -implicitDefEqProofs -dsimp [litL, min_u64, q3]
  refine CallK.works ?_
  simp -implicitDefEqProofs -dsimp
  refine CallQ.mk (hm5) (by simp) ?_
  simp -implicitDefEqProofs -dsimp
  by_cases hf : s5.fail = 0
  · have hd := rfin_left o5 hf
    simp -implicitDefEqProofs -dsimp [hf]
    refine CallK.reads ?_
    simp -implicitDefEqProofs -dsimp
    refine CallQ.same (rleft_fn s5 o5) rfl ?_
    simp -implicitDefEqProofs -dsimp [hd]
  · have hd := rfin_bad hf
    simp -implicitDefEqProofs -dsimp [hf, hd]

set_option maxRecDepth 100000 in
set_option maxHeartbeats 16000000 in
theorem read0_fn (nl : Bool) (b : List Int) (hb : InB b) (hl : b.length ≤ 1000000) (h1 : ¬ wmany ⟨false, b, 0⟩ 9 = 1) (h2 : ¬ wmany ⟨false, b, 0⟩ 9 = 2) (h3 : ¬ wmany ⟨false, b, 0⟩ 9 = 3) (h4 : ¬ wmany ⟨false, b, 0⟩ 9 = 4) : Fc Try.prog 39 [.sl .imm nl 1 (u8s b)] [] (.tup [.agg (rdX b).1.cells, .lit (.bool (decide ((rdX b).2.fin = 0)))]) [] := by
  have w0 : rdX b = (zms (wmany ⟨false, b, 0⟩ 9), (WS.num ⟨false, b, 0⟩).2) := by rw [rdX, rdK, if_neg h1, if_neg h2, if_neg h3, if_neg h4]
  rw [w0]
  obtain ⟨s0, e0⟩ : ∃ s, s = rr0 nl b := ⟨_, rfl⟩
  have o0 : s0.Ok := e0 ▸ rr0_ok nl hb hl
  have t0 : (⟨false, b, 0⟩ : WS) = s0.toW := by rw [e0, rr0_toW]
  have c0 : rcells s0 = [.sl .imm nl 1 (u8s b), .lit (.int .i64 0), .lit (.int .i64 0)] := by rw [e0]; rfl
  simp only [t0, wmany, ← RR.num2, ← RR.num1, RR.toW_fin] at h1 h2 h3 h4 ⊢
  have hk' : IntKind.i64.wrap (min (s0.num.1 : Int) 9) = min (s0.num.1 : Int) 9 := wrapm (by decide) (by decide)
  have o1 := RR.num_ok o0
  have hm1 := rrnum_fn s0 o0
  obtain ⟨s1, e1⟩ : ∃ s, s = s0.num.2 := ⟨_, rfl⟩
  rw [← e1] at o1 hm1 ⊢
  obtain ⟨k, ek⟩ : ∃ k, k = min (s0.num.1 : Int) 9 := ⟨_, rfl⟩
  rw [← ek] at h1 h2 h3 h4 ⊢
  replace hk' : IntKind.i64.wrap (min (s0.num.1 : Int) 9) = k := by rw [hk', ek]
  have q1 : ¬ (1 : Int) = k := fun h => h1 h.symm
  have q2 : ¬ (2 : Int) = k := fun h => h2 h.symm
  have q3 : ¬ (3 : Int) = k := fun h => h3 h.symm
  have q4 : ¬ (4 : Int) = k := fun h => h4 h.symm
  refine Fc.tupA (xs := zcells k) ?_ (by simp [zcells, zms, Ms.cells])
  refine Fc.of (anys _ [57, 58, 59]) sch39 mixed Try.func39 rfl (by rfl) (by simp [Try.ntmps39]) (by decide) ?_
  simp -implicitDefEqProofs -dsimp [Try.ntmps39]
  refine CallK.works ?_
  simp -implicitDefEqProofs -dsimp
  refine CallQ.mk hm1 (by simp [c0]) ?_
  simp -implicitDefEqProofs -dsimp [litL, min_u64, hk', h1, h2, h3, h4, q1, q2, q3, q4]
  by_cases hf : s1.fail = 0
  · have hd := rfin_left o1 hf
    simp -implicitDefEqProofs -dsimp [hf]
    refine CallK.reads ?_
    simp -implicitDefEqProofs -dsimp
    refine CallQ.same (rleft_fn s1 o1) rfl ?_
    simp -implicitDefEqProofs -dsimp [hd, zcells, h1, h2, h3, h4, q1, q2, q3, q4]
  · have hd := rfin_bad hf
    simp -implicitDefEqProofs -dsimp [hf, hd, zcells, h1, h2, h3, h4, q1, q2, q3, q4]

set_option maxRecDepth 100000 in
set_option maxHeartbeats 16000000 in
theorem read3_fn (nl : Bool) (b : List Int) (hb : InB b) (hl : b.length ≤ 1000000) (hk : wmany ⟨false, b, 0⟩ 9 = 3) : Fc Try.prog 39 [.sl .imm nl 1 (u8s b)] [] (.tup [.agg (rdX b).1.cells, .lit (.bool (decide ((rdX b).2.fin = 0)))]) [] := by
  have w0 : rdX b = rdWantR 3 (WS.num ⟨false, b, 0⟩).2 := by rw [rdX, hk]; rfl
  rw [w0]
  obtain ⟨s0, e0⟩ : ∃ s, s = rr0 nl b := ⟨_, rfl⟩
  have o0 : s0.Ok := e0 ▸ rr0_ok nl hb hl
  have t0 : (⟨false, b, 0⟩ : WS) = s0.toW := by rw [e0, rr0_toW]
  have c0 : rcells s0 = [.sl .imm nl 1 (u8s b), .lit (.int .i64 0), .lit (.int .i64 0)] := by rw [e0]; rfl
  simp only [t0, wmany, ← RR.num1] at hk
  simp only [t0, rdWantR, ← RR.num2]
  have hk' : IntKind.i64.wrap (min (s0.num.1 : Int) 9) = 3 := by rw [wrapm (by decide) (by decide)]; exact hk
  have o1 := RR.num_ok o0
  have hm1 := rrnum_fn s0 o0
  obtain ⟨s1, e1⟩ : ∃ s, s = s0.num.2 := ⟨_, rfl⟩
  rw [← e1] at o1 hm1 ⊢
  have ot : s1.Ok := o1
  obtain ⟨n, hn⟩ := Int.eq_ofNat_of_zero_le (wmany_in s1.toW (l := 99) (by decide)).1
  have hn9 : n ≤ 99 := by have := (wmany_in s1.toW (l := 99) (by decide)).2; omega
  have hnw : IntKind.i64.wrap (min (s1.num.1 : Int) 99) = n := by rw [wrapm (by decide) (by decide), RR.num1]; exact hn
  have on := RR.num_ok ot
  obtain ⟨v, ev⟩ : ∃ v, v = s1.num.2 := ⟨_, rfl⟩
  have hmN := rrnum_fn s1 ot
  rw [← ev] at on hmN
  have eL : rdIdsR s1.toW = readIds n v.toW := by rw [rdIdsR, hn, ev, RR.num2]; rfl
  simp only [eL]
  obtain ⟨L, hL⟩ : ∃ L, L = readIds n v.toW := ⟨_, rfl⟩
  rw [← hL]
  refine Fc.tupA (xs := [.lit (.int .i64 3), .sl .imm true 0 [], (.lit (.string ByteArray.empty)), (.lit (.string ByteArray.empty)), .sl .imm L.1.isEmpty 1 (idc L.1), .lit (.string ByteArray.empty), .lit (.int .i64 0), .lit (.int .i64 0), .sl .imm true 0 []]) ?_ (by simp [zms, Ms.cells])
  suffices h : Fc Try.prog 39 [.sl .imm nl 1 (u8s b)] [] (.tup [.agg [.lit (.int .i64 3), .sl .imm true 0 [], (.lit (.string ByteArray.empty)), (.lit (.string ByteArray.empty)), .sl (.vw (.cell 5 4)) L.1.isEmpty 1 (idc L.1), .lit (.string ByteArray.empty), .lit (.int .i64 0), .lit (.int .i64 0), .sl .imm true 0 []], .lit (.bool (decide (L.2.fin = 0)))])
    [(5, .cells [.lit (.int .i64 3), .sl .imm true 0 [], (.lit (.string ByteArray.empty)), (.lit (.string ByteArray.empty)), .sl (.own (.cell 5 4)) L.1.isEmpty 1 (idc L.1), .lit (.string ByteArray.empty), .lit (.int .i64 0), .lit (.int .i64 0), .sl .imm true 0 []])] by
    have := (h.fz [.cell 5 4]).noHeap
    simpa using this
  refine Fc.of (anys _ [57, 58, 59]) sch39 mixed Try.func39 rfl (by rfl) (by simp [Try.ntmps39]) (by decide) ?_
  simp -implicitDefEqProofs -dsimp [Try.ntmps39]
  refine CallK.works ?_
  simp -implicitDefEqProofs -dsimp
  refine CallQ.mk hm1 (by simp [c0]) ?_
  simp -implicitDefEqProofs -dsimp [litL, min_u64, hk']
  refine CallK.works ?_
  simp -implicitDefEqProofs -dsimp
  refine CallQ.mk hmN (by simp) ?_
  simp -implicitDefEqProofs -dsimp [litL, min_u64, hnw]
  refine LpK.mk (anys _ [57, 58, 59]) mixed (fun ((i, l, u) : Nat × List ByteArray × RR) => i ≤ n ∧ u.Ok ∧ l.length = i ∧ L.1 = l ++ (readIds (n - i) u.toW).1 ∧ L.2 = (readIds (n - i) u.toW).2)
    (fun ((i, l, u) : Nat × List ByteArray × RR) => ⟨[(2, .ptr 2 0), (3, .lit (.bool false)), (4, .ptr 14 0), (5, .ptr 5 0), (9, .lit (.int .i64 n)), (10, .lit (.int .i64 i))], [(2, .cells (zcells 0)), (14, .cells (rcells u)), (5, .cells [.lit (.int .i64 3), .sl .imm true 0 [], (.lit (.string ByteArray.empty)), (.lit (.string ByteArray.empty)), .sl (.own (.cell 5 4)) l.isEmpty 1 (idc l), .lit (.string ByteArray.empty), .lit (.int .i64 0), .lit (.int .i64 0), .sl .imm true 0 []])], 137⟩)
    (fun (i, _, _) => n - i) (0, [], v) ⟨by omega, on, by simp, by simp [hL], by simp [hL]⟩ (by simp -implicitDefEqProofs -dsimp [zcells]) ?_
  rintro ⟨i, l, u⟩ ⟨hi, hu, hlen, e1, e2⟩
  by_cases hlt : i < n
  · have hlt' : (i : Int) < n := by omega
    have hw : IntKind.i64.wrap ((i : Int) + 1) = (i : Int) + 1 := wrap64 (by omega) (by omega)
    have hni : n - i = (n - (i + 1)) + 1 := by omega
    by_cases hf : u.fail = 0
    · have e3 : readIds (n - i) u.toW = (u.toW.id :: (readIds (n - (i + 1)) u.txt.toW).1, (readIds (n - (i + 1)) u.txt.toW).2) := by rw [hni, readIds, if_pos (show u.toW.fail = 0 from hf), RR.id2]
      rw [e3] at e1 e2
      have iu := RR.text_in hu 32
      have z1 : (l.length + 1) * 16 ≤ 140737488355328 := by omega
      have z2 : l.length ≤ 140737488355327 := by omega
      simp -implicitDefEqProofs -dsimp [hlt', hf]
      refine CallK.works ?_
      simp -implicitDefEqProofs -dsimp
      refine CallQ.mk (rrid_fn u hu) (by simp) ?_
      simp -implicitDefEqProofs -dsimp [iu, z1, z2, hw]
      refine .mk (i + 1, l ++ [ofBs (u.text 32).1.2], u.txt) ⟨by omega, RR.txt_ok hu, by simp [hlen], by rw [e1, RR.id1]; simp, e2⟩ (by simp; omega) (by simp -implicitDefEqProofs -dsimp [zcells])
    · have e3 : readIds (n - i) u.toW = ([], u.toW) := by rw [hni, readIds, if_neg (show ¬ u.toW.fail = 0 from hf)]
      rw [e3] at e1 e2
      simp only [List.append_nil] at e1
      have hd := rfin_bad hf
      rw [← RR.toW_fin] at hd
      simp -implicitDefEqProofs -dsimp [hlt', hf, e1, e2, hd, zcells]
  · have ein : i = n := by omega
    subst ein
    simp only [Nat.sub_self, readIds, List.append_nil] at e1 e2
    by_cases hf : u.fail = 0
    · have hd := rfin_left hu hf
      rw [← RR.toW_fin] at hd
      simp -implicitDefEqProofs -dsimp [hlt, hf]
      refine CallK.reads ?_
      simp -implicitDefEqProofs -dsimp
      refine CallQ.same (rleft_fn u hu) rfl ?_
      simp -implicitDefEqProofs -dsimp [hd, e1, e2, zcells]
    · have hd := rfin_bad hf
      rw [← RR.toW_fin] at hd
      simp -implicitDefEqProofs -dsimp [hlt, hf, e1, e2, hd, zcells]

set_option maxRecDepth 100000 in
set_option maxHeartbeats 16000000 in
theorem read2_fn (nl : Bool) (b : List Int) (hb : InB b) (hl : b.length ≤ 1000000) (hk : wmany ⟨false, b, 0⟩ 9 = 2) : Fc Try.prog 39 [.sl .imm nl 1 (u8s b)] [] (.tup [.agg (rdX b).1.cells, .lit (.bool (decide ((rdX b).2.fin = 0)))]) [] := by
  have w0 : rdX b = rdListR 2 (WS.num ⟨false, b, 0⟩).2 := by rw [rdX, hk]; rfl
  rw [w0]
  obtain ⟨s0, e0⟩ : ∃ s, s = rr0 nl b := ⟨_, rfl⟩
  have o0 : s0.Ok := e0 ▸ rr0_ok nl hb hl
  have t0 : (⟨false, b, 0⟩ : WS) = s0.toW := by rw [e0, rr0_toW]
  have c0 : rcells s0 = [.sl .imm nl 1 (u8s b), .lit (.int .i64 0), .lit (.int .i64 0)] := by rw [e0]; rfl
  simp only [t0, wmany, ← RR.num1] at hk
  simp only [t0, rdListR, ← RR.num2, ← RR.id2, ← RR.id1]
  have hk' : IntKind.i64.wrap (min (s0.num.1 : Int) 9) = 2 := by rw [wrapm (by decide) (by decide)]; exact hk
  have o1 := RR.num_ok o0
  have hm1 := rrnum_fn s0 o0
  obtain ⟨s1, e1⟩ : ∃ s, s = s0.num.2 := ⟨_, rfl⟩
  rw [← e1] at o1 hm1 ⊢
  have i1 := RR.text_in o1 32
  have o2 := RR.txt_ok o1
  have i2 := RR.text_in o2 32
  have ot : s1.txt.txt.Ok := RR.txt_ok o2
  obtain ⟨n, hn⟩ := Int.eq_ofNat_of_zero_le (wmany_in s1.txt.txt.toW (l := 99) (by decide)).1
  have hn9 : n ≤ 99 := by have := (wmany_in s1.txt.txt.toW (l := 99) (by decide)).2; omega
  have hnw : IntKind.i64.wrap (min (s1.txt.txt.num.1 : Int) 99) = n := by rw [wrapm (by decide) (by decide), RR.num1]; exact hn
  have on := RR.num_ok ot
  obtain ⟨v, ev⟩ : ∃ v, v = s1.txt.txt.num.2 := ⟨_, rfl⟩
  have hmN := rrnum_fn s1.txt.txt ot
  rw [← ev] at on hmN
  have eL : rdIdsR s1.txt.txt.toW = readIds n v.toW := by rw [rdIdsR, hn, ev, RR.num2]; rfl
  simp only [eL]
  obtain ⟨L, hL⟩ : ∃ L, L = readIds n v.toW := ⟨_, rfl⟩
  rw [← hL]
  refine Fc.tupA (xs := [.lit (.int .i64 2), .sl .imm true 0 [], (.lit (.string (ofBs (s1.text 32).1.2))), (.lit (.string (ofBs (s1.txt.text 32).1.2))), .sl .imm L.1.isEmpty 1 (idc L.1), .lit (.string ByteArray.empty), .lit (.int .i64 0), .lit (.int .i64 0), .sl .imm true 0 []]) ?_ (by simp [zms, Ms.cells])
  suffices h : Fc Try.prog 39 [.sl .imm nl 1 (u8s b)] [] (.tup [.agg [.lit (.int .i64 2), .sl .imm true 0 [], (.lit (.string (ofBs (s1.text 32).1.2))), (.lit (.string (ofBs (s1.txt.text 32).1.2))), .sl (.vw (.cell 5 4)) L.1.isEmpty 1 (idc L.1), .lit (.string ByteArray.empty), .lit (.int .i64 0), .lit (.int .i64 0), .sl .imm true 0 []], .lit (.bool (decide (L.2.fin = 0)))])
    [(5, .cells [.lit (.int .i64 2), .sl .imm true 0 [], (.lit (.string (ofBs (s1.text 32).1.2))), (.lit (.string (ofBs (s1.txt.text 32).1.2))), .sl (.own (.cell 5 4)) L.1.isEmpty 1 (idc L.1), .lit (.string ByteArray.empty), .lit (.int .i64 0), .lit (.int .i64 0), .sl .imm true 0 []])] by
    have := (h.fz [.cell 5 4]).noHeap
    simpa using this
  refine Fc.of (anys _ [57, 58, 59]) sch39 mixed Try.func39 rfl (by rfl) (by simp [Try.ntmps39]) (by decide) ?_
  simp -implicitDefEqProofs -dsimp [Try.ntmps39]
  refine CallK.works ?_
  simp -implicitDefEqProofs -dsimp
  refine CallQ.mk hm1 (by simp [c0]) ?_
  simp -implicitDefEqProofs -dsimp [litL, min_u64, hk']
  refine CallK.works ?_
  simp -implicitDefEqProofs -dsimp
  refine CallQ.mk (rrid_fn s1 o1) (by simp) ?_
  simp -implicitDefEqProofs -dsimp [i1]
  refine CallK.works ?_
  simp -implicitDefEqProofs -dsimp
  refine CallQ.mk (rrid_fn s1.txt o2) (by simp) ?_
  simp -implicitDefEqProofs -dsimp [i2]
  refine CallK.works ?_
  simp -implicitDefEqProofs -dsimp
  refine CallQ.mk hmN (by simp) ?_
  simp -implicitDefEqProofs -dsimp [litL, min_u64, hnw]
  refine LpK.mk (anys _ [57, 58, 59]) mixed (fun ((i, l, u) : Nat × List ByteArray × RR) => i ≤ n ∧ u.Ok ∧ l.length = i ∧ L.1 = l ++ (readIds (n - i) u.toW).1 ∧ L.2 = (readIds (n - i) u.toW).2)
    (fun ((i, l, u) : Nat × List ByteArray × RR) => ⟨[(2, .ptr 2 0), (3, .lit (.bool false)), (4, .ptr 14 0), (5, .ptr 5 0), (9, .lit (.int .i64 n)), (10, .lit (.int .i64 i))], [(2, .cells (zcells 0)), (14, .cells (rcells u)), (5, .cells [.lit (.int .i64 2), .sl .imm true 0 [], (.lit (.string (ofBs (s1.text 32).1.2))), (.lit (.string (ofBs (s1.txt.text 32).1.2))), .sl (.own (.cell 5 4)) l.isEmpty 1 (idc l), .lit (.string ByteArray.empty), .lit (.int .i64 0), .lit (.int .i64 0), .sl .imm true 0 []])], 137⟩)
    (fun (i, _, _) => n - i) (0, [], v) ⟨by omega, on, by simp, by simp [hL], by simp [hL]⟩ (by simp -implicitDefEqProofs -dsimp [zcells]) ?_
  rintro ⟨i, l, u⟩ ⟨hi, hu, hlen, e1, e2⟩
  by_cases hlt : i < n
  · have hlt' : (i : Int) < n := by omega
    have hw : IntKind.i64.wrap ((i : Int) + 1) = (i : Int) + 1 := wrap64 (by omega) (by omega)
    have hni : n - i = (n - (i + 1)) + 1 := by omega
    by_cases hf : u.fail = 0
    · have e3 : readIds (n - i) u.toW = (u.toW.id :: (readIds (n - (i + 1)) u.txt.toW).1, (readIds (n - (i + 1)) u.txt.toW).2) := by rw [hni, readIds, if_pos (show u.toW.fail = 0 from hf), RR.id2]
      rw [e3] at e1 e2
      have iu := RR.text_in hu 32
      have z1 : (l.length + 1) * 16 ≤ 140737488355328 := by omega
      have z2 : l.length ≤ 140737488355327 := by omega
      simp -implicitDefEqProofs -dsimp [hlt', hf]
      refine CallK.works ?_
      simp -implicitDefEqProofs -dsimp
      refine CallQ.mk (rrid_fn u hu) (by simp) ?_
      simp -implicitDefEqProofs -dsimp [iu, z1, z2, hw]
      refine .mk (i + 1, l ++ [ofBs (u.text 32).1.2], u.txt) ⟨by omega, RR.txt_ok hu, by simp [hlen], by rw [e1, RR.id1]; simp, e2⟩ (by simp; omega) (by simp -implicitDefEqProofs -dsimp [zcells])
    · have e3 : readIds (n - i) u.toW = ([], u.toW) := by rw [hni, readIds, if_neg (show ¬ u.toW.fail = 0 from hf)]
      rw [e3] at e1 e2
      simp only [List.append_nil] at e1
      have hd := rfin_bad hf
      rw [← RR.toW_fin] at hd
      simp -implicitDefEqProofs -dsimp [hlt', hf, e1, e2, hd, zcells]
  · have ein : i = n := by omega
    subst ein
    simp only [Nat.sub_self, readIds, List.append_nil] at e1 e2
    by_cases hf : u.fail = 0
    · have hd := rfin_left hu hf
      rw [← RR.toW_fin] at hd
      simp -implicitDefEqProofs -dsimp [hlt, hf]
      refine CallK.reads ?_
      simp -implicitDefEqProofs -dsimp
      refine CallQ.same (rleft_fn u hu) rfl ?_
      simp -implicitDefEqProofs -dsimp [hd, e1, e2, zcells]
    · have hd := rfin_bad hf
      rw [← RR.toW_fin] at hd
      simp -implicitDefEqProofs -dsimp [hlt, hf, e1, e2, hd, zcells]

set_option maxRecDepth 100000 in
set_option maxHeartbeats 16000000 in
theorem read1_fn (nl : Bool) (b : List Int) (hb : InB b) (hl : b.length ≤ 1000000) (hk : wmany ⟨false, b, 0⟩ 9 = 1) : Fc Try.prog 39 [.sl .imm nl 1 (u8s b)] [] (.tup [.agg (rdX b).1.cells, .lit (.bool (decide ((rdX b).2.fin = 0)))]) [] := by
  have w0 : rdX b = rdSumsR 1 (WS.num ⟨false, b, 0⟩).2 := by rw [rdX, hk]; rfl
  rw [w0]
  obtain ⟨s0, e0⟩ : ∃ s, s = rr0 nl b := ⟨_, rfl⟩
  have o0 : s0.Ok := e0 ▸ rr0_ok nl hb hl
  have t0 : (⟨false, b, 0⟩ : WS) = s0.toW := by rw [e0, rr0_toW]
  have c0 : rcells s0 = [.sl .imm nl 1 (u8s b), .lit (.int .i64 0), .lit (.int .i64 0)] := by rw [e0]; rfl
  simp only [t0, wmany, ← RR.num1] at hk
  simp only [t0, rdSumsR, ← RR.num2]
  have hk' : IntKind.i64.wrap (min (s0.num.1 : Int) 9) = 1 := by rw [wrapm (by decide) (by decide)]; exact hk
  have o1 := RR.num_ok o0
  have hm1 := rrnum_fn s0 o0
  obtain ⟨s1, e1⟩ : ∃ s, s = s0.num.2 := ⟨_, rfl⟩
  rw [← e1] at o1 hm1 ⊢
  obtain ⟨n, hn⟩ := Int.eq_ofNat_of_zero_le (wmany_in s1.toW (l := 9) (by decide)).1
  have hn9 : n ≤ 9 := by have := (wmany_in s1.toW (l := 9) (by decide)).2; omega
  have hnw : IntKind.i64.wrap (min (s1.num.1 : Int) 9) = n := by rw [wrapm (by decide) (by decide), RR.num1]; exact hn
  have on := RR.num_ok o1
  obtain ⟨v, ev⟩ : ∃ v, v = s1.num.2 := ⟨_, rfl⟩
  have hmN := rrnum_fn s1 o1
  rw [← ev] at on hmN
  rw [← ev, hn, Int.toNat_natCast]
  obtain ⟨L, hL⟩ : ∃ L, L = readRgs n v.toW := ⟨_, rfl⟩
  rw [← hL]
  refine Fc.tupA (xs := [.lit (.int .i64 1), .sl .imm L.1.isEmpty 4 (rgs L.1), .lit (.string ByteArray.empty), .lit (.string ByteArray.empty), .sl .imm true 0 [], .lit (.string ByteArray.empty), .lit (.int .i64 0), .lit (.int .i64 0), .sl .imm true 0 []]) ?_ (by simp [zms, Ms.cells])
  suffices h : Fc Try.prog 39 [.sl .imm nl 1 (u8s b)] [] (.tup [.agg [.lit (.int .i64 1), .sl (.vw (.cell 5 1)) L.1.isEmpty 4 (rgs L.1), .lit (.string ByteArray.empty), .lit (.string ByteArray.empty), .sl .imm true 0 [], .lit (.string ByteArray.empty), .lit (.int .i64 0), .lit (.int .i64 0), .sl .imm true 0 []], .lit (.bool (decide (L.2.fin = 0)))])
    [(5, .cells [.lit (.int .i64 1), .sl (.own (.cell 5 1)) L.1.isEmpty 4 (rgs L.1), .lit (.string ByteArray.empty), .lit (.string ByteArray.empty), .sl .imm true 0 [], .lit (.string ByteArray.empty), .lit (.int .i64 0), .lit (.int .i64 0), .sl .imm true 0 []])] by
    have := (h.fz [.cell 5 1]).noHeap
    simpa using this
  refine Fc.of (anys _ [57, 58, 59]) sch39 mixed Try.func39 rfl (by rfl) (by simp [Try.ntmps39]) (by decide) ?_
  simp -implicitDefEqProofs -dsimp [Try.ntmps39]
  refine CallK.works ?_
  simp -implicitDefEqProofs -dsimp
  refine CallQ.mk hm1 (by simp [c0]) ?_
  simp -implicitDefEqProofs -dsimp [litL, min_u64, hk']
  refine CallK.works ?_
  simp -implicitDefEqProofs -dsimp
  refine CallQ.mk hmN (by simp) ?_
  simp -implicitDefEqProofs -dsimp [litL, min_u64, hnw]
  refine LpK.mk (anys _ [57, 58, 59]) mixed (fun ((i, l, u) : Nat × List Rg × RR) => i ≤ n ∧ u.Ok ∧ l.length = i ∧ L.1 = l ++ (readRgs (n - i) u.toW).1 ∧ L.2 = (readRgs (n - i) u.toW).2)
    (fun ((i, l, u) : Nat × List Rg × RR) => ⟨[(2, .ptr 2 0), (3, .lit (.bool false)), (4, .ptr 14 0), (5, .ptr 5 0), (6, .lit (.int .i64 n)), (7, .lit (.int .i64 i))], [(2, .cells (zcells 0)), (14, .cells (rcells u)), (5, .cells [.lit (.int .i64 1), .sl (.own (.cell 5 1)) l.isEmpty 4 (rgs l), .lit (.string ByteArray.empty), .lit (.string ByteArray.empty), .sl .imm true 0 [], .lit (.string ByteArray.empty), .lit (.int .i64 0), .lit (.int .i64 0), .sl .imm true 0 []])], 137⟩)
    (fun (i, _, _) => n - i) (0, [], v) ⟨by omega, on, by simp, by simp [hL], by simp [hL]⟩ (by simp -implicitDefEqProofs -dsimp [zcells]) ?_
  rintro ⟨i, l, u⟩ ⟨hi, hu, hlen, e1, e2⟩
  by_cases hlt : i < n
  · have hlt' : (i : Int) < n := by omega
    have hw : IntKind.i64.wrap ((i : Int) + 1) = (i : Int) + 1 := wrap64 (by omega) (by omega)
    have hni : n - i = (n - (i + 1)) + 1 := by omega
    by_cases hf : u.fail = 0
    · have u2 := RR.txt_ok hu
      have u3 := RR.txt_ok u2
      have u4 := RR.num_ok u3
      have u5 := RR.txt_ok u4
      have q : u.toW.rg2 = u.txt.txt.num.2.txt.toW := by rw [WS.rg2, ← RR.id2, ← RR.id2, ← RR.num2, ← RR.id2]
      have qr : u.toW.rg = ⟨ofBs (u.text 32).1.2, ofBs (u.txt.text 32).1.2, min (u.txt.txt.num.1 : Int) 1099511627777, ofBs (u.txt.txt.num.2.text 32).1.2⟩ := by
        rw [WS.rg, WS.many, ← RR.id2, ← RR.id2, ← RR.num2, ← RR.id1, ← RR.id1, ← RR.id1, ← RR.num1]; rfl
      have e3 : readRgs (n - i) u.toW = (u.toW.rg :: (readRgs (n - (i + 1)) u.txt.txt.num.2.txt.toW).1, (readRgs (n - (i + 1)) u.txt.txt.num.2.txt.toW).2) := by rw [hni, readRgs, if_pos (show u.toW.fail = 0 from hf), q]
      rw [e3, qr] at e1
      rw [e3] at e2
      have a1 := RR.text_in hu 32
      have a2 := RR.text_in u2 32
      have a4 := RR.text_in u4 32
      have hw3 := wrapm (n := u.txt.txt.num.1) (l := 1099511627777) (by decide) (by decide)
      have z1 : (l.length + 1) * 56 ≤ 140737488355328 := by omega
      have z2 : l.length ≤ 140737488355327 := by omega
      simp -implicitDefEqProofs -dsimp [hlt', hf]
      refine CallK.works ?_
      simp -implicitDefEqProofs -dsimp
      refine CallQ.mk (rrid_fn u hu) (by simp) ?_
      simp -implicitDefEqProofs -dsimp [a1]
      refine CallK.works ?_
      simp -implicitDefEqProofs -dsimp
      refine CallQ.mk (rrid_fn u.txt u2) (by simp) ?_
      simp -implicitDefEqProofs -dsimp [a2]
      refine CallK.works ?_
      simp -implicitDefEqProofs -dsimp
      refine CallQ.mk (rrnum_fn u.txt.txt u3) (by simp) ?_
      simp -implicitDefEqProofs -dsimp [litL, min_u64, hw3]
      refine CallK.works ?_
      simp -implicitDefEqProofs -dsimp
      refine CallQ.mk (rrid_fn u.txt.txt.num.2 u4) (by simp) ?_
      simp -implicitDefEqProofs -dsimp [a4, z1, z2, hw]
      refine .mk (i + 1, l ++ [⟨ofBs (u.text 32).1.2, ofBs (u.txt.text 32).1.2, min (u.txt.txt.num.1 : Int) 1099511627777, ofBs (u.txt.txt.num.2.text 32).1.2⟩], u.txt.txt.num.2.txt) ⟨by omega, u5, by simp [hlen], by rw [e1]; simp, e2⟩ (by simp; omega) (by simp -implicitDefEqProofs -dsimp [zcells])
    · have e3 : readRgs (n - i) u.toW = ([], u.toW) := by rw [hni, readRgs, if_neg (show ¬ u.toW.fail = 0 from hf)]
      rw [e3] at e1 e2
      simp only [List.append_nil] at e1
      have hd := rfin_bad hf
      rw [← RR.toW_fin] at hd
      simp -implicitDefEqProofs -dsimp [hlt', hf, e1, e2, hd, zcells]
  · have ein : i = n := by omega
    subst ein
    simp only [Nat.sub_self, readRgs, List.append_nil] at e1 e2
    by_cases hf : u.fail = 0
    · have hd := rfin_left hu hf
      rw [← RR.toW_fin] at hd
      simp -implicitDefEqProofs -dsimp [hlt, hf]
      refine CallK.reads ?_
      simp -implicitDefEqProofs -dsimp
      refine CallQ.same (rleft_fn u hu) rfl ?_
      simp -implicitDefEqProofs -dsimp [hd, e1, e2, zcells]
    · have hd := rfin_bad hf
      rw [← RR.toW_fin] at hd
      simp -implicitDefEqProofs -dsimp [hlt, hf, e1, e2, hd, zcells]
end Go.Proofs.Ytbialojkkhkjeaa
