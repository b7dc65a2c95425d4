/- Frames: the document's Decode. (and what stands on it) -/
import Derived.Test.YtbialojkkhkjeaaMf
import Derived.Test.YtbialojkkhkjeaaMc
import Derived.Test.YtbialojkkhkjeaaMd

/-! Frames: the document's Decode. -/
namespace Go.Proofs.Ytbialojkkhkjeaa
open Go.Sy
theorem read_fn (nl : Bool) (b : List Int) (hb : InB b) (hl : b.length ≤ 1000000) : Fc Try.prog 39 [.sl .imm nl 1 (u8s b)] [] (.tup [.agg (rdX b).1.cells, .lit (.bool (decide ((rdX b).2.fin = 0)))]) [] := by
  by_cases h1 : wmany ⟨false, b, 0⟩ 9 = 1
  · exact read1_fn nl b hb hl h1
  · by_cases h2 : wmany ⟨false, b, 0⟩ 9 = 2
    · exact read2_fn nl b hb hl h2
    · by_cases h3 : wmany ⟨false, b, 0⟩ 9 = 3
      · exact read3_fn nl b hb hl h3
      · by_cases h4 : wmany ⟨false, b, 0⟩ 9 = 4
        · exact read4_fn nl b hb hl h4
        · exact read0_fn nl b hb hl h1 h2 h3 h4
theorem readRgs_len : ∀ (n : Nat) (s : WS), (readRgs n s).2.fail = 0 → (readRgs n s).1.length = n
  | 0, _, _ => rfl
  | n + 1, s, h => by
    unfold readRgs at h ⊢
    by_cases hf : s.fail = 0
    · rw [if_pos hf] at h ⊢
      simp only [List.length_cons]
      rw [readRgs_len n _ h]
    · rw [if_neg hf] at h
      exact absurd h hf
theorem readIds_len : ∀ (n : Nat) (s : WS), (readIds n s).2.fail = 0 → (readIds n s).1.length = n
  | 0, _, _ => rfl
  | n + 1, s, h => by
    unfold readIds at h ⊢
    by_cases hf : s.fail = 0
    · rw [if_pos hf] at h ⊢
      simp only [List.length_cons]
      rw [readIds_len n _ h]
    · rw [if_neg hf] at h
      exact absurd h hf
theorem fin_fail {s : WS} (h : s.fin = 0) : s.fail = 0 := (fin_no'.2 h).1
theorem fin_no {p : Ms × WS} (h : p.2.fin = 0 → rightB p.1 = false) : finM p = (zms 0, 3) := by
  unfold finM
  by_cases hf : p.2.fin = 0
  · rw [if_neg (by simp [hf]), if_neg (by simp [h hf])]
  · rw [if_pos hf]
theorem sums_same (s : WS) : finM (rdSumsR 1 s) = finM (rdSums 1 s) := by
  by_cases h : s.num.1 ≤ 3
  · have e : (wmany s 9).toNat = (s.many 2).toNat := by unfold wmany WS.many; omega
    have : rdSumsR 1 s = rdSums 1 s := by unfold rdSumsR rdSums; rw [e]
    rw [this]
  · have long : ∀ n, 3 ≤ n → ∀ m : Ms, m.kind = 1 → m.rs = (readRgs n s.num.2).1 → finM (m, (readRgs n s.num.2).2) = (zms 0, 3) := fun n hn m hk hm => fin_no fun hf => by
      have := readRgs_len n _ (fin_fail hf)
      by_cases hr : rightB m = true
      · have := (right_1 hr hk).1.2.1
        rw [hm] at this; omega
      · simpa using hr
    rw [rdSumsR, rdSums, long _ (by unfold wmany; omega) _ rfl rfl, long _ (by unfold WS.many; omega) _ rfl rfl]
theorem ids_same (s : WS) (f : List ByteArray → Ms) (hi : ∀ l, (f l).ids = l) (hr : ∀ l, rightB (f l) = true → l.length ≤ 64) : finM (f (rdIdsR s).1, (rdIdsR s).2) = finM (f (rdIds s).1, (rdIds s).2) := by
  by_cases h : s.num.1 ≤ 65
  · have e : (wmany s 99).toNat = (s.many 64).toNat := by unfold wmany WS.many; omega
    have : rdIdsR s = rdIds s := by unfold rdIdsR rdIds; rw [e]
    rw [this]
  · have long : ∀ n, 65 ≤ n → finM (f (readIds n s.num.2).1, (readIds n s.num.2).2) = (zms 0, 3) := fun n hn => fin_no fun hf => by
      have := readIds_len n _ (fin_fail hf)
      by_cases hx : rightB (f (readIds n s.num.2).1) = true
      · have := hr _ hx; omega
      · simpa using hx
    rw [rdIdsR, rdIds, long _ (by unfold wmany; omega), long _ (by unfold WS.many; omega)]
theorem list_same (s : WS) : finM (rdListR 2 s) = finM (rdList 2 s) :=
  ids_same s.id2.id2 (fun l => { zms 2 with lo := s.id, hi := s.id2.id, ni := l.isEmpty, ids := l }) (fun _ => rfl) fun l h => (ids_in (right_2 h rfl).1.2.2).2
theorem want_same (s : WS) : finM (rdWantR 3 s) = finM (rdWant 3 s) :=
  ids_same s (fun l => { zms 3 with ni := l.isEmpty, ids := l }) (fun _ => rfl) fun l h => (ids_in (right_3 h rfl).1).2
theorem part_same (s : WS) : finM (rdPartR 4 s) = finM (rdPart 4 s) := by
  by_cases h : s.id2.num.1 ≤ 16385 ∧ s.id2.num.2.num.1 ≤ 16385
  · have e1 : wmany s.id2 99999 = s.id2.many 16384 := by unfold wmany WS.many; omega
    have e2 : wmany s.id2.num.2 99999 = s.id2.num.2.many 16384 := by unfold wmany WS.many; omega
    have : rdPartR 4 s = rdPart 4 s := by unfold rdPartR rdPart; rw [e1, e2]
    rw [this]
  · have bad : ∀ (m : Ms) (u : WS), m.kind = 4 → (16384 < m.index ∨ 16384 < m.many) → finM (m, u) = (zms 0, 3) := fun m u hk hm => fin_no fun hf => by
      by_cases hr : rightB m = true
      · obtain ⟨⟨b1, b2, b3, b4, b5, b6, b7⟩, -⟩ := right_4 hr hk
        omega
      · simpa using hr
    rw [rdPartR, rdPart, bad _ _ rfl (by show _ < wmany _ _ ∨ _ < wmany _ _; unfold wmany; omega), bad _ _ rfl (by show _ < WS.many _ _ ∨ _ < WS.many _ _; unfold WS.many; omega)]
/-- What the document decodes. -/
def rdecM (b : List Int) : Ms × Int :=
  if (b.length : Int) < 5 then (zms 0, 2)
  else if 4096 < (b.length : Int) then (zms 0, 4)
  else if frB (b.take (b.length - 4)) = b then finM (rdX (b.take (b.length - 4))) else (zms 0, 12)
theorem knd_same (p : List Int) : finM (rdX p) = kndM ((WS.mk false p 0).many 4) (WS.mk false p 0).num.2 := by
  obtain ⟨s, hs⟩ : ∃ s, s = WS.mk false p 0 := ⟨_, rfl⟩
  unfold rdX
  rw [← hs]
  have bad : ∀ k (u : WS), ¬ k = 1 → ¬ k = 2 → ¬ k = 3 → ¬ k = 4 → finM (zms k, u) = (zms 0, 3) := fun k u h1 h2 h3 h4 => fin_no fun _ => by
    show rightB (zms k) = false
    unfold rightB
    rw [if_neg (show ¬ (zms k).kind = 1 from h1), if_neg (show ¬ (zms k).kind = 2 from h2), if_neg (show ¬ (zms k).kind = 3 from h3), if_neg (show ¬ (zms k).kind = 4 from h4)]
  unfold rdK kndM
  have e : ∀ j : Int, 0 ≤ j → j ≤ 4 → (wmany s 9 = j ↔ s.many 4 = j) := fun j h0 h1 => by unfold wmany WS.many; omega
  by_cases h1 : s.many 4 = 1
  · rw [if_pos ((e 1 (by decide) (by decide)).2 h1), if_pos h1]; exact sums_same _
  · have n1 := fun h => h1 ((e 1 (by decide) (by decide)).1 h)
    rw [if_neg n1, if_neg h1]
    by_cases h2 : s.many 4 = 2
    · rw [if_pos ((e 2 (by decide) (by decide)).2 h2), if_pos h2]; exact list_same _
    · have n2 := fun h => h2 ((e 2 (by decide) (by decide)).1 h)
      rw [if_neg n2, if_neg h2]
      by_cases h3 : s.many 4 = 3
      · rw [if_pos ((e 3 (by decide) (by decide)).2 h3), if_pos h3]; exact want_same _
      · have n3 := fun h => h3 ((e 3 (by decide) (by decide)).1 h)
        rw [if_neg n3, if_neg h3]
        by_cases h4 : s.many 4 = 4
        · rw [if_pos ((e 4 (by decide) (by decide)).2 h4), if_pos h4]; exact part_same _
        · have n4 := fun h => h4 ((e 4 (by decide) (by decide)).1 h)
          rw [if_neg n4, if_neg h4]; exact bad _ _ n1 n2 n3 n4
theorem frB_take (b : List Int) : frB (b.take (b.length - 4)) = b ↔ b.drop (b.length - 4) = ck4 (crc (b.take (b.length - 4))) := by
  unfold frB
  constructor
  · intro h
    have h2 := List.take_append_drop (b.length - 4) b
    exact List.append_cancel_left (h2.trans h.symm)
  · intro h; rw [← h, List.take_append_drop]
theorem rdec_dec (b : List Int) : rdecM b = decM b := by
  unfold rdecM decM chkM
  by_cases h1 : (b.length : Int) < 5
  · rw [if_pos h1, if_pos (show (b.length : Int) - 4 < 1 by omega)]; simp
  · rw [if_neg h1, if_neg (show ¬ (b.length : Int) - 4 < 1 by omega)]
    by_cases h2 : 4096 < (b.length : Int)
    · rw [if_pos h2, if_pos h2]; simp
    · rw [if_neg h2, if_neg h2]
      by_cases h3 : frB (b.take (b.length - 4)) = b
      · rw [if_pos h3, if_pos ((frB_take b).1 h3), knd_same]; simp
      · rw [if_neg h3, if_neg (fun c => h3 ((frB_take b).2 c))]; simp
theorem ofBs_size (l : List Int) : (ofBs l).size = l.length := by simp [ofBs, ByteArray.size]
theorem id_small (s : WS) : s.id.size ≤ 32 := by
  rw [WS.id, ofBs_size]
  unfold WS.text
  split
  · simp
  · split
    · simp
    · split
      · simp
      · split
        · simp
        · simp only [List.length_take]; omega
theorem readIds_small : ∀ (n : Nat) (s : WS) (p : ByteArray), p ∈ (readIds n s).1 → p.size ≤ 32
  | 0, _, _, h => by simp [readIds] at h
  | n + 1, s, p, h => by
    unfold readIds at h
    split at h
    · rcases List.mem_cons.1 h with rfl | h
      · exact id_small s
      · exact readIds_small n _ p h
    · simp at h
theorem rdX_small (b : List Int) : (rdX b).1.rs.length ≤ 9 ∧ (rdX b).1.ids.length ≤ 99 ∧ ∀ p, p ∈ (rdX b).1.ids → p.size ≤ 32 := by
  have hi : ∀ s, (rdIdsR s).1.length ≤ 99 ∧ ∀ p, p ∈ (rdIdsR s).1 → p.size ≤ 32 := fun s => ⟨Nat.le_trans (readIds_length _ _) (by have := wmany_in s (l := 99) (by decide); omega), fun p hp => readIds_small _ _ p hp⟩
  unfold rdX rdK
  split
  · exact ⟨Nat.le_trans (readRgs_length _ _) (by have := wmany_in (WS.num ⟨false, b, 0⟩).2 (l := 9) (by decide); omega), by simp [rdSumsR, zms], by simp [rdSumsR, zms]⟩
  · split
    · exact ⟨by simp [rdListR, zms], hi _⟩
    · split
      · exact ⟨by simp [rdWantR, zms], hi _⟩
      · split
        · exact ⟨by simp [rdPartR, zms], by simp [rdPartR, zms], by simp [rdPartR, zms]⟩
        · exact ⟨by simp [zms], by simp [zms], by simp [zms]⟩

set_option maxRecDepth 100000 in
set_option maxHeartbeats 16000000 in
theorem rdecode_fn (nl : Bool) (b : List Int) (hb : InB b) (hl : b.length ≤ 1000000) : Fc Try.prog 19 [.sl .imm nl 1 (u8s b)] [] (.tup [.agg (rdecM b).1.cells, .lit (.int .i64 (rdecM b).2)]) [] := by
  by_cases c1 : (b.length : Int) < 5
  · have he : rdecM b = (zms 0, 2) := by rw [rdecM, if_pos c1]
    rw [he]
    refine Fc.tupA (xs := zcells 0) ?_ (by simp [zcells, zms, Ms.cells])
    refine Fc.of (anys _ [15, 17, 21, 39]) [] mixed Try.func19 rfl (by rfl) (by simp [Try.ntmps19]) (by decide) ?_
    simp -implicitDefEqProofs -dsimp [Try.ntmps19, c1, zcells]
  · by_cases c2 : 4096 < (b.length : Int)
    · have he : rdecM b = (zms 0, 4) := by rw [rdecM, if_neg c1, if_pos c2]
      rw [he]
      refine Fc.tupA (xs := zcells 0) ?_ (by simp [zcells, zms, Ms.cells])
      refine Fc.of (anys _ [15, 17, 21, 39]) [] mixed Try.func19 rfl (by rfl) (by simp [Try.ntmps19]) (by decide) ?_
      simp -implicitDefEqProofs -dsimp [Try.ntmps19, c1, c2, zcells]
    · have w0 : IntKind.i64.wrap ((b.length : Int) - 4) = (b.length : Int) - 4 := wrap64 (by omega) (by omega)
      have w1 : (0 : Int) ≤ (b.length : Int) - 4 := by omega
      have w2 : (b.length : Int) - 4 ≤ b.length := by omega
      have w3 : ((b.length : Int) - 4).toNat = b.length - 4 := by omega
      have w4 : (4 : Int) ≤ b.length := by omega
      have hnb : ¬ b = [] := fun h => by rw [h] at c1; simp at c1
      obtain ⟨p, hp⟩ : ∃ p, p = b.take (b.length - 4) := ⟨_, rfl⟩
      have hpb : InB p := hp ▸ hb.take _
      have hpl : p.length ≤ 4092 := by rw [hp, List.length_take]; omega
      have hfl : (frB p).length < 9223372036854775807 := by unfold frB; rw [List.length_append, ck4_length]; omega
      have hX := read_fn nl p hpb (by omega)
      obtain ⟨r1, r2, r3⟩ := rdX_small p
      by_cases c3 : frB p = b
      · have he : rdecM b = finM (rdX p) := by rw [rdecM, if_neg c1, if_neg c2, ← hp, if_pos c3]
        rw [he]
        obtain ⟨⟨m, u⟩, hmu⟩ : ∃ q, q = rdX p := ⟨_, rfl⟩
        rw [← hmu] at hX r1 r2 r3 ⊢
        have hR := rright_fn m (by simp only at r1; omega) (by simp only at r2; omega) fun q hq => by have := r3 q hq; omega
        by_cases f1 : u.fin = 0
        · by_cases f2 : rightB m = true
          · have e2 : finM (m, u) = (m, 0) := by rw [finM, if_neg (by simp [f1]), if_pos f2]
            rw [e2]
            refine Fc.of (anys _ [15, 17, 21, 39]) [] mixed Try.func19 rfl (by rfl) (by simp [Try.ntmps19]) (by decide) ?_
            simp -implicitDefEqProofs -dsimp [Try.ntmps19, c1, c2, w0, w1, w2, w3, w4, ← hp]
            refine CallK.fresh ?_
            simp -implicitDefEqProofs -dsimp
            refine CallQ.same (rframed_fn nl p hpb (by omega)) rfl ?_
            simp -implicitDefEqProofs -dsimp [fr_u8s]
            refine CallK.reads ?_
            simp -implicitDefEqProofs -dsimp
            refine CallQ.same (same_fn false nl (frB p) b hfl) rfl ?_
            simp -implicitDefEqProofs -dsimp [c3]
            refine CallK.works ?_
            simp -implicitDefEqProofs -dsimp
            refine CallQ.mk (hX) (by simp) ?_
            simp -implicitDefEqProofs -dsimp
            refine onSome_iff.2 ⟨_, if_pos (ms_plain m), ?_⟩
            simp -implicitDefEqProofs -dsimp
            refine CallK.reads ?_
            simp -implicitDefEqProofs -dsimp
            refine CallQ.same (hR) rfl ?_
            simp -implicitDefEqProofs -dsimp [f1, f2]
            refine onSome_iff.2 ⟨_, if_pos (ms_plain m), ?_⟩
            simp -implicitDefEqProofs -dsimp
          · have e2 : finM (m, u) = (zms 0, 3) := by rw [finM, if_neg (by simp [f1]), if_neg f2]
            rw [e2]
            refine Fc.tupA (xs := zcells 0) ?_ (by simp [zcells, zms, Ms.cells])
            refine Fc.of (anys _ [15, 17, 21, 39]) [] mixed Try.func19 rfl (by rfl) (by simp [Try.ntmps19]) (by decide) ?_
            simp -implicitDefEqProofs -dsimp [Try.ntmps19, c1, c2, w0, w1, w2, w3, w4, ← hp]
            refine CallK.fresh ?_
            simp -implicitDefEqProofs -dsimp
            refine CallQ.same (rframed_fn nl p hpb (by omega)) rfl ?_
            simp -implicitDefEqProofs -dsimp [fr_u8s]
            refine CallK.reads ?_
            simp -implicitDefEqProofs -dsimp
            refine CallQ.same (same_fn false nl (frB p) b hfl) rfl ?_
            simp -implicitDefEqProofs -dsimp [c3]
            refine CallK.works ?_
            simp -implicitDefEqProofs -dsimp
            refine CallQ.mk (hX) (by simp) ?_
            simp -implicitDefEqProofs -dsimp
            refine onSome_iff.2 ⟨_, if_pos (ms_plain m), ?_⟩
            simp -implicitDefEqProofs -dsimp
            refine CallK.reads ?_
            simp -implicitDefEqProofs -dsimp
            refine CallQ.same (hR) rfl ?_
            simp -implicitDefEqProofs -dsimp [f1, f2, zcells]
        · have e2 : finM (m, u) = (zms 0, 3) := by rw [finM, if_pos f1]
          rw [e2]
          refine Fc.tupA (xs := zcells 0) ?_ (by simp [zcells, zms, Ms.cells])
          refine Fc.of (anys _ [15, 17, 21, 39]) [] mixed Try.func19 rfl (by rfl) (by simp [Try.ntmps19]) (by decide) ?_
          simp -implicitDefEqProofs -dsimp [Try.ntmps19, c1, c2, w0, w1, w2, w3, w4, ← hp]
          refine CallK.fresh ?_
          simp -implicitDefEqProofs -dsimp
          refine CallQ.same (rframed_fn nl p hpb (by omega)) rfl ?_
          simp -implicitDefEqProofs -dsimp [fr_u8s]
          refine CallK.reads ?_
          simp -implicitDefEqProofs -dsimp
          refine CallQ.same (same_fn false nl (frB p) b hfl) rfl ?_
          simp -implicitDefEqProofs -dsimp [c3]
          refine CallK.works ?_
          simp -implicitDefEqProofs -dsimp
          refine CallQ.mk (hX) (by simp) ?_
          simp -implicitDefEqProofs -dsimp
          refine onSome_iff.2 ⟨_, if_pos (ms_plain m), ?_⟩
          simp -implicitDefEqProofs -dsimp
          refine CallK.reads ?_
          simp -implicitDefEqProofs -dsimp
          refine CallQ.same (hR) rfl ?_
          simp -implicitDefEqProofs -dsimp [f1, zcells]
      · have he : rdecM b = (zms 0, 12) := by rw [rdecM, if_neg c1, if_neg c2, ← hp, if_neg c3]
        rw [he]
        refine Fc.tupA (xs := zcells 0) ?_ (by simp [zcells, zms, Ms.cells])
        refine Fc.of (anys _ [15, 17, 21, 39]) [] mixed Try.func19 rfl (by rfl) (by simp [Try.ntmps19]) (by decide) ?_
        simp -implicitDefEqProofs -dsimp [Try.ntmps19, c1, c2, w0, w1, w2, w3, w4, ← hp]
        refine CallK.fresh ?_
        simp -implicitDefEqProofs -dsimp
        refine CallQ.same (rframed_fn nl p hpb (by omega)) rfl ?_
        simp -implicitDefEqProofs -dsimp [fr_u8s]
        refine CallK.reads ?_
        simp -implicitDefEqProofs -dsimp
        refine CallQ.same (same_fn false nl (frB p) b hfl) rfl ?_
        simp -implicitDefEqProofs -dsimp [c3, zcells]
end Go.Proofs.Ytbialojkkhkjeaa

/-! The law FrameDecodes, walked. -/
namespace Go.Proofs.Ytbialojkkhkjeaa
open Go.Sy
theorem sameM_self (a : Ms) : sameM a a = true := by simp [sameM]
theorem inB_zeros (z : Nat) : InB (List.replicate z 0) := fun x hx => by rw [List.mem_replicate] at hx; rw [hx.2]; decide
theorem grow_cons (P : Program) (T tx : TypeId) (o : Own) (s : Nat) (xs : List PV) (q : PV) : growPV P T tx (.sl o false s xs) q = none := by
  unfold growPV
  split
  · split
    · rename_i h; cases h
    · rfl
  · rfl
theorem zeros_u8s (b : List Int) (z : Nat) : u8s b ++ List.replicate z (PV.lit (.int .u8 0)) = u8s (b ++ List.replicate z 0) := by simp [ints]

set_option maxRecDepth 100000 in
set_option maxHeartbeats 16000000 in
theorem decodes_fn (nb : Bool) (b : List Int) (k : Int) (hn : nb = true → b = []) (hb : InB b) (k0 : 0 ≤ k) (k1 : k < 65536) :
    Fc Try.prog 5 [.sl .imm nb 1 (u8s b), .lit (.int .u16 k)] [] (.lit (.bool true)) [] := by
  by_cases hl : 600 < (b.length : Int)
  · refine Fc.of (anys _ [9, 18, 19, 20, 21]) [] mixed Try.func5 rfl (by rfl) (by simp [Try.ntmps5]) (by decide) ?_
    simp -implicitDefEqProofs -dsimp [Try.ntmps5]
    refine CallK.reads ?_
    simp -implicitDefEqProofs -dsimp
    refine CallQ.same (awake_fn) rfl ?_
    simp -implicitDefEqProofs -dsimp [hl]
  · obtain ⟨z, hz⟩ : ∃ z, z = (k % 5001).toNat := ⟨_, rfl⟩
    have hz5 : z ≤ 5000 := by omega
    have w1 : IntKind.i64.wrap (k.tmod 5001) = (z : Int) := by rw [Int.tmod_eq_emod_of_nonneg k0, wrap64 (by omega) (by omega)]; omega
    obtain ⟨x, hx⟩ : ∃ x, x = b ++ List.replicate z 0 := ⟨_, rfl⟩
    have hxb : InB x := by rw [hx, inB_append]; exact ⟨hb, inB_zeros z⟩
    have hxl : x.length ≤ 10000 := by rw [hx, List.length_append, List.length_replicate]; omega
    have hzx := zeros_u8s b z
    rw [← hx] at hzx
    have hD := decode_fn false x (by simp) hxb (by omega)
    have hR := rdecode_fn false x hxb (by omega)
    rw [rdec_dec] at hR
    have hS := dec_small hxb
    obtain ⟨⟨m, e⟩, hm⟩ : ∃ q, q = decM x := ⟨_, rfl⟩
    rw [← hm] at hD hR hS
    have hSm := same_ms m m (by have := hS.rs; simp only at this; omega) (by have := hS.il; simp only at this; omega) (by have := hS.body; simp only at this; omega)
    rw [sameM_self] at hSm
    have hyb : InB (frB b) := by unfold frB; rw [inB_append]; exact ⟨hb, inB_ck4 _⟩
    have hyl : (frB b).length ≤ 1000 := by unfold frB; rw [List.length_append, ck4_length]; omega
    have hF := rframed_fn nb b hb (by omega)
    obtain ⟨y, hy⟩ : ∃ y, y = frB b := ⟨_, rfl⟩
    rw [← hy] at hyb hyl hF
    have hD2 := decode_fn false y (by simp) hyb (by omega)
    have hR2 := rdecode_fn false y hyb (by omega)
    rw [rdec_dec] at hR2
    have hS2 := dec_small hyb
    obtain ⟨⟨n, f⟩, hn2⟩ : ∃ q, q = decM y := ⟨_, rfl⟩
    rw [← hn2] at hD2 hR2 hS2
    have hSn := same_ms n n (by have := hS2.rs; simp only at this; omega) (by have := hS2.il; simp only at this; omega) (by have := hS2.body; simp only at this; omega)
    rw [sameM_self] at hSn
    have z1 : b.length ≤ 140737488355328 := by omega
    have z2 : b.length + z ≤ 140737488355328 := by omega
    have z3 : (z : Int) ≤ 140737488355328 := by omega
    refine Fc.of (anys _ [9, 18, 19, 20, 21]) [] mixed Try.func5 rfl (by rfl) (by simp [Try.ntmps5]) (by decide) ?_
    simp -implicitDefEqProofs -dsimp [Try.ntmps5]
    refine CallK.reads ?_
    simp -implicitDefEqProofs -dsimp
    refine CallQ.same (awake_fn) rfl ?_
    simp -implicitDefEqProofs -dsimp [hl, w1, z1, z2, z3, zerPV, grow_cons, hzx]
    refine CallK.works ?_
    simp -implicitDefEqProofs -dsimp
    refine CallQ.mk (hD) (by simp) ?_
    simp -implicitDefEqProofs -dsimp
    refine onSome_iff.2 ⟨_, if_pos (ms_plain m), ?_⟩
    simp -implicitDefEqProofs -dsimp
    refine CallK.works ?_
    simp -implicitDefEqProofs -dsimp
    refine CallQ.mk (hR) (by simp) ?_
    simp -implicitDefEqProofs -dsimp
    refine onSome_iff.2 ⟨_, if_pos (ms_plain m), ?_⟩
    simp -implicitDefEqProofs -dsimp
    refine CallK.reads ?_
    simp -implicitDefEqProofs -dsimp
    refine CallQ.same (hSm) rfl ?_
    simp -implicitDefEqProofs -dsimp
    refine CallK.fresh ?_
    simp -implicitDefEqProofs -dsimp
    refine CallQ.same (hF) rfl ?_
    simp -implicitDefEqProofs -dsimp [fr_u8s]
    refine CallK.works ?_
    simp -implicitDefEqProofs -dsimp
    refine CallQ.mk (hD2) (by simp) ?_
    simp -implicitDefEqProofs -dsimp
    refine onSome_iff.2 ⟨_, if_pos (ms_plain n), ?_⟩
    simp -implicitDefEqProofs -dsimp
    refine CallK.works ?_
    simp -implicitDefEqProofs -dsimp
    refine CallQ.mk (hR2) (by simp) ?_
    simp -implicitDefEqProofs -dsimp
    refine onSome_iff.2 ⟨_, if_pos (ms_plain n), ?_⟩
    simp -implicitDefEqProofs -dsimp
    refine CallK.reads ?_
    simp -implicitDefEqProofs -dsimp
    refine CallQ.same (hSn) rfl ?_
    simp -implicitDefEqProofs -dsimp
end Go.Proofs.Ytbialojkkhkjeaa

/-! The law FrameDecodes. -/
namespace Go.Proofs.Ytbialojkkhkjeaa
open Go.Sy
theorem decodes_law (xs : List PV) (h : ShpAll Try.prog 6 Try.f5.params.toList xs) : Fc Try.prog 5 xs [] (.lit (.bool true)) [] := by
  obtain ⟨x, y, rfl, hx, hy⟩ := shp_args2 h
  obtain ⟨n1, b, rfl, b1, -, b3⟩ := arg_ints (k := .u8) Try.underlying22 Try.underlying5 (by kernel_rfl) hx
  obtain ⟨k, rfl, hk⟩ := arg_int Try.underlying37 hy
  have := wf_u16 hk
  exact decodes_fn n1 b k b1 (fun n hn => wf_u8 (b3 n hn)) this.1 this.2
end Go.Proofs.Ytbialojkkhkjeaa
