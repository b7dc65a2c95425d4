/- Frames: what is put is read; what is read is what was put. (and what stands on it) -/
import Derived.Test.YtbialojkkhkjeaaMb

/-! Frames: what is put is read; what is read is what was put. -/
namespace Go.Sy
theorem tk_form {b : List Int} (hb : InB b) (h : (tk b).2.2 = 0) : enc (tk b).1 = b.take (tk b).2.1 ∧ 1 ≤ (tk b).2.1 ∧ (tk b).2.1 ≤ b.length ∧ (tk b).2.1 ≤ 10 := by
  obtain ⟨h1, h2, h3, h4⟩ := lead_spec 10 b
  unfold tk at h ⊢
  split at h
  · simp at h
  · split at h
    · simp at h
    · split at h
      · simp at h
      · rename_i a1 a2 a3
        have hk : lead 10 b < b.length := by omega
        have hf := (form_iff (fun x hx => hb x hx) hk (by omega) (fun i h hi => h3 i h hi) (h4 (by omega) hk)).2 (by
          rw [List.getD_eq_getElem?_getD, List.getElem?_eq_getElem hk] at a3
          simpa using a3)
        have hv := congrArg val hf
        rw [val_enc] at hv
        rw [hv] at hf
        simp only [if_neg a1, if_neg a2, if_neg a3]
        exact ⟨hf, by omega, by omega, by omega⟩

theorem lead_enc : ∀ (m n : Nat) (c : List Int), (enc n).length ≤ m → lead m (enc n ++ c) + 1 = (enc n).length
  | 0, n, c, h => absurd (enc_ne n) (by simp at h; simp [h])
  | m + 1, n, c, h => by
    by_cases hn : n < 128
    · rw [enc_lt hn, List.cons_append, lead, if_neg (by omega)]; rfl
    · rw [enc_ge (by omega)] at h ⊢
      rw [List.cons_append, lead, if_pos (by omega), lead_enc m (n / 128) c (by simp at h; omega)]; rfl
theorem tk_enc (n : Nat) (h : n < 18446744073709551616) (c : List Int) (hc : InB c) : tk (enc n ++ c) = (n, (enc n).length, 0) := by
  have hl := enc_u64 h
  have e := lead_enc 10 n c hl
  obtain ⟨h1, h2, h3, h4⟩ := lead_spec 10 (enc n ++ c)
  have hb : InB (enc n ++ c) := by rw [inB_append]; exact ⟨inB_enc n, hc⟩
  have hk : lead 10 (enc n ++ c) < (enc n ++ c).length := by simp only [List.length_append]; omega
  have ht : (enc n ++ c).take (lead 10 (enc n ++ c) + 1) = enc n := by rw [e]; simp
  have hf := (form_iff (fun x hx => hb x hx) hk (by omega) (fun i h hi => h3 i h hi) (h4 (by omega) hk)).1 (by rw [ht, val_enc, Nat.mod_eq_of_lt h])
  have hg : (enc n ++ c).getD (lead 10 (enc n ++ c)) 0 = (enc n ++ c)[lead 10 (enc n ++ c)] := by
    rw [List.getD_eq_getElem?_getD, List.getElem?_eq_getElem hk]; rfl
  unfold tk
  rw [hg, if_neg (by omega), if_neg (by omega), if_neg hf, ht, e, val_enc]

theorem num_back (nl : Bool) (n : Nat) (h : n < 18446744073709551616) (c : List Int) (hc : InB c) : WS.num ⟨nl, enc n ++ c, 0⟩ = (n, ⟨nl, c, 0⟩) := by
  simp [WS.num, tk_enc n h c hc]

theorem numB_nat' {n : Nat} (h : n < 18446744073709551616) : numB (n : Int) = enc n := by
  unfold numB
  rw [wrap_is_u64]; congr 1; omega
theorem inB_rgF (r : Rg) : InB (rgF r) := by
  simp only [rgF, inB_append]
  exact ⟨⟨⟨inB_txB _, inB_txB _⟩, inB_numB _⟩, inB_txB _⟩
theorem idB_size {x : ByteArray} {n : Bool} (h : idB x n = true) : x.size ≤ 32 := by
  simp only [idB, Bool.or_eq_true, Bool.and_eq_true, decide_eq_true_eq] at h
  rcases h with h | ⟨_, h⟩
  · omega
  · rw [h]; decide
theorem span_in {r : Rg} (h : spanB r = true) : r.lo.size ≤ 32 ∧ r.hi.size ≤ 32 ∧ r.mark.size ≤ 32 ∧ 0 ≤ r.many ∧ r.many ≤ 1099511627776 := by
  simp only [spanB, Bool.and_eq_true, decide_eq_true_eq] at h
  exact ⟨idB_size h.1, idB_size h.2.1, idB_size h.2.2.1, h.2.2.2.1, h.2.2.2.2⟩
theorem text_enc (nl : Bool) (x c : List Int) (l : Int) (hx : (x.length : Int) ≤ l) (hx2 : x.length ≤ 1000000) (hb : InB x) (hc : InB c) : WS.text ⟨nl, enc x.length ++ x ++ c, 0⟩ l = ((false, x), ⟨nl, c, 0⟩) := by
  have ht := tk_enc x.length (by omega) (x ++ c) (by rw [inB_append]; exact ⟨hb, hc⟩)
  rw [← List.append_assoc] at ht
  have hl : (enc x.length ++ x ++ c).length = (enc x.length).length + x.length + c.length := by simp; omega
  unfold WS.text
  simp only [ht]
  rw [if_neg (by simp), if_neg (by simp), if_neg (by omega), if_neg (by omega)]
  have e1 : ((enc x.length ++ x ++ c).drop (enc x.length).length).take x.length = x := by rw [List.append_assoc, List.drop_left, List.take_left]
  have e2 : (enc x.length ++ x ++ c).drop ((enc x.length).length + x.length) = c := by
    rw [← List.length_append, List.drop_left]
  rw [e1, e2]
theorem id_txB (nl : Bool) (x : ByteArray) (c : List Int) (hx : x.size ≤ 32) (hc : InB c) : (WS.mk nl (txB x ++ c) 0).id = x ∧ (WS.mk nl (txB x ++ c) 0).id2 = ⟨nl, c, 0⟩ := by
  have hl := bs_length x
  have h := text_enc nl (bs x) c 32 (by omega) (by omega) (inB_bs x) hc
  rw [hl] at h
  have e : txB x ++ c = enc x.size ++ bs x ++ c := rfl
  unfold WS.id WS.id2
  rw [e, h]
  exact ⟨ofBs_bs x, rfl⟩
theorem many_enc (nl : Bool) (n : Nat) (c : List Int) (l : Int) (hn : (n : Int) ≤ l) (h : n < 18446744073709551616) (hc : InB c) : (WS.mk nl (enc n ++ c) 0).many l = n ∧ (WS.mk nl (enc n ++ c) 0).num.2 = ⟨nl, c, 0⟩ := by
  have e := num_back nl n h c hc
  unfold WS.many
  rw [e]
  exact ⟨by show min (n : Int) (l + 1) = n; omega, rfl⟩
theorem readIds_back (nl : Bool) : ∀ (l : List ByteArray) (c : List Int), (∀ p, p ∈ l → p.size ≤ 32) → InB c → readIds l.length ⟨nl, l.flatMap txB ++ c, 0⟩ = (l, ⟨nl, c, 0⟩)
  | [], c, _, _ => rfl
  | p :: l, c, h, hc => by
    have hi : InB (l.flatMap txB ++ c) := by rw [inB_append]; exact ⟨inB_flat inB_txB l, hc⟩
    obtain ⟨e1, e2⟩ := id_txB nl p (l.flatMap txB ++ c) (h p (by simp)) hi
    have e : (p :: l).flatMap txB ++ c = txB p ++ (l.flatMap txB ++ c) := by simp
    rw [e, List.length_cons, readIds, if_pos rfl, e1, e2, readIds_back nl l c (fun q hq => h q (by simp [hq])) hc]
theorem rg_back (nl : Bool) (r : Rg) (c : List Int) (h1 : r.lo.size ≤ 32) (h2 : r.hi.size ≤ 32) (h3 : r.mark.size ≤ 32) (h4 : 0 ≤ r.many) (h5 : r.many ≤ 1099511627776) (hc : InB c) :
    (WS.mk nl (rgF r ++ c) 0).rg = r ∧ (WS.mk nl (rgF r ++ c) 0).rg2 = ⟨nl, c, 0⟩ := by
  obtain ⟨n, hn⟩ := Int.eq_ofNat_of_zero_le h4
  have hnum : numB r.many = enc n := by rw [hn, numB_nat' (by omega)]
  have c3 : InB (txB r.mark ++ c) := by rw [inB_append]; exact ⟨inB_txB _, hc⟩
  have c2 : InB (enc n ++ (txB r.mark ++ c)) := by rw [inB_append]; exact ⟨inB_enc _, c3⟩
  have c1 : InB (txB r.hi ++ (enc n ++ (txB r.mark ++ c))) := by rw [inB_append]; exact ⟨inB_txB _, c2⟩
  have e : rgF r ++ c = txB r.lo ++ (txB r.hi ++ (enc n ++ (txB r.mark ++ c))) := by simp [rgF, hnum]
  obtain ⟨a1, a2⟩ := id_txB nl r.lo _ h1 c1
  obtain ⟨b1, b2⟩ := id_txB nl r.hi _ h2 c2
  obtain ⟨d1, d2⟩ := many_enc nl n (txB r.mark ++ c) 1099511627776 (by omega) (by omega) c3
  obtain ⟨f1, f2⟩ := id_txB nl r.mark c h3 hc
  unfold WS.rg WS.rg2
  rw [e, a1, a2, b1, b2, d1, d2, f1, f2, ← hn]
  exact ⟨rfl, rfl⟩
theorem readRgs_back (nl : Bool) : ∀ (l : List Rg) (c : List Int), (∀ r, r ∈ l → spanB r = true) → InB c → readRgs l.length ⟨nl, l.flatMap rgF ++ c, 0⟩ = (l, ⟨nl, c, 0⟩)
  | [], c, _, _ => rfl
  | r :: l, c, h, hc => by
    have hi : InB (l.flatMap rgF ++ c) := by rw [inB_append]; exact ⟨inB_flat inB_rgF l, hc⟩
    obtain ⟨z1, z2, z3, z4, z5⟩ := span_in (h r (by simp))
    obtain ⟨e1, e2⟩ := rg_back nl r (l.flatMap rgF ++ c) z1 z2 z3 z4 z5 hi
    have e : (r :: l).flatMap rgF ++ c = rgF r ++ (l.flatMap rgF ++ c) := by simp
    rw [e, List.length_cons, readRgs, if_pos rfl, e1, e2, readRgs_back nl l c (fun q hq => h q (by simp [hq])) hc]
end Go.Sy

/-! Frames: what is encoded is decoded. -/
namespace Go.Proofs.Ytbialojkkhkjeaa
open Go.Sy
theorem chk_fr (f : List Int) (h1 : 1 ≤ f.length) (h2 : f.length ≤ 4092) : chkM (frB f) = ((false, f), 0) := by
  have hl : (frB f).length = f.length + 4 := by simp [frB]
  have e : (frB f).length - 4 = f.length := by omega
  unfold chkM
  rw [if_neg (by omega), if_neg (by omega), e]
  have e1 : (frB f).take f.length = f := by simp [frB]
  have e2 : (frB f).drop f.length = ck4 (crc f) := by simp [frB]
  rw [e1, e2, if_pos rfl]
theorem same_iff {a b : Ms} : sameM a b = true ↔ a.kind = b.kind ∧ a.rs = b.rs ∧ a.lo = b.lo ∧ a.hi = b.hi ∧ a.ids = b.ids ∧ a.bundle = b.bundle ∧ a.index = b.index ∧ a.many = b.many ∧ a.body = b.body := by
  simp [sameM]
theorem right_same {a b : Ms} (h : sameM a b = true) : rightB a = rightB b := by
  obtain ⟨h1, h2, h3, h4, h5, h6, h7, h8, h9⟩ := same_iff.1 h
  unfold rightB emptyB
  rw [h1, h2, h3, h4, h5, h6, h7, h8, h9]
/-- What a right message has: by its kind. -/
theorem right_1 {m : Ms} (h : rightB m = true) (k : m.kind = 1) : (1 ≤ m.rs.length ∧ m.rs.length ≤ 2 ∧ (∀ r, r ∈ m.rs → spanB r = true)) ∧ m.lo = ⟨#[]⟩ ∧ m.hi = ⟨#[]⟩ ∧ m.ids = [] ∧ m.bundle = ⟨#[]⟩ ∧ m.index = 0 ∧ m.many = 0 ∧ m.body = [] := by
  rw [rightB, if_pos k] at h
  simp only [emptyB, Bool.true_or, Bool.false_or, Bool.true_and, Bool.and_eq_true, decide_eq_true_eq, List.all_eq_true] at h
  obtain ⟨⟨⟨a1, a2⟩, a3, a4, a5, a6, a7⟩, b1, b2, b3⟩ := h
  exact ⟨⟨by omega, by omega, b3⟩, a1, a2, a3, a4, a5, a6, a7⟩
theorem ids_in {l : List ByteArray} {n : Int} (h : idsB l n = true) : (∀ p, p ∈ l → p.size = 32) ∧ l.length ≤ 64 := by
  simp only [idsB, Bool.and_eq_true, decide_eq_true_eq] at h
  refine ⟨fun p hp => ?_, by omega⟩
  obtain ⟨i, hi, rfl⟩ := List.getElem_of_mem hp
  have := List.all_eq_true.1 h.1 i (by simpa using hi)
  simp only [upAt, Bool.and_eq_true, decide_eq_true_eq] at this
  have h1 := this.1
  rw [List.getD_eq_getElem?_getD, List.getElem?_eq_getElem hi] at h1
  exact h1
theorem right_2 {m : Ms} (h : rightB m = true) (k : m.kind = 2) : (m.lo.size ≤ 32 ∧ m.hi.size ≤ 32 ∧ idsB m.ids 0 = true) ∧ m.rs = [] ∧ m.bundle = ⟨#[]⟩ ∧ m.index = 0 ∧ m.many = 0 ∧ m.body = [] := by
  rw [rightB, if_neg (by omega), if_pos k] at h
  simp only [emptyB, Bool.true_or, Bool.false_or, Bool.true_and, Bool.and_eq_true, decide_eq_true_eq] at h
  obtain ⟨⟨a1, a4, a5, a6, a7⟩, b1, b2, b3⟩ := h
  exact ⟨⟨idB_size b1, idB_size b2, b3⟩, a1, a4, a5, a6, a7⟩
theorem right_3 {m : Ms} (h : rightB m = true) (k : m.kind = 3) : idsB m.ids 1 = true ∧ m.rs = [] ∧ m.lo = ⟨#[]⟩ ∧ m.hi = ⟨#[]⟩ ∧ m.bundle = ⟨#[]⟩ ∧ m.index = 0 ∧ m.many = 0 ∧ m.body = [] := by
  rw [rightB, if_neg (by omega), if_neg (by omega), if_pos k] at h
  simp only [emptyB, Bool.true_or, Bool.false_or, Bool.true_and, Bool.and_eq_true, decide_eq_true_eq] at h
  obtain ⟨⟨a1, ⟨a2, a3⟩, a4, a5, a6, a7⟩, b1⟩ := h
  exact ⟨b1, a1, a2, a3, a4, a5, a6, a7⟩
theorem right_4 {m : Ms} (h : rightB m = true) (k : m.kind = 4) : (m.bundle.size ≤ 32 ∧ 1 ≤ m.many ∧ m.many ≤ 16384 ∧ 0 ≤ m.index ∧ m.index < m.many ∧ 1 ≤ m.body.length ∧ m.body.length ≤ 1024) ∧ m.rs = [] ∧ m.lo = ⟨#[]⟩ ∧ m.hi = ⟨#[]⟩ ∧ m.ids = [] := by
  rw [rightB, if_neg (by omega), if_neg (by omega), if_neg (by omega), if_pos k] at h
  simp only [emptyB, Bool.true_or, Bool.false_or, Bool.and_true, Bool.and_eq_true, decide_eq_true_eq] at h
  obtain ⟨⟨a1, ⟨a2, a3⟩, a4⟩, b1, b2, b3, b4, b5, b6, b7⟩ := h
  exact ⟨⟨idB_size b1, b2, b3, b4, b5, by omega, by omega⟩, a1, a2, a3, a4⟩
theorem right_kd {m : Ms} (h : rightB m = true) : m.kind = 1 ∨ m.kind = 2 ∨ m.kind = 3 ∨ m.kind = 4 := by
  unfold rightB at h
  split at h
  · exact .inl ‹_›
  · split at h
    · exact .inr (.inl ‹_›)
    · split at h
      · exact .inr (.inr (.inl ‹_›))
      · split at h
        · exact .inr (.inr (.inr ‹_›))
        · cases h
theorem txB_short {x : ByteArray} (h : x.size ≤ 32) : (txB x).length ≤ 33 := by
  have := bs_length x
  rw [txB, List.length_append, enc_lt (by omega)]
  simp only [List.length_cons, List.length_nil]; omega
theorem form_short {m : Ms} (h : rightB m = true) : 1 ≤ (formM m).length ∧ (formM m).length ≤ 4092 := by
  have e0 : 1 ≤ (numB m.kind).length := List.length_pos_iff.2 (enc_ne _)
  have a0 := numB_length m.kind
  unfold formM
  rw [List.length_append]
  refine ⟨by omega, ?_⟩
  rcases right_kd h with k | k | k | k
  · obtain ⟨⟨b1, b2, b3⟩, -⟩ := right_1 h k
    have a1 := numB_length m.rs.length
    have a2 := flat_length rgF 109 m.rs fun r hr => by
      obtain ⟨z1, z2, z3, -⟩ := span_in (b3 r hr)
      have q1 := txB_short z1
      have q2 := txB_short z2
      have q3 := txB_short z3
      have q4 := numB_length r.many
      simp only [rgF, List.length_append]; omega
    rw [if_pos k, List.length_append]; omega
  · obtain ⟨⟨b1, b2, b3⟩, -⟩ := right_2 h k
    obtain ⟨c1, c2⟩ := ids_in b3
    have q1 := txB_short b1
    have q2 := txB_short b2
    have a2 := flat_length txB 33 m.ids fun p hp => txB_short (by rw [c1 p hp]; exact Nat.le_refl _)
    have a6 := enc_u64 (n := m.ids.length) (by omega)
    rw [if_neg (by omega), if_pos k]
    simp only [idsF, List.length_append]; omega
  · obtain ⟨b3, -⟩ := right_3 h k
    obtain ⟨c1, c2⟩ := ids_in b3
    have a2 := flat_length txB 33 m.ids fun p hp => txB_short (by rw [c1 p hp]; exact Nat.le_refl _)
    have a6 := enc_u64 (n := m.ids.length) (by omega)
    rw [if_neg (by omega), if_neg (by omega), if_pos k]
    simp only [idsF, List.length_append]; omega
  · obtain ⟨⟨b1, b2, b3, b4, b5, b6, b7⟩, -⟩ := right_4 h k
    have q1 := txB_short b1
    have a1 := numB_length m.index
    have a2 := numB_length m.many
    have a6 := enc_u64 (n := m.body.length) (by omega)
    rw [if_neg (by omega), if_neg (by omega), if_neg (by omega)]
    simp only [List.length_append]; omega
theorem fin_end (nl : Bool) : (WS.mk nl [] 0).fin = 0 := by simp [WS.fin]
theorem knd_right {m m' : Ms} {u : WS} (h : rightB m = true) (hs : sameM m m' = true) (hu : u = ⟨false, [], 0⟩) : finM (m', u) = (m', 0) := by
  unfold finM
  rw [hu]
  show (if (WS.mk false [] 0).fin ≠ 0 then _ else _) = _
  rw [fin_end, if_neg (by simp), if_pos (by rw [← right_same hs]; exact h)]
/-- A right message's frame is that message. -/
theorem dec_enc {m : Ms} (h : rightB m = true) (hb : InB m.body) : (decM (frB (formM m))).2 = 0 ∧ sameM m (decM (frB (formM m))).1 = true := by
  obtain ⟨l1, l2⟩ := form_short h
  have hc := chk_fr (formM m) l1 l2
  have hin := inB_formM hb
  have key : ∀ (k : Nat) (rest : List Int) (p : Ms × WS), k ≤ 4 → formM m = enc k ++ rest → InB rest → kndM k ⟨false, rest, 0⟩ = finM p → sameM m p.1 = true → p.2 = ⟨false, [], 0⟩ → (decM (frB (formM m))).2 = 0 ∧ sameM m (decM (frB (formM m))).1 = true := by
    intro k rest p hk hf hr hkn hs hp
    have e1 := many_enc false k rest 4 (by omega) (by omega) hr
    have : decM (frB (formM m)) = (p.1, 0) := by
      unfold decM
      rw [hc]
      show (if (0 : Int) ≠ 0 then _ else kndM ((WS.mk false (formM m) 0).many 4) (WS.mk false (formM m) 0).num.2) = _
      rw [if_neg (by simp), hf, e1.1, e1.2, hkn]
      exact knd_right h hs hp
    rw [this]
    exact ⟨rfl, hs⟩
  rcases right_kd h with k | k | k | k
  · obtain ⟨⟨b1, b2, b3⟩, a1, a2, a3, a4, a5, a6, a7⟩ := right_1 h k
    have hk : numB m.kind = enc 1 := by rw [k]; exact numB_nat' (n := 1) (by decide)
    have hn : numB (m.rs.length : Int) = enc m.rs.length := numB_nat' (by omega)
    have hi : InB (m.rs.flatMap rgF) := inB_flat inB_rgF _
    have e1 := many_enc false m.rs.length (m.rs.flatMap rgF) 2 (by omega) (by omega) hi
    have e2 := readRgs_back false m.rs [] b3 (by simp)
    rw [List.append_nil] at e2
    have hrd : rdSums 1 ⟨false, enc m.rs.length ++ m.rs.flatMap rgF, 0⟩ = ({ zms 1 with nr := m.rs.isEmpty, rs := m.rs }, ⟨false, [], 0⟩) := by
      unfold rdSums
      rw [e1.1, e1.2, Int.toNat_natCast, e2]
    refine key 1 (enc m.rs.length ++ m.rs.flatMap rgF) (rdSums 1 ⟨false, enc m.rs.length ++ m.rs.flatMap rgF, 0⟩) (by decide) ?_ (by rw [inB_append]; exact ⟨inB_enc _, hi⟩) (by rw [kndM, if_pos (by rfl)]) ?_ (by rw [hrd])
    · rw [formM, if_pos k, hk, hn]
    · rw [hrd, same_iff]
      exact ⟨k, rfl, a1, a2, a3, a4, a5, a6, a7⟩
  · obtain ⟨⟨b1, b2, b3⟩, a1, a4, a5, a6, a7⟩ := right_2 h k
    obtain ⟨c1, c2⟩ := ids_in b3
    have hk : numB m.kind = enc 2 := by rw [k]; exact numB_nat' (n := 2) (by decide)
    have hi : InB (m.ids.flatMap txB) := inB_flat inB_txB _
    have hi2 : InB (idsF m.ids) := by unfold idsF; rw [inB_append]; exact ⟨inB_enc _, hi⟩
    have hi3 : InB (txB m.hi ++ idsF m.ids) := by rw [inB_append]; exact ⟨inB_txB _, hi2⟩
    obtain ⟨d1, d2⟩ := id_txB false m.lo (txB m.hi ++ idsF m.ids) b1 hi3
    obtain ⟨d3, d4⟩ := id_txB false m.hi (idsF m.ids) b2 hi2
    have e1 := many_enc false m.ids.length (m.ids.flatMap txB) 64 (by omega) (by omega) hi
    have e2 := readIds_back false m.ids [] (fun p hp => by rw [c1 p hp]; exact Nat.le_refl _) (by simp)
    rw [List.append_nil] at e2
    have hr2 : rdIds ⟨false, idsF m.ids, 0⟩ = (m.ids, ⟨false, [], 0⟩) := by
      unfold rdIds
      rw [show (WS.mk false (idsF m.ids) 0) = ⟨false, enc m.ids.length ++ m.ids.flatMap txB, 0⟩ from rfl, e1.1, e1.2, Int.toNat_natCast, e2]
    have hrd : rdList 2 ⟨false, txB m.lo ++ (txB m.hi ++ idsF m.ids), 0⟩ = ({ zms 2 with lo := m.lo, hi := m.hi, ni := m.ids.isEmpty, ids := m.ids }, ⟨false, [], 0⟩) := by
      unfold rdList
      rw [d1, d2, d3, d4, hr2]
    refine key 2 (txB m.lo ++ (txB m.hi ++ idsF m.ids)) (rdList 2 ⟨false, txB m.lo ++ (txB m.hi ++ idsF m.ids), 0⟩) (by decide) ?_ (by rw [inB_append]; exact ⟨inB_txB _, hi3⟩) (by rw [kndM, if_neg (by decide), if_pos (by rfl)]) ?_ (by rw [hrd])
    · rw [formM, if_neg (by omega), if_pos k, hk]; simp
    · rw [hrd, same_iff]
      exact ⟨k, a1, rfl, rfl, rfl, a4, a5, a6, a7⟩
  · obtain ⟨b3, a1, a2, a3, a4, a5, a6, a7⟩ := right_3 h k
    obtain ⟨c1, c2⟩ := ids_in b3
    have hk : numB m.kind = enc 3 := by rw [k]; exact numB_nat' (n := 3) (by decide)
    have hi : InB (m.ids.flatMap txB) := inB_flat inB_txB _
    have hi2 : InB (idsF m.ids) := by unfold idsF; rw [inB_append]; exact ⟨inB_enc _, hi⟩
    have e1 := many_enc false m.ids.length (m.ids.flatMap txB) 64 (by omega) (by omega) hi
    have e2 := readIds_back false m.ids [] (fun p hp => by rw [c1 p hp]; exact Nat.le_refl _) (by simp)
    rw [List.append_nil] at e2
    have hr2 : rdIds ⟨false, idsF m.ids, 0⟩ = (m.ids, ⟨false, [], 0⟩) := by
      unfold rdIds
      rw [show (WS.mk false (idsF m.ids) 0) = ⟨false, enc m.ids.length ++ m.ids.flatMap txB, 0⟩ from rfl, e1.1, e1.2, Int.toNat_natCast, e2]
    have hrd : rdWant 3 ⟨false, idsF m.ids, 0⟩ = ({ zms 3 with ni := m.ids.isEmpty, ids := m.ids }, ⟨false, [], 0⟩) := by
      unfold rdWant
      rw [hr2]
    refine key 3 (idsF m.ids) (rdWant 3 ⟨false, idsF m.ids, 0⟩) (by decide) ?_ hi2 (by rw [kndM, if_neg (by decide), if_neg (by decide), if_pos (by rfl)]) ?_ (by rw [hrd])
    · rw [formM, if_neg (by omega), if_neg (by omega), if_pos k, hk]
    · rw [hrd, same_iff]
      exact ⟨k, a1, a2, a3, rfl, a4, a5, a6, a7⟩
  · obtain ⟨⟨b1, b2, b3, b4, b5, b6, b7⟩, a1, a2, a3, a4⟩ := right_4 h k
    have hk : numB m.kind = enc 4 := by rw [k]; exact numB_nat' (n := 4) (by decide)
    obtain ⟨ix, hix⟩ := Int.eq_ofNat_of_zero_le b4
    obtain ⟨mn, hmn⟩ := Int.eq_ofNat_of_zero_le (show 0 ≤ m.many by omega)
    have n1 : numB m.index = enc ix := by rw [hix]; exact numB_nat' (by omega)
    have n2 : numB m.many = enc mn := by rw [hmn]; exact numB_nat' (by omega)
    have i4 : InB (enc m.body.length ++ m.body) := by rw [inB_append]; exact ⟨inB_enc _, hb⟩
    have i3 : InB (enc mn ++ (enc m.body.length ++ m.body)) := by rw [inB_append]; exact ⟨inB_enc _, i4⟩
    have i2 : InB (enc ix ++ (enc mn ++ (enc m.body.length ++ m.body))) := by rw [inB_append]; exact ⟨inB_enc _, i3⟩
    obtain ⟨d1, d2⟩ := id_txB false m.bundle (enc ix ++ (enc mn ++ (enc m.body.length ++ m.body))) b1 i2
    obtain ⟨d3, d4⟩ := many_enc false ix (enc mn ++ (enc m.body.length ++ m.body)) 16384 (by omega) (by omega) i3
    obtain ⟨d5, d6⟩ := many_enc false mn (enc m.body.length ++ m.body) 16384 (by omega) (by omega) i4
    have d7 := text_enc false m.body [] 1024 (by omega) (by omega) hb (by simp)
    rw [List.append_nil] at d7
    have hrd : rdPart 4 ⟨false, txB m.bundle ++ (enc ix ++ (enc mn ++ (enc m.body.length ++ m.body))), 0⟩ = ({ zms 4 with bundle := m.bundle, index := m.index, many := m.many, nb := false, body := m.body }, ⟨false, [], 0⟩) := by
      unfold rdPart
      rw [d1, d2, d3, d4, d5, d6, d7, ← hix, ← hmn]
    refine key 4 (txB m.bundle ++ (enc ix ++ (enc mn ++ (enc m.body.length ++ m.body)))) (rdPart 4 ⟨false, txB m.bundle ++ (enc ix ++ (enc mn ++ (enc m.body.length ++ m.body))), 0⟩) (by decide) ?_ (by rw [inB_append]; exact ⟨inB_txB _, i2⟩) (by rw [kndM, if_neg (by decide), if_neg (by decide), if_neg (by decide), if_pos (by rfl)]) ?_ (by rw [hrd])
    · rw [formM, if_neg (by omega), if_neg (by omega), if_neg (by omega), hk, n1, n2]; simp
    · rw [hrd, same_iff]
      exact ⟨k, a1, a2, a3, a4, rfl, rfl, rfl, rfl⟩
end Go.Proofs.Ytbialojkkhkjeaa

/-! Frames: what is decoded, encoded, is the frame again. -/
namespace Go.Sy
theorem num_inv {s : WS} (h : s.Ok) (hf : s.num.2.fail = 0) : s.fail = 0 ∧ s.b = enc s.num.1 ++ s.num.2.b := by
  unfold WS.num at *
  split at hf
  · exact absurd hf ‹_›
  · rename_i h0
    split at hf
    · rename_i h1; exact absurd hf h1
    · rename_i h1
      rw [if_neg h0, if_neg h1]
      have := (tk_form h.bytes (by simpa using h1)).1
      exact ⟨by simpa using h0, by rw [this, List.take_append_drop]⟩
theorem text_inv {s : WS} (h : s.Ok) {l : Int} (hf : (s.text l).2.fail = 0) : s.fail = 0 ∧ s.b = enc (s.text l).1.2.length ++ (s.text l).1.2 ++ (s.text l).2.b := by
  unfold WS.text at *
  split at hf
  · exact absurd hf ‹_›
  · rename_i h0
    split at hf
    · rename_i h1; exact absurd hf h1
    · rename_i h1
      split at hf
      · exact absurd (show (4 : Int) = 0 from hf) (by decide)
      · rename_i h2
        split at hf
        · exact absurd (show (2 : Int) = 0 from hf) (by decide)
        · rename_i h3
          rw [if_neg h0, if_neg h1, if_neg h2, if_neg h3]
          obtain ⟨e1, e2, e3, e4⟩ := tk_form h.bytes (by simpa using h1)
          refine ⟨by simpa using h0, ?_⟩
          have hl : ((s.b.drop (tk s.b).2.1).take (tk s.b).1).length = (tk s.b).1 := by simp; omega
          simp only
          rw [hl, e1, ← List.drop_drop, List.append_assoc, List.take_append_drop, List.take_append_drop]
theorem txB_ofBs {x : List Int} (h : InB x) : txB (ofBs x) = enc x.length ++ x := by
  have e := bs_ofBs h
  have hl := bs_length (ofBs x)
  rw [e] at hl
  rw [txB, e, ← hl]
theorem id_inv {s : WS} (h : s.Ok) (hf : s.id2.fail = 0) : s.fail = 0 ∧ s.b = txB s.id ++ s.id2.b := by
  obtain ⟨h1, h2⟩ := text_inv h hf
  refine ⟨h1, ?_⟩
  unfold WS.id
  rw [txB_ofBs (WS.text_in h 32)]
  exact h2
theorem many_inv {s : WS} (h : s.Ok) {l : Int} (hl : s.many l ≤ l) (hf : s.num.2.fail = 0) : s.fail = 0 ∧ s.b = numB (s.many l) ++ s.num.2.b := by
  obtain ⟨h1, h2⟩ := num_inv h hf
  have hlt := num_lt h
  have e : s.many l = (s.num.1 : Int) := by unfold WS.many at *; omega
  rw [e, numB_nat' hlt]
  exact ⟨h1, h2⟩
theorem readIds_inv : ∀ (n : Nat) {s : WS}, s.Ok → (readIds n s).2.fail = 0 → s.fail = 0 ∧ s.b = (readIds n s).1.flatMap txB ++ (readIds n s).2.b ∧ (readIds n s).1.length = n
  | 0, s, _, hf => ⟨hf, rfl, rfl⟩
  | n + 1, s, h, hf => by
    unfold readIds at *
    by_cases h0 : s.fail = 0
    · rw [if_pos h0] at hf ⊢
      obtain ⟨a1, a2, a3⟩ := readIds_inv n (WS.id_ok h) hf
      obtain ⟨b1, b2⟩ := id_inv h a1
      refine ⟨h0, ?_, by simp [a3]⟩
      rw [b2, a2]; simp
    · rw [if_neg h0] at hf
      exact absurd hf h0
theorem rg_inv {s : WS} (h : s.Ok) (hs : spanB s.rg = true) (hf : s.rg2.fail = 0) : s.fail = 0 ∧ s.b = rgF s.rg ++ s.rg2.b := by
  have o1 := WS.id_ok h
  have o2 := WS.id_ok o1
  have o3 := WS.num_ok o2
  obtain ⟨a1, a2⟩ := id_inv o3 hf
  obtain ⟨b1, b2⟩ := many_inv o2 (span_in hs).2.2.2.2 a1
  obtain ⟨c1, c2⟩ := id_inv o1 b1
  obtain ⟨d1, d2⟩ := id_inv h c1
  refine ⟨d1, ?_⟩
  rw [d2, c2, b2, a2]
  simp [rgF, WS.rg, WS.rg2]
theorem readRgs_inv : ∀ (n : Nat) {s : WS}, s.Ok → (readRgs n s).2.fail = 0 → (∀ r, r ∈ (readRgs n s).1 → spanB r = true) → s.fail = 0 ∧ s.b = (readRgs n s).1.flatMap rgF ++ (readRgs n s).2.b ∧ (readRgs n s).1.length = n
  | 0, s, _, hf, _ => ⟨hf, rfl, rfl⟩
  | n + 1, s, h, hf, hs => by
    unfold readRgs at *
    by_cases h0 : s.fail = 0
    · rw [if_pos h0] at hf hs ⊢
      obtain ⟨a1, a2, a3⟩ := readRgs_inv n (WS.rg_ok h) hf fun r hr => hs r (by simp [hr])
      obtain ⟨b1, b2⟩ := rg_inv h (hs s.rg (by simp)) a1
      refine ⟨h0, ?_, by simp [a3]⟩
      rw [b2, a2]; simp
    · rw [if_neg h0] at hf
      exact absurd hf h0
theorem fin_inv {u : WS} (h : u.fin = 0) : u.fail = 0 ∧ u.b = [] := by
  unfold WS.fin at h
  split at h
  · exact absurd h (by decide)
  · rename_i h1
    refine ⟨h, ?_⟩
    rcases Nat.eq_zero_or_pos u.b.length with h2 | h2
    · exact List.eq_nil_of_length_eq_zero h2
    · exact absurd ⟨h, h2⟩ h1
theorem finM_inv {p : Ms × WS} (h : (finM p).2 = 0) : finM p = (p.1, 0) ∧ rightB p.1 = true ∧ p.2.fail = 0 ∧ p.2.b = [] := by
  unfold finM at *
  split at h
  · exact absurd h (by decide)
  · rename_i h1
    split at h
    · rename_i h2
      rw [if_neg h1, if_pos h2]
      obtain ⟨a, b⟩ := fin_inv (by simpa using h1)
      exact ⟨rfl, h2, a, b⟩
    · exact absurd h (by decide)
theorem kndM_inv {k : Int} {s : WS} (hs : s.Ok) (hb : InB s.b) (h : (kndM k s).2 = 0) : rightB (kndM k s).1 = true ∧ (kndM k s).1.kind = k ∧ (1 ≤ k ∧ k ≤ 4) ∧ s.fail = 0 ∧ numB k ++ s.b = formM (kndM k s).1 ∧ InB (kndM k s).1.body := by
  unfold kndM at *
  by_cases k1 : k = 1
  · subst k1
    rw [if_pos rfl] at h ⊢
    obtain ⟨e, r, f, z⟩ := finM_inv h
    rw [e]
    obtain ⟨⟨b1, b2, b3⟩, -⟩ := Go.Proofs.Ytbialojkkhkjeaa.right_1 r rfl
    have ok2 := WS.num_ok hs
    obtain ⟨c1, c2, c3⟩ := readRgs_inv _ ok2 f b3
    have hm := many_in hs (l := 2) (by decide)
    have hlen : ((rdSums 1 s).1.rs.length : Int) = s.many 2 := by
      show ((readRgs (s.many 2).toNat s.num.2).1.length : Int) = _
      rw [c3]; omega
    obtain ⟨d1, d2⟩ := many_inv hs (l := 2) (by omega) c1
    refine ⟨r, rfl, by omega, d1, ?_, by show InB []; simp⟩
    show numB 1 ++ s.b = numB 1 ++ (numB ((rdSums 1 s).1.rs.length : Int) ++ (rdSums 1 s).1.rs.flatMap rgF)
    rw [hlen, d2, c2]
    have : (readRgs (s.many 2).toNat s.num.2).2.b = [] := z
    rw [this]; simp [rdSums]
  · rw [if_neg k1] at h ⊢
    by_cases k2 : k = 2
    · subst k2
      rw [if_pos rfl] at h ⊢
      obtain ⟨e, r, f, z⟩ := finM_inv h
      rw [e]
      obtain ⟨⟨b1, b2, b3⟩, -⟩ := Go.Proofs.Ytbialojkkhkjeaa.right_2 r rfl
      have b4 := Go.Proofs.Ytbialojkkhkjeaa.ids_in b3
      have o1 := WS.id_ok hs
      have o2 := WS.id_ok o1
      obtain ⟨c1, c2, c3⟩ := readIds_inv _ (WS.num_ok o2) f
      have hm := many_in o2 (l := 64) (by decide)
      have hlen : ((rdList 2 s).1.ids.length : Int) = s.id2.id2.many 64 := by
        show ((readIds (s.id2.id2.many 64).toNat s.id2.id2.num.2).1.length : Int) = _
        rw [c3]; omega
      obtain ⟨d1, d2⟩ := many_inv o2 (l := 64) (by omega) c1
      obtain ⟨e1, e2⟩ := id_inv o1 d1
      obtain ⟨f1, f2⟩ := id_inv hs e1
      refine ⟨r, rfl, by omega, f1, ?_, by show InB []; simp⟩
      have hn : enc (rdList 2 s).1.ids.length = numB (s.id2.id2.many 64) := by rw [← hlen, numB_nat' (by omega)]
      show numB 2 ++ s.b = numB 2 ++ (txB s.id ++ txB s.id2.id ++ (enc (rdList 2 s).1.ids.length ++ (rdList 2 s).1.ids.flatMap txB))
      rw [hn, f2, e2, d2, c2]
      have : (readIds (s.id2.id2.many 64).toNat s.id2.id2.num.2).2.b = [] := z
      rw [this]; simp [rdList, rdIds]
    · rw [if_neg k2] at h ⊢
      by_cases k3 : k = 3
      · subst k3
        rw [if_pos rfl] at h ⊢
        obtain ⟨e, r, f, z⟩ := finM_inv h
        rw [e]
        obtain ⟨b3, -⟩ := Go.Proofs.Ytbialojkkhkjeaa.right_3 r rfl
        have b4 := Go.Proofs.Ytbialojkkhkjeaa.ids_in b3
        obtain ⟨c1, c2, c3⟩ := readIds_inv _ (WS.num_ok hs) f
        have hm := many_in hs (l := 64) (by decide)
        have hlen : ((rdWant 3 s).1.ids.length : Int) = s.many 64 := by
          show ((readIds (s.many 64).toNat s.num.2).1.length : Int) = _
          rw [c3]; omega
        obtain ⟨d1, d2⟩ := many_inv hs (l := 64) (by omega) c1
        refine ⟨r, rfl, by omega, d1, ?_, by show InB []; simp⟩
        have hn : enc (rdWant 3 s).1.ids.length = numB (s.many 64) := by rw [← hlen, numB_nat' (by omega)]
        show numB 3 ++ s.b = numB 3 ++ (enc (rdWant 3 s).1.ids.length ++ (rdWant 3 s).1.ids.flatMap txB)
        rw [hn, d2, c2]
        have : (readIds (s.many 64).toNat s.num.2).2.b = [] := z
        rw [this]; simp [rdWant, rdIds]
      · rw [if_neg k3] at h ⊢
        by_cases k4 : k = 4
        · subst k4
          rw [if_pos rfl] at h ⊢
          obtain ⟨e, r, f, z⟩ := finM_inv h
          rw [e]
          obtain ⟨⟨b1, b2, b3, b4, b5, b6, b7⟩, -⟩ := Go.Proofs.Ytbialojkkhkjeaa.right_4 r rfl
          have o1 := WS.id_ok hs
          have o2 := WS.num_ok o1
          have o3 := WS.num_ok o2
          obtain ⟨c1, c2⟩ := text_inv o3 f
          obtain ⟨d1, d2⟩ := many_inv o2 (l := 16384) b3 c1
          have b3' : (rdPart 4 s).1.index ≤ 16384 := by omega
          obtain ⟨e1, e2⟩ := many_inv o1 (l := 16384) b3' d1
          obtain ⟨f1, f2⟩ := id_inv hs e1
          refine ⟨r, rfl, by omega, f1, ?_, WS.text_in o3 1024⟩
          show numB 4 ++ s.b = numB 4 ++ (txB s.id ++ numB (s.id2.many 16384) ++ numB (s.id2.num.2.many 16384) ++ (enc (s.id2.num.2.num.2.text 1024).1.2.length ++ (s.id2.num.2.num.2.text 1024).1.2))
          rw [f2, e2, d2, c2]
          have : (s.id2.num.2.num.2.text 1024).2.b = [] := z
          rw [this]; simp
        · rw [if_neg k4] at h
          exact absurd h (by decide)
end Go.Sy
namespace Go.Proofs.Ytbialojkkhkjeaa
open Go.Sy
theorem chk_inv {b : List Int} (h : (chkM b).2 = 0) : b = frB (chkM b).1.2 := by
  unfold chkM at *
  split at h
  · exact absurd h (by decide)
  · rename_i h1
    split at h
    · exact absurd h (by decide)
    · rename_i h2
      split at h
      · rename_i h3
        rw [if_neg h1, if_neg h2, if_pos h3]
        show b = b.take _ ++ ck4 (crc (b.take _))
        rw [← h3, List.take_append_drop]
      · exact absurd h (by decide)
/-- A frame that is one is the frame of its message. -/
theorem enc_dec {b : List Int} (hb : InB b) (h : (decM b).2 = 0) : rightB (decM b).1 = true ∧ frB (formM (decM b).1) = b ∧ InB (decM b).1.body := by
  unfold decM at *
  by_cases h0 : (chkM b).2 = 0
  · rw [if_neg (by simp [h0])] at h ⊢
    have hin := chk_in hb
    have hlen := chk_length b
    have hok : (WS.mk false (chkM b).1.2 0).Ok := ⟨by simp, hin, by simp; omega⟩
    have ok2 := WS.num_ok hok
    obtain ⟨a1, a2, a3, a4, a5, a6⟩ := kndM_inv ok2 ok2.bytes h
    have hm : (WS.mk false (chkM b).1.2 0).many 4 ≤ 4 := a3.2
    obtain ⟨b1, b2⟩ := many_inv hok hm a4
    refine ⟨a1, ?_, a6⟩
    rw [← a5, ← b2]
    exact (chk_inv h0).symm
  · rw [if_pos h0] at h
    exact absurd h h0
end Go.Proofs.Ytbialojkkhkjeaa

/-! The law FrameBack, walked. -/
namespace Go.Proofs.Ytbialojkkhkjeaa
open Go.Sy
theorem small_right {m : Ms} (h : rightB m = true) (hb : InB m.body) : Small m ∧ m.rs.length ≤ 4 ∧ m.ids.length ≤ 70 ∧ m.body.length ≤ 1100 := by
  have e0 : (ByteArray.mk #[]).size = 0 := rfl
  rcases right_kd h with k | k | k | k
  · obtain ⟨⟨b1, b2, b3⟩, a1, a2, a3, a4, a5, a6, a7⟩ := right_1 h k
    refine ⟨⟨by omega, fun r hr => ?_, by rw [a1]; decide, by rw [a2]; decide, by rw [a3]; simp, fun p hp => by rw [a3] at hp; simp at hp, by rw [a4]; decide, by rw [a7]; simp, hb⟩, by omega, by rw [a3]; simp, by rw [a7]; simp⟩
    obtain ⟨z1, z2, z3, -⟩ := span_in (b3 r hr)
    omega
  · obtain ⟨⟨b1, b2, b3⟩, a1, a4, a5, a6, a7⟩ := right_2 h k
    obtain ⟨c1, c2⟩ := ids_in b3
    exact ⟨⟨by rw [a1]; simp, fun r hr => by rw [a1] at hr; simp at hr, by omega, by omega, by omega, fun p hp => by rw [c1 p hp]; decide, by rw [a4]; decide, by rw [a7]; simp, hb⟩, by rw [a1]; simp, by omega, by rw [a7]; simp⟩
  · obtain ⟨b3, a1, a2, a3, a4, a5, a6, a7⟩ := right_3 h k
    obtain ⟨c1, c2⟩ := ids_in b3
    exact ⟨⟨by rw [a1]; simp, fun r hr => by rw [a1] at hr; simp at hr, by rw [a2]; decide, by rw [a3]; decide, by omega, fun p hp => by rw [c1 p hp]; decide, by rw [a4]; decide, by rw [a7]; simp, hb⟩, by rw [a1]; simp, by omega, by rw [a7]; simp⟩
  · obtain ⟨⟨b1, b2, b3, b4, b5, b6, b7⟩, a1, a2, a3, a4⟩ := right_4 h k
    exact ⟨⟨by rw [a1]; simp, fun r hr => by rw [a1] at hr; simp at hr, by rw [a2]; decide, by rw [a3]; decide, by rw [a4]; simp, fun p hp => by rw [a4] at hp; simp at hp, by omega, by omega, hb⟩, by rw [a1]; simp, by rw [a4]; simp, by omega⟩
theorem small_zms (k : Int) : Small (zms k) :=
  ⟨by simp [zms], fun r hr => by simp [zms] at hr, by simp [zms], by simp [zms], by simp [zms], fun p hp => by simp [zms] at hp, by simp [zms], by simp [zms], by simp [zms]⟩
theorem fin_bad {p : Ms × WS} (h : (finM p).2 ≠ 0) : (finM p).1 = zms 0 := by
  unfold finM at *
  split
  · rfl
  · rename_i h1
    rw [if_neg h1] at h
    split
    · rename_i h2; rw [if_pos h2] at h; exact absurd rfl h
    · rfl
theorem dec_bad {b : List Int} (h : (decM b).2 ≠ 0) : (decM b).1 = zms 0 := by
  unfold decM at *
  split
  · rfl
  · rename_i h0
    rw [if_neg h0] at h
    unfold kndM at *
    split
    · rename_i c; rw [if_pos c] at h; exact fin_bad h
    · rename_i c; rw [if_neg c] at h
      split
      · rename_i c; rw [if_pos c] at h; exact fin_bad h
      · rename_i c; rw [if_neg c] at h
        split
        · rename_i c; rw [if_pos c] at h; exact fin_bad h
        · rename_i c; rw [if_neg c] at h
          split
          · rename_i c; rw [if_pos c] at h; exact fin_bad h
          · rfl
theorem dec_small {b : List Int} (hb : InB b) : Small (decM b).1 := by
  by_cases h : (decM b).2 = 0
  · obtain ⟨h1, -, h3⟩ := enc_dec hb h
    exact (small_right h1 h3).1
  · rw [dec_bad h]; exact small_zms 0

set_option maxRecDepth 100000 in
set_option maxHeartbeats 8000000 in
theorem back_fn (m : Ms) (nb : Bool) (b : List Int) (h1 : m.rs.length ≤ 9223372036854775807) (h2 : m.ids.length ≤ 9223372036854775807) (hm : InB m.body) (hn : nb = true → b = []) (hb : InB b) :
    Fc Try.prog 6 [.agg m.cells, .sl .imm nb 1 (u8s b)] [] (.lit (.bool true)) [] := by
  have hF := few_fn m h1 h2
  simp only [Ms.cells] at hF
  by_cases hf : fewM m = true
  · by_cases hl : 600 < (b.length : Int)
    · refine Fc.of (anys _ [9, 12, 13, 15, 16, 18, 20]) [] mixed Try.func6 rfl (by rfl) (by simp [Try.ntmps6]) (by decide) ?_
      simp -implicitDefEqProofs -dsimp [Try.ntmps6, Ms.cells]
      refine CallK.reads ?_
      simp -implicitDefEqProofs -dsimp
      refine CallQ.same (awake_fn) rfl ?_
      simp -implicitDefEqProofs -dsimp
      refine CallK.reads ?_
      simp -implicitDefEqProofs -dsimp
      refine CallQ.same (hF) rfl ?_
      simp -implicitDefEqProofs -dsimp [hf, hl]
    · obtain ⟨hS, l1, l2, l3, l4, l5, l6, l7⟩ := fewM_small hf hm
      have hE := encode_fn m hS
      have hR := right_fn m (by omega) (by omega)
      have hD := decode_fn nb b hn hb (by omega)
      have hN := dec_small hb
      have hE2 := encode_fn (decM b).1 hN
      have hlast : ((decM b).2 = 0 → encM (decM b).1 = ((false, b), 0)) := fun h => by
        obtain ⟨q1, q2, q3⟩ := enc_dec hb h
        rw [encM, if_pos q1, q2]
      obtain ⟨⟨n, d⟩, hd⟩ : ∃ q, q = decM b := ⟨_, rfl⟩
      rw [← hd] at hD hE2 hlast hN
      obtain ⟨⟨⟨x, y⟩, e⟩, he⟩ : ∃ q, q = encM n := ⟨_, rfl⟩
      simp only at hE2 hlast
      rw [← he] at hE2 hlast
      by_cases c : rightB m = true
      · have em : encM m = ((false, frB (formM m)), 0) := by rw [encM, if_pos c]
        have hin : InB (frB (formM m)) := by unfold frB; rw [inB_append]; exact ⟨inB_formM hm, inB_ck4 _⟩
        have hlen : (frB (formM m)).length ≤ 4096 := by
          have := form_short c
          unfold frB; rw [List.length_append, ck4_length]; omega
        obtain ⟨g1, g2⟩ := dec_enc c hm
        obtain ⟨F, hFF⟩ : ∃ F, F = frB (formM m) := ⟨_, rfl⟩
        rw [← hFF] at em hin hlen g1 g2
        have hD1 := decode_fn false F (by simp) hin (by omega)
        have hNs := dec_small hin
        have hSm := same_ms m (decM F).1 (by omega) (by omega) (by omega)
        rw [g1] at hD1
        rw [g2] at hSm
        rw [em] at hE
        obtain ⟨n1, hn1⟩ : ∃ n1, n1 = (decM F).1 := ⟨_, rfl⟩
        rw [← hn1] at hD1 hSm
        have hlen' : ¬ 4096 < (F.length : Int) := by omega
        simp only [Ms.cells] at hE hR
        have hSm' : Fc Try.prog 20 [.agg [.lit (.int .i64 m.kind), .sl .imm m.nr 4 (rgs m.rs), .lit (.string m.lo), .lit (.string m.hi), .sl .imm m.ni 1 (idc m.ids), .lit (.string m.bundle), .lit (.int .i64 m.index), .lit (.int .i64 m.many), .sl .imm m.nb 1 (u8s m.body)], .agg n1.cells] [] (.lit (.bool true)) [] := hSm
        by_cases cd : d = 0
        · subst cd
          have hl2 := hlast rfl
          simp only [Prod.mk.injEq] at hl2
          obtain ⟨⟨rfl, rfl⟩, rfl⟩ := hl2
          refine Fc.of (anys _ [9, 12, 13, 15, 16, 18, 20]) [] mixed Try.func6 rfl (by rfl) (by simp [Try.ntmps6]) (by decide) ?_
          simp -implicitDefEqProofs -dsimp [Try.ntmps6, Ms.cells]
          refine CallK.reads ?_
          simp -implicitDefEqProofs -dsimp
          refine CallQ.same (awake_fn) rfl ?_
          simp -implicitDefEqProofs -dsimp
          refine CallK.reads ?_
          simp -implicitDefEqProofs -dsimp
          refine CallQ.same (hF) rfl ?_
          simp -implicitDefEqProofs -dsimp [hf, hl]
          refine CallK.works ?_
          simp -implicitDefEqProofs -dsimp
          refine CallQ.mk (hE) (by simp) ?_
          simp -implicitDefEqProofs -dsimp
          refine CallK.works ?_
          simp -implicitDefEqProofs -dsimp
          refine CallQ.mk (hD1) (by simp) ?_
          simp -implicitDefEqProofs -dsimp
          refine onSome_iff.2 ⟨_, if_pos (ms_plain n1), ?_⟩
          simp -implicitDefEqProofs -dsimp
          refine CallK.reads ?_
          simp -implicitDefEqProofs -dsimp
          refine CallQ.same (hSm') rfl ?_
          simp -implicitDefEqProofs -dsimp [hlen']
          refine CallK.works ?_
          simp -implicitDefEqProofs -dsimp
          refine CallQ.mk (hD) (by simp) ?_
          simp -implicitDefEqProofs -dsimp
          refine onSome_iff.2 ⟨_, if_pos (ms_plain n), ?_⟩
          simp -implicitDefEqProofs -dsimp
          refine CallK.works ?_
          simp -implicitDefEqProofs -dsimp
          refine CallQ.mk (hE2) (by simp) ?_
          simp -implicitDefEqProofs -dsimp
          refine CallK.reads ?_
          simp -implicitDefEqProofs -dsimp
          refine CallQ.same (same_fn false nb y y (by omega)) rfl ?_
          simp -implicitDefEqProofs -dsimp
          refine CallK.reads ?_
          simp -implicitDefEqProofs -dsimp
          refine CallQ.same (hR) rfl ?_
          simp -implicitDefEqProofs -dsimp [c]
        · refine Fc.of (anys _ [9, 12, 13, 15, 16, 18, 20]) [] mixed Try.func6 rfl (by rfl) (by simp [Try.ntmps6]) (by decide) ?_
          simp -implicitDefEqProofs -dsimp [Try.ntmps6, Ms.cells]
          refine CallK.reads ?_
          simp -implicitDefEqProofs -dsimp
          refine CallQ.same (awake_fn) rfl ?_
          simp -implicitDefEqProofs -dsimp
          refine CallK.reads ?_
          simp -implicitDefEqProofs -dsimp
          refine CallQ.same (hF) rfl ?_
          simp -implicitDefEqProofs -dsimp [hf, hl]
          refine CallK.works ?_
          simp -implicitDefEqProofs -dsimp
          refine CallQ.mk (hE) (by simp) ?_
          simp -implicitDefEqProofs -dsimp
          refine CallK.works ?_
          simp -implicitDefEqProofs -dsimp
          refine CallQ.mk (hD1) (by simp) ?_
          simp -implicitDefEqProofs -dsimp
          refine onSome_iff.2 ⟨_, if_pos (ms_plain n1), ?_⟩
          simp -implicitDefEqProofs -dsimp
          refine CallK.reads ?_
          simp -implicitDefEqProofs -dsimp
          refine CallQ.same (hSm') rfl ?_
          simp -implicitDefEqProofs -dsimp [hlen']
          refine CallK.works ?_
          simp -implicitDefEqProofs -dsimp
          refine CallQ.mk (hD) (by simp) ?_
          simp -implicitDefEqProofs -dsimp
          refine onSome_iff.2 ⟨_, if_pos (ms_plain n), ?_⟩
          simp -implicitDefEqProofs -dsimp
          refine CallK.works ?_
          simp -implicitDefEqProofs -dsimp
          refine CallQ.mk (hE2) (by simp) ?_
          simp -implicitDefEqProofs -dsimp [cd]
          refine CallK.reads ?_
          simp -implicitDefEqProofs -dsimp
          refine CallQ.same (hR) rfl ?_
          simp -implicitDefEqProofs -dsimp [c]
      · have em : encM m = ((true, []), 1) := by rw [encM, if_neg c]
        rw [em] at hE
        simp only [Ms.cells] at hE hR
        by_cases cd : d = 0
        · subst cd
          have hl2 := hlast rfl
          simp only [Prod.mk.injEq] at hl2
          obtain ⟨⟨rfl, rfl⟩, rfl⟩ := hl2
          refine Fc.of (anys _ [9, 12, 13, 15, 16, 18, 20]) [] mixed Try.func6 rfl (by rfl) (by simp [Try.ntmps6]) (by decide) ?_
          simp -implicitDefEqProofs -dsimp [Try.ntmps6, Ms.cells]
          refine CallK.reads ?_
          simp -implicitDefEqProofs -dsimp
          refine CallQ.same (awake_fn) rfl ?_
          simp -implicitDefEqProofs -dsimp
          refine CallK.reads ?_
          simp -implicitDefEqProofs -dsimp
          refine CallQ.same (hF) rfl ?_
          simp -implicitDefEqProofs -dsimp [hf, hl]
          refine CallK.works ?_
          simp -implicitDefEqProofs -dsimp
          refine CallQ.mk (hE) (by simp) ?_
          simp -implicitDefEqProofs -dsimp
          refine CallK.works ?_
          simp -implicitDefEqProofs -dsimp
          refine CallQ.mk (hD) (by simp) ?_
          simp -implicitDefEqProofs -dsimp
          refine onSome_iff.2 ⟨_, if_pos (ms_plain n), ?_⟩
          simp -implicitDefEqProofs -dsimp
          refine CallK.works ?_
          simp -implicitDefEqProofs -dsimp
          refine CallQ.mk (hE2) (by simp) ?_
          simp -implicitDefEqProofs -dsimp
          refine CallK.reads ?_
          simp -implicitDefEqProofs -dsimp
          refine CallQ.same (same_fn false nb y y (by omega)) rfl ?_
          simp -implicitDefEqProofs -dsimp
          refine CallK.reads ?_
          simp -implicitDefEqProofs -dsimp
          refine CallQ.same (hR) rfl ?_
          simp -implicitDefEqProofs -dsimp [c]
        · refine Fc.of (anys _ [9, 12, 13, 15, 16, 18, 20]) [] mixed Try.func6 rfl (by rfl) (by simp [Try.ntmps6]) (by decide) ?_
          simp -implicitDefEqProofs -dsimp [Try.ntmps6, Ms.cells]
          refine CallK.reads ?_
          simp -implicitDefEqProofs -dsimp
          refine CallQ.same (awake_fn) rfl ?_
          simp -implicitDefEqProofs -dsimp
          refine CallK.reads ?_
          simp -implicitDefEqProofs -dsimp
          refine CallQ.same (hF) rfl ?_
          simp -implicitDefEqProofs -dsimp [hf, hl]
          refine CallK.works ?_
          simp -implicitDefEqProofs -dsimp
          refine CallQ.mk (hE) (by simp) ?_
          simp -implicitDefEqProofs -dsimp
          refine CallK.works ?_
          simp -implicitDefEqProofs -dsimp
          refine CallQ.mk (hD) (by simp) ?_
          simp -implicitDefEqProofs -dsimp
          refine onSome_iff.2 ⟨_, if_pos (ms_plain n), ?_⟩
          simp -implicitDefEqProofs -dsimp
          refine CallK.works ?_
          simp -implicitDefEqProofs -dsimp
          refine CallQ.mk (hE2) (by simp) ?_
          simp -implicitDefEqProofs -dsimp [cd]
          refine CallK.reads ?_
          simp -implicitDefEqProofs -dsimp
          refine CallQ.same (hR) rfl ?_
          simp -implicitDefEqProofs -dsimp [c]
  · refine Fc.of (anys _ [9, 12, 13, 15, 16, 18, 20]) [] mixed Try.func6 rfl (by rfl) (by simp [Try.ntmps6]) (by decide) ?_
    simp -implicitDefEqProofs -dsimp [Try.ntmps6, Ms.cells]
    refine CallK.reads ?_
    simp -implicitDefEqProofs -dsimp
    refine CallQ.same (awake_fn) rfl ?_
    simp -implicitDefEqProofs -dsimp
    refine CallK.reads ?_
    simp -implicitDefEqProofs -dsimp
    refine CallQ.same (hF) rfl ?_
    simp -implicitDefEqProofs -dsimp [hf]
end Go.Proofs.Ytbialojkkhkjeaa
