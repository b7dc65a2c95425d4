/- Deltas: what is made is played back. (and what stands on it) -/
import Derived.Test.YtekokchejkjjjaaDoorNh
set_option linter.unusedSimpArgs false
set_option linter.unusedVariables false

/-! Deltas: what is made is played back. -/
namespace Go.Proofs.YtekokchejkjjjaaDoor
open Go.Sy

theorem inB_enc (n : Nat) : InB (enc n) := by
  induction n using Nat.strongRecOn with
  | _ n ih =>
    by_cases h : n < 128
    · rw [enc_lt h]; simp; omega
    · rw [enc_ge (by omega), inB_cons]
      exact ⟨by omega, ih _ (by omega)⟩
theorem lead_enc : ∀ (m n : Nat) (c : List Int), (enc n).length ≤ m → lead m (enc n ++ c) + 1 = (enc n).length
  | 0, n, c, h => absurd (enc_ne n) (by simp at h; simp [h])
  | m + 1, n, c, h => by
    by_cases hn : n < 128
    · rw [enc_lt hn, List.cons_append, lead, if_neg (by omega)]; rfl
    · rw [enc_ge (by omega)] at h ⊢
      rw [List.cons_append, lead, if_pos (by omega), lead_enc m (n / 128) c (by simp at h; omega)]; rfl
theorem tk_enc (n : Nat) (h : n < 18446744073709551616) (c : List Int) (hc : InB c) : tk (enc n ++ c) = (n, (enc n).length, 0) := by
  have hl := enc_u64 h
  have e := lead_enc 10 n c hl
  obtain ⟨h1, h2, h3, h4⟩ := lead_spec 10 (enc n ++ c)
  have hb : InB (enc n ++ c) := by rw [inB_append]; exact ⟨inB_enc n, hc⟩
  have hk : lead 10 (enc n ++ c) < (enc n ++ c).length := by simp only [List.length_append]; omega
  have ht : (enc n ++ c).take (lead 10 (enc n ++ c) + 1) = enc n := by rw [e]; simp
  have hf := (form_iff (fun x hx => hb x hx) hk (by omega) (fun i h hi => h3 i h hi) (h4 (by omega) hk)).1 (by rw [ht, val_enc, Nat.mod_eq_of_lt h])
  have hg : (enc n ++ c).getD (lead 10 (enc n ++ c)) 0 = (enc n ++ c)[lead 10 (enc n ++ c)] := by
    rw [List.getD_eq_getElem?_getD, List.getElem?_eq_getElem hk]; rfl
  unfold tk
  rw [hg, if_neg (by omega), if_neg (by omega), if_neg hf, ht, e, val_enc]

theorem num_back (nl : Bool) (n : Nat) (h : n < 18446744073709551616) (c : List Int) (hc : InB c) : WS.num ⟨nl, enc n ++ c, 0⟩ = (n, ⟨nl, c, 0⟩) := by
  simp [WS.num, tk_enc n h c hc]

theorem text_back (nl : Bool) (x c : List Int) (limit : Int) (hx : (x.length : Int) ≤ limit) (hl : x.length ≤ 1000000) (hb : InB x) (hc : InB c) : WS.text ⟨nl, enc x.length ++ (x ++ c), 0⟩ limit = ((false, x), ⟨nl, c, 0⟩) := by
  have ht := tk_enc x.length (by omega) (x ++ c) (by rw [inB_append]; exact ⟨hb, hc⟩)
  have h1 : ¬ max 0 limit < (x.length : Int) := by omega
  have h2 : ¬ ((enc x.length ++ (x ++ c)).length : Int) - (enc x.length).length < (x.length : Int) := by simp; omega
  simp only [WS.text, ht, ne_eq, not_true, if_false, if_neg h1, if_neg h2]
  simp [List.drop_append]

theorem ins_out (o l : List Int) : ins o l = o ++ ins [] l := by
  unfold ins; split <;> simp
theorem makeW_out' (base text : List Int) : ∀ (f i : Nat) (op out : List Int), text.length - i ≤ f → makeW base text i op out = out ++ makeW base text i op [] := by
  intro f
  induction f with
  | zero =>
    intro i op out hf
    rw [makeW, dif_neg (by omega), makeW, dif_neg (by omega)]
    exact ins_out out op
  | succ f ih =>
    intro i op out hf
    by_cases h : i < text.length
    · by_cases h8 : (best base (text.drop i) base.length).2 < 8
      · rw [makeW, dif_pos h, dif_pos h8, ih _ _ _ (by omega)]
        conv => rhs; rw [makeW, dif_pos h, dif_pos h8]
      · rw [makeW, dif_pos h, dif_neg h8, ih _ _ _ (by omega)]
        conv => rhs; rw [makeW, dif_pos h, dif_neg h8, ih _ _ _ (by omega)]
        rw [ins_out out op]
        simp
    · rw [makeW, dif_neg h, makeW, dif_neg h]
      exact ins_out out op
theorem makeW_out (base text : List Int) (i : Nat) (op out : List Int) : makeW base text i op out = out ++ makeW base text i op [] := makeW_out' base text _ i op out (Nat.le_refl _)

/-- An insert is read. -/
theorem one_ins (bn nl : Bool) (base op c : List Int) (lacks : Nat) (ho : op ≠ []) (hl : op.length ≤ lacks) (hm : op.length ≤ 262144) (hb : InB op) (hc : InB c) :
    oneS bn base ⟨nl, ins [] op ++ c, 0⟩ lacks = ((some (false, op), 0), ⟨nl, c, 0⟩) := by
  have e : ins [] op ++ c = enc 0 ++ (enc op.length ++ (op ++ c)) := by simp [ins, ho]
  have hcc : InB (enc op.length ++ (op ++ c)) := by rw [inB_append, inB_append]; exact ⟨inB_enc _, hb, hc⟩
  have e1 := num_back nl 0 (by omega) _ hcc
  have e2 := text_back nl op c 262144 (by omega) (by omega) hb hc
  rw [e]
  simp only [oneS, e1, e2]
  simp [ho]; omega

/-- A copy is read. -/
theorem one_copy (bn nl : Bool) (base c : List Int) (m p lacks : Nat) (hm0 : 0 < m) (hm : m ≤ lacks) (hb : p + m ≤ base.length) (hbl : base.length ≤ 1000000) (hc : InB c) :
    oneS bn base ⟨nl, enc m ++ (enc p ++ c), 0⟩ lacks = ((some (bn, (base.drop p).take m), 0), ⟨nl, c, 0⟩) := by
  have hcc : InB (enc p ++ c) := by rw [inB_append]; exact ⟨inB_enc _, hc⟩
  have e1 := num_back nl m (by omega) _ hcc
  have e2 := num_back nl p (by omega) c hc
  simp only [oneS, e1, e2]
  rw [if_neg (by simp), if_neg (by omega), if_pos hm0, if_neg (by simp), if_neg (by omega)]
end Go.Proofs.YtekokchejkjjjaaDoor

/-! Deltas: what is made is played back, by the same base. -/
namespace Go.Proofs.YtekokchejkjjjaaDoor
open Go.Sy

theorem best_is (base rest : List Int) (k : Nat) : (best base rest k).2 = 0 ∨ (best base rest k).2 = cmn (base.drop (best base rest k).1) rest := by
  induction k with
  | zero => exact .inl rfl
  | succ k ih =>
    simp only [best]
    split
    · exact .inr rfl
    · exact ih

theorem inB_ins {o l : List Int} (h1 : InB o) (h2 : InB l) : InB (ins o l) := by
  unfold ins
  split
  · exact h1
  · simp only [inB_append]; exact ⟨⟨⟨h1, inB_enc _⟩, inB_enc _⟩, h2⟩
theorem inB_makeW (base text : List Int) (hT : InB text) : ∀ (f i : Nat) (op out : List Int), text.length - i ≤ f → InB op → InB out → InB (makeW base text i op out) := by
  intro f
  induction f with
  | zero =>
    intro i op out hf h1 h2
    rw [makeW, dif_neg (by omega)]; exact inB_ins h2 h1
  | succ f ih =>
    intro i op out hf h1 h2
    rw [makeW]
    split
    · rename_i h
      split
      · refine ih _ _ _ (by omega) ?_ h2
        simp only [inB_append]
        exact ⟨h1, fun x hx => by simp at hx; subst hx; exact hT _ (List.getElem_mem h)⟩
      · refine ih _ _ _ (by omega) (fun x hx => by simp at hx) ?_
        simp only [inB_append]
        exact ⟨⟨inB_ins h2 h1, inB_enc _⟩, inB_enc _⟩
    · exact inB_ins h2 h1

theorem take_snoc {α : Type} (l : List α) (i : Nat) (h : i < l.length) : l.take (i + 1) = l.take i ++ [l[i]] := by
  rw [List.take_add_one, List.getElem?_eq_getElem h]; rfl

theorem play_flush (bn nl : Bool) (base op c out : List Int) (n : Nat) (hn : n ≤ 262144) (h : out.length + op.length ≤ n) (hb : InB op) (hc : InB c) :
    playW bn base n ⟨nl, ins [] op ++ c, 0⟩ out = playW bn base n ⟨nl, c, 0⟩ (out ++ op) := by
  by_cases ho : op = []
  · subst ho; simp [ins]
  · have := List.length_pos_iff.2 ho
    rw [playW, dif_pos (by omega), one_ins bn nl base op c (n - out.length) ho (by omega) (by omega) hb hc]
    simp only [dif_neg ho]

theorem play_make (bn nl : Bool) (base text : List Int) (hb : base.length ≤ 1000) (ht : text.length ≤ 1000) (hT : InB text) : ∀ (f i : Nat) (op : List Int), text.length - i ≤ f → i ≤ text.length → op.length ≤ i → op = (text.take i).drop (i - op.length) →
    playW bn base text.length ⟨nl, makeW base text i op [], 0⟩ (text.take (i - op.length)) = (0, text, ⟨nl, [], 0⟩) := by
  have hop : ∀ (i : Nat) (op : List Int), op = (text.take i).drop (i - op.length) → InB op := fun i op h => by rw [h]; exact (hT.take _).drop _
  have hto : ∀ (i : Nat) (op : List Int), op.length ≤ i → op = (text.take i).drop (i - op.length) → text.take (i - op.length) ++ op = text.take i := fun i op hl h => by
    have e : text.take (i - op.length) = (text.take i).take (i - op.length) := by rw [List.take_take, Nat.min_eq_left (by omega)]
    conv => lhs; rw [e]; arg 2; rw [h]
    exact List.take_append_drop _ _
  have hend : ∀ (i : Nat) (op : List Int), ¬ i < text.length → i ≤ text.length → op.length ≤ i → op = (text.take i).drop (i - op.length) →
      playW bn base text.length ⟨nl, makeW base text i op [], 0⟩ (text.take (i - op.length)) = (0, text, ⟨nl, [], 0⟩) := by
    intro i op h hi hl ho
    have hie : i = text.length := by omega
    have e : ins [] op = ins [] op ++ [] := by simp
    rw [makeW, dif_neg h, e, play_flush bn nl base op [] _ _ (by omega) (by simp; omega) (hop i op ho) (fun x hx => by simp at hx), hto i op hl ho, hie, List.take_length, playW, dif_neg (by omega)]
  intro f
  induction f with
  | zero => intro i op hf hi hl ho; exact hend i op (by omega) hi hl ho
  | succ f ih =>
    intro i op hf hi hl ho
    by_cases h : i < text.length
    · by_cases h8 : (best base (text.drop i) base.length).2 < 8
      · have e1 : i + 1 - (op ++ [text[i]]).length = i - op.length := by simp
        have := ih (i + 1) (op ++ [text[i]]) (by omega) (by omega) (by simp; omega) (by
          rw [e1, take_snoc text i h, List.drop_append_of_le_length (by simp; omega), ← ho])
        rw [makeW, dif_pos h, dif_pos h8]
        rwa [e1] at this
      · have hbl := best_le base (text.drop i) base.length
        have hbi := best_is base (text.drop i) base.length
        generalize hp : best base (text.drop i) base.length = p at *
        obtain ⟨q, m⟩ := p
        simp only [List.length_drop] at hbl hbi h8
        have hm : m ≤ cmn (base.drop q) (text.drop i) := by omega
        obtain ⟨g1, g2, g3⟩ := (cmn_ge m _ _).1 hm
        simp only [List.length_drop] at g1 g2
        have hc : InB (makeW base text (i + m) [] []) := inB_makeW base text hT _ _ _ _ (Nat.le_refl _) (fun x hx => by simp at hx) (fun x hx => by simp at hx)
        have := ih (i + m) [] (by omega) (by omega) (by simp) (by simp)
        rw [makeW, dif_pos h, dif_neg (by rw [hp]; exact h8), hp, makeW_out, List.append_assoc, List.append_assoc,
          play_flush bn nl base op _ _ _ (by omega) (by simp; omega) (hop i op ho) (by simp only [inB_append]; exact ⟨inB_enc _, inB_enc _, hc⟩), hto i op hl ho,
          playW, dif_pos (by simp; omega), one_copy bn nl base _ m q _ (by omega) (by simp; omega) (by omega) (by omega) hc]
        have hne : (base.drop q).take m ≠ [] := fun hh => by have := congrArg List.length hh; simp at this; omega
        simp only [dif_neg hne]
        rw [g3, ← List.take_add]
        simpa using this
    · exact hend i op h hi hl ho

/-- What is made is played back. -/
theorem playS_make (bn nl : Bool) (base text : List Int) (hb : base.length ≤ 1000) (ht : text.length ≤ 1000) (hT : InB text) : playS bn base nl (makeS base text) = (some text, 0) := by
  have hc : InB (makeW base text 0 [] []) := inB_makeW base text hT _ _ _ _ (Nat.le_refl _) (fun x hx => by simp at hx) (fun x hx => by simp at hx)
  have e1 := num_back nl text.length (by omega) _ hc
  have e2 := play_make bn nl base text hb ht hT _ 0 [] (Nat.le_refl _) (by omega) (by simp) (by simp)
  simp only [List.length_nil, Nat.sub_zero, List.take_zero] at e2
  have e3 : makeS base text = enc text.length ++ makeW base text 0 [] [] := by unfold makeS; exact makeW_out _ _ _ _ _
  simp only [playS, e3, e1]
  rw [e2]
  have h1 : ¬ 262144 < text.length := by omega
  simp [h1, WS.fin]
end Go.Proofs.YtekokchejkjjjaaDoor

/-! Deltas: how long one is; by no base. -/
namespace Go.Proofs.YtekokchejkjjjaaDoor
open Go.Sy

theorem enc_one {n : Nat} (h : n < 128) : (enc n).length = 1 := by rw [enc_lt h]; rfl
theorem ins_len {op : List Int} (h : op.length < 128) : (ins [] op).length ≤ op.length + 2 := by
  unfold ins
  split
  · simp
  · simp only [List.length_append, List.length_nil, enc_one h, enc_one (show 0 < 128 by omega)]; omega

theorem makeW_len (base text : List Int) (hb : base.length ≤ 120) (ht : text.length ≤ 120) : ∀ (f i : Nat) (op : List Int), text.length - i ≤ f → i ≤ text.length → op.length ≤ i →
    (makeW base text i op []).length ≤ (text.length - i) + op.length + 2 := by
  intro f
  induction f with
  | zero =>
    intro i op hf hi hl
    rw [makeW, dif_neg (by omega)]
    have := ins_len (op := op) (by omega)
    omega
  | succ f ih =>
    intro i op hf hi hl
    rw [makeW]
    split
    · rename_i h
      have hbl := best_le base (text.drop i) base.length
      simp only [List.length_drop] at hbl
      split
      · have := ih (i + 1) (op ++ [text[i]]) (by omega) (by omega) (by simp; omega)
        simp only [List.length_append, List.length_cons, List.length_nil] at this
        omega
      · have := ih (i + (best base (text.drop i) base.length).2) [] (by omega) (by omega) (by simp)
        have h1 := ins_len (op := op) (by omega)
        rw [makeW_out]
        simp only [List.length_append, List.length_nil, enc_one (show (best base (text.drop i) base.length).2 < 128 by omega), enc_one (show (best base (text.drop i) base.length).1 < 128 by omega)] at *
        omega
    · have := ins_len (op := op) (by omega)
      omega
theorem makeS_len (base text : List Int) (hb : base.length ≤ 120) (ht : text.length ≤ 120) : (makeS base text).length ≤ text.length + 3 := by
  have := makeW_len base text hb ht _ 0 [] (Nat.le_refl _) (by omega) (by simp)
  unfold makeS
  rw [makeW_out]
  simp only [List.length_append, List.length_nil, enc_one (show text.length < 128 by omega)] at *
  omega

theorem makeW_plain (text : List Int) : ∀ (f i : Nat) (op : List Int), text.length - i ≤ f → i ≤ text.length → makeW [] text i op [] = ins [] (op ++ text.drop i) := by
  intro f
  induction f with
  | zero =>
    intro i op hf hi
    rw [makeW, dif_neg (by omega), List.drop_eq_nil_of_le (by omega), List.append_nil]
  | succ f ih =>
    intro i op hf hi
    rw [makeW]
    split
    · rename_i h
      have hz : best [] (text.drop i) ([] : List Int).length = (0, 0) := rfl
      rw [hz, dif_pos (by decide), ih _ _ (by omega) (by omega), List.append_assoc]
      congr 2
      rw [List.drop_eq_getElem_cons h]; rfl
    · rw [List.drop_eq_nil_of_le (by omega), List.append_nil]
theorem makeS_plain (text : List Int) (ht : text.length ≤ 120) (h0 : text ≠ []) : (makeS [] text).length = text.length + 3 := by
  unfold makeS
  rw [makeW_out, makeW_plain text _ 0 [] (Nat.le_refl _) (by omega)]
  simp only [List.nil_append, List.drop_zero, ins, if_neg h0, List.length_append, enc_one (show text.length < 128 by omega), enc_one (show 0 < 128 by omega)]
  omega
theorem makeS_nil (base : List Int) : makeS base [] = [0] := by
  unfold makeS
  rw [makeW, dif_neg (by simp), show ([] : List Int).length = 0 from rfl, enc_lt (by omega)]
  rfl

/-- By a base with more behind a copy is the same. -/
theorem copy_more (base more : List Int) (q m : Nat) (h : q + m ≤ base.length) : ((base ++ more).drop q).take m = (base.drop q).take m := by
  rw [List.drop_append_of_le_length (by omega), List.take_append_of_le_length (by simp; omega)]
end Go.Proofs.YtekokchejkjjjaaDoor

/-! Deltas: where each eight bytes stand in a base. -/
namespace Go.Proofs.YtekokchejkjjjaaDoor
open Go.Sy

/-- Eight bytes from a place on. -/
def k8 (base : List Int) (i : Nat) : List Int := (base.drop i).take 8
abbrev PM := List (List Int × List Int)
def addP (m : PM) (k : List Int) (i : Int) : PM :=
  match m.findIdx? (fun e => decide (e.1 = k)) with
  | some j => m.modify j fun e => (e.1, e.2 ++ [i])
  | none => m ++ [(k, [i])]
/-- The places of each eight bytes, of the first i places. -/
def pm (base : List Int) : Nat → PM
  | 0 => []
  | i + 1 => addP (pm base i) (k8 base i) i
def ent (id : Nat) (m : PM) : List (PV × PV) := m.mapIdx fun j e => (.agg (u8s e.1), .sl (.own (.cell id j)) false 1 (ints .i64 e.2))
def entF (m : PM) : List (PV × PV) := m.map fun e => (.agg (u8s e.1), .sl .imm false 1 (ints .i64 e.2))

@[simp] theorem ent_nil (id : Nat) : ent id [] = [] := rfl
@[simp] theorem ent_length (id : Nat) (m : PM) : (ent id m).length = m.length := by simp [ent]
@[simp] theorem ent_get (id : Nat) (m : PM) (j : Nat) (h : j < (ent id m).length) : (ent id m)[j] = (.agg (u8s (m[j]'(by simpa using h)).1), .sl (.own (.cell id j)) false 1 (ints .i64 (m[j]'(by simpa using h)).2)) := by simp [ent]
@[simp] theorem entF_length (m : PM) : (entF m).length = m.length := by simp [entF]
@[simp] theorem entF_get (m : PM) (j : Nat) (h : j < (entF m).length) : (entF m)[j] = (.agg (u8s (m[j]'(by simpa using h)).1), .sl .imm false 1 (ints .i64 (m[j]'(by simpa using h)).2)) := by simp [entF]
theorem intOf_ints (κ : IntKind) (l : List Int) : (ints κ l).map intOfPV = l := by simp [ints, Function.comp_def, intOfPV]
theorem findIdx?_mapIdx {α β : Type} (f : Nat → α → β) (p : β → Bool) (q : α → Bool) (h : ∀ i a, p (f i a) = q a) (l : List α) : (l.mapIdx f).findIdx? p = l.findIdx? q := by
  induction l generalizing f with
  | nil => rfl
  | cons a l ih =>
    simp only [List.mapIdx_cons, List.findIdx?_cons, h]
    rw [ih (fun i => f (i + 1)) fun i a => h (i + 1) a]
@[simp] theorem findC_ent (c : List Int) (id : Nat) (m : PM) : findC c (ent id m) = m.findIdx? fun e => decide (e.1 = c) :=
  findIdx?_mapIdx _ _ _ (fun i a => by simp [keyC, intOf_ints]) m
@[simp] theorem findC_entF (c : List Int) (m : PM) : findC c (entF m) = m.findIdx? fun e => decide (e.1 = c) := by
  unfold findC entF
  rw [List.findIdx?_map]
  congr 1; funext e
  simp [Function.comp_def, keyC, intOf_ints]
theorem isInt_ints (κ : IntKind) (l : List Int) : (ints κ l).all (isInt κ) = true := by simp [ints, isInt]
/-- All keys have eight bytes. -/
def K8 (m : PM) : Prop := ∀ e, e ∈ m → e.1.length = 8
theorem addP_K8 {m : PM} {k : List Int} {i : Int} (h : K8 m) (hk : k.length = 8) : K8 (addP m k i) := by
  unfold addP
  split
  · intro e he
    obtain ⟨n, hn, rfl⟩ := List.getElem_of_mem he
    have hn' : n < m.length := by simpa using hn
    have := h m[n] (List.getElem_mem hn')
    rw [List.getElem_modify]
    split <;> exact this
  · intro e he
    rcases List.mem_append.1 he with he | he
    · exact h e he
    · simp at he; subst he; exact hk
theorem k8_length {base : List Int} {i : Nat} (h : i + 8 ≤ base.length) : (k8 base i).length = 8 := by simp [k8]; omega
theorem pm_K8 (base : List Int) : ∀ i, i + 7 ≤ base.length → K8 (pm base i)
  | 0, _ => fun e he => by simp [pm] at he
  | i + 1, h => addP_K8 (pm_K8 base i (by omega)) (k8_length (by omega))
theorem keysB_of {es : List (PV × PV)} {m : PM} {f : Nat → List Int × List Int → PV} (he : es = m.mapIdx fun j e => (.agg (u8s e.1), f j e)) (h : K8 m) : keysB Tryd.prog 163 es = true := by
  subst he
  rw [keysB, List.all_eq_true]
  intro x hx
  obtain ⟨n, hn, rfl⟩ := List.getElem_of_mem hx
  simp only [List.getElem_mapIdx]
  have := h _ (List.getElem_mem (by simpa using hn : n < m.length))
  simp [keyB, isInt_ints, this]
theorem ent_scrub {F : Own → Option Own} {p : Nat → Option Nat} {id : Nat} {m : PM} (h : ∀ j, j < m.length → F (.own (.cell id j)) = some (.own (.cell id j))) : scrubM F p (ent id m) = ent id m := by
  apply List.ext_getElem
  · simp [scrubM, ent]
  · intro j h1 h2
    have hj : j < m.length := by simpa [ent] using h2
    simp [scrubM, ent, PV.scrub, h j hj, ints, scrubL_eq, Function.comp_def]
@[simp] theorem ent_keep {F : Own → Option Own} {p : Nat → Option Nat} {id : Nat} {m : PM} (h : ∀ j, F (.own (.cell id j)) = some (.own (.cell id j))) : scrubM F p (ent id m) = ent id m := ent_scrub fun j _ => h j
def entO (m : PM) : Option Own → List (PV × PV)
  | some o => m.map fun e => (.agg (u8s e.1), .sl o false 1 (ints .i64 e.2))
  | none => m.map fun e => (.agg (u8s e.1), .dead)
@[simp] theorem entO_imm (m : PM) : entO m (some .imm) = entF m := (rfl)
@[simp] theorem entF_keep (F : Own → Option Own) (p : Nat → Option Nat) (m : PM) : scrubM F p (entF m) = entO m (F .imm) := by
  cases h : F .imm with
  | none =>
    apply List.ext_getElem
    · simp [scrubM, entF, entO]
    · intro j h1 h2
      simp [scrubM, entF, entO, PV.scrub, h, ints, scrubL_eq, Function.comp_def]
  | some o =>
    apply List.ext_getElem
    · simp [scrubM, entF, entO]
    · intro j h1 h2
      simp [scrubM, entF, entO, PV.scrub, h, ints, scrubL_eq, Function.comp_def]
@[simp] theorem toksM_entF (m : PM) : toksM (entF m) = [] := by
  induction m with
  | nil => rfl
  | cons e m ih =>
    have : entF (e :: m) = (.agg (u8s e.1), .sl .imm false 1 (ints .i64 e.2)) :: entF m := rfl
    rw [this, toksM, ih]
    have : ∀ l : List Int, toksOfL (u8s l) = [] := fun l => by induction l with
      | nil => rfl
      | cons a l ih => simp [ints, toksOfL, toksOf] at ih ⊢; exact ih
    simp [toksOf, this]
/-- A row of a key grows. -/
theorem ent_put {id j : Nat} {m : PM} (hj : j < m.length) (l : List Int) : putV (scrubM (Fkill (.cell id j)) some (ent id m)) j (.sl (.own (.cell id j)) false 1 (ints .i64 l)) = ent id (m.modify j fun e => (e.1, l)) := by
  apply List.ext_getElem
  · simp [putV, scrubM, ent]
  · intro i h1 h2
    have hi : i < m.length := by simpa [ent] using h2
    by_cases e : j = i
    · subst e
      simp [putV, scrubM, ent, List.getElem_modify, PV.scrub, ints, scrubL_eq, Function.comp_def]
    · have e' : ¬ i = j := fun h => e h.symm
      simp [putV, scrubM, ent, List.getElem_modify, PV.scrub, ints, scrubL_eq, Function.comp_def, e, e', Fkill]
theorem ent_new {id : Nat} {m : PM} {k l : List Int} {z : PV} : putV (ent id m ++ [(.agg (u8s k), z)]) m.length (.sl (.own (.cell id m.length)) false 1 (ints .i64 l)) = ent id (m ++ [(k, l)]) := by
  apply List.ext_getElem
  · simp [putV, ent]
  · intro i h1 h2
    have hi : i < m.length + 1 := by simpa [ent] using h2
    by_cases e : i < m.length
    · have e' : ¬ m.length = i := by omega
      simp [putV, ent, List.getElem_modify, List.getElem_append, e, e']
    · have e' : i = m.length := by omega
      subst e'
      simp [putV, ent, List.getElem_modify, List.getElem_append]
theorem ent_fz (id : Nat) (m : PM) : scrubM (Ffz (fzOf ((List.range m.length).map (.cell id)))) some (ent id m) = entF m := by
  apply List.ext_getElem
  · simp [scrubM, ent, entF]
  · intro j h1 h2
    have hj : j < m.length := by simpa [entF] using h2
    simp [scrubM, ent, entF, PV.scrub, Ffz, fzOf, hj, ints, scrubL_eq, Function.comp_def]

theorem addP_len {m : PM} {k : List Int} {i n : Nat} (h : ∀ e, e ∈ m → e.2.length ≤ n) : ∀ e, e ∈ addP m k i → e.2.length ≤ n + 1 := by
  unfold addP
  split
  · intro e he
    obtain ⟨q, hq, rfl⟩ := List.getElem_of_mem he
    have hq' : q < m.length := by simpa using hq
    have := h m[q] (List.getElem_mem hq')
    rw [List.getElem_modify]
    split
    · simp; omega
    · omega
  · intro e he
    rcases List.mem_append.1 he with he | he
    · have := h e he; omega
    · simp at he; subst he; simp
theorem pm_len (base : List Int) : ∀ i, ∀ e, e ∈ pm base i → e.2.length ≤ i
  | 0 => fun e he => by simp [pm] at he
  | i + 1 => addP_len (pm_len base i)
theorem addP_lens {m : PM} {k : List Int} {i : Int} : (addP m k i).length ≤ m.length + 1 := by
  unfold addP
  split <;> simp

set_option maxRecDepth 100000 in
set_option maxHeartbeats 4000000 in
theorem places_raw (bn : Bool) (base : List Int) (hb : base.length ≤ 1000) :
    Fc Tryd.prog 106 [.sl .imm bn 1 (u8s base)] [] (.mp 6) [(6, .map (ent 6 (pm base (base.length - 7))))] := by
  refine Fc.of (anys _ []) [] mixed Tryd.func106 rfl (by rfl) (by simp [Tryd.ntmps106]) (by decide) ?_
  simp -implicitDefEqProofs -dsimp [Tryd.ntmps106]
  refine LpK.mk (anys _ []) mixed (fun i => i ≤ base.length - 7)
    (fun (i : Nat) => ⟨[(0, .sl .imm bn 1 (u8s base)), (3, .mp 6), (4, .lit (.int .i64 i))], [(6, .map (ent 6 (pm base i)))], 30⟩) (fun i => base.length - i) 0 (by simp) (by simp -implicitDefEqProofs -dsimp [pm]) ?_
  intro i hi
  have hw : IntKind.i64.wrap ((i : Int) + 8) = ((i + 8 : Nat) : Int) := wrap64 (by omega) (by omega)
  have hw1 : IntKind.i64.wrap ((i : Int) + 1) = ((i + 1 : Nat) : Int) := wrap64 (by omega) (by omega)
  by_cases hl : i + 8 ≤ base.length
  · have hl2 : (i : Int) + 8 ≤ (base.length : Int) := by omega
    have h1 : (i : Int) ≤ i + 8 := by omega
    have ht : ((i : Int) + 8).toNat = i + 8 := by omega
    have hk : List.drop i (List.take (i + 8) base) = k8 base i := by rw [List.drop_take, k8]; congr 1; omega
    have hkl : (k8 base i).length = 8 := k8_length hl
    have hkt : List.take 8 (k8 base i) = k8 base i := List.take_of_length_le (by omega)
    have hks : keysB Tryd.prog 163 (ent 6 (pm base i)) = true := keysB_of rfl (pm_K8 base i (by omega))
    have hki : (ints .u8 (k8 base i)).all (isInt .u8) = true := isInt_ints _ _
    cases hf : (pm base i).findIdx? (fun e => decide (e.1 = k8 base i)) with
    | none =>
      have hp : pm base (i + 1) = pm base i ++ [(k8 base i, [(i : Int)])] := by rw [pm, addP, hf]
      have e1 : scrubM (Fren (adoptTk 6 (pm base i).length (.loc 27))) some (ent 6 (pm base i)) = ent 6 (pm base i) := ent_scrub fun j hj => by
        have : ¬ j = (pm base i).length := by omega
        simp [Fren, adoptTk, this]
      have e2 : putV (ent 6 (pm base i) ++ [(.agg (u8s (k8 base i)), .sl .imm true 0 [])]) (pm base i).length (.sl (.own (.cell 6 (pm base i).length)) false 1 [.lit (.int .i64 i)]) = ent 6 (pm base (i + 1)) := by
        rw [hp]; exact ent_new (l := [(i : Int)])
      simp -implicitDefEqProofs -dsimp [hw, hl, hl2, h1, ht, hk, hkl, hkt, hks, hki, intOf_ints, hf]
      exact .mk (i + 1) (by omega) (by omega) (by simp -implicitDefEqProofs -dsimp [hw1, e1, e2])
    | some j =>
      have hj : j < (pm base i).length := (List.findIdx?_eq_some_iff_getElem.1 hf).1
      have hp : pm base (i + 1) = (pm base i).modify j fun e => (e.1, e.2 ++ [(i : Int)]) := by rw [pm, addP, hf]
      have hg : (ent 6 (pm base i))[j]? = some (.agg (u8s (pm base i)[j].1), .sl (.own (.cell 6 j)) false 1 (ints .i64 (pm base i)[j].2)) := by simp [ent, List.getElem?_eq_getElem hj]
      have hlen := pm_len base i _ (List.getElem_mem hj)
      have hb2 : (pm base i)[j].2.length + 1 ≤ 140737488355328 := by omega
      have hb8 : ((pm base i)[j].2.length + 1) * 8 ≤ 140737488355328 := by omega
      have e3 : putV (scrubM (Fkill (.cell 6 j)) some (ent 6 (pm base i))) j (.sl (.own (.cell 6 j)) false 1 (ints .i64 (pm base i)[j].2 ++ [.lit (.int .i64 i)])) = ent 6 (pm base (i + 1)) := by
        have := ent_put (id := 6) hj ((pm base i)[j].2 ++ [(i : Int)])
        have e : ints .i64 ((pm base i)[j].2 ++ [(i : Int)]) = ints .i64 (pm base i)[j].2 ++ [.lit (.int .i64 i)] := by simp [ints]
        rw [e] at this
        rw [this, hp]
        congr 1
        apply List.ext_getElem
        · simp
        · intro q q1 q2
          rw [List.getElem_modify, List.getElem_modify]
          split
          · rename_i e; subst e; rfl
          · rfl
      simp -implicitDefEqProofs -dsimp [hw, hl, hl2, h1, ht, hk, hkl, hkt, hks, hki, intOf_ints, hf, hg, hj, hb2, hb8]
      exact .mk (i + 1) (by omega) (by omega) (by rw [ints_snoc] at e3; simp -implicitDefEqProofs -dsimp [hw1, e3])
  · have hl2 : ¬ (i : Int) + 8 ≤ (base.length : Int) := by omega
    have e : base.length - 7 = i := by omega
    simp -implicitDefEqProofs -dsimp [hw, hl, hl2, e]

theorem places_fn (bn : Bool) (base : List Int) (hb : base.length ≤ 1000) :
    Fc Tryd.prog 106 [.sl .imm bn 1 (u8s base)] [] (.mp 6) [(6, .map (entF (pm base (base.length - 7))))] := by
  have := (places_raw bn base hb).fz ((List.range (pm base (base.length - 7)).length).map (.cell 6))
  have e : Ob.scrub (Ffz (fzOf ((List.range (pm base (base.length - 7)).length).map (.cell 6)))) some (.map (ent 6 (pm base (base.length - 7)))) = .map (entF (pm base (base.length - 7))) := by
    simp only [Ob.scrub, ent_fz]
  simpa only [PV.scrub, scrubO, e] using this
end Go.Proofs.YtekokchejkjjjaaDoor

/-! Deltas: the longest copy that a text begins with. -/
namespace Go.Proofs.YtekokchejkjjjaaDoor
open Go.Sy

/-- The places among the first k at which some bytes stand. -/
def pl (base c : List Int) : Nat → List Nat
  | 0 => []
  | k + 1 => if k8 base k = c then pl base c k ++ [k] else pl base c k
def ofN (l : List Nat) : List Int := List.map (fun n : Nat => (n : Int)) l

/-- Each key stands once. -/
def Dist (m : PM) : Prop := ∀ (i j : Nat) (hi : i < m.length) (hj : j < m.length), m[i].1 = m[j].1 → i = j
theorem addP_dist {m : PM} {k : List Int} {i : Int} (h : Dist m) : Dist (addP m k i) := by
  unfold addP
  split
  · intro a b ha hb he
    have ha' : a < m.length := by simpa using ha
    have hb' : b < m.length := by simpa using hb
    refine h a b ha' hb' ?_
    rw [List.getElem_modify, List.getElem_modify] at he
    revert he
    split <;> split <;> exact id
  · rename_i hn
    rw [List.findIdx?_eq_none_iff] at hn
    intro a b ha hb he
    simp only [List.length_append, List.length_singleton] at ha hb
    rw [List.getElem_append, List.getElem_append] at he
    by_cases h1 : a < m.length <;> by_cases h2 : b < m.length
    · simp only [h1, h2, dif_pos] at he; exact h a b h1 h2 he
    · simp only [h1, h2, dif_pos, dif_neg, not_false_eq_true] at he
      have := hn _ (List.getElem_mem h1)
      simp at this he; exact absurd he this
    · simp only [h1, h2, dif_pos, dif_neg, not_false_eq_true] at he
      have := hn _ (List.getElem_mem h2)
      simp at this he; exact absurd he.symm this
    · omega
/-- What stands in the map at a key. -/
def getP (m : PM) (c : List Int) : List Int := match m.findIdx? fun e => decide (e.1 = c) with
  | some j => (m[j]?.map (·.2)).getD []
  | none => []
theorem getP_addP {m : PM} (hd : Dist m) (k c : List Int) (i : Int) : getP (addP m k i) c = if k = c then getP m c ++ [i] else getP m c := by
  have key : ∀ (m : PM), Dist m → ∀ (c l : List Int), (∃ j : Nat, m[j]? = some (c, l)) → getP m c = l := by
    intro m hd c l ⟨j, hj⟩
    have hlt := (List.getElem?_eq_some_iff.1 hj).1
    have hjv : m[j] = (c, l) := (List.getElem?_eq_some_iff.1 hj).2
    unfold getP
    cases hf : m.findIdx? fun e => decide (e.1 = c) with
    | none =>
      rw [List.findIdx?_eq_none_iff] at hf
      have := hf _ (List.getElem_mem hlt)
      simp [hjv] at this
    | some q =>
      obtain ⟨h1, h2, _⟩ := List.findIdx?_eq_some_iff_getElem.1 hf
      have : q = j := hd q j h1 hlt (by rw [hjv]; simpa using h2)
      subst this
      simp [hj]
  have none' : ∀ (m : PM) (c : List Int), (∀ e, e ∈ m → e.1 ≠ c) → getP m c = [] := by
    intro m c h
    unfold getP
    rw [List.findIdx?_eq_none_iff.2 fun e he => by simpa using h e he]
  have hd2 := addP_dist (k := k) (i := i) hd
  cases hf : m.findIdx? fun e => decide (e.1 = k) with
  | none =>
    have hn := List.findIdx?_eq_none_iff.1 hf
    have ea : addP m k i = m ++ [(k, [i])] := by rw [addP, hf]
    by_cases hkc : k = c
    · subst hkc
      rw [if_pos rfl, none' m k fun e he => by simpa using hn e he]
      exact key _ hd2 k [i] ⟨m.length, by rw [ea]; simp⟩
    · rw [if_neg hkc]
      by_cases hx : ∃ e, e ∈ m ∧ e.1 = c
      · obtain ⟨e, he, rfl⟩ := hx
        obtain ⟨j, hj⟩ := List.getElem?_of_mem he
        rw [key m hd e.1 e.2 ⟨j, hj⟩]
        refine key _ hd2 e.1 e.2 ⟨j, ?_⟩
        rw [ea, List.getElem?_append_left (List.getElem?_eq_some_iff.1 hj).1]; exact hj
      · have hx' : ∀ e, e ∈ m → e.1 ≠ c := fun e he h => hx ⟨e, he, h⟩
        rw [none' m c hx', none' _ c]
        intro e he
        rw [ea] at he
        rcases List.mem_append.1 he with he | he
        · exact hx' e he
        · simp at he; subst he; exact hkc
  | some q =>
    obtain ⟨h1, h2, _⟩ := List.findIdx?_eq_some_iff_getElem.1 hf
    have h2 : m[q].1 = k := by simpa using h2
    have ea : addP m k i = m.modify q fun e => (e.1, e.2 ++ [i]) := by rw [addP, hf]
    by_cases hkc : k = c
    · subst hkc
      rw [if_pos rfl, key m hd k m[q].2 ⟨q, by rw [List.getElem?_eq_getElem h1, ← h2]⟩]
      refine key _ hd2 k _ ⟨q, ?_⟩
      rw [ea, List.getElem?_modify]
      simp [List.getElem?_eq_getElem h1, h2]
    · rw [if_neg hkc]
      by_cases hx : ∃ e, e ∈ m ∧ e.1 = c
      · obtain ⟨e, he, rfl⟩ := hx
        obtain ⟨j, hj⟩ := List.getElem?_of_mem he
        rw [key m hd e.1 e.2 ⟨j, hj⟩]
        refine key _ hd2 e.1 e.2 ⟨j, ?_⟩
        have hne : ¬ q = j := fun h => by
          subst h
          rw [List.getElem?_eq_getElem h1] at hj
          have := Option.some.inj hj
          exact hkc (by rw [← h2, this])
        rw [ea, List.getElem?_modify]
        simp [hne, hj]
      · have hx' : ∀ e, e ∈ m → e.1 ≠ c := fun e he h => hx ⟨e, he, h⟩
        rw [none' m c hx', none' _ c]
        intro e he
        rw [ea] at he
        obtain ⟨n, hn, rfl⟩ := List.getElem_of_mem he
        have hn' : n < m.length := by simpa using hn
        have := hx' m[n] (List.getElem_mem hn')
        rw [List.getElem_modify]
        split <;> exact this
theorem pm_dist (base : List Int) : ∀ i, Dist (pm base i)
  | 0 => fun a b ha => by simp [pm] at ha
  | i + 1 => addP_dist (pm_dist base i)
theorem getP_pm (base c : List Int) : ∀ i, getP (pm base i) c = ofN (pl base c i)
  | 0 => rfl
  | i + 1 => by
    rw [pm, getP_addP (pm_dist base i), getP_pm base c i, pl]
    split <;> simp [ofN]
theorem pl_at8 (base text : List Int) (ht : 8 ≤ text.length) : ∀ k, k + 7 ≤ base.length → pl base (text.take 8) k = at8 base text k
  | 0, _ => rfl
  | k + 1, h => by
    rw [pl, at8, pl_at8 base text ht k (by omega)]
    have e : (8 ≤ cmn (base.drop k) text) ↔ k8 base k = text.take 8 := by
      rw [cmn_ge 8]
      simp only [List.length_drop, k8]
      exact ⟨fun h => h.2.2, fun h => ⟨by omega, ht, h⟩⟩
    by_cases hc : 8 ≤ cmn (base.drop k) text
    · rw [if_pos hc, if_pos (e.1 hc)]
    · rw [if_neg hc, if_neg fun h => hc (e.2 h)]
theorem at8_more (base text : List Int) : ∀ n k, base.length ≤ k + 7 → at8 base text (k + n) = at8 base text k
  | 0, k, _ => rfl
  | n + 1, k, h => by
    have := (cmn_le (base.drop (k + n)) text).1
    rw [List.length_drop] at this
    rw [show k + (n + 1) = (k + n) + 1 from rfl, at8, if_neg (by omega), at8_more base text n k h]
theorem pl_lt (base c : List Int) : ∀ k, ∀ i, i ∈ pl base c k → i < k
  | 0, i, h => by simp [pl] at h
  | k + 1, i, h => by
    rw [pl] at h
    split at h
    · rcases List.mem_append.1 h with h | h
      · have := pl_lt base c k i h; omega
      · simp at h; omega
    · have := pl_lt base c k i h; omega

/-- What the longest copy is, by the places of the first eight bytes. -/
theorem longest_is (base text : List Int) (ht : 8 ≤ text.length) : longL base text (pl base (text.take 8) (base.length - 7)) = if (best base text base.length).2 < 8 then (0, 0) else best base text base.length := by
  rw [← longL_best]
  by_cases h : 7 ≤ base.length
  · rw [pl_at8 base text ht _ (by omega)]
    have := at8_more base text 7 (base.length - 7) (by omega)
    rw [show base.length - 7 + 7 = base.length by omega] at this
    rw [this]
  · have e : base.length - 7 = 0 := by omega
    rw [e]
    have := at8_more base text base.length 0 (by omega)
    rw [Nat.zero_add] at this
    rw [this]; rfl

theorem getP_nil (m : PM) (c : List Int) (h : m.findIdx? (fun e => decide (e.1 = c)) = none) : getP m c = [] := by rw [getP, h]
theorem getP_some (m : PM) (c : List Int) (j : Nat) (h : m.findIdx? (fun e => decide (e.1 = c)) = some j) (hj : j < m.length) : getP m c = m[j].2 := by
  rw [getP, h]; simp [List.getElem?_eq_getElem hj]
theorem longL_take (base text : List Int) (l : List Nat) (k : Nat) (h : k < l.length) : longL base text (l.take (k + 1)) =
    if (longL base text (l.take k)).2 < cmn (base.drop l[k]) text then (l[k], cmn (base.drop l[k]) text) else longL base text (l.take k) := by
  rw [take_snoc l k h]
  unfold longL
  rw [List.foldl_append]; rfl
theorem longL_le (base text : List Int) (l : List Nat) : (longL base text l).2 ≤ text.length := by
  have : ∀ (l : List Nat) (p : Nat × Nat), p.2 ≤ text.length → (l.foldl (fun p k => if p.2 < cmn (base.drop k) text then (k, cmn (base.drop k) text) else p) p).2 ≤ text.length := by
    intro l
    induction l with
    | nil => exact fun p h => h
    | cons k l ih =>
      intro p h
      refine ih _ ?_
      by_cases hc : p.2 < cmn (base.drop k) text
      · simp only [hc, if_true]; exact (cmn_le _ _).2
      · simp only [hc, if_false]; exact h
  exact this l (0, 0) (by simp)

theorem keysF {m : PM} (h : K8 m) : keysB Tryd.prog 163 (entF m) = true := by
  rw [keysB, List.all_eq_true]
  intro x hx
  obtain ⟨n, hn, rfl⟩ := List.getElem_of_mem hx
  have hn' : n < m.length := by simpa using hn
  have := h _ (List.getElem_mem hn')
  simp [keyB, isInt_ints, this]

def longest' (base text : List Int) : Nat × Nat := if (best base text base.length).2 < 8 then (0, 0) else best base text base.length

set_option maxRecDepth 100000 in
set_option maxHeartbeats 8000000 in
theorem longest_fn (bn tn : Bool) (base text : List Int) (hb : base.length ≤ 1000) (ht : text.length ≤ 1000) :
    Fc Tryd.prog 107 [.sl .imm bn 1 (u8s base), .sl .imm tn 1 (u8s text), .mp 100000] [(100000, .map (entF (pm base (base.length - 7))))]
      (.tup [.lit (.int .i64 (longest' base text).1), .lit (.int .i64 (longest' base text).2)]) [(100000, .map (entF (pm base (base.length - 7))))] := by
  refine Fc.of (anys _ [116]) [] mixed Tryd.func107 rfl (by rfl) (by simp [Tryd.ntmps107]) (by decide) ?_
  by_cases h8 : text.length < 8
  · have h82 : (text.length : Int) < 8 := by omega
    have hl : longest' base text = (0, 0) := by
      have := (best_le base text base.length).1
      rw [longest', if_pos (by omega)]
    simp -implicitDefEqProofs -dsimp [Tryd.ntmps107, h8, h82, hl]
  · have h82 : ¬ (text.length : Int) < 8 := by omega
    have h83 : (8 : Int) ≤ text.length := by omega
    have h84 : 8 ≤ text.length := by omega
    have hkl : (text.take 8).length = 8 := by simp; omega
    have hks : keysB Tryd.prog 163 (entF (pm base (base.length - 7))) = true := keysF (by
      by_cases h : 7 ≤ base.length
      · exact pm_K8 base _ (by omega)
      · have e0 : base.length - 7 = 0 := by omega
        rw [e0]; exact fun e he => by simp [pm] at he)
    have hkt : List.take 8 (List.take 8 text) = List.take 8 text := by rw [List.take_take]; rfl
    have hki : (ints .u8 (text.take 8)).all (isInt .u8) = true := isInt_ints _ _
    have hL := longest_is base text h84
    have hg := getP_pm base (text.take 8) (base.length - 7)
    have hpl := pl_lt base (text.take 8) (base.length - 7)
    generalize hl : pl base (text.take 8) (base.length - 7) = l at hL hg hpl
    generalize hm : pm base (base.length - 7) = m at hg hks ⊢
    have hL : longest' base text = longL base text l := hL.symm
    cases hf : m.findIdx? (fun e => decide (e.1 = text.take 8)) with
    | none =>
      rw [getP_nil _ _ hf] at hg
      have hl0 : l = [] := by cases l with
        | nil => rfl
        | cons a l => simp [ofN] at hg
      have hz : longest' base text = (0, 0) := by rw [hL, hl0]; rfl
      simp -implicitDefEqProofs -dsimp [Tryd.ntmps107, h8, h82, h83, h84, hkl, hks, hki, hkt, intOf_ints, hf]
      refine LpK.mk (anys _ [116]) mixed (fun _ => True) (fun (_ : Unit) => ⟨[(6, .lit (.int .i64 0)), (7, .lit (.int .i64 0)), (20, .lit (.int .i64 0)), (21, .lit (.int .i64 0))], [(100000, .map (entF m))], 42⟩) (fun _ => 0) () trivial (by simp -implicitDefEqProofs -dsimp) ?_
      intro _ _
      simp -implicitDefEqProofs -dsimp [hz]
    | some j =>
      have hj : j < m.length := (List.findIdx?_eq_some_iff_getElem.1 hf).1
      rw [getP_some _ _ _ hf hj] at hg
      have hlen : (ofN l).length = l.length := by simp [ofN]
      have hll : l.length ≤ 1000 := by
        have := pm_len base (base.length - 7) m[j] (by rw [hm]; exact List.getElem_mem hj)
        rw [hg, hlen] at this; omega
      simp -implicitDefEqProofs -dsimp [Tryd.ntmps107, h8, h82, h83, h84, hkl, hks, hki, hkt, intOf_ints, hf, hj, hg, hlen]
      refine LpK.mk (anys _ [116]) mixed (fun k => k ≤ l.length)
        (fun (k : Nat) => ⟨[(0, .sl .imm bn 1 (u8s base)), (1, .sl .imm tn 1 (u8s text)), (6, .lit (.int .i64 (longL base text (l.take k)).1)), (7, .lit (.int .i64 (longL base text (l.take k)).2)),
          (19, .sl .imm false 1 (ints .i64 (ofN l))), (20, .lit (.int .i64 l.length)), (21, .lit (.int .i64 k))], [(100000, .map (entF m))], 42⟩)
        (fun k => l.length - k) 0 (by simp) (by simp -implicitDefEqProofs -dsimp [longL]) ?_
      intro k hk
      by_cases hkl2 : k < l.length
      · have hkl3 : (k : Int) < (l.length : Int) := by omega
        have hg1 : (ofN l)[k]'(by omega) = (l[k] : Int) := by simp [ofN]
        have hp := hpl l[k] (List.getElem_mem hkl2)
        have hp1 : (l[k] : Int) ≤ (base.length : Int) := by omega
        have hs := longL_take base text l k hkl2
        have hw : IntKind.i64.wrap ((k : Int) + 1) = ((k + 1 : Nat) : Int) := wrap64 (by omega) (by omega)
        simp -implicitDefEqProofs -dsimp [hkl2, hkl3, hlen, hg1, hp1]
        have hstop : (longL base text (l.take (k + 1))).2 = text.length → longest' base text = longL base text (l.take (k + 1)) := fun h => by
          rw [hL, ← longL_stop base text _ (l.drop (k + 1)) h, List.take_append_drop]
        by_cases hc : (longL base text (l.take k)).2 < cmn (base.drop l[k]) text
        · rw [if_pos hc] at hs
          by_cases he : cmn (base.drop l[k]) text = text.length
          · have he2 : (cmn (base.drop l[k]) text : Int) = (text.length : Int) := by omega
            have hz : longest' base text = (l[k], cmn (base.drop l[k]) text) := by rw [hstop (by rw [hs]; exact he), hs]
            have hc2 : (longL base text (l.take k)).2 < text.length := by omega
            refine CallK.reads ?_
            simp -implicitDefEqProofs -dsimp
            refine CallQ.same (common_fn bn tn (base.drop l[k]) text (by simp; omega)) rfl ?_
            simp -implicitDefEqProofs -dsimp [hc, hc2, he, he2, hz]
          · have he2 : ¬ (cmn (base.drop l[k]) text : Int) = (text.length : Int) := by omega
            refine CallK.reads ?_
            simp -implicitDefEqProofs -dsimp
            refine CallQ.same (common_fn bn tn (base.drop l[k]) text (by simp; omega)) rfl ?_
            simp -implicitDefEqProofs -dsimp [hc, he, he2, hw]
            refine .mk (k + 1) (by omega) (by omega) (by simp -implicitDefEqProofs -dsimp [hs])
        · rw [if_neg hc] at hs
          by_cases he : (longL base text (l.take k)).2 = text.length
          · have he2 : ((longL base text (l.take k)).2 : Int) = (text.length : Int) := by omega
            have hz : longest' base text = longL base text (l.take k) := by rw [hstop (by rw [hs]; exact he), hs]
            have hc2 : ¬ text.length < cmn (base.drop l[k]) text := by omega
            refine CallK.reads ?_
            simp -implicitDefEqProofs -dsimp
            refine CallQ.same (common_fn bn tn (base.drop l[k]) text (by simp; omega)) rfl ?_
            simp -implicitDefEqProofs -dsimp [hc, hc2, he, he2, hz]
          · have he2 : ¬ ((longL base text (l.take k)).2 : Int) = (text.length : Int) := by omega
            refine CallK.reads ?_
            simp -implicitDefEqProofs -dsimp
            refine CallQ.same (common_fn bn tn (base.drop l[k]) text (by simp; omega)) rfl ?_
            simp -implicitDefEqProofs -dsimp [hc, he, he2, hw]
            refine .mk (k + 1) (by omega) (by omega) (by simp -implicitDefEqProofs -dsimp [hs])
      · have e : k = l.length := by omega
        subst e
        rw [List.take_length, ← hL]
        simp -implicitDefEqProofs -dsimp [hkl2]

theorem nil_fz (n : Nat) (h : n < 18446744073709551616) : Fc Tryd.prog 69 [.sl .imm true 0 [], .lit (.int .u64 n)] [] (.sl .imm false 1 (u8s (enc n))) [] := by
  have := num_fz true [] n (by simp) (by simp) h
  exact this.args (by simp)

set_option maxRecDepth 100000 in
set_option maxHeartbeats 8000000 in
theorem make_fn (bn tn : Bool) (base text : List Int) (hb : base.length ≤ 1000) (ht : text.length ≤ 1000) :
    Fc Tryd.prog 91 [.sl .imm bn 1 (u8s base), .sl .imm tn 1 (u8s text)] [] (.sl .imm false 1 (u8s (makeS base text))) [] := by
  refine Fc.of (anys _ [69, 106, 107, 108]) [] mixed Tryd.func91 rfl (by rfl) (by simp [Tryd.ntmps91]) (by decide) ?_
  have w0 : IntKind.u64.wrap (text.length : Int) = (text.length : Int) := by rw [wrap_is_u64]; omega
  have e0 := enc_u64 (n := text.length) (by omega)
  simp -implicitDefEqProofs -dsimp [Tryd.ntmps91, w0]
  refine CallK.works ?_
  simp -implicitDefEqProofs -dsimp
  refine CallQ.same (nil_fz text.length (by omega)) rfl ?_
  simp -implicitDefEqProofs -dsimp
  refine CallK.works ?_
  simp -implicitDefEqProofs -dsimp
  refine CallQ.mk (places_fn bn base hb) (by simp) ?_
  simp -implicitDefEqProofs -dsimp
  refine LpK.mk (anys _ [69, 106, 107, 108]) mixed (fun (i, from', out) => i ≤ text.length ∧ from' ≤ i ∧ out.length + (i - from') ≤ 10 + 50 * i ∧ makeW base text i ((text.take i).drop from') out = makeS base text)
    (fun ((i, from', out) : Nat × Nat × List Int) => ⟨[(0, .sl .imm bn 1 (u8s base)), (1, .sl .imm tn 1 (u8s text)), (5, .sl .imm false 1 (u8s out)), (6, .mp 1160), (7, .lit (.int .i64 from')), (8, .lit (.int .i64 i))], [(1160, .map (entF (pm base (base.length - 7))))], 56⟩)
    (fun (i, _) => text.length - i) (0, 0, enc text.length) ⟨by simp, by simp, by simpa using e0, by simp [makeS]⟩ (by simp -implicitDefEqProofs -dsimp) ?_
  rintro ⟨i, from', out⟩ ⟨hi, hf, hlen, hm⟩
  by_cases hlt : i < text.length
  · have hlt2 : (i : Int) < (text.length : Int) := by omega
    have hlt3 : (i : Int) ≤ (text.length : Int) := by omega
    have hpl := best_le base (text.drop i) base.length
    simp only [List.length_drop] at hpl
    rw [makeW, dif_pos hlt] at hm
    simp -implicitDefEqProofs -dsimp [hlt, hlt2, hlt3]
    by_cases h8 : (best base (text.drop i) base.length).2 < 8
    · rw [dif_pos h8] at hm
      have hz : longest' base (text.drop i) = (0, 0) := if_pos h8
      have hiw : IntKind.i64.wrap ((i : Int) + 1) = ((i + 1 : Nat) : Int) := wrap64 (by omega) (by omega)
      have hop : (text.take (i + 1)).drop from' = (text.take i).drop from' ++ [text[i]] := by
        rw [take_snoc text i hlt, List.drop_append_of_le_length (by simp; omega)]
      refine CallK.works ?_
      simp -implicitDefEqProofs -dsimp
      refine CallQ.same (longest_fn bn tn base (text.drop i) hb (by simp; omega)) rfl ?_
      simp -implicitDefEqProofs -dsimp [hz, hiw]
      refine .mk (i + 1, from', out) ⟨by omega, by omega, by omega, by rw [hop]; exact hm⟩ (by simp; omega) (by simp -implicitDefEqProofs -dsimp)
    · rw [dif_neg h8] at hm
      have hz : longest' base (text.drop i) = best base (text.drop i) base.length := if_neg h8
      generalize best base (text.drop i) base.length = p at *
      obtain ⟨q, m⟩ := p
      simp only at hpl h8 hm
      have hm0 : ¬ (m : Int) = 0 := by omega
      have hm1 : ¬ m = 0 := by omega
      have hfi : (from' : Int) ≤ (i : Int) := by omega
      have hiw : IntKind.i64.wrap ((i : Int) + (m : Int)) = ((i + m : Nat) : Int) := by rw [wrap64 (by omega) (by omega)]; omega
      have wm : IntKind.u64.wrap (m : Int) = (m : Int) := by rw [wrap_is_u64]; omega
      have wa : IntKind.u64.wrap (q : Int) = (q : Int) := by rw [wrap_is_u64]; omega
      have e1 := enc_u64 (n := m) (by omega)
      have e2 := enc_u64 (n := q) (by omega)
      have hol : ((text.take i).drop from').length = i - from' := by simp; omega
      have hil := ins_le out ((text.take i).drop from') (by omega)
      refine CallK.works ?_
      simp -implicitDefEqProofs -dsimp
      refine CallQ.same (longest_fn bn tn base (text.drop i) hb (by simp; omega)) rfl ?_
      simp -implicitDefEqProofs -dsimp [hz, hm0, hm1, wm, wa, hiw, hfi, hf, hi]
      refine CallK.works ?_
      simp -implicitDefEqProofs -dsimp
      refine CallQ.same (insert_fn out ((text.take i).drop from') tn (by omega) (by omega)) rfl ?_
      simp -implicitDefEqProofs -dsimp [hz, hm0, hm1, wm, wa, hiw, hfi, hf, hi]
      refine CallK.works ?_
      simp -implicitDefEqProofs -dsimp
      refine CallQ.same (num_fz false (ins out ((text.take i).drop from')) m (by simp) (by omega) (by omega)) rfl ?_
      simp -implicitDefEqProofs -dsimp [hz, hm0, hm1, wm, wa, hiw, hfi, hf, hi]
      refine CallK.works ?_
      simp -implicitDefEqProofs -dsimp
      refine CallQ.same (num_fz false (ins out ((text.take i).drop from') ++ enc m) q (by simp) (by simp; omega) (by omega)) rfl ?_
      simp -implicitDefEqProofs -dsimp [hz, hm0, hm1, wm, wa, hiw, hfi, hf, hi]
      refine .mk (i + m, i + m, ins out ((text.take i).drop from') ++ enc m ++ enc q) ⟨by omega, by omega, by simp; omega, by rw [List.drop_take, Nat.sub_self, List.take_zero]; exact hm⟩ (by simp; omega) (by simp -implicitDefEqProofs -dsimp)
  · have hie : i = text.length := by omega
    subst hie
    rw [makeW, dif_neg hlt, List.take_length] at hm
    have hfi : (from' : Int) ≤ (text.length : Int) := by omega
    simp -implicitDefEqProofs -dsimp [hfi]
    refine CallK.works ?_
    simp -implicitDefEqProofs -dsimp
    refine CallQ.same (insert_fn out (text.drop from') tn (by omega) (by simp; omega)) rfl ?_
    simp -implicitDefEqProofs -dsimp [hfi, hf, hm]
end Go.Proofs.YtekokchejkjjjaaDoor
