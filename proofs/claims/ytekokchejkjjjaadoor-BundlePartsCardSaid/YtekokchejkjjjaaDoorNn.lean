/- Bundles: what is packed is unpacked. (and what stands on it) -/
import Derived.Test.YtekokchejkjjjaaDoorNm
import Derived.Test.YtekokchejkjjjaaDoorNk
import Derived.Test.YtekokchejkjjjaaDoorNi
set_option linter.unusedSimpArgs false
set_option linter.unusedVariables false

/-! Bundles: what is packed is unpacked. -/
namespace Go.Proofs.YtekokchejkjjjaaDoor
open Go.Sy
abbrev em : ByteArray := ⟨#[]⟩
theorem fndX_of_mem {A : List OB} {x : OB} (h : x ∈ A) : ∃ y, fndX A x.id = some y := by
  induction A with
  | nil => simp at h
  | cons y A ih =>
    rw [fndX]
    split
    · exact ⟨_, rfl⟩
    · rename_i hne
      rcases List.mem_cons.1 h with rfl | h
      · exact absurd rfl hne
      · exact ih h
theorem fndX_key {A B : List OB} (h : A.map OB.key = B.map OB.key) (i : ByteArray) : (fndX A i).map OB.key = (fndX B i).map OB.key := by
  induction A generalizing B with
  | nil => cases B with
    | nil => rfl
    | cons => simp at h
  | cons x A ih => cases B with
    | nil => simp at h
    | cons y B =>
      simp only [List.map_cons, List.cons.injEq] at h
      have hk : x.id = y.id := by have := h.1; simp [OB.key] at this; exact this.1
      rw [fndX, fndX, hk]
      split
      · simp [h.1]
      · exact ih h.2
/-- What an object's base is, and what tells it. -/
def FormOk (text : List Int) (A : List OB) (st : ByteArray × Bool × List Int) : Prop := (st.1 = em ∧ st.2.2 = text) ∨ (st.1 ≠ em ∧ ∃ y, fndX A st.1 = some y ∧ st.2.2 = makeS y.b text)
theorem rform_ok (text : List Int) (A : List OB) : ∀ (B : List OB) (st : ByteArray × Bool × List Int), (∀ x, x ∈ B → x ∈ A) → FormOk text A st → FormOk text A (rformL text A B st)
  | [], _, _, h => h
  | x :: B, st, hB, h => by
    rw [rformL]
    refine rform_ok text A B _ (fun y hy => hB y (by simp [hy])) ?_
    unfold fstep
    split
    · rename_i hc
      obtain ⟨y, hy⟩ := fndX_of_mem (hB x (by simp))
      refine .inr ⟨hc.1, y, hy, ?_⟩
      simp [fnO, fndR, hy]
    · exact h
theorem base_ok (k l : List OB) {i : Nat} {x : OB} (hx : l[i]? = some x) : FormOk x.b (k ++ l.take i) (baseI k l i) := by
  have hd : l.getD i ⟨⟨#[]⟩, true, []⟩ = x := by rw [List.getD_eq_getElem?_getD, hx]; rfl
  rw [baseI, hd, formL_r]
  exact rform_ok _ _ _ _ (fun y hy => hy) (.inl ⟨rfl, rfl⟩)
theorem base_le (k l : List OB) {i : Nat} {x : OB} (hx : l[i]? = some x) : (baseI k l i).2.2.length ≤ x.b.length := by
  have hd : l.getD i ⟨⟨#[]⟩, true, []⟩ = x := by rw [List.getD_eq_getElem?_getD, hx]; rfl
  rw [baseI, hd]
  exact formL_le _ _ _ _
theorem text_tx (nl : Bool) (i : ByteArray) (c : List Int) (limit : Int) (h : (i.size : Int) ≤ limit) (hs : i.size ≤ 1000) (hc : InB c) : WS.text ⟨nl, txA i ++ c, 0⟩ limit = ((false, bs i), ⟨nl, c, 0⟩) := by
  have := text_back nl (bs i) c limit (by rw [bs_length]; exact h) (by rw [bs_length]; omega) (inB_bs i) hc
  rw [bs_length] at this
  rw [txA, List.append_assoc]; exact this
theorem inB_app {a b : List Int} (ha : InB a) (hb : InB b) : InB (a ++ b) := by rw [inB_append]; exact ⟨ha, hb⟩
theorem inB_tx (i : ByteArray) : InB (txA i) := inB_app (inB_enc _) (inB_bs i)
/-- Behind what is read: what comes of it. -/
def oneR (A : List OB) (id base : ByteArray) (t : Bool × List Int) (w : WS) : (Option OB × Int) × WS :=
  match bodyS A base t with
  | (none, e) => ((none, e), w)
  | (some x, _) => if 131072 < x.2.length then ((none, 4), w) else if digOf x.2 ≠ id then ((none, 12), w) else ((some ⟨id, x.1, x.2⟩, 0), w)
theorem oneB_pack (A : List OB) (nl : Bool) (id base : ByteArray) (b c : List Int) (h1 : id.size ≤ 32) (h2 : base.size ≤ 32) (h3 : b.length ≤ 1000) (h4 : InB b) (hc : InB c) :
    oneB A ⟨nl, txA id ++ (txA base ++ (enc b.length ++ (b ++ c))), 0⟩ = oneR A id base (false, b) ⟨nl, c, 0⟩ := by
  have i1 : InB (enc b.length ++ (b ++ c)) := inB_app (inB_enc _) (inB_app h4 hc)
  have t1 := text_tx nl id (txA base ++ (enc b.length ++ (b ++ c))) 32 (by omega) (by omega) (inB_app (inB_tx _) i1)
  have t2 := text_tx nl base (enc b.length ++ (b ++ c)) 32 (by omega) (by omega) i1
  have t3 := text_back nl b c 262144 (by omega) (by omega) h4 hc
  unfold oneB oneR
  simp only [t1, t2, t3, ofBs_bs]
  rw [if_neg (by simp)] <;> rfl
/-- Objects by their digests, and of a size. -/
structure Dgs (l : List OB) : Prop where
  id : ∀ x, x ∈ l → x.id = digOf x.b
  len : ∀ x, x ∈ l → x.b.length ≤ 1000
  bytes : ∀ x, x ∈ l → InB x.b
theorem inB_makeS (base text : List Int) (h : InB text) : InB (makeS base text) := inB_makeW base text h _ 0 [] _ (Nat.le_refl _) (by simp [InB]) (inB_enc _)
/-- The objects from one on, together. -/
def tlP (k l : List OB) : Nat → Nat → List Int
  | _, 0 => []
  | i, j + 1 => packI k l i ++ tlP k l (i + 1) j
theorem pack_tl (k l : List OB) : ∀ (j i : Nat), packL k l (i + j) = packL k l i ++ tlP k l i j
  | 0, i => by simp [tlP]
  | j + 1, i => by
    have := pack_tl k l j (i + 1)
    rw [show i + (j + 1) = i + 1 + j by omega, this, packL, tlP, List.append_assoc]
theorem base_in {k l : List OB} (hl : Dgs l) {i : Nat} {x : OB} (hx : l[i]? = some x) : InB (baseI k l i).2.2 := by
  rcases base_ok k l hx with ⟨_, h⟩ | ⟨_, y, _, h⟩
  · rw [h]; exact hl.bytes x (List.mem_of_getElem? hx)
  · rw [h]; exact inB_makeS _ _ (hl.bytes x (List.mem_of_getElem? hx))
theorem inB_packI {k l : List OB} (hl : Dgs l) {i : Nat} (hi : i < l.length) : InB (packI k l i) :=
  inB_app (inB_tx _) (inB_app (inB_tx _) (inB_app (inB_enc _) (base_in hl (List.getElem?_eq_getElem hi))))
theorem inB_tl {k l : List OB} (hl : Dgs l) : ∀ (j i : Nat), i + j ≤ l.length → InB (tlP k l i j)
  | 0, _, _ => by simp [tlP, InB]
  | j + 1, i, h => inB_app (inB_packI hl (by omega)) (inB_tl hl j (i + 1) (by omega))
/-- Where unlike objects have unlike ids, what is packed is unpacked, by who has all bases; else a base that lacks is told. -/
theorem unpW_pack (k l kk : List OB) (hk : ∀ x, x ∈ k → x.id.size ≤ 32 ∧ x.b.length ≤ 1000) (hl : Dgs l) (nl : Bool)
    (H : ∀ (i : Nat) (out : List OB) (id : ByteArray) (y y' : OB), out.map OB.key = (l.take i).map OB.key → fndX (k ++ l.take i) id = some y → fndX (kk ++ out) id = some y' → y'.b = y.b) :
    ∀ (j i : Nat) (out : List OB), i + j = l.length → out.map OB.key = (l.take i).map OB.key →
      (∃ out', unpW kk j ⟨nl, tlP k l i j, 0⟩ out = ((some out', 0), ⟨nl, [], 0⟩) ∧ out'.map OB.key = l.map OB.key) ∨
      ((∃ w, unpW kk j ⟨nl, tlP k l i j, 0⟩ out = ((none, 11), w)) ∧ ∃ x, x ∈ k ∧ fndX kk x.id = none)
  | 0, i, out, hij, ho => .inl ⟨out, by rw [unpW, tlP], by rw [ho, List.take_of_length_le (by omega)]⟩
  | j + 1, i, out, hij, ho => by
    have hlt : i < l.length := by omega
    obtain ⟨x, hx⟩ : ∃ x, l[i] = x := ⟨_, rfl⟩
    have hx' : l[i]? = some x := by rw [List.getElem?_eq_getElem hlt, hx]
    have hd : l.getD i ⟨⟨#[]⟩, true, []⟩ = x := by rw [List.getD_eq_getElem?_getD, hx']; rfl
    have hxm := List.mem_of_getElem? hx'
    have hxl := hl.len x hxm
    have hbl := base_le k l hx'
    have hbi := base_in (k := k) hl hx'
    have hbo := base_ok k l hx'
    have hti := inB_tl (k := k) hl j (i + 1) (by omega)
    have hid : x.id.size ≤ 32 := by rw [hl.id x hxm, digOf_size]; exact Nat.le_refl _
    have hP : tlP k l i (j + 1) = txA x.id ++ (txA (baseI k l i).1 ++ (enc (baseI k l i).2.2.length ++ ((baseI k l i).2.2 ++ tlP k l (i + 1) j))) := by
      rw [tlP, packI, hd]; simp only [List.append_assoc]
    obtain ⟨⟨sb, sn, sl⟩, hst⟩ : ∃ st, st = baseI k l i := ⟨_, rfl⟩
    rw [← hst] at hbl hbi hbo hP
    simp only at hbl hbi hP
    have step : ∀ n, oneB (kk ++ out) ⟨nl, tlP k l i (j + 1), 0⟩ = ((some ⟨x.id, n, x.b⟩, 0), ⟨nl, tlP k l (i + 1) j, 0⟩) →
        (∃ out', unpW kk (j + 1) ⟨nl, tlP k l i (j + 1), 0⟩ out = ((some out', 0), ⟨nl, [], 0⟩) ∧ out'.map OB.key = l.map OB.key) ∨
        ((∃ w, unpW kk (j + 1) ⟨nl, tlP k l i (j + 1), 0⟩ out = ((none, 11), w)) ∧ ∃ x, x ∈ k ∧ fndX kk x.id = none) := fun n hn => by
      have ih := unpW_pack k l kk hk hl nl H j (i + 1) (out ++ [⟨x.id, n, x.b⟩]) (by omega) (by
        rw [List.map_append, ho, List.take_succ_eq_append_getElem hlt, List.map_append, hx]; rfl)
      rw [unpW, hn]
      exact ih
    have fin : ∀ n, bodyS (kk ++ out) sb (false, sl) = (some (n, x.b), 0) → oneR (kk ++ out) x.id sb (false, sl) ⟨nl, tlP k l (i + 1) j, 0⟩ = ((some ⟨x.id, n, x.b⟩, 0), ⟨nl, tlP k l (i + 1) j, 0⟩) := fun n hn => by
      rw [oneR, hn]
      simp only
      rw [if_neg (by omega), if_neg (fun h => h (hl.id x hxm).symm)]
    rcases hbo with ⟨h1, h2⟩ | ⟨h1, y, hy, h2⟩
    · simp only at h1 h2
      subst h1; subst h2
      refine step false ?_
      rw [hP, oneB_pack _ _ _ _ _ _ hid (by decide) (by omega) hbi hti]
      exact fin false (by rw [bodyS, if_pos rfl])
    · simp only at h1 h2 hy
      obtain ⟨hym, hyi⟩ := fndX_mem hy
      have hsb : sb.size ≤ 32 ∧ y.b.length ≤ 1000 := by
        rw [← hyi]
        rcases List.mem_append.1 hym with h | h
        · exact hk y h
        · have hm := List.mem_of_mem_take h
          exact ⟨by rw [hl.id y hm, digOf_size]; exact Nat.le_refl _, hl.len y hm⟩
      have hO := oneB_pack (kk ++ out) nl x.id sb sl (tlP k l (i + 1) j) hid hsb.1 (by omega) hbi hti
      rw [← hP] at hO
      cases hf : fndX (kk ++ out) sb with
      | some y' =>
        have hb' := H i out sb y y' ho hy hf
        refine step x.b.isEmpty ?_
        rw [hO]
        refine fin _ ?_
        have hp := playS_make y'.nl false y'.b x.b (by rw [hb']; exact hsb.2) hxl (hl.bytes x hxm)
        rw [bodyS, if_neg h1, hf]
        simp only
        rw [h2, ← hb', hp]
      | none =>
        refine .inr ⟨⟨⟨nl, tlP k l (i + 1) j, 0⟩, ?_⟩, ?_⟩
        · rw [unpW, hO, oneR, bodyS, if_neg h1, hf]
        · refine ⟨y, ?_, ?_⟩
          · rcases List.mem_append.1 hym with h | h
            · exact h
            · exfalso
              have hkm : y.key ∈ out.map OB.key := by rw [ho]; exact List.mem_map_of_mem h
              obtain ⟨z, hz, hze⟩ := List.mem_map.1 hkm
              have hzi : z.id = sb := by simp only [OB.key, Prod.mk.injEq] at hze; rw [hze.1, hyi]
              obtain ⟨q, hq⟩ := fndX_of_mem (List.mem_append_right kk hz)
              rw [hzi, hf] at hq; cases hq
          · rw [hyi]
            cases hg : fndX kk sb with
            | none => rfl
            | some q =>
              obtain ⟨hq, hqi⟩ := fndX_mem hg
              obtain ⟨q', hq'⟩ := fndX_of_mem (List.mem_append_left out hq)
              rw [hqi, hf] at hq'; cases hq'
/-- The whole bundle. -/
theorem unpS_pack (k l kk : List OB) (hk : ∀ x, x ∈ k → x.id.size ≤ 32 ∧ x.b.length ≤ 1000) (hl : Dgs l) (h64 : l.length ≤ 64) (nl : Bool)
    (H : ∀ (i : Nat) (out : List OB) (id : ByteArray) (y y' : OB), out.map OB.key = (l.take i).map OB.key → fndX (k ++ l.take i) id = some y → fndX (kk ++ out) id = some y' → y'.b = y.b) :
    (∃ out', unpS kk nl (packL k l l.length) = (some out', 0) ∧ out'.map OB.key = l.map OB.key) ∨ (unpS kk nl (packL k l l.length) = (none, 11) ∧ ∃ x, x ∈ k ∧ fndX kk x.id = none) := by
  have hP := pack_tl k l l.length 0
  rw [Nat.zero_add, packL] at hP
  have hT := inB_tl (k := k) hl l.length 0 (by omega)
  have hN := num_back nl l.length (by omega) (tlP k l 0 l.length) hT
  rw [unpS, hP, hN]
  simp only
  rw [if_neg (by omega)]
  rcases unpW_pack k l kk hk hl nl H l.length 0 [] (by omega) rfl with ⟨o, h1, h2⟩ | ⟨⟨w, h1⟩, h2⟩
  · refine .inl ⟨o, ?_, h2⟩
    rw [h1, unpE, if_neg (by simp [WS.fin])]
  · refine .inr ⟨?_, h2⟩
    rw [h1, unpE]
theorem sameO_of {a b : List OB} (h : a.map OB.key = b.map OB.key) : sameO a b = true := decide_eq_true h
/-- By who knows the same. -/
theorem same_H (k l : List OB) : ∀ (i : Nat) (out : List OB) (id : ByteArray) (y y' : OB), out.map OB.key = (l.take i).map OB.key → fndX (k ++ l.take i) id = some y → fndX (k ++ out) id = some y' → y'.b = y.b := by
  intro i out id y y' ho h1 h2
  have := fndX_key (A := k ++ out) (B := k ++ l.take i) (by rw [List.map_append, List.map_append, ho]) id
  rw [h1, h2] at this
  simp only [Option.map_some, Option.some.injEq, OB.key, Prod.mk.injEq] at this
  exact this.2
theorem unpS_same (k l : List OB) (hk : ∀ x, x ∈ k → x.id.size ≤ 32 ∧ x.b.length ≤ 1000) (hl : Dgs l) (h64 : l.length ≤ 64) (nl : Bool) :
    ∃ out', unpS k nl (packL k l l.length) = (some out', 0) ∧ out'.map OB.key = l.map OB.key := by
  rcases unpS_pack k l k hk hl h64 nl (same_H k l) with h | ⟨_, x, hx, hn⟩
  · exact h
  · obtain ⟨y, hy⟩ := fndX_of_mem hx
    rw [hn] at hy; cases hy
/-- By who knows others, where unlike objects have unlike ids. -/
theorem un_H (k l kk : List OB) (U : ∀ x y, x ∈ kk ++ (k ++ l) → y ∈ kk ++ (k ++ l) → x.id = y.id → x.b = y.b) : ∀ (i : Nat) (out : List OB) (id : ByteArray) (y y' : OB), out.map OB.key = (l.take i).map OB.key → fndX (k ++ l.take i) id = some y → fndX (kk ++ out) id = some y' → y'.b = y.b := by
  intro i out id y y' ho h1 h2
  obtain ⟨m1, e1⟩ := fndX_mem h1
  obtain ⟨m2, e2⟩ := fndX_mem h2
  have n1 : y ∈ kk ++ (k ++ l) := by
    rcases List.mem_append.1 m1 with h | h
    · simp [h]
    · simp [List.mem_of_mem_take h]
  rcases List.mem_append.1 m2 with h | h
  · exact U y' y (by simp [h]) n1 (by rw [e1, e2])
  · have hm : y'.key ∈ (l.take i).map OB.key := by rw [← ho]; exact List.mem_map_of_mem h
    obtain ⟨z, hz, hze⟩ := List.mem_map.1 hm
    simp only [OB.key, Prod.mk.injEq] at hze
    rw [← hze.2]
    exact U z y (by simp [List.mem_of_mem_take hz]) n1 (by rw [hze.1, e1, e2])
end Go.Proofs.YtekokchejkjjjaaDoor

/-! Bundles: the chapter's example. -/
namespace Go.Proofs.YtekokchejkjjjaaDoor
open Go.Sy
theorem named_dgs {l : List ByteArray} (h : ∀ s, s ∈ l → s.size ≤ 1000) : Dgs (named l) := by
  constructor <;> intro x hx <;> simp only [named, List.mem_map] at hx <;> obtain ⟨s, hs, rfl⟩ := hx
  · rfl
  · simp only [bs_length]; exact h s hs
  · exact inB_bs s
theorem Dgs.known {l : List OB} (h : Dgs l) : ∀ x, x ∈ l → x.id.size ≤ 32 ∧ x.b.length ≤ 1000 := fun x hx => ⟨by rw [h.id x hx, digOf_size]; exact Nat.le_refl _, h.len x hx⟩
theorem Dgs.fit {l : List OB} (h : Dgs l) : Fit l := ⟨fun x hx => by have := (h.known x hx).1; omega, fun x hx => h.len x hx⟩
theorem fit_nil : Fit [] := ⟨fun _ h => by simp at h, fun _ h => by simp at h⟩
theorem inB_pack {k l : List OB} (hl : Dgs l) : InB (packL k l l.length) := by
  have hP := pack_tl k l l.length 0
  rw [Nat.zero_add, packL] at hP
  rw [hP]
  exact inB_app (inB_enc _) (inB_tl hl _ _ (by omega))
theorem packN_fn (l : List OB) (n2 : Bool) (hl : Fit l) (h64 : l.length ≤ 64) :
    Fc Tryd.prog 38 [.sl .imm true 0 [], .sl .imm n2 2 (obl l)] [] (.tup [.sl .imm false 1 (u8s (packL [] l l.length)), .lit (.int .i64 0)]) [] :=
  (pack_fn true n2 [] l fit_nil hl (by simp) h64).args (xs := [.sl .imm true 0 [], .sl .imm n2 2 (obl l)]) (by simp)
theorem unpackN_fn (nl : Bool) (b : List Int) (hn : nl = true → b = []) (hi : InB b) (hl : b.length ≤ 1000000) :
    Fc Tryd.prog 40 [.sl .imm true 0 [], .sl .imm nl 1 (u8s b)] [] (.tup [oblPV (unpS [] nl b).1, .lit (.int .i64 (unpS [] nl b).2)]) [] :=
  (unpack_fn true [] (by simp) (by simp) nl b hn hi hl).args (xs := [.sl .imm true 0 [], .sl .imm nl 1 (u8s b)]) (by simp)
theorem cut123 : cutP [1, 2, 3] 2 = [[1, 2], [3]] := by decide

set_option maxRecDepth 100000 in
set_option maxHeartbeats 16000000 in
theorem wake_fn : Fc Tryd.prog 36 [] [] (.lit (.bool true)) [] := by
  have hP0 := (packN_fn [] true fit_nil (by simp)).args (xs := [.sl .imm true 0 [], .sl .imm true 0 []]) (by simp)
  have e0 : packL [] [] ([] : List OB).length = [0] := by rw [show ([] : List OB).length = 0 from rfl, packL, show ([] : List OB).length = 0 from rfl, enc_lt (by omega)]; rfl
  rw [e0] at hP0
  obtain ⟨x, hx⟩ : ∃ x : ByteArray, x = ⟨#[97, 98, 99]⟩ := ⟨_, rfl⟩
  have hxs : x.size ≤ 1000 := by rw [hx]; decide
  have hD : Dgs (named [x]) := named_dgs (by simp [hxs])
  have hN := namedI_fn false [x] (by simp) (by simp; omega)
  obtain ⟨l, hl⟩ : ∃ l, l = named [x] := ⟨_, rfl⟩
  rw [← hl] at hD hN
  have hll : l.length = 1 := by rw [hl]; simp
  have hP := packN_fn l false hD.fit (by omega)
  have hPl := packL_length fit_nil hD.fit (by omega) l.length (Nat.le_refl _)
  have hPi := inB_pack (k := []) hD
  obtain ⟨o, h1, h2⟩ := unpS_same [] l (by simp) hD (by omega) false
  obtain ⟨p, hp⟩ : ∃ p, p = packL [] l l.length := ⟨_, rfl⟩
  rw [← hp] at hP hPi hPl h1
  have hU := unpackN_fn false p (by simp) hPi (by omega)
  rw [h1] at hU
  have hol : o.length = 1 := by have := congrArg List.length h2; simpa [hll] using this
  have hS := osame_fn o.isEmpty false o l (by omega) (fun y hy => by
    have : y.key ∈ l.map OB.key := by rw [← h2]; exact List.mem_map_of_mem hy
    obtain ⟨z, hz, hze⟩ := List.mem_map.1 this
    simp only [OB.key, Prod.mk.injEq] at hze
    rw [← hze.2]; have := hD.len z hz; omega)
  rw [sameO_of h2] at hS
  have hT := parts_fn false [1, 2, 3] (by simp) (by simp) 2 (by omega) (by omega)
  rw [cut123] at hT
  have hJ := join_fn [[1, 2], [3]] (by simp) (by simp) (by simp)
  simp only [oblPV_some] at hU
  have hZ1 := same_fn false false [0] [0] (by simp)
  have hZ2 := same_fn false false [1, 2, 3] [1, 2, 3] (by simp)
  refine Fc.of (anys _ [38, 44, 40, 46, 26, 42, 48]) [] mixed Tryd.func36 rfl (by rfl) (by simp [Tryd.ntmps36]) (by decide) ?_
  simp -implicitDefEqProofs -dsimp [Tryd.ntmps36]
  refine CallK.works ?_
  simp -implicitDefEqProofs -dsimp
  refine CallQ.mk (hP0) (by simp) ?_
  simp -implicitDefEqProofs -dsimp
  rw [← hx]
  refine CallK.works ?_
  simp -implicitDefEqProofs -dsimp
  refine CallQ.mk (hN) (by simp) ?_
  simp -implicitDefEqProofs -dsimp
  refine CallK.works ?_
  simp -implicitDefEqProofs -dsimp
  refine CallQ.mk (hP) (by simp) ?_
  simp -implicitDefEqProofs -dsimp
  refine CallK.works ?_
  simp -implicitDefEqProofs -dsimp
  refine CallQ.mk (hU) (by simp) ?_
  simp -implicitDefEqProofs -dsimp
  refine CallK.works ?_
  simp -implicitDefEqProofs -dsimp
  refine CallQ.mk (hT) (by simp) ?_
  simp -implicitDefEqProofs -dsimp
  refine CallK.reads ?_
  simp -implicitDefEqProofs -dsimp
  refine CallQ.same (hZ1) rfl ?_
  simp -implicitDefEqProofs -dsimp
  refine CallK.reads ?_
  simp -implicitDefEqProofs -dsimp
  refine CallQ.same (hS) rfl ?_
  simp -implicitDefEqProofs -dsimp
  refine CallK.works ?_
  simp -implicitDefEqProofs -dsimp
  refine CallQ.mk (hJ) (by simp) ?_
  simp -implicitDefEqProofs -dsimp
  refine CallK.reads ?_
  simp -implicitDefEqProofs -dsimp
  refine CallQ.same (hZ2) rfl ?_
  simp -implicitDefEqProofs -dsimp
end Go.Proofs.YtekokchejkjjjaaDoor
