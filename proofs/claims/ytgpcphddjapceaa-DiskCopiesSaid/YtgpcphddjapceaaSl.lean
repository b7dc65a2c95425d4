/- A region that draws its order: the rule holds. -/
import Derived.Test.YtgpcphddjapceaaSk
namespace Go.Sy
section
variable {P : Program} {E : List (Spec P)} {r : Option Nat} {ops : Array Oper}

/-- What operation i tells at this stage, whatever else stands in slots. -/
def EvalAt (P : Program) (r : Option Nat) (ops : Array Oper) (R : List (Nat × PV)) (h : List (Nat × Ob)) (nt : Nat) (i : Nat) : Prop :=
  ∃ o x, ops[i]? = some o ∧ (∀ d, o.dst = some d → getR R d = x) ∧
    ∀ rs', (∀ s, s ∈ o.looksAt ops → getR rs' s = getR R s) → OpG P r ops o ⟨rs', h, nt⟩ (· = (St.mk rs' h nt).put o.dst x)

theorem newsOf_mem {ps : List (Bool × Nat)} {j : Nat} : j ∈ newsOf ps ↔ (true, j) ∈ ps := by
  induction ps with
  | nil => simp [newsOf]
  | cons q l ih =>
    obtain ⟨b, i⟩ := q
    cases b <;> simp [newsOf, ih]

theorem put_get {rs : List (Nat × PV)} {h : List (Nat × Ob)} {nt : Nat} {d : Option Tmp} {x : PV} (hd : ∀ k, d = some k → k < nt) :
    ∃ R, (St.mk rs h nt).put d x = ⟨R, h, nt⟩ ∧ ∀ s, getR R s = if d = some s then x else getR rs s := by
  cases d with
  | none => exact ⟨rs, rfl, fun s => by simp⟩
  | some k =>
    have hk : k < nt := hd k rfl
    refine ⟨(k, x) :: rs, by simp [St.put, hk], fun s => ?_⟩
    simp [getR]

/-- A stage, evaluated. -/
theorem stage {K : St → Prop} (ps : List (Bool × Nat)) : ∀ (R : List (Nat × PV)) (h : List (Nat × Ob)) (nt : Nat), pwP P E ops ps ⟨R, h, nt⟩ K → stageOK ops ps = true → (ps.all fun q => pureAt P ops q.2) = true → (∀ j d, j ∈ newsOf ps → dstAt ops j = some d → d ∉ looksOf ops j) →
    ∃ R', K ⟨R', h, nt⟩ ∧ (∀ q, q ∈ ps → EvalAt P r ops R' h nt q.2) ∧ (∀ s, (∀ j, j ∈ newsOf ps → dstAt ops j ≠ some s) → getR R' s = getR R s) ∧ (∀ q o d, q ∈ ps → ops[q.2]? = some o → o.dst = some d → d < nt) := by
  induction ps with
  | nil => exact fun R h nt hp _ _ _ => ⟨R, hp, fun q hq => (by cases hq), fun s _ => rfl, fun q _ _ hq => (by cases hq)⟩
  | cons q l ih =>
    intro R h nt hp hst hpu hself
    obtain ⟨b, i⟩ := q
    simp only [stageOK, Bool.and_eq_true] at hst
    simp only [List.all_cons, Bool.and_eq_true] at hpu
    have hpi : ∀ o, ops[i]? = some o → isPure P o = true := fun o ho => by
      have := hpu.1
      simpa [pureAt, ho] using this
    have hlater : ∀ j d, j ∈ newsOf l → dstAt ops j = some d → d ∉ looksOf ops i ∧ dstAt ops i ≠ some d := fun j d hj hd => by
      have := List.all_eq_true.1 hst.1 j hj
      simpa [hd] using this
    -- What was told at an earlier place of the stage still is.
    have lift : ∀ (R1 R' : List (Nat × PV)) (o : Oper) (x : PV), ops[i]? = some o → (∀ d, o.dst = some d → getR R1 d = x) → (∀ s, (∀ j, j ∈ newsOf l → dstAt ops j ≠ some s) → getR R' s = getR R1 s) →
        (∀ rs', (∀ s, s ∈ o.looksAt ops → getR rs' s = getR R1 s) → OpG P r ops o ⟨rs', h, nt⟩ (· = (St.mk rs' h nt).put o.dst x)) → EvalAt P r ops R' h nt i := by
      intro R1 R' o x ho hx hsame hev
      have hlo : looksOf ops i = o.looksAt ops := by simp [looksOf, ho]
      refine ⟨o, x, ho, fun d hd => ?_, fun rs' hg => hev rs' fun s hs => ?_⟩
      · rw [hsame d fun j hj hjd => (hlater j d hj hjd).2 (by simp [dstAt, ho, hd])]
        exact hx d hd
      · rw [hg s hs, hsame s fun j hj hjd => (hlater j s hj hjd).1 (by rw [hlo]; exact hs)]
    cases b with
    | true =>
      simp only [pwP] at hp
      cases ho : ops[i]? with
      | none => rw [ho] at hp; exact hp.elim
      | some o =>
        rw [ho] at hp
        obtain ⟨hd, hp⟩ := hp
        obtain ⟨T, h', x, hT, hk, hpure, hall⟩ := pwG_spc (r := r) hp
        obtain ⟨rfl, e0⟩ := hpure (hpi o ho)
        simp only at e0
        subst e0
        rw [mapT_id] at hk
        simp only at hd hall
        obtain ⟨R1, e1, e2⟩ := put_get (rs := R) (x := x) hd
        rw [e1] at hk
        obtain ⟨R', k1, k2, k3, k4⟩ := ih R1 _ nt hk hst.2 hpu.2 (fun j d hj => hself j d (by simp [newsOf, hj]))
        refine ⟨R', k1, fun q hq => ?_, fun s hs => ?_, fun q o' d hq ho' hd' => ?_⟩
        · rcases List.mem_cons.1 hq with rfl | hq
          · refine lift R1 R' o x ho (fun d hd => by rw [e2]; simp [hd]) k3 fun rs' hg => ?_
            -- the operands' slots are not its own
            have := hall rs' fun s hs => ?_
            · have e := mapT_id (St.mk rs' h' nt)
              simp only at e
              rw [e] at this
              exact this
            · rw [hg s hs, e2, if_neg]
              exact fun hds => hself i s (by simp [newsOf]) (by simp [dstAt, ho, hds]) (by simpa [looksOf, ho] using hs)
          · exact k2 q hq
        · rw [k3 s fun j hj => hs j (by simp [newsOf, hj]), e2, if_neg]
          exact fun h => hs i (by simp [newsOf]) (by simp [dstAt, ho, h])
        · rcases List.mem_cons.1 hq with rfl | hq
          · rw [ho] at ho'; cases ho'; exact hd d hd'
          · exact k4 q o' d hq ho' hd'
    | false =>
      simp only [pwP] at hp
      cases ho : ops[i]? with
      | none => rw [ho] at hp; exact hp.elim
      | some o =>
        rw [ho] at hp
        obtain ⟨hd, hp, hrest⟩ := hp
        obtain ⟨T, h', x, hT, hk, hpure, hall⟩ := pwG_spc (r := r) hp
        obtain ⟨rfl, e0⟩ := hpure (hpi o ho)
        simp only at e0
        subst e0
        rw [mapT_id] at hk
        simp only at hd hall hk
        obtain ⟨R1, e1, e2⟩ := put_get (rs := R) (x := x) hd
        rw [e1] at hk
        obtain ⟨R', k1, k2, k3, k4⟩ := ih R _ nt hrest hst.2 hpu.2 (fun j d hj => hself j d (by simpa [newsOf] using hj))
        refine ⟨R', k1, fun q hq => ?_, fun s hs => ?_, fun q o' d hq ho' hd' => ?_⟩
        · rcases List.mem_cons.1 hq with rfl | hq
          · refine lift R R' o x ho (fun d hd => ?_) k3 fun rs' hg => ?_
            · have := hk d hd
              rw [← this, e2]; simp [hd]
            · have := hall rs' hg
              have e := mapT_id (St.mk rs' h' nt)
              simp only at e
              rw [e] at this
              exact this
          · exact k2 q hq
        · exact k3 s fun j hj => hs j (by simpa [newsOf] using hj)
        · rcases List.mem_cons.1 hq with rfl | hq
          · rw [ho] at ho'; cases ho'; exact hd d hd'
          · exact k4 q o' d hq ho' hd'
theorem sepOK_eff (L : List (Nat × List (Bool × Nat))) : ∀ (D M : List Nat), sepOK D M L = true → ∀ f, f ∈ L → f.1 ∉ D ∧ f.1 ∉ M := by
  induction L with
  | nil => exact fun D M _ f hf => (by cases hf)
  | cons c L ih =>
    obtain ⟨e, qs⟩ := c
    intro D M h f hf
    simp only [sepOK, Bool.and_eq_true, Bool.not_eq_true'] at h
    rcases List.mem_cons.1 hf with rfl | hf
    · exact ⟨fun hd => (by have := h.1.1.1.1; simp [hd] at this), fun hm => (by have := h.1.1.1.2; simp [hm] at this)⟩
    · obtain ⟨h1, h2⟩ := ih _ _ h.2 f hf
      exact ⟨fun hd => h1 (List.mem_cons_of_mem _ hd), fun hm => h2 (List.mem_append_right _ hm)⟩

theorem drawn {A N : List Nat} (hA : okA ops A = true) (hN : readOK ops A N = true) {K : St → Prop} {Q : Exit → St → Prop} (hQ : ∀ s, K s → Q .normal s) {g0 : G} {w0 : World} {ds : List Deferred} (fuel : Nat) :
    ∀ (listed : Array Bool) (R : List (Nat × PV)) (h : List (Nat × Ob)) (nt : Nat) (ps : List (Bool × Nat)) (L : List (Nat × List (Bool × Nat))) (D M : List Nat) (g : G) (a : Act) (w : World) (V : List (Nat × PV)),
      listed.size = ops.size → unl listed ops.size ≤ fuel → Closed ops listed →
      (∀ q, q ∈ ps → EvalAt P r ops R h nt q.2) → (∀ q o d, q ∈ ps → ops[q.2]? = some o → o.dst = some d → d < nt) →
      pwE P E ops L ⟨R, h, nt⟩ K → Sim g ⟨V, h, nt⟩ a w → WF g w → Ext g0 w0 g w → a.defers = ds →
      (∀ s, (∀ j, j ∈ M → ¬ Lst listed j → dstAt ops j ≠ some s) → getR V s = getR R s) →
      (∀ i, Lst listed i → i ∈ D ∨ i ∈ M) → (∀ e, e ∈ D → Lst listed e) → covOK ops A D ps L = true → sepOK D M L = true → (∀ q, q ∈ ps → q.2 ∈ M) →
      (∀ j, j ∈ M → j ∈ N) → (∀ f, f ∈ L → (∀ j, j ∈ newsOf f.2 → j ∈ N) ∧ (f.2.all fun q => pureAt P ops q.2) = true ∧ stageOK ops f.2 = true) →
      wpAnyIn (FR r) 0 P .any ops (Post g0 w0 ds Q) fuel listed a w := by
  induction fuel with
  | zero =>
    intro listed R h nt ps L D M g a w V hsz hfu hcl hev hdl hpe hs hw he hds hag hsub heff hcov hsep hpm hMN hL
    have hall := unl_zero (listed := listed) ops.size (by omega)
    have hrd : Region.ready .any ops listed = [] := by
      cases hr : Region.ready .any ops listed with
      | nil => rfl
      | cons i l =>
        obtain ⟨hi, hn, _⟩ := ready_cases hsz (i := i) (by rw [hr]; exact List.mem_cons_self ..)
        exact absurd (hall i hi) hn
    refine ⟨hrd, ?_⟩
    cases L with
    | nil =>
      refine ⟨g, ⟨R, h, nt⟩, hQ _ hpe, ⟨fun s => ?_, hs.nt, hs.heap⟩, hw, he, hds⟩
      show Rep g w (getR R s) _
      rw [← hag s fun j hj hnl hd => hnl (hall j ?_)]
      · exact hs.regs s
      · cases ho : ops[j]? with
        | none => simp [dstAt, ho] at hd
        | some o => exact (Array.getElem?_eq_some_iff.1 ho).1
    | cons c L =>
      obtain ⟨e, qs⟩ := c
      simp only [pwE] at hpe
      cases ho : ops[e]? with
      | none => rw [ho] at hpe; exact hpe.elim
      | some o =>
        have hlt := (Array.getElem?_eq_some_iff.1 ho).1
        obtain ⟨h1, h2⟩ := sepOK_eff _ _ _ hsep (e, qs) (List.mem_cons_self ..)
        exact absurd (hsub e (hall e hlt)) (fun h => h.elim h1 h2)
  | succ fuel ih =>
    intro listed R h nt ps L D M g a w V hsz hfu hcl hev hdl hpe hs hw he hds hag hsub heff hcov hsep hpm hMN hL
    refine ⟨fun hrd => ?_, fun i hi => ?_⟩
    · have hall := all_listed hA hsz hrd
      cases L with
      | nil =>
        refine ⟨g, ⟨R, h, nt⟩, hQ _ hpe, ⟨fun s => ?_, hs.nt, hs.heap⟩, hw, he, hds⟩
        show Rep g w (getR R s) _
        rw [← hag s fun j hj hnl hd => hnl (hall j ?_)]
        · exact hs.regs s
        · cases ho : ops[j]? with
          | none => simp [dstAt, ho] at hd
          | some o => exact (Array.getElem?_eq_some_iff.1 ho).1
      | cons c L =>
        obtain ⟨e, qs⟩ := c
        simp only [pwE] at hpe
        cases ho : ops[e]? with
        | none => rw [ho] at hpe; exact hpe.elim
        | some o =>
          have hlt := (Array.getElem?_eq_some_iff.1 ho).1
          obtain ⟨h1, h2⟩ := sepOK_eff _ _ _ hsep (e, qs) (List.mem_cons_self ..)
          exact absurd (hsub e (hall e hlt)) (fun h => h.elim h1 h2)
    · obtain ⟨hil, hin, oi, hoi, hpred⟩ := ready_cases hsz hi
      have hanc : ∀ j, j < ops.size → ancB A j i = true → Lst listed j := fun j hj ha => anc_ready hA hcl hsz hi hj ha
      -- What it looks at is as it is told.
      have hlook : ∀ s, s ∈ oi.looksAt ops → getR V s = getR R s := fun s hs' => hag s fun j hj hnl hd => by
        have := List.all_eq_true.1 hN j (hMN j hj)
        rw [hd] at this
        have := List.all_eq_true.1 this i (List.mem_range.2 hil)
        simp only [looksOf, hoi, Bool.or_eq_true, Bool.not_eq_true', Bool.and_eq_true] at this
        rcases this with h1 | ⟨_, h1⟩
        · simp [hs'] at h1
        · refine hnl (hanc j ?_ h1)
          cases ho : ops[j]? with
          | none => simp [dstAt, ho] at hd
          | some o => exact (Array.getElem?_eq_some_iff.1 ho).1
      have hsz' : (listed.setIfInBounds i true).size = ops.size := by simp [hsz]
      have hfu' : unl (listed.setIfInBounds i true) ops.size ≤ fuel := by
        have := unl_set (listed := listed) (i := i) (by omega) hin ops.size
        rw [if_pos hil] at this
        omega
      have hcl' := hcl.set hsz hi
      have hl' : ∀ k, Lst (listed.setIfInBounds i true) k ↔ k = i ∨ Lst listed k := fun k => lst_set (by omega)
      -- Those of the stage.
      have pureCase : ∀ q, q ∈ ps → q.2 = i → wpOpIn (FR r) 0 P ops (Post g0 w0 ds Q) i (wpAnyIn (FR r) 0 P .any ops (Post g0 w0 ds Q) fuel (listed.setIfInBounds i true)) a w := by
        intro q hq hqi
        obtain ⟨o, x, ho, hx, hall⟩ := hev q hq
        rw [hqi, hoi] at ho
        cases ho
        refine hall V hlook i hoi g a w hs hw _ _ fun g' st' a' w' hst hs' hw' he' hd' => ?_
        subst hst
        obtain ⟨V', e1, e2⟩ := put_get (rs := V) (h := h) (x := x) (fun d hd => hdl q oi d hq (by rw [hqi]; exact hoi) hd)
        rw [e1] at hs'
        refine ih _ R h nt ps L D M g' a' w' V' hsz' hfu' hcl' hev hdl hpe hs' hw' (he.trans he') (hd'.trans hds) (fun s hs2 => ?_) (fun k hk => ?_) (fun e hE => (hl' e).2 (.inr (heff e hE))) hcov hsep hpm hMN hL
        · rw [e2]
          by_cases hd : oi.dst = some s
          · rw [if_pos hd]; exact (hx s hd).symm
          · rw [if_neg hd]
            refine hag s fun j hj hnl hjd => ?_
            by_cases hji : j = i
            · subst hji; exact hd (by simpa [dstAt, hoi] using hjd)
            · exact hs2 j hj (fun hk => ((hl' j).1 hk).elim hji hnl) hjd
        · rcases (hl' k).1 hk with rfl | hk
          · exact .inr (hqi ▸ hpm q hq)
          · exact hsub k hk
      have byD : i ∈ D → False := fun h => hin (heff i h)
      have byE : (D.any fun e => decide (e < ops.size) && ancB A i e) = true → False := fun h => by
        obtain ⟨e, heD, h⟩ := List.any_eq_true.1 h
        simp only [Bool.and_eq_true, decide_eq_true_eq] at h
        exact hin (anc_listed hA hcl e i h.1 hil h.2 (heff e heD))
      cases L with
      | nil =>
        have := List.all_eq_true.1 hcov i (List.mem_range.2 hil)
        simp only [Bool.or_eq_true] at this
        rcases this with (h1 | h1) | h1
        · obtain ⟨q, hq, h1⟩ := List.any_eq_true.1 h1
          exact pureCase q hq (by simpa using h1)
        · exact (byD (by simpa using h1)).elim
        · exact (byE h1).elim
      | cons c L =>
        obtain ⟨e, qs⟩ := c
        simp only [covOK, Bool.and_eq_true] at hcov
        have := List.all_eq_true.1 hcov.1 i (List.mem_range.2 hil)
        simp only [Bool.or_eq_true] at this
        rcases this with (((h1 | h1) | h1) | h1) | h1
        · obtain ⟨q, hq, h1⟩ := List.any_eq_true.1 h1
          exact pureCase q hq (by simpa using h1)
        · exact (byD (by simpa using h1)).elim
        · exact (byE h1).elim
        · have hei : e = i := by simpa using h1
          subst hei
          simp only [pwE, hoi] at hpe
          obtain ⟨hdn, hpe⟩ := hpe
          obtain ⟨T, h', x, hT, hk, _, hall⟩ := pwG_spc (r := r) hpe
          obtain ⟨hLN, hLp, hLs⟩ := hL (e, qs) (List.mem_cons_self ..)
          have eR : ((St.mk R h nt).mapT T h') = ⟨mapR T R, h', nt⟩ := rfl
          obtain ⟨R1, e1, e2⟩ := put_get (rs := mapR T R) (h := h') (x := x) hdn
          rw [eR, e1] at hk
          obtain ⟨R', k1, k2, k3, k4⟩ := stage (r := r) qs R1 h' nt hk hLs hLp (fun j d hj hd hself => by
            have := List.all_eq_true.1 hN j (hLN j hj)
            rw [hd] at this
            have hjl : j < ops.size := by
              cases ho : ops[j]? with
              | none => simp [dstAt, ho] at hd
              | some o => exact (Array.getElem?_eq_some_iff.1 ho).1
            have := List.all_eq_true.1 this j (List.mem_range.2 hjl)
            simp [hself] at this)
          refine hall V hlook e hoi g a w hs hw _ _ fun g' st' a' w' hst hs' hw' he' hd' => ?_
          subst hst
          have eV : ((St.mk V h nt).mapT T h') = ⟨mapR T V, h', nt⟩ := rfl
          obtain ⟨V', f1, f2⟩ := put_get (rs := mapR T V) (h := h') (x := x) hdn
          rw [eV, f1] at hs'
          simp only [sepOK, Bool.and_eq_true] at hsep
          refine ih _ R' h' nt qs L (e :: D) (newsOf qs ++ M) g' a' w' V' hsz' hfu' hcl' k2 k4 k1 hs' hw' (he.trans he') (hd'.trans hds) (fun s hs2 => ?_) (fun k hk => ?_) (fun e' hE => ?_) hcov.2 hsep.2 (fun q hq => ?_) (fun j hj => ?_) (fun f hf => hL f (List.mem_cons_of_mem _ hf))
          · rw [k3 s fun j hj hjd => hs2 j (List.mem_append_left _ hj) (fun hk => ?_) hjd, e2, f2, getR_mapR hT, getR_mapR hT]
            · by_cases hd : oi.dst = some s
              · rw [if_pos hd, if_pos hd]
              · rw [if_neg hd, if_neg hd]
                rw [hag s fun j hj hnl hjd => hs2 j (List.mem_append_right _ hj) (fun hk => ((hl' j).1 hk).elim (fun hje => ?_) hnl) hjd]
                subst hje
                exact hd (by simpa [dstAt, hoi] using hjd)
            · have := List.all_eq_true.1 hsep.1.1.2 j hj
              simp only [Bool.and_eq_true, Bool.not_eq_true', bne_iff_ne, ne_eq] at this
              rcases (hl' j).1 hk with hje | hk
              · exact this.2 hje
              · rcases hsub j hk with h1 | h1
                · have := this.1.1; simp [h1] at this
                · have := this.1.2; simp [h1] at this
          · rcases (hl' k).1 hk with rfl | hk
            · exact .inl (List.mem_cons_self ..)
            · exact (hsub k hk).imp (List.mem_cons_of_mem _) (List.mem_append_right _)
          · rcases List.mem_cons.1 hE with rfl | hE
            · exact (hl' _).2 (.inl rfl)
            · exact (hl' _).2 (.inr (heff _ hE))
          · have := List.all_eq_true.1 hsep.1.2 q hq
            simpa using this
          · rcases List.mem_append.1 hj with hj | hj
            · exact hLN j hj
            · exact hMN j hj
        · obtain ⟨f, hf, h1⟩ := List.any_eq_true.1 h1
          simp only [Bool.and_eq_true, decide_eq_true_eq] at h1
          obtain ⟨h2, h3⟩ := sepOK_eff _ _ _ hsep f hf
          exact absurd (hsub f.1 (hanc f.1 h1.1 h1.2)) (fun h => h.elim h2 h3)
theorem Sim.drawn {g : G} {st : St} {a : Act} {w w' : World} (h : Sim g st a w) (hw : WF g w) (hh : w'.heap = w.heap) : Sim g st a w' ∧ WF g w' := by
  have ht : Turns g w g w' some some := ⟨fun b hb => ⟨hb, by rw [hh]⟩, fun o o' b off n c hF ha => by
    cases hF
    refine ⟨?_, fun k _ _ => cell_of_heap (by rw [hh])⟩
    cases o with
    | imm => exact ha
    | own t =>
      rcases ha with ⟨a1, a2, a3, a4⟩ | ha
      · exact .inl ⟨a1, a2, a3, a4.same (by rw [hh])⟩
      · exact .inr ha
    | vw t => exact ha, fun i j h => by cases h; rfl, lax_some⟩
  have := h.turn ht fun i j hp hd => by cases hp; exact ⟨hd, by rw [hh]⟩
  rw [id_scrub_st] at this
  exact ⟨this, hw.sameSize (by rw [hh])⟩

theorem Tr.draw {id : Nat} {st : St} {Q : Exit → St → Prop} (hm : P.follows .mixedOrders = true) (s : Sch) (hc : s.ok P ops = true) (h : pwP P E ops s.first st fun st' => pwE P E ops s.rest st' fun st'' => Q .normal st'') : Tr P r (.region id ops true) st Q := by
  intro g a w hs hw
  refine wpIn_region_any hm ?_
  obtain ⟨hs1, hw1⟩ := hs.drawn hw (w' := { w with drawn := w.drawn + 1 }) rfl
  have he : Ext g w g { w with drawn := w.drawn + 1 } := ⟨rfl, rfl, rfl, Nat.le_refl _, fun _ _ _ => rfl, fun _ h => .inl h, fun _ h => .inl h, fun _ _ => ⟨rfl, fun h => h⟩⟩
  simp only [Sch.ok, Bool.and_eq_true] at hc
  obtain ⟨⟨⟨⟨⟨⟨⟨⟨hA, hN⟩, hcov⟩, hsep⟩, hre⟩, hp1⟩, hp2⟩, hs1'⟩, hs2'⟩ := hc
  obtain ⟨rs, hp, nt⟩ := st
  have hN1 : ∀ j, j ∈ newsOf s.first → j ∈ allNews s := fun j hj => List.mem_append_left _ hj
  obtain ⟨R', k1, k2, k3, k4⟩ := stage (r := r) s.first rs hp nt h hs1' hp1 (fun j d hj hd hself => by
    have := List.all_eq_true.1 hN j (hN1 j hj)
    rw [hd] at this
    have hjl : j < ops.size := by
      cases ho : ops[j]? with
      | none => simp [dstAt, ho] at hd
      | some o => exact (Array.getElem?_eq_some_iff.1 ho).1
    have := List.all_eq_true.1 this j (List.mem_range.2 hjl)
    simp [hself] at this)
  have hnl : ∀ k, ¬ Lst (Array.replicate ops.size false) k := fun k => by
    unfold Lst
    simp only [Array.getD_eq_getD_getElem?, Array.getElem?_replicate]
    split <;> simp
  refine drawn hA hN (Q := Q) (fun _ h => h) ops.size _ R' hp nt s.first s.rest [] (newsOf s.first) g a _ rs (by simp) (unl_le _ _) (fun i o _ hl => absurd hl (hnl i)) k2 k4 k1 hs1 hw1 he rfl (fun x hx => ?_) (fun i hl => absurd hl (hnl i)) (fun e he => by cases he) hcov hsep (fun q hq => ?_) hN1 (fun f hf => ⟨fun j hj => List.mem_append_right _ (List.mem_flatMap.2 ⟨f, hf, hj⟩), List.all_eq_true.1 hp2 f hf, List.all_eq_true.1 hs2' f hf⟩)
  · exact (k3 x fun j hj => hx j hj (hnl j)).symm
  · simpa using List.all_eq_true.1 hre q hq
end
end Go.Sy
