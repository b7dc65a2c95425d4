/- Calls that only read, and tell rows of their own. -/
import Derived.Test.YtgpcphddjapceaaSo
namespace Go.Sy

inductive Fr : PV → Prop
  | lit (v : Value) : Fr (.lit v)
  | row (n : Nat) (nl : Bool) (s : Nat) (xs : List PV) : (∀ x, x ∈ xs → ∀ y, y ∈ x.comps → ∃ v, y = .lit v) → Fr (.sl (.own (.loc n)) nl s xs)
  | nil (o : Own) (s : Nat) : Fr (.sl o true s [])
  | tup (xs : List PV) : (∀ x, x ∈ xs → Fr x) → Fr (.tup xs)

open Classical in
noncomputable def G.gain (g g3 : G) (q : Tk → Bool) : G where
  μ := g.μ
  ν := fun t => if q t = true then g3.ν t else g.ν t
  fr := fun t => if q t = true then g3.fr t else g.fr t
  L := fun t => if q t = true then g3.L t else g.L t
  D := g.D
  I := g.I

def rowsWay (rows : List (Nat × Nat)) : Way := ⟨[], [], [], rows⟩

theorem Fr.out (W : Way) {g g2 : G} {w' : World} (hg : W.Good) {x : PV} (h : Fr x) : ∀ {v : Value}, Rep g2 w' x v → Rep (g.gain (g2.ren W.outT W.outI) W.imgT) w' (x.scrub (Fren W.outT) (fun _ => none)) v := by
  induction h with
  | lit u => intro v hr; simp only [PV.scrub]; cases hr; exact .lit _
  | nil o s =>
    intro v hr
    simp only [PV.scrub]
    cases hr with
    | nils =>
      cases Fren W.outT o with
      | none => exact .dead _
      | some o' => exact .nils _ _
  | row n nl s xs hx =>
    intro v hr
    simp only [PV.scrub]
    cases hF : Fren W.outT (.own (.loc n)) with
    | none => exact .dead _
    | some o' =>
      simp only [Fren, Option.map_eq_some_iff] at hF
      obtain ⟨u, hu, rfl⟩ := hF
      cases hr with
      | nils => exact .nils _ _
      | sle _ _ _ hlx => cases hlx
      | sl _ _ _ b off c U hc hm hacc hd hs hcell hrep =>
        rcases hacc with ⟨h1, h2, h3, h4⟩ | ⟨_, _, hw⟩
        · have hq := Way.outT_img hu
          have hi := Way.inj_out hg
          refine .sl _ s xs b off c U hc hm (.inl ⟨?_, ?_, ?_, h4⟩) hd hs hcell fun j x hj i y hy => ?_
          · show (if W.imgT u = true then _ else _); rw [if_pos hq]; exact ⟨_, hu, h1⟩
          · show _ = (if W.imgT u = true then _ else _); rw [if_pos hq, G.ren_ν hi hu]; exact h2
          · show _ = (if W.imgT u = true then _ else _); rw [if_pos hq, G.ren_fr hi hu]; exact h3
          · obtain ⟨z, rfl⟩ := hx x (mem_of_get hj) y (mem_of_get hy)
            rw [(hrep j x hj i _ hy).lit_inv]; exact .lit _
        · cases hw
  | tup xs hx ih =>
    intro v hr
    simp only [PV.scrub, scrubL_eq]
    cases hr with
    | tup _ us hl h =>
      refine .tup _ us (by simpa using hl) fun i x u hi hu => ?_
      rw [List.getElem?_map, Option.map_eq_some_iff] at hi
      obtain ⟨y, hy, rfl⟩ := hi
      exact ih y (mem_of_get hy) (h i y u hy hu)

theorem CallT.fresh {P : Program} {h : List (Nat × Ob)} {k : FuncId} {args args' : List PV} {y : PV} (rows : List (Nat × Nat)) (hW : (rowsWay rows).ok = true) (hc : TrC P k args' [] fun x _ => x = y) (hl : lendL h args = some args') (hy : Fr y) :
    CallT P h k args (PV.scrub (rowsWay rows).killT some) (scrubO (rowsWay rows).killT some h) (y.scrub (Fren (rowsWay rows).outT) (fun _ => none)) := by
  intro g w vs hh hw hr
  have hg := Way.ok_good hW
  refine CallsIn.mono (hc g.lent w vs (fun _ _ h => by simp [getO] at h) hw.lent (lendL_rep hh hl hr)) fun e w' hp => ?_
  obtain ⟨v, x, g2, h', rfl, rfl, h1, h2, h3, h4⟩ := hp
  have hk : ∀ b, b < w.heap.size → w'.heap[b]? = w.heap[b]? := fun b hb => h4.keep b hb (by rintro (⟨i, hd, _⟩ | ⟨t, ht, _⟩) <;> assumption)
  have w3 := h3.ren (Way.inj_out hg)
  have fresh : ∀ t, (g2.ren (rowsWay rows).outT (rowsWay rows).outI).L t → w.heap.size ≤ (g2.ren (rowsWay rows).outT (rowsWay rows).outI).ν t := fun u hl => by
    obtain ⟨t, hp, hl⟩ := hl
    rw [G.ren_ν (Way.inj_out hg) hp]
    rcases h4.own _ (.inr ⟨t, hl, rfl⟩) with (⟨i, hd, _⟩ | ⟨t, ht, _⟩) | h
    · exact hd.elim
    · exact ht.elim
    · exact h
  generalize hW' : rowsWay rows = W at *
  have L_cases : ∀ {t : Tk}, (g.gain (g2.ren W.outT W.outI) W.imgT).L t → (W.imgT t = true ∧ (g2.ren W.outT W.outI).L t ∧ (g.gain (g2.ren W.outT W.outI) W.imgT).ν t = (g2.ren W.outT W.outI).ν t) ∨ (W.imgT t = false ∧ g.L t ∧ (g.gain (g2.ren W.outT W.outI) W.imgT).ν t = g.ν t) := fun {t} hd => by
    have hd' : if W.imgT t = true then (g2.ren W.outT W.outI).L t else g.L t := hd
    by_cases hi : W.imgT t = true
    · rw [if_pos hi] at hd'
      exact .inl ⟨hi, hd', by show (if W.imgT t = true then _ else _) = _; rw [if_pos hi]⟩
    · rw [if_neg hi] at hd'
      exact .inr ⟨by simpa using hi, hd', by show (if W.imgT t = true then _ else _) = _; rw [if_neg hi]⟩
  have ht : Turns g w (g.gain (g2.ren W.outT W.outI) W.imgT) w' W.killT some := by
    refine ⟨fun b hb => ⟨hb, hk b (hw.ilt b hb)⟩, fun o o' b off n c hF ha => ?_, fun i j h => by cases h; rfl, lax_killT W⟩
    have hb := hk b (ha.lt hw)
    refine ⟨?_, fun k _ _ => cell_of_heap hb⟩
    cases o with
    | imm => simp only [Way.killT, Option.some.injEq] at hF; subst hF; exact ha
    | own t =>
      simp only [Way.killT] at hF
      split at hF
      · cases hF
      · rename_i hq
        cases hF
        rcases ha with ⟨a1, a2, a3, a4⟩ | ha
        · refine .inl ⟨?_, ?_, ?_, a4.same hb⟩
          · show (if W.imgT t = true then _ else _); rw [if_neg hq]; exact a1
          · show _ = (if W.imgT t = true then _ else _); rw [if_neg hq]; exact a2
          · show _ = (if W.imgT t = true then _ else _); rw [if_neg hq]; exact a3
        · exact .inr ha
    | vw t =>
      simp only [Way.killT] at hF
      split at hF
      · cases hF
      · rename_i hq
        cases hF
        rcases ha with ha | ⟨a1, a2, a3⟩
        · exact .inl ha
        · refine .inr ⟨?_, ?_, ?_⟩
          · show (if W.imgT t = true then _ else _); rw [if_neg hq]; exact a1
          · show _ = (if W.imgT t = true then _ else _); rw [if_neg hq]; exact a2
          · show _ ≤ (if W.imgT t = true then _ else _); rw [if_neg hq]; exact a3
  refine ⟨v, g.gain (g2.ren W.outT W.outI) W.imgT, rfl, fun z u hz => hz.scrub ht, fun id ob ho => ?_, hy.out W hg h1, ?_, ?_⟩
  · obtain ⟨k, ob', e1, ho', rfl⟩ := getO_scrubO ho
    cases e1
    have := hh id ob' ho'
    cases ob' with
    | cells xs =>
      obtain ⟨hd, cs, T, hb, hlen, hcr⟩ := this
      refine ⟨hd, cs, T, (hk _ (hw.dlt id hd)).trans hb, by simp [scrubL_eq, hlen], fun i x u hx hu => ?_⟩
      rw [scrubL_eq, List.getElem?_map, Option.map_eq_some_iff] at hx
      obtain ⟨z, hz, rfl⟩ := hx
      exact (hcr i z u hz hu).scrub ht
  · refine ⟨fun i hi => Nat.lt_of_lt_of_le (hw.dlt i hi) h4.size, fun t hl => ?_, fun b hb => Nat.lt_of_lt_of_le (hw.ilt b hb) h4.size, hw.dinj, fun t u hl hu he => ?_, fun i t hi hl he => ?_, hw.di, fun t hl hI => ?_⟩
    · rcases L_cases hl with ⟨_, h1, e⟩ | ⟨_, h1, e⟩ <;> rw [e]
      · exact w3.llt t h1
      · exact Nat.lt_of_lt_of_le (hw.llt t h1) h4.size
    · rcases L_cases hl with ⟨q1, h1, e1⟩ | ⟨q1, h1, e1⟩ <;> rcases L_cases hu with ⟨q2, h2, e2⟩ | ⟨q2, h2, e2⟩ <;> rw [e1, e2] at he
      · exact w3.linj t u h1 h2 he
      · have := fresh t h1; have := hw.llt u h2; omega
      · have := fresh u h2; have := hw.llt t h1; omega
      · exact hw.linj t u h1 h2 he
    · have he : g.μ i = _ := he
      rcases L_cases hl with ⟨q1, h1, e1⟩ | ⟨q1, h1, e1⟩ <;> rw [e1] at he
      · have := fresh t h1; have := hw.dlt i hi; omega
      · exact hw.dl i t hi h1 he
    · have hI : g.I _ := hI
      rcases L_cases hl with ⟨q1, h1, e1⟩ | ⟨q1, h1, e1⟩ <;> rw [e1] at hI
      · have := fresh t h1; have := hw.ilt _ hI; omega
      · exact hw.li t h1 hI
  · refine ⟨h4.os, h4.tape, h4.output, h4.size, fun b hb _ => hk b hb, ?_, fun _ h => .inl h, fun _ _ => ⟨rfl, fun h => h⟩⟩
    rintro b (⟨i, hd, rfl⟩ | ⟨t, hl, rfl⟩)
    · exact .inl (.inl ⟨i, hd, rfl⟩)
    · rcases L_cases hl with ⟨_, h1, e⟩ | ⟨_, h1, e⟩ <;> rw [e]
      · exact .inr (fresh t h1)
      · exact .inl (.inr ⟨t, h1, rfl⟩)

end Go.Sy
