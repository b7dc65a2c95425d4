/- Each operation does what its rule says. -/
import Derived.Test.YtgpcphddjapceaaSf
namespace Go.Sy
section
variable {P : Program} {E : List (Spec P)} {r : Option Nat}

theorem appDst_rep {d : Nat} {p : PV} {t : Tk} {nl : Bool} {xs : List PV} {so : Option Nat} (h : appDst d p = some (t, nl, xs, so)) {s : Nat} (hs : so = none ∨ so = some s) {g : G} {w : World} {u : Value} (hp : Rep g w p u) : Rep g w (.sl (.own t) nl s xs) u := by
  unfold appDst at h
  split at h
  · simp only [Option.some.injEq, Prod.mk.injEq] at h
    obtain ⟨rfl, rfl, rfl, rfl⟩ := h
    rcases hs with hs | hs
    · cases hs
    · cases hs; exact hp
  · simp only [Option.some.injEq, Prod.mk.injEq] at h
    obtain ⟨rfl, rfl, rfl, rfl⟩ := h
    cases hp
    exact .nils _ _
  · cases h

theorem appSrc_rep {tx : TypeId} {s : Nat} {q : PV} {ys : List PV} (h : appSrc P tx s q = some ys) (hs0 : s ≠ 0) {g : G} {w : World} {v : Value} (hq : Rep g w q v) : ∃ V, PSrc P g w s tx v ys V := by
  unfold appSrc at h
  split at h
  · rename_i o nl s' zs
    split at h
    · rename_i hc
      rw [Option.map_eq_some_iff] at h
      obtain ⟨e, he, rfl⟩ := h
      have hu := elemOf_und he
      rcases hc with rfl | rfl
      · exact PSrc.of_sl hq hu
      · cases hq with
        | nils => exact PSrc.of_sl (Rep.nils (g := g) (w := w) o s) hu
        | sle _ _ a hlx => exact PSrc.of_sl (Rep.sle (g := g) (w := w) o s a hlx) hu
        | sl _ _ _ b off c U hc hm hacc hd hs hcell hrep =>
          exact ⟨fun _ _ => .nilFunc, ⟨by
            have := Src.ofSlice (P := P) (w := w) (size := s) hu ⟨b, off, none⟩ 0 c [] (by simp) (fun j u h => by simp at h) (fun u h => by simp at h)
            simpa [rowVals] using this, fun _ _ h => by simp at h, fun _ h => by simp at h, fun _ h => by simp at h⟩⟩
    · cases h
  · rename_i b
    have := hq.lit_inv
    subst this
    split at h
    · rename_i hu
      split at h
      · rename_i h1
        cases h
        subst h1
        exact PSrc.of_str g w b hu
      · cases h
    · cases h
  · cases h

theorem pwBuiltin_ok {o : Oper} {c : Call} {b : Builtin} {st : St} {K : St → Prop} (ho : o.op = .call c) (hc : c.callee = .builtin b) (h : pwBuiltin P b c.argTypes.toList o.type (c.args.toList.map st.ev) o.dst st K) : OpOK P r o st K := by
  have hex : ∀ a : Act, execOp a.eval o = builtin b c.argTypes o.type (c.args.map fun | .const _ => true | _ => false) (c.args.map a.eval) := fun a => execBuiltin ho hc
  have hpl : Oper.plainOp o.op = true := by rw [ho]; rfl
  unfold pwBuiltin at h
  split at h
  · rename_i t p h1 h2
    obtain ⟨x, hx, hk⟩ := h
    refine OpOK.one (.pureVal hpl fun g a w hs hw => ?_) hk
    have ha := ev_args hs c.args
    rw [h2] at ha
    have hsz : (c.args.map a.eval).size = 1 := ha.1
    have hv : c.args.map a.eval = #[(c.args.map a.eval)[0]] := by
      apply Array.ext
      · simp [hsz]
      · intro i h1 h2; have : i = 0 := by simp at h2; omega
        subst this; simp
    obtain ⟨v, hv1, hv2⟩ := lenPV_run hx (ha.2 0 p _ rfl (Array.getElem?_eq_getElem (by omega))) o.type
    refine ⟨v, ?_, hv2⟩
    have hat : c.argTypes = #[t] := by apply Array.toList_inj.1; simpa using h1
    rw [hex, hat, hv]
    simp only [builtin]
    rw [Sem.run_bind, hv1]; rfl
  · obtain ⟨vs, x, h1, h2, hk⟩ := h
    refine OpOK.one (.pureVal hpl fun g a w hs hw => ?_) hk
    have := lit_args (ev_args hs c.args) h1
    refine ⟨x, ?_, .lit x⟩
    rw [hex, this]
    have e : c.argTypes.toList.toArray = c.argTypes := by simp
    rw [e] at h2
    simp [builtin, pureOf_run h2 w]
  · obtain ⟨vs, x, h1, h2, hk⟩ := h
    refine OpOK.one (.pureVal hpl fun g a w hs hw => ?_) hk
    have := lit_args (ev_args hs c.args) h1
    refine ⟨x, ?_, .lit x⟩
    rw [hex, this]
    have e : c.argTypes.toList.toArray = c.argTypes := by simp
    rw [e] at h2
    simp [builtin, pureOf_run h2 w]
  · rename_i T tx p q h1 h2
    obtain ⟨d, t, x, hd, happ, hk⟩ := h
    refine OpOK.one (.val hpl fun g a w hs hw => ?_) hk
    have ha := ev_args hs c.args
    rw [h2] at ha
    have hsz : (c.args.map a.eval).size = 2 := ha.1
    have hv : c.args.map a.eval = #[(c.args.map a.eval)[0], (c.args.map a.eval)[1]] := by
      apply Array.ext
      · simp [hsz]
      · intro i h1 h2
        have : i = 0 ∨ i = 1 := by simp at h2; omega
        rcases this with rfl | rfl <;> simp
    have hp := ha.2 0 p _ rfl (Array.getElem?_eq_getElem (by omega))
    have hq := ha.2 1 q _ rfl (Array.getElem?_eq_getElem (by omega))
    unfold appPV at happ
    cases he : elemOf P T with
    | none => rw [he] at happ; simp at happ
    | some e =>
    rw [he] at happ
    simp only at happ
    cases hz : zerosOf P e with
    | none => rw [hz] at happ; simp at happ
    | some zs =>
    cases hdd : appDst d p with
    | none => rw [hz, hdd] at happ; simp at happ
    | some dq =>
    obtain ⟨t', nl, xs, so⟩ := dq
    cases hss : appSrc P tx (szOf P e) q with
    | none => rw [hz, hdd, hss] at happ; simp at happ
    | some ys =>
    rw [hz, hdd, hss] at happ
    simp only at happ
    split at happ
    · rename_i hcc
      obtain ⟨c1, c2, c3, c4, c5⟩ := hcc
      simp only [Option.some.injEq, Prod.mk.injEq] at happ
      obtain ⟨rfl, rfl⟩ := happ
      obtain ⟨z, hz1, hz2, i, hi, hiz⟩ := zeros_run hz g w
      have hsi : szOf P e = i.size := by simp [szOf, hi]
      have hbi : bytesOf P e = i.bytes := by simp [bytesOf, hi]
      have hx1 := appDst_rep hdd c3 hp
      obtain ⟨V, hV⟩ := appSrc_rep hss c2 hq
      rw [hsi] at hx1 hV
      obtain ⟨v, w', g', r1, r2, r3, r4, r5⟩ := append_run (ty := o.type) (elemOf_und he) hi hiz (by rw [hz2.1, c1, hsi]) (by omega) hs hw hx1 hV (by rw [← hbi]; exact c4) (by unfold maxLen; omega)
      refine ⟨v, w', g', ?_, r2, r3, r4, hsi ▸ r5⟩
      have hat : c.argTypes = #[T, tx] := by apply Array.toList_inj.1; simpa using h1
      rw [hex, hat, hv]
      simp only [builtin]
      rw [Sem.run_bind, r1]; rfl
    · cases happ
  · exact h.elim

theorem run_convert_bytes_none (w : World) (src e : TypeId) (hs : P.underlying src = some (.slice e)) (he : P.underlying e = some (.int .u8)) (a : Addr) (dst : TypeId) (hd : P.underlying dst = some .string) :
    (convert src dst (.slice (some a) 0 0)).run P w = .ok (.string ⟨#[]⟩) w := by
  have h0 : (loadCells a 0).run P w = .ok #[] w := rfl
  simp [convert, run_underlying hs, run_underlying hd, run_underlying he, Conv.bytesToString, h0]
  rfl

theorem convPV_run {src dst : TypeId} {p q : PV} (h : convPV P src dst p = some q) {g : G} {w : World} {u : Value} (hp : Rep g w p u) : ∃ z, (convert src dst u).run P w = .ok z w ∧ Rep g w q z := by
  unfold convPV at h
  split at h
  · rename_i e o nl xs hs hd
    split at h
    · rename_i he
      split at h
      · rename_i hall
        cases h
        have hb : ∀ x, x ∈ xs → x = .lit (.int .u8 (byteOf x).toNat) := fun x hx => by
          have := List.all_eq_true.1 hall x hx
          cases x with
          | lit v =>
            cases v with
            | int k n =>
              cases k <;> simp [isByte] at this
              simp only [byteOf]
              congr 2
              rw [UInt8.toNat_ofNat']
              omega
            | _ => simp [isByte] at this
          | _ => simp [isByte] at this
        cases hp with
        | nils => exact ⟨_, run_convert_bytes_nil w src e hs he 0 0 dst hd, by simp [strOf]; exact .lit _⟩
        | sle _ _ a hlx =>
          obtain ⟨ab, ao, asp⟩ := a
          exact ⟨_, run_convert_bytes_none w src e hs he ⟨ab, ao, asp⟩ dst hd, by simp [strOf]; exact .lit _⟩
        | sl _ _ _ b off c U hc hm hacc hdd hsw hcell hrep =>
          refine ⟨_, run_convert_bytes_arg w src e hs he b off xs.length c (xs.map fun x => ((byteOf x).toNat : Int)) (by simp) (fun i hi => ?_) dst hd, ?_⟩
          · have hx := List.getElem?_eq_getElem hi
            have h1 := hcell i _ hx 0 (by omega)
            have h2 := hrep i _ hx 0 _ (by rw [hb _ (mem_of_get hx)]; rfl)
            rw [Nat.mul_one, Nat.add_zero] at h1
            rw [h1, h2.lit_inv]
            simp [List.getD, hx]
          · have : strOfNums (xs.map fun x => ((byteOf x).toNat : Int)) = strOf xs := by
              unfold strOfNums strOf
              simp [List.map_map, Function.comp_def]
            rw [this]; exact .lit _
      · cases h
    · cases h
  · cases h
  · cases h
  · exact unPV_run h hp

theorem parts_rep {g : G} {st : St} {a : Act} {w : World} (h : Sim g st a w) (ps : Array (Nat × Operand)) :
    ∀ (i : Nat) (p : Nat × PV) (v : Nat × Value), (partsOf st ps)[i]? = some p → (ps.map fun (i, x) => (i, a.eval x))[i]? = some v → p.1 = v.1 ∧ Rep g w p.2 v.2 := by
  intro i p v hp hv
  simp only [partsOf, List.getElem?_map, Option.map_eq_some_iff] at hp
  obtain ⟨q, hq, rfl⟩ := hp
  rw [Array.getElem?_map, Option.map_eq_some_iff] at hv
  obtain ⟨q', hq', rfl⟩ := hv
  rw [Array.getElem?_toList, hq'] at hq
  cases hq
  exact ⟨rfl, h.ev _⟩

theorem RepArgs.append {g : G} {w : World} {xs ys : List PV} {us vs : Array Value} (h1 : RepArgs g w xs us) (h2 : RepArgs g w ys vs) : RepArgs g w (xs ++ ys) (us ++ vs) := by
  refine ⟨by simp [h1.1, h2.1], fun i x u hx hu => ?_⟩
  rw [List.getElem?_append] at hx
  rw [Array.getElem?_append, h1.1] at hu
  split at hx
  · rename_i hlt; rw [if_pos hlt] at hu; exact h1.2 i x u hx hu
  · rename_i hlt; rw [if_neg hlt] at hu; exact h2.2 _ x u hx hu

theorem callT_ok {o : Oper} {c : Call} {f : Operand} {st : St} {k : FuncId} {first cap : List PV} {T : PV → PV} {h' : List (Nat × Ob)} {x : PV} (ho : o.op = .call c) (hc : c.callee = .value f) (hf : st.ev f = .fn (.func k) first cap) (hcall : Callable P k)
    (hT : T .dead = .dead) (hok : CallT P st.heap k (first ++ c.args.toList.map st.ev ++ cap) T h' x) : OpOK P r o st (· = (st.mapT T h').put o.dst x) := by
  intro g a w hs hw K' Q hk
  refine ⟨fun _ _ => trivial, ?_⟩
  rw [Oper.semAt_plain (by rw [ho]; rfl)]
  have hev := hs.ev f
  rw [hf] at hev
  generalize he : a.eval f = fv at hev
  cases hev with
  | fn _ _ _ us vs hl hl' hr hr' =>
  have hargs := ev_args hs c.args
  have hrun : (execOp a.eval o).run P w = .ok (.enter k (us ++ c.args.map a.eval ++ vs)) w := by
    obtain ⟨callee, args, ats⟩ := c
    simp only at hc
    subst hc
    simp [execOp, ho, resolve, he, Deferred.ofValue, invoke]
    exact hcall _ _
  rw [hrun]
  refine ⟨fun h => by simp [Fence.wide] at h, ?_⟩
  have hrep : RepArgs g w (first ++ c.args.toList.map st.ev ++ cap) (us ++ c.args.map a.eval ++ vs) := RepArgs.append (RepArgs.append ⟨hl, hr⟩ hargs) ⟨hl', hr'⟩
  refine CallsIn.mono (hok g w _ hs.heap hw hrep) fun e w' hp => ?_
  obtain ⟨v, g', rfl, h1, h2, h3, h4, h5⟩ := hp
  have hs' : Sim g' (st.mapT T h') a w' := ⟨fun s => by
    show Rep g' w' (getR (mapR T st.regs) s) _
    rw [getR_mapR hT]; exact h1 _ _ (hs.regs s), hs.nt, h2⟩
  exact hk g' _ _ _ rfl (hs'.put h3 _) h4 h5 (Act.put_eq _ _ _)

theorem pw1_ok {o : Oper} {st : St} {K : St → Prop} (h : pw1 P E o st K) : OpOK P r o st K := by
  unfold pw1 at h
  split at h
  · rename_i x ho
    refine OpOK.one (.pureVal (by rw [ho]; rfl) fun g a w hs hw => ⟨_, ?_, hs.ev x⟩) h
    simp [execOp, ho]
  · rename_i x ho
    refine OpOK.one (.pureVal (by rw [ho]; rfl) fun g a w hs hw => ⟨_, ?_, hs.ev x⟩) h
    simp [execOp, ho]
  · rename_i c x y ho
    obtain ⟨t, ht, hk⟩ := onBool_iff.1 h
    refine OpOK.one (.pureVal (by rw [ho]; rfl) fun g a w hs hw => ⟨if t then a.eval x else a.eval y, ?_, ?_⟩) hk
    · simp [execOp, ho, hs.lit ht, asBool]
    · cases t
      · exact hs.ev y
      · exact hs.ev x
  · rename_i op t x y yt ho
    obtain ⟨q, hq, hk⟩ := h
    refine OpOK.one (.pureVal (by rw [ho]; rfl) fun g a w hs hw => ?_) hk
    obtain ⟨z, h1, h2⟩ := binPV_run hq (hs.ev x) (hs.ev y)
    exact ⟨z, execVal (by simp only [execOp, ho]) h1, h2⟩
  · rename_i op t x ho
    obtain ⟨q, hq, hk⟩ := h
    refine OpOK.one (.pureVal (by rw [ho]; rfl) fun g a w hs hw => ?_) hk
    obtain ⟨z, h1, h2⟩ := unPV_run hq (hs.ev x)
    exact ⟨z, execVal (by simp only [execOp, ho]) h1, h2⟩
  · rename_i s d x ho
    unfold convK at h
    split at h
    · rename_i e hd
      split at h
      · rename_i n sz xs hx
        obtain ⟨rfl, he, hk⟩ := h
        refine OpOK.one (.val (by rw [ho]; rfl) fun g a w hs hw => ?_) hk
        have hev := hs.ev x
        rw [hx] at hev
        obtain ⟨w', h1, h2, h3, h4, h5⟩ := mark_run hd he hs hw hev
        exact ⟨_, w', g, execVal (by simp only [execOp, ho]) h1, h2, h3, h4, h5⟩
      · rename_i b n hx hdst
        obtain ⟨hu, he, hb, hn1, hk⟩ := h
        obtain ⟨u, hu⟩ := Option.isSome_iff_exists.1 hu
        refine OpOK.one (.val (by rw [ho]; rfl) fun g a w hs hw => ?_) hk
        have hv := hs.lit hx
        obtain ⟨v, w', g', h1, h2, h3, h4, h5⟩ := strRow_run (s := b) hs hw hu hd he (by unfold maxLen; omega) n hn1
        exact ⟨v, w', g', execVal (by simp only [execOp, ho, hv]) h1, h2, h3, h4, h5⟩
      · exact h.elim
    · obtain ⟨q, hq, hk⟩ := h
      refine OpOK.one (.pureVal (by rw [ho]; rfl) fun g a w hs hw => ?_) hk
      obtain ⟨z, h1, h2⟩ := convPV_run hq (hs.ev x)
      exact ⟨z, execVal (by simp only [execOp, ho]) h1, h2⟩
  · rename_i t x ho
    obtain ⟨q, hq, hk⟩ := h
    refine OpOK.one (.pureVal (by rw [ho]; rfl) fun g a w hs hw => ?_) hk
    obtain ⟨z, h1, h2⟩ := loadPV_run hs hq (hs.ev x)
    exact ⟨z, execVal (by simp only [execOp, ho]) h1, h2⟩
  · rename_i t x y ho
    obtain ⟨st', hq, hk⟩ := h
    refine OpOK.one (.skip (by rw [ho]; rfl) fun g a w hs hw => ?_) hk
    obtain ⟨w', g', h1, h2, h3, h4⟩ := storeSt_run hq hs hw (hs.ev x) (hs.ev y)
    exact ⟨w', g', by simp [execOp, ho, h1], h2, h3, h4⟩
  · rename_i x ho
    obtain ⟨q, hq, hk⟩ := h
    refine OpOK.one (.pureVal (by rw [ho]; rfl) fun g a w hs hw => ?_) hk
    obtain ⟨h1, h2⟩ := nilPV_run (P := P) (a := a) (o := o) hq (hs.ev x) ho rfl
    exact ⟨_, h1, h2 ▸ hs.ev x⟩
  · rename_i s x f ho
    obtain ⟨q, hq, hk⟩ := h
    refine OpOK.one (.pureVal (by rw [ho]; rfl) fun g a w hs hw => ?_) hk
    obtain ⟨z, h1, h2⟩ := fieldAddrPV_run hq (hs.ev x)
    exact ⟨z, execVal (by simp only [execOp, ho]) h1, h2⟩
  · rename_i s x f ho
    obtain ⟨q, hq, hk⟩ := h
    refine OpOK.one (.pureVal (by rw [ho]; rfl) fun g a w hs hw => ?_) hk
    obtain ⟨z, h1, h2⟩ := fieldPV_run hq (hs.ev x)
    exact ⟨z, execVal (by simp only [execOp, ho]) h1, h2⟩
  · rename_i t x i ho
    obtain ⟨q, hq, hk⟩ := h
    refine OpOK.one (.pureVal (by rw [ho]; rfl) fun g a w hs hw => ?_) hk
    obtain ⟨z, h1, h2⟩ := indexAddrPV_run hq (hs.ev x) (hs.ev i)
    exact ⟨z, execVal (by simp only [execOp, ho]) h1, h2⟩
  · rename_i t x i ho
    obtain ⟨q, hq, hk⟩ := h
    refine OpOK.one (.pureVal (by rw [ho]; rfl) fun g a w hs hw => ?_) hk
    obtain ⟨z, h1, h2⟩ := indexPV_run hq (hs.ev x) (hs.ev i)
    exact ⟨z, execVal (by simp only [execOp, ho]) h1, h2⟩
  · rename_i t x lo hi ho
    obtain ⟨q, hq, hk⟩ := h
    refine OpOK.one (.pureVal (by rw [ho]; rfl) fun g a w hs hw => ?_) hk
    have hb : ∀ y : Option Operand, BoundIs g w (y.map st.ev) (y.map a.eval) := fun y => by
      cases y with
      | none => trivial
      | some y => exact hs.ev y
    obtain ⟨z, h1, h2⟩ := slicePV_run hq (hs.ev x) (hb lo) (hb hi)
    exact ⟨z, execVal (by simp only [execOp, ho]; rfl) h1, h2⟩
  · rename_i t x lo hi m ho
    obtain ⟨⟨ts, q⟩, d, hd, hq, hk⟩ := h
    refine OpOK.one (.val (by rw [ho]; rfl) fun g a w hs hw => ?_) hk
    have hex : ∃ o' nl s xs, st.ev x = .sl o' nl s xs ∧ ts = o'.toks := by
      unfold slice3PV at hq
      split at hq
      · rename_i e o' nl s xs hp1 hu he hhi
        split at hq
        · split at hq
          · cases hq; exact ⟨o', nl, s, xs, he, rfl⟩
          · cases hq
        · cases hq
      · cases hq
    obtain ⟨o', nl, s, xs, hx, rfl⟩ := hex
    obtain ⟨g1, f1, f2, f3, f4⟩ := hs.fzL hw o'.toks
    have hb : ∀ y : Option Operand, BoundIs g w (y.map st.ev) (y.map a.eval) := fun y => by
      cases y with
      | none => trivial
      | some y => exact hs.ev y
    have hbz : ∀ (y : Option Operand) (n r : Int), boundPV n (y.map st.ev) = some r → BoundIs g1 w (y.map st.ev) (y.map a.eval) := fun y n r hy => by
      cases y with
      | none => trivial
      | some y =>
        obtain ⟨k, hk⟩ := boundPV_some hy
        have := hs.ev y
        show Rep g1 w (st.ev y) _
        rw [hk] at this ⊢
        rw [this.lit_inv]; exact .lit _
    have hv := f4 (hs.ev x)
    rw [hx] at hv
    have hv' : Rep g1 w (.sl .imm nl s xs) (a.eval x) := by
      cases o' with
      | imm => simpa [PV.fz, Own.toks] using hv
      | own t => simpa [PV.fz, Own.toks, PV.scrub, Ffz, fzOf] using hv
      | vw t => simpa [PV.fz, Own.toks, PV.scrub, Ffz, fzOf] using hv
    rw [hx] at hq
    have hbs : ∃ l h m', boundPV 0 (lo.map st.ev) = some l ∧ (∃ y, hi = some y) ∧ boundPV 0 (hi.map st.ev) = some h ∧ boundPV 0 (some (st.ev m)) = some m' := by
      have hq' := hq
      unfold slice3PV at hq'
      split at hq'
      · rename_i e o'' nl' s' xs' hp1 hu he hhi
        split at hq'
        · rename_i l hh m' e1 e2 e3
          cases hi with
          | none => cases hhi
          | some y => exact ⟨l, hh, m', e1, ⟨y, rfl⟩, by rw [hhi]; exact e2, e3⟩
        · cases hq'
      · cases hq'
    obtain ⟨l, h', m', b1, _, b2, b3⟩ := hbs
    obtain ⟨v, r1, r2⟩ := slice3_run (mx' := a.eval m) hq hv' (hbz lo _ _ b1) (hbz hi _ _ b2) (by
      obtain ⟨k, hk⟩ := boundPV_some b3
      have := hs.ev m
      rw [hk] at this ⊢
      rw [this.lit_inv]; exact .lit _)
    exact ⟨v, w, g1, execVal (by simp only [execOp, ho]; rfl) r1, f1, f2, f3, r2⟩
  · rename_i x i ho
    obtain ⟨q, hq, hk⟩ := h
    refine OpOK.one (.pureVal (by rw [ho]; rfl) fun g a w hs hw => ?_) hk
    obtain ⟨z, h1, h2⟩ := extractPV_run (P := P) hq (hs.ev x)
    exact ⟨z, execVal (by simp only [execOp, ho]) h1, h2⟩
  · rename_i fn first cap ho
    refine OpOK.one (.pureVal (by rw [ho]; rfl) fun g a w hs hw => ⟨.func fn (first.map a.eval) (cap.map a.eval), ?_, ?_⟩) h
    · simp [execOp, ho, Instr.makeFunc]
    · have h1 := ev_args hs first
      have h2 := ev_args hs cap
      exact .fn fn _ _ _ _ h1.1 h2.1 h1.2 h2.2
  · rename_i t ho
    obtain ⟨zs, d, hz, hd, hd1, hk⟩ := h
    refine OpOK.one (.val (by rw [ho]; rfl) fun g a w hs hw => ?_) hk
    obtain ⟨z, hz1, hz2, _⟩ := zeros_run hz g w
    obtain ⟨g', h1, h2, h3, h4⟩ := box_ok hs hw hz2 t d hd1
    refine ⟨_, _, g', execVal (s := Instr.alloc t true (.tuple #[])) (by simp only [execOp, ho]) ?_, h1, h2, h3, h4⟩
    simp [Instr.alloc, hz1, newVar, newRow]
  · rename_i t x ho
    obtain ⟨d, hd, hp, hd1, hk⟩ := h
    refine OpOK.one (.val (by rw [ho]; rfl) fun g a w hs hw => ?_) hk
    obtain ⟨h1, h2⟩ := rep_cells (hs.ev x) hp
    obtain ⟨g', h1, h2, h3, h4⟩ := box_ok hs hw ⟨h1, h2⟩ t d hd1
    refine ⟨_, _, g', execVal (s := Instr.box t (a.eval x)) (by simp only [execOp, ho]) ?_, h1, h2, h3, h4⟩
    simp [Instr.box, newVar, newRow]
  · rename_i t ps ho
    obtain ⟨q, hq, hk⟩ := h
    refine OpOK.one (.pureVal (by rw [ho]; rfl) fun g a w hs hw => ?_) hk
    obtain ⟨z, h1, h2⟩ := buildPV_run (P := P) (g := g) (w := w) hq (vs := ps.map fun (i, x) => (i, a.eval x)) (by simp [partsOf]) (parts_rep hs ps)
    exact ⟨z, execVal (by simp only [execOp, ho]) h1, h2⟩
  · rename_i t n ps ho
    obtain ⟨s, xs, d, hd, hb, hdat, hd1, hk⟩ := h
    refine OpOK.one (.val (by rw [ho]; rfl) fun g a w hs hw => ?_) hk
    obtain ⟨g1, f1, f2, f3, f4⟩ := hs.fzL hw (toksP (partsOf st ps))
    obtain ⟨v, w', g', h1, h2, h3, h4, h5⟩ := buildRow_run f1 f2 hb hdat (vs := ps.map fun (i, x) => (i, a.eval x)) (by simp [partsOf]) (fun i p v hp hv => by
      rw [List.getElem?_map, Option.map_eq_some_iff] at hp
      obtain ⟨q, hq, rfl⟩ := hp
      obtain ⟨e1, e2⟩ := parts_rep hs ps i q v hq hv
      exact ⟨e1, f4 e2⟩) d hd1
    exact ⟨v, w', g', execVal (by simp only [execOp, ho]) h1, h2, h3, f3.trans h4, h5⟩
  · rename_i c ho
    split at h
    · rename_i b hc
      exact pwBuiltin_ok ho hc h
    · rename_i f hc
      obtain ⟨k, first, cap, hf, hsp⟩ := h
      obtain ⟨hcall, T, h', x, hT, hkx, hok⟩ := spOf_ok hsp
      exact OpOK.one (callT_ok ho hc hf hcall hT hok) hkx
    · exact h.elim
  · exact h.elim
end
end Go.Sy
