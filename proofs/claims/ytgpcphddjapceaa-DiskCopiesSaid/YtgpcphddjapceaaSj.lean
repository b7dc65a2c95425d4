/- A region that draws its order of evaluation: one evaluation in an order of ours, where each operation is looked at wherever it may come up. -/
import Derived.Test.YtgpcphddjapceaaSh
import Derived.OrdersIn
namespace Go.Sy

def pwG (P : Program) (E : List (Spec P)) (ops : Array Oper) (o : Oper) (st : St) (K : St → Prop) : Prop :=
  match o.guard with
  | none => pw1 P E o st K
  | some (j, b) => onYld (yldPV st (slotOf ops j)) fun y => Cnd (y == some b) (pw1 P E o st K) (K (st.put o.dst (.lit undef)))

def isPure (P : Program) (o : Oper) : Bool :=
  match o.op with
  | .store _ _ _ => false
  | .alloc _ => false
  | .slice _ _ _ _ (some _) => false
  | .box _ _ => false
  | .buildSlice _ _ _ => false
  | .convert _ d _ => match P.underlying d with
    | some (.slice _) => false
    | _ => true
  | .call c => match c.callee with
    | .builtin .append => false
    | .builtin _ => true
    | _ => false
  | _ => true

theorem mapT_id (st : St) : st.mapT (fun x => x) st.heap = st := by
  simp [St.mapT, mapR_id]

section
variable {P : Program} {E : List (Spec P)} {r : Option Nat} {ops : Array Oper}

theorem mem_looks {o : Oper} {t : Tmp} (h : Operand.tmp t ∈ o.op.operands) : t ∈ o.looksAt ops :=
  List.mem_append_left _ (List.mem_filterMap.2 ⟨.tmp t, by simpa using h, rfl⟩)

theorem ev_agree {o : Oper} {rs rs' : List (Nat × PV)} {h : List (Nat × Ob)} {n : Nat} (hg : ∀ s, s ∈ o.looksAt ops → getR rs' s = getR rs s) {x : Operand} (hx : x ∈ o.op.operands) :
    (St.mk rs' h n).ev x = (St.mk rs h n).ev x := by
  cases x with
  | tmp t => exact hg t (mem_looks hx)
  | const v => rfl
  | global gl => rfl
  | func f => rfl

/-- What stands behind an operation, said of any other slots. -/
def Spc (P : Program) (ops : Array Oper) (pw : St → (St → Prop) → Prop) (o : Oper) (st : St) (K : St → Prop) : Prop :=
  ∃ T h' x, T PV.dead = PV.dead ∧ K ((st.mapT T h').put o.dst x) ∧ (isPure P o = true → T = (fun x => x) ∧ h' = st.heap) ∧
    ∀ rs', (∀ s, s ∈ o.looksAt ops → getR rs' s = getR st.regs s) → pw ⟨rs', st.heap, st.nt⟩ (· = ((St.mk rs' st.heap st.nt).mapT T h').put o.dst x)

theorem Spc.pure {pw : St → (St → Prop) → Prop} {o : Oper} {st : St} {K : St → Prop} (x : PV) (hk : K (st.put o.dst x))
    (h : ∀ rs', (∀ s, s ∈ o.looksAt ops → getR rs' s = getR st.regs s) → pw ⟨rs', st.heap, st.nt⟩ (· = (St.mk rs' st.heap st.nt).put o.dst x)) : Spc P ops pw o st K := by
  refine ⟨fun x => x, st.heap, x, rfl, by rw [mapT_id]; exact hk, fun _ => ⟨rfl, rfl⟩, fun rs' hg => ?_⟩
  have e : (St.mk rs' st.heap st.nt).mapT (fun x => x) st.heap = St.mk rs' st.heap st.nt := mapT_id (St.mk rs' st.heap st.nt)
  rw [e]; exact h rs' hg

theorem mapR_mapR (S T : PV → PV) (r : List (Nat × PV)) : mapR S (mapR T r) = mapR (fun x => S (T x)) r := by
  induction r with
  | nil => rfl
  | cons c r ih => obtain ⟨k, x⟩ := c; simp only [mapR, ih]

/-- A change of names that is the same whatever else stands in slots. -/
def Nat1 (f : St → St) : Prop := ∀ h n, ∃ T h', T PV.dead = PV.dead ∧ ∀ rs, f ⟨rs, h, n⟩ = (St.mk rs h n).mapT T h'

theorem Nat1.scrub (F : Own → Option Own) (p : Nat → Option Nat) : Nat1 (fun st => st.scrub F p) :=
  fun h n => ⟨PV.scrub F p, scrubO F p h, by simp only [PV.scrub], fun rs => by simp only [St.scrub, St.mapT, scrubR_eq]⟩

theorem Nat1.comp {f k : St → St} (hf : Nat1 f) (hk : Nat1 k) : Nat1 (fun st => f (k st)) := by
  intro h n
  obtain ⟨T, h1, hT, e1⟩ := hk h n
  obtain ⟨S, h2, hS, e2⟩ := hf h1 n
  refine ⟨fun x => S (T x), h2, by simp only [hT, hS], fun rs => ?_⟩
  simp only [e1]
  have : (St.mk rs h n).mapT T h1 = St.mk (mapR T rs) h1 n := rfl
  rw [this, e2]
  simp [St.mapT, mapR_mapR]

theorem Nat1.heap (k : List (Nat × Ob) → List (Nat × Ob)) : Nat1 (fun st => { st with heap := k st.heap }) :=
  fun h n => ⟨fun x => x, k h, rfl, fun rs => by simp only [St.mapT, mapR_id]⟩

theorem Nat1.setOb (id : Nat) (ob : Ob) : Nat1 (fun st => st.setOb id ob) := Nat1.heap fun h => setO h id ob

theorem Nat1.self : Nat1 (fun st => st) := fun h n => ⟨fun x => x, h, rfl, fun rs => (mapT_id (St.mk rs h n)).symm⟩

theorem Spc.nat {pw : St → (St → Prop) → Prop} {o : Oper} {st : St} {K : St → Prop} {f : St → St} (hf : Nat1 f) (x : PV) (hk : K ((f st).put o.dst x)) (hp : isPure P o = false)
    (h : ∀ rs', (∀ s, s ∈ o.looksAt ops → getR rs' s = getR st.regs s) → pw ⟨rs', st.heap, st.nt⟩ (· = (f (St.mk rs' st.heap st.nt)).put o.dst x)) : Spc P ops pw o st K := by
  obtain ⟨T, h', hT, e⟩ := hf st.heap st.nt
  refine ⟨T, h', x, hT, ?_, fun h => (by rw [hp] at h; cases h), fun rs' hg => ?_⟩
  · have : f st = st.mapT T h' := e st.regs
    rw [← this]; exact hk
  · rw [← e rs']; exact h rs' hg

theorem Nat1.fz (ts : List Tk) : Nat1 (fun st => st.fz ts) := by
  unfold St.fz
  by_cases h : ts.isEmpty = true
  · simp only [h, if_true]; exact Nat1.self
  · simp only [h, if_false, Bool.false_eq_true]; exact Nat1.scrub _ _

theorem Nat1.off (d : Nat) : Nat1 (fun st => st.off d) := by
  unfold St.off; exact Nat1.scrub _ _

theorem Nat1.box (d : Nat) (xs : List PV) : Nat1 (boxSt d xs) :=
  (Nat1.heap fun h => (d, Ob.cells (PV.scrubL (Fren (tokAt d xs 0)) (offId d) xs)) :: h).comp (Nat1.scrub (Fren (tokAt d xs 0)) (offId d))

theorem pokeR_eq (t : Tk) (k : Nat) (x : PV) (r : List (Nat × PV)) : pokeR t k x r = mapR (pokeV t k x) r := by
  induction r with
  | nil => rfl
  | cons c r ih => obtain ⟨i, y⟩ := c; simp only [mapR, pokeR, ih]
theorem Nat1.poke (t : Tk) (k : Nat) (x : PV) : Nat1 (fun st => st.poke t k x) :=
  fun h n => ⟨pokeV t k x, scrubO (Fren (noTk t)) some h, pokeV_dead t k x, fun rs => by simp only [St.poke, St.mapT, pokeR_eq]⟩

theorem storeSt_nat {t : TypeId} {rs : List (Nat × PV)} {h : List (Nat × Ob)} {n : Nat} {p x : PV} {st' : St} (hs : storeSt P t ⟨rs, h, n⟩ p x = some st') :
    ∃ f, Nat1 f ∧ st' = f ⟨rs, h, n⟩ ∧ ∀ rs', storeSt P t ⟨rs', h, n⟩ p x = some (f ⟨rs', h, n⟩) := by
  unfold storeSt at hs
  split at hs
  · rename_i id off
    split at hs
    · rename_i xs ho
      split at hs
      · rename_i hc
        split at hs
        · rename_i q nl s ys
          split at hs
          · rename_i hq
            cases hs
            refine ⟨fun st => st.setOb id (.cells (writeAt xs off [.sl (.own q) nl s ys])), Nat1.setOb _ _, rfl, fun rs' => ?_⟩
            simp only [storeSt]
            rw [show getO h id = some (.cells xs) from ho]
            simp only
            rw [if_pos hc, if_pos hq]
          · rename_i hq
            cases hs
            refine ⟨fun st => (st.scrub (Fren (adoptTk id off q)) some).setOb id (.cells (writeAt (PV.scrubL (Fren (adoptTk id off q)) some xs) off [.sl (.own (.cell id off)) nl s ys])), (Nat1.setOb _ _).comp (Nat1.scrub _ _), rfl, fun rs' => ?_⟩
            simp only [storeSt]
            rw [show getO h id = some (.cells xs) from ho]
            simp only
            rw [if_pos hc, if_neg hq]
        · rename_i ys
          split at hs
          · rename_i hq
            cases hs
            refine ⟨fun st => st.setOb id (.cells (writeAt xs off ys)), Nat1.setOb _ _, rfl, fun rs' => ?_⟩
            simp only [storeSt]
            rw [show getO h id = some (.cells xs) from ho]
            simp only
            rw [if_pos hc, if_pos hq]
          · cases hs
        · rename_i h1 h2
          cases hs
          refine ⟨fun st => st.setOb id (.cells (writeAt xs off [x])), Nat1.setOb _ _, rfl, fun rs' => ?_⟩
          unfold storeSt
          simp only
          rw [show getO h id = some (.cells xs) from ho]
          simp only
          rw [if_pos hc]
          try rfl
      · cases hs
    · cases hs
  · rename_i n zs
    split at hs
    · rename_i v
      split at hs
      · rename_i hc
        cases hs
        refine ⟨fun st => st.poke (.loc n) zs.length (.lit v), Nat1.poke _ _ _, rfl, fun rs' => ?_⟩
        simp only [storeSt]
        rw [if_pos hc]
      · cases hs
    · cases hs
  · cases hs

theorem pw1_spc {o : Oper} {st : St} {K : St → Prop} (h : pw1 P E o st K) : Spc P ops (OpOK P r o) o st K := by
  obtain ⟨rs, hp, n⟩ := st
  have hev : ∀ rs', (∀ s, s ∈ o.looksAt ops → getR rs' s = getR rs s) → ∀ x, x ∈ o.op.operands → (St.mk rs' hp n).ev x = (St.mk rs hp n).ev x := fun rs' hg x hx => ev_agree hg hx
  have hmap : ∀ rs', (∀ s, s ∈ o.looksAt ops → getR rs' s = getR rs s) → ∀ xs : Array Operand, (∀ x, x ∈ xs → x ∈ o.op.operands) → xs.toList.map (St.mk rs' hp n).ev = xs.toList.map (St.mk rs hp n).ev :=
    fun rs' hg xs hx => List.map_congr_left fun x hx' => hev rs' hg x (hx x (by simpa using hx'))
  unfold pw1 at h
  split at h
  · rename_i x ho
    refine Spc.pure _ h fun rs' hg => ?_
    refine pw1_ok (E := E) ?_
    unfold pw1; simp only [ho]; rw [hev rs' hg x (by simp [ho, Op.operands])]
  · rename_i x ho
    refine Spc.pure _ h fun rs' hg => ?_
    refine pw1_ok (E := E) ?_
    unfold pw1; simp only [ho]; rw [hev rs' hg x (by simp [ho, Op.operands])]
  · rename_i c x y ho
    obtain ⟨t, ht, hk⟩ := onBool_iff.1 h
    refine Spc.pure _ hk fun rs' hg => ?_
    refine pw1_ok (E := E) ?_
    unfold pw1; simp only [ho]
    refine onBool_iff.2 ⟨t, by rw [hev rs' hg c (by simp [ho, Op.operands])]; exact ht, ?_⟩
    rw [hev rs' hg x (by simp [ho, Op.operands]), hev rs' hg y (by simp [ho, Op.operands])]
  · rename_i op t x y yt ho
    obtain ⟨q, hq, hk⟩ := h
    refine Spc.pure _ hk fun rs' hg => ?_
    refine pw1_ok (E := E) ?_
    unfold pw1; simp only [ho]
    exact ⟨q, by rw [hev rs' hg x (by simp [ho, Op.operands]), hev rs' hg y (by simp [ho, Op.operands])]; exact hq, rfl⟩
  · rename_i op t x ho
    obtain ⟨q, hq, hk⟩ := h
    refine Spc.pure _ hk fun rs' hg => ?_
    refine pw1_ok (E := E) ?_
    unfold pw1; simp only [ho]
    exact ⟨q, by rw [hev rs' hg x (by simp [ho, Op.operands])]; exact hq, rfl⟩
  · rename_i s d x ho
    unfold convK at h
    split at h
    · rename_i e hd
      split at h
      · rename_i n' sz xs hx
        obtain ⟨he1, he, hk⟩ := h
        refine Spc.nat Nat1.self _ hk (by simp only [isPure, ho, hd]) fun rs' hg => ?_
        refine pw1_ok (E := E) ?_
        unfold pw1; simp only [ho]
        rw [hev rs' hg x (by simp [ho, Op.operands]), hx]
        unfold convK
        simp only [hd]
        exact ⟨he1, he, trivial⟩
      · rename_i b n' hx hdst
        obtain ⟨hu, he, hb, hn1, hk⟩ := h
        refine Spc.nat (Nat1.off n') (.sl (.own (.loc n')) false 1 (b.data.toList.map fun c => .lit (.int .u8 c.toNat))) hk (by simp only [isPure, ho, hd]) fun rs' hg => ?_
        refine pw1_ok (E := E) ?_
        unfold pw1; simp only [ho]
        rw [hev rs' hg x (by simp [ho, Op.operands]), hx, hdst]
        unfold convK
        simp only [hd]
        exact ⟨hu, he, hb, hn1, trivial⟩
      · exact h.elim
    · rename_i hne
      obtain ⟨q, hq, hk⟩ := h
      refine Spc.pure _ hk fun rs' hg => ?_
      refine pw1_ok (E := E) ?_
      unfold pw1; simp only [ho]
      rw [hev rs' hg x (by simp [ho, Op.operands])]
      unfold convK
      split
      · rename_i e hd; exact absurd hd (hne e)
      · exact ⟨q, hq, rfl⟩
  · rename_i t x ho
    obtain ⟨q, hq, hk⟩ := h
    refine Spc.pure _ hk fun rs' hg => ?_
    refine pw1_ok (E := E) ?_
    unfold pw1; simp only [ho]
    exact ⟨q, by rw [hev rs' hg x (by simp [ho, Op.operands])]; exact hq, rfl⟩
  · rename_i t x y ho
    obtain ⟨st', hq, hk⟩ := h
    obtain ⟨f, hf, rfl, hall⟩ := storeSt_nat hq
    refine Spc.nat hf _ hk (by simp only [isPure, ho]) fun rs' hg => ?_
    refine pw1_ok (E := E) ?_
    unfold pw1; simp only [ho]
    exact ⟨_, by rw [hev rs' hg x (by simp [ho, Op.operands]), hev rs' hg y (by simp [ho, Op.operands])]; exact hall rs', rfl⟩
  · rename_i x ho
    obtain ⟨q, hq, hk⟩ := h
    refine Spc.pure _ hk fun rs' hg => ?_
    refine pw1_ok (E := E) ?_
    unfold pw1; simp only [ho]
    exact ⟨q, by rw [hev rs' hg x (by simp [ho, Op.operands])]; exact hq, rfl⟩
  · rename_i s x f ho
    obtain ⟨q, hq, hk⟩ := h
    refine Spc.pure _ hk fun rs' hg => ?_
    refine pw1_ok (E := E) ?_
    unfold pw1; simp only [ho]
    exact ⟨q, by rw [hev rs' hg x (by simp [ho, Op.operands])]; exact hq, rfl⟩
  · rename_i s x f ho
    obtain ⟨q, hq, hk⟩ := h
    refine Spc.pure _ hk fun rs' hg => ?_
    refine pw1_ok (E := E) ?_
    unfold pw1; simp only [ho]
    exact ⟨q, by rw [hev rs' hg x (by simp [ho, Op.operands])]; exact hq, rfl⟩
  · rename_i t x i ho
    obtain ⟨q, hq, hk⟩ := h
    refine Spc.pure _ hk fun rs' hg => ?_
    refine pw1_ok (E := E) ?_
    unfold pw1; simp only [ho]
    exact ⟨q, by rw [hev rs' hg x (by simp [ho, Op.operands]), hev rs' hg i (by simp [ho, Op.operands])]; exact hq, rfl⟩
  · rename_i t x i ho
    obtain ⟨q, hq, hk⟩ := h
    refine Spc.pure _ hk fun rs' hg => ?_
    refine pw1_ok (E := E) ?_
    unfold pw1; simp only [ho]
    exact ⟨q, by rw [hev rs' hg x (by simp [ho, Op.operands]), hev rs' hg i (by simp [ho, Op.operands])]; exact hq, rfl⟩
  · rename_i t x lo hi ho
    obtain ⟨q, hq, hk⟩ := h
    refine Spc.pure _ hk fun rs' hg => ?_
    refine pw1_ok (E := E) ?_
    unfold pw1; simp only [ho]
    have e1 : lo.map (St.mk rs' hp n).ev = lo.map (St.mk rs hp n).ev := by
      cases lo with
      | none => rfl
      | some y => simp only [Option.map_some]; rw [hev rs' hg y (by simp [ho, Op.operands])]
    have e2 : hi.map (St.mk rs' hp n).ev = hi.map (St.mk rs hp n).ev := by
      cases hi with
      | none => rfl
      | some y => simp only [Option.map_some]; rw [hev rs' hg y (by simp [ho, Op.operands])]
    exact ⟨q, by rw [hev rs' hg x (by simp [ho, Op.operands]), e1, e2]; exact hq, rfl⟩
  · rename_i t x lo hi m ho
    obtain ⟨q, d, hd, hq, hk⟩ := h
    refine Spc.nat (f := fun st => st.fz q.1) (Nat1.fz _) _ hk (by simp only [isPure, ho]) fun rs' hg => ?_
    refine pw1_ok (E := E) ?_
    unfold pw1; simp only [ho]
    have e1 : lo.map (St.mk rs' hp n).ev = lo.map (St.mk rs hp n).ev := by
      cases lo with
      | none => rfl
      | some y => simp only [Option.map_some]; rw [hev rs' hg y (by simp [ho, Op.operands])]
    have e2 : hi.map (St.mk rs' hp n).ev = hi.map (St.mk rs hp n).ev := by
      cases hi with
      | none => rfl
      | some y => simp only [Option.map_some]; rw [hev rs' hg y (by simp [ho, Op.operands])]
    exact ⟨q, d, hd, by rw [hev rs' hg x (by simp [ho, Op.operands]), hev rs' hg m (by simp [ho, Op.operands]), e1, e2]; exact hq, rfl⟩
  · rename_i x i ho
    obtain ⟨q, hq, hk⟩ := h
    refine Spc.pure _ hk fun rs' hg => ?_
    refine pw1_ok (E := E) ?_
    unfold pw1; simp only [ho]
    exact ⟨q, by rw [hev rs' hg x (by simp [ho, Op.operands])]; exact hq, rfl⟩
  · rename_i fn first cap ho
    refine Spc.pure _ h fun rs' hg => ?_
    refine pw1_ok (E := E) ?_
    unfold pw1; simp only [ho]
    rw [hmap rs' hg first (fun x hx => by simp [ho, Op.operands, hx]), hmap rs' hg cap (fun x hx => by simp [ho, Op.operands, hx])]
  · rename_i t ho
    obtain ⟨zs, d, hz, hd, hd1, hk⟩ := h
    refine Spc.nat (f := boxSt d zs) (Nat1.box _ _) _ hk (by simp only [isPure, ho]) fun rs' hg => ?_
    refine pw1_ok (E := E) ?_
    unfold pw1; simp only [ho]
    exact ⟨zs, d, hz, hd, hd1, rfl⟩
  · rename_i t x ho
    obtain ⟨d, hd, hpl, hd1, hk⟩ := h
    refine Spc.nat (f := boxSt d ((St.mk rs hp n).ev x).comps) (Nat1.box _ _) _ hk (by simp only [isPure, ho]) fun rs' hg => ?_
    refine pw1_ok (E := E) ?_
    unfold pw1; simp only [ho]
    rw [hev rs' hg x (by simp [ho, Op.operands])]
    exact ⟨d, hd, hpl, hd1, rfl⟩
  · rename_i t ps ho
    obtain ⟨q, hq, hk⟩ := h
    refine Spc.pure _ hk fun rs' hg => ?_
    refine pw1_ok (E := E) ?_
    unfold pw1; simp only [ho]
    have e : partsOf (St.mk rs' hp n) ps = partsOf (St.mk rs hp n) ps := List.map_congr_left fun p hp' => by
      rw [hev rs' hg p.2 (by simp only [ho, Op.operands]; simp; exact ⟨p.1, by simpa using hp'⟩)]
    exact ⟨q, by rw [e]; exact hq, rfl⟩
  · rename_i t m ps ho
    obtain ⟨s, xs, d, hd, hb, hdat, hd1, hk⟩ := h
    have e : ∀ rs', (∀ s, s ∈ o.looksAt ops → getR rs' s = getR rs s) → partsOf (St.mk rs' hp n) ps = partsOf (St.mk rs hp n) ps := fun rs' hg => List.map_congr_left fun p hp' => by
      rw [hev rs' hg p.2 (by simp only [ho, Op.operands]; simp; exact ⟨p.1, by simpa using hp'⟩)]
    refine Spc.nat (f := fun st => (st.fz (toksP (partsOf (St.mk rs hp n) ps))).off d) ((Nat1.off d).comp (Nat1.fz _)) _ hk (by simp only [isPure, ho]) fun rs' hg => ?_
    refine pw1_ok (E := E) ?_
    unfold pw1; simp only [ho]
    rw [e rs' hg]
    exact ⟨s, xs, d, hd, hb, hdat, hd1, rfl⟩
  · rename_i c ho
    split at h
    · rename_i b hc
      have hargs : ∀ rs', (∀ s, s ∈ o.looksAt ops → getR rs' s = getR rs s) → c.args.toList.map (St.mk rs' hp n).ev = c.args.toList.map (St.mk rs hp n).ev := fun rs' hg => hmap rs' hg c.args fun x hx => by
        simp [ho, Op.operands, Call.operands, hc, hx]
      have go : ∀ rs', pw1 P E o ⟨rs', hp, n⟩ = pwBuiltin P b c.argTypes.toList o.type (c.args.toList.map (St.mk rs' hp n).ev) o.dst ⟨rs', hp, n⟩ := fun rs' => by
        funext K'; unfold pw1; simp only [ho, hc]
      unfold pwBuiltin at h
      split at h
      · rename_i t p h1 h2
        obtain ⟨x, hx, hk⟩ := h
        refine Spc.pure _ hk fun rs' hg => ?_
        refine pw1_ok (E := E) ?_
        rw [go, hargs rs' hg, h2, h1]
        exact ⟨x, hx, rfl⟩
      · obtain ⟨vs, x, h1, h2, hk⟩ := h
        refine Spc.pure _ hk fun rs' hg => ?_
        refine pw1_ok (E := E) ?_
        rw [go, hargs rs' hg]
        exact ⟨vs, x, h1, h2, rfl⟩
      · obtain ⟨vs, x, h1, h2, hk⟩ := h
        refine Spc.pure _ hk fun rs' hg => ?_
        refine pw1_ok (E := E) ?_
        rw [go, hargs rs' hg]
        exact ⟨vs, x, h1, h2, rfl⟩
      · rename_i T tx p q h1 h2
        obtain ⟨d, t, x, hd, happ, hk⟩ := h
        refine Spc.nat (Nat1.scrub _ _) _ hk (by simp only [isPure, ho, hc]) fun rs' hg => ?_
        refine pw1_ok (E := E) ?_
        rw [go, hargs rs' hg, h2, h1]
        exact ⟨d, t, x, hd, happ, rfl⟩
      · exact h.elim
    · rename_i f hc
      obtain ⟨k, first, cap, hf, hsp⟩ := h
      obtain ⟨hcall, T, h', x, hT, hkx, hok⟩ := spOf_ok hsp
      have hargs : ∀ rs', (∀ s, s ∈ o.looksAt ops → getR rs' s = getR rs s) → c.args.toList.map (St.mk rs' hp n).ev = c.args.toList.map (St.mk rs hp n).ev := fun rs' hg => hmap rs' hg c.args fun x hx => by
        simp [ho, Op.operands, Call.operands, hc, hx]
      refine ⟨T, h', x, hT, hkx, fun h => (by simp only [isPure, ho, hc] at h; cases h), fun rs' hg => ?_⟩
      exact callT_ok ho hc (by rw [hev rs' hg f (by simp [ho, Op.operands, Call.operands, hc])]; exact hf) hcall hT (by rw [hargs rs' hg]; exact hok)
    · exact h.elim
  · exact h.elim

end
end Go.Sy
