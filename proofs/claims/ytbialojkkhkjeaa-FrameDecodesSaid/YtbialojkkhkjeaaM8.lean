/- Forms of messages: the program's. (and what stands on it) -/
import Derived.Test.YtbialojkkhkjeaaM7
import Derived.Test.YtbialojkkhkjeaaM4

/-! Forms of messages: the program's. -/
namespace Go.Sy
/-- A text, put behind bytes. -/
def txB (x : ByteArray) : List Int := enc x.size ++ bs x
/-- A number that is put. -/
def numB (n : Int) : List Int := enc (IntKind.u64.wrap n).toNat
def idsF (l : List ByteArray) : List Int := enc l.length ++ l.flatMap txB
def rgF (r : Rg) : List Int := txB r.lo ++ txB r.hi ++ numB r.many ++ txB r.mark
/-- A message's form. -/
def formM (m : Ms) : List Int := numB m.kind ++
  if m.kind = 1 then numB m.rs.length ++ m.rs.flatMap rgF
  else if m.kind = 2 then txB m.lo ++ txB m.hi ++ idsF m.ids
  else if m.kind = 3 then idsF m.ids
  else txB m.bundle ++ numB m.index ++ numB m.many ++ (enc m.body.length ++ m.body)
theorem wrap_u64_in (n : Int) : 0 ≤ IntKind.u64.wrap n ∧ IntKind.u64.wrap n < 18446744073709551616 := by rw [wrap_is_u64]; omega
theorem numB_length (n : Int) : (numB n).length ≤ 10 := enc_u64 (by have := wrap_u64_in n; omega)
theorem txB_length {x : ByteArray} (h : x.size ≤ 1000000) : (txB x).length ≤ 10 + x.size := by
  have := enc_u64 (n := x.size) (by omega)
  have := bs_length x
  simp only [txB, List.length_append]; omega
theorem rgF_length {r : Rg} (h1 : r.lo.size ≤ 1000) (h2 : r.hi.size ≤ 1000) (h3 : r.mark.size ≤ 1000) : (rgF r).length ≤ 3100 := by
  have := txB_length (x := r.lo) (by omega)
  have := txB_length (x := r.hi) (by omega)
  have := txB_length (x := r.mark) (by omega)
  have := numB_length r.many
  simp only [rgF, List.length_append]; omega
theorem flat_length {α : Type} (f : α → List Int) (n : Nat) : ∀ l : List α, (∀ x, x ∈ l → (f x).length ≤ n) → (l.flatMap f).length ≤ n * l.length
  | [], _ => by simp
  | x :: l, h => by
    have h1 := h x (by simp)
    have h2 := flat_length f n l fun y hy => h y (by simp [hy])
    simp only [List.flatMap_cons, List.length_append, List.length_cons]
    rw [Nat.mul_add, Nat.mul_one]; omega
theorem flat_snoc {α : Type} (f : α → List Int) (l : List α) {i : Nat} {x : α} (hx : l[i]? = some x) : (l.take (i + 1)).flatMap f = (l.take i).flatMap f ++ f x := by
  rw [List.take_add_one, hx]; simp
end Go.Sy
namespace Go.Proofs.Ytbialojkkhkjeaa
open Go.Sy
set_option maxRecDepth 100000 in
set_option maxHeartbeats 4000000 in
theorem ftext_fn (nl : Bool) (b : List Int) (x : ByteArray) (hn : nl = true → b = []) (hb : b.length ≤ 10000000) (hx : x.size ≤ 1000000) :
    Fc Try.prog 43 [.sl .imm nl 1 (u8s b), .lit (.string x)] [] (.sl (.own (.loc 1080)) false 1 (u8s (b ++ txB x))) [] := by
  have hl := bs_length x
  have hx' : x.size ≤ 140737488355328 := by omega
  refine Fc.of (anys _ [45]) [] mixed Try.func43 rfl (by rfl) (by simp [Try.ntmps43]) (by decide) ?_
  simp -implicitDefEqProofs -dsimp [Try.ntmps43, hx']
  refine CallK.fresh ?_
  simp -implicitDefEqProofs -dsimp
  refine CallQ.same (text_fn nl false b (bs x) hn hb (by omega)) rfl ?_
  simp -implicitDefEqProofs -dsimp [fr_u8s, hl, txB]

set_option maxRecDepth 100000 in
set_option maxHeartbeats 4000000 in
theorem flist_fn (nl n2 : Bool) (b : List Int) (l : List ByteArray) (hn : nl = true → b = []) (hb : b.length ≤ 1000000) (hl : l.length ≤ 1000) (hs : ∀ p, p ∈ l → p.size ≤ 1000) :
    Fc Try.prog 44 [.sl .imm nl 1 (u8s b), .sl .imm n2 1 (idc l)] [] (.sl (.own (.loc 1200)) false 1 (u8s (b ++ idsF l))) [] := by
  have hw : IntKind.u64.wrap (l.length : Int) = l.length := by rw [wrap_is_u64]; omega
  refine Fc.of (anys _ [42, 43]) [] mixed Try.func44 rfl (by rfl) (by simp [Try.ntmps44]) (by decide) ?_
  simp -implicitDefEqProofs -dsimp [Try.ntmps44, hw]
  refine CallK.fresh ?_
  simp -implicitDefEqProofs -dsimp
  refine CallQ.same (num_fn nl b l.length hn (by omega) (by omega)) rfl ?_
  simp -implicitDefEqProofs -dsimp [fr_u8s]
  have he := enc_u64 (n := l.length) (by omega)
  obtain ⟨c, hc⟩ : ∃ c, c = b ++ enc l.length := ⟨_, rfl⟩
  have hcl : c.length ≤ 1000010 := by rw [hc]; simp; omega
  have hfin : b ++ idsF l = c ++ l.flatMap txB := by rw [hc, idsF]; simp
  rw [← hc, hfin]
  refine LpK.mkA (anys _ [43]) mixed [.mv 1110 1200] (fun i : Nat => i ≤ l.length) (fun i => ⟨[(0, .sl (.own (.loc 1200)) false 1 (u8s (c ++ (l.take i).flatMap txB))), (12, .sl .imm n2 1 (idc l)), (13, .lit (.int .i64 l.length)), (14, .lit (.int .i64 i))], [], 23⟩) (fun i => l.length - i) 0 (by simp) (by simp -implicitDefEqProofs -dsimp) ?_
  intro i hi
  by_cases hlt : i < l.length
  · obtain ⟨p, hp⟩ : ∃ p, l[i] = p := ⟨_, rfl⟩
    have hp' : l[i]? = some p := by rw [List.getElem?_eq_getElem hlt, hp]
    have hps := hs p (hp ▸ List.getElem_mem hlt)
    have hw : IntKind.i64.wrap ((i : Int) + 1) = (i : Int) + 1 := wrap64 (by omega) (by omega)
    have hsn := flat_snoc txB l hp'
    have hfl := flat_length txB 1010 (l.take i) fun q hq => by have := hs q (List.mem_of_mem_take hq); have := txB_length (x := q) (by omega); omega
    rw [List.length_take, Nat.min_eq_left (by omega)] at hfl
    obtain ⟨d, hd⟩ : ∃ d, d = c ++ (l.take i).flatMap txB := ⟨_, rfl⟩
    have hdl : d.length ≤ 10000000 := by rw [hd, List.length_append]; omega
    have hnx : c ++ (l.take (i + 1)).flatMap txB = d ++ txB p := by rw [hsn, hd]; simp
    rw [← hd]
    simp -implicitDefEqProofs -dsimp [hlt, hp, hp']
    refine CallK.fresh ?_
    simp -implicitDefEqProofs -dsimp
    refine CallQ.same (ftext_fn false d p (by simp) hdl (by omega)) rfl ?_
    simp -implicitDefEqProofs -dsimp [fr_u8s, hw]
    exact .mk [] (i + 1) hlt (by omega) (by simp -implicitDefEqProofs -dsimp [hnx])
  · have e : i = l.length := by omega
    subst e
    simp -implicitDefEqProofs -dsimp

theorem numB_nat {n : Nat} (h : n < 18446744073709551616) : numB (n : Int) = enc n := by
  unfold numB
  rw [wrap_is_u64]; congr 1; omega
theorem fnum_fn (nl : Bool) (b : List Int) (n : Int) (hn : nl = true → b = []) (hb : b.length ≤ 10000000) :
    Fc Try.prog 42 [.sl .imm nl 1 (u8s b), .lit (.int .u64 (IntKind.u64.wrap n))] [] (.sl (.own (.loc 1070)) false 1 (u8s (b ++ numB n))) [] := by
  obtain ⟨h0, h1⟩ := wrap_u64_in n
  obtain ⟨k, hk⟩ := Int.eq_ofNat_of_zero_le h0
  have := num_fn nl b k hn hb (by omega)
  unfold numB
  rw [hk]
  exact this
theorem fnum0_fn (n : Int) :
    Fc Try.prog 42 [.sl .imm true 0 [], .lit (.int .u64 (IntKind.u64.wrap n))] [] (.sl (.own (.loc 1070)) false 1 (u8s (numB n))) [] := by
  have := fnum_fn true [] n (by simp) (by simp)
  exact this.args (by simp)

set_option maxRecDepth 100000 in
set_option maxHeartbeats 16000000 in
theorem form_fn (m : Ms) (hr : m.rs.length ≤ 100) (hrs : ∀ r, r ∈ m.rs → r.lo.size ≤ 1000 ∧ r.hi.size ≤ 1000 ∧ r.mark.size ≤ 1000) (hlo : m.lo.size ≤ 1000) (hhi : m.hi.size ≤ 1000) (hi : m.ids.length ≤ 1000) (his : ∀ p, p ∈ m.ids → p.size ≤ 1000)
    (hbu : m.bundle.size ≤ 1000) (hbo : m.body.length ≤ 1000000) :
    Fc Try.prog 22 [.agg m.cells] [] (.sl (.own (.loc 99)) false 1 (u8s (formM m))) [] := by
  have l0 := numB_length m.kind
  have b1 := txB_length (x := m.lo) (by omega)
  have b2 := txB_length (x := m.hi) (by omega)
  have b3 := txB_length (x := m.bundle) (by omega)
  have b4 := numB_length m.index
  have b5 := numB_length m.many
  by_cases k1 : m.kind = 1
  · have el := numB_length m.rs.length
    have hk := eq_true k1
    have hf : formM m = numB m.kind ++ numB m.rs.length ++ m.rs.flatMap rgF := by rw [formM, if_pos k1]; simp
    suffices h : Fc Try.prog 22 [.agg m.cells] [] (.sl (.own (.loc 1550)) false 1 (u8s (formM m))) [] by
      have := h.mv 1550 99
      simpa using this
    rw [hf]
    refine Fc.of (anys _ [42, 43, 44, 45]) sch22 mixed Try.func22 rfl (by rfl) (by simp [Try.ntmps22]) (by decide) ?_
    simp -implicitDefEqProofs -dsimp [Try.ntmps22, Ms.cells]
    refine CallK.fresh ?_
    simp -implicitDefEqProofs -dsimp
    refine CallQ.same (fnum0_fn m.kind) rfl ?_
    simp -implicitDefEqProofs -dsimp [fr_u8s]
    simp -implicitDefEqProofs -dsimp [hk]
    refine CallK.fresh ?_
    simp -implicitDefEqProofs -dsimp
    refine CallQ.same (fnum_fn false (numB m.kind) m.rs.length (by simp) (by omega)) rfl ?_
    simp -implicitDefEqProofs -dsimp [fr_u8s]
    obtain ⟨c, hc⟩ : ∃ c, c = numB m.kind ++ numB m.rs.length := ⟨_, rfl⟩
    have hcl : c.length ≤ 20 := by rw [hc, List.length_append]; omega
    rw [← hc]
    refine LpK.mkA (anys _ [42, 43, 44, 45]) mixed [.mv 1340 1550] (fun i : Nat => i ≤ m.rs.length) (fun i => ⟨[(3, .sl (.own (.loc 1550)) false 1 (u8s (c ++ (m.rs.take i).flatMap rgF))), (36, .sl .imm m.nr 4 (rgs m.rs)), (37, .lit (.int .i64 m.rs.length)), (38, .lit (.int .i64 i))], [], 76⟩) (fun i => m.rs.length - i) 0 (by simp) (by simp -implicitDefEqProofs -dsimp) ?_
    intro i hi
    by_cases hlt : i < m.rs.length
    · obtain ⟨r, hp⟩ : ∃ r, m.rs[i] = r := ⟨_, rfl⟩
      have hp' : m.rs[i]? = some r := by rw [List.getElem?_eq_getElem hlt, hp]
      obtain ⟨s1, s2, s3⟩ := hrs r (hp ▸ List.getElem_mem hlt)
      have hw : IntKind.i64.wrap ((i : Int) + 1) = (i : Int) + 1 := wrap64 (by omega) (by omega)
      have hsn := flat_snoc rgF m.rs hp'
      have hfl := flat_length rgF 3100 (m.rs.take i) fun q hq => by
        obtain ⟨a, b, c⟩ := hrs q (List.mem_of_mem_take hq)
        exact rgF_length a b c
      rw [List.length_take, Nat.min_eq_left (by omega)] at hfl
      obtain ⟨d, hd⟩ : ∃ d, d = c ++ (m.rs.take i).flatMap rgF := ⟨_, rfl⟩
      have hdl : d.length ≤ 1000000 := by rw [hd, List.length_append]; omega
      have hnx : c ++ (m.rs.take (i + 1)).flatMap rgF = d ++ (txB r.lo ++ (txB r.hi ++ (numB r.many ++ txB r.mark))) := by rw [hsn, hd]; simp [rgF]
      have q1 := txB_length (x := r.lo) (by omega)
      have q2 := txB_length (x := r.hi) (by omega)
      have q3 := numB_length r.many
      rw [← hd]
      simp -implicitDefEqProofs -dsimp [hlt, hp, hp']
      refine CallK.fresh ?_
      simp -implicitDefEqProofs -dsimp
      refine CallQ.same (ftext_fn false d r.lo (by simp) (by omega) (by omega)) rfl ?_
      simp -implicitDefEqProofs -dsimp [fr_u8s, hw]
      refine CallK.fresh ?_
      simp -implicitDefEqProofs -dsimp
      refine CallQ.same (ftext_fn false (d ++ txB r.lo) r.hi (by simp) (by simp; omega) (by omega)) rfl ?_
      simp -implicitDefEqProofs -dsimp [fr_u8s, hw]
      refine CallK.fresh ?_
      simp -implicitDefEqProofs -dsimp
      refine CallQ.same (fnum_fn false (d ++ (txB r.lo ++ txB r.hi)) r.many (by simp) (by simp; omega)) rfl ?_
      simp -implicitDefEqProofs -dsimp [fr_u8s, hw]
      refine CallK.fresh ?_
      simp -implicitDefEqProofs -dsimp
      refine CallQ.same (ftext_fn false (d ++ (txB r.lo ++ (txB r.hi ++ numB r.many))) r.mark (by simp) (by simp; omega) (by omega)) rfl ?_
      simp -implicitDefEqProofs -dsimp [fr_u8s, hw]
      exact .mk [] (i + 1) hlt (by omega) (by simp -implicitDefEqProofs -dsimp [hnx])
    · have e : i = m.rs.length := by omega
      subst e
      simp -implicitDefEqProofs -dsimp
  · by_cases k2 : m.kind = 2
    · have hf : formM m = numB m.kind ++ txB m.lo ++ txB m.hi ++ idsF m.ids := by rw [formM, if_neg k1, if_pos k2]; simp
      have hk := eq_true k2
      suffices h : Fc Try.prog 22 [.agg m.cells] [] (.sl (.own (.loc 1680)) false 1 (u8s (formM m))) [] by
        have := h.mv 1680 99
        simpa using this
      rw [hf]
      refine Fc.of (anys _ [42, 43, 44, 45]) sch22 mixed Try.func22 rfl (by rfl) (by simp [Try.ntmps22]) (by decide) ?_
      simp -implicitDefEqProofs -dsimp [Try.ntmps22, Ms.cells]
      refine CallK.fresh ?_
      simp -implicitDefEqProofs -dsimp
      refine CallQ.same (fnum0_fn m.kind) rfl ?_
      simp -implicitDefEqProofs -dsimp [fr_u8s]
      simp -implicitDefEqProofs -dsimp [k1, hk]
      refine CallK.fresh ?_
      simp -implicitDefEqProofs -dsimp
      refine CallQ.same (ftext_fn false (numB m.kind) m.lo (by simp) (by omega) (by omega)) rfl ?_
      simp -implicitDefEqProofs -dsimp [fr_u8s]
      refine CallK.fresh ?_
      simp -implicitDefEqProofs -dsimp
      refine CallQ.same (ftext_fn false (numB m.kind ++ txB m.lo) m.hi (by simp) (by simp; omega) (by omega)) rfl ?_
      simp -implicitDefEqProofs -dsimp [fr_u8s]
      refine CallK.fresh ?_
      simp -implicitDefEqProofs -dsimp
      refine CallQ.same (flist_fn false _ (numB m.kind ++ (txB m.lo ++ txB m.hi)) m.ids (by simp) (by simp; omega) (by omega) his) rfl ?_
      simp -implicitDefEqProofs -dsimp [fr_u8s]
    · by_cases k3 : m.kind = 3
      · have hf : formM m = numB m.kind ++ idsF m.ids := by rw [formM, if_neg k1, if_neg k2, if_pos k3]
        have hk := eq_true k3
        suffices h : Fc Try.prog 22 [.agg m.cells] [] (.sl (.own (.loc 1740)) false 1 (u8s (formM m))) [] by
          have := h.mv 1740 99
          simpa using this
        rw [hf]
        refine Fc.of (anys _ [42, 43, 44, 45]) sch22 mixed Try.func22 rfl (by rfl) (by simp [Try.ntmps22]) (by decide) ?_
        simp -implicitDefEqProofs -dsimp [Try.ntmps22, Ms.cells]
        refine CallK.fresh ?_
        simp -implicitDefEqProofs -dsimp
        refine CallQ.same (fnum0_fn m.kind) rfl ?_
        simp -implicitDefEqProofs -dsimp [fr_u8s]
        simp -implicitDefEqProofs -dsimp [k1, k2, hk]
        refine CallK.fresh ?_
        simp -implicitDefEqProofs -dsimp
        refine CallQ.same (flist_fn false _ (numB m.kind) m.ids (by simp) (by omega) (by omega) his) rfl ?_
        simp -implicitDefEqProofs -dsimp [fr_u8s]
      · have hf : formM m = numB m.kind ++ txB m.bundle ++ numB m.index ++ numB m.many ++ enc m.body.length ++ m.body := by rw [formM, if_neg k1, if_neg k2, if_neg k3]; simp
        rw [hf]
        suffices h : Fc Try.prog 22 [.agg m.cells] [] (.sl (.own (.loc 1260)) false 1 (u8s (numB m.kind ++ txB m.bundle ++ numB m.index ++ numB m.many ++ enc m.body.length ++ m.body))) [] by
          have := h.mv 1260 99
          simpa using this
        refine Fc.of (anys _ [42, 43, 44, 45]) sch22 mixed Try.func22 rfl (by rfl) (by simp [Try.ntmps22]) (by decide) ?_
        simp -implicitDefEqProofs -dsimp [Try.ntmps22, Ms.cells]
        refine CallK.fresh ?_
        simp -implicitDefEqProofs -dsimp
        refine CallQ.same (fnum0_fn m.kind) rfl ?_
        simp -implicitDefEqProofs -dsimp [fr_u8s]
        simp -implicitDefEqProofs -dsimp [k1, k2, k3]
        refine CallK.fresh ?_
        simp -implicitDefEqProofs -dsimp
        refine CallQ.same (ftext_fn false (numB m.kind) m.bundle (by simp) (by omega) (by omega)) rfl ?_
        simp -implicitDefEqProofs -dsimp [fr_u8s]
        refine CallK.fresh ?_
        simp -implicitDefEqProofs -dsimp
        refine CallQ.same (fnum_fn false (numB m.kind ++ txB m.bundle) m.index (by simp) (by simp; omega)) rfl ?_
        simp -implicitDefEqProofs -dsimp [fr_u8s]
        refine CallK.fresh ?_
        simp -implicitDefEqProofs -dsimp
        refine CallQ.same (fnum_fn false (numB m.kind ++ (txB m.bundle ++ numB m.index)) m.many (by simp) (by simp; omega)) rfl ?_
        simp -implicitDefEqProofs -dsimp [fr_u8s]
        refine CallK.fresh ?_
        simp -implicitDefEqProofs -dsimp
        refine CallQ.same (text_fn false _ (numB m.kind ++ (txB m.bundle ++ (numB m.index ++ numB m.many))) m.body (by simp) (by simp; omega) (by omega)) rfl ?_
        simp -implicitDefEqProofs -dsimp [fr_u8s]
end Go.Proofs.Ytbialojkkhkjeaa

/-! Frames: the program's Encode, what stands ahead of a right check. -/
namespace Go.Sy
@[simp] theorem ints_snoc (k : IntKind) (xs : List Int) (v : Int) : ints k xs ++ [PV.lit (.int k v)] = ints k (xs ++ [v]) := by simp [ints]
/-- Results that say less. -/
theorem Fc.tup {P : Program} {k : FuncId} {al : List PV} {h : List (Nat × Ob)} {xs ys : List PV} {h1 : List (Nat × Ob)} (hf : Fc P k al h (.tup xs) h1) (hw : weakL xs ys) : Fc P k al h (.tup ys) h1 := by
  refine ⟨hf.ok, fun g w vs a1 a2 a3 => CallsIn.mono (hf.run g w vs a1 a2 a3) ?_⟩
  rintro e w' ⟨v, y, g', h', rfl, ⟨rfl, rfl⟩, b1, b2, b3, b4⟩
  refine ⟨v, _, g', _, rfl, ⟨rfl, rfl⟩, ?_, b2, b3, b4⟩
  cases b1 with
  | tup _ us hl hr =>
    obtain ⟨e1, e2⟩ := weakL_get hw
    refine .tup _ us (by omega) fun i y u hy hu => ?_
    obtain ⟨z, hz, hzw⟩ := e2 i y hy
    exact hzw.rep (hr i z u hz hu)
/-- A check's four bytes. -/
def ck4 (c : Nat) : List Int := [((c % 256 : Nat) : Int), ((c / 256 % 256 : Nat) : Int), ((c / 65536 % 256 : Nat) : Int), ((c / 16777216 % 256 : Nat) : Int)]
def frB (b : List Int) : List Int := b ++ ck4 (crc b)
theorem ck4_at (c : Nat) {i : Nat} (hi : i < 4) : (ck4 c)[i]? = some (IntKind.u8.wrap (ishr .u32 (c : Int) (8 * (i : Int)))) := by
  have sh : ∀ k : Nat, k ≤ 32 → ishr .u32 (c : Int) (k : Int) = ((c / 2 ^ k : Nat) : Int) := fun k hk => by
    unfold ishr
    rw [show min (k : Int).toNat IntKind.u32.bits = k by simp [IntKind.bits]; omega, Int.fdiv_eq_ediv_of_nonneg _ (by exact Int.pow_nonneg (by decide))]
    simp
  have e : (8 * (i : Int)) = ((8 * i : Nat) : Int) := by omega
  rw [e, sh _ (by omega)]
  have w : ∀ n : Nat, IntKind.u8.wrap (n : Int) = ((n % 256 : Nat) : Int) := fun n => by rw [wrap_is_u8]; omega
  rw [w]
  rcases (by omega : i = 0 ∨ i = 1 ∨ i = 2 ∨ i = 3) with rfl | rfl | rfl | rfl <;> simp [ck4]
@[simp] theorem ck4_length (c : Nat) : (ck4 c).length = 4 := rfl
theorem inB_ck4 (c : Nat) : InB (ck4 c) := by
  intro x hx
  simp only [ck4, List.mem_cons, List.not_mem_nil, or_false] at hx
  rcases hx with rfl | rfl | rfl | rfl <;> omega
/-- Messages whose parts are of a size that is looked at. -/
structure Small (m : Ms) : Prop where
  rs : m.rs.length ≤ 100
  rg : ∀ r, r ∈ m.rs → r.lo.size ≤ 1000 ∧ r.hi.size ≤ 1000 ∧ r.mark.size ≤ 1000
  lo : m.lo.size ≤ 1000
  hi : m.hi.size ≤ 1000
  il : m.ids.length ≤ 1000
  ids : ∀ p, p ∈ m.ids → p.size ≤ 1000
  bundle : m.bundle.size ≤ 1000
  body : m.body.length ≤ 1000000
  inB : InB m.body
theorem inB_numB (n : Int) : InB (numB n) := inB_enc _
theorem inB_txB (x : ByteArray) : InB (txB x) := by unfold txB; rw [inB_append]; exact ⟨inB_enc _, inB_bs x⟩
theorem inB_flat {α : Type} {f : α → List Int} (h : ∀ x, InB (f x)) (l : List α) : InB (l.flatMap f) := by
  intro y hy
  obtain ⟨x, _, hx⟩ := List.mem_flatMap.1 hy
  exact h x y hx
theorem inB_formM {m : Ms} (h : InB m.body) : InB (formM m) := by
  unfold formM
  rw [inB_append]
  refine ⟨inB_numB _, ?_⟩
  have hi : InB (idsF m.ids) := by unfold idsF; rw [inB_append]; exact ⟨inB_enc _, inB_flat inB_txB _⟩
  split
  · rw [inB_append]
    refine ⟨inB_numB _, inB_flat (fun r => ?_) _⟩
    simp only [rgF, inB_append]
    exact ⟨⟨⟨inB_txB _, inB_txB _⟩, inB_numB _⟩, inB_txB _⟩
  · split
    · simp only [inB_append]; exact ⟨⟨inB_txB _, inB_txB _⟩, hi⟩
    · split
      · exact hi
      · simp only [inB_append]; exact ⟨⟨⟨inB_txB _, inB_numB _⟩, inB_numB _⟩, inB_enc _, h⟩
theorem formM_length {m : Ms} (h : Small m) : (formM m).length ≤ 2000000 := by
  have a0 := numB_length m.kind
  have a1 := numB_length m.rs.length
  have a2 := flat_length rgF 3100 m.rs fun r hr => by obtain ⟨x, y, z⟩ := h.rg r hr; exact rgF_length x y z
  have a3 := txB_length (x := m.lo) (by have := h.lo; omega)
  have a4 := txB_length (x := m.hi) (by have := h.hi; omega)
  have a5 := flat_length txB 1010 m.ids fun q hq => by have := h.ids q hq; have := txB_length (x := q) (by omega); omega
  have a6 := enc_u64 (n := m.ids.length) (by have := h.il; omega)
  have a7 := txB_length (x := m.bundle) (by have := h.bundle; omega)
  have a8 := numB_length m.index
  have a9 := numB_length m.many
  have b1 := enc_u64 (n := m.body.length) (by have := h.body; omega)
  have := h.rs
  have := h.lo
  have := h.hi
  have := h.il
  have := h.bundle
  have := h.body
  have hi : (idsF m.ids).length ≤ 1010010 := by unfold idsF; rw [List.length_append]; omega
  unfold formM
  rw [List.length_append]
  split
  · rw [List.length_append]; omega
  · split
    · simp only [List.length_append]; omega
    · split
      · omega
      · simp only [List.length_append]; omega
/-- A message's frame, or why there is none. -/
def encM (m : Ms) : (Bool × List Int) × Int := if rightB m then ((false, frB (formM m)), 0) else ((true, []), 1)
end Go.Sy
namespace Go.Proofs.Ytbialojkkhkjeaa
open Go.Sy
set_option maxRecDepth 100000 in
set_option maxHeartbeats 8000000 in
theorem encode_fn (m : Ms) (hm : Small m) : Fc Try.prog 13 [.agg m.cells] [] (.tup [.sl .imm (encM m).1.1 1 (u8s (encM m).1.2), .lit (.int .i64 (encM m).2)]) [] := by
  have hr := right_fn m (by have := hm.rs; omega) (by have := hm.il; omega)
  have hf := form_fn m hm.rs hm.rg hm.lo hm.hi hm.il hm.ids hm.bundle hm.body
  simp only [Ms.cells] at hr hf
  by_cases hR : rightB m = true
  · have he : encM m = ((false, frB (formM m)), 0) := by rw [encM, if_pos hR]
    rw [he]
    suffices h : Fc Try.prog 13 [.agg m.cells] [] (.tup [.sl (.own (.loc 240)) false 1 (u8s (frB (formM m))), .lit (.int .i64 0)]) [] by
      have := h.fz [.loc 240]
      simpa using this
    have hl := formM_length hm
    have hb := inB_formM hm.inB
    refine Fc.of (anys _ [10, 16, 22]) [] mixed Try.func13 rfl (by rfl) (by simp [Try.ntmps13]) (by decide) ?_
    simp -implicitDefEqProofs -dsimp [Try.ntmps13, Ms.cells]
    refine CallK.reads ?_
    simp -implicitDefEqProofs -dsimp
    refine CallQ.same (hr) rfl ?_
    simp -implicitDefEqProofs -dsimp [hR]
    refine CallK.fresh ?_
    simp -implicitDefEqProofs -dsimp
    refine CallQ.same (hf) rfl ?_
    simp -implicitDefEqProofs -dsimp [fr_u8s]
    obtain ⟨b, hbb⟩ : ∃ b, b = formM m := ⟨_, rfl⟩
    have hfr : frB (formM m) = b ++ ck4 (crc b) := by rw [hbb]; rfl
    rw [hfr]
    rw [← hbb] at hl hb ⊢
    refine CallK.reads ?_
    simp -implicitDefEqProofs -dsimp
    refine CallQ.same (check_fn false b hb (by omega)) rfl ?_
    simp -implicitDefEqProofs -dsimp
    obtain ⟨c, hc⟩ : ∃ c, c = crc b := ⟨_, rfl⟩
    rw [← hc]
    refine LpK.mkA (anys _ [10, 16, 22]) mixed [.mv 1110 240] (fun i : Nat => i ≤ 4) (fun i => ⟨[(4, .sl (.own (.loc 240)) false 1 (u8s (b ++ (ck4 c).take i))), (5, .lit (.int .u32 c)), (14, .lit (.int .i64 i))], [], 27⟩) (fun i => 4 - i) 0 (by simp) (by simp -implicitDefEqProofs -dsimp) ?_
    intro i hi
    by_cases hlt : i < 4
    · have hlt' : (i : Int) < 4 := by omega
      have w1 : IntKind.i64.wrap (8 * (i : Int)) = 8 * (i : Int) := wrap64 (by omega) (by omega)
      have w2 : IntKind.i64.wrap ((i : Int) + 1) = (i : Int) + 1 := wrap64 (by omega) (by omega)
      have w3 : (0 : Int) ≤ 8 * (i : Int) := by omega
      have hk := ck4_at c hlt
      have hta : (ck4 c).take (i + 1) = (ck4 c).take i ++ [IntKind.u8.wrap (ishr .u32 (c : Int) (8 * (i : Int)))] := by rw [List.take_add_one, hk]; rfl
      have hcap : b.length + min i 4 + 1 ≤ 140737488355328 := by omega
      have hcap2 : b.length + min i 4 ≤ 140737488355327 := by omega
      simp -implicitDefEqProofs -dsimp [hlt', w1, w2, w3, hcap, hcap2]
      exact .mk [] (i + 1) hlt (by omega) (by simp -implicitDefEqProofs -dsimp [hta])
    · have e : i = 4 := by omega
      subst e
      have ht4 : (ck4 c).take 4 = ck4 c := List.take_of_length_le (by simp)
      simp -implicitDefEqProofs -dsimp [ht4]
  · have he : encM m = ((true, []), 1) := by rw [encM, if_neg hR]
    rw [he]
    refine Fc.tup (xs := [.sl .imm true 0 [], .lit (.int .i64 1)]) ?_ (by simp)
    refine Fc.of (anys _ [10, 16, 22]) [] mixed Try.func13 rfl (by rfl) (by simp [Try.ntmps13]) (by decide) ?_
    simp -implicitDefEqProofs -dsimp [Try.ntmps13, Ms.cells]
    refine CallK.reads ?_
    simp -implicitDefEqProofs -dsimp
    refine CallQ.same (hr) rfl ?_
    simp -implicitDefEqProofs -dsimp [hR]

/-- What stands ahead of a right check, or why there is nothing. -/
def chkM (b : List Int) : (Bool × List Int) × Int :=
  if (b.length : Int) - 4 < 1 then ((true, []), 2)
  else if 4096 < (b.length : Int) then ((true, []), 4)
  else if b.drop (b.length - 4) = ck4 (crc (b.take (b.length - 4))) then ((false, b.take (b.length - 4)), 0)
  else ((true, []), 12)

theorem take_all_get {l m : List Int} (h : l.length = m.length) : l = m ↔ ∀ j, j < l.length → l[j]? = m[j]? := by
  refine ⟨fun h _ _ => by rw [h], fun hj => List.ext_getElem? fun i => ?_⟩
  rcases Nat.lt_or_ge i l.length with h1 | h1
  · exact hj i h1
  · rw [List.getElem?_eq_none h1, List.getElem?_eq_none (by omega)]

set_option maxRecDepth 100000 in
set_option maxHeartbeats 8000000 in
theorem checked_fn (nl : Bool) (b : List Int) (hn : nl = true → b = []) (hb : InB b) (hl : b.length ≤ 1000000) : Fc Try.prog 31 [.sl .imm nl 1 (u8s b)] [] (.tup [.sl .imm (chkM b).1.1 1 (u8s (chkM b).1.2), .lit (.int .i64 (chkM b).2)]) [] := by
  have w0 : IntKind.i64.wrap ((b.length : Int) - 4) = (b.length : Int) - 4 := wrap64 (by omega) (by omega)
  by_cases c1 : (b.length : Int) - 4 < 1
  · have he : chkM b = ((true, []), 2) := by rw [chkM, if_pos c1]
    rw [he]
    refine Fc.tup (xs := [.sl .imm true 0 [], .lit (.int .i64 2)]) ?_ (by simp)
    refine Fc.of (anys _ [10]) [] mixed Try.func31 rfl (by rfl) (by simp [Try.ntmps31]) (by decide) ?_
    simp -implicitDefEqProofs -dsimp [Try.ntmps31, w0, c1]
  · by_cases c2 : 4096 < (b.length : Int)
    · have he : chkM b = ((true, []), 4) := by rw [chkM, if_neg c1, if_pos c2]
      rw [he]
      refine Fc.tup (xs := [.sl .imm true 0 [], .lit (.int .i64 4)]) ?_ (by simp)
      refine Fc.of (anys _ [10]) [] mixed Try.func31 rfl (by rfl) (by simp [Try.ntmps31]) (by decide) ?_
      simp -implicitDefEqProofs -dsimp [Try.ntmps31, w0, c1, c2]
    · obtain ⟨n, hnn⟩ : ∃ n, n = b.length - 4 := ⟨_, rfl⟩
      have hnl : nl = false := by
        cases nl with
        | false => rfl
        | true => rw [hn rfl] at c1; simp at c1
      subst hnl
      have hbn : (b.length : Int) - 4 = n := by omega
      have hni : (n : Int) ≤ b.length := by omega
      obtain ⟨t, ht⟩ : ∃ t, t = b.drop n := ⟨_, rfl⟩
      obtain ⟨p, hp⟩ : ∃ p, p = b.take n := ⟨_, rfl⟩
      have htl : t.length = 4 := by rw [ht]; simp; omega
      have hpl : p.length ≤ 1000000 := by rw [hp]; simp; omega
      have hpb : InB p := by rw [hp]; exact hb.take n
      obtain ⟨c, hc⟩ : ∃ c, c = crc p := ⟨_, rfl⟩
      have he : chkM b = if t = ck4 c then ((false, p), 0) else ((true, []), 12) := by rw [chkM, if_neg c1, if_neg c2, ← hnn, ← ht, ← hp, ← hc]
      have hm4 : b.length - n = 4 := by omega
      have hbn2 : (b.length : Int) - (n : Int) = 4 := by omega
      rw [hbn] at w0
      have main : Fc Try.prog 31 [.sl .imm false 1 (u8s b)] [] (if t = ck4 c then .tup [.sl .imm false 1 (u8s p), .lit (.int .i64 0)] else .tup [.sl .imm true 0 [], .lit (.int .i64 12)]) [] := by
        refine Fc.of (anys _ [10]) [] mixed Try.func31 rfl (by rfl) (by simp [Try.ntmps31]) (by decide) ?_
        have c1' : ¬ (n : Int) < 1 := by omega
        simp -implicitDefEqProofs -dsimp [Try.ntmps31, hbn, w0, c1', c2, hni]
        rw [← hp]
        refine CallK.reads ?_
        simp -implicitDefEqProofs -dsimp
        refine CallQ.same (check_fn false p hpb (by omega)) rfl ?_
        simp -implicitDefEqProofs -dsimp [hni]
        rw [← hc, ← ht]
        refine LpK.mk (anys _ [10]) mixed (fun i : Nat => i ≤ 4 ∧ ∀ j, j < i → t[j]? = (ck4 c)[j]?) (fun i => ⟨[(0, .sl .imm false 1 (u8s b)), (4, .lit (.int .i64 n)), (5, .lit (.int .u32 c)), (24, .sl .imm false 1 (u8s t)), (25, .lit (.int .i64 4)), (26, .lit (.int .i64 i))], [], 42⟩) (fun i => 4 - i) 0 ⟨by omega, fun j h => by omega⟩ (by simp -implicitDefEqProofs -dsimp [hm4]) ?_
        rintro i ⟨hi, hall⟩
        by_cases hlt : i < 4
        · have hlt' : (i : Int) < 4 := by omega
          have w1 : IntKind.i64.wrap (8 * (i : Int)) = 8 * (i : Int) := wrap64 (by omega) (by omega)
          have w2 : IntKind.i64.wrap ((i : Int) + 1) = (i : Int) + 1 := wrap64 (by omega) (by omega)
          have w3 : (0 : Int) ≤ 8 * (i : Int) := by omega
          have hk := ck4_at c hlt
          obtain ⟨x, hx⟩ : ∃ x, t[i]? = some x := ⟨_, List.getElem?_eq_getElem (by omega)⟩
          have hx' : ∀ h, t[i]'h = x := fun h => by rw [List.getElem?_eq_getElem h] at hx; exact Option.some.inj hx
          have hil : i < t.length := by omega
          by_cases hxc : x = IntKind.u8.wrap (ishr .u32 (c : Int) (8 * (i : Int)))
          · have hxe := eq_true hxc
            simp -implicitDefEqProofs -dsimp [hlt', w1, w2, w3, hx, hx', hil, hxe]
            refine .mk (i + 1) ⟨hlt, fun j hj => ?_⟩ (by omega) (by simp -implicitDefEqProofs -dsimp)
            rcases Nat.lt_or_ge j i with h | h
            · exact hall j h
            · have : j = i := by omega
              subst this; rw [hx, hk, hxc]
          · have hne : ¬ t = ck4 c := fun h => by
              rw [h, hk] at hx
              exact hxc (Option.some.inj hx).symm
            simp -implicitDefEqProofs -dsimp [hlt', w1, w2, w3, hx, hx', hil, hxc, hne]
        · have e : i = 4 := by omega
          subst e
          have heq : t = ck4 c := (take_all_get (by rw [htl]; rfl)).2 fun j hj => hall j (by omega)
          simp -implicitDefEqProofs -dsimp [heq, hni, hp]
      by_cases h : t = ck4 c
      · rw [if_pos h] at he main
        rw [he]; exact main
      · rw [if_neg h] at he main
        rw [he]; exact main.tup (by simp)
end Go.Proofs.Ytbialojkkhkjeaa

/-! Frames: the program's reader. -/
namespace Go.Sy
theorem min_u64 (P : Program) (ty : TypeId) (ats : Array TypeId) (a b : Int) : pureOf P (Builtin.min_ ats ty #[.int .u64 a, .int .u64 b]) = some (.int .u64 (min a b)) := by
  simp [Builtin.min_, Builtin.min2]
  show some (Value.int IntKind.u64 (if b < a then b else a)) = _
  by_cases h : b < a
  · rw [if_pos h, Int.min_eq_right (by omega)]
  · rw [if_neg h, Int.min_eq_left (by omega)]
/-- A number that is read; of one above a limit one more than that. -/
def WS.many (s : WS) (limit : Int) : Int := min (s.num.1 : Int) (limit + 1)
/-- An id that is read. -/
def WS.id (s : WS) : ByteArray := ofBs (s.text 32).1.2
def WS.id2 (s : WS) : WS := (s.text 32).2
def readIds : Nat → WS → List ByteArray × WS
  | 0, s => ([], s)
  | n + 1, s => if s.fail = 0 then (s.id :: (readIds n s.id2).1, (readIds n s.id2).2) else ([], s)
def WS.rg (s : WS) : Rg := ⟨s.id, s.id2.id, s.id2.id2.many 1099511627776, s.id2.id2.num.2.id⟩
def WS.rg2 (s : WS) : WS := s.id2.id2.num.2.id2
def readRgs : Nat → WS → List Rg × WS
  | 0, s => ([], s)
  | n + 1, s => if s.fail = 0 then (s.rg :: (readRgs n s.rg2).1, (readRgs n s.rg2).2) else ([], s)
theorem WS.text_in {s : WS} (h : s.Ok) (l : Int) : InB (s.text l).1.2 := by
  unfold WS.text
  split
  · simp
  · split
    · simp
    · split
      · simp
      · split
        · simp
        · exact (h.bytes.drop _).take _
theorem WS.id_ok {s : WS} (h : s.Ok) : s.id2.Ok := WS.text_ok h 32
theorem WS.rg_ok {s : WS} (h : s.Ok) : s.rg2.Ok := WS.id_ok (WS.num_ok (WS.id_ok (WS.id_ok h)))
theorem readIds_ok : ∀ (n : Nat) {s : WS}, s.Ok → (readIds n s).2.Ok
  | 0, _, h => h
  | n + 1, s, h => by
    unfold readIds
    split
    · exact readIds_ok n (WS.id_ok h)
    · exact h
theorem readRgs_ok : ∀ (n : Nat) {s : WS}, s.Ok → (readRgs n s).2.Ok
  | 0, _, h => h
  | n + 1, s, h => by
    unfold readRgs
    split
    · exact readRgs_ok n (WS.rg_ok h)
    · exact h
theorem num_lt {s : WS} (h : s.Ok) : s.num.1 < 18446744073709551616 := by
  unfold WS.num
  split
  · show 0 < _; omega
  · split
    · show 0 < _; omega
    · exact (tk_spec s.b h.bytes).2.2.1
theorem many_in {s : WS} (h : s.Ok) {l : Int} (h0 : 0 ≤ l) : 0 ≤ s.many l ∧ s.many l ≤ l + 1 := by
  have := num_lt h
  unfold WS.many; omega
end Go.Sy
namespace Go.Proofs.Ytbialojkkhkjeaa
open Go.Sy
set_option maxRecDepth 100000 in
set_option maxHeartbeats 4000000 in
theorem many_fn (s : WS) (hs : s.Ok) (l : Int) (h0 : 0 ≤ l) (h1 : l ≤ 1099511627776) : Fc Try.prog 33 [.agg [.ptr 100000 0], .lit (.int .i64 l)] [(100000, .cells (wcells s))] (.lit (.int .i64 (s.many l))) [(100000, .cells (wcells s.num.2))] := by
  have hn := num_lt hs
  have w1 : IntKind.u64.wrap l = l := by rw [wrap_is_u64]; omega
  have w2 : IntKind.u64.wrap (l + 1) = l + 1 := by rw [wrap_is_u64]; omega
  have w3 : IntKind.i64.wrap (min (s.num.1 : Int) (l + 1)) = s.many l := by rw [wrap64 (by omega) (by omega)]; rfl
  refine Fc.of (anys _ [52]) [] mixed Try.func33 rfl (by rfl) (by simp [Try.ntmps33]) (by decide) ?_
  simp -implicitDefEqProofs -dsimp [Try.ntmps33]
  refine CallK.works ?_
  simp -implicitDefEqProofs -dsimp
  refine CallQ.same (wnum_fn s hs) rfl ?_
  simp -implicitDefEqProofs -dsimp [w1, w2, w3, litL, min_u64]

set_option maxRecDepth 100000 in
set_option maxHeartbeats 4000000 in
theorem rid_fn (s : WS) (hs : s.Ok) : Fc Try.prog 54 [.agg [.ptr 100000 0]] [(100000, .cells (wcells s))] (.lit (.string s.id)) [(100000, .cells (wcells s.id2))] := by
  have hi := WS.text_in hs 32
  refine Fc.of (anys _ [56]) [] mixed Try.func54 rfl (by rfl) (by simp [Try.ntmps54]) (by decide) ?_
  simp -implicitDefEqProofs -dsimp [Try.ntmps54]
  refine CallK.works ?_
  simp -implicitDefEqProofs -dsimp
  refine CallQ.same (wtext_fn s hs 32 (by decide) (by decide)) rfl ?_
  simp -implicitDefEqProofs -dsimp [hi, WS.id, WS.id2]

set_option maxRecDepth 100000 in
set_option maxHeartbeats 8000000 in
theorem rids_fn (s : WS) (hs : s.Ok) : Fc Try.prog 55 [.agg [.ptr 100000 0]] [(100000, .cells (wcells s))]
    (.sl .imm (readIds (s.many 64).toNat s.num.2).1.isEmpty 1 (idc (readIds (s.many 64).toNat s.num.2).1)) [(100000, .cells (wcells (readIds (s.many 64).toNat s.num.2).2))] := by
  suffices h : Fc Try.prog 55 [.agg [.ptr 100000 0]] [(100000, .cells (wcells s))]
    (.sl (.own (.loc 21)) (readIds (s.many 64).toNat s.num.2).1.isEmpty 1 (idc (readIds (s.many 64).toNat s.num.2).1)) [(100000, .cells (wcells (readIds (s.many 64).toNat s.num.2).2))] by
    have := h.fz [.loc 21]
    simpa using this
  have hm := many_in hs (l := 64) (by decide)
  obtain ⟨n, hn⟩ := Int.eq_ofNat_of_zero_le hm.1
  refine Fc.of (anys _ [33, 53, 54]) [] mixed Try.func55 rfl (by rfl) (by simp [Try.ntmps55]) (by decide) ?_
  simp -implicitDefEqProofs -dsimp [Try.ntmps55]
  refine CallK.works ?_
  simp -implicitDefEqProofs -dsimp
  refine CallQ.same (many_fn s hs 64 (by decide) (by decide)) rfl ?_
  simp -implicitDefEqProofs -dsimp [hn]
  rw [hn]
  obtain ⟨t, ht⟩ : ∃ t, t = s.num.2 := ⟨_, rfl⟩
  have htk : t.Ok := ht ▸ WS.num_ok hs
  rw [← ht]
  refine LpK.mk (anys _ [33, 53, 54]) mixed (fun ((k, l, u) : Nat × List ByteArray × WS) => k ≤ n ∧ u.Ok ∧ l.length + k ≤ n ∧ (readIds n t).1 = l ++ (readIds k u).1 ∧ (readIds n t).2 = (readIds k u).2)
    (fun ((k, l, u) : Nat × List ByteArray × WS) => ⟨[(1, .ptr 1 0), (3, .sl (.own (.loc 21)) l.isEmpty 1 (idc l)), (4, .lit (.int .i64 k))], [(1, .cells [.ptr 100000 0]), (100000, .cells (wcells u))], 23⟩)
    (fun (k, _, _) => k) (n, [], t) ⟨by omega, htk, by simp, by simp, rfl⟩ (by simp -implicitDefEqProofs -dsimp) ?_
  rintro ⟨k, l, u⟩ ⟨hk, hu, hlen, e1, e2⟩
  cases k with
  | zero =>
    simp only [readIds, List.append_nil] at e1 e2
    simp -implicitDefEqProofs -dsimp [e1, e2]
  | succ k =>
    have hk0 : (0 : Int) < (k : Int) + 1 := by omega
    have hw : IntKind.i64.wrap ((k : Int) + 1 - 1) = k := by rw [wrap64 (by omega) (by omega)]; omega
    have hw' : IntKind.i64.wrap (k : Int) = k := wrap64 (by omega) (by omega)
    simp -implicitDefEqProofs -dsimp [hk0]
    refine CallK.reads ?_
    simp -implicitDefEqProofs -dsimp
    refine CallQ.same (fail_fn u) rfl ?_
    simp -implicitDefEqProofs -dsimp
    by_cases hf : u.fail = 0
    · have e3 : readIds (k + 1) u = (u.id :: (readIds k u.id2).1, (readIds k u.id2).2) := by rw [readIds, if_pos hf]
      rw [e3] at e1 e2
      have z1 : (l.length + 1) * 16 ≤ 140737488355328 := by omega
      have z2 : l.length ≤ 140737488355327 := by omega
      simp -implicitDefEqProofs -dsimp [hf]
      refine CallK.works ?_
      simp -implicitDefEqProofs -dsimp
      refine CallQ.same (rid_fn u hu) rfl ?_
      simp -implicitDefEqProofs -dsimp [hw, hw', z1, z2]
      refine .mk (k, l ++ [u.id], u.id2) ⟨by omega, WS.id_ok hu, by simp; omega, by rw [e1]; simp, e2⟩ (by simp) (by simp -implicitDefEqProofs -dsimp)
    · have e3 : readIds (k + 1) u = ([], u) := by rw [readIds, if_neg hf]
      rw [e3] at e1 e2
      simp only [List.append_nil] at e1
      simp -implicitDefEqProofs -dsimp [hf, e1, e2]
end Go.Proofs.Ytbialojkkhkjeaa

/-! Frames: what a message of a kind reads. -/
namespace Go.Sy
/-- A message of a kind, and nothing else, as it begins. -/
def zcells (k : Int) : List PV := [.lit (.int .i64 k), .sl .imm true 0 [], .lit (.string ByteArray.empty), .lit (.string ByteArray.empty), .sl .imm true 0 [], .lit (.string ByteArray.empty), .lit (.int .i64 0), .lit (.int .i64 0), .sl .imm true 0 []]
def zms (k : Int) : Ms := ⟨k, true, [], ByteArray.empty, ByteArray.empty, true, [], ByteArray.empty, 0, 0, true, []⟩
/-- What the parts of a message read. -/
def rdSums (k : Int) (s : WS) : Ms × WS := ({ zms k with nr := (readRgs (s.many 2).toNat s.num.2).1.isEmpty, rs := (readRgs (s.many 2).toNat s.num.2).1 }, (readRgs (s.many 2).toNat s.num.2).2)
def rdIds (s : WS) : List ByteArray × WS := readIds (s.many 64).toNat s.num.2
def rdList (k : Int) (s : WS) : Ms × WS := ({ zms k with lo := s.id, hi := s.id2.id, ni := (rdIds s.id2.id2).1.isEmpty, ids := (rdIds s.id2.id2).1 }, (rdIds s.id2.id2).2)
def rdWant (k : Int) (s : WS) : Ms × WS := ({ zms k with ni := (rdIds s).1.isEmpty, ids := (rdIds s).1 }, (rdIds s).2)
def rdPart (k : Int) (s : WS) : Ms × WS := ({ zms k with bundle := s.id, index := s.id2.many 16384, many := s.id2.num.2.many 16384, nb := (s.id2.num.2.num.2.text 1024).1.1, body := (s.id2.num.2.num.2.text 1024).1.2 }, (s.id2.num.2.num.2.text 1024).2)
attribute [simp] PV.toks.toksL
@[simp] theorem rgs_snoc (l : List Rg) (a b d : ByteArray) (c : Int) : rgs l ++ [PV.agg [.lit (.string a), .lit (.string b), .lit (.int .i64 c), .lit (.string d)]] = rgs (l ++ [⟨a, b, c, d⟩]) := by simp [rgs, Rg.cells]
end Go.Sy
namespace Go.Proofs.Ytbialojkkhkjeaa
open Go.Sy
set_option maxRecDepth 100000 in
set_option maxHeartbeats 4000000 in
theorem rlist_fn (k : Int) (s : WS) (hs : s.Ok) : Fc Try.prog 35 [.agg [.ptr 100000 0], .ptr 100001 0] [(100000, .cells (wcells s)), (100001, .cells (zcells k))] (.tup [])
    [(100000, .cells (wcells (rdList k s).2)), (100001, .cells (rdList k s).1.cells)] := by
  refine Fc.of (anys _ [54, 55]) [] mixed Try.func35 rfl (by rfl) (by simp [Try.ntmps35]) (by decide) ?_
  simp -implicitDefEqProofs -dsimp [Try.ntmps35, zcells]
  refine CallK.works ?_
  simp -implicitDefEqProofs -dsimp
  refine CallQ.mk (rid_fn s hs) (by simp) ?_
  simp -implicitDefEqProofs -dsimp
  refine CallK.works ?_
  simp -implicitDefEqProofs -dsimp
  refine CallQ.mk (rid_fn s.id2 (WS.id_ok hs)) (by simp) ?_
  simp -implicitDefEqProofs -dsimp
  refine CallK.works ?_
  simp -implicitDefEqProofs -dsimp
  refine CallQ.mk (rids_fn s.id2.id2 (WS.id_ok (WS.id_ok hs))) (by simp) ?_
  simp -implicitDefEqProofs -dsimp
  simp -implicitDefEqProofs -dsimp [rdList, Ms.cells, zms, rdIds]

set_option maxRecDepth 100000 in
set_option maxHeartbeats 4000000 in
theorem rwant_fn (k : Int) (s : WS) (hs : s.Ok) : Fc Try.prog 36 [.agg [.ptr 100000 0], .ptr 100001 0] [(100000, .cells (wcells s)), (100001, .cells (zcells k))] (.tup [])
    [(100000, .cells (wcells (rdWant k s).2)), (100001, .cells (rdWant k s).1.cells)] := by
  refine Fc.of (anys _ [54, 55]) [] mixed Try.func36 rfl (by rfl) (by simp [Try.ntmps36]) (by decide) ?_
  simp -implicitDefEqProofs -dsimp [Try.ntmps36, zcells]
  refine CallK.works ?_
  simp -implicitDefEqProofs -dsimp
  refine CallQ.mk (rids_fn s hs) (by simp) ?_
  simp -implicitDefEqProofs -dsimp
  simp -implicitDefEqProofs -dsimp [rdWant, Ms.cells, zms, rdIds]

set_option maxRecDepth 100000 in
set_option maxHeartbeats 4000000 in
theorem rpart_fn (k : Int) (s : WS) (hs : s.Ok) : Fc Try.prog 37 [.agg [.ptr 100000 0], .ptr 100001 0] [(100000, .cells (wcells s)), (100001, .cells (zcells k))] (.tup [])
    [(100000, .cells (wcells (rdPart k s).2)), (100001, .cells (rdPart k s).1.cells)] := by
  refine Fc.of (anys _ [33, 54, 56]) [] mixed Try.func37 rfl (by rfl) (by simp [Try.ntmps37]) (by decide) ?_
  simp -implicitDefEqProofs -dsimp [Try.ntmps37, zcells]
  refine CallK.works ?_
  simp -implicitDefEqProofs -dsimp
  refine CallQ.mk (rid_fn s hs) (by simp) ?_
  simp -implicitDefEqProofs -dsimp
  refine CallK.works ?_
  simp -implicitDefEqProofs -dsimp
  refine CallQ.mk (many_fn s.id2 (WS.id_ok hs) 16384 (by decide) (by decide)) (by simp) ?_
  simp -implicitDefEqProofs -dsimp
  refine CallK.works ?_
  simp -implicitDefEqProofs -dsimp
  refine CallQ.mk (many_fn s.id2.num.2 (WS.num_ok (WS.id_ok hs)) 16384 (by decide) (by decide)) (by simp) ?_
  simp -implicitDefEqProofs -dsimp
  refine CallK.works ?_
  simp -implicitDefEqProofs -dsimp
  refine CallQ.mk (wtext_fn s.id2.num.2.num.2 (WS.num_ok (WS.num_ok (WS.id_ok hs))) 1024 (by decide) (by decide)) (by simp) ?_
  simp -implicitDefEqProofs -dsimp
  simp -implicitDefEqProofs -dsimp [rdPart, Ms.cells, zms]

set_option maxRecDepth 100000 in
set_option maxHeartbeats 8000000 in
theorem rsums_fn (k : Int) (s : WS) (hs : s.Ok) : Fc Try.prog 34 [.agg [.ptr 100000 0], .ptr 100001 0] [(100000, .cells (wcells s)), (100001, .cells (zcells k))] (.tup [])
    [(100000, .cells (wcells (rdSums k s).2)), (100001, .cells (rdSums k s).1.cells)] := by
  suffices h : Fc Try.prog 34 [.agg [.ptr 100000 0], .ptr 100001 0] [(100000, .cells (wcells s)), (100001, .cells (zcells k))] (.tup [])
    [(100000, .cells (wcells (rdSums k s).2)), (100001, .cells [.lit (.int .i64 k), .sl (.own (.cell 100001 1)) (rdSums k s).1.rs.isEmpty 4 (rgs (rdSums k s).1.rs), .lit (.string ByteArray.empty), .lit (.string ByteArray.empty), .sl .imm true 1 [], .lit (.string ByteArray.empty), .lit (.int .i64 0), .lit (.int .i64 0), .sl .imm true 1 []])] by
    have := h.fz [.cell 100001 1]
    have e : (rdSums k s).1.cells = [.lit (.int .i64 k), .sl .imm (rdSums k s).1.rs.isEmpty 4 (rgs (rdSums k s).1.rs), .lit (.string ByteArray.empty), .lit (.string ByteArray.empty), .sl .imm true 1 [], .lit (.string ByteArray.empty), .lit (.int .i64 0), .lit (.int .i64 0), .sl .imm true 1 []] := rfl
    rw [e]
    simpa using this
  have hm := many_in hs (l := 2) (by decide)
  obtain ⟨n, hn⟩ := Int.eq_ofNat_of_zero_le hm.1
  obtain ⟨t, ht⟩ : ∃ t, t = s.num.2 := ⟨_, rfl⟩
  have htk : t.Ok := ht ▸ WS.num_ok hs
  have r1 : (rdSums k s).1.rs = (readRgs n t).1 := by rw [ht]; simp [rdSums, hn]
  have r2 : (rdSums k s).2 = (readRgs n t).2 := by rw [ht]; simp [rdSums, hn]
  rw [r1, r2]
  refine Fc.of (anys _ [33, 53, 54]) sch34 mixed Try.func34 rfl (by rfl) (by simp [Try.ntmps34]) (by decide) ?_
  simp -implicitDefEqProofs -dsimp [Try.ntmps34, zcells]
  refine CallK.works ?_
  simp -implicitDefEqProofs -dsimp
  refine CallQ.mk (many_fn s hs 2 (by decide) (by decide)) (by simp) ?_
  simp -implicitDefEqProofs -dsimp [hn]
  rw [← ht]
  refine LpK.mk (anys _ [33, 53, 54]) mixed (fun ((j, l, u) : Nat × List Rg × WS) => j ≤ n ∧ u.Ok ∧ l.length + j ≤ n ∧ (readRgs n t).1 = l ++ (readRgs j u).1 ∧ (readRgs n t).2 = (readRgs j u).2)
    (fun ((j, l, u) : Nat × List Rg × WS) => ⟨[(2, .ptr 2 0), (1, .ptr 100001 0), (4, .lit (.int .i64 j))], [(2, .cells [.ptr 100000 0]), (100000, .cells (wcells u)),
      (100001, .cells [.lit (.int .i64 k), .sl (.own (.cell 100001 1)) l.isEmpty 4 (rgs l), .lit (.string ByteArray.empty), .lit (.string ByteArray.empty), .sl .imm true 1 [], .lit (.string ByteArray.empty), .lit (.int .i64 0), .lit (.int .i64 0), .sl .imm true 1 []])], 40⟩)
    (fun (j, _, _) => j) (n, [], t) ⟨by omega, htk, by simp, by simp, rfl⟩ (by simp -implicitDefEqProofs -dsimp) ?_
  rintro ⟨j, l, u⟩ ⟨hk, hu, hlen, e1, e2⟩
  cases j with
  | zero =>
    simp only [readRgs, List.append_nil] at e1 e2
    simp -implicitDefEqProofs -dsimp [e1, e2]
  | succ j =>
    have hk0 : (0 : Int) < (j : Int) + 1 := by omega
    have hw : IntKind.i64.wrap ((j : Int) + 1 - 1) = j := by rw [wrap64 (by omega) (by omega)]; omega
    have hw' : IntKind.i64.wrap (j : Int) = j := wrap64 (by omega) (by omega)
    simp -implicitDefEqProofs -dsimp [hk0]
    refine CallK.reads ?_
    simp -implicitDefEqProofs -dsimp
    refine CallQ.same (fail_fn u) rfl ?_
    simp -implicitDefEqProofs -dsimp
    by_cases hf : u.fail = 0
    · have e3 : readRgs (j + 1) u = (u.rg :: (readRgs j u.rg2).1, (readRgs j u.rg2).2) := by rw [readRgs, if_pos hf]
      rw [e3] at e1 e2
      have z1 : (l.length + 1) * 56 ≤ 140737488355328 := by omega
      have z2 : l.length ≤ 140737488355327 := by omega
      simp -implicitDefEqProofs -dsimp [hf]
      refine CallK.works ?_
      simp -implicitDefEqProofs -dsimp
      refine CallQ.mk (rid_fn u hu) (by simp) ?_
      simp -implicitDefEqProofs -dsimp
      refine CallK.works ?_
      simp -implicitDefEqProofs -dsimp
      refine CallQ.mk (rid_fn u.id2 (WS.id_ok hu)) (by simp) ?_
      simp -implicitDefEqProofs -dsimp
      refine CallK.works ?_
      simp -implicitDefEqProofs -dsimp
      refine CallQ.mk (many_fn u.id2.id2 (WS.id_ok (WS.id_ok hu)) 1099511627776 (by decide) (by decide)) (by simp) ?_
      simp -implicitDefEqProofs -dsimp
      refine CallK.works ?_
      simp -implicitDefEqProofs -dsimp
      refine CallQ.mk (rid_fn u.id2.id2.num.2 (WS.num_ok (WS.id_ok (WS.id_ok hu)))) (by simp) ?_
      simp -implicitDefEqProofs -dsimp [hw, hw', z1, z2]
      refine .mk (j, l ++ [u.rg], u.rg2) ⟨by omega, WS.rg_ok hu, by simp; omega, by rw [e1]; simp, e2⟩ (by simp) (by simp -implicitDefEqProofs -dsimp [WS.rg, WS.rg2])
    · have e3 : readRgs (j + 1) u = ([], u) := by rw [readRgs, if_neg hf]
      rw [e3] at e1 e2
      simp only [List.append_nil] at e1
      simp -implicitDefEqProofs -dsimp [hf, e1, e2]
end Go.Proofs.Ytbialojkkhkjeaa

/-! Frames: the program's Decode. -/
namespace Go.Sy
theorem Fc.tupA {P : Program} {k : FuncId} {al : List PV} {h : List (Nat × Ob)} {xs ys : List PV} {y : PV} {h1 : List (Nat × Ob)} (hf : Fc P k al h (.tup [.agg xs, y]) h1) (hw : weakL xs ys) : Fc P k al h (.tup [.agg ys, y]) h1 := by
  refine ⟨hf.ok, fun g w vs a1 a2 a3 => CallsIn.mono (hf.run g w vs a1 a2 a3) ?_⟩
  rintro e w' ⟨v, y', g', h', rfl, ⟨rfl, rfl⟩, b1, b2, b3, b4⟩
  refine ⟨v, _, g', _, rfl, ⟨rfl, rfl⟩, ?_, b2, b3, b4⟩
  cases b1 with
  | tup _ us hl hr =>
    refine .tup _ us hl fun i z u hz hu => ?_
    match i, hz with
    | 0, hz =>
      simp at hz; subst hz
      have := hr 0 (.agg xs) u rfl hu
      cases this with
      | agg _ vs hl2 hr2 =>
        obtain ⟨e1, e2⟩ := weakL_get hw
        refine .agg _ vs (by omega) fun i y u hy hu => ?_
        obtain ⟨z, hz, hzw⟩ := e2 i y hy
        exact hzw.rep (hr2 i z u hz hu)
    | 1, hz => simp at hz; subst hz; exact hr 1 y u rfl hu
    | i + 2, hz => simp at hz
theorem readIds_length : ∀ (n : Nat) (s : WS), (readIds n s).1.length ≤ n
  | 0, _ => by simp [readIds]
  | n + 1, s => by
    unfold readIds
    split
    · have := readIds_length n s.id2; simp; omega
    · simp
theorem readRgs_length : ∀ (n : Nat) (s : WS), (readRgs n s).1.length ≤ n
  | 0, _ => by simp [readRgs]
  | n + 1, s => by
    unfold readRgs
    split
    · have := readRgs_length n s.rg2; simp; omega
    · simp
/-- A message, read to its end, if it is right. -/
def finM (p : Ms × WS) : Ms × Int := if p.2.fin ≠ 0 then (zms 0, 3) else if rightB p.1 then (p.1, 0) else (zms 0, 3)
def kndM (k : Int) (s : WS) : Ms × Int := if k = 1 then finM (rdSums 1 s) else if k = 2 then finM (rdList 2 s) else if k = 3 then finM (rdWant 3 s) else if k = 4 then finM (rdPart 4 s) else (zms 0, 3)
def Ms.cellsO (m : Ms) : Option Own → List PV
  | some o => [.lit (.int .i64 m.kind), .sl o m.nr 4 (rgs m.rs), .lit (.string m.lo), .lit (.string m.hi), .sl o m.ni 1 (idc m.ids), .lit (.string m.bundle), .lit (.int .i64 m.index), .lit (.int .i64 m.many), .sl o m.nb 1 (u8s m.body)]
  | none => [.lit (.int .i64 m.kind), .dead, .lit (.string m.lo), .lit (.string m.hi), .dead, .lit (.string m.bundle), .lit (.int .i64 m.index), .lit (.int .i64 m.many), .dead]
@[simp] theorem ms_imm (m : Ms) : m.cellsO (some .imm) = m.cells := rfl
@[simp ↓] theorem ms_scrub (F : Own → Option Own) (p : Nat → Option Nat) (m : Ms) : PV.scrubL F p m.cells = m.cellsO (F .imm) := by
  simp only [Ms.cells, PV.scrubL, PV.scrub, Ms.cellsO]
  cases F .imm <;> rfl
@[simp ↓] theorem ms_lend (m : Ms) : lendCells m.cells = some m.cells := by simp [Ms.cells, lendCells, lendCell, Value.oneCell']
@[simp ↓] theorem ms_ids (m : Ms) : idsOfL m.cells = [] := by simp [Ms.cells]
@[simp ↓] theorem ms_toks (m : Ms) : toksOfL m.cells = [] := by simp [Ms.cells]
@[simp ↓] theorem ms_toksL (m : Ms) : PV.toks.toksL m.cells = [] := by simp [Ms.cells]
@[simp ↓] theorem ms_view (m : Ms) : PV.viewL m.cells = m.cells := rfl
@[simp] theorem ms_len (m : Ms) : m.cells.length = 9 := rfl
@[simp] theorem ms_write (m : Ms) (a b c d e f g h i : PV) : writeAt [a, b, c, d, e, f, g, h, i] 0 m.cells = m.cells := rfl
@[simp] theorem ms_noOwn (m : Ms) : noOwn m.cells = true := rfl
theorem ms_plain (m : Ms) : ∀ x, x ∈ m.cells → x.plain = true ∧ x.isAgg = false := fun x hx => by
  simp only [Ms.cells, List.mem_cons, List.not_mem_nil, or_false] at hx
  rcases hx with rfl | rfl | rfl | rfl | rfl | rfl | rfl | rfl | rfl <;> exact ⟨rfl, rfl⟩
@[simp] theorem ms_take (m : Ms) : m.cells.take 9 = m.cells := rfl
end Go.Sy
namespace Go.Proofs.Ytbialojkkhkjeaa
open Go.Sy
/-- The message of a frame, or why there is none. -/
def decM (b : List Int) : Ms × Int := if (chkM b).2 ≠ 0 then (zms 0, (chkM b).2) else kndM ((WS.mk false (chkM b).1.2 0).many 4) (WS.mk false (chkM b).1.2 0).num.2
@[simp] theorem zp62 : zeroPV Try.prog 62 = some (.lit .nilFunc) := by kernel_rfl
theorem chk_nl {b : List Int} (h : (chkM b).2 = 0) : (chkM b).1.1 = false := by
  unfold chkM at h ⊢
  split
  · rename_i c; rw [if_pos c] at h; simp at h
  · rename_i c; rw [if_neg c] at h
    split
    · rename_i c; rw [if_pos c] at h; simp at h
    · rename_i c; rw [if_neg c] at h
      split
      · rfl
      · rename_i c; rw [if_neg c] at h; simp at h
theorem chk_in {b : List Int} (h : InB b) : InB (chkM b).1.2 := by
  unfold chkM
  split
  · simp
  · split
    · simp
    · split
      · exact h.take _
      · simp
theorem chk_length (b : List Int) : (chkM b).1.2.length ≤ 4092 := by
  unfold chkM
  split
  · simp
  · split
    · simp
    · split
      · simp; omega
      · simp

set_option maxRecDepth 100000 in
set_option maxHeartbeats 16000000 in
theorem decode_fn (nl : Bool) (b : List Int) (hn : nl = true → b = []) (hb : InB b) (hl : b.length ≤ 1000000) : Fc Try.prog 18 [.sl .imm nl 1 (u8s b)] [] (.tup [.agg (decM b).1.cells, .lit (.int .i64 (decM b).2)]) [] := by
  by_cases c0 : (chkM b).2 = 0
  · have he : decM b = kndM ((WS.mk false (chkM b).1.2 0).many 4) (WS.mk false (chkM b).1.2 0).num.2 := by rw [decM, if_neg (by simp [c0])]
    have hc := checked_fn nl b hn hb hl
    rw [c0, chk_nl c0] at hc
    have hin := chk_in hb
    have hlen := chk_length b
    obtain ⟨p, hp⟩ : ∃ p, p = (chkM b).1.2 := ⟨_, rfl⟩
    rw [← hp] at he hc hin hlen
    obtain ⟨s0, hs0⟩ : ∃ s0, s0 = WS.mk false p 0 := ⟨_, rfl⟩
    have hok0 : s0.Ok := by rw [hs0]; exact ⟨by simp, hin, by simp; omega⟩
    have hm := many_in hok0 (l := 4) (by decide)
    have hO : Fc Try.prog 32 [.sl .imm false 1 (u8s p)] [] (.ptr 6 0) [(6, .cells (wcells s0))] := by rw [hs0]; exact open_fn false p (by simp) (by omega)
    rw [← hs0] at he
    have hok := WS.num_ok hok0
    have hmf := many_fn s0 hok0 4 (by decide) (by decide)
    obtain ⟨k, hk⟩ : ∃ k, k = s0.many 4 := ⟨_, rfl⟩
    obtain ⟨s, hs⟩ : ∃ s, s = s0.num.2 := ⟨_, rfl⟩
    rw [← hk] at he hmf hm
    rw [← hs] at he hmf hok
    by_cases k1 : k = 1
    · have ek : kndM k s = finM (rdSums 1 s) := by rw [kndM, if_pos k1]
      rw [ek] at he
      rw [k1] at hmf
      have hT := rsums_fn 1 s hok
      have hRs : (rdSums 1 s).1.rs.length ≤ 100000 := Nat.le_trans (readRgs_length _ _) (by have := many_in hok (l := 2) (by decide); omega)
      have hIs : (rdSums 1 s).1.ids.length ≤ 100000 := by simp [rdSums, zms]
      obtain ⟨⟨m, u⟩, hmu⟩ : ∃ q, q = rdSums 1 s := ⟨_, rfl⟩
      rw [← hmu] at he hT hRs hIs
      have hR := right_fn m hRs hIs
      rw [he]
      by_cases f1 : u.fin = 0
      · by_cases f2 : rightB m = true
        · have e2 : finM (m, u) = (m, 0) := by rw [finM, if_neg (by simp [f1]), if_pos f2]
          rw [e2]
          refine Fc.of (anys _ [16, 31, 32, 33, 34, 35, 36, 37, 38]) [] mixed Try.func18 rfl (by rfl) (by simp [Try.ntmps18]) (by decide) ?_
          simp -implicitDefEqProofs -dsimp [Try.ntmps18]
          refine CallK.works ?_
          simp -implicitDefEqProofs -dsimp
          refine CallQ.mk (hc) (by simp) ?_
          simp -implicitDefEqProofs -dsimp
          refine CallK.works ?_
          simp -implicitDefEqProofs -dsimp
          refine CallQ.mk (hO) (by simp) ?_
          simp -implicitDefEqProofs -dsimp
          refine CallK.works ?_
          simp -implicitDefEqProofs -dsimp
          refine CallQ.mk (hmf) (by simp) ?_
          simp -implicitDefEqProofs -dsimp
          refine CallK.works ?_
          simp -implicitDefEqProofs -dsimp
          refine CallQ.mk hT (by simp [zcells]) ?_
          simp -implicitDefEqProofs -dsimp
          refine CallK.reads ?_
          simp -implicitDefEqProofs -dsimp
          refine CallQ.same (end_fn u) rfl ?_
          simp -implicitDefEqProofs -dsimp [f1]
          refine CallK.reads ?_
          simp -implicitDefEqProofs -dsimp
          refine CallQ.same (hR) rfl ?_
          simp -implicitDefEqProofs -dsimp [f2]
          refine onSome_iff.2 ⟨_, if_pos (ms_plain m), ?_⟩
          simp -implicitDefEqProofs -dsimp
        · have e2 : finM (m, u) = (zms 0, 3) := by rw [finM, if_neg (by simp [f1]), if_neg f2]
          rw [e2]
          refine Fc.tupA (xs := zcells 0) ?_ (by simp [zcells, zms, Ms.cells])
          refine Fc.of (anys _ [16, 31, 32, 33, 34, 35, 36, 37, 38]) [] mixed Try.func18 rfl (by rfl) (by simp [Try.ntmps18]) (by decide) ?_
          simp -implicitDefEqProofs -dsimp [Try.ntmps18]
          refine CallK.works ?_
          simp -implicitDefEqProofs -dsimp
          refine CallQ.mk (hc) (by simp) ?_
          simp -implicitDefEqProofs -dsimp
          refine CallK.works ?_
          simp -implicitDefEqProofs -dsimp
          refine CallQ.mk (hO) (by simp) ?_
          simp -implicitDefEqProofs -dsimp
          refine CallK.works ?_
          simp -implicitDefEqProofs -dsimp
          refine CallQ.mk (hmf) (by simp) ?_
          simp -implicitDefEqProofs -dsimp
          refine CallK.works ?_
          simp -implicitDefEqProofs -dsimp
          refine CallQ.mk hT (by simp [zcells]) ?_
          simp -implicitDefEqProofs -dsimp
          refine CallK.reads ?_
          simp -implicitDefEqProofs -dsimp
          refine CallQ.same (end_fn u) rfl ?_
          simp -implicitDefEqProofs -dsimp [f1]
          refine CallK.reads ?_
          simp -implicitDefEqProofs -dsimp
          refine CallQ.same (hR) rfl ?_
          simp -implicitDefEqProofs -dsimp [f2, zcells]
      · have e2 : finM (m, u) = (zms 0, 3) := by rw [finM, if_pos f1]
        rw [e2]
        refine Fc.tupA (xs := zcells 0) ?_ (by simp [zcells, zms, Ms.cells])
        refine Fc.of (anys _ [16, 31, 32, 33, 34, 35, 36, 37, 38]) [] mixed Try.func18 rfl (by rfl) (by simp [Try.ntmps18]) (by decide) ?_
        simp -implicitDefEqProofs -dsimp [Try.ntmps18]
        refine CallK.works ?_
        simp -implicitDefEqProofs -dsimp
        refine CallQ.mk (hc) (by simp) ?_
        simp -implicitDefEqProofs -dsimp
        refine CallK.works ?_
        simp -implicitDefEqProofs -dsimp
        refine CallQ.mk (hO) (by simp) ?_
        simp -implicitDefEqProofs -dsimp
        refine CallK.works ?_
        simp -implicitDefEqProofs -dsimp
        refine CallQ.mk (hmf) (by simp) ?_
        simp -implicitDefEqProofs -dsimp
        refine CallK.works ?_
        simp -implicitDefEqProofs -dsimp
        refine CallQ.mk hT (by simp [zcells]) ?_
        simp -implicitDefEqProofs -dsimp
        refine CallK.reads ?_
        simp -implicitDefEqProofs -dsimp
        refine CallQ.same (end_fn u) rfl ?_
        simp -implicitDefEqProofs -dsimp [f1, zcells]
    · have n1 := k1
      by_cases k2 : k = 2
      · have ek : kndM k s = finM (rdList 2 s) := by rw [kndM, if_neg n1, if_pos k2]
        rw [ek] at he
        rw [k2] at hmf
        have hT := rlist_fn 2 s hok
        have hRs : (rdList 2 s).1.rs.length ≤ 100000 := by simp [rdList, zms]
        have hIs : (rdList 2 s).1.ids.length ≤ 100000 := Nat.le_trans (readIds_length _ _) (by have := many_in (WS.id_ok (WS.id_ok hok)) (l := 64) (by decide); omega)
        obtain ⟨⟨m, u⟩, hmu⟩ : ∃ q, q = rdList 2 s := ⟨_, rfl⟩
        rw [← hmu] at he hT hRs hIs
        have hR := right_fn m hRs hIs
        rw [he]
        by_cases f1 : u.fin = 0
        · by_cases f2 : rightB m = true
          · have e2 : finM (m, u) = (m, 0) := by rw [finM, if_neg (by simp [f1]), if_pos f2]
            rw [e2]
            refine Fc.of (anys _ [16, 31, 32, 33, 34, 35, 36, 37, 38]) [] mixed Try.func18 rfl (by rfl) (by simp [Try.ntmps18]) (by decide) ?_
            simp -implicitDefEqProofs -dsimp [Try.ntmps18]
            refine CallK.works ?_
            simp -implicitDefEqProofs -dsimp
            refine CallQ.mk (hc) (by simp) ?_
            simp -implicitDefEqProofs -dsimp
            refine CallK.works ?_
            simp -implicitDefEqProofs -dsimp
            refine CallQ.mk (hO) (by simp) ?_
            simp -implicitDefEqProofs -dsimp
            refine CallK.works ?_
            simp -implicitDefEqProofs -dsimp
            refine CallQ.mk (hmf) (by simp) ?_
            simp -implicitDefEqProofs -dsimp
            refine CallK.works ?_
            simp -implicitDefEqProofs -dsimp
            refine CallQ.mk hT (by simp [zcells]) ?_
            simp -implicitDefEqProofs -dsimp
            refine CallK.reads ?_
            simp -implicitDefEqProofs -dsimp
            refine CallQ.same (end_fn u) rfl ?_
            simp -implicitDefEqProofs -dsimp [f1]
            refine CallK.reads ?_
            simp -implicitDefEqProofs -dsimp
            refine CallQ.same (hR) rfl ?_
            simp -implicitDefEqProofs -dsimp [f2]
            refine onSome_iff.2 ⟨_, if_pos (ms_plain m), ?_⟩
            simp -implicitDefEqProofs -dsimp
          · have e2 : finM (m, u) = (zms 0, 3) := by rw [finM, if_neg (by simp [f1]), if_neg f2]
            rw [e2]
            refine Fc.tupA (xs := zcells 0) ?_ (by simp [zcells, zms, Ms.cells])
            refine Fc.of (anys _ [16, 31, 32, 33, 34, 35, 36, 37, 38]) [] mixed Try.func18 rfl (by rfl) (by simp [Try.ntmps18]) (by decide) ?_
            simp -implicitDefEqProofs -dsimp [Try.ntmps18]
            refine CallK.works ?_
            simp -implicitDefEqProofs -dsimp
            refine CallQ.mk (hc) (by simp) ?_
            simp -implicitDefEqProofs -dsimp
            refine CallK.works ?_
            simp -implicitDefEqProofs -dsimp
            refine CallQ.mk (hO) (by simp) ?_
            simp -implicitDefEqProofs -dsimp
            refine CallK.works ?_
            simp -implicitDefEqProofs -dsimp
            refine CallQ.mk (hmf) (by simp) ?_
            simp -implicitDefEqProofs -dsimp
            refine CallK.works ?_
            simp -implicitDefEqProofs -dsimp
            refine CallQ.mk hT (by simp [zcells]) ?_
            simp -implicitDefEqProofs -dsimp
            refine CallK.reads ?_
            simp -implicitDefEqProofs -dsimp
            refine CallQ.same (end_fn u) rfl ?_
            simp -implicitDefEqProofs -dsimp [f1]
            refine CallK.reads ?_
            simp -implicitDefEqProofs -dsimp
            refine CallQ.same (hR) rfl ?_
            simp -implicitDefEqProofs -dsimp [f2, zcells]
        · have e2 : finM (m, u) = (zms 0, 3) := by rw [finM, if_pos f1]
          rw [e2]
          refine Fc.tupA (xs := zcells 0) ?_ (by simp [zcells, zms, Ms.cells])
          refine Fc.of (anys _ [16, 31, 32, 33, 34, 35, 36, 37, 38]) [] mixed Try.func18 rfl (by rfl) (by simp [Try.ntmps18]) (by decide) ?_
          simp -implicitDefEqProofs -dsimp [Try.ntmps18]
          refine CallK.works ?_
          simp -implicitDefEqProofs -dsimp
          refine CallQ.mk (hc) (by simp) ?_
          simp -implicitDefEqProofs -dsimp
          refine CallK.works ?_
          simp -implicitDefEqProofs -dsimp
          refine CallQ.mk (hO) (by simp) ?_
          simp -implicitDefEqProofs -dsimp
          refine CallK.works ?_
          simp -implicitDefEqProofs -dsimp
          refine CallQ.mk (hmf) (by simp) ?_
          simp -implicitDefEqProofs -dsimp
          refine CallK.works ?_
          simp -implicitDefEqProofs -dsimp
          refine CallQ.mk hT (by simp [zcells]) ?_
          simp -implicitDefEqProofs -dsimp
          refine CallK.reads ?_
          simp -implicitDefEqProofs -dsimp
          refine CallQ.same (end_fn u) rfl ?_
          simp -implicitDefEqProofs -dsimp [f1, zcells]
      · have n2 := k2
        by_cases k3 : k = 3
        · have ek : kndM k s = finM (rdWant 3 s) := by rw [kndM, if_neg n1, if_neg n2, if_pos k3]
          rw [ek] at he
          rw [k3] at hmf
          have hT := rwant_fn 3 s hok
          have hRs : (rdWant 3 s).1.rs.length ≤ 100000 := by simp [rdWant, zms]
          have hIs : (rdWant 3 s).1.ids.length ≤ 100000 := Nat.le_trans (readIds_length _ _) (by have := many_in hok (l := 64) (by decide); omega)
          obtain ⟨⟨m, u⟩, hmu⟩ : ∃ q, q = rdWant 3 s := ⟨_, rfl⟩
          rw [← hmu] at he hT hRs hIs
          have hR := right_fn m hRs hIs
          rw [he]
          by_cases f1 : u.fin = 0
          · by_cases f2 : rightB m = true
            · have e2 : finM (m, u) = (m, 0) := by rw [finM, if_neg (by simp [f1]), if_pos f2]
              rw [e2]
              refine Fc.of (anys _ [16, 31, 32, 33, 34, 35, 36, 37, 38]) [] mixed Try.func18 rfl (by rfl) (by simp [Try.ntmps18]) (by decide) ?_
              simp -implicitDefEqProofs -dsimp [Try.ntmps18]
              refine CallK.works ?_
              simp -implicitDefEqProofs -dsimp
              refine CallQ.mk (hc) (by simp) ?_
              simp -implicitDefEqProofs -dsimp
              refine CallK.works ?_
              simp -implicitDefEqProofs -dsimp
              refine CallQ.mk (hO) (by simp) ?_
              simp -implicitDefEqProofs -dsimp
              refine CallK.works ?_
              simp -implicitDefEqProofs -dsimp
              refine CallQ.mk (hmf) (by simp) ?_
              simp -implicitDefEqProofs -dsimp
              refine CallK.works ?_
              simp -implicitDefEqProofs -dsimp
              refine CallQ.mk hT (by simp [zcells]) ?_
              simp -implicitDefEqProofs -dsimp
              refine CallK.reads ?_
              simp -implicitDefEqProofs -dsimp
              refine CallQ.same (end_fn u) rfl ?_
              simp -implicitDefEqProofs -dsimp [f1]
              refine CallK.reads ?_
              simp -implicitDefEqProofs -dsimp
              refine CallQ.same (hR) rfl ?_
              simp -implicitDefEqProofs -dsimp [f2]
              refine onSome_iff.2 ⟨_, if_pos (ms_plain m), ?_⟩
              simp -implicitDefEqProofs -dsimp
            · have e2 : finM (m, u) = (zms 0, 3) := by rw [finM, if_neg (by simp [f1]), if_neg f2]
              rw [e2]
              refine Fc.tupA (xs := zcells 0) ?_ (by simp [zcells, zms, Ms.cells])
              refine Fc.of (anys _ [16, 31, 32, 33, 34, 35, 36, 37, 38]) [] mixed Try.func18 rfl (by rfl) (by simp [Try.ntmps18]) (by decide) ?_
              simp -implicitDefEqProofs -dsimp [Try.ntmps18]
              refine CallK.works ?_
              simp -implicitDefEqProofs -dsimp
              refine CallQ.mk (hc) (by simp) ?_
              simp -implicitDefEqProofs -dsimp
              refine CallK.works ?_
              simp -implicitDefEqProofs -dsimp
              refine CallQ.mk (hO) (by simp) ?_
              simp -implicitDefEqProofs -dsimp
              refine CallK.works ?_
              simp -implicitDefEqProofs -dsimp
              refine CallQ.mk (hmf) (by simp) ?_
              simp -implicitDefEqProofs -dsimp
              refine CallK.works ?_
              simp -implicitDefEqProofs -dsimp
              refine CallQ.mk hT (by simp [zcells]) ?_
              simp -implicitDefEqProofs -dsimp
              refine CallK.reads ?_
              simp -implicitDefEqProofs -dsimp
              refine CallQ.same (end_fn u) rfl ?_
              simp -implicitDefEqProofs -dsimp [f1]
              refine CallK.reads ?_
              simp -implicitDefEqProofs -dsimp
              refine CallQ.same (hR) rfl ?_
              simp -implicitDefEqProofs -dsimp [f2, zcells]
          · have e2 : finM (m, u) = (zms 0, 3) := by rw [finM, if_pos f1]
            rw [e2]
            refine Fc.tupA (xs := zcells 0) ?_ (by simp [zcells, zms, Ms.cells])
            refine Fc.of (anys _ [16, 31, 32, 33, 34, 35, 36, 37, 38]) [] mixed Try.func18 rfl (by rfl) (by simp [Try.ntmps18]) (by decide) ?_
            simp -implicitDefEqProofs -dsimp [Try.ntmps18]
            refine CallK.works ?_
            simp -implicitDefEqProofs -dsimp
            refine CallQ.mk (hc) (by simp) ?_
            simp -implicitDefEqProofs -dsimp
            refine CallK.works ?_
            simp -implicitDefEqProofs -dsimp
            refine CallQ.mk (hO) (by simp) ?_
            simp -implicitDefEqProofs -dsimp
            refine CallK.works ?_
            simp -implicitDefEqProofs -dsimp
            refine CallQ.mk (hmf) (by simp) ?_
            simp -implicitDefEqProofs -dsimp
            refine CallK.works ?_
            simp -implicitDefEqProofs -dsimp
            refine CallQ.mk hT (by simp [zcells]) ?_
            simp -implicitDefEqProofs -dsimp
            refine CallK.reads ?_
            simp -implicitDefEqProofs -dsimp
            refine CallQ.same (end_fn u) rfl ?_
            simp -implicitDefEqProofs -dsimp [f1, zcells]
        · have n3 := k3
          by_cases k4 : k = 4
          · have ek : kndM k s = finM (rdPart 4 s) := by rw [kndM, if_neg n1, if_neg n2, if_neg n3, if_pos k4]
            rw [ek] at he
            rw [k4] at hmf
            have hT := rpart_fn 4 s hok
            have hRs : (rdPart 4 s).1.rs.length ≤ 100000 := by simp [rdPart, zms]
            have hIs : (rdPart 4 s).1.ids.length ≤ 100000 := by simp [rdPart, zms]
            obtain ⟨⟨m, u⟩, hmu⟩ : ∃ q, q = rdPart 4 s := ⟨_, rfl⟩
            rw [← hmu] at he hT hRs hIs
            have hR := right_fn m hRs hIs
            rw [he]
            by_cases f1 : u.fin = 0
            · by_cases f2 : rightB m = true
              · have e2 : finM (m, u) = (m, 0) := by rw [finM, if_neg (by simp [f1]), if_pos f2]
                rw [e2]
                refine Fc.of (anys _ [16, 31, 32, 33, 34, 35, 36, 37, 38]) [] mixed Try.func18 rfl (by rfl) (by simp [Try.ntmps18]) (by decide) ?_
                simp -implicitDefEqProofs -dsimp [Try.ntmps18]
                refine CallK.works ?_
                simp -implicitDefEqProofs -dsimp
                refine CallQ.mk (hc) (by simp) ?_
                simp -implicitDefEqProofs -dsimp
                refine CallK.works ?_
                simp -implicitDefEqProofs -dsimp
                refine CallQ.mk (hO) (by simp) ?_
                simp -implicitDefEqProofs -dsimp
                refine CallK.works ?_
                simp -implicitDefEqProofs -dsimp
                refine CallQ.mk (hmf) (by simp) ?_
                simp -implicitDefEqProofs -dsimp
                refine CallK.works ?_
                simp -implicitDefEqProofs -dsimp
                refine CallQ.mk hT (by simp [zcells]) ?_
                simp -implicitDefEqProofs -dsimp
                refine CallK.reads ?_
                simp -implicitDefEqProofs -dsimp
                refine CallQ.same (end_fn u) rfl ?_
                simp -implicitDefEqProofs -dsimp [f1]
                refine CallK.reads ?_
                simp -implicitDefEqProofs -dsimp
                refine CallQ.same (hR) rfl ?_
                simp -implicitDefEqProofs -dsimp [f2]
                refine onSome_iff.2 ⟨_, if_pos (ms_plain m), ?_⟩
                simp -implicitDefEqProofs -dsimp
              · have e2 : finM (m, u) = (zms 0, 3) := by rw [finM, if_neg (by simp [f1]), if_neg f2]
                rw [e2]
                refine Fc.tupA (xs := zcells 0) ?_ (by simp [zcells, zms, Ms.cells])
                refine Fc.of (anys _ [16, 31, 32, 33, 34, 35, 36, 37, 38]) [] mixed Try.func18 rfl (by rfl) (by simp [Try.ntmps18]) (by decide) ?_
                simp -implicitDefEqProofs -dsimp [Try.ntmps18]
                refine CallK.works ?_
                simp -implicitDefEqProofs -dsimp
                refine CallQ.mk (hc) (by simp) ?_
                simp -implicitDefEqProofs -dsimp
                refine CallK.works ?_
                simp -implicitDefEqProofs -dsimp
                refine CallQ.mk (hO) (by simp) ?_
                simp -implicitDefEqProofs -dsimp
                refine CallK.works ?_
                simp -implicitDefEqProofs -dsimp
                refine CallQ.mk (hmf) (by simp) ?_
                simp -implicitDefEqProofs -dsimp
                refine CallK.works ?_
                simp -implicitDefEqProofs -dsimp
                refine CallQ.mk hT (by simp [zcells]) ?_
                simp -implicitDefEqProofs -dsimp
                refine CallK.reads ?_
                simp -implicitDefEqProofs -dsimp
                refine CallQ.same (end_fn u) rfl ?_
                simp -implicitDefEqProofs -dsimp [f1]
                refine CallK.reads ?_
                simp -implicitDefEqProofs -dsimp
                refine CallQ.same (hR) rfl ?_
                simp -implicitDefEqProofs -dsimp [f2, zcells]
            · have e2 : finM (m, u) = (zms 0, 3) := by rw [finM, if_pos f1]
              rw [e2]
              refine Fc.tupA (xs := zcells 0) ?_ (by simp [zcells, zms, Ms.cells])
              refine Fc.of (anys _ [16, 31, 32, 33, 34, 35, 36, 37, 38]) [] mixed Try.func18 rfl (by rfl) (by simp [Try.ntmps18]) (by decide) ?_
              simp -implicitDefEqProofs -dsimp [Try.ntmps18]
              refine CallK.works ?_
              simp -implicitDefEqProofs -dsimp
              refine CallQ.mk (hc) (by simp) ?_
              simp -implicitDefEqProofs -dsimp
              refine CallK.works ?_
              simp -implicitDefEqProofs -dsimp
              refine CallQ.mk (hO) (by simp) ?_
              simp -implicitDefEqProofs -dsimp
              refine CallK.works ?_
              simp -implicitDefEqProofs -dsimp
              refine CallQ.mk (hmf) (by simp) ?_
              simp -implicitDefEqProofs -dsimp
              refine CallK.works ?_
              simp -implicitDefEqProofs -dsimp
              refine CallQ.mk hT (by simp [zcells]) ?_
              simp -implicitDefEqProofs -dsimp
              refine CallK.reads ?_
              simp -implicitDefEqProofs -dsimp
              refine CallQ.same (end_fn u) rfl ?_
              simp -implicitDefEqProofs -dsimp [f1, zcells]
          · have n4 := k4
            have ek : kndM k s = (zms 0, 3) := by rw [kndM, if_neg n1, if_neg n2, if_neg n3, if_neg n4]
            rw [he, ek]
            refine Fc.tupA (xs := zcells 0) ?_ (by simp [zcells, zms, Ms.cells])
            have q1 : ¬ (1 : Int) = k := fun h => n1 h.symm
            have q2 : ¬ (2 : Int) = k := fun h => n2 h.symm
            have q3 : ¬ (3 : Int) = k := fun h => n3 h.symm
            have q4 : ¬ (4 : Int) = k := fun h => n4 h.symm
            refine Fc.of (anys _ [16, 31, 32, 33, 34, 35, 36, 37, 38]) [] mixed Try.func18 rfl (by rfl) (by simp [Try.ntmps18]) (by decide) ?_
            simp -implicitDefEqProofs -dsimp [Try.ntmps18]
            refine CallK.works ?_
            simp -implicitDefEqProofs -dsimp
            refine CallQ.mk (hc) (by simp) ?_
            simp -implicitDefEqProofs -dsimp
            refine CallK.works ?_
            simp -implicitDefEqProofs -dsimp
            refine CallQ.mk (hO) (by simp) ?_
            simp -implicitDefEqProofs -dsimp
            refine CallK.works ?_
            simp -implicitDefEqProofs -dsimp
            refine CallQ.mk (hmf) (by simp) ?_
            simp -implicitDefEqProofs -dsimp [q1, q2, q3, q4, zcells]
  · have he : decM b = (zms 0, (chkM b).2) := by rw [decM, if_pos c0]
    rw [he]
    refine Fc.tupA (xs := zcells 0) ?_ (by simp [zcells, zms, Ms.cells])
    have hc := checked_fn nl b hn hb hl
    refine Fc.of (anys _ [16, 31, 32, 33, 34, 35, 36, 37, 38]) [] mixed Try.func18 rfl (by rfl) (by simp [Try.ntmps18]) (by decide) ?_
    simp -implicitDefEqProofs -dsimp [Try.ntmps18]
    refine CallK.works ?_
    simp -implicitDefEqProofs -dsimp
    refine CallQ.mk (hc) (by simp) ?_
    simp -implicitDefEqProofs -dsimp [c0, zcells]
end Go.Proofs.Ytbialojkkhkjeaa
