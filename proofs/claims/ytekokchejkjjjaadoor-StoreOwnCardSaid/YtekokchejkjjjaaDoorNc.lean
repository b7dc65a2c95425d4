/- Stores: the document's, what it has, what is put. (and what stands on it) -/
import Derived.Test.YtekokchejkjjjaaDoorNb
import Derived.Test.YtekokchejkjjjaaDoorNa
set_option linter.unusedSimpArgs false
set_option linter.unusedVariables false

/-! Stores: the document's, what it has, what is put. -/
namespace Go.Proofs.YtekokchejkjjjaaDoor
open Go.Sy
def alls (L : List Objt) : List ByteArray := L.map fun o => ofBs o.2
@[simp] theorem alls_length (L : List Objt) : (alls L).length = L.length := by simp [alls]
theorem alls_snoc (L : List Objt) (i : ByteArray) (b : List Int) : alls L ++ [ofBs b] = alls (L ++ [(i, b)]) := by simp [alls]
def rtC (L : List Objt) : List PV := [.ptr 100001 0, .sl (.own (.cell 100000 1)) L.isEmpty 1 (idc (ids L)), .sl (.own (.cell 100000 2)) L.isEmpty 1 (idc (alls L))]
def rtH (r : RS) (L : List Objt) : List (Nat × Ob) := [(100000, .cells (rtC L)), (100001, .cells (r.cells (.own (.cell 100001 0))))]
attribute [simp] rtC rtH
theorem hasO_take {L : List Objt} {i : ByteArray} (h : ∀ k (hk : k < L.length), (ids L)[k]'(by simpa using hk) ≠ i) : hasO L i = false := by
  cases e : hasO L i with
  | false => rfl
  | true =>
    have := hasO_iff.1 e
    obtain ⟨k, hk, rfl⟩ := List.getElem_of_mem this
    exact absurd rfl (h k (by simpa using hk))

set_option maxRecDepth 100000 in
set_option maxHeartbeats 8000000 in
theorem rhas_fn (r : RS) (L : List Objt) (i : ByteArray) (hL : L.length ≤ 1000000) : Fc Tryd.prog 65 [.ptr 100000 0, .lit (.string i)] (rtH r L) (.lit (.bool (hasO L i))) (rtH r L) := by
  refine Fc.of (anys _ []) [] mixed Tryd.func65 rfl (by rfl) (by simp [Tryd.ntmps65]) (by decide) ?_
  simp -implicitDefEqProofs -dsimp [Tryd.ntmps65]
  refine LpK.mk (anys _ []) mixed (fun k : Nat => k ≤ L.length ∧ ∀ j (hj : j < L.length), j < k → (ids L)[j]'(by simpa using hj) ≠ i)
    (fun k => ⟨[(0, .ptr 100000 0), (1, .lit (.string i)), (5, .lit (.int .i64 k))], rtH r L, 24⟩) (fun k => L.length - k) 0 ⟨by omega, fun j _ h => by omega⟩ (by simp -implicitDefEqProofs -dsimp) ?_
  rintro k ⟨hk, hall⟩
  by_cases hlt : k < L.length
  · have hlt' : k < (ids L).length := by simpa using hlt
    obtain ⟨p, hp⟩ : ∃ p, (ids L)[k] = p := ⟨_, rfl⟩
    have hp' : (ids L)[k]? = some p := by rw [List.getElem?_eq_getElem hlt', hp]
    have hw : IntKind.i64.wrap ((k : Int) + 1) = (k : Int) + 1 := wrap64 (by omega) (by omega)
    by_cases c : p = i
    · have hh : hasO L i = true := hasO_iff.2 (c ▸ hp ▸ List.getElem_mem hlt')
      simp -implicitDefEqProofs -dsimp [hlt, hp, hp', c, hh]
    · simp -implicitDefEqProofs -dsimp [hlt, hp, hp', c, hw]
      refine .mk (k + 1) ⟨hlt, fun j hj hjk => ?_⟩ (by omega) (by simp -implicitDefEqProofs -dsimp)
      rcases Nat.lt_or_ge j k with h | h
      · exact hall j hj h
      · have : j = k := by omega
        subst this; rw [hp]; exact c
  · have e : k = L.length := by omega
    have hh : hasO L i = false := hasO_take fun j hj => hall j hj (by omega)
    subst e
    simp -implicitDefEqProofs -dsimp [hh]

set_option maxRecDepth 100000 in
set_option maxHeartbeats 4000000 in
theorem rrecord_fn (nl : Bool) (b : List Int) (hl : b.length ≤ 100000) (hb : InB b) : Fc Tryd.prog 68 [.sl .imm nl 1 (u8s b)] [] (.sl .imm false 1 (u8s (recB digOf b))) [] := by
  obtain ⟨i, hi⟩ : ∃ i, i = digOf b := ⟨_, rfl⟩
  have hs := dig4 b
  have hO := rof_fn nl b hl hb
  unfold recB
  rw [← hi] at hs hO ⊢
  have hi' : (4 : Int) ≤ i.size := by omega
  have h4 := bs_front i 4
  have m4 : min 4 (bs i).length = 4 := by rw [bs_length]; omega
  have m4' : min 4 i.size = 4 := by omega
  have z : (enc b.length).length + b.length + 4 ≤ 140737488355328 := by have := enc_u64 (n := b.length) (by omega); omega
  have hsz : (i.extract 0 4).size ≤ 140737488355328 := by have := bs_length (i.extract 0 4); rw [h4, List.length_take] at this; omega
  suffices h : Fc Tryd.prog 68 [.sl .imm nl 1 (u8s b)] [] (.sl (.own (.loc 1070)) false 1 (u8s (enc b.length ++ (b ++ (bs i).take 4)))) [] by
    have := h.fz [.loc 1070]
    simpa using this
  refine Fc.of (anys _ [22, 75]) sch68 mixed Tryd.func68 rfl (by rfl) (by simp [Tryd.ntmps68]) (by decide) ?_
  simp -implicitDefEqProofs -dsimp [Tryd.ntmps68]
  refine CallK.reads ?_
  simp -implicitDefEqProofs -dsimp
  refine CallQ.same (hO) rfl ?_
  simp -implicitDefEqProofs -dsimp [hi', h4, m4, m4', z, hsz]
  refine AltK.mk ?_ ?_
  · simp -implicitDefEqProofs -dsimp [hi', h4, m4, z, hsz]
    refine CallK.fresh ?_
    simp -implicitDefEqProofs -dsimp
    refine CallQ.same (rtext0_fn nl b (by omega)) rfl ?_
    simp -implicitDefEqProofs -dsimp [fr_u8s, hi', h4, m4, m4', z, hsz]
  · simp -implicitDefEqProofs -dsimp [hi', h4, m4, m4', z, hsz]
    refine CallK.fresh ?_
    simp -implicitDefEqProofs -dsimp
    refine CallQ.same (rtext0_fn nl b (by omega)) rfl ?_
    simp -implicitDefEqProofs -dsimp [fr_u8s, hi', h4, m4, m4', z, hsz]
def putR (dg : List Int → ByteArray) (d : RS) (L : List Objt) (b : List Int) : (ByteArray × Int) × RS × List Objt :=
  if hasO L (dg b) = true then ((dg b, 0), d, L)
  else if (d.append (recB dg b)).1 ≠ 0 then ((⟨#[]⟩, (d.append (recB dg b)).1), (d.append (recB dg b)).2, L)
  else ((dg b, 0), (d.append (recB dg b)).2, L ++ [(dg b, b)])

set_option maxRecDepth 100000 in
set_option maxHeartbeats 8000000 in
theorem rput_fn (d : RS) (hd : d.Ok) (L : List Objt) (b : List Int) (hb : InB b) (hl : b.length ≤ 1000) (hL : L.length ≤ 1000000) :
    Fc Tryd.prog 33 [.ptr 100000 0, .sl .imm false 1 (u8s b)] (rtH d L) (.tup [.lit (.string (putR digOf d L b).1.1), .lit (.int .i64 (putR digOf d L b).1.2)]) (rtH (putR digOf d L b).2.1 (putR digOf d L b).2.2) := by
  have hl' : ¬ 131072 < (b.length : Int) := by omega
  have hO := rof_fn false b (by omega) hb
  have hR := rrecord_fn false b (by omega) hb
  have hA := rappend_fn d hd false (recB digOf b) (by rw [recB_length digOf dig4]; have := enc_u64 (n := b.length) (by omega); omega)
  have hH := rhas_fn d L (digOf b) hL
  unfold putR
  by_cases h1 : hasO L (digOf b) = true
  · rw [if_pos h1]
    refine Fc.of (anys _ [22, 65, 68, 24]) sch33 mixed Tryd.func33 rfl (by rfl) (by simp [Tryd.ntmps33]) (by decide) ?_
    simp -implicitDefEqProofs -dsimp [Tryd.ntmps33, hl']
    refine CallK.reads ?_
    simp -implicitDefEqProofs -dsimp
    refine CallQ.same (hO) rfl ?_
    simp -implicitDefEqProofs -dsimp
    refine CallK.works ?_
    simp -implicitDefEqProofs -dsimp
    refine CallQ.mk (hH) (by simp) ?_
    simp -implicitDefEqProofs -dsimp [h1]
  · rw [if_neg h1]
    have h1 : hasO L (digOf b) = false := by simpa using h1
    obtain ⟨⟨e, d'⟩, hed⟩ : ∃ q, q = d.append (recB digOf b) := ⟨_, rfl⟩
    rw [← hed] at hA ⊢
    by_cases h2 : e = 0
    · rw [if_neg (show ¬ (e, d').1 ≠ 0 from fun h => h h2)]
      subst h2
      have z1 : (L.length + 1) * 16 ≤ 140737488355328 := by omega
      have z2 : L.length ≤ 140737488355327 := by omega
      refine Fc.of (anys _ [22, 65, 68, 24]) sch33 mixed Tryd.func33 rfl (by rfl) (by simp [Tryd.ntmps33]) (by decide) ?_
      simp -implicitDefEqProofs -dsimp [Tryd.ntmps33, hl']
      refine CallK.reads ?_
      simp -implicitDefEqProofs -dsimp
      refine CallQ.same (hO) rfl ?_
      simp -implicitDefEqProofs -dsimp
      refine CallK.works ?_
      simp -implicitDefEqProofs -dsimp
      refine CallQ.mk (hH) (by simp) ?_
      simp -implicitDefEqProofs -dsimp [h1]
      refine CallK.works ?_
      simp -implicitDefEqProofs -dsimp
      refine CallQ.mk (hR) (by simp) ?_
      simp -implicitDefEqProofs -dsimp
      refine CallK.works ?_
      simp -implicitDefEqProofs -dsimp
      refine CallQ.mk (hA) (by simp) ?_
      simp -implicitDefEqProofs -dsimp [z1, z2, hb, ids_snoc L (digOf b) b, alls_snoc L (digOf b) b]
    · rw [if_pos (show (e, d').1 ≠ 0 from h2)]
      refine Fc.of (anys _ [22, 65, 68, 24]) sch33 mixed Tryd.func33 rfl (by rfl) (by simp [Tryd.ntmps33]) (by decide) ?_
      simp -implicitDefEqProofs -dsimp [Tryd.ntmps33, hl']
      refine CallK.reads ?_
      simp -implicitDefEqProofs -dsimp
      refine CallQ.same (hO) rfl ?_
      simp -implicitDefEqProofs -dsimp
      refine CallK.works ?_
      simp -implicitDefEqProofs -dsimp
      refine CallQ.mk (hH) (by simp) ?_
      simp -implicitDefEqProofs -dsimp [h1]
      refine CallK.works ?_
      simp -implicitDefEqProofs -dsimp
      refine CallQ.mk (hR) (by simp) ?_
      simp -implicitDefEqProofs -dsimp
      refine CallK.works ?_
      simp -implicitDefEqProofs -dsimp
      refine CallQ.mk (hA) (by simp) ?_
      simp -implicitDefEqProofs -dsimp [h2]
end Go.Proofs.YtekokchejkjjjaaDoor
