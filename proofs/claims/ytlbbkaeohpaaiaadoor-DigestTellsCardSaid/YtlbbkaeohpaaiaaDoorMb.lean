/- Digests: the document's Parse and Hex. (and what stands on it) -/
import Derived.Test.YtlbbkaeohpaaiaaDoorM8
import Derived.Test.YtlbbkaeohpaaiaaDoorM4

/-! Digests: the document's Parse and Hex. -/
namespace Go.Sy
theorem digV_is : ∀ n : Nat, n < 256 → digV (n : Int) = if 48 ≤ n ∧ n ≤ 57 then (n : Int) - 48 else if 97 ≤ n ∧ n ≤ 102 then (n : Int) - 87 else -1 := by decide +kernel
theorem digV_range {y : Int} (h : 0 ≤ y ∧ y < 256) : -1 ≤ digV y ∧ digV y < 16 := by
  obtain ⟨n, rfl⟩ : ∃ n : Nat, y = n := ⟨y.toNat, by omega⟩
  rw [digV_is n (by omega)]
  split
  · omega
  · split <;> omega
theorem prB_nat : ∀ a : Nat, a < 16 → ∀ b : Nat, b < 16 → IntKind.u8.wrap (ior .i64 (ishl .i64 (a : Int) 4) (b : Int)) = IntKind.u8.wrap (16 * (a : Int) + b) := by decide +kernel
theorem prB_is {x y : Int} (hx : 0 ≤ digV x) (hy : 0 ≤ digV y) (hx' : digV x < 16) (hy' : digV y < 16) : prB x y = IntKind.u8.wrap (16 * digV x + digV y) := by
  unfold prB
  obtain ⟨a, ha⟩ : ∃ a : Nat, digV x = a := ⟨(digV x).toNat, by omega⟩
  obtain ⟨b, hb⟩ : ∃ b : Nat, digV y = b := ⟨(digV y).toNat, by omega⟩
  rw [ha, hb]
  exact prB_nat a (by omega) b (by omega)
/-- A digit. -/
def dg (n : Int) : Int := ((hx.data.toList.getD n.toNat 0).toNat : Int)
theorem dg_is : ∀ n : Nat, n < 16 → dg (n : Int) = if n < 10 then 48 + (n : Int) else 87 + (n : Int) := by decide +kernel
theorem dg_in : ∀ n : Nat, n < 16 → 0 ≤ dg (n : Int) ∧ dg (n : Int) < 256 := by decide +kernel
def hexI (l : List Int) : List Int := l.flatMap fun c => [dg (c / 16), dg (c % 16)]
theorem hexI_length (l : List Int) : (hexI l).length = 2 * l.length := by
  induction l with
  | nil => rfl
  | cons c l ih =>
    have : hexI (c :: l) = [dg (c / 16), dg (c % 16)] ++ hexI l := rfl
    rw [this, List.length_append, ih]; simp; omega
theorem hexI_in {l : List Int} (h : InB l) : InB (hexI l) := by
  intro y hy
  simp only [hexI, List.mem_flatMap, List.mem_cons, List.not_mem_nil, or_false] at hy
  obtain ⟨x, hx, rfl | rfl⟩ := hy
  · have := h x hx
    obtain ⟨n, hn⟩ : ∃ n : Nat, x / 16 = n := ⟨(x / 16).toNat, by omega⟩
    rw [hn]; exact dg_in n (by omega)
  · have := h x hx
    obtain ⟨n, hn⟩ : ∃ n : Nat, x % 16 = n := ⟨(x % 16).toNat, by omega⟩
    rw [hn]; exact dg_in n (by omega)
theorem hexI_bytes (l : List UInt8) : hexI (l.map fun c => (c.toNat : Int)) = (Go.Proofs.YtlbbkaeohpaaiaaDoor.hexB l).map fun c => (c.toNat : Int) := by
  induction l with
  | nil => rfl
  | cons c l ih =>
    have e1 : hexI ((c :: l).map fun c => (c.toNat : Int)) = [dg ((c.toNat : Int) / 16), dg ((c.toNat : Int) % 16)] ++ hexI (l.map fun c => (c.toNat : Int)) := rfl
    have e2 : Go.Proofs.YtlbbkaeohpaaiaaDoor.hexB (c :: l) = Go.Proofs.YtlbbkaeohpaaiaaDoor.hexU c ++ Go.Proofs.YtlbbkaeohpaaiaaDoor.hexB l := rfl
    rw [e1, e2, ih, List.map_append]
    rfl
theorem hexR_is {s : ByteArray} (h : s.size = 32) : Go.Proofs.YtlbbkaeohpaaiaaDoor.hexR s = ofBs (hexI (bs s)) := by
  rw [Go.Proofs.YtlbbkaeohpaaiaaDoor.hexR, if_pos h]
  rw [show hexI (bs s) = bs ⟨(Go.Proofs.YtlbbkaeohpaaiaaDoor.hexB s.data.toList).toArray⟩ from hexI_bytes _, ofBs_bs]
end Go.Sy
namespace Go.Proofs.YtlbbkaeohpaaiaaDoor
open Go.Sy

set_option maxRecDepth 100000 in
set_option maxHeartbeats 8000000 in
theorem value_fn (y : Int) (h : 0 ≤ y ∧ y < 256) : Fc Tryd.prog 22 [.lit (.int .u8 y)] [] (.lit (.int .i64 (digV y))) [] := by
  obtain ⟨n, rfl⟩ : ∃ n : Nat, y = n := ⟨y.toNat, by omega⟩
  have hd := digV_is n (by omega)
  refine Fc.of (anys _ []) [] mixed Tryd.func22 rfl (by rfl) (by simp [Tryd.ntmps22]) (by decide) ?_
  have w0 : IntKind.i64.wrap (n : Int) = n := wrap64 (by omega) (by omega)
  have w1 : IntKind.i64.wrap ((n : Int) - 48) = (n : Int) - 48 := wrap64 (by omega) (by omega)
  have w2 : IntKind.i64.wrap ((n : Int) - 87) = (n : Int) - 87 := wrap64 (by omega) (by omega)
  rw [hd]
  by_cases a1 : 48 ≤ n
  · have b1 : (48 : Int) ≤ n := by omega
    by_cases a2 : n ≤ 57
    · have b2 : (n : Int) ≤ 57 := by omega
      simp -implicitDefEqProofs -dsimp [Tryd.ntmps22, a1, a2, b1, b2, w0, w1]
    · have b2 : ¬ (n : Int) ≤ 57 := by omega
      by_cases a3 : 97 ≤ n
      · have b3 : (97 : Int) ≤ n := by omega
        by_cases a4 : n ≤ 102
        · have b4 : (n : Int) ≤ 102 := by omega
          simp -implicitDefEqProofs -dsimp [Tryd.ntmps22, a1, a2, a3, a4, b1, b2, b3, b4, w0, w2]
        · have b4 : ¬ (n : Int) ≤ 102 := by omega
          simp -implicitDefEqProofs -dsimp [Tryd.ntmps22, a1, a2, a3, a4, b1, b2, b3, b4]
      · have b3 : ¬ (97 : Int) ≤ n := by omega
        simp -implicitDefEqProofs -dsimp [Tryd.ntmps22, a1, a2, a3, b1, b2, b3]
  · have b1 : ¬ (48 : Int) ≤ n := by omega
    have a3 : ¬ 97 ≤ n := by omega
    have b3 : ¬ (97 : Int) ≤ n := by omega
    simp -implicitDefEqProofs -dsimp [Tryd.ntmps22, a1, a3, b1, b3]

set_option maxRecDepth 100000 in
set_option maxHeartbeats 8000000 in
theorem digit_fn (n : Nat) (h : n < 16) : Fc Tryd.prog 25 [.lit (.int .i64 n)] [] (.lit (.int .u8 (dg n))) [] := by
  refine Fc.of (anys _ []) [] mixed Tryd.func25 rfl (by rfl) (by simp [Tryd.ntmps25]) (by decide) ?_
  rw [dg_is n h]
  have w1 : IntKind.i64.wrap (48 + (n : Int)) = 48 + (n : Int) := wrap64 (by omega) (by omega)
  have w2 : IntKind.i64.wrap (87 + (n : Int)) = 87 + (n : Int) := wrap64 (by omega) (by omega)
  have w3 : IntKind.u8.wrap (48 + (n : Int)) = 48 + (n : Int) := by simp [IntKind.wrap, IntKind.signed, IntKind.bits]; omega
  have w4 : IntKind.u8.wrap (87 + (n : Int)) = 87 + (n : Int) := by simp [IntKind.wrap, IntKind.signed, IntKind.bits]; omega
  by_cases a1 : n < 10
  · have b1 : (n : Int) < 10 := by omega
    simp -implicitDefEqProofs -dsimp [Tryd.ntmps25, a1, b1, w1, w3]
  · have b1 : ¬ (n : Int) < 10 := by omega
    simp -implicitDefEqProofs -dsimp [Tryd.ntmps25, a1, b1, w2, w4]
end Go.Proofs.YtlbbkaeohpaaiaaDoor

/-! Digests: the document's Parse and Hex; the law of digits. -/
namespace Go.Proofs.YtlbbkaeohpaaiaaDoor
open Go.Sy

set_option maxRecDepth 100000 in
set_option maxHeartbeats 8000000 in
theorem rparse_fn (s : ByteArray) (hs : s.size ≤ 1000000) : Fc Tryd.prog 12 [.lit (.string s)] [] (.tup [.lit (.string (parseR s).1), .lit (.bool (parseR s).2)]) [] := by
  refine Fc.of (anys _ [22]) [] mixed Tryd.func12 rfl (by rfl) (by simp [Tryd.ntmps12]) (by decide) ?_
  by_cases h64 : s.size = 64
  · have h64' : (s.size : Int) = 64 := by omega
    have hl : (bs s).length = 64 := by rw [bs_length, h64]
    simp -implicitDefEqProofs -dsimp [Tryd.ntmps12, h64']
    refine LpK.mk (anys _ [22]) mixed (fun ((i, l) : Nat × List Int) => i ≤ 32 ∧ l.length = i ∧ InB l ∧ prs (bs s) = (prs ((bs s).drop (2 * i))).map (l ++ ·))
      (fun ((i, l) : Nat × List Int) => ⟨[(0, .lit (.string s)), (4, .sl (.own (.loc 39)) (decide (i = 0)) 1 (u8s l)), (5, .lit (.int .i64 i))], [], 42⟩)
      (fun (i, _) => 32 - i) (0, []) ⟨by omega, rfl, by simp [InB], by simp⟩ (by simp -implicitDefEqProofs -dsimp) ?_
    rintro ⟨i, l⟩ ⟨hi, hll, hin, hp⟩
    by_cases hlt : i < 32
    · have h1 : (i : Int) < 32 := by omega
      have w0 : IntKind.i64.wrap (2 * (i : Int)) = 2 * (i : Int) := wrap64 (by omega) (by omega)
      have w1 : IntKind.i64.wrap (2 * (i : Int) + 1) = 2 * (i : Int) + 1 := wrap64 (by omega) (by omega)
      have w2 : IntKind.i64.wrap ((i : Int) + 1) = (i : Int) + 1 := wrap64 (by omega) (by omega)
      have hex1 : ∃ x, (bs s)[2 * i]? = some x := ⟨_, List.getElem?_eq_getElem (by omega)⟩
      have hex2 : ∃ y, (bs s)[2 * i + 1]? = some y := ⟨_, List.getElem?_eq_getElem (by omega)⟩
      obtain ⟨x, hx1⟩ := hex1
      obtain ⟨y, hy1⟩ := hex2
      have hxb := inB_bs s x (List.mem_of_getElem? hx1)
      have hyb := inB_bs s y (List.mem_of_getElem? hy1)
      have g1 : indexPV Tryd.prog 9 (.lit (.string s)) (.lit (.int .i64 (2 * (i : Int)))) = some (.lit (.int .u8 x)) := by simpa using index_str Tryd.underlying9 s .i64 (2 * i) x hx1
      have g2 : indexPV Tryd.prog 9 (.lit (.string s)) (.lit (.int .i64 (2 * (i : Int) + 1))) = some (.lit (.int .u8 y)) := by simpa using index_str Tryd.underlying9 s .i64 (2 * i + 1) y hy1
      have hd : (bs s).drop (2 * i) = x :: y :: (bs s).drop (2 * (i + 1)) := by
        rw [List.drop_eq_getElem_cons (by omega), List.drop_eq_getElem_cons (by omega)]
        rw [List.getElem?_eq_getElem (by omega)] at hx1 hy1
        rw [Option.some.inj hx1, Option.some.inj hy1]; rfl
      have hpx : prs ((bs s).drop (2 * i)) = if digV x < 0 ∨ digV y < 0 then none else (prs ((bs s).drop (2 * (i + 1)))).map (prB x y :: ·) := by rw [hd, prs]
      rw [hpx] at hp
      have rx := digV_range hxb
      have ry := digV_range hyb
      simp -implicitDefEqProofs -dsimp [h1, w0, g1]
      refine CallK.reads ?_
      simp -implicitDefEqProofs -dsimp
      refine CallQ.same (value_fn x hxb) rfl ?_
      simp -implicitDefEqProofs -dsimp [w0, w1, g2]
      refine CallK.reads ?_
      simp -implicitDefEqProofs -dsimp
      refine CallQ.same (value_fn y hyb) rfl ?_
      simp -implicitDefEqProofs -dsimp
      by_cases c1 : digV x < 0
      · rw [if_pos (.inl c1)] at hp
        have hr : parseR s = (⟨#[]⟩, false) := by rw [parseR, if_neg (by simpa using h64), hp]; rfl
        simp -implicitDefEqProofs -dsimp [c1, hr]
      · by_cases c2 : digV y < 0
        · rw [if_pos (.inr c2)] at hp
          have hr : parseR s = (⟨#[]⟩, false) := by rw [parseR, if_neg (by simpa using h64), hp]; rfl
          simp -implicitDefEqProofs -dsimp [c1, c2, hr]
        · rw [if_neg (by simp [c1, c2])] at hp
          have l1 : l.length + 1 ≤ 140737488355328 := by omega
          have v1 : IntKind.i64.wrap (16 * digV x) = 16 * digV x := wrap64 (by omega) (by omega)
          have v2 : IntKind.i64.wrap (16 * digV x + digV y) = 16 * digV x + digV y := wrap64 (by omega) (by omega)
          have hpb := prB_is (x := x) (y := y) (by omega) (by omega) (by omega) (by omega)
          simp -implicitDefEqProofs -dsimp [c1, c2, w2, l1, v1, v2, ← hpb]
          refine .mk (i + 1, l ++ [prB x y]) ⟨hlt, by simp [hll], ?_, ?_⟩ (by show 32 - (i + 1) < 32 - i; omega) (by simp -implicitDefEqProofs -dsimp)
          · intro z hz
            rcases List.mem_append.1 hz with hz | hz
            · exact hin z hz
            · simp at hz; subst hz; exact wrap8_in _
          · rw [hp]; simp [Function.comp_def]
    · have e : i = 32 := by omega
      subst e
      have hdn : (bs s).drop (2 * 32) = [] := List.drop_eq_nil_of_le (by omega)
      rw [hdn, show prs [] = some [] from rfl] at hp
      have hr : parseR s = (ofBs l, true) := by rw [parseR, if_neg (by simpa using h64), hp]; simp
      simp -implicitDefEqProofs -dsimp [hin, hr]
  · have h64' : ¬ (s.size : Int) = 64 := by omega
    have hr : parseR s = (⟨#[]⟩, false) := by rw [parseR, if_pos h64]
    simp -implicitDefEqProofs -dsimp [Tryd.ntmps12, h64', hr]

@[simp] theorem ints_two (k : IntKind) (xs : List Int) (a b : Int) : ints k xs ++ [PV.lit (.int k a), PV.lit (.int k b)] = ints k (xs ++ [a, b]) := by simp [ints]
theorem digit_fn2 (z : Int) (h : 0 ≤ z ∧ z < 16) : Fc Tryd.prog 25 [.lit (.int .i64 z)] [] (.lit (.int .u8 (dg z))) [] := by
  obtain ⟨n, rfl⟩ : ∃ n : Nat, z = n := ⟨z.toNat, by omega⟩
  exact digit_fn n (by omega)

set_option maxRecDepth 100000 in
set_option maxHeartbeats 8000000 in
theorem rhex_fn (s : ByteArray) : Fc Tryd.prog 14 [.lit (.string s)] [] (.lit (.string (hexR s))) [] := by
  refine Fc.of (anys _ [25]) sch14 mixed Tryd.func14 rfl (by rfl) (by simp [Tryd.ntmps14]) (by decide) ?_
  by_cases h32 : s.size = 32
  · have h32' : (s.size : Int) = 32 := by omega
    have hl : (bs s).length = 32 := by rw [bs_length, h32]
    have hR := hexR_is h32
    simp -implicitDefEqProofs -dsimp [Tryd.ntmps14, h32']
    refine LpK.mk (anys _ [25]) mixed (fun i : Nat => i ≤ 32)
      (fun i => ⟨[(0, .lit (.string s)), (3, .sl (.own (.loc 26)) (decide (i = 0)) 1 (u8s (hexI ((bs s).take i)))), (4, .lit (.int .i64 i))], [], 29⟩)
      (fun i => 32 - i) 0 (by simp) (by simp -implicitDefEqProofs -dsimp [hexI]) ?_
    intro i hi
    by_cases hlt : i < 32
    · have h1 : (i : Int) < 32 := by omega
      have w2 : IntKind.i64.wrap ((i : Int) + 1) = (i : Int) + 1 := wrap64 (by omega) (by omega)
      have hex1 : ∃ x, (bs s)[i]? = some x := ⟨_, List.getElem?_eq_getElem (by omega)⟩
      obtain ⟨x, hx1⟩ := hex1
      have hxb := inB_bs s x (List.mem_of_getElem? hx1)
      have g1 : indexPV Tryd.prog 24 (.lit (.string s)) (.lit (.int .i64 (i : Int))) = some (.lit (.int .u8 x)) := index_str Tryd.underlying24 s .i64 i x hx1
      obtain ⟨n, rfl⟩ : ∃ n : Nat, x = n := ⟨x.toNat, by omega⟩
      have w3 : IntKind.i64.wrap (n : Int) = n := wrap64 (by omega) (by omega)
      have ht : hexI ((bs s).take (i + 1)) = hexI ((bs s).take i) ++ [dg ((n : Int) / 16), dg ((n : Int) % 16)] := by
        rw [List.take_add_one, hx1]; simp [hexI]
      have l1 : (hexI ((bs s).take i)).length + 2 ≤ 140737488355328 := by rw [hexI_length]; simp; omega
      have q1 : iquo .i64 (n : Int) 16 = (n : Int) / 16 := by
        unfold iquo
        rw [Int.tdiv_eq_ediv_of_nonneg (by omega), wrap64 (by omega) (by omega)]
      have q2 : (n : Int).tmod 16 = (n : Int) % 16 := Int.tmod_eq_emod_of_nonneg (by omega)
      simp -implicitDefEqProofs -dsimp [h1, g1, w3, q1, q2]
      refine CallK.reads ?_
      simp -implicitDefEqProofs -dsimp
      refine CallQ.same (digit_fn2 ((n : Int) / 16) (by omega)) rfl ?_
      simp -implicitDefEqProofs -dsimp [q2, g1, w3, q1]
      refine CallK.reads ?_
      simp -implicitDefEqProofs -dsimp
      refine CallQ.same (digit_fn2 ((n : Int) % 16) (by omega)) rfl ?_
      simp -implicitDefEqProofs -dsimp [l1, w2, q2, g1, w3]
      exact .mk (i + 1) (by omega) (by omega) (by simp -implicitDefEqProofs -dsimp [ht])
    · have e : i = 32 := by omega
      subst e
      have htk : (bs s).take 32 = bs s := List.take_of_length_le (by omega)
      have hin := hexI_in (inB_bs s)
      simp -implicitDefEqProofs -dsimp [htk, hin, hR]
  · have h32' : ¬ (s.size : Int) = 32 := by omega
    have hr : hexR s = ⟨#[]⟩ := by rw [hexR, if_neg h32]
    simp -implicitDefEqProofs -dsimp [Tryd.ntmps14, h32', hr]

set_option maxRecDepth 100000 in
set_option maxHeartbeats 8000000 in
theorem hexlaw_fn (id s : ByteArray) : Fc Tryd.prog 4 [.lit (.string id), .lit (.string s)] [] (.lit (.bool true)) [] := by
  refine Fc.of (anys _ [8, 11, 12, 13, 14]) [] mixed Tryd.func4 rfl (by rfl) (by simp [Tryd.ntmps4]) (by decide) ?_
  simp -implicitDefEqProofs -dsimp [Tryd.ntmps4]
  refine CallK.reads ?_
  simp -implicitDefEqProofs -dsimp
  refine CallQ.same (awake_fn) rfl ?_
  simp -implicitDefEqProofs -dsimp
  by_cases c1 : 100 < (id.size : Int)
  · simp -implicitDefEqProofs -dsimp [c1]
  · by_cases c2 : 100 < (s.size : Int)
    · simp -implicitDefEqProofs -dsimp [c1, c2]
    · simp -implicitDefEqProofs -dsimp [c1, c2]
      refine CallK.reads ?_
      simp -implicitDefEqProofs -dsimp
      refine CallQ.same (parse_fn s (by omega)) rfl ?_
      simp -implicitDefEqProofs -dsimp [plain_tup]
      refine CallK.reads ?_
      simp -implicitDefEqProofs -dsimp
      refine CallQ.same (rparse_fn s (by omega)) rfl ?_
      simp -implicitDefEqProofs -dsimp [plain_tup]
      refine CallK.reads ?_
      simp -implicitDefEqProofs -dsimp
      refine CallQ.same (hex_fn id) rfl ?_
      simp -implicitDefEqProofs -dsimp
      refine CallK.reads ?_
      simp -implicitDefEqProofs -dsimp
      refine CallQ.same (rhex_fn id) rfl ?_
      simp -implicitDefEqProofs -dsimp

theorem hex_law (xs : List PV) (h : ShpAll Tryd.prog 6 Tryd.f4.params.toList xs) : Fc Tryd.prog 4 xs [] (.lit (.bool true)) [] := by
  obtain ⟨x, y, rfl, hx, hy⟩ := shp_args2 h
  obtain ⟨a, rfl, -⟩ := arg_str Tryd.underlying24 hx
  obtain ⟨b, rfl, -⟩ := arg_str Tryd.underlying9 hy
  exact hexlaw_fn a b
end Go.Proofs.YtlbbkaeohpaaiaaDoor

/-! Digests: digits tell an id, and an id its digits. -/
namespace Go.Sy
theorem digV_dg : ∀ n : Nat, n < 16 → digV (dg (n : Int)) = n := by decide +kernel
theorem dg_digV : ∀ n : Nat, n < 256 → 0 ≤ digV (n : Int) → dg (digV (n : Int)) = n := by decide +kernel
theorem prs_hexI {l : List Int} (h : InB l) : prs (hexI l) = some l := by
  induction l with
  | nil => rfl
  | cons c l ih =>
    have hc := h c (by simp)
    have ih := ih fun x hx => h x (by simp [hx])
    obtain ⟨a, ha⟩ : ∃ a : Nat, c / 16 = a := ⟨(c / 16).toNat, by omega⟩
    obtain ⟨b, hb⟩ : ∃ b : Nat, c % 16 = b := ⟨(c % 16).toNat, by omega⟩
    have e : hexI (c :: l) = dg a :: dg b :: hexI l := by rw [← ha, ← hb]; rfl
    have ea := digV_dg a (by omega)
    have eb := digV_dg b (by omega)
    have ep : prB (dg a) (dg b) = c := by
      rw [prB_is (by omega) (by omega) (by omega) (by omega), ea, eb]
      simp [IntKind.wrap, IntKind.signed, IntKind.bits]; omega
    rw [e, prs, ea, eb, if_neg (by omega), ih, ep]; rfl
theorem hexI_prs : ∀ (l m : List Int), InB l → l.length % 2 = 0 → prs l = some m → hexI m = l ∧ InB m
  | [], m, _, _, h => by
    obtain rfl : [] = m := Option.some.inj h
    exact ⟨rfl, by simp [InB]⟩
  | [x], _, _, hl, _ => by simp at hl
  | x :: y :: l, m, hi, hl, h => by
    rw [prs] at h
    split at h
    · cases h
    · rename_i hn
      obtain ⟨m', hm, rfl⟩ := Option.map_eq_some_iff.1 h
      have hx := hi x (by simp)
      have hy := hi y (by simp)
      obtain ⟨e1, e2⟩ := hexI_prs l m' (fun z hz => hi z (by simp [hz])) (by simp at hl; omega) hm
      have rx := digV_range hx
      have ry := digV_range hy
      obtain ⟨a, rfl⟩ : ∃ a : Nat, x = a := ⟨x.toNat, by omega⟩
      obtain ⟨b, rfl⟩ : ∃ b : Nat, y = b := ⟨y.toNat, by omega⟩
      have da := dg_digV a (by omega) (by omega)
      have db := dg_digV b (by omega) (by omega)
      have hp : prB a b = 16 * digV a + digV b := by
        rw [prB_is (by omega) (by omega) (by omega) (by omega)]
        simp [IntKind.wrap, IntKind.signed, IntKind.bits]; omega
      refine ⟨?_, fun z hz => ?_⟩
      · have : hexI (prB a b :: m') = dg (prB a b / 16) :: dg (prB a b % 16) :: hexI m' := rfl
        rw [this, e1, hp, show (16 * digV a + digV b) / 16 = digV a by omega, show (16 * digV a + digV b) % 16 = digV b by omega, da, db]
      · rcases List.mem_cons.1 hz with rfl | hz
        · rw [hp]; omega
        · exact e2 z hz
theorem ofBs_size (l : List Int) : (ofBs l).size = l.length := by simp [ofBs, ByteArray.size]
theorem parse_hex {D : ByteArray} (h : D.size = 32) : parseR (Go.Proofs.YtlbbkaeohpaaiaaDoor.hexR D) = (D, true) := by
  rw [hexR_is h]
  have hi := inB_bs D
  have hs : (ofBs (hexI (bs D))).size = 64 := by rw [ofBs_size, hexI_length, bs_length, h]
  rw [parseR, if_neg (by rw [hs]; simp), bs_ofBs (hexI_in hi), prs_hexI hi]
  simp only [ofBs_bs]
theorem hex_parse {s : ByteArray} (h : (parseR s).2 = true) : Go.Proofs.YtlbbkaeohpaaiaaDoor.hexR (parseR s).1 = s ∧ (parseR s).1.size = 32 := by
  by_cases h64 : s.size = 64
  · cases hp : prs (bs s) with
    | none => rw [parseR, if_neg (by rw [h64]; simp), hp] at h; cases h
    | some m =>
      have e : parseR s = (ofBs m, true) := by rw [parseR, if_neg (by rw [h64]; simp), hp]
      obtain ⟨e1, e2⟩ := hexI_prs (bs s) m (inB_bs s) (by rw [bs_length, h64]) hp
      have hl : m.length = 32 := by
        have := hexI_length m
        rw [e1, bs_length, h64] at this; omega
      rw [e]
      have hs : (ofBs m).size = 32 := by rw [ofBs_size, hl]
      exact ⟨by show Go.Proofs.YtlbbkaeohpaaiaaDoor.hexR (ofBs m) = s; rw [hexR_is hs, bs_ofBs e2, e1, ofBs_bs], hs⟩
  · rw [parseR, if_pos h64] at h; cases h
theorem parse_none {s : ByteArray} (h : (parseR s).2 = false) : (parseR s).1 = ⟨#[]⟩ := by
  by_cases h64 : s.size = 64
  · cases hp : prs (bs s) with
    | none => rw [parseR, if_neg (by rw [h64]; simp), hp]
    | some m => rw [parseR, if_neg (by rw [h64]; simp), hp] at h; cases h
  · rw [parseR, if_pos h64]
theorem digOf_size (b : List Int) : (Go.Proofs.YtlbbkaeohpaaiaaDoor.digOf b).size = 32 := by
  rw [Go.Proofs.YtlbbkaeohpaaiaaDoor.digOf, dig, ofBs_size, outB_length, absB_length (absB_length rfl)]
end Go.Sy
namespace Go.Proofs.YtlbbkaeohpaaiaaDoor
open Go.Sy

set_option maxRecDepth 100000 in
set_option maxHeartbeats 8000000 in
theorem back_fn (nl : Bool) (b : List Int) (s : ByteArray) : Fc Tryd.prog 6 [.sl .imm nl 1 (u8s b), .lit (.string s)] [] (.lit (.bool true)) [] := by
  refine Fc.of (anys _ [8, 9, 11, 13]) [] mixed Tryd.func6 rfl (by rfl) (by simp [Tryd.ntmps6]) (by decide) ?_
  simp -implicitDefEqProofs -dsimp [Tryd.ntmps6]
  refine CallK.reads ?_
  simp -implicitDefEqProofs -dsimp
  refine CallQ.same (awake_fn) rfl ?_
  simp -implicitDefEqProofs -dsimp
  by_cases c1 : 300 < (b.length : Int)
  · simp -implicitDefEqProofs -dsimp [c1]
  · by_cases c2 : 100 < (s.size : Int)
    · simp -implicitDefEqProofs -dsimp [c1, c2]
    · have hD := digOf_size b
      have hp := parse_hex hD
      have hs64 : (hexR (digOf b)).size = 64 := by rw [hexR_is hD, ofBs_size, hexI_length, bs_length, hD]
      simp -implicitDefEqProofs -dsimp [c1, c2]
      refine CallK.reads ?_
      simp -implicitDefEqProofs -dsimp
      refine CallQ.same (of_fn nl b (by omega)) rfl ?_
      simp -implicitDefEqProofs -dsimp
      refine CallK.reads ?_
      simp -implicitDefEqProofs -dsimp
      refine CallQ.same (hex_fn (digOf b)) rfl ?_
      simp -implicitDefEqProofs -dsimp
      refine CallK.reads ?_
      simp -implicitDefEqProofs -dsimp
      refine CallQ.same (parse_fn (hexR (digOf b)) (by omega)) rfl ?_
      simp -implicitDefEqProofs -dsimp [plain_tup, hp]
      by_cases ht : (parseR s).2 = true
      · obtain ⟨h1, h2⟩ := hex_parse ht
        have h3 : ((parseR s).1.size : Int) = 32 := by omega
        refine CallK.reads ?_
        simp -implicitDefEqProofs -dsimp
        refine CallQ.same (parse_fn s (by omega)) rfl ?_
        simp -implicitDefEqProofs -dsimp [plain_tup, hp, ht]
        refine CallK.reads ?_
        simp -implicitDefEqProofs -dsimp
        refine CallQ.same (hex_fn (parseR s).1) rfl ?_
        simp -implicitDefEqProofs -dsimp [h1, h2, h3, ht, hp]
      · have ht' : (parseR s).2 = false := by simpa using ht
        have h1 := parse_none ht'
        refine CallK.reads ?_
        simp -implicitDefEqProofs -dsimp
        refine CallQ.same (parse_fn s (by omega)) rfl ?_
        simp -implicitDefEqProofs -dsimp [plain_tup, hp, ht', h1]

theorem back_law (xs : List PV) (h : ShpAll Tryd.prog 6 Tryd.f6.params.toList xs) : Fc Tryd.prog 6 xs [] (.lit (.bool true)) [] := by
  obtain ⟨x, y, rfl, hx, hy⟩ := shp_args2 h
  obtain ⟨n1, b, rfl, -⟩ := arg_ints (k := .u8) Tryd.underlying22 Tryd.underlying5 (by kernel_rfl) hx
  obtain ⟨s, rfl, -⟩ := arg_str Tryd.underlying9 hy
  exact back_fn n1 b s
end Go.Proofs.YtlbbkaeohpaaiaaDoor
