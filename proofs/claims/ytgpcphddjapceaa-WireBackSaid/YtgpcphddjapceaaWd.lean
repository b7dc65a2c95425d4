/- The wire: the document's readers. -/
import Derived.Test.YtgpcphddjapceaaWc
namespace Go.Sy
/-- A contract holds of arguments that say more. -/
theorem Fc.args {P : Program} {k : FuncId} {xs ys : List PV} {h : List (Nat × Ob)} {x : PV} {h1 : List (Nat × Ob)} (hf : Fc P k xs h x h1) (hw : weakL ys xs) : Fc P k ys h x h1 := by
  refine ⟨hf.ok, fun g w vs a1 a2 a3 => hf.run g w vs a1 a2 ⟨?_, fun i y u hy hu => ?_⟩⟩
  · rw [a3.1, (weakL_get hw).1]
  · obtain ⟨z, hz, hw2⟩ := (weakL_get hw).2 i y hy
    exact hw2.rep (a3.2 i z u hz hu)
end Go.Sy
namespace Go.Proofs.Ytgpcphddjapceaa
open Go.Sy

/-- What the document's reader has. -/
structure RR where
  nl : Bool
  b : List Int
  pos : Nat
  fail : Int
def rcells (s : RR) : List PV := [.sl .imm s.nl 1 (u8s s.b), .lit (.int .i64 s.pos), .lit (.int .i64 s.fail)]
def rcellsO (s : RR) : Option Own → List PV
  | some o => [.sl o s.nl 1 (u8s s.b), .lit (.int .i64 s.pos), .lit (.int .i64 s.fail)]
  | none => [.dead, .lit (.int .i64 s.pos), .lit (.int .i64 s.fail)]
@[simp] theorem rcellsO_imm (s : RR) : rcellsO s (some .imm) = rcells s := (rfl)
@[simp ↓] theorem rr_scrub (F : Own → Option Own) (p : Nat → Option Nat) (s : RR) : PV.scrubL F p (rcells s) = rcellsO s (F .imm) := by
  simp only [rcells, PV.scrubL, PV.scrub, rcellsO]
  cases F .imm <;> rfl
@[simp ↓] theorem rr_lend (s : RR) : lendCells (rcells s) = some (rcells s) := by
  simp [rcells, lendCells, lendCell, Value.oneCell']
@[simp ↓] theorem rr_ids (s : RR) : idsOfL (rcells s) = [] := by simp [rcells]
@[simp ↓] theorem rr_toks (s : RR) : toksOfL (rcells s) = [] := by simp [rcells]
@[simp] theorem rr_get0 (s : RR) : (rcells s)[0]? = some (.sl .imm s.nl 1 (u8s s.b)) := rfl
@[simp] theorem rr_get1 (s : RR) : (rcells s)[1]? = some (.lit (.int .i64 s.pos)) := rfl
@[simp] theorem rr_get2 (s : RR) : (rcells s)[2]? = some (.lit (.int .i64 s.fail)) := rfl

@[simp] theorem rr_len (s : RR) : (rcells s).length = 3 := rfl
@[simp] theorem rr_tail (s : RR) : (rcells s).tail = [.lit (.int .i64 s.pos), .lit (.int .i64 s.fail)] := rfl
@[simp] theorem rr_drop1 (s : RR) : (rcells s).drop 1 = [.lit (.int .i64 s.pos), .lit (.int .i64 s.fail)] := rfl
@[simp] theorem rr_drop2 (s : RR) : (rcells s).drop 2 = [.lit (.int .i64 s.fail)] := rfl

structure RR.Ok (s : RR) : Prop where
  bytes : InB s.b
  pos : s.pos ≤ s.b.length
  len : s.b.length ≤ 1000000

set_option maxRecDepth 100000 in
theorem rleft_fn (s : RR) (hs : s.Ok) : Fc Try.prog 41 [.cur .imm (rcells s)] [] (.lit (.int .i64 ((s.b.length : Int) - s.pos))) [] := by
  have h1 := hs.pos
  have h2 := hs.len
  have hw : IntKind.i64.wrap ((s.b.length : Int) - (s.pos : Int)) = (s.b.length : Int) - s.pos := wrap64 (by omega) (by omega)
  refine Fc.of (anys _ []) sch41 mixed Try.func41 rfl (by rfl) (by simp [Try.ntmps41]) (by decide) ?_
  simp -implicitDefEqProofs -dsimp [Try.ntmps41, rcells, hw]

theorem rnil_fn (n : Nat) (h : n < 18446744073709551616) : Fc Try.prog 31 [.sl .imm true 0 [], .lit (.int .u64 n)] [] (.sl (.own (.loc 6)) false 1 (u8s (enc n))) [] := by
  have := rnum_fn true [] n (by simp) h
  exact this.args (by simp)

set_option maxRecDepth 100000 in
set_option maxHeartbeats 4000000 in
theorem next_fn (s : RR) (hs : s.Ok) : Fc Try.prog 53 [.cur .imm (rcells s)] [] (.tup [.lit (.int .u64 (tk (s.b.drop s.pos)).1), .lit (.int .i64 (tk (s.b.drop s.pos)).2.1), .lit (.int .i64 (tk (s.b.drop s.pos)).2.2)]) [] := by
  have h1 := hs.pos
  have h2 := hs.len
  have hb := hs.bytes
  obtain ⟨D, hD⟩ : ∃ D, D = s.b.drop s.pos := ⟨_, rfl⟩
  have hDl : D.length = s.b.length - s.pos := by rw [hD]; simp
  have hDb : InB D := by rw [hD]; exact hb.drop _
  have hDg : ∀ (j : Nat) (h : j < D.length), s.b[s.pos + j]? = some D[j] := fun j h => by
    rw [← List.getElem?_drop, ← hD]; exact List.getElem?_eq_getElem h
  rw [← hD]
  refine Fc.of (anys _ [41, 31, 18]) sch53 mixed Try.func53 rfl (by rfl) (by simp [Try.ntmps53]) (by decide) ?_
  simp -implicitDefEqProofs -dsimp [Try.ntmps53]
  refine LpK.mk (anys _ [41]) mixed (fun k : Nat => k ≤ 10 ∧ k ≤ D.length ∧ ∀ (j : Nat) (h : j < D.length), j < k → 128 ≤ D[j]) (fun k => ⟨[(0, .cur .imm (rcells s)), (5, .lit (.int .i64 k))], [], 86⟩) (fun k => 10 - k) 0 ⟨by omega, by omega, fun j _ h => by omega⟩ (by simp -implicitDefEqProofs -dsimp) ?_
  rintro k ⟨hk1, hk2, hall⟩
  have hw1 : IntKind.i64.wrap ((k : Int) + 1) = (k : Int) + 1 := wrap64 (by omega) (by omega)
  by_cases hkl : k = D.length
  · have c1 : ¬ (k : Int) < (s.b.length : Int) - (s.pos : Int) := by omega
    have c2 : (k : Int) = (s.b.length : Int) - (s.pos : Int) := by omega
    have hlead : lead 10 D = k := lead_eq hk1 hk2 hall (fun _ h => by omega)
    simp -implicitDefEqProofs -dsimp
    refine CallK.reads ?_
    simp -implicitDefEqProofs -dsimp
    refine CallQ.same (rleft_fn s hs) rfl ?_
    simp -implicitDefEqProofs -dsimp [c1]
    by_cases h10 : k = 10
    · have c3 : (k : Int) = 10 := by omega
      have hT : tk D = (0, 0, 3) := by simp [tk, hlead, h10]
      simp -implicitDefEqProofs -dsimp [c3, hT]
    · have c3 : ¬ (k : Int) = 10 := by omega
      have hT : tk D = (0, 0, 2) := by
        have : ¬ D.length = 10 := by omega
        simp only [tk, hlead, hkl, this, if_false, if_true]
      simp -implicitDefEqProofs -dsimp [c3]
      refine CallK.reads ?_
      simp -implicitDefEqProofs -dsimp
      refine CallQ.same (rleft_fn s hs) rfl ?_
      simp -implicitDefEqProofs -dsimp
      simp -implicitDefEqProofs -dsimp [c2, hT]
  · have c1 : (k : Int) < (s.b.length : Int) - (s.pos : Int) := by omega
    have c2 : ¬ (k : Int) = (s.b.length : Int) - (s.pos : Int) := by omega
    have hkD : k < D.length := by omega
    by_cases h10 : k = 10
    · have c3 : ¬ (k : Int) < 10 := by omega
      have c4 : decide ((k : Int) = 10) = true := by simp; omega
      have hlead : lead 10 D = k := lead_eq hk1 hk2 hall (fun h => by omega)
      have hT : tk D = (0, 0, 3) := by simp [tk, hlead, h10]
      simp -implicitDefEqProofs -dsimp
      refine CallK.reads ?_
      simp -implicitDefEqProofs -dsimp
      refine CallQ.same (rleft_fn s hs) rfl ?_
      simp -implicitDefEqProofs -dsimp [c1, c3]
      simp -implicitDefEqProofs -dsimp [c4, hT]
    · have c3 : (k : Int) < 10 := by omega
      have c4 : ¬ (k : Int) = 10 := by omega
      have c5 : IntKind.i64.wrap ((s.pos : Int) + (k : Int)) = (s.pos : Int) + (k : Int) := wrap64 (by omega) (by omega)
      have c6 : ((s.pos : Int) + (k : Int)).toNat = s.pos + k := by omega
      have c7 := hDg k hkD
      have c8 : (0 : Int) ≤ (s.pos : Int) + (k : Int) := by omega
      by_cases hx : 127 < D[k]
      · simp -implicitDefEqProofs -dsimp
        refine CallK.reads ?_
        simp -implicitDefEqProofs -dsimp
        refine CallQ.same (rleft_fn s hs) rfl ?_
        simp -implicitDefEqProofs -dsimp [c1, c3, rcells, c5, c6, c7, c8, hx, hw1]
        exact .mk (k + 1) ⟨by omega, by omega, fun j h hj => by
          rcases Nat.lt_or_ge j k with h' | h'
          · exact hall j h h'
          · have : j = k := by omega
            subst this
            omega⟩ (by omega) (by simp -implicitDefEqProofs -dsimp [rcells])
      · have hx0 : D[k] < 128 := by omega
        have hlead : lead 10 D = k := lead_eq hk1 hk2 hall (fun _ _ => hx0)
        have hform := form_iff (fun x hx => hDb x hx) hkD (by omega) hall hx0
        have hgd : D.getD k 0 = D[k] := by rw [List.getD_eq_getElem?_getD, List.getElem?_eq_getElem hkD]; rfl
        have hlt : val (D.take (k + 1)) % 18446744073709551616 < 18446744073709551616 := Nat.mod_lt _ (by omega)
        simp -implicitDefEqProofs -dsimp
        refine CallK.reads ?_
        simp -implicitDefEqProofs -dsimp
        refine CallQ.same (rleft_fn s hs) rfl ?_
        simp -implicitDefEqProofs -dsimp [c1, c3, rcells, c5, c6, c7, c8, hx, hw1]
        simp -implicitDefEqProofs -dsimp [c4]
        refine CallK.reads ?_
        simp -implicitDefEqProofs -dsimp
        have hrl := rleft_fn s hs
        simp only [rcells] at hrl
        refine CallQ.same hrl rfl ?_
        simp -implicitDefEqProofs -dsimp [c2]
        refine LpK.mk (anys _ []) mixed (fun t : Nat => t ≤ k + 1) (fun t => ⟨[(0, .cur .imm (rcells s)), (5, .lit (.int .i64 k)), (6, .lit (.int .u64 ((val ((D.take (k + 1)).drop t) % 18446744073709551616 : Nat) : Int))), (7, .lit (.int .i64 ((t : Int) - 1)))], [], 86⟩) (fun t => t) (k + 1) (Nat.le_refl _) ?_ ?_
        · simp -implicitDefEqProofs -dsimp [rcells, val]
        rintro t ht
        have hlenT : (D.take (k + 1)).length = k + 1 := by rw [List.length_take]; omega
        by_cases ht0 : t = 0
        · have q1 : ¬ (0 : Int) ≤ (t : Int) - 1 := by omega
          subst ht0
          rw [List.drop_zero]
          obtain ⟨m, hm⟩ : ∃ m, m = val (D.take (k + 1)) % 18446744073709551616 := ⟨_, rfl⟩
          rw [← hm] at hlt hform ⊢
          have e1 : IntKind.i64.wrap ((s.pos : Int) + (k : Int) + 1) = (s.pos : Int) + (k : Int) + 1 := wrap64 (by omega) (by omega)
          have e2 : (s.pos : Int) ≤ (s.pos : Int) + (k : Int) + 1 := by omega
          have e3 : (s.pos : Int) + (k : Int) + 1 ≤ s.b.length := by omega
          have e4 : ((s.pos : Int) + (k : Int) + 1).toNat = s.pos + k + 1 := by omega
          have e5 : (s.b.take (s.pos + k + 1)).drop s.pos = D.take (k + 1) := by rw [hD, List.drop_take]; congr 1; omega
          have hel := enc_u64 hlt
          simp -implicitDefEqProofs -dsimp [q1, rcells, c5, e1, e2, e3, e4, e5]
          refine CallK.fresh ?_
          simp -implicitDefEqProofs -dsimp
          refine CallQ.same (rnil_fn m hlt) rfl ?_
          simp -implicitDefEqProofs -dsimp [fr_u8s, rcells, c5, e1, e2, e3, e4, e5]
          refine CallK.reads ?_
          simp -implicitDefEqProofs -dsimp
          refine CallQ.same (same_fn _ _ (enc m) (D.take (k + 1)) (by omega)) rfl ?_
          simp -implicitDefEqProofs -dsimp
          by_cases hbad : (0 < k ∧ D[k] = 0) ∨ (k = 9 ∧ 1 < D[k])
          · have hne : ¬ enc m = D.take (k + 1) := fun e => (hform.1 e) hbad
            have hT : tk D = (0, 0, 3) := by
              have n1 : ¬ k = D.length := hkl
              simp only [tk, hlead, hgd, if_neg h10, if_neg n1, if_pos hbad]
            simp -implicitDefEqProofs -dsimp [hne, hT]
          · have hye : enc m = D.take (k + 1) := hform.2 hbad
            have hT : tk D = (val (D.take (k + 1)), k + 1, 0) := by
              have n1 : ¬ k = D.length := hkl
              simp only [tk, hlead, hgd, if_neg h10, if_neg n1, if_neg hbad]
            have hmv : m = val (D.take (k + 1)) := by rw [← hye, val_enc]
            rw [← hmv] at hT
            simp -implicitDefEqProofs -dsimp [hye, hT, hw1]
        · obtain ⟨u, rfl⟩ : ∃ u, t = u + 1 := ⟨t - 1, by omega⟩
          have huD : u < D.length := by omega
          have q1 : (0 : Int) ≤ ((u + 1 : Nat) : Int) - 1 := by omega
          have q2 : ((u + 1 : Nat) : Int) - 1 = (u : Int) := by omega
          have hu := hDb _ (List.getElem_mem huD)
          have e1 : IntKind.i64.wrap ((s.pos : Int) + (u : Int)) = (s.pos : Int) + (u : Int) := wrap64 (by omega) (by omega)
          have e2 : (0 : Int) ≤ (s.pos : Int) + (u : Int) := by omega
          have e3 : ((s.pos : Int) + (u : Int)).toNat = s.pos + u := by omega
          have e4 := hDg u huD
          have e5 : D[u].tmod 128 = D[u] % 128 := Int.tmod_eq_emod_of_nonneg hu.1
          have e6 : IntKind.u64.wrap (D[u] % 128) = D[u] % 128 := by rw [wrap_is_u64]; omega
          have e7 : IntKind.i64.wrap ((u : Int) - 1) = (u : Int) - 1 := wrap64 (by omega) (by omega)
          have e9 : (D.take (k + 1)).drop u = D[u] :: (D.take (k + 1)).drop (u + 1) := by
            have hu2 : u < (D.take (k + 1)).length := by omega
            rw [List.drop_eq_getElem_cons hu2, List.getElem_take]
          have e8 : IntKind.u64.wrap (IntKind.u64.wrap (128 * ((val ((D.take (k + 1)).drop (u + 1)) % 18446744073709551616 : Nat) : Int)) + D[u] % 128) = ((val ((D.take (k + 1)).drop u) % 18446744073709551616 : Nat) : Int) := by
            rw [wrap_is_u64, wrap_is_u64, e9, val]
            omega
          generalize hV : ((val ((D.take (k + 1)).drop (u + 1)) % 18446744073709551616 : Nat) : Int) = V at *
          simp -implicitDefEqProofs -dsimp [q2, rcells, e1, e2, e3, e4, e5, e6, e7, e8]
          exact .mk u (by omega) (by omega) (by simp -implicitDefEqProofs -dsimp [rcells])
end Go.Proofs.Ytgpcphddjapceaa
