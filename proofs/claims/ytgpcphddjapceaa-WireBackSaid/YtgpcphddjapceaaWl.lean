/- The wire's statement WireBack. -/
import Derived.Test.YtgpcphddjapceaaWf
namespace Go.Proofs.Ytgpcphddjapceaa
open Go.Sy

theorem inB_enc (n : Nat) : InB (enc n) := by
  induction n using Nat.strongRecOn with
  | _ n ih =>
    by_cases h : n < 128
    · rw [enc_lt h]; simp; omega
    · rw [enc_ge (by omega), inB_cons]
      exact ⟨by omega, ih _ (by omega)⟩
theorem lead_enc : ∀ (m n : Nat) (c : List Int), (enc n).length ≤ m → lead m (enc n ++ c) + 1 = (enc n).length
  | 0, n, c, h => absurd (enc_ne n) (by simp at h; simp [h])
  | m + 1, n, c, h => by
    by_cases hn : n < 128
    · rw [enc_lt hn, List.cons_append, lead, if_neg (by omega)]; rfl
    · rw [enc_ge (by omega)] at h ⊢
      rw [List.cons_append, lead, if_pos (by omega), lead_enc m (n / 128) c (by simp at h; omega)]; rfl
theorem tk_enc (n : Nat) (h : n < 18446744073709551616) (c : List Int) (hc : InB c) : tk (enc n ++ c) = (n, (enc n).length, 0) := by
  have hl := enc_u64 h
  have e := lead_enc 10 n c hl
  obtain ⟨h1, h2, h3, h4⟩ := lead_spec 10 (enc n ++ c)
  have hb : InB (enc n ++ c) := by rw [inB_append]; exact ⟨inB_enc n, hc⟩
  have hk : lead 10 (enc n ++ c) < (enc n ++ c).length := by simp only [List.length_append]; omega
  have ht : (enc n ++ c).take (lead 10 (enc n ++ c) + 1) = enc n := by rw [e]; simp
  have hf := (form_iff (fun x hx => hb x hx) hk (by omega) (fun i h hi => h3 i h hi) (h4 (by omega) hk)).1 (by rw [ht, val_enc, Nat.mod_eq_of_lt h])
  have hg : (enc n ++ c).getD (lead 10 (enc n ++ c)) 0 = (enc n ++ c)[lead 10 (enc n ++ c)] := by
    rw [List.getD_eq_getElem?_getD, List.getElem?_eq_getElem hk]; rfl
  unfold tk
  rw [hg, if_neg (by omega), if_neg (by omega), if_neg hf, ht, e, val_enc]

theorem num_back (nl : Bool) (n : Nat) (h : n < 18446744073709551616) (c : List Int) (hc : InB c) : WS.num ⟨nl, enc n ++ c, 0⟩ = (n, ⟨nl, c, 0⟩) := by
  simp [WS.num, tk_enc n h c hc]
theorem text_back (nl : Bool) (x c : List Int) (hx : x.length ≤ 40) (hb : InB x) (hc : InB c) : WS.text ⟨nl, enc x.length ++ x ++ c, 0⟩ 40 = ((false, x), ⟨nl, c, 0⟩) := by
  have ht := tk_enc x.length (by omega) (x ++ c) (by rw [inB_append]; exact ⟨hb, hc⟩)
  have h1 : ¬ max 0 (40 : Int) < (x.length : Int) := by omega
  have h2 : ¬ ((enc x.length ++ (x ++ c)).length : Int) - (enc x.length).length < (x.length : Int) := by simp; omega
  simp only [WS.text, List.append_assoc, ht, ne_eq, not_true, if_false, if_neg h1, if_neg h2]
  simp [List.drop_append]

def encs (l : List Int) : List Int := l.flatMap fun n => enc n.toNat
def txts (m : List ByteArray) : List Int := m.flatMap fun s => enc (bs s).length ++ bs s
theorem take_snoc {α : Type} (l : List α) (i : Nat) (h : i < l.length) : l.take (i + 1) = l.take i ++ [l[i]] := by
  rw [List.take_add_one, List.getElem?_eq_getElem h]; rfl
theorem encs_snoc (l : List Int) (i : Nat) (h : i < l.length) : encs (l.take (i + 1)) = encs (l.take i) ++ enc (l[i]).toNat := by
  rw [take_snoc l i h]; simp only [encs, List.flatMap_append, List.flatMap_cons, List.flatMap_nil, List.append_nil]
theorem txts_snoc (l : List ByteArray) (i : Nat) (h : i < l.length) : txts (l.take (i + 1)) = txts (l.take i) ++ (enc (bs l[i]).length ++ bs l[i]) := by
  rw [take_snoc l i h]; simp only [txts, List.flatMap_append, List.flatMap_cons, List.flatMap_nil, List.append_nil]
theorem encs_drop (l : List Int) (i : Nat) (h : i < l.length) : encs (l.drop i) = enc (l[i]).toNat ++ encs (l.drop (i + 1)) := by
  rw [List.drop_eq_getElem_cons h]; rfl
theorem txts_drop (l : List ByteArray) (i : Nat) (h : i < l.length) : txts (l.drop i) = enc (bs l[i]).length ++ bs l[i] ++ txts (l.drop (i + 1)) := by
  rw [List.drop_eq_getElem_cons h]; rfl
theorem inB_encs (l : List Int) : InB (encs l) := by
  intro x hx; simp only [encs, List.mem_flatMap] at hx; obtain ⟨n, -, h⟩ := hx; exact inB_enc _ x h
theorem inB_txts (l : List ByteArray) : InB (txts l) := by
  intro x hx; simp only [txts, List.mem_flatMap, List.mem_append] at hx; obtain ⟨n, -, h⟩ := hx; exact h.elim (inB_enc _ x) (inB_bs _ x)

theorem num_fz (nl : Bool) (b : List Int) (n : Int) (hn : nl = true → b = []) (hb : b.length ≤ 10000000) (h0 : 0 ≤ n) (h : n < 18446744073709551616) :
    Fc Try.prog 30 [.sl .imm nl 1 (u8s b), .lit (.int .u64 n)] [] (.sl .imm false 1 (u8s (b ++ enc n.toNat))) [] := by
  have := (num_fn' nl b n hn hb h0 h).fz [.loc 1070]
  simpa [fzOf] using this
theorem text_fz (nl n2 : Bool) (b x : List Int) (hn : nl = true → b = []) (hb : b.length ≤ 10000000) (hx : x.length ≤ 10000000) :
    Fc Try.prog 32 [.sl .imm nl 1 (u8s b), .sl .imm n2 1 (u8s x)] [] (.sl .imm false 1 (u8s (b ++ (enc x.length ++ x)))) [] := by
  have := (text_fn nl n2 b x hn hb hx).fz [.loc 1090]
  simpa [fzOf] using this

set_option maxRecDepth 100000 in
set_option maxHeartbeats 4000000 in
theorem back_fn (n1 n2 : Bool) (l : List Int) (m : List ByteArray) (hl : ∀ n, n ∈ l → 0 ≤ n ∧ n < 18446744073709551616) :
    Fc Try.prog 14 [.sl .imm n1 1 (ints .u64 l), .sl .imm n2 1 (m.map fun s => .lit (.string s))] [] (.lit (.bool true)) [] := by
  refine Fc.of (anys _ [29, 30, 32, 34, 35, 39, 37, 42]) sch14 mixed Try.func14 rfl (by rfl) (by simp [Try.ntmps14]) (by decide) ?_
  simp -implicitDefEqProofs -dsimp [Try.ntmps14]
  refine CallK.reads ?_
  simp -implicitDefEqProofs -dsimp
  refine CallQ.same (wawake_fn) rfl ?_
  simp -implicitDefEqProofs -dsimp
  by_cases c1 : 20 < (l.length : Int)
  · simp -implicitDefEqProofs -dsimp [c1]
  · by_cases c2 : 20 < (m.length : Int)
    · simp -implicitDefEqProofs -dsimp [c1, c2]
    · simp -implicitDefEqProofs -dsimp [c1, c2]
      refine LpK.mk (anys _ [29, 30, 32, 34, 35, 39, 37, 42]) mixed (fun (i, nb, b) => i ≤ l.length ∧ b = encs (l.take i) ∧ b.length ≤ 10 * i ∧ (nb = true → b = []))
        (fun ((i, nb, b) : Nat × Bool × List Int) => ⟨[(0, .sl .imm n1 1 (ints .u64 l)), (1, .sl .imm n2 1 (m.map fun s => .lit (.string s))), (5, .lit (.bool true)), (6, .sl .imm nb 1 (u8s b)), (7, .lit (.int .i64 i))],
          [], 96⟩) (fun (i, _) => l.length - i) (0, true, [])
        ⟨by simp, rfl, by simp, by simp⟩ (by simp -implicitDefEqProofs -dsimp) ?_
      rintro ⟨i, nb, b⟩ ⟨hi, hb, hbl, hnb⟩
      by_cases hlt : i < l.length
      · have hi1 : IntKind.i64.wrap ((i : Int) + 1) = ((i + 1 : Nat) : Int) := wrap64 (by omega) (by omega)
        have hln := hl _ (List.getElem_mem hlt)
        have he := enc_u64 (n := (l[i]).toNat) (by omega)
        simp -implicitDefEqProofs -dsimp [hlt]
        refine CallK.works ?_
        simp -implicitDefEqProofs -dsimp
        refine CallQ.same (num_fz nb b l[i] hnb (by omega) hln.1 hln.2) rfl ?_
        simp -implicitDefEqProofs -dsimp [hlt, hi1]
        refine .mk (i + 1, false, b ++ enc l[i].toNat) ⟨by omega, by rw [hb, encs_snoc l i hlt], by simp; omega, by simp⟩ (by simp; omega) (by simp -implicitDefEqProofs -dsimp)
      · have hi : i = l.length := by omega
        subst hi
        rw [List.take_length] at hb
        subst hb
        simp -implicitDefEqProofs -dsimp
        refine LpK.mk (anys _ [29, 30, 32, 34, 35, 39, 37, 42]) mixed (fun ((i, nb, b) : Nat × Bool × List Int) => i ≤ m.length ∧ b = encs l ++ txts (m.take i) ∧ b.length ≤ 200 + 50 * i ∧ (nb = true → b = []) ∧ ∀ (j : Nat) (h : j < m.length), j < i → (bs (m[j]'h)).length ≤ 40)
          (fun ((i, nb, b) : Nat × Bool × List Int) => ⟨[(0, .sl .imm n1 1 (ints .u64 l)), (1, .sl .imm n2 1 (m.map fun s => .lit (.string s))), (5, .lit (.bool true)), (6, .sl .imm nb 1 (u8s b)), (8, .lit (.int .i64 i))],
            [], 96⟩) (fun (i, _) => m.length - i) (0, nb, encs l)
          (by exact ⟨by simp, by simp [txts], by omega, hnb, by simp⟩) (by simp -implicitDefEqProofs -dsimp) ?_
        rintro ⟨i, nb, b⟩ ⟨hi, hb, hbl, hnb, hms⟩
        by_cases hlt : i < m.length
        · have hi1 : IntKind.i64.wrap ((i : Int) + 1) = ((i + 1 : Nat) : Int) := wrap64 (by omega) (by omega)
          by_cases h40 : 40 < ((m[i]).size : Int)
          · simp -implicitDefEqProofs -dsimp [hlt, h40]
          · have h41 : (bs m[i]).length ≤ 40 := by rw [bs_length]; omega
            have h42 : (m[i]).size ≤ 140737488355328 := by omega
            have he := enc_u64 (n := (bs m[i]).length) (by omega)
            simp -implicitDefEqProofs -dsimp [hlt, h40, h42]
            refine CallK.works ?_
            simp -implicitDefEqProofs -dsimp
            refine CallQ.same (text_fz nb false b (bs m[i]) hnb (by omega) (by omega)) rfl ?_
            simp -implicitDefEqProofs -dsimp [hlt, hi1]
            refine .mk (i + 1, false, b ++ (enc (bs m[i]).length ++ bs m[i])) ⟨by omega, by rw [hb, txts_snoc m i hlt, List.append_assoc], by simp only [List.length_append]; omega, by simp, fun j h hj => ?_⟩ (by simp; omega) (by simp -implicitDefEqProofs -dsimp)
            by_cases hji : j = i
            · subst hji; exact h41
            · exact hms j h (by omega)
        · have hi : i = m.length := by omega
          subst hi
          rw [List.take_length] at hb
          simp -implicitDefEqProofs -dsimp
          refine CallK.works ?_
          simp -implicitDefEqProofs -dsimp
          refine CallQ.mk (open_fn nb b hnb (by omega)) (by simp) ?_
          simp -implicitDefEqProofs -dsimp
          refine LpK.mk (anys _ [29, 30, 32, 34, 35, 39, 37, 42]) mixed (fun (i, w) => i ≤ l.length ∧ w = ⟨nb, encs (l.drop i) ++ txts m, 0⟩ ∧ w.Ok)
            (fun ((i, w) : Nat × WS) => ⟨[(0, .sl .imm n1 1 (ints .u64 l)), (1, .sl .imm n2 1 (m.map fun s => .lit (.string s))), (5, .lit (.bool true)), (9, .ptr 1550 0), (10, .lit (.int .i64 i))],
              [(1550, .cells (wcells w))], 96⟩) (fun (i, _) => l.length - i) (0, ⟨nb, b, 0⟩)
            ⟨by simp, by simp [hb], ⟨hnb, by rw [hb, inB_append]; exact ⟨inB_encs l, inB_txts m⟩, by simp; omega⟩⟩ (by simp -implicitDefEqProofs -dsimp) ?_
          rintro ⟨i, w⟩ ⟨hi, hwe, hw⟩
          by_cases hlt : i < l.length
          · have hi1 : IntKind.i64.wrap ((i : Int) + 1) = ((i + 1 : Nat) : Int) := wrap64 (by omega) (by omega)
            have hln := hl _ (List.getElem_mem hlt)
            have e : w.num = ((l[i]).toNat, ⟨nb, encs (l.drop (i + 1)) ++ txts m, 0⟩) := by
              rw [hwe, encs_drop l i hlt, List.append_assoc, num_back nb _ (by omega) _ (by rw [inB_append]; exact ⟨inB_encs _, inB_txts m⟩)]
            have e2 : (((l[i]).toNat : Nat) : Int) = l[i] := by omega
            have hw2 := WS.num_ok hw
            rw [e] at hw2
            simp -implicitDefEqProofs -dsimp [hlt]
            refine CallK.works ?_
            simp -implicitDefEqProofs -dsimp
            refine CallQ.same (wnum_fn w hw) rfl ?_
            simp -implicitDefEqProofs -dsimp [hlt, hi1, e, e2]
            refine .mk (i + 1, ⟨nb, encs (l.drop (i + 1)) ++ txts m, 0⟩) ⟨by omega, rfl, hw2⟩ (by simp; omega) (by simp -implicitDefEqProofs -dsimp)
          · have hi : i = l.length := by omega
            subst hi
            have hwe2 : w = ⟨nb, txts m, 0⟩ := by rw [hwe]; simp [encs]
            subst hwe2
            simp -implicitDefEqProofs -dsimp
            refine LpK.mk (anys _ [29, 30, 32, 34, 35, 39, 37, 42]) mixed (fun (i, w) => i ≤ m.length ∧ w = ⟨nb, txts (m.drop i), 0⟩ ∧ w.Ok)
              (fun ((i, w) : Nat × WS) => ⟨[(0, .sl .imm n1 1 (ints .u64 l)), (1, .sl .imm n2 1 (m.map fun s => .lit (.string s))), (5, .lit (.bool true)), (9, .ptr 1550 0), (11, .lit (.int .i64 i))],
                [(1550, .cells (wcells w))], 96⟩) (fun (i, _) => m.length - i) (0, ⟨nb, txts m, 0⟩)
              ⟨by simp, by simp, hw⟩ (by simp -implicitDefEqProofs -dsimp) ?_
            rintro ⟨i, w⟩ ⟨hi, hwe, hw⟩
            by_cases hlt : i < m.length
            · have hi1 : IntKind.i64.wrap ((i : Int) + 1) = ((i + 1 : Nat) : Int) := wrap64 (by omega) (by omega)
              have e : w.text 40 = ((false, bs m[i]), ⟨nb, txts (m.drop (i + 1)), 0⟩) := by
                rw [hwe, txts_drop m i hlt, text_back nb _ _ (hms i hlt hlt) (inB_bs _) (inB_txts _)]
              have hw2 := WS.text_ok hw 40
              rw [e] at hw2
              simp -implicitDefEqProofs -dsimp [hlt]
              refine CallK.works ?_
              simp -implicitDefEqProofs -dsimp
              refine CallQ.same (wtext_fn w hw 40 (by omega) (by omega)) rfl ?_
              simp -implicitDefEqProofs -dsimp [hlt, hi1, e, inB_bs, ofBs_bs]
              refine .mk (i + 1, ⟨nb, txts (m.drop (i + 1)), 0⟩) ⟨by omega, rfl, hw2⟩ (by simp; omega) (by simp -implicitDefEqProofs -dsimp)
            · have hi : i = m.length := by omega
              subst hi
              have hwe2 : w = ⟨nb, [], 0⟩ := by rw [hwe]; simp [txts]
              subst hwe2
              simp -implicitDefEqProofs -dsimp
              refine CallK.reads ?_
              simp -implicitDefEqProofs -dsimp
              refine CallQ.same (end_fn _) rfl ?_
              simp -implicitDefEqProofs -dsimp [WS.fin]
              refine CallK.reads ?_
              simp -implicitDefEqProofs -dsimp
              refine CallQ.same (wleft_fn _) rfl ?_
              simp -implicitDefEqProofs -dsimp
end Go.Proofs.Ytgpcphddjapceaa
