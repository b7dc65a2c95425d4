/- Written in parts, or at once, a disk has the same. -/
import Derived.Test.YtgpcphddjapceaaDd
namespace Go.Proofs.Ytgpcphddjapceaa
open Go.Sy

theorem wrap_u8 {x m : Int} (h0 : 0 ≤ x) (h : x < 256) (hm : 0 < m) : IntKind.i64.wrap (x.tmod m) = x % m := by
  rw [Int.tmod_eq_emod_of_nonneg h0]
  have h1 := Int.emod_nonneg x (b := m) (by omega)
  have h2 := Int.emod_lt_of_pos x hm
  have h3 : x % m ≤ x := by
    have := Int.mul_ediv_add_emod x m
    have := Int.ediv_nonneg h0 (by omega : 0 ≤ m)
    have := Int.mul_nonneg (by omega : 0 ≤ m) this
    omega
  exact wrap64 (by omega) (by omega)

def D0 (n : Int) : DS := ⟨true, [], n, -1, false⟩
theorem D0_b (n : Int) : (D0 n).b = [] := (rfl)
theorem D0_ok {n : Int} (h : 0 ≤ n) (h2 : n ≤ 16777216) : (D0 n).Ok := by constructor <;> simp [D0] <;> omega

theorem DS.app_ok {s : DS} (h : s.Ok) (ys : List Int) : (s.app ys).2.Ok := by
  obtain ⟨h1, h2, h3, h4, h5, h6⟩ := h
  unfold DS.app DS.left
  split
  · exact ⟨h1, h2, h3, h4, h5, h6⟩
  · split
    · exact ⟨h1, h2, by simp; omega, h4, h5, by simp; intro a b; exact ⟨h6 a, b⟩⟩
    · split
      · exact ⟨h1, h2, by simp; omega, by simp, by simp, by simp; intro a b; exact ⟨h6 a, b⟩⟩
      · exact ⟨h1, h2, by simp; omega, by simp; omega, by simp; omega, by simp; intro a b; exact ⟨h6 a, b⟩⟩
theorem DS.append_ok {s : DS} (h : s.Ok) (ys : List Int) : (s.append ys).2.Ok := by
  unfold DS.append
  split
  · exact h
  · exact DS.app_ok h ys

theorem DS.append_room (s : DS) (ys : List Int) : (s.append ys).2.room = s.room := by
  unfold DS.append DS.app
  repeat (first | rfl | split)
theorem DS.append_plain {s : DS} (hf : s.fuse = -1) (hd : s.dead = false) (ys : List Int) : s.append ys = if s.left < ys.length then (8, s) else (0, { s with nl := s.nl && ys.isEmpty, b := s.b ++ ys }) := by
  simp only [DS.append, DS.app, hf, hd, if_true, if_false, Bool.false_eq_true]

set_option maxRecDepth 100000 in
set_option maxHeartbeats 4000000 in
theorem parts_fn (nl : Bool) (b : List Int) (cut room : Int) (hb : b.length ≤ 9223372036854775807) (hc0 : 0 ≤ cut) (hc : cut < 256) (hr0 : 0 ≤ room) (hr : room < 256) :
    Fc Try.prog 3 [.sl .imm nl 1 (u8s b), .lit (.int .u8 cut), .lit (.int .u8 room)] [] (.lit (.bool true)) [] := by
  refine Fc.of (anys _ [15, 16, 17, 18, 19, 20]) [] mixed Try.func3 rfl (by rfl) (by simp [Try.ntmps3]) (by decide) ?_
  simp -implicitDefEqProofs -dsimp [Try.ntmps3]
  refine CallK.reads ?_
  simp -implicitDefEqProofs -dsimp
  refine CallQ.same (awake_fn) rfl ?_
  simp -implicitDefEqProofs -dsimp
  by_cases h40 : 40 < (b.length : Int)
  · simp -implicitDefEqProofs -dsimp [h40]
  · have hne : (b.length : Int) + 1 ≠ 0 := by omega
    have hn1 : IntKind.i64.wrap (room.tmod 81) = room % 81 := wrap_u8 hr0 hr (by omega)
    have hk0 : IntKind.i64.wrap cut = cut := wrap64 (by omega) (by omega)
    have hk1 : IntKind.i64.wrap ((b.length : Int) + 1) = (b.length : Int) + 1 := wrap64 (by omega) (by omega)
    have hk2 : cut.tmod ((b.length : Int) + 1) = cut % ((b.length : Int) + 1) := Int.tmod_eq_emod_of_nonneg hc0
    have hk3 := Int.emod_nonneg cut (b := (b.length : Int) + 1) (by omega)
    have hk4 := Int.emod_lt_of_pos cut (b := (b.length : Int) + 1) (by omega)
    have hn3 := Int.emod_nonneg room (b := 81) (by omega)
    have hn4 := Int.emod_lt_of_pos room (b := 81) (by omega)
    obtain ⟨n, hn⟩ : ∃ n, n = room % 81 := ⟨_, rfl⟩
    obtain ⟨k, hk⟩ : ∃ k, k = cut % ((b.length : Int) + 1) := ⟨_, rfl⟩
    rw [← hn] at hn1 hn3 hn4
    rw [← hk] at hk2 hk3 hk4
    have hk5 : k ≤ b.length := by omega
    have hD := D0_ok hn3 (by omega)
    simp -implicitDefEqProofs -dsimp [h40, hne, hn1, hk0, hk1, hk2]
    refine CallK.works ?_
    simp -implicitDefEqProofs -dsimp
    refine CallQ.mk (new_fn n hn3 (by omega)) (by simp) ?_
    simp -implicitDefEqProofs -dsimp
    rw [show (⟨true, [], n, -1, false⟩ : DS) = D0 n from rfl]
    refine CallK.works ?_
    simp -implicitDefEqProofs -dsimp
    refine CallQ.mk (new_fn n hn3 (by omega)) (by simp) ?_
    simp -implicitDefEqProofs -dsimp
    rw [show (⟨true, [], n, -1, false⟩ : DS) = D0 n from rfl]
    have hl1 : (b.take k.toNat).length = k.toNat := by simp; omega
    have hl2 : (b.drop k.toNat).length = b.length - k.toNat := by simp
    by_cases hge : (b.length : Int) ≤ n
    · have a1 : (D0 n).append b = (0, ⟨b.isEmpty, b, n, -1, false⟩) := by
        have c1 : ¬ n < b.length := by omega
        simp [DS.append, DS.app, DS.left, D0, c1]
      have a2 : (D0 n).append (b.take k.toNat) = (0, ⟨(b.take k.toNat).isEmpty, b.take k.toNat, n, -1, false⟩) := by
        have c1 : ¬ n < ((b.take k.toNat).length : Int) := by omega
        simp only [DS.append, DS.app, DS.left, D0]
        simp [c1]
        omega
      have a3 : DS.append ⟨(b.take k.toNat).isEmpty, b.take k.toNat, n, -1, false⟩ (b.drop k.toNat) = (0, ⟨(b.take k.toNat).isEmpty && (b.drop k.toNat).isEmpty, b, n, -1, false⟩) := by
        have c1 : ¬ n - ((b.take k.toNat).length : Int) < ((b.drop k.toNat).length : Int) := by omega
        simp only [DS.append, DS.app, DS.left, if_neg c1, List.take_append_drop]
        simp
      have o1 := DS.append_ok hD b
      have o2 := DS.append_ok hD (b.take k.toNat)
      rw [a1] at o1
      rw [a2] at o2
      have o3 := DS.append_ok o2 (b.drop k.toNat)
      rw [a3] at o3
      refine CallK.works ?_
      simp -implicitDefEqProofs -dsimp
      refine CallQ.same (append_fn (D0 n) hD nl b) rfl ?_
      simp -implicitDefEqProofs -dsimp [a1, hk3, hk5]
      refine CallK.works ?_
      simp -implicitDefEqProofs -dsimp
      refine CallQ.same (append_fn (D0 n) hD nl (b.take k.toNat)) rfl ?_
      simp -implicitDefEqProofs -dsimp [a2, hk3, hk5]
      refine CallK.works ?_
      simp -implicitDefEqProofs -dsimp
      refine CallQ.same (append_fn _ o2 nl (b.drop k.toNat)) rfl ?_
      simp -implicitDefEqProofs -dsimp [a3, hge]
      refine CallK.fresh ?_
      simp -implicitDefEqProofs -dsimp
      refine CallQ.same (bytes_fn _ o1) rfl ?_
      simp -implicitDefEqProofs -dsimp [fr_u8s]
      refine CallK.fresh ?_
      simp -implicitDefEqProofs -dsimp
      refine CallQ.same (bytes_fn _ o3) rfl ?_
      simp -implicitDefEqProofs -dsimp [fr_u8s]
      refine CallK.reads ?_
      simp -implicitDefEqProofs -dsimp
      refine CallQ.same (same_fn _ _ _ _ (by omega)) rfl ?_
      simp -implicitDefEqProofs -dsimp
    · have a1 : (D0 n).append b = (8, D0 n) := by
        have c1 : n < b.length := by omega
        simp [DS.append, DS.app, DS.left, D0, c1]
      have a2 : (D0 n).append (b.take k.toNat) = if k ≤ n then (0, ⟨(b.take k.toNat).isEmpty, b.take k.toNat, n, -1, false⟩) else (8, D0 n) := by
        by_cases c : k ≤ n
        · have c1 : ¬ n - 0 < ((b.take k.toNat).length : Int) := by omega
          simp only [DS.append, DS.app, DS.left, D0, List.length_nil, Int.ofNat_zero, if_neg c1, if_pos c]
          simp
        · have c1 : n - 0 < ((b.take k.toNat).length : Int) := by omega
          simp only [DS.append, DS.app, DS.left, D0, List.length_nil, Int.ofNat_zero, if_pos c1, if_neg c]
          simp
      have o2 := DS.append_ok hD (b.take k.toNat)
      obtain ⟨r3, d3, a3⟩ : ∃ r d, ((D0 n).append (b.take k.toNat)).2.append (b.drop k.toNat) = (r, d) := ⟨_, _, rfl⟩
      have o3 := DS.append_ok o2 (b.drop k.toNat)
      have q : ((D0 n).append (b.take k.toNat)).2.fuse = -1 ∧ ((D0 n).append (b.take k.toNat)).2.dead = false := by
        rw [a2]; split <;> simp [D0]
      have f3 : ¬ r3 = 9 := by
        rw [DS.append_plain q.1 q.2] at a3
        split at a3 <;> (cases a3; omega)
      have f4 : (d3.b.length : Int) ≤ n := by
        rw [a3] at o3
        have h1 : (d3.b.length : Int) ≤ d3.room := o3.len
        have h2 := DS.append_room ((D0 n).append (b.take k.toNat)).2 (b.drop k.toNat)
        rw [a3, DS.append_room] at h2
        have h2 : d3.room = n := h2
        omega
      have f5 : decide (((D0 n).append (b.take k.toNat)).1 = 0) = decide (k ≤ n) := by
        rw [a2]; split <;> simp_all
      refine CallK.works ?_
      simp -implicitDefEqProofs -dsimp
      refine CallQ.same (append_fn (D0 n) hD nl b) rfl ?_
      simp -implicitDefEqProofs -dsimp [a1, hk3, hk5]
      refine CallK.works ?_
      simp -implicitDefEqProofs -dsimp
      refine CallQ.same (append_fn (D0 n) hD nl (b.take k.toNat)) rfl ?_
      simp -implicitDefEqProofs -dsimp [hk3, hk5]
      refine CallK.works ?_
      simp -implicitDefEqProofs -dsimp
      refine CallQ.same (append_fn _ o2 nl (b.drop k.toNat)) rfl ?_
      simp -implicitDefEqProofs -dsimp [a3, hge, f5]
      refine CallK.reads ?_
      simp -implicitDefEqProofs -dsimp
      refine CallQ.same (size_fn _) rfl ?_
      simp -implicitDefEqProofs -dsimp [D0_b, f5, f3]
      refine CallK.reads ?_
      simp -implicitDefEqProofs -dsimp
      refine CallQ.same (size_fn _) rfl ?_
      simp -implicitDefEqProofs -dsimp [f4]
end Go.Proofs.Ytgpcphddjapceaa
