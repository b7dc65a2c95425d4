/- Bits of numbers. -/
import Derived.Test.YtgpcphddjapceaaW0
namespace Go.Sy

theorem wrap_is_u8 (n : Int) : IntKind.u8.wrap n = n % 256 := by simp [IntKind.wrap, IntKind.signed, IntKind.bits]
theorem wrap_is_u16 (n : Int) : IntKind.u16.wrap n = n % 65536 := by simp [IntKind.wrap, IntKind.signed, IntKind.bits]
theorem wrap_is_u32 (n : Int) : IntKind.u32.wrap n = n % 4294967296 := by simp [IntKind.wrap, IntKind.signed, IntKind.bits]
theorem wrap_is_u64 (n : Int) : IntKind.u64.wrap n = n % 18446744073709551616 := by simp [IntKind.wrap, IntKind.signed, IntKind.bits]

theorem ofInt_toNat {w : Nat} {n : Int} (h0 : 0 ≤ n) (h : n < 2 ^ w) : (BitVec.ofInt w n).toNat = n.toNat := by
  rw [BitVec.toNat_ofInt]
  congr 1
  rw [Int.emod_eq_of_lt h0]
  exact_mod_cast h

theorem iand_nat {k : IntKind} (hk : k.signed = false) {a b : Int} (ha : 0 ≤ a) (ha2 : a < 2 ^ k.bits) (hb : 0 ≤ b) (hb2 : b < 2 ^ k.bits) : iand k a b = ((a.toNat &&& b.toNat : Nat) : Int) := by
  have h : (BitVec.ofInt k.bits a &&& BitVec.ofInt k.bits b).toNat = a.toNat &&& b.toNat := by rw [BitVec.toNat_and, ofInt_toNat ha ha2, ofInt_toNat hb hb2]
  unfold iand
  rw [h]
  have h2 : a.toNat &&& b.toNat < 2 ^ k.bits := by rw [← h]; exact BitVec.isLt _
  simp only [IntKind.wrap, hk, Bool.false_and, Bool.false_eq_true, if_false]
  exact Int.emod_eq_of_lt (by omega) (by exact_mod_cast h2)
theorem ior_nat {k : IntKind} (hk : k.signed = false) {a b : Int} (ha : 0 ≤ a) (ha2 : a < 2 ^ k.bits) (hb : 0 ≤ b) (hb2 : b < 2 ^ k.bits) : ior k a b = ((a.toNat ||| b.toNat : Nat) : Int) := by
  have h : (BitVec.ofInt k.bits a ||| BitVec.ofInt k.bits b).toNat = a.toNat ||| b.toNat := by rw [BitVec.toNat_or, ofInt_toNat ha ha2, ofInt_toNat hb hb2]
  unfold ior
  rw [h]
  have h2 : a.toNat ||| b.toNat < 2 ^ k.bits := by rw [← h]; exact BitVec.isLt _
  simp only [IntKind.wrap, hk, Bool.false_and, Bool.false_eq_true, if_false]
  exact Int.emod_eq_of_lt (by omega) (by exact_mod_cast h2)
theorem ixor_nat {k : IntKind} (hk : k.signed = false) {a b : Int} (ha : 0 ≤ a) (ha2 : a < 2 ^ k.bits) (hb : 0 ≤ b) (hb2 : b < 2 ^ k.bits) : ixor k a b = ((a.toNat ^^^ b.toNat : Nat) : Int) := by
  have h : (BitVec.ofInt k.bits a ^^^ BitVec.ofInt k.bits b).toNat = a.toNat ^^^ b.toNat := by rw [BitVec.toNat_xor, ofInt_toNat ha ha2, ofInt_toNat hb hb2]
  unfold ixor
  rw [h]
  have h2 : a.toNat ^^^ b.toNat < 2 ^ k.bits := by rw [← h]; exact BitVec.isLt _
  simp only [IntKind.wrap, hk, Bool.false_and, Bool.false_eq_true, if_false]
  exact Int.emod_eq_of_lt (by omega) (by exact_mod_cast h2)

theorem iand_127 {x : Int} (h0 : 0 ≤ x) (h : x < 256) : iand .u8 x 127 = x % 128 := by
  rw [iand_nat rfl h0 (by simpa [IntKind.bits] using h) (by omega) (by decide)]
  have := Nat.and_two_pow_sub_one_eq_mod x.toNat 7
  have e : ((127 : Int).toNat) = 2 ^ 7 - 1 := rfl
  rw [e, this]; omega
set_option maxRecDepth 100000 in
theorem ior_128 {n : Int} (h0 : 0 ≤ n) (h : n < 256) : ior .u8 n 128 = n % 128 + 128 := by
  rw [ior_nat rfl h0 (by simpa [IntKind.bits] using h) (by omega) (by decide)]
  have key : ∀ m : Fin 256, (m.val ||| 128) = m.val % 128 + 128 := by decide
  have := key ⟨n.toNat, by omega⟩
  simp only at this
  have e : ((128 : Int).toNat) = 128 := rfl
  rw [e, this]; omega
theorem ishr_7 {n : Int} : ishr .u64 n 7 = n / 128 := by
  unfold ishr
  rw [Int.fdiv_eq_ediv_of_nonneg _ (by simp [IntKind.bits])]
  rfl
/-- What stands higher up is put behind. -/
theorem ior_add {a y s : Nat} (ha : a < 2 ^ s) (h : y * 2 ^ s < 18446744073709551616) (ha2 : a < 18446744073709551616) : ior .u64 (a : Int) ((y * 2 ^ s : Nat) : Int) = ((a + y * 2 ^ s : Nat) : Int) := by
  rw [ior_nat rfl (by omega) (by simp [IntKind.bits]; omega) (by omega) (by simp only [IntKind.bits]; omega)]
  have := Nat.shiftLeft_add_eq_or_of_lt ha y
  rw [Nat.shiftLeft_eq] at this
  simp only [Int.toNat_natCast]
  rw [Nat.or_comm, ← this, Nat.add_comm]
theorem ishl_u64 {y : Int} {s : Nat} (hs : s ≤ 64) : ishl .u64 y s = (y * 2 ^ s) % 18446744073709551616 := by
  unfold ishl
  rw [wrap_is_u64]
  have : min (s : Int).toNat IntKind.u64.bits = s := by simp [IntKind.bits]; omega
  rw [this]
end Go.Sy
namespace Go.Sy
/-- What a call leaves may be held as memory that turns no more. -/
theorem Fc.fz {P : Program} {k : FuncId} {as : List PV} {h : List (Nat × Ob)} {x : PV} {h1 : List (Nat × Ob)} (hf : Fc P k as h x h1) (ts : List Tk) : Fc P k as h (x.scrub (Ffz (fzOf ts)) some) (scrubO (Ffz (fzOf ts)) some h1) := by
  refine ⟨hf.ok, fun g w vs a1 a2 a3 => CallsIn.mono (hf.run g w vs a1 a2 a3) ?_⟩
  rintro e w' ⟨v, y, g', h', rfl, ⟨rfl, rfl⟩, b1, b2, b3, b4⟩
  have hs0 : Sim g' ⟨[], h', 0⟩ ⟨#[], []⟩ w' := ⟨fun s => by show Rep g' w' .dead _; exact .dead _, rfl, b2⟩
  exact ⟨v, _, g'.fz (fzOf ts), _, rfl, ⟨rfl, rfl⟩, b1.scrub (Turns.fz g' (fzOf ts) w'), (hs0.fz (fzOf ts)).heap, b3.fz _, b4.trans (Ext.fz g' _ w')⟩
end Go.Sy
