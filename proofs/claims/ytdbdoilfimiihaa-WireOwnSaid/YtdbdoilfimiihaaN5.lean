/- The evaluations of the regions that draw their order, and the types' facts (printed by a program of ours). (and what stands on it) -/
import Derived.Test.YtdbdoilfimiihaaN3
import Derived.Test.YtdbdoilfimiihaaProg
import Derived.KernelRfl
set_option linter.unusedSimpArgs false
set_option linter.unusedVariables false

/-! The evaluations of the regions that draw their order, and the types' facts (printed by a program of ours). -/
namespace Go.Proofs.Ytdbdoilfimiihaa
open Go.Sy
def sch9 : List (Nat × Go.Sy.Sch) := [(6, ⟨[0, 0, 3, 7, 0, 0, 48, 112, 255], [(true, 0), (true, 1), (true, 2), (true, 3), (true, 4), (true, 5), (true, 6), (true, 7), (true, 8)], .fin⟩)]
@[simp] theorem lk9_6 : lookS sch9 6 = some ⟨[0, 0, 3, 7, 0, 0, 48, 112, 255], [(true, 0), (true, 1), (true, 2), (true, 3), (true, 4), (true, 5), (true, 6), (true, 7), (true, 8)], .fin⟩ := (rfl)
def sch15 : List (Nat × Go.Sy.Sch) := [(9, ⟨[0, 0, 2, 6, 14, 0, 0, 126, 254, 0, 512, 1536, 3584, 0, 15872, 510, 65535, 131071, 262143], [(true, 0), (true, 1), (true, 2), (true, 3), (true, 4), (true, 5), (true, 6), (true, 7), (true, 9), (true, 10), (true, 11), (true, 12), (true, 13), (true, 14)], (.alt 8 [(false, 0), (false, 9), (false, 10), (false, 11), (false, 12), (false, 13), (false, 14)] (.alt 15 [(false, 0), (false, 9), (false, 10), (false, 11), (false, 12), (false, 13), (false, 14), (true, 16), (true, 17)] (.alt 18 [] .fin .nil) .nil) .nil)⟩)]
@[simp] theorem lk15_9 : lookS sch15 9 = some ⟨[0, 0, 2, 6, 14, 0, 0, 126, 254, 0, 512, 1536, 3584, 0, 15872, 510, 65535, 131071, 262143], [(true, 0), (true, 1), (true, 2), (true, 3), (true, 4), (true, 5), (true, 6), (true, 7), (true, 9), (true, 10), (true, 11), (true, 12), (true, 13), (true, 14)], (.alt 8 [(false, 0), (false, 9), (false, 10), (false, 11), (false, 12), (false, 13), (false, 14)] (.alt 15 [(false, 0), (false, 9), (false, 10), (false, 11), (false, 12), (false, 13), (false, 14), (true, 16), (true, 17)] (.alt 18 [] .fin .nil) .nil) .nil)⟩ := (rfl)
def sch17 : List (Nat × Go.Sy.Sch) := [(2, ⟨[0, 0, 0, 4, 12, 28, 0, 124, 2, 511, 1023, 2047], [(true, 0), (true, 1), (true, 2), (true, 3), (true, 4), (true, 5), (true, 6), (true, 7)], (.alt 8 [(false, 0), (false, 2), (false, 3), (false, 4), (false, 5), (false, 6), (false, 7), (true, 9), (true, 10)] (.alt 11 [] .fin .nil) .nil)⟩)]
@[simp] theorem lk17_2 : lookS sch17 2 = some ⟨[0, 0, 0, 4, 12, 28, 0, 124, 2, 511, 1023, 2047], [(true, 0), (true, 1), (true, 2), (true, 3), (true, 4), (true, 5), (true, 6), (true, 7)], (.alt 8 [(false, 0), (false, 2), (false, 3), (false, 4), (false, 5), (false, 6), (false, 7), (true, 9), (true, 10)] (.alt 11 [] .fin .nil) .nil)⟩ := (rfl)

@[simp] theorem sz_0 : szOf Try.prog 0 = 1 := by kernel_rfl
@[simp] theorem ag_0 : aggT Try.prog 0 = some false := by kernel_rfl
@[simp] theorem by_0 : bytesOf Try.prog 0 = 0 := by kernel_rfl
attribute [simp] Try.underlying0
@[simp] theorem sz_1 : szOf Try.prog 1 = 1 := by kernel_rfl
@[simp] theorem ag_1 : aggT Try.prog 1 = some false := by kernel_rfl
@[simp] theorem by_1 : bytesOf Try.prog 1 = 8 := by kernel_rfl
attribute [simp] Try.underlying1
@[simp] theorem sz_2 : szOf Try.prog 2 = 1 := by kernel_rfl
@[simp] theorem ag_2 : aggT Try.prog 2 = some false := by kernel_rfl
@[simp] theorem by_2 : bytesOf Try.prog 2 = 8 := by kernel_rfl
attribute [simp] Try.underlying2
@[simp] theorem zr_2 : zerosOf Try.prog 2 = some [(.lit (.int Go.IntKind.i64 (0)))] := by kernel_rfl
@[simp] theorem sz_3 : szOf Try.prog 3 = 1 := by kernel_rfl
@[simp] theorem ag_3 : aggT Try.prog 3 = some false := by kernel_rfl
@[simp] theorem by_3 : bytesOf Try.prog 3 = 8 := by kernel_rfl
attribute [simp] Try.underlying3
@[simp] theorem zr_3 : zerosOf Try.prog 3 = some [(.lit (.int Go.IntKind.i64 (0)))] := by kernel_rfl
@[simp] theorem sz_4 : szOf Try.prog 4 = 1 := by kernel_rfl
@[simp] theorem ag_4 : aggT Try.prog 4 = some false := by kernel_rfl
@[simp] theorem by_4 : bytesOf Try.prog 4 = 1 := by kernel_rfl
attribute [simp] Try.underlying4
@[simp] theorem zr_4 : zerosOf Try.prog 4 = some [(.lit (.bool false))] := by kernel_rfl
@[simp] theorem sz_5 : szOf Try.prog 5 = 1 := by kernel_rfl
@[simp] theorem ag_5 : aggT Try.prog 5 = some false := by kernel_rfl
@[simp] theorem by_5 : bytesOf Try.prog 5 = 1 := by kernel_rfl
attribute [simp] Try.underlying5
@[simp] theorem zr_5 : zerosOf Try.prog 5 = some [(.lit (.int Go.IntKind.u8 (0)))] := by kernel_rfl
@[simp] theorem sz_6 : szOf Try.prog 6 = 1 := by kernel_rfl
@[simp] theorem ag_6 : aggT Try.prog 6 = some false := by kernel_rfl
@[simp] theorem by_6 : bytesOf Try.prog 6 = 1 := by kernel_rfl
attribute [simp] Try.underlying6
@[simp] theorem zr_6 : zerosOf Try.prog 6 = some [(.lit (.int Go.IntKind.u8 (0)))] := by kernel_rfl
@[simp] theorem sz_7 : szOf Try.prog 7 = 4 := by kernel_rfl
@[simp] theorem ag_7 : aggT Try.prog 7 = some true := by kernel_rfl
@[simp] theorem by_7 : bytesOf Try.prog 7 = 24 := by kernel_rfl
attribute [simp] Try.underlying7
@[simp] theorem fl_7_0 : fldOf Try.prog 7 0 = some (0, 2) := by kernel_rfl
@[simp] theorem fl_7_1 : fldOf Try.prog 7 1 = some (1, 3) := by kernel_rfl
@[simp] theorem fl_7_2 : fldOf Try.prog 7 2 = some (2, 4) := by kernel_rfl
@[simp] theorem fl_7_3 : fldOf Try.prog 7 3 = some (3, 6) := by kernel_rfl
@[simp] theorem pl_7 : placesOf Try.prog 7 = some [(0, 1), (1, 1), (2, 1), (3, 1)] := by kernel_rfl
@[simp] theorem zr_7 : zerosOf Try.prog 7 = some [(.lit (.int Go.IntKind.i64 (0))), (.lit (.int Go.IntKind.i64 (0))), (.lit (.bool false)), (.lit (.int Go.IntKind.u8 (0)))] := by kernel_rfl
@[simp] theorem sz_8 : szOf Try.prog 8 = 4 := by kernel_rfl
@[simp] theorem ag_8 : aggT Try.prog 8 = some true := by kernel_rfl
@[simp] theorem by_8 : bytesOf Try.prog 8 = 24 := by kernel_rfl
attribute [simp] Try.underlying8
@[simp] theorem fl_8_0 : fldOf Try.prog 8 0 = some (0, 2) := by kernel_rfl
@[simp] theorem fl_8_1 : fldOf Try.prog 8 1 = some (1, 3) := by kernel_rfl
@[simp] theorem fl_8_2 : fldOf Try.prog 8 2 = some (2, 4) := by kernel_rfl
@[simp] theorem fl_8_3 : fldOf Try.prog 8 3 = some (3, 6) := by kernel_rfl
@[simp] theorem pl_8 : placesOf Try.prog 8 = some [(0, 1), (1, 1), (2, 1), (3, 1)] := by kernel_rfl
@[simp] theorem zr_8 : zerosOf Try.prog 8 = some [(.lit (.int Go.IntKind.i64 (0))), (.lit (.int Go.IntKind.i64 (0))), (.lit (.bool false)), (.lit (.int Go.IntKind.u8 (0)))] := by kernel_rfl
@[simp] theorem sz_9 : szOf Try.prog 9 = 1 := by kernel_rfl
@[simp] theorem ag_9 : aggT Try.prog 9 = some false := by kernel_rfl
@[simp] theorem by_9 : bytesOf Try.prog 9 = 16 := by kernel_rfl
attribute [simp] Try.underlying9
@[simp] theorem zr_9 : zerosOf Try.prog 9 = some [(.lit (.string ByteArray.empty))] := by kernel_rfl
@[simp] theorem sz_10 : szOf Try.prog 10 = 1 := by kernel_rfl
@[simp] theorem ag_10 : aggT Try.prog 10 = some false := by kernel_rfl
@[simp] theorem by_10 : bytesOf Try.prog 10 = 16 := by kernel_rfl
attribute [simp] Try.underlying10
@[simp] theorem zr_10 : zerosOf Try.prog 10 = some [(.lit (.string ByteArray.empty))] := by kernel_rfl
@[simp] theorem sz_11 : szOf Try.prog 11 = 1 := by kernel_rfl
@[simp] theorem ag_11 : aggT Try.prog 11 = some false := by kernel_rfl
@[simp] theorem by_11 : bytesOf Try.prog 11 = 16 := by kernel_rfl
attribute [simp] Try.underlying11
@[simp] theorem zr_11 : zerosOf Try.prog 11 = some [(.lit (.string ByteArray.empty))] := by kernel_rfl
@[simp] theorem sz_12 : szOf Try.prog 12 = 1 := by kernel_rfl
@[simp] theorem ag_12 : aggT Try.prog 12 = some false := by kernel_rfl
@[simp] theorem by_12 : bytesOf Try.prog 12 = 8 := by kernel_rfl
attribute [simp] Try.underlying12
@[simp] theorem zr_12 : zerosOf Try.prog 12 = some [(.lit (.int Go.IntKind.u64 (0)))] := by kernel_rfl
@[simp] theorem sz_13 : szOf Try.prog 13 = 2 := by kernel_rfl
@[simp] theorem ag_13 : aggT Try.prog 13 = some true := by kernel_rfl
@[simp] theorem by_13 : bytesOf Try.prog 13 = 24 := by kernel_rfl
attribute [simp] Try.underlying13
@[simp] theorem fl_13_0 : fldOf Try.prog 13 0 = some (0, 9) := by kernel_rfl
@[simp] theorem fl_13_1 : fldOf Try.prog 13 1 = some (1, 12) := by kernel_rfl
@[simp] theorem pl_13 : placesOf Try.prog 13 = some [(0, 1), (1, 1)] := by kernel_rfl
@[simp] theorem zr_13 : zerosOf Try.prog 13 = some [(.lit (.string ByteArray.empty)), (.lit (.int Go.IntKind.u64 (0)))] := by kernel_rfl
@[simp] theorem sz_14 : szOf Try.prog 14 = 2 := by kernel_rfl
@[simp] theorem ag_14 : aggT Try.prog 14 = some true := by kernel_rfl
@[simp] theorem by_14 : bytesOf Try.prog 14 = 24 := by kernel_rfl
attribute [simp] Try.underlying14
@[simp] theorem fl_14_0 : fldOf Try.prog 14 0 = some (0, 9) := by kernel_rfl
@[simp] theorem fl_14_1 : fldOf Try.prog 14 1 = some (1, 12) := by kernel_rfl
@[simp] theorem pl_14 : placesOf Try.prog 14 = some [(0, 1), (1, 1)] := by kernel_rfl
@[simp] theorem zr_14 : zerosOf Try.prog 14 = some [(.lit (.string ByteArray.empty)), (.lit (.int Go.IntKind.u64 (0)))] := by kernel_rfl
@[simp] theorem sz_15 : szOf Try.prog 15 = 1 := by kernel_rfl
@[simp] theorem ag_15 : aggT Try.prog 15 = some false := by kernel_rfl
@[simp] theorem by_15 : bytesOf Try.prog 15 = 8 := by kernel_rfl
attribute [simp] Try.underlying15
@[simp] theorem zr_15 : zerosOf Try.prog 15 = some [(.lit (.pointer none))] := by kernel_rfl
@[simp] theorem sz_16 : szOf Try.prog 16 = 1 := by kernel_rfl
@[simp] theorem ag_16 : aggT Try.prog 16 = some false := by kernel_rfl
@[simp] theorem by_16 : bytesOf Try.prog 16 = 8 := by kernel_rfl
attribute [simp] Try.underlying16
@[simp] theorem zr_16 : zerosOf Try.prog 16 = some [(.lit (.pointer none))] := by kernel_rfl
@[simp] theorem sz_17 : szOf Try.prog 17 = 1 := by kernel_rfl
@[simp] theorem ag_17 : aggT Try.prog 17 = some false := by kernel_rfl
@[simp] theorem by_17 : bytesOf Try.prog 17 = 8 := by kernel_rfl
attribute [simp] Try.underlying17
@[simp] theorem zr_17 : zerosOf Try.prog 17 = some [(.lit (.pointer none))] := by kernel_rfl
@[simp] theorem sz_18 : szOf Try.prog 18 = 1 := by kernel_rfl
@[simp] theorem ag_18 : aggT Try.prog 18 = some true := by kernel_rfl
@[simp] theorem by_18 : bytesOf Try.prog 18 = 8 := by kernel_rfl
attribute [simp] Try.underlying18
@[simp] theorem fl_18_0 : fldOf Try.prog 18 0 = some (0, 17) := by kernel_rfl
@[simp] theorem pl_18 : placesOf Try.prog 18 = some [(0, 1)] := by kernel_rfl
@[simp] theorem zr_18 : zerosOf Try.prog 18 = some [(.lit (.pointer none))] := by kernel_rfl
@[simp] theorem sz_19 : szOf Try.prog 19 = 1 := by kernel_rfl
@[simp] theorem ag_19 : aggT Try.prog 19 = some true := by kernel_rfl
@[simp] theorem by_19 : bytesOf Try.prog 19 = 8 := by kernel_rfl
attribute [simp] Try.underlying19
@[simp] theorem fl_19_0 : fldOf Try.prog 19 0 = some (0, 17) := by kernel_rfl
@[simp] theorem pl_19 : placesOf Try.prog 19 = some [(0, 1)] := by kernel_rfl
@[simp] theorem zr_19 : zerosOf Try.prog 19 = some [(.lit (.pointer none))] := by kernel_rfl
@[simp] theorem sz_20 : szOf Try.prog 20 = 1 := by kernel_rfl
@[simp] theorem ag_20 : aggT Try.prog 20 = some false := by kernel_rfl
@[simp] theorem by_20 : bytesOf Try.prog 20 = 16 := by kernel_rfl
attribute [simp] Try.underlying20
@[simp] theorem sz_21 : szOf Try.prog 21 = 1 := by kernel_rfl
@[simp] theorem ag_21 : aggT Try.prog 21 = some false := by kernel_rfl
@[simp] theorem by_21 : bytesOf Try.prog 21 = 4 := by kernel_rfl
attribute [simp] Try.underlying21
@[simp] theorem zr_21 : zerosOf Try.prog 21 = some [(.lit (.int Go.IntKind.i32 (0)))] := by kernel_rfl
@[simp] theorem sz_22 : szOf Try.prog 22 = 1 := by kernel_rfl
@[simp] theorem ag_22 : aggT Try.prog 22 = some false := by kernel_rfl
@[simp] theorem by_22 : bytesOf Try.prog 22 = 24 := by kernel_rfl
attribute [simp] Try.underlying22
@[simp] theorem el_22 : Go.Sy.elemOf Try.prog 22 = some 5 := by kernel_rfl
@[simp] theorem zr_22 : zerosOf Try.prog 22 = some [(.sl .imm true 0 [])] := by kernel_rfl
@[simp] theorem sz_23 : szOf Try.prog 23 = 1 := by kernel_rfl
@[simp] theorem ag_23 : aggT Try.prog 23 = some false := by kernel_rfl
@[simp] theorem by_23 : bytesOf Try.prog 23 = 2 := by kernel_rfl
attribute [simp] Try.underlying23
@[simp] theorem zr_23 : zerosOf Try.prog 23 = some [(.lit (.int Go.IntKind.u16 (0)))] := by kernel_rfl
@[simp] theorem sz_24 : szOf Try.prog 24 = 1 := by kernel_rfl
@[simp] theorem ag_24 : aggT Try.prog 24 = some false := by kernel_rfl
@[simp] theorem by_24 : bytesOf Try.prog 24 = 8 := by kernel_rfl
attribute [simp] Try.underlying24
@[simp] theorem sz_25 : szOf Try.prog 25 = 1 := by kernel_rfl
@[simp] theorem ag_25 : aggT Try.prog 25 = some false := by kernel_rfl
@[simp] theorem by_25 : bytesOf Try.prog 25 = 8 := by kernel_rfl
attribute [simp] Try.underlying25
@[simp] theorem sz_26 : szOf Try.prog 26 = 1 := by kernel_rfl
@[simp] theorem ag_26 : aggT Try.prog 26 = some false := by kernel_rfl
@[simp] theorem by_26 : bytesOf Try.prog 26 = 8 := by kernel_rfl
attribute [simp] Try.underlying26
@[simp] theorem zr_26 : zerosOf Try.prog 26 = some [(.lit (.pointer none))] := by kernel_rfl
@[simp] theorem sz_27 : szOf Try.prog 27 = 1 := by kernel_rfl
@[simp] theorem ag_27 : aggT Try.prog 27 = some false := by kernel_rfl
@[simp] theorem by_27 : bytesOf Try.prog 27 = 8 := by kernel_rfl
attribute [simp] Try.underlying27
@[simp] theorem sz_28 : szOf Try.prog 28 = 1 := by kernel_rfl
@[simp] theorem ag_28 : aggT Try.prog 28 = some false := by kernel_rfl
@[simp] theorem by_28 : bytesOf Try.prog 28 = 8 := by kernel_rfl
attribute [simp] Try.underlying28
@[simp] theorem sz_29 : szOf Try.prog 29 = 1 := by kernel_rfl
@[simp] theorem ag_29 : aggT Try.prog 29 = some false := by kernel_rfl
@[simp] theorem by_29 : bytesOf Try.prog 29 = 8 := by kernel_rfl
attribute [simp] Try.underlying29
@[simp] theorem sz_30 : szOf Try.prog 30 = 1 := by kernel_rfl
@[simp] theorem ag_30 : aggT Try.prog 30 = some false := by kernel_rfl
@[simp] theorem by_30 : bytesOf Try.prog 30 = 8 := by kernel_rfl
attribute [simp] Try.underlying30
@[simp] theorem zr_30 : zerosOf Try.prog 30 = some [(.lit (.int Go.IntKind.u64 (0)))] := by kernel_rfl
@[simp] theorem sz_31 : szOf Try.prog 31 = 1 := by kernel_rfl
@[simp] theorem ag_31 : aggT Try.prog 31 = some false := by kernel_rfl
@[simp] theorem by_31 : bytesOf Try.prog 31 = 8 := by kernel_rfl
attribute [simp] Try.underlying31
@[simp] theorem sz_32 : szOf Try.prog 32 = 1 := by kernel_rfl
@[simp] theorem ag_32 : aggT Try.prog 32 = some false := by kernel_rfl
@[simp] theorem by_32 : bytesOf Try.prog 32 = 8 := by kernel_rfl
attribute [simp] Try.underlying32
@[simp] theorem sz_33 : szOf Try.prog 33 = 1 := by kernel_rfl
@[simp] theorem ag_33 : aggT Try.prog 33 = some false := by kernel_rfl
@[simp] theorem by_33 : bytesOf Try.prog 33 = 8 := by kernel_rfl
attribute [simp] Try.underlying33
@[simp] theorem sz_34 : szOf Try.prog 34 = 1 := by kernel_rfl
@[simp] theorem ag_34 : aggT Try.prog 34 = some false := by kernel_rfl
@[simp] theorem by_34 : bytesOf Try.prog 34 = 8 := by kernel_rfl
attribute [simp] Try.underlying34
@[simp] theorem zr_34 : zerosOf Try.prog 34 = some [(.lit (.int Go.IntKind.i64 (0)))] := by kernel_rfl
@[simp] theorem sz_35 : szOf Try.prog 35 = 1 := by kernel_rfl
@[simp] theorem ag_35 : aggT Try.prog 35 = some false := by kernel_rfl
@[simp] theorem by_35 : bytesOf Try.prog 35 = 8 := by kernel_rfl
attribute [simp] Try.underlying35
@[simp] theorem sz_36 : szOf Try.prog 36 = 1 := by kernel_rfl
@[simp] theorem ag_36 : aggT Try.prog 36 = some false := by kernel_rfl
@[simp] theorem by_36 : bytesOf Try.prog 36 = 8 := by kernel_rfl
attribute [simp] Try.underlying36
@[simp] theorem sz_37 : szOf Try.prog 37 = 2 := by kernel_rfl
@[simp] theorem ag_37 : aggT Try.prog 37 = some true := by kernel_rfl
@[simp] theorem by_37 : bytesOf Try.prog 37 = 32 := by kernel_rfl
attribute [simp] Try.underlying37
@[simp] theorem fl_37_0 : fldOf Try.prog 37 0 = some (0, 22) := by kernel_rfl
@[simp] theorem fl_37_1 : fldOf Try.prog 37 1 = some (1, 34) := by kernel_rfl
@[simp] theorem pl_37 : placesOf Try.prog 37 = some [(0, 1), (1, 1)] := by kernel_rfl
@[simp] theorem zr_37 : zerosOf Try.prog 37 = some [(.sl .imm true 0 []), (.lit (.int Go.IntKind.i64 (0)))] := by kernel_rfl
@[simp] theorem sz_38 : szOf Try.prog 38 = 2 := by kernel_rfl
@[simp] theorem ag_38 : aggT Try.prog 38 = some true := by kernel_rfl
@[simp] theorem by_38 : bytesOf Try.prog 38 = 32 := by kernel_rfl
attribute [simp] Try.underlying38
@[simp] theorem fl_38_0 : fldOf Try.prog 38 0 = some (0, 22) := by kernel_rfl
@[simp] theorem fl_38_1 : fldOf Try.prog 38 1 = some (1, 34) := by kernel_rfl
@[simp] theorem pl_38 : placesOf Try.prog 38 = some [(0, 1), (1, 1)] := by kernel_rfl
@[simp] theorem zr_38 : zerosOf Try.prog 38 = some [(.sl .imm true 0 []), (.lit (.int Go.IntKind.i64 (0)))] := by kernel_rfl
@[simp] theorem sz_39 : szOf Try.prog 39 = 1 := by kernel_rfl
@[simp] theorem ag_39 : aggT Try.prog 39 = some false := by kernel_rfl
@[simp] theorem by_39 : bytesOf Try.prog 39 = 8 := by kernel_rfl
attribute [simp] Try.underlying39
@[simp] theorem sz_40 : szOf Try.prog 40 = 1 := by kernel_rfl
@[simp] theorem ag_40 : aggT Try.prog 40 = some false := by kernel_rfl
@[simp] theorem by_40 : bytesOf Try.prog 40 = 0 := by kernel_rfl
attribute [simp] Try.underlying40
@[simp] theorem sz_41 : szOf Try.prog 41 = 1 := by kernel_rfl
@[simp] theorem ag_41 : aggT Try.prog 41 = some false := by kernel_rfl
@[simp] theorem by_41 : bytesOf Try.prog 41 = 8 := by kernel_rfl
attribute [simp] Try.underlying41
@[simp] theorem sz_42 : szOf Try.prog 42 = 1 := by kernel_rfl
@[simp] theorem ag_42 : aggT Try.prog 42 = some false := by kernel_rfl
@[simp] theorem by_42 : bytesOf Try.prog 42 = 8 := by kernel_rfl
attribute [simp] Try.underlying42
@[simp] theorem zr_42 : zerosOf Try.prog 42 = some [(.lit (.int Go.IntKind.u64 (0)))] := by kernel_rfl
@[simp] theorem sz_43 : szOf Try.prog 43 = 1 := by kernel_rfl
@[simp] theorem ag_43 : aggT Try.prog 43 = some false := by kernel_rfl
@[simp] theorem by_43 : bytesOf Try.prog 43 = 8 := by kernel_rfl
attribute [simp] Try.underlying43
@[simp] theorem sz_44 : szOf Try.prog 44 = 4 := by kernel_rfl
@[simp] theorem ag_44 : aggT Try.prog 44 = some true := by kernel_rfl
@[simp] theorem by_44 : bytesOf Try.prog 44 = 40 := by kernel_rfl
attribute [simp] Try.underlying44
@[simp] theorem fl_44_0 : fldOf Try.prog 44 0 = some (0, 17) := by kernel_rfl
@[simp] theorem fl_44_1 : fldOf Try.prog 44 1 = some (1, 17) := by kernel_rfl
@[simp] theorem fl_44_2 : fldOf Try.prog 44 2 = some (2, 17) := by kernel_rfl
@[simp] theorem fl_44_3 : fldOf Try.prog 44 3 = some (3, 9) := by kernel_rfl
@[simp] theorem pl_44 : placesOf Try.prog 44 = some [(0, 1), (1, 1), (2, 1), (3, 1)] := by kernel_rfl
@[simp] theorem zr_44 : zerosOf Try.prog 44 = some [(.lit (.pointer none)), (.lit (.pointer none)), (.lit (.pointer none)), (.lit (.string ByteArray.empty))] := by kernel_rfl
@[simp] theorem sz_45 : szOf Try.prog 45 = 4 := by kernel_rfl
@[simp] theorem ag_45 : aggT Try.prog 45 = some true := by kernel_rfl
@[simp] theorem by_45 : bytesOf Try.prog 45 = 40 := by kernel_rfl
attribute [simp] Try.underlying45
@[simp] theorem fl_45_0 : fldOf Try.prog 45 0 = some (0, 17) := by kernel_rfl
@[simp] theorem fl_45_1 : fldOf Try.prog 45 1 = some (1, 17) := by kernel_rfl
@[simp] theorem fl_45_2 : fldOf Try.prog 45 2 = some (2, 17) := by kernel_rfl
@[simp] theorem fl_45_3 : fldOf Try.prog 45 3 = some (3, 9) := by kernel_rfl
@[simp] theorem pl_45 : placesOf Try.prog 45 = some [(0, 1), (1, 1), (2, 1), (3, 1)] := by kernel_rfl
@[simp] theorem zr_45 : zerosOf Try.prog 45 = some [(.lit (.pointer none)), (.lit (.pointer none)), (.lit (.pointer none)), (.lit (.string ByteArray.empty))] := by kernel_rfl
@[simp] theorem sz_46 : szOf Try.prog 46 = 0 := by kernel_rfl
@[simp] theorem ag_46 : aggT Try.prog 46 = some true := by kernel_rfl
@[simp] theorem by_46 : bytesOf Try.prog 46 = 0 := by kernel_rfl
attribute [simp] Try.underlying46
@[simp] theorem pl_46 : placesOf Try.prog 46 = none := by kernel_rfl
@[simp] theorem zr_46 : zerosOf Try.prog 46 = some [] := by kernel_rfl
@[simp] theorem sz_47 : szOf Try.prog 47 = 0 := by kernel_rfl
@[simp] theorem ag_47 : aggT Try.prog 47 = some true := by kernel_rfl
@[simp] theorem by_47 : bytesOf Try.prog 47 = 0 := by kernel_rfl
attribute [simp] Try.underlying47
@[simp] theorem fl_47_0 : fldOf Try.prog 47 0 = some (0, 46) := by kernel_rfl
@[simp] theorem pl_47 : placesOf Try.prog 47 = some [(0, 0)] := by kernel_rfl
@[simp] theorem zr_47 : zerosOf Try.prog 47 = some [] := by kernel_rfl
@[simp] theorem sz_48 : szOf Try.prog 48 = 0 := by kernel_rfl
@[simp] theorem ag_48 : aggT Try.prog 48 = some true := by kernel_rfl
@[simp] theorem by_48 : bytesOf Try.prog 48 = 0 := by kernel_rfl
attribute [simp] Try.underlying48
@[simp] theorem fl_48_0 : fldOf Try.prog 48 0 = some (0, 46) := by kernel_rfl
@[simp] theorem pl_48 : placesOf Try.prog 48 = some [(0, 0)] := by kernel_rfl
@[simp] theorem zr_48 : zerosOf Try.prog 48 = some [] := by kernel_rfl
@[simp] theorem sz_49 : szOf Try.prog 49 = 1 := by kernel_rfl
@[simp] theorem ag_49 : aggT Try.prog 49 = some false := by kernel_rfl
@[simp] theorem by_49 : bytesOf Try.prog 49 = 8 := by kernel_rfl
attribute [simp] Try.underlying49
@[simp] theorem sz_50 : szOf Try.prog 50 = 1 := by kernel_rfl
@[simp] theorem ag_50 : aggT Try.prog 50 = some false := by kernel_rfl
@[simp] theorem by_50 : bytesOf Try.prog 50 = 4 := by kernel_rfl
attribute [simp] Try.underlying50
@[simp] theorem zr_50 : zerosOf Try.prog 50 = some [(.lit (.int Go.IntKind.u32 (0)))] := by kernel_rfl
@[simp] theorem sz_51 : szOf Try.prog 51 = 1 := by kernel_rfl
@[simp] theorem ag_51 : aggT Try.prog 51 = some false := by kernel_rfl
@[simp] theorem by_51 : bytesOf Try.prog 51 = 1 := by kernel_rfl
attribute [simp] Try.underlying51
@[simp] theorem zr_51 : zerosOf Try.prog 51 = some [(.lit (.int Go.IntKind.u8 (0)))] := by kernel_rfl
@[simp] theorem sz_52 : szOf Try.prog 52 = 1 := by kernel_rfl
@[simp] theorem ag_52 : aggT Try.prog 52 = some false := by kernel_rfl
@[simp] theorem by_52 : bytesOf Try.prog 52 = 1 := by kernel_rfl
attribute [simp] Try.underlying52
@[simp] theorem zr_52 : zerosOf Try.prog 52 = some [(.lit (.int Go.IntKind.u8 (0)))] := by kernel_rfl
@[simp] theorem sz_53 : szOf Try.prog 53 = 1 := by kernel_rfl
@[simp] theorem ag_53 : aggT Try.prog 53 = some false := by kernel_rfl
@[simp] theorem by_53 : bytesOf Try.prog 53 = 8 := by kernel_rfl
attribute [simp] Try.underlying53
@[simp] theorem sz_54 : szOf Try.prog 54 = 1 := by kernel_rfl
@[simp] theorem ag_54 : aggT Try.prog 54 = some false := by kernel_rfl
@[simp] theorem by_54 : bytesOf Try.prog 54 = 8 := by kernel_rfl
attribute [simp] Try.underlying54
@[simp] theorem zr_54 : zerosOf Try.prog 54 = some [(.lit (.pointer none))] := by kernel_rfl
@[simp] theorem sz_55 : szOf Try.prog 55 = 1 := by kernel_rfl
@[simp] theorem ag_55 : aggT Try.prog 55 = some false := by kernel_rfl
@[simp] theorem by_55 : bytesOf Try.prog 55 = 4 := by kernel_rfl
attribute [simp] Try.underlying55
@[simp] theorem zr_55 : zerosOf Try.prog 55 = some [(.lit (.int Go.IntKind.i32 (0)))] := by kernel_rfl
@[simp] theorem sz_56 : szOf Try.prog 56 = 1 := by kernel_rfl
@[simp] theorem ag_56 : aggT Try.prog 56 = some false := by kernel_rfl
@[simp] theorem by_56 : bytesOf Try.prog 56 = 4 := by kernel_rfl
attribute [simp] Try.underlying56
@[simp] theorem zr_56 : zerosOf Try.prog 56 = some [(.lit (.int Go.IntKind.i32 (0)))] := by kernel_rfl
@[simp] theorem sz_57 : szOf Try.prog 57 = 11 := by kernel_rfl
@[simp] theorem ag_57 : aggT Try.prog 57 = some true := by kernel_rfl
@[simp] theorem by_57 : bytesOf Try.prog 57 = 48 := by kernel_rfl
attribute [simp] Try.underlying57
@[simp] theorem fl_57_0 : fldOf Try.prog 57 0 = some (0, 12) := by kernel_rfl
@[simp] theorem fl_57_1 : fldOf Try.prog 57 1 = some (1, 12) := by kernel_rfl
@[simp] theorem fl_57_2 : fldOf Try.prog 57 2 = some (2, 50) := by kernel_rfl
@[simp] theorem fl_57_3 : fldOf Try.prog 57 3 = some (3, 51) := by kernel_rfl
@[simp] theorem fl_57_4 : fldOf Try.prog 57 4 = some (4, 5) := by kernel_rfl
@[simp] theorem fl_57_5 : fldOf Try.prog 57 5 = some (5, 5) := by kernel_rfl
@[simp] theorem fl_57_6 : fldOf Try.prog 57 6 = some (6, 52) := by kernel_rfl
@[simp] theorem fl_57_7 : fldOf Try.prog 57 7 = some (7, 53) := by kernel_rfl
@[simp] theorem fl_57_8 : fldOf Try.prog 57 8 = some (8, 54) := by kernel_rfl
@[simp] theorem fl_57_9 : fldOf Try.prog 57 9 = some (9, 55) := by kernel_rfl
@[simp] theorem fl_57_10 : fldOf Try.prog 57 10 = some (10, 56) := by kernel_rfl
@[simp] theorem pl_57 : placesOf Try.prog 57 = some [(0, 1), (1, 1), (2, 1), (3, 1), (4, 1), (5, 1), (6, 1), (7, 1), (8, 1), (9, 1), (10, 1)] := by kernel_rfl
@[simp] theorem sz_58 : szOf Try.prog 58 = 11 := by kernel_rfl
@[simp] theorem ag_58 : aggT Try.prog 58 = some true := by kernel_rfl
@[simp] theorem by_58 : bytesOf Try.prog 58 = 48 := by kernel_rfl
attribute [simp] Try.underlying58
@[simp] theorem fl_58_0 : fldOf Try.prog 58 0 = some (0, 12) := by kernel_rfl
@[simp] theorem fl_58_1 : fldOf Try.prog 58 1 = some (1, 12) := by kernel_rfl
@[simp] theorem fl_58_2 : fldOf Try.prog 58 2 = some (2, 50) := by kernel_rfl
@[simp] theorem fl_58_3 : fldOf Try.prog 58 3 = some (3, 51) := by kernel_rfl
@[simp] theorem fl_58_4 : fldOf Try.prog 58 4 = some (4, 5) := by kernel_rfl
@[simp] theorem fl_58_5 : fldOf Try.prog 58 5 = some (5, 5) := by kernel_rfl
@[simp] theorem fl_58_6 : fldOf Try.prog 58 6 = some (6, 52) := by kernel_rfl
@[simp] theorem fl_58_7 : fldOf Try.prog 58 7 = some (7, 53) := by kernel_rfl
@[simp] theorem fl_58_8 : fldOf Try.prog 58 8 = some (8, 54) := by kernel_rfl
@[simp] theorem fl_58_9 : fldOf Try.prog 58 9 = some (9, 55) := by kernel_rfl
@[simp] theorem fl_58_10 : fldOf Try.prog 58 10 = some (10, 56) := by kernel_rfl
@[simp] theorem pl_58 : placesOf Try.prog 58 = some [(0, 1), (1, 1), (2, 1), (3, 1), (4, 1), (5, 1), (6, 1), (7, 1), (8, 1), (9, 1), (10, 1)] := by kernel_rfl
@[simp] theorem sz_59 : szOf Try.prog 59 = 1 := by kernel_rfl
@[simp] theorem ag_59 : aggT Try.prog 59 = some false := by kernel_rfl
@[simp] theorem by_59 : bytesOf Try.prog 59 = 8 := by kernel_rfl
attribute [simp] Try.underlying59
@[simp] theorem zr_59 : zerosOf Try.prog 59 = some [(.lit (.pointer none))] := by kernel_rfl

end Go.Proofs.Ytdbdoilfimiihaa
