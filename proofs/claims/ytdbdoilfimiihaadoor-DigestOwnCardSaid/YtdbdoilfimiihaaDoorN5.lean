/- The evaluations of the regions that draw their order, and the types' facts (printed by a program of ours). (and what stands on it) -/
import Derived.Test.YtdbdoilfimiihaaDoorN3
import Derived.Test.YtdbdoilfimiihaaDoorProg
import Derived.KernelRfl
set_option linter.unusedSimpArgs false
set_option linter.unusedVariables false

/-! The evaluations of the regions that draw their order, and the types' facts (printed by a program of ours). -/
namespace Go.Proofs.YtdbdoilfimiihaaDoor
open Go.Sy
def sch6 : List (Nat × Go.Sy.Sch) := [(3, ⟨[0, 0, 2, 6, 14, 0, 32, 126, 255, 511, 1023], [(true, 0), (true, 1), (true, 2), (true, 3), (true, 4), (true, 5), (true, 6)], (.alt 7 [(false, 0), (true, 8), (true, 9)] (.alt 10 [] .fin .nil) .nil)⟩)]
@[simp] theorem lk6_3 : lookS sch6 3 = some ⟨[0, 0, 2, 6, 14, 0, 32, 126, 255, 511, 1023], [(true, 0), (true, 1), (true, 2), (true, 3), (true, 4), (true, 5), (true, 6)], (.alt 7 [(false, 0), (true, 8), (true, 9)] (.alt 10 [] .fin .nil) .nil)⟩ := (rfl)
def sch10 : List (Nat × Go.Sy.Sch) := [(7, ⟨[0, 0, 3, 7, 0, 0, 32, 112, 255, 511, 1023], [(true, 0), (true, 1), (true, 2), (true, 4), (true, 5), (true, 6), (true, 7)], (.alt 3 [(false, 4), (false, 5), (false, 6), (false, 7)] (.alt 8 [(true, 9), (true, 10)] .fin .nil) .nil)⟩)]
@[simp] theorem lk10_7 : lookS sch10 7 = some ⟨[0, 0, 3, 7, 0, 0, 32, 112, 255, 511, 1023], [(true, 0), (true, 1), (true, 2), (true, 4), (true, 5), (true, 6), (true, 7)], (.alt 3 [(false, 4), (false, 5), (false, 6), (false, 7)] (.alt 8 [(true, 9), (true, 10)] .fin .nil) .nil)⟩ := (rfl)
def sch13 : List (Nat × Go.Sy.Sch) := [(5, ⟨[0, 0, 2, 6, 0, 31, 63], [(true, 0), (true, 1), (true, 2), (true, 3), (true, 4)], (.alt 5 [] (.alt 6 [] .fin .nil) .nil)⟩), (10, ⟨[0, 1, 3, 0, 8, 24, 63, 127, 255], [(true, 0), (true, 1), (true, 2), (true, 3), (true, 4), (true, 5), (true, 6), (true, 7)], (.alt 8 [] .fin .nil)⟩)]
@[simp] theorem lk13_5 : lookS sch13 5 = some ⟨[0, 0, 2, 6, 0, 31, 63], [(true, 0), (true, 1), (true, 2), (true, 3), (true, 4)], (.alt 5 [] (.alt 6 [] .fin .nil) .nil)⟩ := (rfl)
@[simp] theorem lk13_10 : lookS sch13 10 = some ⟨[0, 1, 3, 0, 8, 24, 63, 127, 255], [(true, 0), (true, 1), (true, 2), (true, 3), (true, 4), (true, 5), (true, 6), (true, 7)], (.alt 8 [] .fin .nil)⟩ := (rfl)
def sch17 : List (Nat × Go.Sy.Sch) := [(1, ⟨[0, 1, 3, 7, 15, 0, 32, 96, 224, 480, 1023, 2047], [(true, 0), (true, 1), (true, 2), (true, 3), (true, 4), (true, 5), (true, 6), (true, 7), (true, 8), (true, 9), (true, 10), (true, 11)], .fin⟩)]
@[simp] theorem lk17_1 : lookS sch17 1 = some ⟨[0, 1, 3, 7, 15, 0, 32, 96, 224, 480, 1023, 2047], [(true, 0), (true, 1), (true, 2), (true, 3), (true, 4), (true, 5), (true, 6), (true, 7), (true, 8), (true, 9), (true, 10), (true, 11)], .fin⟩ := (rfl)
def sch20 : List (Nat × Go.Sy.Sch) := [(14, ⟨[0, 1, 3, 7, 0, 16, 48, 112, 15, 511], [(true, 0), (true, 1), (true, 2), (true, 3), (true, 4), (true, 5), (true, 6), (true, 7), (true, 8), (true, 9)], .fin⟩), (15, ⟨[0, 0, 2, 6, 14, 0, 32, 0, 224, 480, 0, 1024, 4064, 8190, 0, 16384, 49152, 114688, 262142, 0, 524768, 0, 3670496, 7864800, 0, 16777216, 66585056, 134217726, 268435455, 536870911], [(true, 0), (true, 1), (true, 2), (true, 3), (true, 4), (true, 5), (true, 7), (true, 10), (true, 11), (true, 14), (true, 15), (true, 16), (true, 17), (true, 19), (true, 21), (true, 24), (true, 25)], (.alt 6 [(false, 0), (false, 1), (false, 2), (false, 3), (false, 4), (false, 7), (false, 10), (false, 11), (false, 14), (false, 15), (false, 16), (false, 17), (false, 19), (false, 21), (false, 24), (false, 25)] (.alt 8 [(false, 0), (false, 1), (false, 2), (false, 3), (false, 4), (true, 9), (false, 10), (false, 11), (true, 12), (true, 13), (false, 14), (false, 15), (false, 16), (false, 17), (true, 18), (false, 19), (false, 21), (false, 24), (false, 25)] (.alt 20 [(false, 0), (false, 1), (false, 2), (false, 3), (false, 4), (false, 9), (false, 10), (false, 11), (false, 12), (false, 13), (false, 14), (false, 15), (false, 16), (false, 17), (false, 18), (false, 21), (false, 24), (false, 25)] (.alt 22 [(false, 0), (false, 1), (false, 2), (false, 3), (false, 4), (false, 9), (false, 10), (false, 11), (false, 12), (false, 13), (false, 14), (false, 15), (false, 16), (false, 17), (false, 18), (true, 23), (false, 24), (false, 25), (true, 26), (true, 27), (true, 28)] (.alt 29 [] .fin .nil) .nil) .nil) .nil) .nil)⟩)]
@[simp] theorem lk20_14 : lookS sch20 14 = some ⟨[0, 1, 3, 7, 0, 16, 48, 112, 15, 511], [(true, 0), (true, 1), (true, 2), (true, 3), (true, 4), (true, 5), (true, 6), (true, 7), (true, 8), (true, 9)], .fin⟩ := (rfl)
@[simp] theorem lk20_15 : lookS sch20 15 = some ⟨[0, 0, 2, 6, 14, 0, 32, 0, 224, 480, 0, 1024, 4064, 8190, 0, 16384, 49152, 114688, 262142, 0, 524768, 0, 3670496, 7864800, 0, 16777216, 66585056, 134217726, 268435455, 536870911], [(true, 0), (true, 1), (true, 2), (true, 3), (true, 4), (true, 5), (true, 7), (true, 10), (true, 11), (true, 14), (true, 15), (true, 16), (true, 17), (true, 19), (true, 21), (true, 24), (true, 25)], (.alt 6 [(false, 0), (false, 1), (false, 2), (false, 3), (false, 4), (false, 7), (false, 10), (false, 11), (false, 14), (false, 15), (false, 16), (false, 17), (false, 19), (false, 21), (false, 24), (false, 25)] (.alt 8 [(false, 0), (false, 1), (false, 2), (false, 3), (false, 4), (true, 9), (false, 10), (false, 11), (true, 12), (true, 13), (false, 14), (false, 15), (false, 16), (false, 17), (true, 18), (false, 19), (false, 21), (false, 24), (false, 25)] (.alt 20 [(false, 0), (false, 1), (false, 2), (false, 3), (false, 4), (false, 9), (false, 10), (false, 11), (false, 12), (false, 13), (false, 14), (false, 15), (false, 16), (false, 17), (false, 18), (false, 21), (false, 24), (false, 25)] (.alt 22 [(false, 0), (false, 1), (false, 2), (false, 3), (false, 4), (false, 9), (false, 10), (false, 11), (false, 12), (false, 13), (false, 14), (false, 15), (false, 16), (false, 17), (false, 18), (true, 23), (false, 24), (false, 25), (true, 26), (true, 27), (true, 28)] (.alt 29 [] .fin .nil) .nil) .nil) .nil) .nil)⟩ := (rfl)
def sch21 : List (Nat × Go.Sy.Sch) := [(1, ⟨[0, 1, 0, 4, 0, 16, 0, 64, 0, 256, 0, 1024, 3, 4111, 12351, 28927, 62463, 131071], [(true, 0), (true, 1), (true, 2), (true, 3), (true, 4), (true, 5), (true, 6), (true, 7), (true, 8), (true, 9), (true, 10), (true, 11), (true, 12), (true, 13), (true, 14), (true, 15), (true, 16), (true, 17)], .fin⟩), (2, ⟨[0, 1, 0, 4, 0, 28, 60, 0, 188, 508, 1023, 0, 0, 6144, 0, 16384, 0, 114688, 260096, 524287, 0, 2097151, 0, 8388607, 16777215], [(true, 0), (true, 1), (true, 2), (true, 4), (true, 7), (true, 11), (true, 12), (true, 13), (true, 14), (true, 15), (true, 16), (true, 17), (true, 18), (true, 20), (true, 22)], (.alt 3 [(false, 0), (false, 1), (false, 4), (false, 7), (false, 11), (false, 12), (false, 13), (false, 14), (false, 15), (false, 16), (false, 17), (false, 18), (false, 20), (false, 22)] (.alt 5 [(false, 0), (false, 1), (true, 6), (false, 7), (false, 11), (false, 12), (false, 13), (false, 14), (false, 15), (false, 16), (false, 17), (false, 18), (false, 20), (false, 22)] (.alt 8 [(false, 0), (false, 1), (false, 6), (true, 9), (true, 10), (false, 11), (false, 12), (false, 13), (false, 14), (false, 15), (false, 16), (false, 17), (false, 18), (true, 19), (false, 20), (true, 21), (false, 22), (true, 23), (true, 24)] .fin .nil) .nil) .nil)⟩)]
@[simp] theorem lk21_1 : lookS sch21 1 = some ⟨[0, 1, 0, 4, 0, 16, 0, 64, 0, 256, 0, 1024, 3, 4111, 12351, 28927, 62463, 131071], [(true, 0), (true, 1), (true, 2), (true, 3), (true, 4), (true, 5), (true, 6), (true, 7), (true, 8), (true, 9), (true, 10), (true, 11), (true, 12), (true, 13), (true, 14), (true, 15), (true, 16), (true, 17)], .fin⟩ := (rfl)
@[simp] theorem lk21_2 : lookS sch21 2 = some ⟨[0, 1, 0, 4, 0, 28, 60, 0, 188, 508, 1023, 0, 0, 6144, 0, 16384, 0, 114688, 260096, 524287, 0, 2097151, 0, 8388607, 16777215], [(true, 0), (true, 1), (true, 2), (true, 4), (true, 7), (true, 11), (true, 12), (true, 13), (true, 14), (true, 15), (true, 16), (true, 17), (true, 18), (true, 20), (true, 22)], (.alt 3 [(false, 0), (false, 1), (false, 4), (false, 7), (false, 11), (false, 12), (false, 13), (false, 14), (false, 15), (false, 16), (false, 17), (false, 18), (false, 20), (false, 22)] (.alt 5 [(false, 0), (false, 1), (true, 6), (false, 7), (false, 11), (false, 12), (false, 13), (false, 14), (false, 15), (false, 16), (false, 17), (false, 18), (false, 20), (false, 22)] (.alt 8 [(false, 0), (false, 1), (false, 6), (true, 9), (true, 10), (false, 11), (false, 12), (false, 13), (false, 14), (false, 15), (false, 16), (false, 17), (false, 18), (true, 19), (false, 20), (true, 21), (false, 22), (true, 23), (true, 24)] .fin .nil) .nil) .nil)⟩ := (rfl)
def sch22 : List (Nat × Go.Sy.Sch) := [(3, ⟨[0, 0, 0, 6, 14, 31, 63], [(true, 0), (true, 1), (true, 2), (true, 3), (true, 4), (true, 5), (true, 6)], .fin⟩)]
@[simp] theorem lk22_3 : lookS sch22 3 = some ⟨[0, 0, 0, 6, 14, 31, 63], [(true, 0), (true, 1), (true, 2), (true, 3), (true, 4), (true, 5), (true, 6)], .fin⟩ := (rfl)

@[simp] theorem sz_0 : szOf Tryd.prog 0 = 1 := by kernel_rfl
@[simp] theorem ag_0 : aggT Tryd.prog 0 = some false := by kernel_rfl
@[simp] theorem by_0 : bytesOf Tryd.prog 0 = 0 := by kernel_rfl
attribute [simp] Tryd.underlying0
@[simp] theorem sz_1 : szOf Tryd.prog 1 = 1 := by kernel_rfl
@[simp] theorem ag_1 : aggT Tryd.prog 1 = some false := by kernel_rfl
@[simp] theorem by_1 : bytesOf Tryd.prog 1 = 8 := by kernel_rfl
attribute [simp] Tryd.underlying1
@[simp] theorem sz_2 : szOf Tryd.prog 2 = 1 := by kernel_rfl
@[simp] theorem ag_2 : aggT Tryd.prog 2 = some false := by kernel_rfl
@[simp] theorem by_2 : bytesOf Tryd.prog 2 = 8 := by kernel_rfl
attribute [simp] Tryd.underlying2
@[simp] theorem zr_2 : zerosOf Tryd.prog 2 = some [(.lit (.int Go.IntKind.i64 (0)))] := by kernel_rfl
@[simp] theorem sz_3 : szOf Tryd.prog 3 = 1 := by kernel_rfl
@[simp] theorem ag_3 : aggT Tryd.prog 3 = some false := by kernel_rfl
@[simp] theorem by_3 : bytesOf Tryd.prog 3 = 8 := by kernel_rfl
attribute [simp] Tryd.underlying3
@[simp] theorem zr_3 : zerosOf Tryd.prog 3 = some [(.lit (.int Go.IntKind.i64 (0)))] := by kernel_rfl
@[simp] theorem sz_4 : szOf Tryd.prog 4 = 1 := by kernel_rfl
@[simp] theorem ag_4 : aggT Tryd.prog 4 = some false := by kernel_rfl
@[simp] theorem by_4 : bytesOf Tryd.prog 4 = 1 := by kernel_rfl
attribute [simp] Tryd.underlying4
@[simp] theorem zr_4 : zerosOf Tryd.prog 4 = some [(.lit (.bool false))] := by kernel_rfl
@[simp] theorem sz_5 : szOf Tryd.prog 5 = 1 := by kernel_rfl
@[simp] theorem ag_5 : aggT Tryd.prog 5 = some false := by kernel_rfl
@[simp] theorem by_5 : bytesOf Tryd.prog 5 = 1 := by kernel_rfl
attribute [simp] Tryd.underlying5
@[simp] theorem zr_5 : zerosOf Tryd.prog 5 = some [(.lit (.int Go.IntKind.u8 (0)))] := by kernel_rfl
@[simp] theorem sz_6 : szOf Tryd.prog 6 = 1 := by kernel_rfl
@[simp] theorem ag_6 : aggT Tryd.prog 6 = some false := by kernel_rfl
@[simp] theorem by_6 : bytesOf Tryd.prog 6 = 1 := by kernel_rfl
attribute [simp] Tryd.underlying6
@[simp] theorem zr_6 : zerosOf Tryd.prog 6 = some [(.lit (.int Go.IntKind.u8 (0)))] := by kernel_rfl
@[simp] theorem sz_7 : szOf Tryd.prog 7 = 4 := by kernel_rfl
@[simp] theorem ag_7 : aggT Tryd.prog 7 = some true := by kernel_rfl
@[simp] theorem by_7 : bytesOf Tryd.prog 7 = 24 := by kernel_rfl
attribute [simp] Tryd.underlying7
@[simp] theorem fl_7_0 : fldOf Tryd.prog 7 0 = some (0, 2) := by kernel_rfl
@[simp] theorem fl_7_1 : fldOf Tryd.prog 7 1 = some (1, 3) := by kernel_rfl
@[simp] theorem fl_7_2 : fldOf Tryd.prog 7 2 = some (2, 4) := by kernel_rfl
@[simp] theorem fl_7_3 : fldOf Tryd.prog 7 3 = some (3, 6) := by kernel_rfl
@[simp] theorem pl_7 : placesOf Tryd.prog 7 = some [(0, 1), (1, 1), (2, 1), (3, 1)] := by kernel_rfl
@[simp] theorem zr_7 : zerosOf Tryd.prog 7 = some [(.lit (.int Go.IntKind.i64 (0))), (.lit (.int Go.IntKind.i64 (0))), (.lit (.bool false)), (.lit (.int Go.IntKind.u8 (0)))] := by kernel_rfl
@[simp] theorem sz_8 : szOf Tryd.prog 8 = 4 := by kernel_rfl
@[simp] theorem ag_8 : aggT Tryd.prog 8 = some true := by kernel_rfl
@[simp] theorem by_8 : bytesOf Tryd.prog 8 = 24 := by kernel_rfl
attribute [simp] Tryd.underlying8
@[simp] theorem fl_8_0 : fldOf Tryd.prog 8 0 = some (0, 2) := by kernel_rfl
@[simp] theorem fl_8_1 : fldOf Tryd.prog 8 1 = some (1, 3) := by kernel_rfl
@[simp] theorem fl_8_2 : fldOf Tryd.prog 8 2 = some (2, 4) := by kernel_rfl
@[simp] theorem fl_8_3 : fldOf Tryd.prog 8 3 = some (3, 6) := by kernel_rfl
@[simp] theorem pl_8 : placesOf Tryd.prog 8 = some [(0, 1), (1, 1), (2, 1), (3, 1)] := by kernel_rfl
@[simp] theorem zr_8 : zerosOf Tryd.prog 8 = some [(.lit (.int Go.IntKind.i64 (0))), (.lit (.int Go.IntKind.i64 (0))), (.lit (.bool false)), (.lit (.int Go.IntKind.u8 (0)))] := by kernel_rfl
@[simp] theorem sz_9 : szOf Tryd.prog 9 = 1 := by kernel_rfl
@[simp] theorem ag_9 : aggT Tryd.prog 9 = some false := by kernel_rfl
@[simp] theorem by_9 : bytesOf Tryd.prog 9 = 16 := by kernel_rfl
attribute [simp] Tryd.underlying9
@[simp] theorem zr_9 : zerosOf Tryd.prog 9 = some [(.lit (.string ByteArray.empty))] := by kernel_rfl
@[simp] theorem sz_10 : szOf Tryd.prog 10 = 1 := by kernel_rfl
@[simp] theorem ag_10 : aggT Tryd.prog 10 = some false := by kernel_rfl
@[simp] theorem by_10 : bytesOf Tryd.prog 10 = 16 := by kernel_rfl
attribute [simp] Tryd.underlying10
@[simp] theorem zr_10 : zerosOf Tryd.prog 10 = some [(.lit (.string ByteArray.empty))] := by kernel_rfl
@[simp] theorem sz_11 : szOf Tryd.prog 11 = 1 := by kernel_rfl
@[simp] theorem ag_11 : aggT Tryd.prog 11 = some false := by kernel_rfl
@[simp] theorem by_11 : bytesOf Tryd.prog 11 = 16 := by kernel_rfl
attribute [simp] Tryd.underlying11
@[simp] theorem zr_11 : zerosOf Tryd.prog 11 = some [(.lit (.string ByteArray.empty))] := by kernel_rfl
@[simp] theorem sz_12 : szOf Tryd.prog 12 = 1 := by kernel_rfl
@[simp] theorem ag_12 : aggT Tryd.prog 12 = some false := by kernel_rfl
@[simp] theorem by_12 : bytesOf Tryd.prog 12 = 8 := by kernel_rfl
attribute [simp] Tryd.underlying12
@[simp] theorem zr_12 : zerosOf Tryd.prog 12 = some [(.lit (.int Go.IntKind.u64 (0)))] := by kernel_rfl
@[simp] theorem sz_13 : szOf Tryd.prog 13 = 2 := by kernel_rfl
@[simp] theorem ag_13 : aggT Tryd.prog 13 = some true := by kernel_rfl
@[simp] theorem by_13 : bytesOf Tryd.prog 13 = 24 := by kernel_rfl
attribute [simp] Tryd.underlying13
@[simp] theorem fl_13_0 : fldOf Tryd.prog 13 0 = some (0, 9) := by kernel_rfl
@[simp] theorem fl_13_1 : fldOf Tryd.prog 13 1 = some (1, 12) := by kernel_rfl
@[simp] theorem pl_13 : placesOf Tryd.prog 13 = some [(0, 1), (1, 1)] := by kernel_rfl
@[simp] theorem zr_13 : zerosOf Tryd.prog 13 = some [(.lit (.string ByteArray.empty)), (.lit (.int Go.IntKind.u64 (0)))] := by kernel_rfl
@[simp] theorem sz_14 : szOf Tryd.prog 14 = 2 := by kernel_rfl
@[simp] theorem ag_14 : aggT Tryd.prog 14 = some true := by kernel_rfl
@[simp] theorem by_14 : bytesOf Tryd.prog 14 = 24 := by kernel_rfl
attribute [simp] Tryd.underlying14
@[simp] theorem fl_14_0 : fldOf Tryd.prog 14 0 = some (0, 9) := by kernel_rfl
@[simp] theorem fl_14_1 : fldOf Tryd.prog 14 1 = some (1, 12) := by kernel_rfl
@[simp] theorem pl_14 : placesOf Tryd.prog 14 = some [(0, 1), (1, 1)] := by kernel_rfl
@[simp] theorem zr_14 : zerosOf Tryd.prog 14 = some [(.lit (.string ByteArray.empty)), (.lit (.int Go.IntKind.u64 (0)))] := by kernel_rfl
@[simp] theorem sz_15 : szOf Tryd.prog 15 = 1 := by kernel_rfl
@[simp] theorem ag_15 : aggT Tryd.prog 15 = some false := by kernel_rfl
@[simp] theorem by_15 : bytesOf Tryd.prog 15 = 8 := by kernel_rfl
attribute [simp] Tryd.underlying15
@[simp] theorem zr_15 : zerosOf Tryd.prog 15 = some [(.lit (.pointer none))] := by kernel_rfl
@[simp] theorem sz_16 : szOf Tryd.prog 16 = 1 := by kernel_rfl
@[simp] theorem ag_16 : aggT Tryd.prog 16 = some false := by kernel_rfl
@[simp] theorem by_16 : bytesOf Tryd.prog 16 = 8 := by kernel_rfl
attribute [simp] Tryd.underlying16
@[simp] theorem zr_16 : zerosOf Tryd.prog 16 = some [(.lit (.pointer none))] := by kernel_rfl
@[simp] theorem sz_17 : szOf Tryd.prog 17 = 1 := by kernel_rfl
@[simp] theorem ag_17 : aggT Tryd.prog 17 = some false := by kernel_rfl
@[simp] theorem by_17 : bytesOf Tryd.prog 17 = 8 := by kernel_rfl
attribute [simp] Tryd.underlying17
@[simp] theorem zr_17 : zerosOf Tryd.prog 17 = some [(.lit (.pointer none))] := by kernel_rfl
@[simp] theorem sz_18 : szOf Tryd.prog 18 = 1 := by kernel_rfl
@[simp] theorem ag_18 : aggT Tryd.prog 18 = some true := by kernel_rfl
@[simp] theorem by_18 : bytesOf Tryd.prog 18 = 8 := by kernel_rfl
attribute [simp] Tryd.underlying18
@[simp] theorem fl_18_0 : fldOf Tryd.prog 18 0 = some (0, 17) := by kernel_rfl
@[simp] theorem pl_18 : placesOf Tryd.prog 18 = some [(0, 1)] := by kernel_rfl
@[simp] theorem zr_18 : zerosOf Tryd.prog 18 = some [(.lit (.pointer none))] := by kernel_rfl
@[simp] theorem sz_19 : szOf Tryd.prog 19 = 1 := by kernel_rfl
@[simp] theorem ag_19 : aggT Tryd.prog 19 = some true := by kernel_rfl
@[simp] theorem by_19 : bytesOf Tryd.prog 19 = 8 := by kernel_rfl
attribute [simp] Tryd.underlying19
@[simp] theorem fl_19_0 : fldOf Tryd.prog 19 0 = some (0, 17) := by kernel_rfl
@[simp] theorem pl_19 : placesOf Tryd.prog 19 = some [(0, 1)] := by kernel_rfl
@[simp] theorem zr_19 : zerosOf Tryd.prog 19 = some [(.lit (.pointer none))] := by kernel_rfl
@[simp] theorem sz_20 : szOf Tryd.prog 20 = 1 := by kernel_rfl
@[simp] theorem ag_20 : aggT Tryd.prog 20 = some false := by kernel_rfl
@[simp] theorem by_20 : bytesOf Tryd.prog 20 = 16 := by kernel_rfl
attribute [simp] Tryd.underlying20
@[simp] theorem sz_21 : szOf Tryd.prog 21 = 1 := by kernel_rfl
@[simp] theorem ag_21 : aggT Tryd.prog 21 = some false := by kernel_rfl
@[simp] theorem by_21 : bytesOf Tryd.prog 21 = 4 := by kernel_rfl
attribute [simp] Tryd.underlying21
@[simp] theorem zr_21 : zerosOf Tryd.prog 21 = some [(.lit (.int Go.IntKind.i32 (0)))] := by kernel_rfl
@[simp] theorem sz_22 : szOf Tryd.prog 22 = 1 := by kernel_rfl
@[simp] theorem ag_22 : aggT Tryd.prog 22 = some false := by kernel_rfl
@[simp] theorem by_22 : bytesOf Tryd.prog 22 = 24 := by kernel_rfl
attribute [simp] Tryd.underlying22
@[simp] theorem el_22 : Go.Sy.elemOf Tryd.prog 22 = some 5 := by kernel_rfl
@[simp] theorem zr_22 : zerosOf Tryd.prog 22 = some [(.sl .imm true 0 [])] := by kernel_rfl
@[simp] theorem sz_23 : szOf Tryd.prog 23 = 1 := by kernel_rfl
@[simp] theorem ag_23 : aggT Tryd.prog 23 = some false := by kernel_rfl
@[simp] theorem by_23 : bytesOf Tryd.prog 23 = 2 := by kernel_rfl
attribute [simp] Tryd.underlying23
@[simp] theorem zr_23 : zerosOf Tryd.prog 23 = some [(.lit (.int Go.IntKind.u16 (0)))] := by kernel_rfl
@[simp] theorem sz_24 : szOf Tryd.prog 24 = 1 := by kernel_rfl
@[simp] theorem ag_24 : aggT Tryd.prog 24 = some false := by kernel_rfl
@[simp] theorem by_24 : bytesOf Tryd.prog 24 = 8 := by kernel_rfl
attribute [simp] Tryd.underlying24
@[simp] theorem sz_25 : szOf Tryd.prog 25 = 1 := by kernel_rfl
@[simp] theorem ag_25 : aggT Tryd.prog 25 = some false := by kernel_rfl
@[simp] theorem by_25 : bytesOf Tryd.prog 25 = 8 := by kernel_rfl
attribute [simp] Tryd.underlying25
@[simp] theorem zr_25 : zerosOf Tryd.prog 25 = some [(.lit (.pointer none))] := by kernel_rfl
@[simp] theorem sz_26 : szOf Tryd.prog 26 = 1 := by kernel_rfl
@[simp] theorem ag_26 : aggT Tryd.prog 26 = some false := by kernel_rfl
@[simp] theorem by_26 : bytesOf Tryd.prog 26 = 8 := by kernel_rfl
attribute [simp] Tryd.underlying26
@[simp] theorem sz_27 : szOf Tryd.prog 27 = 1 := by kernel_rfl
@[simp] theorem ag_27 : aggT Tryd.prog 27 = some false := by kernel_rfl
@[simp] theorem by_27 : bytesOf Tryd.prog 27 = 8 := by kernel_rfl
attribute [simp] Tryd.underlying27
@[simp] theorem sz_28 : szOf Tryd.prog 28 = 1 := by kernel_rfl
@[simp] theorem ag_28 : aggT Tryd.prog 28 = some false := by kernel_rfl
@[simp] theorem by_28 : bytesOf Tryd.prog 28 = 16 := by kernel_rfl
attribute [simp] Tryd.underlying28
@[simp] theorem zr_28 : zerosOf Tryd.prog 28 = some [(.lit (.string ByteArray.empty))] := by kernel_rfl
@[simp] theorem sz_29 : szOf Tryd.prog 29 = 1 := by kernel_rfl
@[simp] theorem ag_29 : aggT Tryd.prog 29 = some false := by kernel_rfl
@[simp] theorem by_29 : bytesOf Tryd.prog 29 = 8 := by kernel_rfl
attribute [simp] Tryd.underlying29
@[simp] theorem sz_30 : szOf Tryd.prog 30 = 1 := by kernel_rfl
@[simp] theorem ag_30 : aggT Tryd.prog 30 = some false := by kernel_rfl
@[simp] theorem by_30 : bytesOf Tryd.prog 30 = 8 := by kernel_rfl
attribute [simp] Tryd.underlying30
@[simp] theorem sz_31 : szOf Tryd.prog 31 = 1 := by kernel_rfl
@[simp] theorem ag_31 : aggT Tryd.prog 31 = some false := by kernel_rfl
@[simp] theorem by_31 : bytesOf Tryd.prog 31 = 8 := by kernel_rfl
attribute [simp] Tryd.underlying31
@[simp] theorem sz_32 : szOf Tryd.prog 32 = 1 := by kernel_rfl
@[simp] theorem ag_32 : aggT Tryd.prog 32 = some false := by kernel_rfl
@[simp] theorem by_32 : bytesOf Tryd.prog 32 = 8 := by kernel_rfl
attribute [simp] Tryd.underlying32
@[simp] theorem sz_33 : szOf Tryd.prog 33 = 1 := by kernel_rfl
@[simp] theorem ag_33 : aggT Tryd.prog 33 = some false := by kernel_rfl
@[simp] theorem by_33 : bytesOf Tryd.prog 33 = 0 := by kernel_rfl
attribute [simp] Tryd.underlying33
@[simp] theorem sz_34 : szOf Tryd.prog 34 = 1 := by kernel_rfl
@[simp] theorem ag_34 : aggT Tryd.prog 34 = some false := by kernel_rfl
@[simp] theorem by_34 : bytesOf Tryd.prog 34 = 8 := by kernel_rfl
attribute [simp] Tryd.underlying34
@[simp] theorem sz_35 : szOf Tryd.prog 35 = 1 := by kernel_rfl
@[simp] theorem ag_35 : aggT Tryd.prog 35 = some false := by kernel_rfl
@[simp] theorem by_35 : bytesOf Tryd.prog 35 = 4 := by kernel_rfl
attribute [simp] Tryd.underlying35
@[simp] theorem zr_35 : zerosOf Tryd.prog 35 = some [(.lit (.int Go.IntKind.u32 (0)))] := by kernel_rfl
@[simp] theorem sz_36 : szOf Tryd.prog 36 = 8 := by kernel_rfl
@[simp] theorem ag_36 : aggT Tryd.prog 36 = some true := by kernel_rfl
@[simp] theorem by_36 : bytesOf Tryd.prog 36 = 32 := by kernel_rfl
attribute [simp] Tryd.underlying36
@[simp] theorem pl_36 : placesOf Tryd.prog 36 = none := by kernel_rfl
@[simp] theorem zr_36 : zerosOf Tryd.prog 36 = some [(.lit (.int Go.IntKind.u32 (0))), (.lit (.int Go.IntKind.u32 (0))), (.lit (.int Go.IntKind.u32 (0))), (.lit (.int Go.IntKind.u32 (0))), (.lit (.int Go.IntKind.u32 (0))), (.lit (.int Go.IntKind.u32 (0))), (.lit (.int Go.IntKind.u32 (0))), (.lit (.int Go.IntKind.u32 (0)))] := by kernel_rfl
@[simp] theorem sz_37 : szOf Tryd.prog 37 = 8 := by kernel_rfl
@[simp] theorem ag_37 : aggT Tryd.prog 37 = some true := by kernel_rfl
@[simp] theorem by_37 : bytesOf Tryd.prog 37 = 32 := by kernel_rfl
attribute [simp] Tryd.underlying37
@[simp] theorem pl_37 : placesOf Tryd.prog 37 = none := by kernel_rfl
@[simp] theorem zr_37 : zerosOf Tryd.prog 37 = some [(.lit (.int Go.IntKind.u32 (0))), (.lit (.int Go.IntKind.u32 (0))), (.lit (.int Go.IntKind.u32 (0))), (.lit (.int Go.IntKind.u32 (0))), (.lit (.int Go.IntKind.u32 (0))), (.lit (.int Go.IntKind.u32 (0))), (.lit (.int Go.IntKind.u32 (0))), (.lit (.int Go.IntKind.u32 (0)))] := by kernel_rfl
@[simp] theorem sz_38 : szOf Tryd.prog 38 = 1 := by kernel_rfl
@[simp] theorem ag_38 : aggT Tryd.prog 38 = some false := by kernel_rfl
@[simp] theorem by_38 : bytesOf Tryd.prog 38 = 8 := by kernel_rfl
attribute [simp] Tryd.underlying38
@[simp] theorem sz_39 : szOf Tryd.prog 39 = 1 := by kernel_rfl
@[simp] theorem ag_39 : aggT Tryd.prog 39 = some false := by kernel_rfl
@[simp] theorem by_39 : bytesOf Tryd.prog 39 = 8 := by kernel_rfl
attribute [simp] Tryd.underlying39
@[simp] theorem zr_39 : zerosOf Tryd.prog 39 = some [(.lit (.int Go.IntKind.u64 (0)))] := by kernel_rfl
@[simp] theorem sz_40 : szOf Tryd.prog 40 = 10 := by kernel_rfl
@[simp] theorem ag_40 : aggT Tryd.prog 40 = some true := by kernel_rfl
@[simp] theorem by_40 : bytesOf Tryd.prog 40 = 64 := by kernel_rfl
attribute [simp] Tryd.underlying40
@[simp] theorem fl_40_0 : fldOf Tryd.prog 40 0 = some (0, 37) := by kernel_rfl
@[simp] theorem fl_40_1 : fldOf Tryd.prog 40 1 = some (8, 22) := by kernel_rfl
@[simp] theorem fl_40_2 : fldOf Tryd.prog 40 2 = some (9, 39) := by kernel_rfl
@[simp] theorem pl_40 : placesOf Tryd.prog 40 = some [(0, 8), (8, 1), (9, 1)] := by kernel_rfl
@[simp] theorem zr_40 : zerosOf Tryd.prog 40 = some [(.lit (.int Go.IntKind.u32 (0))), (.lit (.int Go.IntKind.u32 (0))), (.lit (.int Go.IntKind.u32 (0))), (.lit (.int Go.IntKind.u32 (0))), (.lit (.int Go.IntKind.u32 (0))), (.lit (.int Go.IntKind.u32 (0))), (.lit (.int Go.IntKind.u32 (0))), (.lit (.int Go.IntKind.u32 (0))), (.sl .imm true 0 []), (.lit (.int Go.IntKind.u64 (0)))] := by kernel_rfl
@[simp] theorem sz_41 : szOf Tryd.prog 41 = 10 := by kernel_rfl
@[simp] theorem ag_41 : aggT Tryd.prog 41 = some true := by kernel_rfl
@[simp] theorem by_41 : bytesOf Tryd.prog 41 = 64 := by kernel_rfl
attribute [simp] Tryd.underlying41
@[simp] theorem fl_41_0 : fldOf Tryd.prog 41 0 = some (0, 37) := by kernel_rfl
@[simp] theorem fl_41_1 : fldOf Tryd.prog 41 1 = some (8, 22) := by kernel_rfl
@[simp] theorem fl_41_2 : fldOf Tryd.prog 41 2 = some (9, 39) := by kernel_rfl
@[simp] theorem pl_41 : placesOf Tryd.prog 41 = some [(0, 8), (8, 1), (9, 1)] := by kernel_rfl
@[simp] theorem zr_41 : zerosOf Tryd.prog 41 = some [(.lit (.int Go.IntKind.u32 (0))), (.lit (.int Go.IntKind.u32 (0))), (.lit (.int Go.IntKind.u32 (0))), (.lit (.int Go.IntKind.u32 (0))), (.lit (.int Go.IntKind.u32 (0))), (.lit (.int Go.IntKind.u32 (0))), (.lit (.int Go.IntKind.u32 (0))), (.lit (.int Go.IntKind.u32 (0))), (.sl .imm true 0 []), (.lit (.int Go.IntKind.u64 (0)))] := by kernel_rfl
@[simp] theorem sz_42 : szOf Tryd.prog 42 = 1 := by kernel_rfl
@[simp] theorem ag_42 : aggT Tryd.prog 42 = some false := by kernel_rfl
@[simp] theorem by_42 : bytesOf Tryd.prog 42 = 8 := by kernel_rfl
attribute [simp] Tryd.underlying42
@[simp] theorem sz_43 : szOf Tryd.prog 43 = 1 := by kernel_rfl
@[simp] theorem ag_43 : aggT Tryd.prog 43 = some false := by kernel_rfl
@[simp] theorem by_43 : bytesOf Tryd.prog 43 = 8 := by kernel_rfl
attribute [simp] Tryd.underlying43
@[simp] theorem sz_44 : szOf Tryd.prog 44 = 1 := by kernel_rfl
@[simp] theorem ag_44 : aggT Tryd.prog 44 = some false := by kernel_rfl
@[simp] theorem by_44 : bytesOf Tryd.prog 44 = 8 := by kernel_rfl
attribute [simp] Tryd.underlying44
@[simp] theorem sz_45 : szOf Tryd.prog 45 = 1 := by kernel_rfl
@[simp] theorem ag_45 : aggT Tryd.prog 45 = some false := by kernel_rfl
@[simp] theorem by_45 : bytesOf Tryd.prog 45 = 8 := by kernel_rfl
attribute [simp] Tryd.underlying45
@[simp] theorem sz_46 : szOf Tryd.prog 46 = 1 := by kernel_rfl
@[simp] theorem ag_46 : aggT Tryd.prog 46 = some false := by kernel_rfl
@[simp] theorem by_46 : bytesOf Tryd.prog 46 = 8 := by kernel_rfl
attribute [simp] Tryd.underlying46
@[simp] theorem sz_47 : szOf Tryd.prog 47 = 1 := by kernel_rfl
@[simp] theorem ag_47 : aggT Tryd.prog 47 = some false := by kernel_rfl
@[simp] theorem by_47 : bytesOf Tryd.prog 47 = 8 := by kernel_rfl
attribute [simp] Tryd.underlying47
@[simp] theorem sz_48 : szOf Tryd.prog 48 = 1 := by kernel_rfl
@[simp] theorem ag_48 : aggT Tryd.prog 48 = some false := by kernel_rfl
@[simp] theorem by_48 : bytesOf Tryd.prog 48 = 8 := by kernel_rfl
attribute [simp] Tryd.underlying48
@[simp] theorem zr_48 : zerosOf Tryd.prog 48 = some [(.lit (.int Go.IntKind.u64 (0)))] := by kernel_rfl
@[simp] theorem sz_49 : szOf Tryd.prog 49 = 1 := by kernel_rfl
@[simp] theorem ag_49 : aggT Tryd.prog 49 = some false := by kernel_rfl
@[simp] theorem by_49 : bytesOf Tryd.prog 49 = 8 := by kernel_rfl
attribute [simp] Tryd.underlying49
@[simp] theorem zr_49 : zerosOf Tryd.prog 49 = some [(.lit (.pointer none))] := by kernel_rfl
@[simp] theorem sz_50 : szOf Tryd.prog 50 = 2 := by kernel_rfl
@[simp] theorem ag_50 : aggT Tryd.prog 50 = some true := by kernel_rfl
@[simp] theorem by_50 : bytesOf Tryd.prog 50 = 32 := by kernel_rfl
attribute [simp] Tryd.underlying50
@[simp] theorem fl_50_0 : fldOf Tryd.prog 50 0 = some (0, 49) := by kernel_rfl
@[simp] theorem fl_50_1 : fldOf Tryd.prog 50 1 = some (1, 22) := by kernel_rfl
@[simp] theorem pl_50 : placesOf Tryd.prog 50 = some [(0, 1), (1, 1)] := by kernel_rfl
@[simp] theorem zr_50 : zerosOf Tryd.prog 50 = some [(.lit (.pointer none)), (.sl .imm true 0 [])] := by kernel_rfl
@[simp] theorem sz_51 : szOf Tryd.prog 51 = 2 := by kernel_rfl
@[simp] theorem ag_51 : aggT Tryd.prog 51 = some true := by kernel_rfl
@[simp] theorem by_51 : bytesOf Tryd.prog 51 = 32 := by kernel_rfl
attribute [simp] Tryd.underlying51
@[simp] theorem fl_51_0 : fldOf Tryd.prog 51 0 = some (0, 49) := by kernel_rfl
@[simp] theorem fl_51_1 : fldOf Tryd.prog 51 1 = some (1, 22) := by kernel_rfl
@[simp] theorem pl_51 : placesOf Tryd.prog 51 = some [(0, 1), (1, 1)] := by kernel_rfl
@[simp] theorem zr_51 : zerosOf Tryd.prog 51 = some [(.lit (.pointer none)), (.sl .imm true 0 [])] := by kernel_rfl
@[simp] theorem sz_52 : szOf Tryd.prog 52 = 1 := by kernel_rfl
@[simp] theorem ag_52 : aggT Tryd.prog 52 = some false := by kernel_rfl
@[simp] theorem by_52 : bytesOf Tryd.prog 52 = 16 := by kernel_rfl
attribute [simp] Tryd.underlying52
@[simp] theorem sz_53 : szOf Tryd.prog 53 = 1 := by kernel_rfl
@[simp] theorem ag_53 : aggT Tryd.prog 53 = some false := by kernel_rfl
@[simp] theorem by_53 : bytesOf Tryd.prog 53 = 16 := by kernel_rfl
attribute [simp] Tryd.underlying53
@[simp] theorem sz_54 : szOf Tryd.prog 54 = 1 := by kernel_rfl
@[simp] theorem ag_54 : aggT Tryd.prog 54 = some false := by kernel_rfl
@[simp] theorem by_54 : bytesOf Tryd.prog 54 = 8 := by kernel_rfl
attribute [simp] Tryd.underlying54
@[simp] theorem sz_55 : szOf Tryd.prog 55 = 1 := by kernel_rfl
@[simp] theorem ag_55 : aggT Tryd.prog 55 = some false := by kernel_rfl
@[simp] theorem by_55 : bytesOf Tryd.prog 55 = 8 := by kernel_rfl
attribute [simp] Tryd.underlying55
@[simp] theorem sz_56 : szOf Tryd.prog 56 = 1 := by kernel_rfl
@[simp] theorem ag_56 : aggT Tryd.prog 56 = some false := by kernel_rfl
@[simp] theorem by_56 : bytesOf Tryd.prog 56 = 8 := by kernel_rfl
attribute [simp] Tryd.underlying56
@[simp] theorem sz_57 : szOf Tryd.prog 57 = 1 := by kernel_rfl
@[simp] theorem ag_57 : aggT Tryd.prog 57 = some false := by kernel_rfl
@[simp] theorem by_57 : bytesOf Tryd.prog 57 = 24 := by kernel_rfl
attribute [simp] Tryd.underlying57
@[simp] theorem el_57 : Go.Sy.elemOf Tryd.prog 57 = some 22 := by kernel_rfl
@[simp] theorem zr_57 : zerosOf Tryd.prog 57 = some [(.sl .imm true 0 [])] := by kernel_rfl
@[simp] theorem sz_58 : szOf Tryd.prog 58 = 1 := by kernel_rfl
@[simp] theorem ag_58 : aggT Tryd.prog 58 = some false := by kernel_rfl
@[simp] theorem by_58 : bytesOf Tryd.prog 58 = 8 := by kernel_rfl
attribute [simp] Tryd.underlying58
@[simp] theorem sz_59 : szOf Tryd.prog 59 = 64 := by kernel_rfl
@[simp] theorem ag_59 : aggT Tryd.prog 59 = some true := by kernel_rfl
@[simp] theorem by_59 : bytesOf Tryd.prog 59 = 256 := by kernel_rfl
attribute [simp] Tryd.underlying59
@[simp] theorem zr_59 : zerosOf Tryd.prog 59 = some (List.replicate 64 (.lit (.int Go.IntKind.u32 0))) := by kernel_rfl
@[simp] theorem sz_60 : szOf Tryd.prog 60 = 1 := by kernel_rfl
@[simp] theorem ag_60 : aggT Tryd.prog 60 = some false := by kernel_rfl
@[simp] theorem by_60 : bytesOf Tryd.prog 60 = 8 := by kernel_rfl
attribute [simp] Tryd.underlying60
@[simp] theorem sz_61 : szOf Tryd.prog 61 = 1 := by kernel_rfl
@[simp] theorem ag_61 : aggT Tryd.prog 61 = some false := by kernel_rfl
@[simp] theorem by_61 : bytesOf Tryd.prog 61 = 8 := by kernel_rfl
attribute [simp] Tryd.underlying61
@[simp] theorem sz_62 : szOf Tryd.prog 62 = 1 := by kernel_rfl
@[simp] theorem ag_62 : aggT Tryd.prog 62 = some false := by kernel_rfl
@[simp] theorem by_62 : bytesOf Tryd.prog 62 = 8 := by kernel_rfl
attribute [simp] Tryd.underlying62
@[simp] theorem sz_63 : szOf Tryd.prog 63 = 1 := by kernel_rfl
@[simp] theorem ag_63 : aggT Tryd.prog 63 = some false := by kernel_rfl
@[simp] theorem by_63 : bytesOf Tryd.prog 63 = 8 := by kernel_rfl
attribute [simp] Tryd.underlying63
@[simp] theorem zr_63 : zerosOf Tryd.prog 63 = some [(.lit (.pointer none))] := by kernel_rfl
@[simp] theorem sz_64 : szOf Tryd.prog 64 = 1 := by kernel_rfl
@[simp] theorem ag_64 : aggT Tryd.prog 64 = some false := by kernel_rfl
@[simp] theorem by_64 : bytesOf Tryd.prog 64 = 8 := by kernel_rfl
attribute [simp] Tryd.underlying64
@[simp] theorem sz_65 : szOf Tryd.prog 65 = 1 := by kernel_rfl
@[simp] theorem ag_65 : aggT Tryd.prog 65 = some false := by kernel_rfl
@[simp] theorem by_65 : bytesOf Tryd.prog 65 = 8 := by kernel_rfl
attribute [simp] Tryd.underlying65
@[simp] theorem zr_65 : zerosOf Tryd.prog 65 = some [(.lit (.pointer none))] := by kernel_rfl
@[simp] theorem sz_66 : szOf Tryd.prog 66 = 1 := by kernel_rfl
@[simp] theorem ag_66 : aggT Tryd.prog 66 = some false := by kernel_rfl
@[simp] theorem by_66 : bytesOf Tryd.prog 66 = 8 := by kernel_rfl
attribute [simp] Tryd.underlying66
@[simp] theorem sz_67 : szOf Tryd.prog 67 = 4 := by kernel_rfl
@[simp] theorem ag_67 : aggT Tryd.prog 67 = some true := by kernel_rfl
@[simp] theorem by_67 : bytesOf Tryd.prog 67 = 40 := by kernel_rfl
attribute [simp] Tryd.underlying67
@[simp] theorem fl_67_0 : fldOf Tryd.prog 67 0 = some (0, 17) := by kernel_rfl
@[simp] theorem fl_67_1 : fldOf Tryd.prog 67 1 = some (1, 17) := by kernel_rfl
@[simp] theorem fl_67_2 : fldOf Tryd.prog 67 2 = some (2, 17) := by kernel_rfl
@[simp] theorem fl_67_3 : fldOf Tryd.prog 67 3 = some (3, 9) := by kernel_rfl
@[simp] theorem pl_67 : placesOf Tryd.prog 67 = some [(0, 1), (1, 1), (2, 1), (3, 1)] := by kernel_rfl
@[simp] theorem zr_67 : zerosOf Tryd.prog 67 = some [(.lit (.pointer none)), (.lit (.pointer none)), (.lit (.pointer none)), (.lit (.string ByteArray.empty))] := by kernel_rfl
@[simp] theorem sz_68 : szOf Tryd.prog 68 = 4 := by kernel_rfl
@[simp] theorem ag_68 : aggT Tryd.prog 68 = some true := by kernel_rfl
@[simp] theorem by_68 : bytesOf Tryd.prog 68 = 40 := by kernel_rfl
attribute [simp] Tryd.underlying68
@[simp] theorem fl_68_0 : fldOf Tryd.prog 68 0 = some (0, 17) := by kernel_rfl
@[simp] theorem fl_68_1 : fldOf Tryd.prog 68 1 = some (1, 17) := by kernel_rfl
@[simp] theorem fl_68_2 : fldOf Tryd.prog 68 2 = some (2, 17) := by kernel_rfl
@[simp] theorem fl_68_3 : fldOf Tryd.prog 68 3 = some (3, 9) := by kernel_rfl
@[simp] theorem pl_68 : placesOf Tryd.prog 68 = some [(0, 1), (1, 1), (2, 1), (3, 1)] := by kernel_rfl
@[simp] theorem zr_68 : zerosOf Tryd.prog 68 = some [(.lit (.pointer none)), (.lit (.pointer none)), (.lit (.pointer none)), (.lit (.string ByteArray.empty))] := by kernel_rfl
@[simp] theorem sz_69 : szOf Tryd.prog 69 = 0 := by kernel_rfl
@[simp] theorem ag_69 : aggT Tryd.prog 69 = some true := by kernel_rfl
@[simp] theorem by_69 : bytesOf Tryd.prog 69 = 0 := by kernel_rfl
attribute [simp] Tryd.underlying69
@[simp] theorem pl_69 : placesOf Tryd.prog 69 = none := by kernel_rfl
@[simp] theorem zr_69 : zerosOf Tryd.prog 69 = some [] := by kernel_rfl
@[simp] theorem sz_70 : szOf Tryd.prog 70 = 0 := by kernel_rfl
@[simp] theorem ag_70 : aggT Tryd.prog 70 = some true := by kernel_rfl
@[simp] theorem by_70 : bytesOf Tryd.prog 70 = 0 := by kernel_rfl
attribute [simp] Tryd.underlying70
@[simp] theorem fl_70_0 : fldOf Tryd.prog 70 0 = some (0, 69) := by kernel_rfl
@[simp] theorem pl_70 : placesOf Tryd.prog 70 = some [(0, 0)] := by kernel_rfl
@[simp] theorem zr_70 : zerosOf Tryd.prog 70 = some [] := by kernel_rfl
@[simp] theorem sz_71 : szOf Tryd.prog 71 = 0 := by kernel_rfl
@[simp] theorem ag_71 : aggT Tryd.prog 71 = some true := by kernel_rfl
@[simp] theorem by_71 : bytesOf Tryd.prog 71 = 0 := by kernel_rfl
attribute [simp] Tryd.underlying71
@[simp] theorem fl_71_0 : fldOf Tryd.prog 71 0 = some (0, 69) := by kernel_rfl
@[simp] theorem pl_71 : placesOf Tryd.prog 71 = some [(0, 0)] := by kernel_rfl
@[simp] theorem zr_71 : zerosOf Tryd.prog 71 = some [] := by kernel_rfl
@[simp] theorem sz_72 : szOf Tryd.prog 72 = 1 := by kernel_rfl
@[simp] theorem ag_72 : aggT Tryd.prog 72 = some false := by kernel_rfl
@[simp] theorem by_72 : bytesOf Tryd.prog 72 = 8 := by kernel_rfl
attribute [simp] Tryd.underlying72
@[simp] theorem sz_73 : szOf Tryd.prog 73 = 1 := by kernel_rfl
@[simp] theorem ag_73 : aggT Tryd.prog 73 = some false := by kernel_rfl
@[simp] theorem by_73 : bytesOf Tryd.prog 73 = 1 := by kernel_rfl
attribute [simp] Tryd.underlying73
@[simp] theorem zr_73 : zerosOf Tryd.prog 73 = some [(.lit (.int Go.IntKind.u8 (0)))] := by kernel_rfl
@[simp] theorem sz_74 : szOf Tryd.prog 74 = 1 := by kernel_rfl
@[simp] theorem ag_74 : aggT Tryd.prog 74 = some false := by kernel_rfl
@[simp] theorem by_74 : bytesOf Tryd.prog 74 = 1 := by kernel_rfl
attribute [simp] Tryd.underlying74
@[simp] theorem zr_74 : zerosOf Tryd.prog 74 = some [(.lit (.int Go.IntKind.u8 (0)))] := by kernel_rfl
@[simp] theorem sz_75 : szOf Tryd.prog 75 = 1 := by kernel_rfl
@[simp] theorem ag_75 : aggT Tryd.prog 75 = some false := by kernel_rfl
@[simp] theorem by_75 : bytesOf Tryd.prog 75 = 8 := by kernel_rfl
attribute [simp] Tryd.underlying75
@[simp] theorem sz_76 : szOf Tryd.prog 76 = 1 := by kernel_rfl
@[simp] theorem ag_76 : aggT Tryd.prog 76 = some false := by kernel_rfl
@[simp] theorem by_76 : bytesOf Tryd.prog 76 = 4 := by kernel_rfl
attribute [simp] Tryd.underlying76
@[simp] theorem zr_76 : zerosOf Tryd.prog 76 = some [(.lit (.int Go.IntKind.i32 (0)))] := by kernel_rfl
@[simp] theorem sz_77 : szOf Tryd.prog 77 = 1 := by kernel_rfl
@[simp] theorem ag_77 : aggT Tryd.prog 77 = some false := by kernel_rfl
@[simp] theorem by_77 : bytesOf Tryd.prog 77 = 4 := by kernel_rfl
attribute [simp] Tryd.underlying77
@[simp] theorem zr_77 : zerosOf Tryd.prog 77 = some [(.lit (.int Go.IntKind.i32 (0)))] := by kernel_rfl
@[simp] theorem sz_78 : szOf Tryd.prog 78 = 11 := by kernel_rfl
@[simp] theorem ag_78 : aggT Tryd.prog 78 = some true := by kernel_rfl
@[simp] theorem by_78 : bytesOf Tryd.prog 78 = 48 := by kernel_rfl
attribute [simp] Tryd.underlying78
@[simp] theorem fl_78_0 : fldOf Tryd.prog 78 0 = some (0, 12) := by kernel_rfl
@[simp] theorem fl_78_1 : fldOf Tryd.prog 78 1 = some (1, 12) := by kernel_rfl
@[simp] theorem fl_78_2 : fldOf Tryd.prog 78 2 = some (2, 35) := by kernel_rfl
@[simp] theorem fl_78_3 : fldOf Tryd.prog 78 3 = some (3, 73) := by kernel_rfl
@[simp] theorem fl_78_4 : fldOf Tryd.prog 78 4 = some (4, 5) := by kernel_rfl
@[simp] theorem fl_78_5 : fldOf Tryd.prog 78 5 = some (5, 5) := by kernel_rfl
@[simp] theorem fl_78_6 : fldOf Tryd.prog 78 6 = some (6, 74) := by kernel_rfl
@[simp] theorem fl_78_7 : fldOf Tryd.prog 78 7 = some (7, 75) := by kernel_rfl
@[simp] theorem fl_78_8 : fldOf Tryd.prog 78 8 = some (8, 63) := by kernel_rfl
@[simp] theorem fl_78_9 : fldOf Tryd.prog 78 9 = some (9, 76) := by kernel_rfl
@[simp] theorem fl_78_10 : fldOf Tryd.prog 78 10 = some (10, 77) := by kernel_rfl
@[simp] theorem pl_78 : placesOf Tryd.prog 78 = some [(0, 1), (1, 1), (2, 1), (3, 1), (4, 1), (5, 1), (6, 1), (7, 1), (8, 1), (9, 1), (10, 1)] := by kernel_rfl
@[simp] theorem sz_79 : szOf Tryd.prog 79 = 11 := by kernel_rfl
@[simp] theorem ag_79 : aggT Tryd.prog 79 = some true := by kernel_rfl
@[simp] theorem by_79 : bytesOf Tryd.prog 79 = 48 := by kernel_rfl
attribute [simp] Tryd.underlying79
@[simp] theorem fl_79_0 : fldOf Tryd.prog 79 0 = some (0, 12) := by kernel_rfl
@[simp] theorem fl_79_1 : fldOf Tryd.prog 79 1 = some (1, 12) := by kernel_rfl
@[simp] theorem fl_79_2 : fldOf Tryd.prog 79 2 = some (2, 35) := by kernel_rfl
@[simp] theorem fl_79_3 : fldOf Tryd.prog 79 3 = some (3, 73) := by kernel_rfl
@[simp] theorem fl_79_4 : fldOf Tryd.prog 79 4 = some (4, 5) := by kernel_rfl
@[simp] theorem fl_79_5 : fldOf Tryd.prog 79 5 = some (5, 5) := by kernel_rfl
@[simp] theorem fl_79_6 : fldOf Tryd.prog 79 6 = some (6, 74) := by kernel_rfl
@[simp] theorem fl_79_7 : fldOf Tryd.prog 79 7 = some (7, 75) := by kernel_rfl
@[simp] theorem fl_79_8 : fldOf Tryd.prog 79 8 = some (8, 63) := by kernel_rfl
@[simp] theorem fl_79_9 : fldOf Tryd.prog 79 9 = some (9, 76) := by kernel_rfl
@[simp] theorem fl_79_10 : fldOf Tryd.prog 79 10 = some (10, 77) := by kernel_rfl
@[simp] theorem pl_79 : placesOf Tryd.prog 79 = some [(0, 1), (1, 1), (2, 1), (3, 1), (4, 1), (5, 1), (6, 1), (7, 1), (8, 1), (9, 1), (10, 1)] := by kernel_rfl

end Go.Proofs.YtdbdoilfimiihaaDoor
