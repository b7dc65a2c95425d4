/- The evaluations of the regions that draw their order, and the types' facts (printed by a program of ours). (and what stands on it) -/
import Derived.Test.YtekokchejkjjjaaDoorN3
import Derived.Test.YtekokchejkjjjaaDoorProg
import Derived.KernelRfl
set_option linter.unusedSimpArgs false
set_option linter.unusedVariables false

/-! The evaluations of the regions that draw their order, and the types' facts (printed by a program of ours). -/
namespace Go.Proofs.YtekokchejkjjjaaDoor
open Go.Sy
def sch4 : List (Nat × Go.Sy.Sch) := [(11, ⟨[0, 0, 3, 7, 15, 31, 15, 79, 255, 511, 1023, 2047, 4095, 2047, 10239, 26623, 59391, 131071, 262143, 524287], [(true, 0), (true, 1), (true, 2), (true, 3), (true, 4), (true, 5), (true, 6), (true, 7), (true, 8), (true, 9), (true, 10), (true, 11), (true, 13), (true, 14), (true, 15), (true, 16)], (.alt 12 [(false, 13), (false, 14), (false, 15), (false, 16)] (.alt 17 [(true, 18), (true, 19)] .fin .nil) .nil)⟩)]
@[simp] theorem lk4_11 : lookS sch4 11 = some ⟨[0, 0, 3, 7, 15, 31, 15, 79, 255, 511, 1023, 2047, 4095, 2047, 10239, 26623, 59391, 131071, 262143, 524287], [(true, 0), (true, 1), (true, 2), (true, 3), (true, 4), (true, 5), (true, 6), (true, 7), (true, 8), (true, 9), (true, 10), (true, 11), (true, 13), (true, 14), (true, 15), (true, 16)], (.alt 12 [(false, 13), (false, 14), (false, 15), (false, 16)] (.alt 17 [(true, 18), (true, 19)] .fin .nil) .nil)⟩ := (rfl)
def sch7 : List (Nat × Go.Sy.Sch) := [(20, ⟨[0, 0, 3, 7, 15, 15, 63, 127, 255, 511, 1023, 511, 2559, 6655, 14847, 32767, 65535, 131071, 262143, 524287, 262143, 1310719, 3407871, 7602175, 16777215, 33554431, 67108863], [(true, 0), (true, 1), (true, 2), (true, 3), (true, 4), (true, 5), (true, 6), (true, 7), (true, 8), (true, 9), (true, 11), (true, 12), (true, 13), (true, 14)], (.alt 10 [(false, 11), (false, 12), (false, 13), (false, 14), (true, 15), (true, 16), (true, 17), (true, 18), (true, 20), (true, 21), (true, 22), (true, 23)] (.alt 19 [(false, 20), (false, 21), (false, 22), (false, 23)] (.alt 24 [(true, 25), (true, 26)] .fin .nil) .nil) .nil)⟩)]
@[simp] theorem lk7_20 : lookS sch7 20 = some ⟨[0, 0, 3, 7, 15, 15, 63, 127, 255, 511, 1023, 511, 2559, 6655, 14847, 32767, 65535, 131071, 262143, 524287, 262143, 1310719, 3407871, 7602175, 16777215, 33554431, 67108863], [(true, 0), (true, 1), (true, 2), (true, 3), (true, 4), (true, 5), (true, 6), (true, 7), (true, 8), (true, 9), (true, 11), (true, 12), (true, 13), (true, 14)], (.alt 10 [(false, 11), (false, 12), (false, 13), (false, 14), (true, 15), (true, 16), (true, 17), (true, 18), (true, 20), (true, 21), (true, 22), (true, 23)] (.alt 19 [(false, 20), (false, 21), (false, 22), (false, 23)] (.alt 24 [(true, 25), (true, 26)] .fin .nil) .nil) .nil)⟩ := (rfl)
def sch13 : List (Nat × Go.Sy.Sch) := [(11, ⟨[0, 0, 3, 7, 0, 0, 48, 112, 255, 511], [(true, 0), (true, 1), (true, 2), (true, 3), (true, 4), (true, 5), (true, 6), (true, 7)], (.alt 8 [(true, 9)] .fin .nil)⟩)]
@[simp] theorem lk13_11 : lookS sch13 11 = some ⟨[0, 0, 3, 7, 0, 0, 48, 112, 255, 511], [(true, 0), (true, 1), (true, 2), (true, 3), (true, 4), (true, 5), (true, 6), (true, 7)], (.alt 8 [(true, 9)] .fin .nil)⟩ := (rfl)
def sch18 : List (Nat × Go.Sy.Sch) := [(11, ⟨[0, 1, 3, 7, 15, 15, 47, 111, 255, 511, 1023], [(true, 0), (true, 1), (true, 2), (true, 3), (true, 4), (true, 5), (true, 6)], (.alt 7 [(false, 4)] (.alt 8 [(true, 9), (true, 10)] .fin .nil) .nil)⟩), (15, ⟨[0, 0, 2, 6, 0, 16, 63], [(true, 0), (true, 1), (true, 2), (true, 4), (true, 5)], (.alt 3 [(false, 0), (false, 4), (false, 5)] (.alt 6 [] .fin .nil) .nil)⟩), (17, ⟨[0, 0, 3], [(true, 0), (true, 1), (true, 2)], .fin⟩), (18, ⟨[0, 0, 0, 6, 15, 31], [(true, 0), (true, 1), (true, 2)], (.alt 3 [(false, 0), (true, 4), (true, 5)] .fin .nil)⟩)]
@[simp] theorem lk18_11 : lookS sch18 11 = some ⟨[0, 1, 3, 7, 15, 15, 47, 111, 255, 511, 1023], [(true, 0), (true, 1), (true, 2), (true, 3), (true, 4), (true, 5), (true, 6)], (.alt 7 [(false, 4)] (.alt 8 [(true, 9), (true, 10)] .fin .nil) .nil)⟩ := (rfl)
@[simp] theorem lk18_15 : lookS sch18 15 = some ⟨[0, 0, 2, 6, 0, 16, 63], [(true, 0), (true, 1), (true, 2), (true, 4), (true, 5)], (.alt 3 [(false, 0), (false, 4), (false, 5)] (.alt 6 [] .fin .nil) .nil)⟩ := (rfl)
@[simp] theorem lk18_17 : lookS sch18 17 = some ⟨[0, 0, 3], [(true, 0), (true, 1), (true, 2)], .fin⟩ := (rfl)
@[simp] theorem lk18_18 : lookS sch18 18 = some ⟨[0, 0, 0, 6, 15, 31], [(true, 0), (true, 1), (true, 2)], (.alt 3 [(false, 0), (true, 4), (true, 5)] .fin .nil)⟩ := (rfl)
def sch20 : List (Nat × Go.Sy.Sch) := [(6, ⟨[0, 1, 3, 7, 0, 0, 48, 127, 255], [(true, 0), (true, 1), (true, 2), (true, 3), (true, 4), (true, 5)], (.alt 6 [(false, 0), (false, 1), (false, 2), (false, 3)] (.alt 7 [(true, 8)] .fin .nil) .nil)⟩)]
@[simp] theorem lk20_6 : lookS sch20 6 = some ⟨[0, 1, 3, 7, 0, 0, 48, 127, 255], [(true, 0), (true, 1), (true, 2), (true, 3), (true, 4), (true, 5)], (.alt 6 [(false, 0), (false, 1), (false, 2), (false, 3)] (.alt 7 [(true, 8)] .fin .nil) .nil)⟩ := (rfl)
def sch22 : List (Nat × Go.Sy.Sch) := [(13, ⟨[0, 1, 3, 0, 8, 0, 56, 120, 0, 376, 1016, 2047, 0, 0, 8192, 24576, 61440, 0, 131072, 0, 524288, 1572864, 4063232, 8384512, 16777215, 0, 33554432, 100663296, 268435455, 0, 0, 1610612736, 3758096384, 8589934591, 17179869183], [(true, 0), (true, 1), (true, 2), (true, 3), (true, 5), (true, 8), (true, 12), (true, 13), (true, 14), (true, 15), (true, 16), (true, 17), (true, 18), (true, 19), (true, 20), (true, 21), (true, 22), (true, 23), (true, 25), (true, 26), (true, 27), (true, 29), (true, 30), (true, 31), (true, 32)], (.alt 4 [(false, 0), (false, 1), (false, 2), (false, 5), (false, 8), (false, 12), (false, 13), (false, 14), (false, 15), (false, 16), (false, 17), (false, 18), (false, 19), (false, 20), (false, 21), (false, 22), (false, 23), (false, 25), (false, 26), (false, 27), (false, 29), (false, 30), (false, 31), (false, 32)] (.alt 6 [(false, 0), (false, 1), (false, 2), (true, 7), (false, 8), (false, 12), (false, 13), (false, 14), (false, 15), (false, 16), (false, 17), (false, 18), (false, 19), (false, 20), (false, 21), (false, 22), (false, 23), (false, 25), (false, 26), (false, 27), (false, 29), (false, 30), (false, 31), (false, 32)] (.alt 9 [(false, 0), (false, 1), (false, 2), (false, 7), (true, 10), (true, 11), (false, 12), (false, 13), (false, 14), (false, 15), (false, 16), (false, 17), (false, 18), (false, 19), (false, 20), (false, 21), (false, 22), (false, 23), (true, 24), (false, 25), (false, 26), (false, 27), (true, 28), (false, 29), (false, 30), (false, 31), (false, 32), (true, 33), (true, 34)] .fin .nil) .nil) .nil)⟩), (14, ⟨[0, 1, 0, 7, 15, 0, 47, 127, 0, 0, 512, 1536, 3840, 0, 0, 16384, 49152, 122880, 261888, 0, 524288, 1572864, 0, 4194304, 12582912, 33030144, 67108608, 134217727, 268435455], [(true, 0), (true, 2), (true, 5), (true, 8), (true, 9), (true, 10), (true, 11), (true, 12), (true, 13), (true, 14), (true, 15), (true, 16), (true, 17), (true, 18), (true, 19), (true, 20), (true, 21), (true, 22), (true, 23), (true, 24), (true, 25), (true, 26)], (.alt 1 [(false, 2), (false, 5), (false, 8), (false, 9), (false, 10), (false, 11), (false, 12), (false, 13), (false, 14), (false, 15), (false, 16), (false, 17), (false, 18), (false, 19), (false, 20), (false, 21), (false, 22), (false, 23), (false, 24), (false, 25), (false, 26)] (.alt 3 [(true, 4), (false, 5), (false, 8), (false, 9), (false, 10), (false, 11), (false, 12), (false, 13), (false, 14), (false, 15), (false, 16), (false, 17), (false, 18), (false, 19), (false, 20), (false, 21), (false, 22), (false, 23), (false, 24), (false, 25), (false, 26)] (.alt 6 [(false, 4), (true, 7), (false, 8), (false, 9), (false, 10), (false, 11), (false, 12), (false, 13), (false, 14), (false, 15), (false, 16), (false, 17), (false, 18), (false, 19), (false, 20), (false, 21), (false, 22), (false, 23), (false, 24), (false, 25), (false, 26), (true, 27), (true, 28)] .fin .nil) .nil) .nil)⟩), (15, ⟨[0, 0, 3, 0, 0, 16, 48, 0, 128, 384, 0, 1024, 3072, 0, 15360, 0, 0, 65536, 196608, 0, 524288, 1572864, 4194303, 8388607], [(true, 0), (true, 1), (true, 2), (true, 3), (true, 4), (true, 5), (true, 6), (true, 7), (true, 8), (true, 9), (true, 10), (true, 11), (true, 12), (true, 13), (true, 14), (true, 15), (true, 16), (true, 17), (true, 18), (true, 19), (true, 20), (true, 21)], (.alt 22 [] (.alt 23 [] .fin .nil) .nil)⟩), (19, ⟨[0, 0, 0, 0, 12, 28, 0, 0, 192, 448, 1020, 2047, 4095], [(true, 0), (true, 1), (true, 2), (true, 3), (true, 4), (true, 5), (true, 6), (true, 7), (true, 8), (true, 9), (true, 10), (true, 11)], (.alt 12 [] .fin .nil)⟩), (24, ⟨[0, 0, 0, 6, 14, 30, 62, 0, 0, 384, 896, 1920, 3968, 8064, 0, 0, 49152, 114688, 245760, 507904, 1032192, 0, 0, 6291456, 14680064, 31457280, 65011712, 134217726, 268435455, 536870911], [(true, 0), (true, 1), (true, 2), (true, 3), (true, 4), (true, 5), (true, 6), (true, 7), (true, 8), (true, 9), (true, 10), (true, 11), (true, 12), (true, 13), (true, 14), (true, 15), (true, 16), (true, 17), (true, 18), (true, 19), (true, 20), (true, 21), (true, 22), (true, 23), (true, 24), (true, 25), (true, 26)], (.alt 27 [(false, 0)] (.alt 28 [] (.alt 29 [] .fin .nil) .nil) .nil)⟩)]
@[simp] theorem lk22_13 : lookS sch22 13 = some ⟨[0, 1, 3, 0, 8, 0, 56, 120, 0, 376, 1016, 2047, 0, 0, 8192, 24576, 61440, 0, 131072, 0, 524288, 1572864, 4063232, 8384512, 16777215, 0, 33554432, 100663296, 268435455, 0, 0, 1610612736, 3758096384, 8589934591, 17179869183], [(true, 0), (true, 1), (true, 2), (true, 3), (true, 5), (true, 8), (true, 12), (true, 13), (true, 14), (true, 15), (true, 16), (true, 17), (true, 18), (true, 19), (true, 20), (true, 21), (true, 22), (true, 23), (true, 25), (true, 26), (true, 27), (true, 29), (true, 30), (true, 31), (true, 32)], (.alt 4 [(false, 0), (false, 1), (false, 2), (false, 5), (false, 8), (false, 12), (false, 13), (false, 14), (false, 15), (false, 16), (false, 17), (false, 18), (false, 19), (false, 20), (false, 21), (false, 22), (false, 23), (false, 25), (false, 26), (false, 27), (false, 29), (false, 30), (false, 31), (false, 32)] (.alt 6 [(false, 0), (false, 1), (false, 2), (true, 7), (false, 8), (false, 12), (false, 13), (false, 14), (false, 15), (false, 16), (false, 17), (false, 18), (false, 19), (false, 20), (false, 21), (false, 22), (false, 23), (false, 25), (false, 26), (false, 27), (false, 29), (false, 30), (false, 31), (false, 32)] (.alt 9 [(false, 0), (false, 1), (false, 2), (false, 7), (true, 10), (true, 11), (false, 12), (false, 13), (false, 14), (false, 15), (false, 16), (false, 17), (false, 18), (false, 19), (false, 20), (false, 21), (false, 22), (false, 23), (true, 24), (false, 25), (false, 26), (false, 27), (true, 28), (false, 29), (false, 30), (false, 31), (false, 32), (true, 33), (true, 34)] .fin .nil) .nil) .nil)⟩ := (rfl)
@[simp] theorem lk22_14 : lookS sch22 14 = some ⟨[0, 1, 0, 7, 15, 0, 47, 127, 0, 0, 512, 1536, 3840, 0, 0, 16384, 49152, 122880, 261888, 0, 524288, 1572864, 0, 4194304, 12582912, 33030144, 67108608, 134217727, 268435455], [(true, 0), (true, 2), (true, 5), (true, 8), (true, 9), (true, 10), (true, 11), (true, 12), (true, 13), (true, 14), (true, 15), (true, 16), (true, 17), (true, 18), (true, 19), (true, 20), (true, 21), (true, 22), (true, 23), (true, 24), (true, 25), (true, 26)], (.alt 1 [(false, 2), (false, 5), (false, 8), (false, 9), (false, 10), (false, 11), (false, 12), (false, 13), (false, 14), (false, 15), (false, 16), (false, 17), (false, 18), (false, 19), (false, 20), (false, 21), (false, 22), (false, 23), (false, 24), (false, 25), (false, 26)] (.alt 3 [(true, 4), (false, 5), (false, 8), (false, 9), (false, 10), (false, 11), (false, 12), (false, 13), (false, 14), (false, 15), (false, 16), (false, 17), (false, 18), (false, 19), (false, 20), (false, 21), (false, 22), (false, 23), (false, 24), (false, 25), (false, 26)] (.alt 6 [(false, 4), (true, 7), (false, 8), (false, 9), (false, 10), (false, 11), (false, 12), (false, 13), (false, 14), (false, 15), (false, 16), (false, 17), (false, 18), (false, 19), (false, 20), (false, 21), (false, 22), (false, 23), (false, 24), (false, 25), (false, 26), (true, 27), (true, 28)] .fin .nil) .nil) .nil)⟩ := (rfl)
@[simp] theorem lk22_15 : lookS sch22 15 = some ⟨[0, 0, 3, 0, 0, 16, 48, 0, 128, 384, 0, 1024, 3072, 0, 15360, 0, 0, 65536, 196608, 0, 524288, 1572864, 4194303, 8388607], [(true, 0), (true, 1), (true, 2), (true, 3), (true, 4), (true, 5), (true, 6), (true, 7), (true, 8), (true, 9), (true, 10), (true, 11), (true, 12), (true, 13), (true, 14), (true, 15), (true, 16), (true, 17), (true, 18), (true, 19), (true, 20), (true, 21)], (.alt 22 [] (.alt 23 [] .fin .nil) .nil)⟩ := (rfl)
@[simp] theorem lk22_19 : lookS sch22 19 = some ⟨[0, 0, 0, 0, 12, 28, 0, 0, 192, 448, 1020, 2047, 4095], [(true, 0), (true, 1), (true, 2), (true, 3), (true, 4), (true, 5), (true, 6), (true, 7), (true, 8), (true, 9), (true, 10), (true, 11)], (.alt 12 [] .fin .nil)⟩ := (rfl)
@[simp] theorem lk22_24 : lookS sch22 24 = some ⟨[0, 0, 0, 6, 14, 30, 62, 0, 0, 384, 896, 1920, 3968, 8064, 0, 0, 49152, 114688, 245760, 507904, 1032192, 0, 0, 6291456, 14680064, 31457280, 65011712, 134217726, 268435455, 536870911], [(true, 0), (true, 1), (true, 2), (true, 3), (true, 4), (true, 5), (true, 6), (true, 7), (true, 8), (true, 9), (true, 10), (true, 11), (true, 12), (true, 13), (true, 14), (true, 15), (true, 16), (true, 17), (true, 18), (true, 19), (true, 20), (true, 21), (true, 22), (true, 23), (true, 24), (true, 25), (true, 26)], (.alt 27 [(false, 0)] (.alt 28 [] (.alt 29 [] .fin .nil) .nil) .nil)⟩ := (rfl)
def sch24 : List (Nat × Go.Sy.Sch) := [(3, ⟨[0, 1, 3, 7, 15, 0, 32, 127, 0, 256, 768, 1792, 4095], [(true, 0), (true, 1), (true, 2), (true, 3), (true, 4), (true, 5), (true, 6), (true, 7), (true, 8), (true, 9), (true, 10), (true, 11), (true, 12)], .fin⟩)]
@[simp] theorem lk24_3 : lookS sch24 3 = some ⟨[0, 1, 3, 7, 15, 0, 32, 127, 0, 256, 768, 1792, 4095], [(true, 0), (true, 1), (true, 2), (true, 3), (true, 4), (true, 5), (true, 6), (true, 7), (true, 8), (true, 9), (true, 10), (true, 11), (true, 12)], .fin⟩ := (rfl)
def sch25 : List (Nat × Go.Sy.Sch) := [(12, ⟨[0, 1, 3, 7, 0, 31], [(true, 0), (true, 1), (true, 2), (true, 3), (true, 4), (true, 5)], .fin⟩), (18, ⟨[0, 1, 3, 7, 0, 0, 32, 96, 224, 496, 0, 0, 2048, 6144, 14336, 31744, 0, 65536, 261120, 524287, 1048575], [(true, 0), (true, 1), (true, 2), (true, 3), (true, 4), (true, 5), (true, 6), (true, 7), (true, 8), (true, 9), (true, 10), (true, 11), (true, 12), (true, 13), (true, 14), (true, 15), (true, 16), (true, 17), (true, 18), (true, 19), (true, 20)], .fin⟩), (20, ⟨[0, 1, 0, 4, 12, 28, 0, 0, 128, 384, 896, 1984, 0, 4096, 16320, 0, 0, 65536, 196608, 458752, 1015808, 0, 2097152, 8355840, 16744448, 33554428, 67108860, 134217727], [(true, 0), (true, 1), (true, 2), (true, 3), (true, 4), (true, 5), (true, 6), (true, 7), (true, 8), (true, 9), (true, 10), (true, 11), (true, 12), (true, 13), (true, 14), (true, 15), (true, 16), (true, 17), (true, 18), (true, 19), (true, 20), (true, 21), (true, 22), (true, 23), (true, 24), (true, 25), (true, 26), (true, 27)], .fin⟩), (26, ⟨[0, 0, 2, 6, 14, 0, 32, 96, 254, 511, 1023, 2047], [(true, 0), (true, 1), (true, 2), (true, 3), (true, 4), (true, 5), (true, 6)], (.alt 7 [(false, 0), (false, 1), (false, 2), (false, 3), (false, 4)] (.alt 8 [(false, 0), (true, 9), (true, 10)] (.alt 11 [] .fin .nil) .nil) .nil)⟩)]
@[simp] theorem lk25_12 : lookS sch25 12 = some ⟨[0, 1, 3, 7, 0, 31], [(true, 0), (true, 1), (true, 2), (true, 3), (true, 4), (true, 5)], .fin⟩ := (rfl)
@[simp] theorem lk25_18 : lookS sch25 18 = some ⟨[0, 1, 3, 7, 0, 0, 32, 96, 224, 496, 0, 0, 2048, 6144, 14336, 31744, 0, 65536, 261120, 524287, 1048575], [(true, 0), (true, 1), (true, 2), (true, 3), (true, 4), (true, 5), (true, 6), (true, 7), (true, 8), (true, 9), (true, 10), (true, 11), (true, 12), (true, 13), (true, 14), (true, 15), (true, 16), (true, 17), (true, 18), (true, 19), (true, 20)], .fin⟩ := (rfl)
@[simp] theorem lk25_20 : lookS sch25 20 = some ⟨[0, 1, 0, 4, 12, 28, 0, 0, 128, 384, 896, 1984, 0, 4096, 16320, 0, 0, 65536, 196608, 458752, 1015808, 0, 2097152, 8355840, 16744448, 33554428, 67108860, 134217727], [(true, 0), (true, 1), (true, 2), (true, 3), (true, 4), (true, 5), (true, 6), (true, 7), (true, 8), (true, 9), (true, 10), (true, 11), (true, 12), (true, 13), (true, 14), (true, 15), (true, 16), (true, 17), (true, 18), (true, 19), (true, 20), (true, 21), (true, 22), (true, 23), (true, 24), (true, 25), (true, 26), (true, 27)], .fin⟩ := (rfl)
@[simp] theorem lk25_26 : lookS sch25 26 = some ⟨[0, 0, 2, 6, 14, 0, 32, 96, 254, 511, 1023, 2047], [(true, 0), (true, 1), (true, 2), (true, 3), (true, 4), (true, 5), (true, 6)], (.alt 7 [(false, 0), (false, 1), (false, 2), (false, 3), (false, 4)] (.alt 8 [(false, 0), (true, 9), (true, 10)] (.alt 11 [] .fin .nil) .nil) .nil)⟩ := (rfl)
def sch26 : List (Nat × Go.Sy.Sch) := [(6, ⟨[0, 0, 3, 7, 0, 0, 48, 112, 255], [(true, 0), (true, 1), (true, 2), (true, 3), (true, 4), (true, 5), (true, 6), (true, 7), (true, 8)], .fin⟩)]
@[simp] theorem lk26_6 : lookS sch26 6 = some ⟨[0, 0, 3, 7, 0, 0, 48, 112, 255], [(true, 0), (true, 1), (true, 2), (true, 3), (true, 4), (true, 5), (true, 6), (true, 7), (true, 8)], .fin⟩ := (rfl)
def sch28 : List (Nat × Go.Sy.Sch) := [(1, ⟨[0, 1, 0, 4, 12, 28, 60, 127, 255, 511, 1023, 511, 2559, 6655, 14847, 32767, 65535, 131071], [(true, 0), (true, 2), (true, 3), (true, 4), (true, 5), (true, 6)], (.alt 1 [(false, 2), (false, 3), (false, 4), (false, 5), (false, 6), (true, 7), (true, 8), (true, 9), (true, 11), (true, 12), (true, 13), (true, 14)] (.alt 10 [(false, 11), (false, 12), (false, 13), (false, 14)] (.alt 15 [(true, 16), (true, 17)] .fin .nil) .nil) .nil)⟩), (7, ⟨[0, 1, 3, 7, 15, 7, 39, 103, 231, 7, 999, 2023, 4095, 8191, 16383, 32767, 32767, 98303, 229375, 491519, 32767, 2064383, 4161535, 8388607, 16777215, 33554431], [(true, 0), (true, 1), (true, 2), (true, 3), (true, 4), (true, 5), (true, 6), (true, 7), (true, 8), (true, 9), (true, 10), (true, 11), (true, 12), (true, 13), (true, 14), (true, 15), (true, 16), (true, 17), (true, 18), (true, 19), (true, 20), (true, 21), (true, 22)], (.alt 23 [(true, 24), (true, 25)] .fin .nil)⟩)]
@[simp] theorem lk28_1 : lookS sch28 1 = some ⟨[0, 1, 0, 4, 12, 28, 60, 127, 255, 511, 1023, 511, 2559, 6655, 14847, 32767, 65535, 131071], [(true, 0), (true, 2), (true, 3), (true, 4), (true, 5), (true, 6)], (.alt 1 [(false, 2), (false, 3), (false, 4), (false, 5), (false, 6), (true, 7), (true, 8), (true, 9), (true, 11), (true, 12), (true, 13), (true, 14)] (.alt 10 [(false, 11), (false, 12), (false, 13), (false, 14)] (.alt 15 [(true, 16), (true, 17)] .fin .nil) .nil) .nil)⟩ := (rfl)
@[simp] theorem lk28_7 : lookS sch28 7 = some ⟨[0, 1, 3, 7, 15, 7, 39, 103, 231, 7, 999, 2023, 4095, 8191, 16383, 32767, 32767, 98303, 229375, 491519, 32767, 2064383, 4161535, 8388607, 16777215, 33554431], [(true, 0), (true, 1), (true, 2), (true, 3), (true, 4), (true, 5), (true, 6), (true, 7), (true, 8), (true, 9), (true, 10), (true, 11), (true, 12), (true, 13), (true, 14), (true, 15), (true, 16), (true, 17), (true, 18), (true, 19), (true, 20), (true, 21), (true, 22)], (.alt 23 [(true, 24), (true, 25)] .fin .nil)⟩ := (rfl)
def sch31 : List (Nat × Go.Sy.Sch) := [(6, ⟨[0, 0, 3, 7, 0, 0, 48, 112, 255], [(true, 0), (true, 1), (true, 2), (true, 3), (true, 4), (true, 5), (true, 6), (true, 7), (true, 8)], .fin⟩)]
@[simp] theorem lk31_6 : lookS sch31 6 = some ⟨[0, 0, 3, 7, 0, 0, 48, 112, 255], [(true, 0), (true, 1), (true, 2), (true, 3), (true, 4), (true, 5), (true, 6), (true, 7), (true, 8)], .fin⟩ := (rfl)
def sch33 : List (Nat × Go.Sy.Sch) := [(7, ⟨[0, 1, 3, 7, 0, 16, 63, 127], [(true, 0), (true, 1), (true, 2), (true, 3), (true, 4)], (.alt 5 [(false, 0), (false, 1), (false, 2), (false, 3)] (.alt 6 [(true, 7)] .fin .nil) .nil)⟩), (11, ⟨[0, 0, 2, 6, 14, 0, 32, 96, 254, 511, 1023, 2047], [(true, 0), (true, 1), (true, 2), (true, 3), (true, 4), (true, 5), (true, 6)], (.alt 7 [(false, 0), (false, 1), (false, 2), (false, 3), (false, 4)] (.alt 8 [(false, 0), (true, 9), (true, 10)] (.alt 11 [] .fin .nil) .nil) .nil)⟩)]
@[simp] theorem lk33_7 : lookS sch33 7 = some ⟨[0, 1, 3, 7, 0, 16, 63, 127], [(true, 0), (true, 1), (true, 2), (true, 3), (true, 4)], (.alt 5 [(false, 0), (false, 1), (false, 2), (false, 3)] (.alt 6 [(true, 7)] .fin .nil) .nil)⟩ := (rfl)
@[simp] theorem lk33_11 : lookS sch33 11 = some ⟨[0, 0, 2, 6, 14, 0, 32, 96, 254, 511, 1023, 2047], [(true, 0), (true, 1), (true, 2), (true, 3), (true, 4), (true, 5), (true, 6)], (.alt 7 [(false, 0), (false, 1), (false, 2), (false, 3), (false, 4)] (.alt 8 [(false, 0), (true, 9), (true, 10)] (.alt 11 [] .fin .nil) .nil) .nil)⟩ := (rfl)
def sch38 : List (Nat × Go.Sy.Sch) := [(7, ⟨[0, 0, 0, 6, 0, 16, 63, 127, 255, 255, 511, 2047], [(true, 0), (true, 1), (true, 2), (true, 3), (true, 4), (true, 5)], (.alt 6 [(true, 7), (true, 8), (true, 9), (true, 10), (true, 11)] .fin .nil)⟩)]
@[simp] theorem lk38_7 : lookS sch38 7 = some ⟨[0, 0, 0, 6, 0, 16, 63, 127, 255, 255, 511, 2047], [(true, 0), (true, 1), (true, 2), (true, 3), (true, 4), (true, 5)], (.alt 6 [(true, 7), (true, 8), (true, 9), (true, 10), (true, 11)] .fin .nil)⟩ := (rfl)
def sch41 : List (Nat × Go.Sy.Sch) := [(4, ⟨[0, 1, 3, 7, 0, 31], [(true, 0), (true, 1), (true, 2), (true, 3), (true, 4), (true, 5)], .fin⟩), (15, ⟨[0, 1, 3, 7, 0, 31], [(true, 0), (true, 1), (true, 2), (true, 3), (true, 4), (true, 5)], .fin⟩), (26, ⟨[0, 1, 0, 4, 15], [(true, 0), (true, 2), (true, 3)], (.alt 1 [(false, 2), (false, 3), (true, 4)] .fin .nil)⟩)]
@[simp] theorem lk41_4 : lookS sch41 4 = some ⟨[0, 1, 3, 7, 0, 31], [(true, 0), (true, 1), (true, 2), (true, 3), (true, 4), (true, 5)], .fin⟩ := (rfl)
@[simp] theorem lk41_15 : lookS sch41 15 = some ⟨[0, 1, 3, 7, 0, 31], [(true, 0), (true, 1), (true, 2), (true, 3), (true, 4), (true, 5)], .fin⟩ := (rfl)
@[simp] theorem lk41_26 : lookS sch41 26 = some ⟨[0, 1, 0, 4, 15], [(true, 0), (true, 2), (true, 3)], (.alt 1 [(false, 2), (false, 3), (true, 4)] .fin .nil)⟩ := (rfl)
def sch42 : List (Nat × Go.Sy.Sch) := [(6, ⟨[0, 0, 3, 7, 15, 0, 0, 96, 224, 480, 1023, 2047, 4095, 4095, 16383, 32767, 65535, 4095, 4095, 397311, 921599, 1970175, 4194303, 8388607, 16777215], [(true, 0), (true, 1), (true, 2), (true, 3), (true, 4), (true, 5), (true, 6), (true, 7), (true, 8), (true, 9), (true, 10), (true, 11), (true, 12), (true, 13), (true, 14), (true, 15), (true, 16), (true, 17), (true, 18), (true, 19), (true, 20), (true, 21)], (.alt 22 [(true, 23), (true, 24)] .fin .nil)⟩)]
@[simp] theorem lk42_6 : lookS sch42 6 = some ⟨[0, 0, 3, 7, 15, 0, 0, 96, 224, 480, 1023, 2047, 4095, 4095, 16383, 32767, 65535, 4095, 4095, 397311, 921599, 1970175, 4194303, 8388607, 16777215], [(true, 0), (true, 1), (true, 2), (true, 3), (true, 4), (true, 5), (true, 6), (true, 7), (true, 8), (true, 9), (true, 10), (true, 11), (true, 12), (true, 13), (true, 14), (true, 15), (true, 16), (true, 17), (true, 18), (true, 19), (true, 20), (true, 21)], (.alt 22 [(true, 23), (true, 24)] .fin .nil)⟩ := (rfl)
def sch44 : List (Nat × Go.Sy.Sch) := [(5, ⟨[0, 0, 0, 6, 14, 30, 62, 0, 0, 384, 896, 1920, 4094, 8190, 16383, 32767], [(true, 0), (true, 1), (true, 2), (true, 3), (true, 4), (true, 7), (true, 8), (true, 9), (true, 10)], (.alt 5 [(false, 0), (false, 7), (false, 8), (false, 9), (false, 10)] (.alt 6 [(false, 0), (false, 7), (false, 8), (false, 9), (false, 10)] (.alt 11 [(false, 0), (true, 12)] (.alt 13 [(false, 0)] (.alt 14 [] (.alt 15 [] .fin .nil) .nil) .nil) .nil) (.alt 11 [(false, 0)] (.alt 6 [(false, 0), (true, 12)] (.alt 13 [(false, 0)] (.alt 14 [] (.alt 15 [] .fin .nil) .nil) .nil) .nil) .nil)) (.alt 11 [(false, 0), (false, 1), (false, 2), (false, 3), (false, 4)] (.alt 5 [(false, 0)] (.alt 6 [(false, 0), (true, 12)] (.alt 13 [(false, 0)] (.alt 14 [] (.alt 15 [] .fin .nil) .nil) .nil) .nil) .nil) .nil))⟩)]
@[simp] theorem lk44_5 : lookS sch44 5 = some ⟨[0, 0, 0, 6, 14, 30, 62, 0, 0, 384, 896, 1920, 4094, 8190, 16383, 32767], [(true, 0), (true, 1), (true, 2), (true, 3), (true, 4), (true, 7), (true, 8), (true, 9), (true, 10)], (.alt 5 [(false, 0), (false, 7), (false, 8), (false, 9), (false, 10)] (.alt 6 [(false, 0), (false, 7), (false, 8), (false, 9), (false, 10)] (.alt 11 [(false, 0), (true, 12)] (.alt 13 [(false, 0)] (.alt 14 [] (.alt 15 [] .fin .nil) .nil) .nil) .nil) (.alt 11 [(false, 0)] (.alt 6 [(false, 0), (true, 12)] (.alt 13 [(false, 0)] (.alt 14 [] (.alt 15 [] .fin .nil) .nil) .nil) .nil) .nil)) (.alt 11 [(false, 0), (false, 1), (false, 2), (false, 3), (false, 4)] (.alt 5 [(false, 0)] (.alt 6 [(false, 0), (true, 12)] (.alt 13 [(false, 0)] (.alt 14 [] (.alt 15 [] .fin .nil) .nil) .nil) .nil) .nil) .nil))⟩ := (rfl)
def sch45 : List (Nat × Go.Sy.Sch) := [(7, ⟨[0, 0, 3, 7, 15, 0, 0, 96, 224, 480, 1023, 2047, 4095, 4095, 16383, 32767, 65535, 4095, 4095, 397311, 921599, 1970175, 4194303, 8388607, 16777215], [(true, 0), (true, 1), (true, 2), (true, 3), (true, 4), (true, 5), (true, 6), (true, 7), (true, 8), (true, 9), (true, 10), (true, 11), (true, 12), (true, 13), (true, 14), (true, 15), (true, 16), (true, 17), (true, 18), (true, 19), (true, 20), (true, 21)], (.alt 22 [(true, 23), (true, 24)] .fin .nil)⟩)]
@[simp] theorem lk45_7 : lookS sch45 7 = some ⟨[0, 0, 3, 7, 15, 0, 0, 96, 224, 480, 1023, 2047, 4095, 4095, 16383, 32767, 65535, 4095, 4095, 397311, 921599, 1970175, 4194303, 8388607, 16777215], [(true, 0), (true, 1), (true, 2), (true, 3), (true, 4), (true, 5), (true, 6), (true, 7), (true, 8), (true, 9), (true, 10), (true, 11), (true, 12), (true, 13), (true, 14), (true, 15), (true, 16), (true, 17), (true, 18), (true, 19), (true, 20), (true, 21)], (.alt 22 [(true, 23), (true, 24)] .fin .nil)⟩ := (rfl)
def sch47 : List (Nat × Go.Sy.Sch) := [(8, ⟨[0, 0, 0, 0, 12, 28, 0, 0, 192, 448, 960, 2044, 4095, 8191], [(true, 0), (true, 1), (true, 2), (true, 3), (true, 4), (true, 5), (true, 6), (true, 7), (true, 8), (true, 9)], (.alt 10 [(false, 0), (false, 1), (false, 2), (false, 3), (false, 4), (false, 5)] (.alt 11 [(false, 0), (false, 1), (true, 12)] (.alt 13 [] .fin .nil) .nil) .nil)⟩)]
@[simp] theorem lk47_8 : lookS sch47 8 = some ⟨[0, 0, 0, 0, 12, 28, 0, 0, 192, 448, 960, 2044, 4095, 8191], [(true, 0), (true, 1), (true, 2), (true, 3), (true, 4), (true, 5), (true, 6), (true, 7), (true, 8), (true, 9)], (.alt 10 [(false, 0), (false, 1), (false, 2), (false, 3), (false, 4), (false, 5)] (.alt 11 [(false, 0), (false, 1), (true, 12)] (.alt 13 [] .fin .nil) .nil) .nil)⟩ := (rfl)
def sch54 : List (Nat × Go.Sy.Sch) := [(1, ⟨[0, 1, 3, 7, 0, 0, 32, 127], [(true, 0), (true, 1), (true, 2), (true, 3), (true, 4), (true, 5)], (.alt 6 [(false, 0), (false, 1), (false, 2), (false, 3), (false, 4)] (.alt 7 [] .fin .nil) .nil)⟩)]
@[simp] theorem lk54_1 : lookS sch54 1 = some ⟨[0, 1, 3, 7, 0, 0, 32, 127], [(true, 0), (true, 1), (true, 2), (true, 3), (true, 4), (true, 5)], (.alt 6 [(false, 0), (false, 1), (false, 2), (false, 3), (false, 4)] (.alt 7 [] .fin .nil) .nil)⟩ := (rfl)
def sch56 : List (Nat × Go.Sy.Sch) := [(1, ⟨[0, 1, 0, 4, 15, 31], [(true, 0), (true, 2), (true, 3)], (.alt 1 [(false, 2), (false, 3)] (.alt 4 [(true, 5)] .fin .nil) .nil)⟩)]
@[simp] theorem lk56_1 : lookS sch56 1 = some ⟨[0, 1, 0, 4, 15, 31], [(true, 0), (true, 2), (true, 3)], (.alt 1 [(false, 2), (false, 3)] (.alt 4 [(true, 5)] .fin .nil) .nil)⟩ := (rfl)
def sch58 : List (Nat × Go.Sy.Sch) := [(5, ⟨[0, 0, 0, 4, 14, 30, 62, 126, 0, 0, 512, 1536, 3840, 7936, 16128, 32512, 65534, 0, 0, 262144, 786432, 1966080, 4063232, 8257536, 16646144, 33554430, 0, 0, 134217728, 402653184, 1006632960, 2080374784, 4227858432, 8589934590, 17179869182, 34359738367, 68719476735], [(true, 0), (true, 1), (true, 2), (true, 3), (true, 4), (true, 5), (true, 6), (true, 7), (true, 8), (true, 9), (true, 10), (true, 11), (true, 12), (true, 13), (true, 14), (true, 15), (true, 16), (true, 17), (true, 18), (true, 19), (true, 20), (true, 21), (true, 22), (true, 23), (true, 24), (true, 25), (true, 26), (true, 27), (true, 28), (true, 29), (true, 30), (true, 31), (true, 32), (true, 33)], (.alt 34 [(false, 0)] (.alt 35 [] (.alt 36 [] .fin .nil) .nil) .nil)⟩), (13, ⟨[0, 0, 0, 4, 14, 30, 0, 126, 0, 0, 512, 1792, 3840, 8190, 0, 32766, 65534, 131071, 262143], [(true, 0), (true, 1), (true, 2), (true, 3), (true, 4), (true, 5), (true, 6), (true, 7), (true, 8), (true, 9), (true, 10), (true, 11), (true, 12), (true, 13), (true, 14), (true, 15)], (.alt 16 [(false, 0)] (.alt 17 [] (.alt 18 [] .fin .nil) .nil) .nil)⟩)]
@[simp] theorem lk58_5 : lookS sch58 5 = some ⟨[0, 0, 0, 4, 14, 30, 62, 126, 0, 0, 512, 1536, 3840, 7936, 16128, 32512, 65534, 0, 0, 262144, 786432, 1966080, 4063232, 8257536, 16646144, 33554430, 0, 0, 134217728, 402653184, 1006632960, 2080374784, 4227858432, 8589934590, 17179869182, 34359738367, 68719476735], [(true, 0), (true, 1), (true, 2), (true, 3), (true, 4), (true, 5), (true, 6), (true, 7), (true, 8), (true, 9), (true, 10), (true, 11), (true, 12), (true, 13), (true, 14), (true, 15), (true, 16), (true, 17), (true, 18), (true, 19), (true, 20), (true, 21), (true, 22), (true, 23), (true, 24), (true, 25), (true, 26), (true, 27), (true, 28), (true, 29), (true, 30), (true, 31), (true, 32), (true, 33)], (.alt 34 [(false, 0)] (.alt 35 [] (.alt 36 [] .fin .nil) .nil) .nil)⟩ := (rfl)
@[simp] theorem lk58_13 : lookS sch58 13 = some ⟨[0, 0, 0, 4, 14, 30, 0, 126, 0, 0, 512, 1792, 3840, 8190, 0, 32766, 65534, 131071, 262143], [(true, 0), (true, 1), (true, 2), (true, 3), (true, 4), (true, 5), (true, 6), (true, 7), (true, 8), (true, 9), (true, 10), (true, 11), (true, 12), (true, 13), (true, 14), (true, 15)], (.alt 16 [(false, 0)] (.alt 17 [] (.alt 18 [] .fin .nil) .nil) .nil)⟩ := (rfl)
def sch61 : List (Nat × Go.Sy.Sch) := [(1, ⟨[0, 1, 0, 4, 15, 31], [(true, 0), (true, 1), (true, 2)], (.alt 3 [(false, 0), (false, 1), (true, 4), (true, 5)] .fin .nil)⟩), (4, ⟨[0, 0, 2, 6, 14, 0, 62, 127, 255, 511], [(true, 0), (true, 1), (true, 2), (true, 3), (true, 4), (true, 5)], (.alt 6 [(false, 0), (true, 7), (true, 8)] (.alt 9 [] .fin .nil) .nil)⟩), (6, ⟨[0, 1, 3, 7, 0, 16, 63, 127], [(true, 0), (true, 1), (true, 2), (true, 3), (true, 4), (true, 5), (true, 6), (true, 7)], .fin⟩), (7, ⟨[0, 0, 2, 6, 14, 0, 0, 64, 192, 448, 992, 2046, 4095, 8191, 16383], [(true, 0), (true, 1), (true, 2), (true, 3), (true, 4), (true, 5), (true, 6), (true, 7), (true, 8), (true, 9), (true, 10)], (.alt 11 [(false, 0), (true, 12), (true, 13)] (.alt 14 [] .fin .nil) .nil)⟩), (8, ⟨[0, 0, 1, 5, 13, 31, 63, 127], [(true, 0), (true, 1), (true, 2), (true, 3)], (.alt 4 [(false, 1), (true, 5), (true, 6)] (.alt 7 [] .fin .nil) .nil)⟩), (10, ⟨[0, 0, 2, 6, 14, 0, 62, 127, 255, 511], [(true, 0), (true, 1), (true, 2), (true, 3), (true, 4), (true, 5)], (.alt 6 [(false, 0), (true, 7), (true, 8)] (.alt 9 [] .fin .nil) .nil)⟩), (11, ⟨[0, 1, 3, 7, 0, 16, 63, 127, 255, 511], [(true, 0), (true, 1), (true, 2), (true, 3), (true, 4), (true, 5), (true, 6), (true, 7), (true, 8)], (.alt 9 [] .fin .nil)⟩)]
@[simp] theorem lk61_1 : lookS sch61 1 = some ⟨[0, 1, 0, 4, 15, 31], [(true, 0), (true, 1), (true, 2)], (.alt 3 [(false, 0), (false, 1), (true, 4), (true, 5)] .fin .nil)⟩ := (rfl)
@[simp] theorem lk61_4 : lookS sch61 4 = some ⟨[0, 0, 2, 6, 14, 0, 62, 127, 255, 511], [(true, 0), (true, 1), (true, 2), (true, 3), (true, 4), (true, 5)], (.alt 6 [(false, 0), (true, 7), (true, 8)] (.alt 9 [] .fin .nil) .nil)⟩ := (rfl)
@[simp] theorem lk61_6 : lookS sch61 6 = some ⟨[0, 1, 3, 7, 0, 16, 63, 127], [(true, 0), (true, 1), (true, 2), (true, 3), (true, 4), (true, 5), (true, 6), (true, 7)], .fin⟩ := (rfl)
@[simp] theorem lk61_7 : lookS sch61 7 = some ⟨[0, 0, 2, 6, 14, 0, 0, 64, 192, 448, 992, 2046, 4095, 8191, 16383], [(true, 0), (true, 1), (true, 2), (true, 3), (true, 4), (true, 5), (true, 6), (true, 7), (true, 8), (true, 9), (true, 10)], (.alt 11 [(false, 0), (true, 12), (true, 13)] (.alt 14 [] .fin .nil) .nil)⟩ := (rfl)
@[simp] theorem lk61_8 : lookS sch61 8 = some ⟨[0, 0, 1, 5, 13, 31, 63, 127], [(true, 0), (true, 1), (true, 2), (true, 3)], (.alt 4 [(false, 1), (true, 5), (true, 6)] (.alt 7 [] .fin .nil) .nil)⟩ := (rfl)
@[simp] theorem lk61_10 : lookS sch61 10 = some ⟨[0, 0, 2, 6, 14, 0, 62, 127, 255, 511], [(true, 0), (true, 1), (true, 2), (true, 3), (true, 4), (true, 5)], (.alt 6 [(false, 0), (true, 7), (true, 8)] (.alt 9 [] .fin .nil) .nil)⟩ := (rfl)
@[simp] theorem lk61_11 : lookS sch61 11 = some ⟨[0, 1, 3, 7, 0, 16, 63, 127, 255, 511], [(true, 0), (true, 1), (true, 2), (true, 3), (true, 4), (true, 5), (true, 6), (true, 7), (true, 8)], (.alt 9 [] .fin .nil)⟩ := (rfl)
def sch62 : List (Nat × Go.Sy.Sch) := [(1, ⟨[0, 1, 3, 7, 0, 16, 48, 112, 240, 511, 1023], [(true, 0), (true, 1), (true, 2), (true, 3), (true, 4), (true, 5), (true, 6), (true, 7), (true, 8), (true, 9), (true, 10)], .fin⟩)]
@[simp] theorem lk62_1 : lookS sch62 1 = some ⟨[0, 1, 3, 7, 0, 16, 48, 112, 240, 511, 1023], [(true, 0), (true, 1), (true, 2), (true, 3), (true, 4), (true, 5), (true, 6), (true, 7), (true, 8), (true, 9), (true, 10)], .fin⟩ := (rfl)
def sch64 : List (Nat × Go.Sy.Sch) := [(1, ⟨[0, 1, 3, 7, 15, 0, 32, 96, 224, 511, 1023], [(true, 0), (true, 1), (true, 2), (true, 3), (true, 4), (true, 5), (true, 6), (true, 7), (true, 8), (true, 9), (true, 10)], .fin⟩)]
@[simp] theorem lk64_1 : lookS sch64 1 = some ⟨[0, 1, 3, 7, 15, 0, 32, 96, 224, 511, 1023], [(true, 0), (true, 1), (true, 2), (true, 3), (true, 4), (true, 5), (true, 6), (true, 7), (true, 8), (true, 9), (true, 10)], .fin⟩ := (rfl)
def sch68 : List (Nat × Go.Sy.Sch) := [(2, ⟨[0, 1, 0, 4, 12, 31, 63], [(true, 0), (true, 2), (true, 3)], (.alt 1 [(false, 2), (false, 3)] (.alt 4 [] (.alt 5 [(true, 6)] .fin .nil) .nil) (.alt 4 [(false, 0)] (.alt 1 [] (.alt 5 [(true, 6)] .fin .nil) .nil) .nil))⟩)]
@[simp] theorem lk68_2 : lookS sch68 2 = some ⟨[0, 1, 0, 4, 12, 31, 63], [(true, 0), (true, 2), (true, 3)], (.alt 1 [(false, 2), (false, 3)] (.alt 4 [] (.alt 5 [(true, 6)] .fin .nil) .nil) (.alt 4 [(false, 0)] (.alt 1 [] (.alt 5 [(true, 6)] .fin .nil) .nil) .nil))⟩ := (rfl)
def sch70 : List (Nat × Go.Sy.Sch) := [(1, ⟨[0, 0, 0, 6, 15], [(true, 0)], (.alt 1 [(false, 0)] (.alt 2 [(false, 0)] (.alt 3 [(false, 0)] (.alt 4 [] .fin .nil) .nil) .nil) (.alt 2 [(false, 0)] (.alt 1 [(false, 0)] (.alt 3 [(false, 0)] (.alt 4 [] .fin .nil) .nil) .nil) .nil))⟩), (7, ⟨[0, 0, 1, 7], [(true, 0), (true, 1), (true, 2), (true, 3)], .fin⟩)]
@[simp] theorem lk70_1 : lookS sch70 1 = some ⟨[0, 0, 0, 6, 15], [(true, 0)], (.alt 1 [(false, 0)] (.alt 2 [(false, 0)] (.alt 3 [(false, 0)] (.alt 4 [] .fin .nil) .nil) .nil) (.alt 2 [(false, 0)] (.alt 1 [(false, 0)] (.alt 3 [(false, 0)] (.alt 4 [] .fin .nil) .nil) .nil) .nil))⟩ := (rfl)
@[simp] theorem lk70_7 : lookS sch70 7 = some ⟨[0, 0, 1, 7], [(true, 0), (true, 1), (true, 2), (true, 3)], .fin⟩ := (rfl)
def sch80 : List (Nat × Go.Sy.Sch) := [(13, ⟨[0, 0, 2, 6, 14, 0, 0, 64, 192, 448, 1022, 2047, 4095], [(true, 1), (true, 2), (true, 3), (true, 4), (true, 5), (true, 6), (true, 7), (true, 8), (true, 9), (true, 10)], (.alt 0 [(false, 1), (false, 2), (false, 3), (false, 4), (false, 5), (false, 6), (false, 7), (false, 8), (false, 9), (false, 10)] (.alt 11 [(true, 12)] .fin .nil) .nil)⟩)]
@[simp] theorem lk80_13 : lookS sch80 13 = some ⟨[0, 0, 2, 6, 14, 0, 0, 64, 192, 448, 1022, 2047, 4095], [(true, 1), (true, 2), (true, 3), (true, 4), (true, 5), (true, 6), (true, 7), (true, 8), (true, 9), (true, 10)], (.alt 0 [(false, 1), (false, 2), (false, 3), (false, 4), (false, 5), (false, 6), (false, 7), (false, 8), (false, 9), (false, 10)] (.alt 11 [(true, 12)] .fin .nil) .nil)⟩ := (rfl)
def sch81 : List (Nat × Go.Sy.Sch) := [(4, ⟨[0, 1, 3, 7, 0, 31], [(true, 0), (true, 1), (true, 2), (true, 3), (true, 4), (true, 5)], .fin⟩), (11, ⟨[0, 1, 3, 7, 0, 31], [(true, 0), (true, 1), (true, 2), (true, 3), (true, 4), (true, 5)], .fin⟩), (17, ⟨[0, 1, 3, 7, 0, 31], [(true, 0), (true, 1), (true, 2), (true, 3), (true, 4), (true, 5)], .fin⟩), (23, ⟨[0, 1, 3, 7, 0, 31], [(true, 0), (true, 1), (true, 2), (true, 3), (true, 4), (true, 5)], .fin⟩)]
@[simp] theorem lk81_4 : lookS sch81 4 = some ⟨[0, 1, 3, 7, 0, 31], [(true, 0), (true, 1), (true, 2), (true, 3), (true, 4), (true, 5)], .fin⟩ := (rfl)
@[simp] theorem lk81_11 : lookS sch81 11 = some ⟨[0, 1, 3, 7, 0, 31], [(true, 0), (true, 1), (true, 2), (true, 3), (true, 4), (true, 5)], .fin⟩ := (rfl)
@[simp] theorem lk81_17 : lookS sch81 17 = some ⟨[0, 1, 3, 7, 0, 31], [(true, 0), (true, 1), (true, 2), (true, 3), (true, 4), (true, 5)], .fin⟩ := (rfl)
@[simp] theorem lk81_23 : lookS sch81 23 = some ⟨[0, 1, 3, 7, 0, 31], [(true, 0), (true, 1), (true, 2), (true, 3), (true, 4), (true, 5)], .fin⟩ := (rfl)
def sch84 : List (Nat × Go.Sy.Sch) := [(14, ⟨[0, 0, 0, 7, 15, 31, 0, 0, 0, 256, 960, 1984, 4095], [(true, 0), (true, 1), (true, 2), (true, 3), (true, 6), (true, 7), (true, 8), (true, 9), (true, 10), (true, 11)], (.alt 4 [(true, 5), (false, 6), (false, 7), (false, 8), (false, 9), (false, 10), (false, 11), (true, 12)] .fin .nil)⟩)]
@[simp] theorem lk84_14 : lookS sch84 14 = some ⟨[0, 0, 0, 7, 15, 31, 0, 0, 0, 256, 960, 1984, 4095], [(true, 0), (true, 1), (true, 2), (true, 3), (true, 6), (true, 7), (true, 8), (true, 9), (true, 10), (true, 11)], (.alt 4 [(true, 5), (false, 6), (false, 7), (false, 8), (false, 9), (false, 10), (false, 11), (true, 12)] .fin .nil)⟩ := (rfl)
def sch86 : List (Nat × Go.Sy.Sch) := [(3, ⟨[0, 0, 2, 6, 14, 0, 32, 126, 255, 511, 1023], [(true, 0), (true, 1), (true, 2), (true, 3), (true, 4), (true, 5), (true, 6)], (.alt 7 [(false, 0), (true, 8), (true, 9)] (.alt 10 [] .fin .nil) .nil)⟩)]
@[simp] theorem lk86_3 : lookS sch86 3 = some ⟨[0, 0, 2, 6, 14, 0, 32, 126, 255, 511, 1023], [(true, 0), (true, 1), (true, 2), (true, 3), (true, 4), (true, 5), (true, 6)], (.alt 7 [(false, 0), (true, 8), (true, 9)] (.alt 10 [] .fin .nil) .nil)⟩ := (rfl)
def sch88 : List (Nat × Go.Sy.Sch) := [(1, ⟨[0, 1, 3, 7, 7, 23, 55, 119, 247, 511, 1023], [(true, 0), (true, 1), (true, 2), (true, 3), (true, 4), (true, 5), (true, 6), (true, 7), (true, 8), (true, 9), (true, 10)], .fin⟩), (3, ⟨[0, 0, 2, 6, 14, 0, 0, 126, 255, 511, 1023], [(true, 0), (true, 1), (true, 2), (true, 3), (true, 4), (true, 5), (true, 6)], (.alt 7 [(false, 0), (true, 8), (true, 9)] (.alt 10 [] .fin .nil) .nil)⟩)]
@[simp] theorem lk88_1 : lookS sch88 1 = some ⟨[0, 1, 3, 7, 7, 23, 55, 119, 247, 511, 1023], [(true, 0), (true, 1), (true, 2), (true, 3), (true, 4), (true, 5), (true, 6), (true, 7), (true, 8), (true, 9), (true, 10)], .fin⟩ := (rfl)
@[simp] theorem lk88_3 : lookS sch88 3 = some ⟨[0, 0, 2, 6, 14, 0, 0, 126, 255, 511, 1023], [(true, 0), (true, 1), (true, 2), (true, 3), (true, 4), (true, 5), (true, 6)], (.alt 7 [(false, 0), (true, 8), (true, 9)] (.alt 10 [] .fin .nil) .nil)⟩ := (rfl)
def sch89 : List (Nat × Go.Sy.Sch) := [(2, ⟨[0, 0, 2, 7, 15, 31, 63, 127, 255, 511, 1023, 2047, 4095, 511, 8703, 25087, 57855, 511, 254463, 524287, 1048575, 2097151, 4194303], [(true, 0), (true, 1)], (.alt 2 [(false, 0), (true, 3), (true, 4), (true, 5), (true, 6), (true, 7), (true, 8), (true, 9), (true, 10), (true, 11), (true, 12), (true, 13), (true, 14), (true, 15), (true, 16), (true, 17), (true, 18), (true, 19), (true, 20), (true, 21), (true, 22)] .fin .nil)⟩), (12, ⟨[0, 1, 0, 4, 12, 28, 0, 64, 192, 448, 0, 1984, 4092, 8188, 16380, 32764, 65535, 131071], [(true, 0), (true, 1), (true, 2), (true, 3), (true, 4), (true, 5), (true, 6), (true, 7), (true, 8), (true, 9), (true, 10), (true, 11), (true, 12), (true, 13), (true, 14), (true, 15), (true, 16)], (.alt 17 [] .fin .nil)⟩), (13, ⟨[0, 1, 0, 4, 12, 28, 0, 64, 192, 448, 0, 1024, 3072, 7168, 0, 31744, 64512, 131068, 262143, 524287], [(true, 0), (true, 2), (true, 3), (true, 4), (true, 5), (true, 6), (true, 7), (true, 8), (true, 9), (true, 10), (true, 11), (true, 12), (true, 13), (true, 14), (true, 15), (true, 16), (true, 17)], (.alt 1 [(false, 2), (false, 3), (false, 4), (false, 5), (false, 6), (false, 7), (false, 8), (false, 9), (false, 10), (false, 11), (false, 12), (false, 13), (false, 14), (false, 15), (false, 16), (false, 17)] (.alt 18 [(true, 19)] .fin .nil) .nil)⟩)]
@[simp] theorem lk89_2 : lookS sch89 2 = some ⟨[0, 0, 2, 7, 15, 31, 63, 127, 255, 511, 1023, 2047, 4095, 511, 8703, 25087, 57855, 511, 254463, 524287, 1048575, 2097151, 4194303], [(true, 0), (true, 1)], (.alt 2 [(false, 0), (true, 3), (true, 4), (true, 5), (true, 6), (true, 7), (true, 8), (true, 9), (true, 10), (true, 11), (true, 12), (true, 13), (true, 14), (true, 15), (true, 16), (true, 17), (true, 18), (true, 19), (true, 20), (true, 21), (true, 22)] .fin .nil)⟩ := (rfl)
@[simp] theorem lk89_12 : lookS sch89 12 = some ⟨[0, 1, 0, 4, 12, 28, 0, 64, 192, 448, 0, 1984, 4092, 8188, 16380, 32764, 65535, 131071], [(true, 0), (true, 1), (true, 2), (true, 3), (true, 4), (true, 5), (true, 6), (true, 7), (true, 8), (true, 9), (true, 10), (true, 11), (true, 12), (true, 13), (true, 14), (true, 15), (true, 16)], (.alt 17 [] .fin .nil)⟩ := (rfl)
@[simp] theorem lk89_13 : lookS sch89 13 = some ⟨[0, 1, 0, 4, 12, 28, 0, 64, 192, 448, 0, 1024, 3072, 7168, 0, 31744, 64512, 131068, 262143, 524287], [(true, 0), (true, 2), (true, 3), (true, 4), (true, 5), (true, 6), (true, 7), (true, 8), (true, 9), (true, 10), (true, 11), (true, 12), (true, 13), (true, 14), (true, 15), (true, 16), (true, 17)], (.alt 1 [(false, 2), (false, 3), (false, 4), (false, 5), (false, 6), (false, 7), (false, 8), (false, 9), (false, 10), (false, 11), (false, 12), (false, 13), (false, 14), (false, 15), (false, 16), (false, 17)] (.alt 18 [(true, 19)] .fin .nil) .nil)⟩ := (rfl)
def sch92 : List (Nat × Go.Sy.Sch) := [(2, ⟨[0, 0, 3, 0, 8, 31, 63, 127, 127, 511, 127, 1151, 4095, 8191, 16383, 32767, 32767, 32767, 229375, 524287, 1048575, 32767, 32767, 32767, 12615679, 31490047, 65044479, 134217727, 268435455], [(true, 0), (true, 1), (true, 2), (true, 3), (true, 4), (true, 5), (true, 6), (true, 7), (true, 8), (true, 9), (true, 10), (true, 11), (true, 12), (true, 13), (true, 14), (true, 15), (true, 16), (true, 17), (true, 18), (true, 19), (true, 20), (true, 21), (true, 22), (true, 23), (true, 24), (true, 25), (true, 26), (true, 27), (true, 28)], .fin⟩)]
@[simp] theorem lk92_2 : lookS sch92 2 = some ⟨[0, 0, 3, 0, 8, 31, 63, 127, 127, 511, 127, 1151, 4095, 8191, 16383, 32767, 32767, 32767, 229375, 524287, 1048575, 32767, 32767, 32767, 12615679, 31490047, 65044479, 134217727, 268435455], [(true, 0), (true, 1), (true, 2), (true, 3), (true, 4), (true, 5), (true, 6), (true, 7), (true, 8), (true, 9), (true, 10), (true, 11), (true, 12), (true, 13), (true, 14), (true, 15), (true, 16), (true, 17), (true, 18), (true, 19), (true, 20), (true, 21), (true, 22), (true, 23), (true, 24), (true, 25), (true, 26), (true, 27), (true, 28)], .fin⟩ := (rfl)
def sch94 : List (Nat × Go.Sy.Sch) := [(2, ⟨[0, 0, 0, 4, 12, 28, 0, 124, 2, 511, 1023, 2047], [(true, 0), (true, 1), (true, 2), (true, 3), (true, 4), (true, 5), (true, 6), (true, 7)], (.alt 8 [(false, 0), (false, 2), (false, 3), (false, 4), (false, 5), (false, 6), (false, 7), (true, 9), (true, 10)] (.alt 11 [] .fin .nil) .nil)⟩)]
@[simp] theorem lk94_2 : lookS sch94 2 = some ⟨[0, 0, 0, 4, 12, 28, 0, 124, 2, 511, 1023, 2047], [(true, 0), (true, 1), (true, 2), (true, 3), (true, 4), (true, 5), (true, 6), (true, 7)], (.alt 8 [(false, 0), (false, 2), (false, 3), (false, 4), (false, 5), (false, 6), (false, 7), (true, 9), (true, 10)] (.alt 11 [] .fin .nil) .nil)⟩ := (rfl)
def sch102 : List (Nat × Go.Sy.Sch) := [(5, ⟨[0, 0, 2, 6, 0, 31, 63], [(true, 0), (true, 1), (true, 2), (true, 3), (true, 4)], (.alt 5 [] (.alt 6 [] .fin .nil) .nil)⟩), (10, ⟨[0, 1, 3, 0, 8, 24, 63, 127, 255], [(true, 0), (true, 1), (true, 2), (true, 3), (true, 4), (true, 5), (true, 6), (true, 7)], (.alt 8 [] .fin .nil)⟩)]
@[simp] theorem lk102_5 : lookS sch102 5 = some ⟨[0, 0, 2, 6, 0, 31, 63], [(true, 0), (true, 1), (true, 2), (true, 3), (true, 4)], (.alt 5 [] (.alt 6 [] .fin .nil) .nil)⟩ := (rfl)
@[simp] theorem lk102_10 : lookS sch102 10 = some ⟨[0, 1, 3, 0, 8, 24, 63, 127, 255], [(true, 0), (true, 1), (true, 2), (true, 3), (true, 4), (true, 5), (true, 6), (true, 7)], (.alt 8 [] .fin .nil)⟩ := (rfl)
def sch109 : List (Nat × Go.Sy.Sch) := [(9, ⟨[0, 0, 2, 6, 14, 0, 0, 126, 254, 0, 512, 1536, 3584, 0, 15872, 510, 65535, 131071, 262143], [(true, 0), (true, 1), (true, 2), (true, 3), (true, 4), (true, 5), (true, 6), (true, 7), (true, 9), (true, 10), (true, 11), (true, 12), (true, 13), (true, 14)], (.alt 8 [(false, 0), (false, 9), (false, 10), (false, 11), (false, 12), (false, 13), (false, 14)] (.alt 15 [(false, 0), (false, 9), (false, 10), (false, 11), (false, 12), (false, 13), (false, 14), (true, 16), (true, 17)] (.alt 18 [] .fin .nil) .nil) .nil)⟩)]
@[simp] theorem lk109_9 : lookS sch109 9 = some ⟨[0, 0, 2, 6, 14, 0, 0, 126, 254, 0, 512, 1536, 3584, 0, 15872, 510, 65535, 131071, 262143], [(true, 0), (true, 1), (true, 2), (true, 3), (true, 4), (true, 5), (true, 6), (true, 7), (true, 9), (true, 10), (true, 11), (true, 12), (true, 13), (true, 14)], (.alt 8 [(false, 0), (false, 9), (false, 10), (false, 11), (false, 12), (false, 13), (false, 14)] (.alt 15 [(false, 0), (false, 9), (false, 10), (false, 11), (false, 12), (false, 13), (false, 14), (true, 16), (true, 17)] (.alt 18 [] .fin .nil) .nil) .nil)⟩ := (rfl)
def sch112 : List (Nat × Go.Sy.Sch) := [(14, ⟨[0, 1, 3, 7, 0, 16, 48, 112, 15, 511], [(true, 0), (true, 1), (true, 2), (true, 3), (true, 4), (true, 5), (true, 6), (true, 7), (true, 8), (true, 9)], .fin⟩), (15, ⟨[0, 0, 2, 6, 14, 0, 32, 0, 224, 480, 0, 1024, 4064, 8190, 0, 16384, 49152, 114688, 262142, 0, 524768, 0, 3670496, 7864800, 0, 16777216, 66585056, 134217726, 268435455, 536870911], [(true, 0), (true, 1), (true, 2), (true, 3), (true, 4), (true, 5), (true, 7), (true, 10), (true, 11), (true, 14), (true, 15), (true, 16), (true, 17), (true, 19), (true, 21), (true, 24), (true, 25)], (.alt 6 [(false, 0), (false, 1), (false, 2), (false, 3), (false, 4), (false, 7), (false, 10), (false, 11), (false, 14), (false, 15), (false, 16), (false, 17), (false, 19), (false, 21), (false, 24), (false, 25)] (.alt 8 [(false, 0), (false, 1), (false, 2), (false, 3), (false, 4), (true, 9), (false, 10), (false, 11), (true, 12), (true, 13), (false, 14), (false, 15), (false, 16), (false, 17), (true, 18), (false, 19), (false, 21), (false, 24), (false, 25)] (.alt 20 [(false, 0), (false, 1), (false, 2), (false, 3), (false, 4), (false, 9), (false, 10), (false, 11), (false, 12), (false, 13), (false, 14), (false, 15), (false, 16), (false, 17), (false, 18), (false, 21), (false, 24), (false, 25)] (.alt 22 [(false, 0), (false, 1), (false, 2), (false, 3), (false, 4), (false, 9), (false, 10), (false, 11), (false, 12), (false, 13), (false, 14), (false, 15), (false, 16), (false, 17), (false, 18), (true, 23), (false, 24), (false, 25), (true, 26), (true, 27), (true, 28)] (.alt 29 [] .fin .nil) .nil) .nil) .nil) .nil)⟩)]
@[simp] theorem lk112_14 : lookS sch112 14 = some ⟨[0, 1, 3, 7, 0, 16, 48, 112, 15, 511], [(true, 0), (true, 1), (true, 2), (true, 3), (true, 4), (true, 5), (true, 6), (true, 7), (true, 8), (true, 9)], .fin⟩ := (rfl)
@[simp] theorem lk112_15 : lookS sch112 15 = some ⟨[0, 0, 2, 6, 14, 0, 32, 0, 224, 480, 0, 1024, 4064, 8190, 0, 16384, 49152, 114688, 262142, 0, 524768, 0, 3670496, 7864800, 0, 16777216, 66585056, 134217726, 268435455, 536870911], [(true, 0), (true, 1), (true, 2), (true, 3), (true, 4), (true, 5), (true, 7), (true, 10), (true, 11), (true, 14), (true, 15), (true, 16), (true, 17), (true, 19), (true, 21), (true, 24), (true, 25)], (.alt 6 [(false, 0), (false, 1), (false, 2), (false, 3), (false, 4), (false, 7), (false, 10), (false, 11), (false, 14), (false, 15), (false, 16), (false, 17), (false, 19), (false, 21), (false, 24), (false, 25)] (.alt 8 [(false, 0), (false, 1), (false, 2), (false, 3), (false, 4), (true, 9), (false, 10), (false, 11), (true, 12), (true, 13), (false, 14), (false, 15), (false, 16), (false, 17), (true, 18), (false, 19), (false, 21), (false, 24), (false, 25)] (.alt 20 [(false, 0), (false, 1), (false, 2), (false, 3), (false, 4), (false, 9), (false, 10), (false, 11), (false, 12), (false, 13), (false, 14), (false, 15), (false, 16), (false, 17), (false, 18), (false, 21), (false, 24), (false, 25)] (.alt 22 [(false, 0), (false, 1), (false, 2), (false, 3), (false, 4), (false, 9), (false, 10), (false, 11), (false, 12), (false, 13), (false, 14), (false, 15), (false, 16), (false, 17), (false, 18), (true, 23), (false, 24), (false, 25), (true, 26), (true, 27), (true, 28)] (.alt 29 [] .fin .nil) .nil) .nil) .nil) .nil)⟩ := (rfl)
def sch113 : List (Nat × Go.Sy.Sch) := [(1, ⟨[0, 1, 0, 4, 0, 16, 0, 64, 0, 256, 0, 1024, 3, 4111, 12351, 28927, 62463, 131071], [(true, 0), (true, 1), (true, 2), (true, 3), (true, 4), (true, 5), (true, 6), (true, 7), (true, 8), (true, 9), (true, 10), (true, 11), (true, 12), (true, 13), (true, 14), (true, 15), (true, 16), (true, 17)], .fin⟩), (2, ⟨[0, 1, 0, 4, 0, 28, 60, 0, 188, 508, 1023, 0, 0, 6144, 0, 16384, 0, 114688, 260096, 524287, 0, 2097151, 0, 8388607, 16777215], [(true, 0), (true, 1), (true, 2), (true, 4), (true, 7), (true, 11), (true, 12), (true, 13), (true, 14), (true, 15), (true, 16), (true, 17), (true, 18), (true, 20), (true, 22)], (.alt 3 [(false, 0), (false, 1), (false, 4), (false, 7), (false, 11), (false, 12), (false, 13), (false, 14), (false, 15), (false, 16), (false, 17), (false, 18), (false, 20), (false, 22)] (.alt 5 [(false, 0), (false, 1), (true, 6), (false, 7), (false, 11), (false, 12), (false, 13), (false, 14), (false, 15), (false, 16), (false, 17), (false, 18), (false, 20), (false, 22)] (.alt 8 [(false, 0), (false, 1), (false, 6), (true, 9), (true, 10), (false, 11), (false, 12), (false, 13), (false, 14), (false, 15), (false, 16), (false, 17), (false, 18), (true, 19), (false, 20), (true, 21), (false, 22), (true, 23), (true, 24)] .fin .nil) .nil) .nil)⟩)]
@[simp] theorem lk113_1 : lookS sch113 1 = some ⟨[0, 1, 0, 4, 0, 16, 0, 64, 0, 256, 0, 1024, 3, 4111, 12351, 28927, 62463, 131071], [(true, 0), (true, 1), (true, 2), (true, 3), (true, 4), (true, 5), (true, 6), (true, 7), (true, 8), (true, 9), (true, 10), (true, 11), (true, 12), (true, 13), (true, 14), (true, 15), (true, 16), (true, 17)], .fin⟩ := (rfl)
@[simp] theorem lk113_2 : lookS sch113 2 = some ⟨[0, 1, 0, 4, 0, 28, 60, 0, 188, 508, 1023, 0, 0, 6144, 0, 16384, 0, 114688, 260096, 524287, 0, 2097151, 0, 8388607, 16777215], [(true, 0), (true, 1), (true, 2), (true, 4), (true, 7), (true, 11), (true, 12), (true, 13), (true, 14), (true, 15), (true, 16), (true, 17), (true, 18), (true, 20), (true, 22)], (.alt 3 [(false, 0), (false, 1), (false, 4), (false, 7), (false, 11), (false, 12), (false, 13), (false, 14), (false, 15), (false, 16), (false, 17), (false, 18), (false, 20), (false, 22)] (.alt 5 [(false, 0), (false, 1), (true, 6), (false, 7), (false, 11), (false, 12), (false, 13), (false, 14), (false, 15), (false, 16), (false, 17), (false, 18), (false, 20), (false, 22)] (.alt 8 [(false, 0), (false, 1), (false, 6), (true, 9), (true, 10), (false, 11), (false, 12), (false, 13), (false, 14), (false, 15), (false, 16), (false, 17), (false, 18), (true, 19), (false, 20), (true, 21), (false, 22), (true, 23), (true, 24)] .fin .nil) .nil) .nil)⟩ := (rfl)
def sch114 : List (Nat × Go.Sy.Sch) := [(3, ⟨[0, 0, 0, 6, 14, 31, 63], [(true, 0), (true, 1), (true, 2), (true, 3), (true, 4), (true, 5), (true, 6)], .fin⟩)]
@[simp] theorem lk114_3 : lookS sch114 3 = some ⟨[0, 0, 0, 6, 14, 31, 63], [(true, 0), (true, 1), (true, 2), (true, 3), (true, 4), (true, 5), (true, 6)], .fin⟩ := (rfl)
def sch116 : List (Nat × Go.Sy.Sch) := [(2, ⟨[0, 0, 2, 7, 15, 31, 31, 95, 255, 511, 1023, 2047, 2047, 8191, 16383, 2047, 2047, 100351, 231423, 524287, 1048575], [(true, 0), (true, 1), (true, 2), (true, 3), (true, 4), (true, 5), (true, 6), (true, 7), (true, 8), (true, 9), (true, 10), (true, 11), (true, 12), (true, 13), (true, 14), (true, 15), (true, 16), (true, 17), (true, 18), (true, 19), (true, 20)], .fin⟩)]
@[simp] theorem lk116_2 : lookS sch116 2 = some ⟨[0, 0, 2, 7, 15, 31, 31, 95, 255, 511, 1023, 2047, 2047, 8191, 16383, 2047, 2047, 100351, 231423, 524287, 1048575], [(true, 0), (true, 1), (true, 2), (true, 3), (true, 4), (true, 5), (true, 6), (true, 7), (true, 8), (true, 9), (true, 10), (true, 11), (true, 12), (true, 13), (true, 14), (true, 15), (true, 16), (true, 17), (true, 18), (true, 19), (true, 20)], .fin⟩ := (rfl)

@[simp] theorem sz_0 : szOf Tryd.prog 0 = 1 := by kernel_rfl
@[simp] theorem ag_0 : aggT Tryd.prog 0 = some false := by kernel_rfl
@[simp] theorem by_0 : bytesOf Tryd.prog 0 = 0 := by kernel_rfl
attribute [simp] Tryd.underlying0
@[simp] theorem sz_1 : szOf Tryd.prog 1 = 1 := by kernel_rfl
@[simp] theorem ag_1 : aggT Tryd.prog 1 = some false := by kernel_rfl
@[simp] theorem by_1 : bytesOf Tryd.prog 1 = 8 := by kernel_rfl
attribute [simp] Tryd.underlying1
@[simp] theorem sz_2 : szOf Tryd.prog 2 = 1 := by kernel_rfl
@[simp] theorem ag_2 : aggT Tryd.prog 2 = some false := by kernel_rfl
@[simp] theorem by_2 : bytesOf Tryd.prog 2 = 8 := by kernel_rfl
attribute [simp] Tryd.underlying2
@[simp] theorem zr_2 : zerosOf Tryd.prog 2 = some [(.lit (.int Go.IntKind.i64 (0)))] := by kernel_rfl
@[simp] theorem sz_3 : szOf Tryd.prog 3 = 1 := by kernel_rfl
@[simp] theorem ag_3 : aggT Tryd.prog 3 = some false := by kernel_rfl
@[simp] theorem by_3 : bytesOf Tryd.prog 3 = 8 := by kernel_rfl
attribute [simp] Tryd.underlying3
@[simp] theorem zr_3 : zerosOf Tryd.prog 3 = some [(.lit (.int Go.IntKind.i64 (0)))] := by kernel_rfl
@[simp] theorem sz_4 : szOf Tryd.prog 4 = 1 := by kernel_rfl
@[simp] theorem ag_4 : aggT Tryd.prog 4 = some false := by kernel_rfl
@[simp] theorem by_4 : bytesOf Tryd.prog 4 = 1 := by kernel_rfl
attribute [simp] Tryd.underlying4
@[simp] theorem zr_4 : zerosOf Tryd.prog 4 = some [(.lit (.bool false))] := by kernel_rfl
@[simp] theorem sz_5 : szOf Tryd.prog 5 = 1 := by kernel_rfl
@[simp] theorem ag_5 : aggT Tryd.prog 5 = some false := by kernel_rfl
@[simp] theorem by_5 : bytesOf Tryd.prog 5 = 1 := by kernel_rfl
attribute [simp] Tryd.underlying5
@[simp] theorem zr_5 : zerosOf Tryd.prog 5 = some [(.lit (.int Go.IntKind.u8 (0)))] := by kernel_rfl
@[simp] theorem sz_6 : szOf Tryd.prog 6 = 1 := by kernel_rfl
@[simp] theorem ag_6 : aggT Tryd.prog 6 = some false := by kernel_rfl
@[simp] theorem by_6 : bytesOf Tryd.prog 6 = 1 := by kernel_rfl
attribute [simp] Tryd.underlying6
@[simp] theorem zr_6 : zerosOf Tryd.prog 6 = some [(.lit (.int Go.IntKind.u8 (0)))] := by kernel_rfl
@[simp] theorem sz_7 : szOf Tryd.prog 7 = 4 := by kernel_rfl
@[simp] theorem ag_7 : aggT Tryd.prog 7 = some true := by kernel_rfl
@[simp] theorem by_7 : bytesOf Tryd.prog 7 = 24 := by kernel_rfl
attribute [simp] Tryd.underlying7
@[simp] theorem fl_7_0 : fldOf Tryd.prog 7 0 = some (0, 2) := by kernel_rfl
@[simp] theorem fl_7_1 : fldOf Tryd.prog 7 1 = some (1, 3) := by kernel_rfl
@[simp] theorem fl_7_2 : fldOf Tryd.prog 7 2 = some (2, 4) := by kernel_rfl
@[simp] theorem fl_7_3 : fldOf Tryd.prog 7 3 = some (3, 6) := by kernel_rfl
@[simp] theorem pl_7 : placesOf Tryd.prog 7 = some [(0, 1), (1, 1), (2, 1), (3, 1)] := by kernel_rfl
@[simp] theorem zr_7 : zerosOf Tryd.prog 7 = some [(.lit (.int Go.IntKind.i64 (0))), (.lit (.int Go.IntKind.i64 (0))), (.lit (.bool false)), (.lit (.int Go.IntKind.u8 (0)))] := by kernel_rfl
@[simp] theorem sz_8 : szOf Tryd.prog 8 = 4 := by kernel_rfl
@[simp] theorem ag_8 : aggT Tryd.prog 8 = some true := by kernel_rfl
@[simp] theorem by_8 : bytesOf Tryd.prog 8 = 24 := by kernel_rfl
attribute [simp] Tryd.underlying8
@[simp] theorem fl_8_0 : fldOf Tryd.prog 8 0 = some (0, 2) := by kernel_rfl
@[simp] theorem fl_8_1 : fldOf Tryd.prog 8 1 = some (1, 3) := by kernel_rfl
@[simp] theorem fl_8_2 : fldOf Tryd.prog 8 2 = some (2, 4) := by kernel_rfl
@[simp] theorem fl_8_3 : fldOf Tryd.prog 8 3 = some (3, 6) := by kernel_rfl
@[simp] theorem pl_8 : placesOf Tryd.prog 8 = some [(0, 1), (1, 1), (2, 1), (3, 1)] := by kernel_rfl
@[simp] theorem zr_8 : zerosOf Tryd.prog 8 = some [(.lit (.int Go.IntKind.i64 (0))), (.lit (.int Go.IntKind.i64 (0))), (.lit (.bool false)), (.lit (.int Go.IntKind.u8 (0)))] := by kernel_rfl
@[simp] theorem sz_9 : szOf Tryd.prog 9 = 1 := by kernel_rfl
@[simp] theorem ag_9 : aggT Tryd.prog 9 = some false := by kernel_rfl
@[simp] theorem by_9 : bytesOf Tryd.prog 9 = 16 := by kernel_rfl
attribute [simp] Tryd.underlying9
@[simp] theorem zr_9 : zerosOf Tryd.prog 9 = some [(.lit (.string ByteArray.empty))] := by kernel_rfl
@[simp] theorem sz_10 : szOf Tryd.prog 10 = 1 := by kernel_rfl
@[simp] theorem ag_10 : aggT Tryd.prog 10 = some false := by kernel_rfl
@[simp] theorem by_10 : bytesOf Tryd.prog 10 = 16 := by kernel_rfl
attribute [simp] Tryd.underlying10
@[simp] theorem zr_10 : zerosOf Tryd.prog 10 = some [(.lit (.string ByteArray.empty))] := by kernel_rfl
@[simp] theorem sz_11 : szOf Tryd.prog 11 = 1 := by kernel_rfl
@[simp] theorem ag_11 : aggT Tryd.prog 11 = some false := by kernel_rfl
@[simp] theorem by_11 : bytesOf Tryd.prog 11 = 16 := by kernel_rfl
attribute [simp] Tryd.underlying11
@[simp] theorem zr_11 : zerosOf Tryd.prog 11 = some [(.lit (.string ByteArray.empty))] := by kernel_rfl
@[simp] theorem sz_12 : szOf Tryd.prog 12 = 1 := by kernel_rfl
@[simp] theorem ag_12 : aggT Tryd.prog 12 = some false := by kernel_rfl
@[simp] theorem by_12 : bytesOf Tryd.prog 12 = 8 := by kernel_rfl
attribute [simp] Tryd.underlying12
@[simp] theorem zr_12 : zerosOf Tryd.prog 12 = some [(.lit (.int Go.IntKind.u64 (0)))] := by kernel_rfl
@[simp] theorem sz_13 : szOf Tryd.prog 13 = 2 := by kernel_rfl
@[simp] theorem ag_13 : aggT Tryd.prog 13 = some true := by kernel_rfl
@[simp] theorem by_13 : bytesOf Tryd.prog 13 = 24 := by kernel_rfl
attribute [simp] Tryd.underlying13
@[simp] theorem fl_13_0 : fldOf Tryd.prog 13 0 = some (0, 9) := by kernel_rfl
@[simp] theorem fl_13_1 : fldOf Tryd.prog 13 1 = some (1, 12) := by kernel_rfl
@[simp] theorem pl_13 : placesOf Tryd.prog 13 = some [(0, 1), (1, 1)] := by kernel_rfl
@[simp] theorem zr_13 : zerosOf Tryd.prog 13 = some [(.lit (.string ByteArray.empty)), (.lit (.int Go.IntKind.u64 (0)))] := by kernel_rfl
@[simp] theorem sz_14 : szOf Tryd.prog 14 = 2 := by kernel_rfl
@[simp] theorem ag_14 : aggT Tryd.prog 14 = some true := by kernel_rfl
@[simp] theorem by_14 : bytesOf Tryd.prog 14 = 24 := by kernel_rfl
attribute [simp] Tryd.underlying14
@[simp] theorem fl_14_0 : fldOf Tryd.prog 14 0 = some (0, 9) := by kernel_rfl
@[simp] theorem fl_14_1 : fldOf Tryd.prog 14 1 = some (1, 12) := by kernel_rfl
@[simp] theorem pl_14 : placesOf Tryd.prog 14 = some [(0, 1), (1, 1)] := by kernel_rfl
@[simp] theorem zr_14 : zerosOf Tryd.prog 14 = some [(.lit (.string ByteArray.empty)), (.lit (.int Go.IntKind.u64 (0)))] := by kernel_rfl
@[simp] theorem sz_15 : szOf Tryd.prog 15 = 1 := by kernel_rfl
@[simp] theorem ag_15 : aggT Tryd.prog 15 = some false := by kernel_rfl
@[simp] theorem by_15 : bytesOf Tryd.prog 15 = 8 := by kernel_rfl
attribute [simp] Tryd.underlying15
@[simp] theorem zr_15 : zerosOf Tryd.prog 15 = some [(.lit (.pointer none))] := by kernel_rfl
@[simp] theorem sz_16 : szOf Tryd.prog 16 = 1 := by kernel_rfl
@[simp] theorem ag_16 : aggT Tryd.prog 16 = some false := by kernel_rfl
@[simp] theorem by_16 : bytesOf Tryd.prog 16 = 8 := by kernel_rfl
attribute [simp] Tryd.underlying16
@[simp] theorem zr_16 : zerosOf Tryd.prog 16 = some [(.lit (.pointer none))] := by kernel_rfl
@[simp] theorem sz_17 : szOf Tryd.prog 17 = 1 := by kernel_rfl
@[simp] theorem ag_17 : aggT Tryd.prog 17 = some false := by kernel_rfl
@[simp] theorem by_17 : bytesOf Tryd.prog 17 = 8 := by kernel_rfl
attribute [simp] Tryd.underlying17
@[simp] theorem zr_17 : zerosOf Tryd.prog 17 = some [(.lit (.pointer none))] := by kernel_rfl
@[simp] theorem sz_18 : szOf Tryd.prog 18 = 1 := by kernel_rfl
@[simp] theorem ag_18 : aggT Tryd.prog 18 = some true := by kernel_rfl
@[simp] theorem by_18 : bytesOf Tryd.prog 18 = 8 := by kernel_rfl
attribute [simp] Tryd.underlying18
@[simp] theorem fl_18_0 : fldOf Tryd.prog 18 0 = some (0, 17) := by kernel_rfl
@[simp] theorem pl_18 : placesOf Tryd.prog 18 = some [(0, 1)] := by kernel_rfl
@[simp] theorem zr_18 : zerosOf Tryd.prog 18 = some [(.lit (.pointer none))] := by kernel_rfl
@[simp] theorem sz_19 : szOf Tryd.prog 19 = 1 := by kernel_rfl
@[simp] theorem ag_19 : aggT Tryd.prog 19 = some true := by kernel_rfl
@[simp] theorem by_19 : bytesOf Tryd.prog 19 = 8 := by kernel_rfl
attribute [simp] Tryd.underlying19
@[simp] theorem fl_19_0 : fldOf Tryd.prog 19 0 = some (0, 17) := by kernel_rfl
@[simp] theorem pl_19 : placesOf Tryd.prog 19 = some [(0, 1)] := by kernel_rfl
@[simp] theorem zr_19 : zerosOf Tryd.prog 19 = some [(.lit (.pointer none))] := by kernel_rfl
@[simp] theorem sz_20 : szOf Tryd.prog 20 = 1 := by kernel_rfl
@[simp] theorem ag_20 : aggT Tryd.prog 20 = some false := by kernel_rfl
@[simp] theorem by_20 : bytesOf Tryd.prog 20 = 16 := by kernel_rfl
attribute [simp] Tryd.underlying20
@[simp] theorem sz_21 : szOf Tryd.prog 21 = 1 := by kernel_rfl
@[simp] theorem ag_21 : aggT Tryd.prog 21 = some false := by kernel_rfl
@[simp] theorem by_21 : bytesOf Tryd.prog 21 = 4 := by kernel_rfl
attribute [simp] Tryd.underlying21
@[simp] theorem zr_21 : zerosOf Tryd.prog 21 = some [(.lit (.int Go.IntKind.i32 (0)))] := by kernel_rfl
@[simp] theorem sz_22 : szOf Tryd.prog 22 = 1 := by kernel_rfl
@[simp] theorem ag_22 : aggT Tryd.prog 22 = some false := by kernel_rfl
@[simp] theorem by_22 : bytesOf Tryd.prog 22 = 24 := by kernel_rfl
attribute [simp] Tryd.underlying22
@[simp] theorem el_22 : Go.Sy.elemOf Tryd.prog 22 = some 9 := by kernel_rfl
@[simp] theorem zr_22 : zerosOf Tryd.prog 22 = some [(.sl .imm true 0 [])] := by kernel_rfl
@[simp] theorem sz_23 : szOf Tryd.prog 23 = 1 := by kernel_rfl
@[simp] theorem ag_23 : aggT Tryd.prog 23 = some false := by kernel_rfl
@[simp] theorem by_23 : bytesOf Tryd.prog 23 = 2 := by kernel_rfl
attribute [simp] Tryd.underlying23
@[simp] theorem zr_23 : zerosOf Tryd.prog 23 = some [(.lit (.int Go.IntKind.u16 (0)))] := by kernel_rfl
@[simp] theorem sz_24 : szOf Tryd.prog 24 = 1 := by kernel_rfl
@[simp] theorem ag_24 : aggT Tryd.prog 24 = some false := by kernel_rfl
@[simp] theorem by_24 : bytesOf Tryd.prog 24 = 8 := by kernel_rfl
attribute [simp] Tryd.underlying24
@[simp] theorem sz_25 : szOf Tryd.prog 25 = 1 := by kernel_rfl
@[simp] theorem ag_25 : aggT Tryd.prog 25 = some false := by kernel_rfl
@[simp] theorem by_25 : bytesOf Tryd.prog 25 = 8 := by kernel_rfl
attribute [simp] Tryd.underlying25
@[simp] theorem sz_26 : szOf Tryd.prog 26 = 1 := by kernel_rfl
@[simp] theorem ag_26 : aggT Tryd.prog 26 = some false := by kernel_rfl
@[simp] theorem by_26 : bytesOf Tryd.prog 26 = 8 := by kernel_rfl
attribute [simp] Tryd.underlying26
@[simp] theorem zr_26 : zerosOf Tryd.prog 26 = some [(.lit (.pointer none))] := by kernel_rfl
@[simp] theorem sz_27 : szOf Tryd.prog 27 = 1 := by kernel_rfl
@[simp] theorem ag_27 : aggT Tryd.prog 27 = some false := by kernel_rfl
@[simp] theorem by_27 : bytesOf Tryd.prog 27 = 8 := by kernel_rfl
attribute [simp] Tryd.underlying27
@[simp] theorem zr_27 : zerosOf Tryd.prog 27 = some [(.lit (.pointer none))] := by kernel_rfl
@[simp] theorem sz_28 : szOf Tryd.prog 28 = 1 := by kernel_rfl
@[simp] theorem ag_28 : aggT Tryd.prog 28 = some false := by kernel_rfl
@[simp] theorem by_28 : bytesOf Tryd.prog 28 = 0 := by kernel_rfl
attribute [simp] Tryd.underlying28
@[simp] theorem sz_29 : szOf Tryd.prog 29 = 1 := by kernel_rfl
@[simp] theorem ag_29 : aggT Tryd.prog 29 = some false := by kernel_rfl
@[simp] theorem by_29 : bytesOf Tryd.prog 29 = 8 := by kernel_rfl
attribute [simp] Tryd.underlying29
@[simp] theorem sz_30 : szOf Tryd.prog 30 = 1 := by kernel_rfl
@[simp] theorem ag_30 : aggT Tryd.prog 30 = some false := by kernel_rfl
@[simp] theorem by_30 : bytesOf Tryd.prog 30 = 8 := by kernel_rfl
attribute [simp] Tryd.underlying30
@[simp] theorem zr_30 : zerosOf Tryd.prog 30 = some [(.lit (.pointer none))] := by kernel_rfl
@[simp] theorem sz_31 : szOf Tryd.prog 31 = 1 := by kernel_rfl
@[simp] theorem ag_31 : aggT Tryd.prog 31 = some false := by kernel_rfl
@[simp] theorem by_31 : bytesOf Tryd.prog 31 = 8 := by kernel_rfl
attribute [simp] Tryd.underlying31
@[simp] theorem zr_31 : zerosOf Tryd.prog 31 = some [(.lit (.int Go.IntKind.i64 (0)))] := by kernel_rfl
@[simp] theorem sz_32 : szOf Tryd.prog 32 = 1 := by kernel_rfl
@[simp] theorem ag_32 : aggT Tryd.prog 32 = some false := by kernel_rfl
@[simp] theorem by_32 : bytesOf Tryd.prog 32 = 0 := by kernel_rfl
attribute [simp] Tryd.underlying32
@[simp] theorem sz_33 : szOf Tryd.prog 33 = 1 := by kernel_rfl
@[simp] theorem ag_33 : aggT Tryd.prog 33 = some false := by kernel_rfl
@[simp] theorem by_33 : bytesOf Tryd.prog 33 = 8 := by kernel_rfl
attribute [simp] Tryd.underlying33
@[simp] theorem sz_34 : szOf Tryd.prog 34 = 1 := by kernel_rfl
@[simp] theorem ag_34 : aggT Tryd.prog 34 = some false := by kernel_rfl
@[simp] theorem by_34 : bytesOf Tryd.prog 34 = 24 := by kernel_rfl
attribute [simp] Tryd.underlying34
@[simp] theorem el_34 : Go.Sy.elemOf Tryd.prog 34 = some 36 := by kernel_rfl
@[simp] theorem zr_34 : zerosOf Tryd.prog 34 = some [(.sl .imm true 0 [])] := by kernel_rfl
@[simp] theorem sz_35 : szOf Tryd.prog 35 = 1 := by kernel_rfl
@[simp] theorem ag_35 : aggT Tryd.prog 35 = some false := by kernel_rfl
@[simp] theorem by_35 : bytesOf Tryd.prog 35 = 8 := by kernel_rfl
attribute [simp] Tryd.underlying35
@[simp] theorem sz_36 : szOf Tryd.prog 36 = 1 := by kernel_rfl
@[simp] theorem ag_36 : aggT Tryd.prog 36 = some false := by kernel_rfl
@[simp] theorem by_36 : bytesOf Tryd.prog 36 = 16 := by kernel_rfl
attribute [simp] Tryd.underlying36
@[simp] theorem zr_36 : zerosOf Tryd.prog 36 = some [(.lit (.string ByteArray.empty))] := by kernel_rfl
@[simp] theorem sz_37 : szOf Tryd.prog 37 = 1 := by kernel_rfl
@[simp] theorem ag_37 : aggT Tryd.prog 37 = some false := by kernel_rfl
@[simp] theorem by_37 : bytesOf Tryd.prog 37 = 0 := by kernel_rfl
attribute [simp] Tryd.underlying37
@[simp] theorem sz_38 : szOf Tryd.prog 38 = 1 := by kernel_rfl
@[simp] theorem ag_38 : aggT Tryd.prog 38 = some false := by kernel_rfl
@[simp] theorem by_38 : bytesOf Tryd.prog 38 = 8 := by kernel_rfl
attribute [simp] Tryd.underlying38
@[simp] theorem sz_39 : szOf Tryd.prog 39 = 1 := by kernel_rfl
@[simp] theorem ag_39 : aggT Tryd.prog 39 = some false := by kernel_rfl
@[simp] theorem by_39 : bytesOf Tryd.prog 39 = 24 := by kernel_rfl
attribute [simp] Tryd.underlying39
@[simp] theorem el_39 : Go.Sy.elemOf Tryd.prog 39 = some 5 := by kernel_rfl
@[simp] theorem zr_39 : zerosOf Tryd.prog 39 = some [(.sl .imm true 0 [])] := by kernel_rfl
@[simp] theorem sz_40 : szOf Tryd.prog 40 = 1 := by kernel_rfl
@[simp] theorem ag_40 : aggT Tryd.prog 40 = some false := by kernel_rfl
@[simp] theorem by_40 : bytesOf Tryd.prog 40 = 8 := by kernel_rfl
attribute [simp] Tryd.underlying40
@[simp] theorem sz_41 : szOf Tryd.prog 41 = 1 := by kernel_rfl
@[simp] theorem ag_41 : aggT Tryd.prog 41 = some false := by kernel_rfl
@[simp] theorem by_41 : bytesOf Tryd.prog 41 = 8 := by kernel_rfl
attribute [simp] Tryd.underlying41
@[simp] theorem sz_42 : szOf Tryd.prog 42 = 1 := by kernel_rfl
@[simp] theorem ag_42 : aggT Tryd.prog 42 = some false := by kernel_rfl
@[simp] theorem by_42 : bytesOf Tryd.prog 42 = 8 := by kernel_rfl
attribute [simp] Tryd.underlying42
@[simp] theorem sz_43 : szOf Tryd.prog 43 = 1 := by kernel_rfl
@[simp] theorem ag_43 : aggT Tryd.prog 43 = some false := by kernel_rfl
@[simp] theorem by_43 : bytesOf Tryd.prog 43 = 8 := by kernel_rfl
attribute [simp] Tryd.underlying43
@[simp] theorem zr_43 : zerosOf Tryd.prog 43 = some [(.lit (.pointer none))] := by kernel_rfl
@[simp] theorem sz_44 : szOf Tryd.prog 44 = 1 := by kernel_rfl
@[simp] theorem ag_44 : aggT Tryd.prog 44 = some false := by kernel_rfl
@[simp] theorem by_44 : bytesOf Tryd.prog 44 = 0 := by kernel_rfl
attribute [simp] Tryd.underlying44
@[simp] theorem sz_45 : szOf Tryd.prog 45 = 1 := by kernel_rfl
@[simp] theorem ag_45 : aggT Tryd.prog 45 = some false := by kernel_rfl
@[simp] theorem by_45 : bytesOf Tryd.prog 45 = 8 := by kernel_rfl
attribute [simp] Tryd.underlying45
@[simp] theorem sz_46 : szOf Tryd.prog 46 = 1 := by kernel_rfl
@[simp] theorem ag_46 : aggT Tryd.prog 46 = some false := by kernel_rfl
@[simp] theorem by_46 : bytesOf Tryd.prog 46 = 8 := by kernel_rfl
attribute [simp] Tryd.underlying46
@[simp] theorem sz_47 : szOf Tryd.prog 47 = 1 := by kernel_rfl
@[simp] theorem ag_47 : aggT Tryd.prog 47 = some false := by kernel_rfl
@[simp] theorem by_47 : bytesOf Tryd.prog 47 = 8 := by kernel_rfl
attribute [simp] Tryd.underlying47
@[simp] theorem sz_48 : szOf Tryd.prog 48 = 5 := by kernel_rfl
@[simp] theorem ag_48 : aggT Tryd.prog 48 = some true := by kernel_rfl
@[simp] theorem by_48 : bytesOf Tryd.prog 48 = 56 := by kernel_rfl
attribute [simp] Tryd.underlying48
@[simp] theorem fl_48_0 : fldOf Tryd.prog 48 0 = some (0, 39) := by kernel_rfl
@[simp] theorem fl_48_1 : fldOf Tryd.prog 48 1 = some (1, 3) := by kernel_rfl
@[simp] theorem fl_48_2 : fldOf Tryd.prog 48 2 = some (2, 4) := by kernel_rfl
@[simp] theorem fl_48_3 : fldOf Tryd.prog 48 3 = some (3, 3) := by kernel_rfl
@[simp] theorem fl_48_4 : fldOf Tryd.prog 48 4 = some (4, 4) := by kernel_rfl
@[simp] theorem pl_48 : placesOf Tryd.prog 48 = some [(0, 1), (1, 1), (2, 1), (3, 1), (4, 1)] := by kernel_rfl
@[simp] theorem zr_48 : zerosOf Tryd.prog 48 = some [(.sl .imm true 0 []), (.lit (.int Go.IntKind.i64 (0))), (.lit (.bool false)), (.lit (.int Go.IntKind.i64 (0))), (.lit (.bool false))] := by kernel_rfl
@[simp] theorem sz_49 : szOf Tryd.prog 49 = 5 := by kernel_rfl
@[simp] theorem ag_49 : aggT Tryd.prog 49 = some true := by kernel_rfl
@[simp] theorem by_49 : bytesOf Tryd.prog 49 = 56 := by kernel_rfl
attribute [simp] Tryd.underlying49
@[simp] theorem fl_49_0 : fldOf Tryd.prog 49 0 = some (0, 39) := by kernel_rfl
@[simp] theorem fl_49_1 : fldOf Tryd.prog 49 1 = some (1, 3) := by kernel_rfl
@[simp] theorem fl_49_2 : fldOf Tryd.prog 49 2 = some (2, 4) := by kernel_rfl
@[simp] theorem fl_49_3 : fldOf Tryd.prog 49 3 = some (3, 3) := by kernel_rfl
@[simp] theorem fl_49_4 : fldOf Tryd.prog 49 4 = some (4, 4) := by kernel_rfl
@[simp] theorem pl_49 : placesOf Tryd.prog 49 = some [(0, 1), (1, 1), (2, 1), (3, 1), (4, 1)] := by kernel_rfl
@[simp] theorem zr_49 : zerosOf Tryd.prog 49 = some [(.sl .imm true 0 []), (.lit (.int Go.IntKind.i64 (0))), (.lit (.bool false)), (.lit (.int Go.IntKind.i64 (0))), (.lit (.bool false))] := by kernel_rfl
@[simp] theorem sz_50 : szOf Tryd.prog 50 = 1 := by kernel_rfl
@[simp] theorem ag_50 : aggT Tryd.prog 50 = some false := by kernel_rfl
@[simp] theorem by_50 : bytesOf Tryd.prog 50 = 8 := by kernel_rfl
attribute [simp] Tryd.underlying50
@[simp] theorem sz_51 : szOf Tryd.prog 51 = 1 := by kernel_rfl
@[simp] theorem ag_51 : aggT Tryd.prog 51 = some false := by kernel_rfl
@[simp] theorem by_51 : bytesOf Tryd.prog 51 = 8 := by kernel_rfl
attribute [simp] Tryd.underlying51
@[simp] theorem sz_52 : szOf Tryd.prog 52 = 1 := by kernel_rfl
@[simp] theorem ag_52 : aggT Tryd.prog 52 = some false := by kernel_rfl
@[simp] theorem by_52 : bytesOf Tryd.prog 52 = 0 := by kernel_rfl
attribute [simp] Tryd.underlying52
@[simp] theorem sz_53 : szOf Tryd.prog 53 = 1 := by kernel_rfl
@[simp] theorem ag_53 : aggT Tryd.prog 53 = some false := by kernel_rfl
@[simp] theorem by_53 : bytesOf Tryd.prog 53 = 8 := by kernel_rfl
attribute [simp] Tryd.underlying53
@[simp] theorem sz_54 : szOf Tryd.prog 54 = 1 := by kernel_rfl
@[simp] theorem ag_54 : aggT Tryd.prog 54 = some false := by kernel_rfl
@[simp] theorem by_54 : bytesOf Tryd.prog 54 = 8 := by kernel_rfl
attribute [simp] Tryd.underlying54
@[simp] theorem sz_55 : szOf Tryd.prog 55 = 1 := by kernel_rfl
@[simp] theorem ag_55 : aggT Tryd.prog 55 = some false := by kernel_rfl
@[simp] theorem by_55 : bytesOf Tryd.prog 55 = 8 := by kernel_rfl
attribute [simp] Tryd.underlying55
@[simp] theorem sz_56 : szOf Tryd.prog 56 = 1 := by kernel_rfl
@[simp] theorem ag_56 : aggT Tryd.prog 56 = some false := by kernel_rfl
@[simp] theorem by_56 : bytesOf Tryd.prog 56 = 8 := by kernel_rfl
attribute [simp] Tryd.underlying56
@[simp] theorem sz_57 : szOf Tryd.prog 57 = 1 := by kernel_rfl
@[simp] theorem ag_57 : aggT Tryd.prog 57 = some false := by kernel_rfl
@[simp] theorem by_57 : bytesOf Tryd.prog 57 = 24 := by kernel_rfl
attribute [simp] Tryd.underlying57
@[simp] theorem el_57 : Go.Sy.elemOf Tryd.prog 57 = some 4 := by kernel_rfl
@[simp] theorem zr_57 : zerosOf Tryd.prog 57 = some [(.sl .imm true 0 [])] := by kernel_rfl
@[simp] theorem sz_58 : szOf Tryd.prog 58 = 1 := by kernel_rfl
@[simp] theorem ag_58 : aggT Tryd.prog 58 = some false := by kernel_rfl
@[simp] theorem by_58 : bytesOf Tryd.prog 58 = 8 := by kernel_rfl
attribute [simp] Tryd.underlying58
@[simp] theorem sz_59 : szOf Tryd.prog 59 = 1 := by kernel_rfl
@[simp] theorem ag_59 : aggT Tryd.prog 59 = some false := by kernel_rfl
@[simp] theorem by_59 : bytesOf Tryd.prog 59 = 8 := by kernel_rfl
attribute [simp] Tryd.underlying59
@[simp] theorem sz_60 : szOf Tryd.prog 60 = 1 := by kernel_rfl
@[simp] theorem ag_60 : aggT Tryd.prog 60 = some false := by kernel_rfl
@[simp] theorem by_60 : bytesOf Tryd.prog 60 = 8 := by kernel_rfl
attribute [simp] Tryd.underlying60
@[simp] theorem sz_61 : szOf Tryd.prog 61 = 1 := by kernel_rfl
@[simp] theorem ag_61 : aggT Tryd.prog 61 = some false := by kernel_rfl
@[simp] theorem by_61 : bytesOf Tryd.prog 61 = 24 := by kernel_rfl
attribute [simp] Tryd.underlying61
@[simp] theorem el_61 : Go.Sy.elemOf Tryd.prog 61 = some 70 := by kernel_rfl
@[simp] theorem zr_61 : zerosOf Tryd.prog 61 = some [(.sl .imm true 0 [])] := by kernel_rfl
@[simp] theorem sz_62 : szOf Tryd.prog 62 = 1 := by kernel_rfl
@[simp] theorem ag_62 : aggT Tryd.prog 62 = some false := by kernel_rfl
@[simp] theorem by_62 : bytesOf Tryd.prog 62 = 8 := by kernel_rfl
attribute [simp] Tryd.underlying62
@[simp] theorem sz_63 : szOf Tryd.prog 63 = 1 := by kernel_rfl
@[simp] theorem ag_63 : aggT Tryd.prog 63 = some false := by kernel_rfl
@[simp] theorem by_63 : bytesOf Tryd.prog 63 = 0 := by kernel_rfl
attribute [simp] Tryd.underlying63
@[simp] theorem sz_64 : szOf Tryd.prog 64 = 1 := by kernel_rfl
@[simp] theorem ag_64 : aggT Tryd.prog 64 = some false := by kernel_rfl
@[simp] theorem by_64 : bytesOf Tryd.prog 64 = 8 := by kernel_rfl
attribute [simp] Tryd.underlying64
@[simp] theorem sz_65 : szOf Tryd.prog 65 = 1 := by kernel_rfl
@[simp] theorem ag_65 : aggT Tryd.prog 65 = some false := by kernel_rfl
@[simp] theorem by_65 : bytesOf Tryd.prog 65 = 8 := by kernel_rfl
attribute [simp] Tryd.underlying65
@[simp] theorem sz_66 : szOf Tryd.prog 66 = 1 := by kernel_rfl
@[simp] theorem ag_66 : aggT Tryd.prog 66 = some false := by kernel_rfl
@[simp] theorem by_66 : bytesOf Tryd.prog 66 = 0 := by kernel_rfl
attribute [simp] Tryd.underlying66
@[simp] theorem sz_67 : szOf Tryd.prog 67 = 1 := by kernel_rfl
@[simp] theorem ag_67 : aggT Tryd.prog 67 = some false := by kernel_rfl
@[simp] theorem by_67 : bytesOf Tryd.prog 67 = 8 := by kernel_rfl
attribute [simp] Tryd.underlying67
@[simp] theorem sz_68 : szOf Tryd.prog 68 = 1 := by kernel_rfl
@[simp] theorem ag_68 : aggT Tryd.prog 68 = some false := by kernel_rfl
@[simp] theorem by_68 : bytesOf Tryd.prog 68 = 8 := by kernel_rfl
attribute [simp] Tryd.underlying68
@[simp] theorem sz_69 : szOf Tryd.prog 69 = 2 := by kernel_rfl
@[simp] theorem ag_69 : aggT Tryd.prog 69 = some true := by kernel_rfl
@[simp] theorem by_69 : bytesOf Tryd.prog 69 = 40 := by kernel_rfl
attribute [simp] Tryd.underlying69
@[simp] theorem fl_69_0 : fldOf Tryd.prog 69 0 = some (0, 36) := by kernel_rfl
@[simp] theorem fl_69_1 : fldOf Tryd.prog 69 1 = some (1, 39) := by kernel_rfl
@[simp] theorem pl_69 : placesOf Tryd.prog 69 = some [(0, 1), (1, 1)] := by kernel_rfl
@[simp] theorem zr_69 : zerosOf Tryd.prog 69 = some [(.lit (.string ByteArray.empty)), (.sl .imm true 0 [])] := by kernel_rfl
@[simp] theorem sz_70 : szOf Tryd.prog 70 = 2 := by kernel_rfl
@[simp] theorem ag_70 : aggT Tryd.prog 70 = some true := by kernel_rfl
@[simp] theorem by_70 : bytesOf Tryd.prog 70 = 40 := by kernel_rfl
attribute [simp] Tryd.underlying70
@[simp] theorem fl_70_0 : fldOf Tryd.prog 70 0 = some (0, 36) := by kernel_rfl
@[simp] theorem fl_70_1 : fldOf Tryd.prog 70 1 = some (1, 39) := by kernel_rfl
@[simp] theorem pl_70 : placesOf Tryd.prog 70 = some [(0, 1), (1, 1)] := by kernel_rfl
@[simp] theorem zr_70 : zerosOf Tryd.prog 70 = some [(.lit (.string ByteArray.empty)), (.sl .imm true 0 [])] := by kernel_rfl
@[simp] theorem sz_71 : szOf Tryd.prog 71 = 1 := by kernel_rfl
@[simp] theorem ag_71 : aggT Tryd.prog 71 = some false := by kernel_rfl
@[simp] theorem by_71 : bytesOf Tryd.prog 71 = 8 := by kernel_rfl
attribute [simp] Tryd.underlying71
@[simp] theorem sz_72 : szOf Tryd.prog 72 = 1 := by kernel_rfl
@[simp] theorem ag_72 : aggT Tryd.prog 72 = some false := by kernel_rfl
@[simp] theorem by_72 : bytesOf Tryd.prog 72 = 8 := by kernel_rfl
attribute [simp] Tryd.underlying72
@[simp] theorem sz_73 : szOf Tryd.prog 73 = 1 := by kernel_rfl
@[simp] theorem ag_73 : aggT Tryd.prog 73 = some false := by kernel_rfl
@[simp] theorem by_73 : bytesOf Tryd.prog 73 = 8 := by kernel_rfl
attribute [simp] Tryd.underlying73
@[simp] theorem sz_74 : szOf Tryd.prog 74 = 1 := by kernel_rfl
@[simp] theorem ag_74 : aggT Tryd.prog 74 = some false := by kernel_rfl
@[simp] theorem by_74 : bytesOf Tryd.prog 74 = 24 := by kernel_rfl
attribute [simp] Tryd.underlying74
@[simp] theorem el_74 : Go.Sy.elemOf Tryd.prog 74 = some 39 := by kernel_rfl
@[simp] theorem zr_74 : zerosOf Tryd.prog 74 = some [(.sl .imm true 0 [])] := by kernel_rfl
@[simp] theorem sz_75 : szOf Tryd.prog 75 = 1 := by kernel_rfl
@[simp] theorem ag_75 : aggT Tryd.prog 75 = some false := by kernel_rfl
@[simp] theorem by_75 : bytesOf Tryd.prog 75 = 8 := by kernel_rfl
attribute [simp] Tryd.underlying75
@[simp] theorem sz_76 : szOf Tryd.prog 76 = 1 := by kernel_rfl
@[simp] theorem ag_76 : aggT Tryd.prog 76 = some false := by kernel_rfl
@[simp] theorem by_76 : bytesOf Tryd.prog 76 = 8 := by kernel_rfl
attribute [simp] Tryd.underlying76
@[simp] theorem sz_77 : szOf Tryd.prog 77 = 1 := by kernel_rfl
@[simp] theorem ag_77 : aggT Tryd.prog 77 = some false := by kernel_rfl
@[simp] theorem by_77 : bytesOf Tryd.prog 77 = 8 := by kernel_rfl
attribute [simp] Tryd.underlying77
@[simp] theorem sz_78 : szOf Tryd.prog 78 = 1 := by kernel_rfl
@[simp] theorem ag_78 : aggT Tryd.prog 78 = some false := by kernel_rfl
@[simp] theorem by_78 : bytesOf Tryd.prog 78 = 8 := by kernel_rfl
attribute [simp] Tryd.underlying78
@[simp] theorem sz_79 : szOf Tryd.prog 79 = 1 := by kernel_rfl
@[simp] theorem ag_79 : aggT Tryd.prog 79 = some false := by kernel_rfl
@[simp] theorem by_79 : bytesOf Tryd.prog 79 = 0 := by kernel_rfl
attribute [simp] Tryd.underlying79
@[simp] theorem sz_80 : szOf Tryd.prog 80 = 1 := by kernel_rfl
@[simp] theorem ag_80 : aggT Tryd.prog 80 = some false := by kernel_rfl
@[simp] theorem by_80 : bytesOf Tryd.prog 80 = 8 := by kernel_rfl
attribute [simp] Tryd.underlying80
@[simp] theorem sz_81 : szOf Tryd.prog 81 = 1 := by kernel_rfl
@[simp] theorem ag_81 : aggT Tryd.prog 81 = some false := by kernel_rfl
@[simp] theorem by_81 : bytesOf Tryd.prog 81 = 8 := by kernel_rfl
attribute [simp] Tryd.underlying81
@[simp] theorem sz_82 : szOf Tryd.prog 82 = 1 := by kernel_rfl
@[simp] theorem ag_82 : aggT Tryd.prog 82 = some false := by kernel_rfl
@[simp] theorem by_82 : bytesOf Tryd.prog 82 = 8 := by kernel_rfl
attribute [simp] Tryd.underlying82
@[simp] theorem zp_82 : zeroPV Tryd.prog 39 = some (.sl .imm true 0 []) := by kernel_rfl
@[simp] theorem zr_82 : zerosOf Tryd.prog 82 = some [(.lit (.map none))] := by kernel_rfl
@[simp] theorem sz_83 : szOf Tryd.prog 83 = 3 := by kernel_rfl
@[simp] theorem ag_83 : aggT Tryd.prog 83 = some true := by kernel_rfl
@[simp] theorem by_83 : bytesOf Tryd.prog 83 = 40 := by kernel_rfl
attribute [simp] Tryd.underlying83
@[simp] theorem fl_83_0 : fldOf Tryd.prog 83 0 = some (0, 26) := by kernel_rfl
@[simp] theorem fl_83_1 : fldOf Tryd.prog 83 1 = some (1, 34) := by kernel_rfl
@[simp] theorem fl_83_2 : fldOf Tryd.prog 83 2 = some (2, 82) := by kernel_rfl
@[simp] theorem pl_83 : placesOf Tryd.prog 83 = some [(0, 1), (1, 1), (2, 1)] := by kernel_rfl
@[simp] theorem zr_83 : zerosOf Tryd.prog 83 = some [(.lit (.pointer none)), (.sl .imm true 0 []), (.lit (.map none))] := by kernel_rfl
@[simp] theorem sz_84 : szOf Tryd.prog 84 = 3 := by kernel_rfl
@[simp] theorem ag_84 : aggT Tryd.prog 84 = some true := by kernel_rfl
@[simp] theorem by_84 : bytesOf Tryd.prog 84 = 40 := by kernel_rfl
attribute [simp] Tryd.underlying84
@[simp] theorem fl_84_0 : fldOf Tryd.prog 84 0 = some (0, 26) := by kernel_rfl
@[simp] theorem fl_84_1 : fldOf Tryd.prog 84 1 = some (1, 34) := by kernel_rfl
@[simp] theorem fl_84_2 : fldOf Tryd.prog 84 2 = some (2, 82) := by kernel_rfl
@[simp] theorem pl_84 : placesOf Tryd.prog 84 = some [(0, 1), (1, 1), (2, 1)] := by kernel_rfl
@[simp] theorem zr_84 : zerosOf Tryd.prog 84 = some [(.lit (.pointer none)), (.sl .imm true 0 []), (.lit (.map none))] := by kernel_rfl
@[simp] theorem sz_85 : szOf Tryd.prog 85 = 1 := by kernel_rfl
@[simp] theorem ag_85 : aggT Tryd.prog 85 = some false := by kernel_rfl
@[simp] theorem by_85 : bytesOf Tryd.prog 85 = 8 := by kernel_rfl
attribute [simp] Tryd.underlying85
@[simp] theorem sz_86 : szOf Tryd.prog 86 = 1 := by kernel_rfl
@[simp] theorem ag_86 : aggT Tryd.prog 86 = some false := by kernel_rfl
@[simp] theorem by_86 : bytesOf Tryd.prog 86 = 8 := by kernel_rfl
attribute [simp] Tryd.underlying86
@[simp] theorem sz_87 : szOf Tryd.prog 87 = 1 := by kernel_rfl
@[simp] theorem ag_87 : aggT Tryd.prog 87 = some false := by kernel_rfl
@[simp] theorem by_87 : bytesOf Tryd.prog 87 = 8 := by kernel_rfl
attribute [simp] Tryd.underlying87
@[simp] theorem sz_88 : szOf Tryd.prog 88 = 4 := by kernel_rfl
@[simp] theorem ag_88 : aggT Tryd.prog 88 = some true := by kernel_rfl
@[simp] theorem by_88 : bytesOf Tryd.prog 88 = 48 := by kernel_rfl
attribute [simp] Tryd.underlying88
@[simp] theorem fl_88_0 : fldOf Tryd.prog 88 0 = some (0, 39) := by kernel_rfl
@[simp] theorem fl_88_1 : fldOf Tryd.prog 88 1 = some (1, 4) := by kernel_rfl
@[simp] theorem fl_88_2 : fldOf Tryd.prog 88 2 = some (2, 31) := by kernel_rfl
@[simp] theorem fl_88_3 : fldOf Tryd.prog 88 3 = some (3, 3) := by kernel_rfl
@[simp] theorem pl_88 : placesOf Tryd.prog 88 = some [(0, 1), (1, 1), (2, 1), (3, 1)] := by kernel_rfl
@[simp] theorem zr_88 : zerosOf Tryd.prog 88 = some [(.sl .imm true 0 []), (.lit (.bool false)), (.lit (.int Go.IntKind.i64 (0))), (.lit (.int Go.IntKind.i64 (0)))] := by kernel_rfl
@[simp] theorem sz_89 : szOf Tryd.prog 89 = 4 := by kernel_rfl
@[simp] theorem ag_89 : aggT Tryd.prog 89 = some true := by kernel_rfl
@[simp] theorem by_89 : bytesOf Tryd.prog 89 = 48 := by kernel_rfl
attribute [simp] Tryd.underlying89
@[simp] theorem fl_89_0 : fldOf Tryd.prog 89 0 = some (0, 39) := by kernel_rfl
@[simp] theorem fl_89_1 : fldOf Tryd.prog 89 1 = some (1, 4) := by kernel_rfl
@[simp] theorem fl_89_2 : fldOf Tryd.prog 89 2 = some (2, 31) := by kernel_rfl
@[simp] theorem fl_89_3 : fldOf Tryd.prog 89 3 = some (3, 3) := by kernel_rfl
@[simp] theorem pl_89 : placesOf Tryd.prog 89 = some [(0, 1), (1, 1), (2, 1), (3, 1)] := by kernel_rfl
@[simp] theorem zr_89 : zerosOf Tryd.prog 89 = some [(.sl .imm true 0 []), (.lit (.bool false)), (.lit (.int Go.IntKind.i64 (0))), (.lit (.int Go.IntKind.i64 (0)))] := by kernel_rfl
@[simp] theorem sz_90 : szOf Tryd.prog 90 = 1 := by kernel_rfl
@[simp] theorem ag_90 : aggT Tryd.prog 90 = some false := by kernel_rfl
@[simp] theorem by_90 : bytesOf Tryd.prog 90 = 8 := by kernel_rfl
attribute [simp] Tryd.underlying90
@[simp] theorem sz_91 : szOf Tryd.prog 91 = 1 := by kernel_rfl
@[simp] theorem ag_91 : aggT Tryd.prog 91 = some false := by kernel_rfl
@[simp] theorem by_91 : bytesOf Tryd.prog 91 = 8 := by kernel_rfl
attribute [simp] Tryd.underlying91
@[simp] theorem sz_92 : szOf Tryd.prog 92 = 4 := by kernel_rfl
@[simp] theorem ag_92 : aggT Tryd.prog 92 = some true := by kernel_rfl
@[simp] theorem by_92 : bytesOf Tryd.prog 92 = 48 := by kernel_rfl
attribute [simp] Tryd.underlying92
@[simp] theorem fl_92_0 : fldOf Tryd.prog 92 0 = some (0, 39) := by kernel_rfl
@[simp] theorem fl_92_1 : fldOf Tryd.prog 92 1 = some (1, 3) := by kernel_rfl
@[simp] theorem fl_92_2 : fldOf Tryd.prog 92 2 = some (2, 3) := by kernel_rfl
@[simp] theorem fl_92_3 : fldOf Tryd.prog 92 3 = some (3, 4) := by kernel_rfl
@[simp] theorem pl_92 : placesOf Tryd.prog 92 = some [(0, 1), (1, 1), (2, 1), (3, 1)] := by kernel_rfl
@[simp] theorem zr_92 : zerosOf Tryd.prog 92 = some [(.sl .imm true 0 []), (.lit (.int Go.IntKind.i64 (0))), (.lit (.int Go.IntKind.i64 (0))), (.lit (.bool false))] := by kernel_rfl
@[simp] theorem sz_93 : szOf Tryd.prog 93 = 4 := by kernel_rfl
@[simp] theorem ag_93 : aggT Tryd.prog 93 = some true := by kernel_rfl
@[simp] theorem by_93 : bytesOf Tryd.prog 93 = 48 := by kernel_rfl
attribute [simp] Tryd.underlying93
@[simp] theorem fl_93_0 : fldOf Tryd.prog 93 0 = some (0, 39) := by kernel_rfl
@[simp] theorem fl_93_1 : fldOf Tryd.prog 93 1 = some (1, 3) := by kernel_rfl
@[simp] theorem fl_93_2 : fldOf Tryd.prog 93 2 = some (2, 3) := by kernel_rfl
@[simp] theorem fl_93_3 : fldOf Tryd.prog 93 3 = some (3, 4) := by kernel_rfl
@[simp] theorem pl_93 : placesOf Tryd.prog 93 = some [(0, 1), (1, 1), (2, 1), (3, 1)] := by kernel_rfl
@[simp] theorem zr_93 : zerosOf Tryd.prog 93 = some [(.sl .imm true 0 []), (.lit (.int Go.IntKind.i64 (0))), (.lit (.int Go.IntKind.i64 (0))), (.lit (.bool false))] := by kernel_rfl
@[simp] theorem sz_94 : szOf Tryd.prog 94 = 1 := by kernel_rfl
@[simp] theorem ag_94 : aggT Tryd.prog 94 = some false := by kernel_rfl
@[simp] theorem by_94 : bytesOf Tryd.prog 94 = 8 := by kernel_rfl
attribute [simp] Tryd.underlying94
@[simp] theorem sz_95 : szOf Tryd.prog 95 = 1 := by kernel_rfl
@[simp] theorem ag_95 : aggT Tryd.prog 95 = some false := by kernel_rfl
@[simp] theorem by_95 : bytesOf Tryd.prog 95 = 4 := by kernel_rfl
attribute [simp] Tryd.underlying95
@[simp] theorem zr_95 : zerosOf Tryd.prog 95 = some [(.lit (.int Go.IntKind.u32 (0)))] := by kernel_rfl
@[simp] theorem sz_96 : szOf Tryd.prog 96 = 1 := by kernel_rfl
@[simp] theorem ag_96 : aggT Tryd.prog 96 = some false := by kernel_rfl
@[simp] theorem by_96 : bytesOf Tryd.prog 96 = 24 := by kernel_rfl
attribute [simp] Tryd.underlying96
@[simp] theorem el_96 : Go.Sy.elemOf Tryd.prog 96 = some 95 := by kernel_rfl
@[simp] theorem zr_96 : zerosOf Tryd.prog 96 = some [(.sl .imm true 0 [])] := by kernel_rfl
@[simp] theorem sz_97 : szOf Tryd.prog 97 = 1 := by kernel_rfl
@[simp] theorem ag_97 : aggT Tryd.prog 97 = some false := by kernel_rfl
@[simp] theorem by_97 : bytesOf Tryd.prog 97 = 8 := by kernel_rfl
attribute [simp] Tryd.underlying97
@[simp] theorem sz_98 : szOf Tryd.prog 98 = 1 := by kernel_rfl
@[simp] theorem ag_98 : aggT Tryd.prog 98 = some false := by kernel_rfl
@[simp] theorem by_98 : bytesOf Tryd.prog 98 = 8 := by kernel_rfl
attribute [simp] Tryd.underlying98
@[simp] theorem sz_99 : szOf Tryd.prog 99 = 1 := by kernel_rfl
@[simp] theorem ag_99 : aggT Tryd.prog 99 = some false := by kernel_rfl
@[simp] theorem by_99 : bytesOf Tryd.prog 99 = 8 := by kernel_rfl
attribute [simp] Tryd.underlying99
@[simp] theorem sz_100 : szOf Tryd.prog 100 = 64 := by kernel_rfl
@[simp] theorem ag_100 : aggT Tryd.prog 100 = some true := by kernel_rfl
@[simp] theorem by_100 : bytesOf Tryd.prog 100 = 256 := by kernel_rfl
attribute [simp] Tryd.underlying100
@[simp] theorem zr_100 : zerosOf Tryd.prog 100 = some (List.replicate 64 (.lit (.int Go.IntKind.u32 0))) := by kernel_rfl
@[simp] theorem sz_101 : szOf Tryd.prog 101 = 1 := by kernel_rfl
@[simp] theorem ag_101 : aggT Tryd.prog 101 = some false := by kernel_rfl
@[simp] theorem by_101 : bytesOf Tryd.prog 101 = 8 := by kernel_rfl
attribute [simp] Tryd.underlying101
@[simp] theorem sz_102 : szOf Tryd.prog 102 = 1 := by kernel_rfl
@[simp] theorem ag_102 : aggT Tryd.prog 102 = some false := by kernel_rfl
@[simp] theorem by_102 : bytesOf Tryd.prog 102 = 8 := by kernel_rfl
attribute [simp] Tryd.underlying102
@[simp] theorem sz_103 : szOf Tryd.prog 103 = 3 := by kernel_rfl
@[simp] theorem ag_103 : aggT Tryd.prog 103 = some true := by kernel_rfl
@[simp] theorem by_103 : bytesOf Tryd.prog 103 = 56 := by kernel_rfl
attribute [simp] Tryd.underlying103
@[simp] theorem fl_103_0 : fldOf Tryd.prog 103 0 = some (0, 27) := by kernel_rfl
@[simp] theorem fl_103_1 : fldOf Tryd.prog 103 1 = some (1, 34) := by kernel_rfl
@[simp] theorem fl_103_2 : fldOf Tryd.prog 103 2 = some (2, 22) := by kernel_rfl
@[simp] theorem pl_103 : placesOf Tryd.prog 103 = some [(0, 1), (1, 1), (2, 1)] := by kernel_rfl
@[simp] theorem zr_103 : zerosOf Tryd.prog 103 = some [(.lit (.pointer none)), (.sl .imm true 0 []), (.sl .imm true 0 [])] := by kernel_rfl
@[simp] theorem sz_104 : szOf Tryd.prog 104 = 3 := by kernel_rfl
@[simp] theorem ag_104 : aggT Tryd.prog 104 = some true := by kernel_rfl
@[simp] theorem by_104 : bytesOf Tryd.prog 104 = 56 := by kernel_rfl
attribute [simp] Tryd.underlying104
@[simp] theorem fl_104_0 : fldOf Tryd.prog 104 0 = some (0, 27) := by kernel_rfl
@[simp] theorem fl_104_1 : fldOf Tryd.prog 104 1 = some (1, 34) := by kernel_rfl
@[simp] theorem fl_104_2 : fldOf Tryd.prog 104 2 = some (2, 22) := by kernel_rfl
@[simp] theorem pl_104 : placesOf Tryd.prog 104 = some [(0, 1), (1, 1), (2, 1)] := by kernel_rfl
@[simp] theorem zr_104 : zerosOf Tryd.prog 104 = some [(.lit (.pointer none)), (.sl .imm true 0 []), (.sl .imm true 0 [])] := by kernel_rfl
@[simp] theorem sz_105 : szOf Tryd.prog 105 = 1 := by kernel_rfl
@[simp] theorem ag_105 : aggT Tryd.prog 105 = some false := by kernel_rfl
@[simp] theorem by_105 : bytesOf Tryd.prog 105 = 8 := by kernel_rfl
attribute [simp] Tryd.underlying105
@[simp] theorem zr_105 : zerosOf Tryd.prog 105 = some [(.lit (.pointer none))] := by kernel_rfl
@[simp] theorem sz_106 : szOf Tryd.prog 106 = 3 := by kernel_rfl
@[simp] theorem ag_106 : aggT Tryd.prog 106 = some true := by kernel_rfl
@[simp] theorem by_106 : bytesOf Tryd.prog 106 = 40 := by kernel_rfl
attribute [simp] Tryd.underlying106
@[simp] theorem fl_106_0 : fldOf Tryd.prog 106 0 = some (0, 39) := by kernel_rfl
@[simp] theorem fl_106_1 : fldOf Tryd.prog 106 1 = some (1, 3) := by kernel_rfl
@[simp] theorem fl_106_2 : fldOf Tryd.prog 106 2 = some (2, 31) := by kernel_rfl
@[simp] theorem pl_106 : placesOf Tryd.prog 106 = some [(0, 1), (1, 1), (2, 1)] := by kernel_rfl
@[simp] theorem zr_106 : zerosOf Tryd.prog 106 = some [(.sl .imm true 0 []), (.lit (.int Go.IntKind.i64 (0))), (.lit (.int Go.IntKind.i64 (0)))] := by kernel_rfl
@[simp] theorem sz_107 : szOf Tryd.prog 107 = 3 := by kernel_rfl
@[simp] theorem ag_107 : aggT Tryd.prog 107 = some true := by kernel_rfl
@[simp] theorem by_107 : bytesOf Tryd.prog 107 = 40 := by kernel_rfl
attribute [simp] Tryd.underlying107
@[simp] theorem fl_107_0 : fldOf Tryd.prog 107 0 = some (0, 39) := by kernel_rfl
@[simp] theorem fl_107_1 : fldOf Tryd.prog 107 1 = some (1, 3) := by kernel_rfl
@[simp] theorem fl_107_2 : fldOf Tryd.prog 107 2 = some (2, 31) := by kernel_rfl
@[simp] theorem pl_107 : placesOf Tryd.prog 107 = some [(0, 1), (1, 1), (2, 1)] := by kernel_rfl
@[simp] theorem zr_107 : zerosOf Tryd.prog 107 = some [(.sl .imm true 0 []), (.lit (.int Go.IntKind.i64 (0))), (.lit (.int Go.IntKind.i64 (0)))] := by kernel_rfl
@[simp] theorem sz_108 : szOf Tryd.prog 108 = 1 := by kernel_rfl
@[simp] theorem ag_108 : aggT Tryd.prog 108 = some false := by kernel_rfl
@[simp] theorem by_108 : bytesOf Tryd.prog 108 = 8 := by kernel_rfl
attribute [simp] Tryd.underlying108
@[simp] theorem zr_108 : zerosOf Tryd.prog 108 = some [(.lit (.int Go.IntKind.u64 (0)))] := by kernel_rfl
@[simp] theorem sz_109 : szOf Tryd.prog 109 = 1 := by kernel_rfl
@[simp] theorem ag_109 : aggT Tryd.prog 109 = some false := by kernel_rfl
@[simp] theorem by_109 : bytesOf Tryd.prog 109 = 8 := by kernel_rfl
attribute [simp] Tryd.underlying109
@[simp] theorem sz_110 : szOf Tryd.prog 110 = 1 := by kernel_rfl
@[simp] theorem ag_110 : aggT Tryd.prog 110 = some false := by kernel_rfl
@[simp] theorem by_110 : bytesOf Tryd.prog 110 = 8 := by kernel_rfl
attribute [simp] Tryd.underlying110
@[simp] theorem sz_111 : szOf Tryd.prog 111 = 1 := by kernel_rfl
@[simp] theorem ag_111 : aggT Tryd.prog 111 = some false := by kernel_rfl
@[simp] theorem by_111 : bytesOf Tryd.prog 111 = 8 := by kernel_rfl
attribute [simp] Tryd.underlying111
@[simp] theorem sz_112 : szOf Tryd.prog 112 = 1 := by kernel_rfl
@[simp] theorem ag_112 : aggT Tryd.prog 112 = some false := by kernel_rfl
@[simp] theorem by_112 : bytesOf Tryd.prog 112 = 0 := by kernel_rfl
attribute [simp] Tryd.underlying112
@[simp] theorem sz_113 : szOf Tryd.prog 113 = 1 := by kernel_rfl
@[simp] theorem ag_113 : aggT Tryd.prog 113 = some false := by kernel_rfl
@[simp] theorem by_113 : bytesOf Tryd.prog 113 = 8 := by kernel_rfl
attribute [simp] Tryd.underlying113
@[simp] theorem sz_114 : szOf Tryd.prog 114 = 1 := by kernel_rfl
@[simp] theorem ag_114 : aggT Tryd.prog 114 = some false := by kernel_rfl
@[simp] theorem by_114 : bytesOf Tryd.prog 114 = 8 := by kernel_rfl
attribute [simp] Tryd.underlying114
@[simp] theorem sz_115 : szOf Tryd.prog 115 = 1 := by kernel_rfl
@[simp] theorem ag_115 : aggT Tryd.prog 115 = some false := by kernel_rfl
@[simp] theorem by_115 : bytesOf Tryd.prog 115 = 8 := by kernel_rfl
attribute [simp] Tryd.underlying115
@[simp] theorem sz_116 : szOf Tryd.prog 116 = 1 := by kernel_rfl
@[simp] theorem ag_116 : aggT Tryd.prog 116 = some false := by kernel_rfl
@[simp] theorem by_116 : bytesOf Tryd.prog 116 = 8 := by kernel_rfl
attribute [simp] Tryd.underlying116
@[simp] theorem zr_116 : zerosOf Tryd.prog 116 = some [(.lit (.pointer none))] := by kernel_rfl
@[simp] theorem sz_117 : szOf Tryd.prog 117 = 1 := by kernel_rfl
@[simp] theorem ag_117 : aggT Tryd.prog 117 = some false := by kernel_rfl
@[simp] theorem by_117 : bytesOf Tryd.prog 117 = 8 := by kernel_rfl
attribute [simp] Tryd.underlying117
@[simp] theorem sz_118 : szOf Tryd.prog 118 = 1 := by kernel_rfl
@[simp] theorem ag_118 : aggT Tryd.prog 118 = some false := by kernel_rfl
@[simp] theorem by_118 : bytesOf Tryd.prog 118 = 0 := by kernel_rfl
attribute [simp] Tryd.underlying118
@[simp] theorem sz_119 : szOf Tryd.prog 119 = 1 := by kernel_rfl
@[simp] theorem ag_119 : aggT Tryd.prog 119 = some false := by kernel_rfl
@[simp] theorem by_119 : bytesOf Tryd.prog 119 = 8 := by kernel_rfl
attribute [simp] Tryd.underlying119
@[simp] theorem sz_120 : szOf Tryd.prog 120 = 1 := by kernel_rfl
@[simp] theorem ag_120 : aggT Tryd.prog 120 = some false := by kernel_rfl
@[simp] theorem by_120 : bytesOf Tryd.prog 120 = 8 := by kernel_rfl
attribute [simp] Tryd.underlying120
@[simp] theorem sz_121 : szOf Tryd.prog 121 = 1 := by kernel_rfl
@[simp] theorem ag_121 : aggT Tryd.prog 121 = some false := by kernel_rfl
@[simp] theorem by_121 : bytesOf Tryd.prog 121 = 8 := by kernel_rfl
attribute [simp] Tryd.underlying121
@[simp] theorem sz_122 : szOf Tryd.prog 122 = 1 := by kernel_rfl
@[simp] theorem ag_122 : aggT Tryd.prog 122 = some false := by kernel_rfl
@[simp] theorem by_122 : bytesOf Tryd.prog 122 = 8 := by kernel_rfl
attribute [simp] Tryd.underlying122
@[simp] theorem sz_123 : szOf Tryd.prog 123 = 1 := by kernel_rfl
@[simp] theorem ag_123 : aggT Tryd.prog 123 = some false := by kernel_rfl
@[simp] theorem by_123 : bytesOf Tryd.prog 123 = 8 := by kernel_rfl
attribute [simp] Tryd.underlying123
@[simp] theorem sz_124 : szOf Tryd.prog 124 = 1 := by kernel_rfl
@[simp] theorem ag_124 : aggT Tryd.prog 124 = some false := by kernel_rfl
@[simp] theorem by_124 : bytesOf Tryd.prog 124 = 8 := by kernel_rfl
attribute [simp] Tryd.underlying124
@[simp] theorem sz_125 : szOf Tryd.prog 125 = 1 := by kernel_rfl
@[simp] theorem ag_125 : aggT Tryd.prog 125 = some false := by kernel_rfl
@[simp] theorem by_125 : bytesOf Tryd.prog 125 = 8 := by kernel_rfl
attribute [simp] Tryd.underlying125
@[simp] theorem zr_125 : zerosOf Tryd.prog 125 = some [(.lit (.pointer none))] := by kernel_rfl
@[simp] theorem sz_126 : szOf Tryd.prog 126 = 1 := by kernel_rfl
@[simp] theorem ag_126 : aggT Tryd.prog 126 = some false := by kernel_rfl
@[simp] theorem by_126 : bytesOf Tryd.prog 126 = 8 := by kernel_rfl
attribute [simp] Tryd.underlying126
@[simp] theorem sz_127 : szOf Tryd.prog 127 = 1 := by kernel_rfl
@[simp] theorem ag_127 : aggT Tryd.prog 127 = some false := by kernel_rfl
@[simp] theorem by_127 : bytesOf Tryd.prog 127 = 8 := by kernel_rfl
attribute [simp] Tryd.underlying127
@[simp] theorem sz_128 : szOf Tryd.prog 128 = 1 := by kernel_rfl
@[simp] theorem ag_128 : aggT Tryd.prog 128 = some false := by kernel_rfl
@[simp] theorem by_128 : bytesOf Tryd.prog 128 = 8 := by kernel_rfl
attribute [simp] Tryd.underlying128
@[simp] theorem sz_129 : szOf Tryd.prog 129 = 1 := by kernel_rfl
@[simp] theorem ag_129 : aggT Tryd.prog 129 = some false := by kernel_rfl
@[simp] theorem by_129 : bytesOf Tryd.prog 129 = 0 := by kernel_rfl
attribute [simp] Tryd.underlying129
@[simp] theorem sz_130 : szOf Tryd.prog 130 = 1 := by kernel_rfl
@[simp] theorem ag_130 : aggT Tryd.prog 130 = some false := by kernel_rfl
@[simp] theorem by_130 : bytesOf Tryd.prog 130 = 8 := by kernel_rfl
attribute [simp] Tryd.underlying130
@[simp] theorem sz_131 : szOf Tryd.prog 131 = 1 := by kernel_rfl
@[simp] theorem ag_131 : aggT Tryd.prog 131 = some false := by kernel_rfl
@[simp] theorem by_131 : bytesOf Tryd.prog 131 = 8 := by kernel_rfl
attribute [simp] Tryd.underlying131
@[simp] theorem zr_131 : zerosOf Tryd.prog 131 = some [(.lit (.int Go.IntKind.u64 (0)))] := by kernel_rfl
@[simp] theorem sz_132 : szOf Tryd.prog 132 = 1 := by kernel_rfl
@[simp] theorem ag_132 : aggT Tryd.prog 132 = some false := by kernel_rfl
@[simp] theorem by_132 : bytesOf Tryd.prog 132 = 8 := by kernel_rfl
attribute [simp] Tryd.underlying132
@[simp] theorem sz_133 : szOf Tryd.prog 133 = 1 := by kernel_rfl
@[simp] theorem ag_133 : aggT Tryd.prog 133 = some false := by kernel_rfl
@[simp] theorem by_133 : bytesOf Tryd.prog 133 = 8 := by kernel_rfl
attribute [simp] Tryd.underlying133
@[simp] theorem sz_134 : szOf Tryd.prog 134 = 1 := by kernel_rfl
@[simp] theorem ag_134 : aggT Tryd.prog 134 = some false := by kernel_rfl
@[simp] theorem by_134 : bytesOf Tryd.prog 134 = 8 := by kernel_rfl
attribute [simp] Tryd.underlying134
@[simp] theorem sz_135 : szOf Tryd.prog 135 = 1 := by kernel_rfl
@[simp] theorem ag_135 : aggT Tryd.prog 135 = some false := by kernel_rfl
@[simp] theorem by_135 : bytesOf Tryd.prog 135 = 8 := by kernel_rfl
attribute [simp] Tryd.underlying135
@[simp] theorem sz_136 : szOf Tryd.prog 136 = 2 := by kernel_rfl
@[simp] theorem ag_136 : aggT Tryd.prog 136 = some true := by kernel_rfl
@[simp] theorem by_136 : bytesOf Tryd.prog 136 = 32 := by kernel_rfl
attribute [simp] Tryd.underlying136
@[simp] theorem fl_136_0 : fldOf Tryd.prog 136 0 = some (0, 39) := by kernel_rfl
@[simp] theorem fl_136_1 : fldOf Tryd.prog 136 1 = some (1, 31) := by kernel_rfl
@[simp] theorem pl_136 : placesOf Tryd.prog 136 = some [(0, 1), (1, 1)] := by kernel_rfl
@[simp] theorem zr_136 : zerosOf Tryd.prog 136 = some [(.sl .imm true 0 []), (.lit (.int Go.IntKind.i64 (0)))] := by kernel_rfl
@[simp] theorem sz_137 : szOf Tryd.prog 137 = 2 := by kernel_rfl
@[simp] theorem ag_137 : aggT Tryd.prog 137 = some true := by kernel_rfl
@[simp] theorem by_137 : bytesOf Tryd.prog 137 = 32 := by kernel_rfl
attribute [simp] Tryd.underlying137
@[simp] theorem fl_137_0 : fldOf Tryd.prog 137 0 = some (0, 39) := by kernel_rfl
@[simp] theorem fl_137_1 : fldOf Tryd.prog 137 1 = some (1, 31) := by kernel_rfl
@[simp] theorem pl_137 : placesOf Tryd.prog 137 = some [(0, 1), (1, 1)] := by kernel_rfl
@[simp] theorem zr_137 : zerosOf Tryd.prog 137 = some [(.sl .imm true 0 []), (.lit (.int Go.IntKind.i64 (0)))] := by kernel_rfl
@[simp] theorem sz_138 : szOf Tryd.prog 138 = 1 := by kernel_rfl
@[simp] theorem ag_138 : aggT Tryd.prog 138 = some false := by kernel_rfl
@[simp] theorem by_138 : bytesOf Tryd.prog 138 = 8 := by kernel_rfl
attribute [simp] Tryd.underlying138
@[simp] theorem sz_139 : szOf Tryd.prog 139 = 1 := by kernel_rfl
@[simp] theorem ag_139 : aggT Tryd.prog 139 = some false := by kernel_rfl
@[simp] theorem by_139 : bytesOf Tryd.prog 139 = 8 := by kernel_rfl
attribute [simp] Tryd.underlying139
@[simp] theorem sz_140 : szOf Tryd.prog 140 = 1 := by kernel_rfl
@[simp] theorem ag_140 : aggT Tryd.prog 140 = some false := by kernel_rfl
@[simp] theorem by_140 : bytesOf Tryd.prog 140 = 8 := by kernel_rfl
attribute [simp] Tryd.underlying140
@[simp] theorem sz_141 : szOf Tryd.prog 141 = 1 := by kernel_rfl
@[simp] theorem ag_141 : aggT Tryd.prog 141 = some false := by kernel_rfl
@[simp] theorem by_141 : bytesOf Tryd.prog 141 = 8 := by kernel_rfl
attribute [simp] Tryd.underlying141
@[simp] theorem sz_142 : szOf Tryd.prog 142 = 8 := by kernel_rfl
@[simp] theorem ag_142 : aggT Tryd.prog 142 = some true := by kernel_rfl
@[simp] theorem by_142 : bytesOf Tryd.prog 142 = 32 := by kernel_rfl
attribute [simp] Tryd.underlying142
@[simp] theorem pl_142 : placesOf Tryd.prog 142 = none := by kernel_rfl
@[simp] theorem zr_142 : zerosOf Tryd.prog 142 = some [(.lit (.int Go.IntKind.u32 (0))), (.lit (.int Go.IntKind.u32 (0))), (.lit (.int Go.IntKind.u32 (0))), (.lit (.int Go.IntKind.u32 (0))), (.lit (.int Go.IntKind.u32 (0))), (.lit (.int Go.IntKind.u32 (0))), (.lit (.int Go.IntKind.u32 (0))), (.lit (.int Go.IntKind.u32 (0)))] := by kernel_rfl
@[simp] theorem sz_143 : szOf Tryd.prog 143 = 8 := by kernel_rfl
@[simp] theorem ag_143 : aggT Tryd.prog 143 = some true := by kernel_rfl
@[simp] theorem by_143 : bytesOf Tryd.prog 143 = 32 := by kernel_rfl
attribute [simp] Tryd.underlying143
@[simp] theorem pl_143 : placesOf Tryd.prog 143 = none := by kernel_rfl
@[simp] theorem zr_143 : zerosOf Tryd.prog 143 = some [(.lit (.int Go.IntKind.u32 (0))), (.lit (.int Go.IntKind.u32 (0))), (.lit (.int Go.IntKind.u32 (0))), (.lit (.int Go.IntKind.u32 (0))), (.lit (.int Go.IntKind.u32 (0))), (.lit (.int Go.IntKind.u32 (0))), (.lit (.int Go.IntKind.u32 (0))), (.lit (.int Go.IntKind.u32 (0)))] := by kernel_rfl
@[simp] theorem sz_144 : szOf Tryd.prog 144 = 1 := by kernel_rfl
@[simp] theorem ag_144 : aggT Tryd.prog 144 = some false := by kernel_rfl
@[simp] theorem by_144 : bytesOf Tryd.prog 144 = 8 := by kernel_rfl
attribute [simp] Tryd.underlying144
@[simp] theorem sz_145 : szOf Tryd.prog 145 = 10 := by kernel_rfl
@[simp] theorem ag_145 : aggT Tryd.prog 145 = some true := by kernel_rfl
@[simp] theorem by_145 : bytesOf Tryd.prog 145 = 64 := by kernel_rfl
attribute [simp] Tryd.underlying145
@[simp] theorem fl_145_0 : fldOf Tryd.prog 145 0 = some (0, 143) := by kernel_rfl
@[simp] theorem fl_145_1 : fldOf Tryd.prog 145 1 = some (8, 39) := by kernel_rfl
@[simp] theorem fl_145_2 : fldOf Tryd.prog 145 2 = some (9, 108) := by kernel_rfl
@[simp] theorem pl_145 : placesOf Tryd.prog 145 = some [(0, 8), (8, 1), (9, 1)] := by kernel_rfl
@[simp] theorem zr_145 : zerosOf Tryd.prog 145 = some [(.lit (.int Go.IntKind.u32 (0))), (.lit (.int Go.IntKind.u32 (0))), (.lit (.int Go.IntKind.u32 (0))), (.lit (.int Go.IntKind.u32 (0))), (.lit (.int Go.IntKind.u32 (0))), (.lit (.int Go.IntKind.u32 (0))), (.lit (.int Go.IntKind.u32 (0))), (.lit (.int Go.IntKind.u32 (0))), (.sl .imm true 0 []), (.lit (.int Go.IntKind.u64 (0)))] := by kernel_rfl
@[simp] theorem sz_146 : szOf Tryd.prog 146 = 10 := by kernel_rfl
@[simp] theorem ag_146 : aggT Tryd.prog 146 = some true := by kernel_rfl
@[simp] theorem by_146 : bytesOf Tryd.prog 146 = 64 := by kernel_rfl
attribute [simp] Tryd.underlying146
@[simp] theorem fl_146_0 : fldOf Tryd.prog 146 0 = some (0, 143) := by kernel_rfl
@[simp] theorem fl_146_1 : fldOf Tryd.prog 146 1 = some (8, 39) := by kernel_rfl
@[simp] theorem fl_146_2 : fldOf Tryd.prog 146 2 = some (9, 108) := by kernel_rfl
@[simp] theorem pl_146 : placesOf Tryd.prog 146 = some [(0, 8), (8, 1), (9, 1)] := by kernel_rfl
@[simp] theorem zr_146 : zerosOf Tryd.prog 146 = some [(.lit (.int Go.IntKind.u32 (0))), (.lit (.int Go.IntKind.u32 (0))), (.lit (.int Go.IntKind.u32 (0))), (.lit (.int Go.IntKind.u32 (0))), (.lit (.int Go.IntKind.u32 (0))), (.lit (.int Go.IntKind.u32 (0))), (.lit (.int Go.IntKind.u32 (0))), (.lit (.int Go.IntKind.u32 (0))), (.sl .imm true 0 []), (.lit (.int Go.IntKind.u64 (0)))] := by kernel_rfl
@[simp] theorem sz_147 : szOf Tryd.prog 147 = 1 := by kernel_rfl
@[simp] theorem ag_147 : aggT Tryd.prog 147 = some false := by kernel_rfl
@[simp] theorem by_147 : bytesOf Tryd.prog 147 = 8 := by kernel_rfl
attribute [simp] Tryd.underlying147
@[simp] theorem sz_148 : szOf Tryd.prog 148 = 1 := by kernel_rfl
@[simp] theorem ag_148 : aggT Tryd.prog 148 = some false := by kernel_rfl
@[simp] theorem by_148 : bytesOf Tryd.prog 148 = 8 := by kernel_rfl
attribute [simp] Tryd.underlying148
@[simp] theorem sz_149 : szOf Tryd.prog 149 = 1 := by kernel_rfl
@[simp] theorem ag_149 : aggT Tryd.prog 149 = some false := by kernel_rfl
@[simp] theorem by_149 : bytesOf Tryd.prog 149 = 8 := by kernel_rfl
attribute [simp] Tryd.underlying149
@[simp] theorem sz_150 : szOf Tryd.prog 150 = 1 := by kernel_rfl
@[simp] theorem ag_150 : aggT Tryd.prog 150 = some false := by kernel_rfl
@[simp] theorem by_150 : bytesOf Tryd.prog 150 = 8 := by kernel_rfl
attribute [simp] Tryd.underlying150
@[simp] theorem sz_151 : szOf Tryd.prog 151 = 1 := by kernel_rfl
@[simp] theorem ag_151 : aggT Tryd.prog 151 = some false := by kernel_rfl
@[simp] theorem by_151 : bytesOf Tryd.prog 151 = 8 := by kernel_rfl
attribute [simp] Tryd.underlying151
@[simp] theorem sz_152 : szOf Tryd.prog 152 = 1 := by kernel_rfl
@[simp] theorem ag_152 : aggT Tryd.prog 152 = some false := by kernel_rfl
@[simp] theorem by_152 : bytesOf Tryd.prog 152 = 8 := by kernel_rfl
attribute [simp] Tryd.underlying152
@[simp] theorem zp_152 : zeroPV Tryd.prog 4 = some (.lit (.bool false)) := by kernel_rfl
@[simp] theorem zr_152 : zerosOf Tryd.prog 152 = some [(.lit (.map none))] := by kernel_rfl
@[simp] theorem sz_153 : szOf Tryd.prog 153 = 1 := by kernel_rfl
@[simp] theorem ag_153 : aggT Tryd.prog 153 = some false := by kernel_rfl
@[simp] theorem by_153 : bytesOf Tryd.prog 153 = 8 := by kernel_rfl
attribute [simp] Tryd.underlying153
@[simp] theorem sz_154 : szOf Tryd.prog 154 = 1 := by kernel_rfl
@[simp] theorem ag_154 : aggT Tryd.prog 154 = some false := by kernel_rfl
@[simp] theorem by_154 : bytesOf Tryd.prog 154 = 8 := by kernel_rfl
attribute [simp] Tryd.underlying154
@[simp] theorem zp_154 : zeroPV Tryd.prog 164 = some (.sl .imm true 0 []) := by kernel_rfl
@[simp] theorem zr_154 : zerosOf Tryd.prog 154 = some [(.lit (.map none))] := by kernel_rfl
@[simp] theorem sz_155 : szOf Tryd.prog 155 = 1 := by kernel_rfl
@[simp] theorem ag_155 : aggT Tryd.prog 155 = some false := by kernel_rfl
@[simp] theorem by_155 : bytesOf Tryd.prog 155 = 8 := by kernel_rfl
attribute [simp] Tryd.underlying155
@[simp] theorem sz_156 : szOf Tryd.prog 156 = 1 := by kernel_rfl
@[simp] theorem ag_156 : aggT Tryd.prog 156 = some false := by kernel_rfl
@[simp] theorem by_156 : bytesOf Tryd.prog 156 = 0 := by kernel_rfl
attribute [simp] Tryd.underlying156
@[simp] theorem sz_157 : szOf Tryd.prog 157 = 1 := by kernel_rfl
@[simp] theorem ag_157 : aggT Tryd.prog 157 = some false := by kernel_rfl
@[simp] theorem by_157 : bytesOf Tryd.prog 157 = 8 := by kernel_rfl
attribute [simp] Tryd.underlying157
@[simp] theorem sz_158 : szOf Tryd.prog 158 = 1 := by kernel_rfl
@[simp] theorem ag_158 : aggT Tryd.prog 158 = some false := by kernel_rfl
@[simp] theorem by_158 : bytesOf Tryd.prog 158 = 8 := by kernel_rfl
attribute [simp] Tryd.underlying158
@[simp] theorem sz_159 : szOf Tryd.prog 159 = 1 := by kernel_rfl
@[simp] theorem ag_159 : aggT Tryd.prog 159 = some false := by kernel_rfl
@[simp] theorem by_159 : bytesOf Tryd.prog 159 = 8 := by kernel_rfl
attribute [simp] Tryd.underlying159
@[simp] theorem sz_160 : szOf Tryd.prog 160 = 1 := by kernel_rfl
@[simp] theorem ag_160 : aggT Tryd.prog 160 = some false := by kernel_rfl
@[simp] theorem by_160 : bytesOf Tryd.prog 160 = 24 := by kernel_rfl
attribute [simp] Tryd.underlying160
@[simp] theorem el_160 : Go.Sy.elemOf Tryd.prog 160 = some 61 := by kernel_rfl
@[simp] theorem zr_160 : zerosOf Tryd.prog 160 = some [(.sl .imm true 0 [])] := by kernel_rfl
@[simp] theorem sz_161 : szOf Tryd.prog 161 = 1 := by kernel_rfl
@[simp] theorem ag_161 : aggT Tryd.prog 161 = some false := by kernel_rfl
@[simp] theorem by_161 : bytesOf Tryd.prog 161 = 8 := by kernel_rfl
attribute [simp] Tryd.underlying161
@[simp] theorem sz_162 : szOf Tryd.prog 162 = 8 := by kernel_rfl
@[simp] theorem ag_162 : aggT Tryd.prog 162 = some true := by kernel_rfl
@[simp] theorem by_162 : bytesOf Tryd.prog 162 = 8 := by kernel_rfl
attribute [simp] Tryd.underlying162
@[simp] theorem pl_162 : placesOf Tryd.prog 162 = none := by kernel_rfl
@[simp] theorem zr_162 : zerosOf Tryd.prog 162 = some [(.lit (.int Go.IntKind.u8 (0))), (.lit (.int Go.IntKind.u8 (0))), (.lit (.int Go.IntKind.u8 (0))), (.lit (.int Go.IntKind.u8 (0))), (.lit (.int Go.IntKind.u8 (0))), (.lit (.int Go.IntKind.u8 (0))), (.lit (.int Go.IntKind.u8 (0))), (.lit (.int Go.IntKind.u8 (0)))] := by kernel_rfl
@[simp] theorem sz_163 : szOf Tryd.prog 163 = 8 := by kernel_rfl
@[simp] theorem ag_163 : aggT Tryd.prog 163 = some true := by kernel_rfl
@[simp] theorem by_163 : bytesOf Tryd.prog 163 = 8 := by kernel_rfl
attribute [simp] Tryd.underlying163
@[simp] theorem pl_163 : placesOf Tryd.prog 163 = none := by kernel_rfl
@[simp] theorem zr_163 : zerosOf Tryd.prog 163 = some [(.lit (.int Go.IntKind.u8 (0))), (.lit (.int Go.IntKind.u8 (0))), (.lit (.int Go.IntKind.u8 (0))), (.lit (.int Go.IntKind.u8 (0))), (.lit (.int Go.IntKind.u8 (0))), (.lit (.int Go.IntKind.u8 (0))), (.lit (.int Go.IntKind.u8 (0))), (.lit (.int Go.IntKind.u8 (0)))] := by kernel_rfl
@[simp] theorem sz_164 : szOf Tryd.prog 164 = 1 := by kernel_rfl
@[simp] theorem ag_164 : aggT Tryd.prog 164 = some false := by kernel_rfl
@[simp] theorem by_164 : bytesOf Tryd.prog 164 = 24 := by kernel_rfl
attribute [simp] Tryd.underlying164
@[simp] theorem el_164 : Go.Sy.elemOf Tryd.prog 164 = some 3 := by kernel_rfl
@[simp] theorem zr_164 : zerosOf Tryd.prog 164 = some [(.sl .imm true 0 [])] := by kernel_rfl
@[simp] theorem sz_165 : szOf Tryd.prog 165 = 1 := by kernel_rfl
@[simp] theorem ag_165 : aggT Tryd.prog 165 = some false := by kernel_rfl
@[simp] theorem by_165 : bytesOf Tryd.prog 165 = 8 := by kernel_rfl
attribute [simp] Tryd.underlying165
@[simp] theorem sz_166 : szOf Tryd.prog 166 = 1 := by kernel_rfl
@[simp] theorem ag_166 : aggT Tryd.prog 166 = some false := by kernel_rfl
@[simp] theorem by_166 : bytesOf Tryd.prog 166 = 8 := by kernel_rfl
attribute [simp] Tryd.underlying166
@[simp] theorem sz_167 : szOf Tryd.prog 167 = 1 := by kernel_rfl
@[simp] theorem ag_167 : aggT Tryd.prog 167 = some false := by kernel_rfl
@[simp] theorem by_167 : bytesOf Tryd.prog 167 = 8 := by kernel_rfl
attribute [simp] Tryd.underlying167
@[simp] theorem sz_168 : szOf Tryd.prog 168 = 4 := by kernel_rfl
@[simp] theorem ag_168 : aggT Tryd.prog 168 = some true := by kernel_rfl
@[simp] theorem by_168 : bytesOf Tryd.prog 168 = 40 := by kernel_rfl
attribute [simp] Tryd.underlying168
@[simp] theorem fl_168_0 : fldOf Tryd.prog 168 0 = some (0, 17) := by kernel_rfl
@[simp] theorem fl_168_1 : fldOf Tryd.prog 168 1 = some (1, 17) := by kernel_rfl
@[simp] theorem fl_168_2 : fldOf Tryd.prog 168 2 = some (2, 17) := by kernel_rfl
@[simp] theorem fl_168_3 : fldOf Tryd.prog 168 3 = some (3, 9) := by kernel_rfl
@[simp] theorem pl_168 : placesOf Tryd.prog 168 = some [(0, 1), (1, 1), (2, 1), (3, 1)] := by kernel_rfl
@[simp] theorem zr_168 : zerosOf Tryd.prog 168 = some [(.lit (.pointer none)), (.lit (.pointer none)), (.lit (.pointer none)), (.lit (.string ByteArray.empty))] := by kernel_rfl
@[simp] theorem sz_169 : szOf Tryd.prog 169 = 4 := by kernel_rfl
@[simp] theorem ag_169 : aggT Tryd.prog 169 = some true := by kernel_rfl
@[simp] theorem by_169 : bytesOf Tryd.prog 169 = 40 := by kernel_rfl
attribute [simp] Tryd.underlying169
@[simp] theorem fl_169_0 : fldOf Tryd.prog 169 0 = some (0, 17) := by kernel_rfl
@[simp] theorem fl_169_1 : fldOf Tryd.prog 169 1 = some (1, 17) := by kernel_rfl
@[simp] theorem fl_169_2 : fldOf Tryd.prog 169 2 = some (2, 17) := by kernel_rfl
@[simp] theorem fl_169_3 : fldOf Tryd.prog 169 3 = some (3, 9) := by kernel_rfl
@[simp] theorem pl_169 : placesOf Tryd.prog 169 = some [(0, 1), (1, 1), (2, 1), (3, 1)] := by kernel_rfl
@[simp] theorem zr_169 : zerosOf Tryd.prog 169 = some [(.lit (.pointer none)), (.lit (.pointer none)), (.lit (.pointer none)), (.lit (.string ByteArray.empty))] := by kernel_rfl
@[simp] theorem sz_170 : szOf Tryd.prog 170 = 0 := by kernel_rfl
@[simp] theorem ag_170 : aggT Tryd.prog 170 = some true := by kernel_rfl
@[simp] theorem by_170 : bytesOf Tryd.prog 170 = 0 := by kernel_rfl
attribute [simp] Tryd.underlying170
@[simp] theorem pl_170 : placesOf Tryd.prog 170 = none := by kernel_rfl
@[simp] theorem zr_170 : zerosOf Tryd.prog 170 = some [] := by kernel_rfl
@[simp] theorem sz_171 : szOf Tryd.prog 171 = 0 := by kernel_rfl
@[simp] theorem ag_171 : aggT Tryd.prog 171 = some true := by kernel_rfl
@[simp] theorem by_171 : bytesOf Tryd.prog 171 = 0 := by kernel_rfl
attribute [simp] Tryd.underlying171
@[simp] theorem fl_171_0 : fldOf Tryd.prog 171 0 = some (0, 170) := by kernel_rfl
@[simp] theorem pl_171 : placesOf Tryd.prog 171 = some [(0, 0)] := by kernel_rfl
@[simp] theorem zr_171 : zerosOf Tryd.prog 171 = some [] := by kernel_rfl
@[simp] theorem sz_172 : szOf Tryd.prog 172 = 0 := by kernel_rfl
@[simp] theorem ag_172 : aggT Tryd.prog 172 = some true := by kernel_rfl
@[simp] theorem by_172 : bytesOf Tryd.prog 172 = 0 := by kernel_rfl
attribute [simp] Tryd.underlying172
@[simp] theorem fl_172_0 : fldOf Tryd.prog 172 0 = some (0, 170) := by kernel_rfl
@[simp] theorem pl_172 : placesOf Tryd.prog 172 = some [(0, 0)] := by kernel_rfl
@[simp] theorem zr_172 : zerosOf Tryd.prog 172 = some [] := by kernel_rfl
@[simp] theorem sz_173 : szOf Tryd.prog 173 = 1 := by kernel_rfl
@[simp] theorem ag_173 : aggT Tryd.prog 173 = some false := by kernel_rfl
@[simp] theorem by_173 : bytesOf Tryd.prog 173 = 1 := by kernel_rfl
attribute [simp] Tryd.underlying173
@[simp] theorem zr_173 : zerosOf Tryd.prog 173 = some [(.lit (.int Go.IntKind.u8 (0)))] := by kernel_rfl
@[simp] theorem sz_174 : szOf Tryd.prog 174 = 1 := by kernel_rfl
@[simp] theorem ag_174 : aggT Tryd.prog 174 = some false := by kernel_rfl
@[simp] theorem by_174 : bytesOf Tryd.prog 174 = 1 := by kernel_rfl
attribute [simp] Tryd.underlying174
@[simp] theorem zr_174 : zerosOf Tryd.prog 174 = some [(.lit (.int Go.IntKind.u8 (0)))] := by kernel_rfl
@[simp] theorem sz_175 : szOf Tryd.prog 175 = 1 := by kernel_rfl
@[simp] theorem ag_175 : aggT Tryd.prog 175 = some false := by kernel_rfl
@[simp] theorem by_175 : bytesOf Tryd.prog 175 = 8 := by kernel_rfl
attribute [simp] Tryd.underlying175
@[simp] theorem sz_176 : szOf Tryd.prog 176 = 1 := by kernel_rfl
@[simp] theorem ag_176 : aggT Tryd.prog 176 = some false := by kernel_rfl
@[simp] theorem by_176 : bytesOf Tryd.prog 176 = 8 := by kernel_rfl
attribute [simp] Tryd.underlying176
@[simp] theorem zr_176 : zerosOf Tryd.prog 176 = some [(.lit (.pointer none))] := by kernel_rfl
@[simp] theorem sz_177 : szOf Tryd.prog 177 = 1 := by kernel_rfl
@[simp] theorem ag_177 : aggT Tryd.prog 177 = some false := by kernel_rfl
@[simp] theorem by_177 : bytesOf Tryd.prog 177 = 4 := by kernel_rfl
attribute [simp] Tryd.underlying177
@[simp] theorem zr_177 : zerosOf Tryd.prog 177 = some [(.lit (.int Go.IntKind.i32 (0)))] := by kernel_rfl
@[simp] theorem sz_178 : szOf Tryd.prog 178 = 1 := by kernel_rfl
@[simp] theorem ag_178 : aggT Tryd.prog 178 = some false := by kernel_rfl
@[simp] theorem by_178 : bytesOf Tryd.prog 178 = 4 := by kernel_rfl
attribute [simp] Tryd.underlying178
@[simp] theorem zr_178 : zerosOf Tryd.prog 178 = some [(.lit (.int Go.IntKind.i32 (0)))] := by kernel_rfl
@[simp] theorem sz_179 : szOf Tryd.prog 179 = 11 := by kernel_rfl
@[simp] theorem ag_179 : aggT Tryd.prog 179 = some true := by kernel_rfl
@[simp] theorem by_179 : bytesOf Tryd.prog 179 = 48 := by kernel_rfl
attribute [simp] Tryd.underlying179
@[simp] theorem fl_179_0 : fldOf Tryd.prog 179 0 = some (0, 12) := by kernel_rfl
@[simp] theorem fl_179_1 : fldOf Tryd.prog 179 1 = some (1, 12) := by kernel_rfl
@[simp] theorem fl_179_2 : fldOf Tryd.prog 179 2 = some (2, 95) := by kernel_rfl
@[simp] theorem fl_179_3 : fldOf Tryd.prog 179 3 = some (3, 173) := by kernel_rfl
@[simp] theorem fl_179_4 : fldOf Tryd.prog 179 4 = some (4, 5) := by kernel_rfl
@[simp] theorem fl_179_5 : fldOf Tryd.prog 179 5 = some (5, 5) := by kernel_rfl
@[simp] theorem fl_179_6 : fldOf Tryd.prog 179 6 = some (6, 174) := by kernel_rfl
@[simp] theorem fl_179_7 : fldOf Tryd.prog 179 7 = some (7, 175) := by kernel_rfl
@[simp] theorem fl_179_8 : fldOf Tryd.prog 179 8 = some (8, 176) := by kernel_rfl
@[simp] theorem fl_179_9 : fldOf Tryd.prog 179 9 = some (9, 177) := by kernel_rfl
@[simp] theorem fl_179_10 : fldOf Tryd.prog 179 10 = some (10, 178) := by kernel_rfl
@[simp] theorem pl_179 : placesOf Tryd.prog 179 = some [(0, 1), (1, 1), (2, 1), (3, 1), (4, 1), (5, 1), (6, 1), (7, 1), (8, 1), (9, 1), (10, 1)] := by kernel_rfl
@[simp] theorem sz_180 : szOf Tryd.prog 180 = 11 := by kernel_rfl
@[simp] theorem ag_180 : aggT Tryd.prog 180 = some true := by kernel_rfl
@[simp] theorem by_180 : bytesOf Tryd.prog 180 = 48 := by kernel_rfl
attribute [simp] Tryd.underlying180
@[simp] theorem fl_180_0 : fldOf Tryd.prog 180 0 = some (0, 12) := by kernel_rfl
@[simp] theorem fl_180_1 : fldOf Tryd.prog 180 1 = some (1, 12) := by kernel_rfl
@[simp] theorem fl_180_2 : fldOf Tryd.prog 180 2 = some (2, 95) := by kernel_rfl
@[simp] theorem fl_180_3 : fldOf Tryd.prog 180 3 = some (3, 173) := by kernel_rfl
@[simp] theorem fl_180_4 : fldOf Tryd.prog 180 4 = some (4, 5) := by kernel_rfl
@[simp] theorem fl_180_5 : fldOf Tryd.prog 180 5 = some (5, 5) := by kernel_rfl
@[simp] theorem fl_180_6 : fldOf Tryd.prog 180 6 = some (6, 174) := by kernel_rfl
@[simp] theorem fl_180_7 : fldOf Tryd.prog 180 7 = some (7, 175) := by kernel_rfl
@[simp] theorem fl_180_8 : fldOf Tryd.prog 180 8 = some (8, 176) := by kernel_rfl
@[simp] theorem fl_180_9 : fldOf Tryd.prog 180 9 = some (9, 177) := by kernel_rfl
@[simp] theorem fl_180_10 : fldOf Tryd.prog 180 10 = some (10, 178) := by kernel_rfl
@[simp] theorem pl_180 : placesOf Tryd.prog 180 = some [(0, 1), (1, 1), (2, 1), (3, 1), (4, 1), (5, 1), (6, 1), (7, 1), (8, 1), (9, 1), (10, 1)] := by kernel_rfl
@[simp] theorem sz_181 : szOf Tryd.prog 181 = 1 := by kernel_rfl
@[simp] theorem ag_181 : aggT Tryd.prog 181 = some false := by kernel_rfl
@[simp] theorem by_181 : bytesOf Tryd.prog 181 = 8 := by kernel_rfl
attribute [simp] Tryd.underlying181
@[simp] theorem zr_181 : zerosOf Tryd.prog 181 = some [(.lit (.pointer none))] := by kernel_rfl

end Go.Proofs.YtekokchejkjjjaaDoor
