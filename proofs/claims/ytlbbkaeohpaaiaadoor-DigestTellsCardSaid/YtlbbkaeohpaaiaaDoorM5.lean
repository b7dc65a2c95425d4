/- The evaluations of the regions that draw their order, and the types' facts (printed by a program of ours). (and what stands on it) -/
import Derived.Test.YtlbbkaeohpaaiaaDoorM3
import Derived.Test.YtlbbkaeohpaaiaaDoorProg
import Derived.KernelRfl

/-! The evaluations of the regions that draw their order, and the types' facts (printed by a program of ours). -/
namespace Go.Proofs.YtlbbkaeohpaaiaaDoor
open Go.Sy
def sch5 : List (Nat × Go.Sy.Sch) := [(14, ⟨[0, 1, 0, 0, 8, 0, 32, 120, 252, 511, 1023], [(true, 0), (true, 2), (true, 3), (true, 4), (true, 5), (true, 6), (true, 7), (true, 8)], [(1, [(false, 2), (false, 3), (false, 4), (false, 5), (false, 6), (false, 7), (false, 8)]), (9, [(true, 10)])]⟩)]
@[simp] theorem lk5_14 : lookS sch5 14 = some ⟨[0, 1, 0, 0, 8, 0, 32, 120, 252, 511, 1023], [(true, 0), (true, 2), (true, 3), (true, 4), (true, 5), (true, 6), (true, 7), (true, 8)], [(1, [(false, 2), (false, 3), (false, 4), (false, 5), (false, 6), (false, 7), (false, 8)]), (9, [(true, 10)])]⟩ := (rfl)
def sch10 : List (Nat × Go.Sy.Sch) := [(13, ⟨[0, 1, 3, 0, 8, 0, 56, 120, 0, 376, 1016, 2047, 0, 0, 8192, 24576, 61440, 0, 131072, 0, 524288, 1572864, 4063232, 8384512, 16777215, 0, 33554432, 100663296, 268435455, 0, 0, 1610612736, 3758096384, 8589934591, 17179869183], [(true, 0), (true, 1), (true, 2), (true, 3), (true, 5), (true, 8), (true, 12), (true, 13), (true, 14), (true, 15), (true, 16), (true, 17), (true, 18), (true, 19), (true, 20), (true, 21), (true, 22), (true, 23), (true, 25), (true, 26), (true, 27), (true, 29), (true, 30), (true, 31), (true, 32)], [(4, [(false, 0), (false, 1), (false, 2), (false, 5), (false, 8), (false, 12), (false, 13), (false, 14), (false, 15), (false, 16), (false, 17), (false, 18), (false, 19), (false, 20), (false, 21), (false, 22), (false, 23), (false, 25), (false, 26), (false, 27), (false, 29), (false, 30), (false, 31), (false, 32)]), (6, [(false, 0), (false, 1), (false, 2), (true, 7), (false, 8), (false, 12), (false, 13), (false, 14), (false, 15), (false, 16), (false, 17), (false, 18), (false, 19), (false, 20), (false, 21), (false, 22), (false, 23), (false, 25), (false, 26), (false, 27), (false, 29), (false, 30), (false, 31), (false, 32)]), (9, [(false, 0), (false, 1), (false, 2), (false, 7), (true, 10), (true, 11), (false, 12), (false, 13), (false, 14), (false, 15), (false, 16), (false, 17), (false, 18), (false, 19), (false, 20), (false, 21), (false, 22), (false, 23), (true, 24), (false, 25), (false, 26), (false, 27), (true, 28), (false, 29), (false, 30), (false, 31), (false, 32), (true, 33), (true, 34)])]⟩), (14, ⟨[0, 1, 0, 7, 15, 0, 47, 127, 0, 0, 512, 1536, 3840, 0, 0, 16384, 49152, 122880, 261888, 0, 524288, 1572864, 0, 4194304, 12582912, 33030144, 67108608, 134217727, 268435455], [(true, 0), (true, 2), (true, 5), (true, 8), (true, 9), (true, 10), (true, 11), (true, 12), (true, 13), (true, 14), (true, 15), (true, 16), (true, 17), (true, 18), (true, 19), (true, 20), (true, 21), (true, 22), (true, 23), (true, 24), (true, 25), (true, 26)], [(1, [(false, 2), (false, 5), (false, 8), (false, 9), (false, 10), (false, 11), (false, 12), (false, 13), (false, 14), (false, 15), (false, 16), (false, 17), (false, 18), (false, 19), (false, 20), (false, 21), (false, 22), (false, 23), (false, 24), (false, 25), (false, 26)]), (3, [(true, 4), (false, 5), (false, 8), (false, 9), (false, 10), (false, 11), (false, 12), (false, 13), (false, 14), (false, 15), (false, 16), (false, 17), (false, 18), (false, 19), (false, 20), (false, 21), (false, 22), (false, 23), (false, 24), (false, 25), (false, 26)]), (6, [(false, 4), (true, 7), (false, 8), (false, 9), (false, 10), (false, 11), (false, 12), (false, 13), (false, 14), (false, 15), (false, 16), (false, 17), (false, 18), (false, 19), (false, 20), (false, 21), (false, 22), (false, 23), (false, 24), (false, 25), (false, 26), (true, 27), (true, 28)])]⟩), (15, ⟨[0, 0, 3, 0, 0, 16, 48, 0, 128, 384, 0, 1024, 3072, 0, 15360, 0, 0, 65536, 196608, 0, 524288, 1572864, 4194303, 8388607], [(true, 0), (true, 1), (true, 2), (true, 3), (true, 4), (true, 5), (true, 6), (true, 7), (true, 8), (true, 9), (true, 10), (true, 11), (true, 12), (true, 13), (true, 14), (true, 15), (true, 16), (true, 17), (true, 18), (true, 19), (true, 20), (true, 21)], [(22, []), (23, [])]⟩), (19, ⟨[0, 0, 0, 0, 12, 28, 0, 0, 192, 448, 1020, 2047, 4095], [(true, 0), (true, 1), (true, 2), (true, 3), (true, 4), (true, 5), (true, 6), (true, 7), (true, 8), (true, 9), (true, 10), (true, 11)], [(12, [])]⟩), (24, ⟨[0, 0, 0, 6, 14, 30, 62, 0, 0, 384, 896, 1920, 3968, 8064, 0, 0, 49152, 114688, 245760, 507904, 1032192, 0, 0, 6291456, 14680064, 31457280, 65011712, 134217726, 268435455, 536870911], [(true, 0), (true, 1), (true, 2), (true, 3), (true, 4), (true, 5), (true, 6), (true, 7), (true, 8), (true, 9), (true, 10), (true, 11), (true, 12), (true, 13), (true, 14), (true, 15), (true, 16), (true, 17), (true, 18), (true, 19), (true, 20), (true, 21), (true, 22), (true, 23), (true, 24), (true, 25), (true, 26)], [(27, [(false, 0)]), (28, []), (29, [])]⟩)]
@[simp] theorem lk10_13 : lookS sch10 13 = some ⟨[0, 1, 3, 0, 8, 0, 56, 120, 0, 376, 1016, 2047, 0, 0, 8192, 24576, 61440, 0, 131072, 0, 524288, 1572864, 4063232, 8384512, 16777215, 0, 33554432, 100663296, 268435455, 0, 0, 1610612736, 3758096384, 8589934591, 17179869183], [(true, 0), (true, 1), (true, 2), (true, 3), (true, 5), (true, 8), (true, 12), (true, 13), (true, 14), (true, 15), (true, 16), (true, 17), (true, 18), (true, 19), (true, 20), (true, 21), (true, 22), (true, 23), (true, 25), (true, 26), (true, 27), (true, 29), (true, 30), (true, 31), (true, 32)], [(4, [(false, 0), (false, 1), (false, 2), (false, 5), (false, 8), (false, 12), (false, 13), (false, 14), (false, 15), (false, 16), (false, 17), (false, 18), (false, 19), (false, 20), (false, 21), (false, 22), (false, 23), (false, 25), (false, 26), (false, 27), (false, 29), (false, 30), (false, 31), (false, 32)]), (6, [(false, 0), (false, 1), (false, 2), (true, 7), (false, 8), (false, 12), (false, 13), (false, 14), (false, 15), (false, 16), (false, 17), (false, 18), (false, 19), (false, 20), (false, 21), (false, 22), (false, 23), (false, 25), (false, 26), (false, 27), (false, 29), (false, 30), (false, 31), (false, 32)]), (9, [(false, 0), (false, 1), (false, 2), (false, 7), (true, 10), (true, 11), (false, 12), (false, 13), (false, 14), (false, 15), (false, 16), (false, 17), (false, 18), (false, 19), (false, 20), (false, 21), (false, 22), (false, 23), (true, 24), (false, 25), (false, 26), (false, 27), (true, 28), (false, 29), (false, 30), (false, 31), (false, 32), (true, 33), (true, 34)])]⟩ := (rfl)
@[simp] theorem lk10_14 : lookS sch10 14 = some ⟨[0, 1, 0, 7, 15, 0, 47, 127, 0, 0, 512, 1536, 3840, 0, 0, 16384, 49152, 122880, 261888, 0, 524288, 1572864, 0, 4194304, 12582912, 33030144, 67108608, 134217727, 268435455], [(true, 0), (true, 2), (true, 5), (true, 8), (true, 9), (true, 10), (true, 11), (true, 12), (true, 13), (true, 14), (true, 15), (true, 16), (true, 17), (true, 18), (true, 19), (true, 20), (true, 21), (true, 22), (true, 23), (true, 24), (true, 25), (true, 26)], [(1, [(false, 2), (false, 5), (false, 8), (false, 9), (false, 10), (false, 11), (false, 12), (false, 13), (false, 14), (false, 15), (false, 16), (false, 17), (false, 18), (false, 19), (false, 20), (false, 21), (false, 22), (false, 23), (false, 24), (false, 25), (false, 26)]), (3, [(true, 4), (false, 5), (false, 8), (false, 9), (false, 10), (false, 11), (false, 12), (false, 13), (false, 14), (false, 15), (false, 16), (false, 17), (false, 18), (false, 19), (false, 20), (false, 21), (false, 22), (false, 23), (false, 24), (false, 25), (false, 26)]), (6, [(false, 4), (true, 7), (false, 8), (false, 9), (false, 10), (false, 11), (false, 12), (false, 13), (false, 14), (false, 15), (false, 16), (false, 17), (false, 18), (false, 19), (false, 20), (false, 21), (false, 22), (false, 23), (false, 24), (false, 25), (false, 26), (true, 27), (true, 28)])]⟩ := (rfl)
@[simp] theorem lk10_15 : lookS sch10 15 = some ⟨[0, 0, 3, 0, 0, 16, 48, 0, 128, 384, 0, 1024, 3072, 0, 15360, 0, 0, 65536, 196608, 0, 524288, 1572864, 4194303, 8388607], [(true, 0), (true, 1), (true, 2), (true, 3), (true, 4), (true, 5), (true, 6), (true, 7), (true, 8), (true, 9), (true, 10), (true, 11), (true, 12), (true, 13), (true, 14), (true, 15), (true, 16), (true, 17), (true, 18), (true, 19), (true, 20), (true, 21)], [(22, []), (23, [])]⟩ := (rfl)
@[simp] theorem lk10_19 : lookS sch10 19 = some ⟨[0, 0, 0, 0, 12, 28, 0, 0, 192, 448, 1020, 2047, 4095], [(true, 0), (true, 1), (true, 2), (true, 3), (true, 4), (true, 5), (true, 6), (true, 7), (true, 8), (true, 9), (true, 10), (true, 11)], [(12, [])]⟩ := (rfl)
@[simp] theorem lk10_24 : lookS sch10 24 = some ⟨[0, 0, 0, 6, 14, 30, 62, 0, 0, 384, 896, 1920, 3968, 8064, 0, 0, 49152, 114688, 245760, 507904, 1032192, 0, 0, 6291456, 14680064, 31457280, 65011712, 134217726, 268435455, 536870911], [(true, 0), (true, 1), (true, 2), (true, 3), (true, 4), (true, 5), (true, 6), (true, 7), (true, 8), (true, 9), (true, 10), (true, 11), (true, 12), (true, 13), (true, 14), (true, 15), (true, 16), (true, 17), (true, 18), (true, 19), (true, 20), (true, 21), (true, 22), (true, 23), (true, 24), (true, 25), (true, 26)], [(27, [(false, 0)]), (28, []), (29, [])]⟩ := (rfl)
def sch11 : List (Nat × Go.Sy.Sch) := [(7, ⟨[0, 0, 3, 7, 0, 0, 32, 112, 255, 511, 1023], [(true, 0), (true, 1), (true, 2), (true, 4), (true, 5), (true, 6), (true, 7)], [(3, [(false, 4), (false, 5), (false, 6), (false, 7)]), (8, [(true, 9), (true, 10)])]⟩)]
@[simp] theorem lk11_7 : lookS sch11 7 = some ⟨[0, 0, 3, 7, 0, 0, 32, 112, 255, 511, 1023], [(true, 0), (true, 1), (true, 2), (true, 4), (true, 5), (true, 6), (true, 7)], [(3, [(false, 4), (false, 5), (false, 6), (false, 7)]), (8, [(true, 9), (true, 10)])]⟩ := (rfl)
def sch14 : List (Nat × Go.Sy.Sch) := [(7, ⟨[0, 0, 0, 6, 14, 30, 62, 0, 0, 384, 896, 1920, 4094, 8190, 16383, 32767], [(true, 0), (true, 1), (true, 2), (true, 3), (true, 4), (true, 5), (true, 7), (true, 8), (true, 9), (true, 10), (true, 11)], [(6, [(false, 0), (false, 7), (false, 8), (false, 9), (false, 10), (false, 11)]), (12, [(false, 0)]), (13, [(false, 0)]), (14, []), (15, [])]⟩)]
@[simp] theorem lk14_7 : lookS sch14 7 = some ⟨[0, 0, 0, 6, 14, 30, 62, 0, 0, 384, 896, 1920, 4094, 8190, 16383, 32767], [(true, 0), (true, 1), (true, 2), (true, 3), (true, 4), (true, 5), (true, 7), (true, 8), (true, 9), (true, 10), (true, 11)], [(6, [(false, 0), (false, 7), (false, 8), (false, 9), (false, 10), (false, 11)]), (12, [(false, 0)]), (13, [(false, 0)]), (14, []), (15, [])]⟩ := (rfl)
def sch16 : List (Nat × Go.Sy.Sch) := [(3, ⟨[0, 0, 2, 6, 14, 0, 32, 126, 255, 511, 1023], [(true, 0), (true, 1), (true, 2), (true, 3), (true, 4), (true, 5), (true, 6)], [(7, [(false, 0), (true, 8), (true, 9)]), (10, [])]⟩)]
@[simp] theorem lk16_3 : lookS sch16 3 = some ⟨[0, 0, 2, 6, 14, 0, 32, 126, 255, 511, 1023], [(true, 0), (true, 1), (true, 2), (true, 3), (true, 4), (true, 5), (true, 6)], [(7, [(false, 0), (true, 8), (true, 9)]), (10, [])]⟩ := (rfl)
def sch19 : List (Nat × Go.Sy.Sch) := [(5, ⟨[0, 0, 0, 4, 14, 30, 62, 126, 0, 0, 512, 1536, 3840, 7936, 16128, 32512, 65534, 0, 0, 262144, 786432, 1966080, 4063232, 8257536, 16646144, 33554430, 0, 0, 134217728, 402653184, 1006632960, 2080374784, 4227858432, 8589934590, 17179869182, 34359738367, 68719476735], [(true, 0), (true, 1), (true, 2), (true, 3), (true, 4), (true, 5), (true, 6), (true, 7), (true, 8), (true, 9), (true, 10), (true, 11), (true, 12), (true, 13), (true, 14), (true, 15), (true, 16), (true, 17), (true, 18), (true, 19), (true, 20), (true, 21), (true, 22), (true, 23), (true, 24), (true, 25), (true, 26), (true, 27), (true, 28), (true, 29), (true, 30), (true, 31), (true, 32), (true, 33)], [(34, [(false, 0)]), (35, []), (36, [])]⟩), (13, ⟨[0, 0, 0, 4, 14, 30, 0, 126, 0, 0, 512, 1792, 3840, 8190, 0, 32766, 65534, 131071, 262143], [(true, 0), (true, 1), (true, 2), (true, 3), (true, 4), (true, 5), (true, 6), (true, 7), (true, 8), (true, 9), (true, 10), (true, 11), (true, 12), (true, 13), (true, 14), (true, 15)], [(16, [(false, 0)]), (17, []), (18, [])]⟩)]
@[simp] theorem lk19_5 : lookS sch19 5 = some ⟨[0, 0, 0, 4, 14, 30, 62, 126, 0, 0, 512, 1536, 3840, 7936, 16128, 32512, 65534, 0, 0, 262144, 786432, 1966080, 4063232, 8257536, 16646144, 33554430, 0, 0, 134217728, 402653184, 1006632960, 2080374784, 4227858432, 8589934590, 17179869182, 34359738367, 68719476735], [(true, 0), (true, 1), (true, 2), (true, 3), (true, 4), (true, 5), (true, 6), (true, 7), (true, 8), (true, 9), (true, 10), (true, 11), (true, 12), (true, 13), (true, 14), (true, 15), (true, 16), (true, 17), (true, 18), (true, 19), (true, 20), (true, 21), (true, 22), (true, 23), (true, 24), (true, 25), (true, 26), (true, 27), (true, 28), (true, 29), (true, 30), (true, 31), (true, 32), (true, 33)], [(34, [(false, 0)]), (35, []), (36, [])]⟩ := (rfl)
@[simp] theorem lk19_13 : lookS sch19 13 = some ⟨[0, 0, 0, 4, 14, 30, 0, 126, 0, 0, 512, 1792, 3840, 8190, 0, 32766, 65534, 131071, 262143], [(true, 0), (true, 1), (true, 2), (true, 3), (true, 4), (true, 5), (true, 6), (true, 7), (true, 8), (true, 9), (true, 10), (true, 11), (true, 12), (true, 13), (true, 14), (true, 15)], [(16, [(false, 0)]), (17, []), (18, [])]⟩ := (rfl)
def sch24 : List (Nat × Go.Sy.Sch) := [(1, ⟨[0, 1, 3, 7, 15, 0, 32, 96, 224, 480, 1023, 2047], [(true, 0), (true, 1), (true, 2), (true, 3), (true, 4), (true, 5), (true, 6), (true, 7), (true, 8), (true, 9), (true, 10), (true, 11)], []⟩)]
@[simp] theorem lk24_1 : lookS sch24 1 = some ⟨[0, 1, 3, 7, 15, 0, 32, 96, 224, 480, 1023, 2047], [(true, 0), (true, 1), (true, 2), (true, 3), (true, 4), (true, 5), (true, 6), (true, 7), (true, 8), (true, 9), (true, 10), (true, 11)], []⟩ := (rfl)
def sch28 : List (Nat × Go.Sy.Sch) := [(5, ⟨[0, 0, 2, 6, 0, 31, 63], [(true, 0), (true, 1), (true, 2), (true, 3), (true, 4)], [(5, []), (6, [])]⟩), (10, ⟨[0, 1, 3, 0, 8, 24, 63, 127, 255], [(true, 0), (true, 1), (true, 2), (true, 3), (true, 4), (true, 5), (true, 6), (true, 7)], [(8, [])]⟩)]
@[simp] theorem lk28_5 : lookS sch28 5 = some ⟨[0, 0, 2, 6, 0, 31, 63], [(true, 0), (true, 1), (true, 2), (true, 3), (true, 4)], [(5, []), (6, [])]⟩ := (rfl)
@[simp] theorem lk28_10 : lookS sch28 10 = some ⟨[0, 1, 3, 0, 8, 24, 63, 127, 255], [(true, 0), (true, 1), (true, 2), (true, 3), (true, 4), (true, 5), (true, 6), (true, 7)], [(8, [])]⟩ := (rfl)
def sch34 : List (Nat × Go.Sy.Sch) := [(14, ⟨[0, 1, 3, 7, 0, 16, 48, 112, 15, 511], [(true, 0), (true, 1), (true, 2), (true, 3), (true, 4), (true, 5), (true, 6), (true, 7), (true, 8), (true, 9)], []⟩), (15, ⟨[0, 0, 2, 6, 14, 0, 32, 0, 224, 480, 0, 1024, 4064, 8190, 0, 16384, 49152, 114688, 262142, 0, 524768, 0, 3670496, 7864800, 0, 16777216, 66585056, 134217726, 268435455, 536870911], [(true, 0), (true, 1), (true, 2), (true, 3), (true, 4), (true, 5), (true, 7), (true, 10), (true, 11), (true, 14), (true, 15), (true, 16), (true, 17), (true, 19), (true, 21), (true, 24), (true, 25)], [(6, [(false, 0), (false, 1), (false, 2), (false, 3), (false, 4), (false, 7), (false, 10), (false, 11), (false, 14), (false, 15), (false, 16), (false, 17), (false, 19), (false, 21), (false, 24), (false, 25)]), (8, [(false, 0), (false, 1), (false, 2), (false, 3), (false, 4), (true, 9), (false, 10), (false, 11), (true, 12), (true, 13), (false, 14), (false, 15), (false, 16), (false, 17), (true, 18), (false, 19), (false, 21), (false, 24), (false, 25)]), (20, [(false, 0), (false, 1), (false, 2), (false, 3), (false, 4), (false, 9), (false, 10), (false, 11), (false, 12), (false, 13), (false, 14), (false, 15), (false, 16), (false, 17), (false, 18), (false, 21), (false, 24), (false, 25)]), (22, [(false, 0), (false, 1), (false, 2), (false, 3), (false, 4), (false, 9), (false, 10), (false, 11), (false, 12), (false, 13), (false, 14), (false, 15), (false, 16), (false, 17), (false, 18), (true, 23), (false, 24), (false, 25), (true, 26), (true, 27), (true, 28)]), (29, [])]⟩)]
@[simp] theorem lk34_14 : lookS sch34 14 = some ⟨[0, 1, 3, 7, 0, 16, 48, 112, 15, 511], [(true, 0), (true, 1), (true, 2), (true, 3), (true, 4), (true, 5), (true, 6), (true, 7), (true, 8), (true, 9)], []⟩ := (rfl)
@[simp] theorem lk34_15 : lookS sch34 15 = some ⟨[0, 0, 2, 6, 14, 0, 32, 0, 224, 480, 0, 1024, 4064, 8190, 0, 16384, 49152, 114688, 262142, 0, 524768, 0, 3670496, 7864800, 0, 16777216, 66585056, 134217726, 268435455, 536870911], [(true, 0), (true, 1), (true, 2), (true, 3), (true, 4), (true, 5), (true, 7), (true, 10), (true, 11), (true, 14), (true, 15), (true, 16), (true, 17), (true, 19), (true, 21), (true, 24), (true, 25)], [(6, [(false, 0), (false, 1), (false, 2), (false, 3), (false, 4), (false, 7), (false, 10), (false, 11), (false, 14), (false, 15), (false, 16), (false, 17), (false, 19), (false, 21), (false, 24), (false, 25)]), (8, [(false, 0), (false, 1), (false, 2), (false, 3), (false, 4), (true, 9), (false, 10), (false, 11), (true, 12), (true, 13), (false, 14), (false, 15), (false, 16), (false, 17), (true, 18), (false, 19), (false, 21), (false, 24), (false, 25)]), (20, [(false, 0), (false, 1), (false, 2), (false, 3), (false, 4), (false, 9), (false, 10), (false, 11), (false, 12), (false, 13), (false, 14), (false, 15), (false, 16), (false, 17), (false, 18), (false, 21), (false, 24), (false, 25)]), (22, [(false, 0), (false, 1), (false, 2), (false, 3), (false, 4), (false, 9), (false, 10), (false, 11), (false, 12), (false, 13), (false, 14), (false, 15), (false, 16), (false, 17), (false, 18), (true, 23), (false, 24), (false, 25), (true, 26), (true, 27), (true, 28)]), (29, [])]⟩ := (rfl)
def sch35 : List (Nat × Go.Sy.Sch) := [(1, ⟨[0, 1, 0, 4, 0, 16, 0, 64, 0, 256, 0, 1024, 3, 4111, 12351, 28927, 62463, 131071], [(true, 0), (true, 1), (true, 2), (true, 3), (true, 4), (true, 5), (true, 6), (true, 7), (true, 8), (true, 9), (true, 10), (true, 11), (true, 12), (true, 13), (true, 14), (true, 15), (true, 16), (true, 17)], []⟩), (2, ⟨[0, 1, 0, 4, 0, 28, 60, 0, 188, 508, 1023, 0, 0, 6144, 0, 16384, 0, 114688, 260096, 524287, 0, 2097151, 0, 8388607, 16777215], [(true, 0), (true, 1), (true, 2), (true, 4), (true, 7), (true, 11), (true, 12), (true, 13), (true, 14), (true, 15), (true, 16), (true, 17), (true, 18), (true, 20), (true, 22)], [(3, [(false, 0), (false, 1), (false, 4), (false, 7), (false, 11), (false, 12), (false, 13), (false, 14), (false, 15), (false, 16), (false, 17), (false, 18), (false, 20), (false, 22)]), (5, [(false, 0), (false, 1), (true, 6), (false, 7), (false, 11), (false, 12), (false, 13), (false, 14), (false, 15), (false, 16), (false, 17), (false, 18), (false, 20), (false, 22)]), (8, [(false, 0), (false, 1), (false, 6), (true, 9), (true, 10), (false, 11), (false, 12), (false, 13), (false, 14), (false, 15), (false, 16), (false, 17), (false, 18), (true, 19), (false, 20), (true, 21), (false, 22), (true, 23), (true, 24)])]⟩)]
@[simp] theorem lk35_1 : lookS sch35 1 = some ⟨[0, 1, 0, 4, 0, 16, 0, 64, 0, 256, 0, 1024, 3, 4111, 12351, 28927, 62463, 131071], [(true, 0), (true, 1), (true, 2), (true, 3), (true, 4), (true, 5), (true, 6), (true, 7), (true, 8), (true, 9), (true, 10), (true, 11), (true, 12), (true, 13), (true, 14), (true, 15), (true, 16), (true, 17)], []⟩ := (rfl)
@[simp] theorem lk35_2 : lookS sch35 2 = some ⟨[0, 1, 0, 4, 0, 28, 60, 0, 188, 508, 1023, 0, 0, 6144, 0, 16384, 0, 114688, 260096, 524287, 0, 2097151, 0, 8388607, 16777215], [(true, 0), (true, 1), (true, 2), (true, 4), (true, 7), (true, 11), (true, 12), (true, 13), (true, 14), (true, 15), (true, 16), (true, 17), (true, 18), (true, 20), (true, 22)], [(3, [(false, 0), (false, 1), (false, 4), (false, 7), (false, 11), (false, 12), (false, 13), (false, 14), (false, 15), (false, 16), (false, 17), (false, 18), (false, 20), (false, 22)]), (5, [(false, 0), (false, 1), (true, 6), (false, 7), (false, 11), (false, 12), (false, 13), (false, 14), (false, 15), (false, 16), (false, 17), (false, 18), (false, 20), (false, 22)]), (8, [(false, 0), (false, 1), (false, 6), (true, 9), (true, 10), (false, 11), (false, 12), (false, 13), (false, 14), (false, 15), (false, 16), (false, 17), (false, 18), (true, 19), (false, 20), (true, 21), (false, 22), (true, 23), (true, 24)])]⟩ := (rfl)
def sch36 : List (Nat × Go.Sy.Sch) := [(3, ⟨[0, 0, 0, 6, 14, 31, 63], [(true, 0), (true, 1), (true, 2), (true, 3), (true, 4), (true, 5), (true, 6)], []⟩)]
@[simp] theorem lk36_3 : lookS sch36 3 = some ⟨[0, 0, 0, 6, 14, 31, 63], [(true, 0), (true, 1), (true, 2), (true, 3), (true, 4), (true, 5), (true, 6)], []⟩ := (rfl)

@[simp] theorem sz_0 : szOf Tryd.prog 0 = 1 := by kernel_rfl
@[simp] theorem ag_0 : aggT Tryd.prog 0 = some false := by kernel_rfl
@[simp] theorem by_0 : bytesOf Tryd.prog 0 = 0 := by kernel_rfl
attribute [simp] Tryd.underlying0
@[simp] theorem sz_1 : szOf Tryd.prog 1 = 1 := by kernel_rfl
@[simp] theorem ag_1 : aggT Tryd.prog 1 = some false := by kernel_rfl
@[simp] theorem by_1 : bytesOf Tryd.prog 1 = 8 := by kernel_rfl
attribute [simp] Tryd.underlying1
@[simp] theorem sz_2 : szOf Tryd.prog 2 = 1 := by kernel_rfl
@[simp] theorem ag_2 : aggT Tryd.prog 2 = some false := by kernel_rfl
@[simp] theorem by_2 : bytesOf Tryd.prog 2 = 8 := by kernel_rfl
attribute [simp] Tryd.underlying2
@[simp] theorem zr_2 : zerosOf Tryd.prog 2 = some [(.lit (.int Go.IntKind.i64 (0)))] := by kernel_rfl
@[simp] theorem sz_3 : szOf Tryd.prog 3 = 1 := by kernel_rfl
@[simp] theorem ag_3 : aggT Tryd.prog 3 = some false := by kernel_rfl
@[simp] theorem by_3 : bytesOf Tryd.prog 3 = 8 := by kernel_rfl
attribute [simp] Tryd.underlying3
@[simp] theorem zr_3 : zerosOf Tryd.prog 3 = some [(.lit (.int Go.IntKind.i64 (0)))] := by kernel_rfl
@[simp] theorem sz_4 : szOf Tryd.prog 4 = 1 := by kernel_rfl
@[simp] theorem ag_4 : aggT Tryd.prog 4 = some false := by kernel_rfl
@[simp] theorem by_4 : bytesOf Tryd.prog 4 = 1 := by kernel_rfl
attribute [simp] Tryd.underlying4
@[simp] theorem zr_4 : zerosOf Tryd.prog 4 = some [(.lit (.bool false))] := by kernel_rfl
@[simp] theorem sz_5 : szOf Tryd.prog 5 = 1 := by kernel_rfl
@[simp] theorem ag_5 : aggT Tryd.prog 5 = some false := by kernel_rfl
@[simp] theorem by_5 : bytesOf Tryd.prog 5 = 1 := by kernel_rfl
attribute [simp] Tryd.underlying5
@[simp] theorem zr_5 : zerosOf Tryd.prog 5 = some [(.lit (.int Go.IntKind.u8 (0)))] := by kernel_rfl
@[simp] theorem sz_6 : szOf Tryd.prog 6 = 1 := by kernel_rfl
@[simp] theorem ag_6 : aggT Tryd.prog 6 = some false := by kernel_rfl
@[simp] theorem by_6 : bytesOf Tryd.prog 6 = 1 := by kernel_rfl
attribute [simp] Tryd.underlying6
@[simp] theorem zr_6 : zerosOf Tryd.prog 6 = some [(.lit (.int Go.IntKind.u8 (0)))] := by kernel_rfl
@[simp] theorem sz_7 : szOf Tryd.prog 7 = 4 := by kernel_rfl
@[simp] theorem ag_7 : aggT Tryd.prog 7 = some true := by kernel_rfl
@[simp] theorem by_7 : bytesOf Tryd.prog 7 = 24 := by kernel_rfl
attribute [simp] Tryd.underlying7
@[simp] theorem fl_7_0 : fldOf Tryd.prog 7 0 = some (0, 2) := by kernel_rfl
@[simp] theorem fl_7_1 : fldOf Tryd.prog 7 1 = some (1, 3) := by kernel_rfl
@[simp] theorem fl_7_2 : fldOf Tryd.prog 7 2 = some (2, 4) := by kernel_rfl
@[simp] theorem fl_7_3 : fldOf Tryd.prog 7 3 = some (3, 6) := by kernel_rfl
@[simp] theorem pl_7 : placesOf Tryd.prog 7 = some [(0, 1), (1, 1), (2, 1), (3, 1)] := by kernel_rfl
@[simp] theorem zr_7 : zerosOf Tryd.prog 7 = some [(.lit (.int Go.IntKind.i64 (0))), (.lit (.int Go.IntKind.i64 (0))), (.lit (.bool false)), (.lit (.int Go.IntKind.u8 (0)))] := by kernel_rfl
@[simp] theorem sz_8 : szOf Tryd.prog 8 = 4 := by kernel_rfl
@[simp] theorem ag_8 : aggT Tryd.prog 8 = some true := by kernel_rfl
@[simp] theorem by_8 : bytesOf Tryd.prog 8 = 24 := by kernel_rfl
attribute [simp] Tryd.underlying8
@[simp] theorem fl_8_0 : fldOf Tryd.prog 8 0 = some (0, 2) := by kernel_rfl
@[simp] theorem fl_8_1 : fldOf Tryd.prog 8 1 = some (1, 3) := by kernel_rfl
@[simp] theorem fl_8_2 : fldOf Tryd.prog 8 2 = some (2, 4) := by kernel_rfl
@[simp] theorem fl_8_3 : fldOf Tryd.prog 8 3 = some (3, 6) := by kernel_rfl
@[simp] theorem pl_8 : placesOf Tryd.prog 8 = some [(0, 1), (1, 1), (2, 1), (3, 1)] := by kernel_rfl
@[simp] theorem zr_8 : zerosOf Tryd.prog 8 = some [(.lit (.int Go.IntKind.i64 (0))), (.lit (.int Go.IntKind.i64 (0))), (.lit (.bool false)), (.lit (.int Go.IntKind.u8 (0)))] := by kernel_rfl
@[simp] theorem sz_9 : szOf Tryd.prog 9 = 1 := by kernel_rfl
@[simp] theorem ag_9 : aggT Tryd.prog 9 = some false := by kernel_rfl
@[simp] theorem by_9 : bytesOf Tryd.prog 9 = 16 := by kernel_rfl
attribute [simp] Tryd.underlying9
@[simp] theorem zr_9 : zerosOf Tryd.prog 9 = some [(.lit (.string ByteArray.empty))] := by kernel_rfl
@[simp] theorem sz_10 : szOf Tryd.prog 10 = 1 := by kernel_rfl
@[simp] theorem ag_10 : aggT Tryd.prog 10 = some false := by kernel_rfl
@[simp] theorem by_10 : bytesOf Tryd.prog 10 = 16 := by kernel_rfl
attribute [simp] Tryd.underlying10
@[simp] theorem zr_10 : zerosOf Tryd.prog 10 = some [(.lit (.string ByteArray.empty))] := by kernel_rfl
@[simp] theorem sz_11 : szOf Tryd.prog 11 = 1 := by kernel_rfl
@[simp] theorem ag_11 : aggT Tryd.prog 11 = some false := by kernel_rfl
@[simp] theorem by_11 : bytesOf Tryd.prog 11 = 16 := by kernel_rfl
attribute [simp] Tryd.underlying11
@[simp] theorem zr_11 : zerosOf Tryd.prog 11 = some [(.lit (.string ByteArray.empty))] := by kernel_rfl
@[simp] theorem sz_12 : szOf Tryd.prog 12 = 1 := by kernel_rfl
@[simp] theorem ag_12 : aggT Tryd.prog 12 = some false := by kernel_rfl
@[simp] theorem by_12 : bytesOf Tryd.prog 12 = 8 := by kernel_rfl
attribute [simp] Tryd.underlying12
@[simp] theorem zr_12 : zerosOf Tryd.prog 12 = some [(.lit (.int Go.IntKind.u64 (0)))] := by kernel_rfl
@[simp] theorem sz_13 : szOf Tryd.prog 13 = 2 := by kernel_rfl
@[simp] theorem ag_13 : aggT Tryd.prog 13 = some true := by kernel_rfl
@[simp] theorem by_13 : bytesOf Tryd.prog 13 = 24 := by kernel_rfl
attribute [simp] Tryd.underlying13
@[simp] theorem fl_13_0 : fldOf Tryd.prog 13 0 = some (0, 9) := by kernel_rfl
@[simp] theorem fl_13_1 : fldOf Tryd.prog 13 1 = some (1, 12) := by kernel_rfl
@[simp] theorem pl_13 : placesOf Tryd.prog 13 = some [(0, 1), (1, 1)] := by kernel_rfl
@[simp] theorem zr_13 : zerosOf Tryd.prog 13 = some [(.lit (.string ByteArray.empty)), (.lit (.int Go.IntKind.u64 (0)))] := by kernel_rfl
@[simp] theorem sz_14 : szOf Tryd.prog 14 = 2 := by kernel_rfl
@[simp] theorem ag_14 : aggT Tryd.prog 14 = some true := by kernel_rfl
@[simp] theorem by_14 : bytesOf Tryd.prog 14 = 24 := by kernel_rfl
attribute [simp] Tryd.underlying14
@[simp] theorem fl_14_0 : fldOf Tryd.prog 14 0 = some (0, 9) := by kernel_rfl
@[simp] theorem fl_14_1 : fldOf Tryd.prog 14 1 = some (1, 12) := by kernel_rfl
@[simp] theorem pl_14 : placesOf Tryd.prog 14 = some [(0, 1), (1, 1)] := by kernel_rfl
@[simp] theorem zr_14 : zerosOf Tryd.prog 14 = some [(.lit (.string ByteArray.empty)), (.lit (.int Go.IntKind.u64 (0)))] := by kernel_rfl
@[simp] theorem sz_15 : szOf Tryd.prog 15 = 1 := by kernel_rfl
@[simp] theorem ag_15 : aggT Tryd.prog 15 = some false := by kernel_rfl
@[simp] theorem by_15 : bytesOf Tryd.prog 15 = 8 := by kernel_rfl
attribute [simp] Tryd.underlying15
@[simp] theorem zr_15 : zerosOf Tryd.prog 15 = some [(.lit (.pointer none))] := by kernel_rfl
@[simp] theorem sz_16 : szOf Tryd.prog 16 = 1 := by kernel_rfl
@[simp] theorem ag_16 : aggT Tryd.prog 16 = some false := by kernel_rfl
@[simp] theorem by_16 : bytesOf Tryd.prog 16 = 8 := by kernel_rfl
attribute [simp] Tryd.underlying16
@[simp] theorem zr_16 : zerosOf Tryd.prog 16 = some [(.lit (.pointer none))] := by kernel_rfl
@[simp] theorem sz_17 : szOf Tryd.prog 17 = 1 := by kernel_rfl
@[simp] theorem ag_17 : aggT Tryd.prog 17 = some false := by kernel_rfl
@[simp] theorem by_17 : bytesOf Tryd.prog 17 = 8 := by kernel_rfl
attribute [simp] Tryd.underlying17
@[simp] theorem zr_17 : zerosOf Tryd.prog 17 = some [(.lit (.pointer none))] := by kernel_rfl
@[simp] theorem sz_18 : szOf Tryd.prog 18 = 1 := by kernel_rfl
@[simp] theorem ag_18 : aggT Tryd.prog 18 = some true := by kernel_rfl
@[simp] theorem by_18 : bytesOf Tryd.prog 18 = 8 := by kernel_rfl
attribute [simp] Tryd.underlying18
@[simp] theorem fl_18_0 : fldOf Tryd.prog 18 0 = some (0, 17) := by kernel_rfl
@[simp] theorem pl_18 : placesOf Tryd.prog 18 = some [(0, 1)] := by kernel_rfl
@[simp] theorem zr_18 : zerosOf Tryd.prog 18 = some [(.lit (.pointer none))] := by kernel_rfl
@[simp] theorem sz_19 : szOf Tryd.prog 19 = 1 := by kernel_rfl
@[simp] theorem ag_19 : aggT Tryd.prog 19 = some true := by kernel_rfl
@[simp] theorem by_19 : bytesOf Tryd.prog 19 = 8 := by kernel_rfl
attribute [simp] Tryd.underlying19
@[simp] theorem fl_19_0 : fldOf Tryd.prog 19 0 = some (0, 17) := by kernel_rfl
@[simp] theorem pl_19 : placesOf Tryd.prog 19 = some [(0, 1)] := by kernel_rfl
@[simp] theorem zr_19 : zerosOf Tryd.prog 19 = some [(.lit (.pointer none))] := by kernel_rfl
@[simp] theorem sz_20 : szOf Tryd.prog 20 = 1 := by kernel_rfl
@[simp] theorem ag_20 : aggT Tryd.prog 20 = some false := by kernel_rfl
@[simp] theorem by_20 : bytesOf Tryd.prog 20 = 16 := by kernel_rfl
attribute [simp] Tryd.underlying20
@[simp] theorem sz_21 : szOf Tryd.prog 21 = 1 := by kernel_rfl
@[simp] theorem ag_21 : aggT Tryd.prog 21 = some false := by kernel_rfl
@[simp] theorem by_21 : bytesOf Tryd.prog 21 = 4 := by kernel_rfl
attribute [simp] Tryd.underlying21
@[simp] theorem zr_21 : zerosOf Tryd.prog 21 = some [(.lit (.int Go.IntKind.i32 (0)))] := by kernel_rfl
@[simp] theorem sz_22 : szOf Tryd.prog 22 = 1 := by kernel_rfl
@[simp] theorem ag_22 : aggT Tryd.prog 22 = some false := by kernel_rfl
@[simp] theorem by_22 : bytesOf Tryd.prog 22 = 24 := by kernel_rfl
attribute [simp] Tryd.underlying22
@[simp] theorem el_22 : Go.Sy.elemOf Tryd.prog 22 = some 5 := by kernel_rfl
@[simp] theorem zr_22 : zerosOf Tryd.prog 22 = some [(.sl .imm true 0 [])] := by kernel_rfl
@[simp] theorem sz_23 : szOf Tryd.prog 23 = 1 := by kernel_rfl
@[simp] theorem ag_23 : aggT Tryd.prog 23 = some false := by kernel_rfl
@[simp] theorem by_23 : bytesOf Tryd.prog 23 = 8 := by kernel_rfl
attribute [simp] Tryd.underlying23
@[simp] theorem sz_24 : szOf Tryd.prog 24 = 1 := by kernel_rfl
@[simp] theorem ag_24 : aggT Tryd.prog 24 = some false := by kernel_rfl
@[simp] theorem by_24 : bytesOf Tryd.prog 24 = 16 := by kernel_rfl
attribute [simp] Tryd.underlying24
@[simp] theorem zr_24 : zerosOf Tryd.prog 24 = some [(.lit (.string ByteArray.empty))] := by kernel_rfl
@[simp] theorem sz_25 : szOf Tryd.prog 25 = 1 := by kernel_rfl
@[simp] theorem ag_25 : aggT Tryd.prog 25 = some false := by kernel_rfl
@[simp] theorem by_25 : bytesOf Tryd.prog 25 = 8 := by kernel_rfl
attribute [simp] Tryd.underlying25
@[simp] theorem sz_26 : szOf Tryd.prog 26 = 1 := by kernel_rfl
@[simp] theorem ag_26 : aggT Tryd.prog 26 = some false := by kernel_rfl
@[simp] theorem by_26 : bytesOf Tryd.prog 26 = 8 := by kernel_rfl
attribute [simp] Tryd.underlying26
@[simp] theorem sz_27 : szOf Tryd.prog 27 = 1 := by kernel_rfl
@[simp] theorem ag_27 : aggT Tryd.prog 27 = some false := by kernel_rfl
@[simp] theorem by_27 : bytesOf Tryd.prog 27 = 0 := by kernel_rfl
attribute [simp] Tryd.underlying27
@[simp] theorem sz_28 : szOf Tryd.prog 28 = 1 := by kernel_rfl
@[simp] theorem ag_28 : aggT Tryd.prog 28 = some false := by kernel_rfl
@[simp] theorem by_28 : bytesOf Tryd.prog 28 = 8 := by kernel_rfl
attribute [simp] Tryd.underlying28
@[simp] theorem sz_29 : szOf Tryd.prog 29 = 1 := by kernel_rfl
@[simp] theorem ag_29 : aggT Tryd.prog 29 = some false := by kernel_rfl
@[simp] theorem by_29 : bytesOf Tryd.prog 29 = 8 := by kernel_rfl
attribute [simp] Tryd.underlying29
@[simp] theorem sz_30 : szOf Tryd.prog 30 = 1 := by kernel_rfl
@[simp] theorem ag_30 : aggT Tryd.prog 30 = some false := by kernel_rfl
@[simp] theorem by_30 : bytesOf Tryd.prog 30 = 8 := by kernel_rfl
attribute [simp] Tryd.underlying30
@[simp] theorem sz_31 : szOf Tryd.prog 31 = 1 := by kernel_rfl
@[simp] theorem ag_31 : aggT Tryd.prog 31 = some false := by kernel_rfl
@[simp] theorem by_31 : bytesOf Tryd.prog 31 = 8 := by kernel_rfl
attribute [simp] Tryd.underlying31
@[simp] theorem zr_31 : zerosOf Tryd.prog 31 = some [(.lit (.pointer none))] := by kernel_rfl
@[simp] theorem sz_32 : szOf Tryd.prog 32 = 1 := by kernel_rfl
@[simp] theorem ag_32 : aggT Tryd.prog 32 = some false := by kernel_rfl
@[simp] theorem by_32 : bytesOf Tryd.prog 32 = 8 := by kernel_rfl
attribute [simp] Tryd.underlying32
@[simp] theorem sz_33 : szOf Tryd.prog 33 = 1 := by kernel_rfl
@[simp] theorem ag_33 : aggT Tryd.prog 33 = some false := by kernel_rfl
@[simp] theorem by_33 : bytesOf Tryd.prog 33 = 8 := by kernel_rfl
attribute [simp] Tryd.underlying33
@[simp] theorem sz_34 : szOf Tryd.prog 34 = 1 := by kernel_rfl
@[simp] theorem ag_34 : aggT Tryd.prog 34 = some false := by kernel_rfl
@[simp] theorem by_34 : bytesOf Tryd.prog 34 = 8 := by kernel_rfl
attribute [simp] Tryd.underlying34
@[simp] theorem sz_35 : szOf Tryd.prog 35 = 1 := by kernel_rfl
@[simp] theorem ag_35 : aggT Tryd.prog 35 = some false := by kernel_rfl
@[simp] theorem by_35 : bytesOf Tryd.prog 35 = 8 := by kernel_rfl
attribute [simp] Tryd.underlying35
@[simp] theorem sz_36 : szOf Tryd.prog 36 = 1 := by kernel_rfl
@[simp] theorem ag_36 : aggT Tryd.prog 36 = some false := by kernel_rfl
@[simp] theorem by_36 : bytesOf Tryd.prog 36 = 8 := by kernel_rfl
attribute [simp] Tryd.underlying36
@[simp] theorem sz_37 : szOf Tryd.prog 37 = 1 := by kernel_rfl
@[simp] theorem ag_37 : aggT Tryd.prog 37 = some false := by kernel_rfl
@[simp] theorem by_37 : bytesOf Tryd.prog 37 = 2 := by kernel_rfl
attribute [simp] Tryd.underlying37
@[simp] theorem zr_37 : zerosOf Tryd.prog 37 = some [(.lit (.int Go.IntKind.u16 (0)))] := by kernel_rfl
@[simp] theorem sz_38 : szOf Tryd.prog 38 = 1 := by kernel_rfl
@[simp] theorem ag_38 : aggT Tryd.prog 38 = some false := by kernel_rfl
@[simp] theorem by_38 : bytesOf Tryd.prog 38 = 8 := by kernel_rfl
attribute [simp] Tryd.underlying38
@[simp] theorem sz_39 : szOf Tryd.prog 39 = 1 := by kernel_rfl
@[simp] theorem ag_39 : aggT Tryd.prog 39 = some false := by kernel_rfl
@[simp] theorem by_39 : bytesOf Tryd.prog 39 = 4 := by kernel_rfl
attribute [simp] Tryd.underlying39
@[simp] theorem zr_39 : zerosOf Tryd.prog 39 = some [(.lit (.int Go.IntKind.u32 (0)))] := by kernel_rfl
@[simp] theorem sz_40 : szOf Tryd.prog 40 = 1 := by kernel_rfl
@[simp] theorem ag_40 : aggT Tryd.prog 40 = some false := by kernel_rfl
@[simp] theorem by_40 : bytesOf Tryd.prog 40 = 24 := by kernel_rfl
attribute [simp] Tryd.underlying40
@[simp] theorem el_40 : Go.Sy.elemOf Tryd.prog 40 = some 39 := by kernel_rfl
@[simp] theorem zr_40 : zerosOf Tryd.prog 40 = some [(.sl .imm true 0 [])] := by kernel_rfl
@[simp] theorem sz_41 : szOf Tryd.prog 41 = 1 := by kernel_rfl
@[simp] theorem ag_41 : aggT Tryd.prog 41 = some false := by kernel_rfl
@[simp] theorem by_41 : bytesOf Tryd.prog 41 = 8 := by kernel_rfl
attribute [simp] Tryd.underlying41
@[simp] theorem sz_42 : szOf Tryd.prog 42 = 1 := by kernel_rfl
@[simp] theorem ag_42 : aggT Tryd.prog 42 = some false := by kernel_rfl
@[simp] theorem by_42 : bytesOf Tryd.prog 42 = 8 := by kernel_rfl
attribute [simp] Tryd.underlying42
@[simp] theorem sz_43 : szOf Tryd.prog 43 = 1 := by kernel_rfl
@[simp] theorem ag_43 : aggT Tryd.prog 43 = some false := by kernel_rfl
@[simp] theorem by_43 : bytesOf Tryd.prog 43 = 8 := by kernel_rfl
attribute [simp] Tryd.underlying43
@[simp] theorem sz_44 : szOf Tryd.prog 44 = 64 := by kernel_rfl
@[simp] theorem ag_44 : aggT Tryd.prog 44 = some true := by kernel_rfl
@[simp] theorem by_44 : bytesOf Tryd.prog 44 = 256 := by kernel_rfl
attribute [simp] Tryd.underlying44
@[simp] theorem zr_44 : zerosOf Tryd.prog 44 = some (List.replicate 64 (.lit (.int Go.IntKind.u32 0))) := by kernel_rfl
@[simp] theorem sz_45 : szOf Tryd.prog 45 = 1 := by kernel_rfl
@[simp] theorem ag_45 : aggT Tryd.prog 45 = some false := by kernel_rfl
@[simp] theorem by_45 : bytesOf Tryd.prog 45 = 8 := by kernel_rfl
attribute [simp] Tryd.underlying45
@[simp] theorem sz_46 : szOf Tryd.prog 46 = 1 := by kernel_rfl
@[simp] theorem ag_46 : aggT Tryd.prog 46 = some false := by kernel_rfl
@[simp] theorem by_46 : bytesOf Tryd.prog 46 = 8 := by kernel_rfl
attribute [simp] Tryd.underlying46
@[simp] theorem zr_46 : zerosOf Tryd.prog 46 = some [(.lit (.int Go.IntKind.u64 (0)))] := by kernel_rfl
@[simp] theorem sz_47 : szOf Tryd.prog 47 = 1 := by kernel_rfl
@[simp] theorem ag_47 : aggT Tryd.prog 47 = some false := by kernel_rfl
@[simp] theorem by_47 : bytesOf Tryd.prog 47 = 8 := by kernel_rfl
attribute [simp] Tryd.underlying47
@[simp] theorem sz_48 : szOf Tryd.prog 48 = 1 := by kernel_rfl
@[simp] theorem ag_48 : aggT Tryd.prog 48 = some false := by kernel_rfl
@[simp] theorem by_48 : bytesOf Tryd.prog 48 = 8 := by kernel_rfl
attribute [simp] Tryd.underlying48
@[simp] theorem zr_48 : zerosOf Tryd.prog 48 = some [(.lit (.pointer none))] := by kernel_rfl
@[simp] theorem sz_49 : szOf Tryd.prog 49 = 2 := by kernel_rfl
@[simp] theorem ag_49 : aggT Tryd.prog 49 = some true := by kernel_rfl
@[simp] theorem by_49 : bytesOf Tryd.prog 49 = 32 := by kernel_rfl
attribute [simp] Tryd.underlying49
@[simp] theorem fl_49_0 : fldOf Tryd.prog 49 0 = some (0, 48) := by kernel_rfl
@[simp] theorem fl_49_1 : fldOf Tryd.prog 49 1 = some (1, 22) := by kernel_rfl
@[simp] theorem pl_49 : placesOf Tryd.prog 49 = some [(0, 1), (1, 1)] := by kernel_rfl
@[simp] theorem zr_49 : zerosOf Tryd.prog 49 = some [(.lit (.pointer none)), (.sl .imm true 0 [])] := by kernel_rfl
@[simp] theorem sz_50 : szOf Tryd.prog 50 = 2 := by kernel_rfl
@[simp] theorem ag_50 : aggT Tryd.prog 50 = some true := by kernel_rfl
@[simp] theorem by_50 : bytesOf Tryd.prog 50 = 32 := by kernel_rfl
attribute [simp] Tryd.underlying50
@[simp] theorem fl_50_0 : fldOf Tryd.prog 50 0 = some (0, 48) := by kernel_rfl
@[simp] theorem fl_50_1 : fldOf Tryd.prog 50 1 = some (1, 22) := by kernel_rfl
@[simp] theorem pl_50 : placesOf Tryd.prog 50 = some [(0, 1), (1, 1)] := by kernel_rfl
@[simp] theorem zr_50 : zerosOf Tryd.prog 50 = some [(.lit (.pointer none)), (.sl .imm true 0 [])] := by kernel_rfl
@[simp] theorem sz_51 : szOf Tryd.prog 51 = 1 := by kernel_rfl
@[simp] theorem ag_51 : aggT Tryd.prog 51 = some false := by kernel_rfl
@[simp] theorem by_51 : bytesOf Tryd.prog 51 = 16 := by kernel_rfl
attribute [simp] Tryd.underlying51
@[simp] theorem sz_52 : szOf Tryd.prog 52 = 1 := by kernel_rfl
@[simp] theorem ag_52 : aggT Tryd.prog 52 = some false := by kernel_rfl
@[simp] theorem by_52 : bytesOf Tryd.prog 52 = 16 := by kernel_rfl
attribute [simp] Tryd.underlying52
@[simp] theorem sz_53 : szOf Tryd.prog 53 = 1 := by kernel_rfl
@[simp] theorem ag_53 : aggT Tryd.prog 53 = some false := by kernel_rfl
@[simp] theorem by_53 : bytesOf Tryd.prog 53 = 8 := by kernel_rfl
attribute [simp] Tryd.underlying53
@[simp] theorem sz_54 : szOf Tryd.prog 54 = 1 := by kernel_rfl
@[simp] theorem ag_54 : aggT Tryd.prog 54 = some false := by kernel_rfl
@[simp] theorem by_54 : bytesOf Tryd.prog 54 = 8 := by kernel_rfl
attribute [simp] Tryd.underlying54
@[simp] theorem sz_55 : szOf Tryd.prog 55 = 1 := by kernel_rfl
@[simp] theorem ag_55 : aggT Tryd.prog 55 = some false := by kernel_rfl
@[simp] theorem by_55 : bytesOf Tryd.prog 55 = 8 := by kernel_rfl
attribute [simp] Tryd.underlying55
@[simp] theorem sz_56 : szOf Tryd.prog 56 = 8 := by kernel_rfl
@[simp] theorem ag_56 : aggT Tryd.prog 56 = some true := by kernel_rfl
@[simp] theorem by_56 : bytesOf Tryd.prog 56 = 32 := by kernel_rfl
attribute [simp] Tryd.underlying56
@[simp] theorem pl_56 : placesOf Tryd.prog 56 = none := by kernel_rfl
@[simp] theorem zr_56 : zerosOf Tryd.prog 56 = some [(.lit (.int Go.IntKind.u32 (0))), (.lit (.int Go.IntKind.u32 (0))), (.lit (.int Go.IntKind.u32 (0))), (.lit (.int Go.IntKind.u32 (0))), (.lit (.int Go.IntKind.u32 (0))), (.lit (.int Go.IntKind.u32 (0))), (.lit (.int Go.IntKind.u32 (0))), (.lit (.int Go.IntKind.u32 (0)))] := by kernel_rfl
@[simp] theorem sz_57 : szOf Tryd.prog 57 = 8 := by kernel_rfl
@[simp] theorem ag_57 : aggT Tryd.prog 57 = some true := by kernel_rfl
@[simp] theorem by_57 : bytesOf Tryd.prog 57 = 32 := by kernel_rfl
attribute [simp] Tryd.underlying57
@[simp] theorem pl_57 : placesOf Tryd.prog 57 = none := by kernel_rfl
@[simp] theorem zr_57 : zerosOf Tryd.prog 57 = some [(.lit (.int Go.IntKind.u32 (0))), (.lit (.int Go.IntKind.u32 (0))), (.lit (.int Go.IntKind.u32 (0))), (.lit (.int Go.IntKind.u32 (0))), (.lit (.int Go.IntKind.u32 (0))), (.lit (.int Go.IntKind.u32 (0))), (.lit (.int Go.IntKind.u32 (0))), (.lit (.int Go.IntKind.u32 (0)))] := by kernel_rfl
@[simp] theorem sz_58 : szOf Tryd.prog 58 = 1 := by kernel_rfl
@[simp] theorem ag_58 : aggT Tryd.prog 58 = some false := by kernel_rfl
@[simp] theorem by_58 : bytesOf Tryd.prog 58 = 8 := by kernel_rfl
attribute [simp] Tryd.underlying58
@[simp] theorem sz_59 : szOf Tryd.prog 59 = 1 := by kernel_rfl
@[simp] theorem ag_59 : aggT Tryd.prog 59 = some false := by kernel_rfl
@[simp] theorem by_59 : bytesOf Tryd.prog 59 = 8 := by kernel_rfl
attribute [simp] Tryd.underlying59
@[simp] theorem zr_59 : zerosOf Tryd.prog 59 = some [(.lit (.int Go.IntKind.u64 (0)))] := by kernel_rfl
@[simp] theorem sz_60 : szOf Tryd.prog 60 = 10 := by kernel_rfl
@[simp] theorem ag_60 : aggT Tryd.prog 60 = some true := by kernel_rfl
@[simp] theorem by_60 : bytesOf Tryd.prog 60 = 64 := by kernel_rfl
attribute [simp] Tryd.underlying60
@[simp] theorem fl_60_0 : fldOf Tryd.prog 60 0 = some (0, 57) := by kernel_rfl
@[simp] theorem fl_60_1 : fldOf Tryd.prog 60 1 = some (8, 22) := by kernel_rfl
@[simp] theorem fl_60_2 : fldOf Tryd.prog 60 2 = some (9, 59) := by kernel_rfl
@[simp] theorem pl_60 : placesOf Tryd.prog 60 = some [(0, 8), (8, 1), (9, 1)] := by kernel_rfl
@[simp] theorem zr_60 : zerosOf Tryd.prog 60 = some [(.lit (.int Go.IntKind.u32 (0))), (.lit (.int Go.IntKind.u32 (0))), (.lit (.int Go.IntKind.u32 (0))), (.lit (.int Go.IntKind.u32 (0))), (.lit (.int Go.IntKind.u32 (0))), (.lit (.int Go.IntKind.u32 (0))), (.lit (.int Go.IntKind.u32 (0))), (.lit (.int Go.IntKind.u32 (0))), (.sl .imm true 0 []), (.lit (.int Go.IntKind.u64 (0)))] := by kernel_rfl
@[simp] theorem sz_61 : szOf Tryd.prog 61 = 10 := by kernel_rfl
@[simp] theorem ag_61 : aggT Tryd.prog 61 = some true := by kernel_rfl
@[simp] theorem by_61 : bytesOf Tryd.prog 61 = 64 := by kernel_rfl
attribute [simp] Tryd.underlying61
@[simp] theorem fl_61_0 : fldOf Tryd.prog 61 0 = some (0, 57) := by kernel_rfl
@[simp] theorem fl_61_1 : fldOf Tryd.prog 61 1 = some (8, 22) := by kernel_rfl
@[simp] theorem fl_61_2 : fldOf Tryd.prog 61 2 = some (9, 59) := by kernel_rfl
@[simp] theorem pl_61 : placesOf Tryd.prog 61 = some [(0, 8), (8, 1), (9, 1)] := by kernel_rfl
@[simp] theorem zr_61 : zerosOf Tryd.prog 61 = some [(.lit (.int Go.IntKind.u32 (0))), (.lit (.int Go.IntKind.u32 (0))), (.lit (.int Go.IntKind.u32 (0))), (.lit (.int Go.IntKind.u32 (0))), (.lit (.int Go.IntKind.u32 (0))), (.lit (.int Go.IntKind.u32 (0))), (.lit (.int Go.IntKind.u32 (0))), (.lit (.int Go.IntKind.u32 (0))), (.sl .imm true 0 []), (.lit (.int Go.IntKind.u64 (0)))] := by kernel_rfl
@[simp] theorem sz_62 : szOf Tryd.prog 62 = 1 := by kernel_rfl
@[simp] theorem ag_62 : aggT Tryd.prog 62 = some false := by kernel_rfl
@[simp] theorem by_62 : bytesOf Tryd.prog 62 = 8 := by kernel_rfl
attribute [simp] Tryd.underlying62
@[simp] theorem sz_63 : szOf Tryd.prog 63 = 1 := by kernel_rfl
@[simp] theorem ag_63 : aggT Tryd.prog 63 = some false := by kernel_rfl
@[simp] theorem by_63 : bytesOf Tryd.prog 63 = 8 := by kernel_rfl
attribute [simp] Tryd.underlying63
@[simp] theorem sz_64 : szOf Tryd.prog 64 = 1 := by kernel_rfl
@[simp] theorem ag_64 : aggT Tryd.prog 64 = some false := by kernel_rfl
@[simp] theorem by_64 : bytesOf Tryd.prog 64 = 8 := by kernel_rfl
attribute [simp] Tryd.underlying64
@[simp] theorem sz_65 : szOf Tryd.prog 65 = 1 := by kernel_rfl
@[simp] theorem ag_65 : aggT Tryd.prog 65 = some false := by kernel_rfl
@[simp] theorem by_65 : bytesOf Tryd.prog 65 = 8 := by kernel_rfl
attribute [simp] Tryd.underlying65
@[simp] theorem sz_66 : szOf Tryd.prog 66 = 1 := by kernel_rfl
@[simp] theorem ag_66 : aggT Tryd.prog 66 = some false := by kernel_rfl
@[simp] theorem by_66 : bytesOf Tryd.prog 66 = 8 := by kernel_rfl
attribute [simp] Tryd.underlying66
@[simp] theorem sz_67 : szOf Tryd.prog 67 = 1 := by kernel_rfl
@[simp] theorem ag_67 : aggT Tryd.prog 67 = some false := by kernel_rfl
@[simp] theorem by_67 : bytesOf Tryd.prog 67 = 8 := by kernel_rfl
attribute [simp] Tryd.underlying67
@[simp] theorem zr_67 : zerosOf Tryd.prog 67 = some [(.lit (.pointer none))] := by kernel_rfl
@[simp] theorem sz_68 : szOf Tryd.prog 68 = 1 := by kernel_rfl
@[simp] theorem ag_68 : aggT Tryd.prog 68 = some false := by kernel_rfl
@[simp] theorem by_68 : bytesOf Tryd.prog 68 = 24 := by kernel_rfl
attribute [simp] Tryd.underlying68
@[simp] theorem el_68 : Go.Sy.elemOf Tryd.prog 68 = some 22 := by kernel_rfl
@[simp] theorem zr_68 : zerosOf Tryd.prog 68 = some [(.sl .imm true 0 [])] := by kernel_rfl
@[simp] theorem sz_69 : szOf Tryd.prog 69 = 1 := by kernel_rfl
@[simp] theorem ag_69 : aggT Tryd.prog 69 = some false := by kernel_rfl
@[simp] theorem by_69 : bytesOf Tryd.prog 69 = 8 := by kernel_rfl
attribute [simp] Tryd.underlying69
@[simp] theorem sz_70 : szOf Tryd.prog 70 = 1 := by kernel_rfl
@[simp] theorem ag_70 : aggT Tryd.prog 70 = some false := by kernel_rfl
@[simp] theorem by_70 : bytesOf Tryd.prog 70 = 8 := by kernel_rfl
attribute [simp] Tryd.underlying70
@[simp] theorem sz_71 : szOf Tryd.prog 71 = 1 := by kernel_rfl
@[simp] theorem ag_71 : aggT Tryd.prog 71 = some false := by kernel_rfl
@[simp] theorem by_71 : bytesOf Tryd.prog 71 = 8 := by kernel_rfl
attribute [simp] Tryd.underlying71
@[simp] theorem sz_72 : szOf Tryd.prog 72 = 1 := by kernel_rfl
@[simp] theorem ag_72 : aggT Tryd.prog 72 = some false := by kernel_rfl
@[simp] theorem by_72 : bytesOf Tryd.prog 72 = 8 := by kernel_rfl
attribute [simp] Tryd.underlying72
@[simp] theorem zr_72 : zerosOf Tryd.prog 72 = some [(.lit (.pointer none))] := by kernel_rfl
@[simp] theorem sz_73 : szOf Tryd.prog 73 = 1 := by kernel_rfl
@[simp] theorem ag_73 : aggT Tryd.prog 73 = some false := by kernel_rfl
@[simp] theorem by_73 : bytesOf Tryd.prog 73 = 8 := by kernel_rfl
attribute [simp] Tryd.underlying73
@[simp] theorem sz_74 : szOf Tryd.prog 74 = 4 := by kernel_rfl
@[simp] theorem ag_74 : aggT Tryd.prog 74 = some true := by kernel_rfl
@[simp] theorem by_74 : bytesOf Tryd.prog 74 = 40 := by kernel_rfl
attribute [simp] Tryd.underlying74
@[simp] theorem fl_74_0 : fldOf Tryd.prog 74 0 = some (0, 17) := by kernel_rfl
@[simp] theorem fl_74_1 : fldOf Tryd.prog 74 1 = some (1, 17) := by kernel_rfl
@[simp] theorem fl_74_2 : fldOf Tryd.prog 74 2 = some (2, 17) := by kernel_rfl
@[simp] theorem fl_74_3 : fldOf Tryd.prog 74 3 = some (3, 9) := by kernel_rfl
@[simp] theorem pl_74 : placesOf Tryd.prog 74 = some [(0, 1), (1, 1), (2, 1), (3, 1)] := by kernel_rfl
@[simp] theorem zr_74 : zerosOf Tryd.prog 74 = some [(.lit (.pointer none)), (.lit (.pointer none)), (.lit (.pointer none)), (.lit (.string ByteArray.empty))] := by kernel_rfl
@[simp] theorem sz_75 : szOf Tryd.prog 75 = 4 := by kernel_rfl
@[simp] theorem ag_75 : aggT Tryd.prog 75 = some true := by kernel_rfl
@[simp] theorem by_75 : bytesOf Tryd.prog 75 = 40 := by kernel_rfl
attribute [simp] Tryd.underlying75
@[simp] theorem fl_75_0 : fldOf Tryd.prog 75 0 = some (0, 17) := by kernel_rfl
@[simp] theorem fl_75_1 : fldOf Tryd.prog 75 1 = some (1, 17) := by kernel_rfl
@[simp] theorem fl_75_2 : fldOf Tryd.prog 75 2 = some (2, 17) := by kernel_rfl
@[simp] theorem fl_75_3 : fldOf Tryd.prog 75 3 = some (3, 9) := by kernel_rfl
@[simp] theorem pl_75 : placesOf Tryd.prog 75 = some [(0, 1), (1, 1), (2, 1), (3, 1)] := by kernel_rfl
@[simp] theorem zr_75 : zerosOf Tryd.prog 75 = some [(.lit (.pointer none)), (.lit (.pointer none)), (.lit (.pointer none)), (.lit (.string ByteArray.empty))] := by kernel_rfl
@[simp] theorem sz_76 : szOf Tryd.prog 76 = 0 := by kernel_rfl
@[simp] theorem ag_76 : aggT Tryd.prog 76 = some true := by kernel_rfl
@[simp] theorem by_76 : bytesOf Tryd.prog 76 = 0 := by kernel_rfl
attribute [simp] Tryd.underlying76
@[simp] theorem pl_76 : placesOf Tryd.prog 76 = none := by kernel_rfl
@[simp] theorem zr_76 : zerosOf Tryd.prog 76 = some [] := by kernel_rfl
@[simp] theorem sz_77 : szOf Tryd.prog 77 = 0 := by kernel_rfl
@[simp] theorem ag_77 : aggT Tryd.prog 77 = some true := by kernel_rfl
@[simp] theorem by_77 : bytesOf Tryd.prog 77 = 0 := by kernel_rfl
attribute [simp] Tryd.underlying77
@[simp] theorem fl_77_0 : fldOf Tryd.prog 77 0 = some (0, 76) := by kernel_rfl
@[simp] theorem pl_77 : placesOf Tryd.prog 77 = some [(0, 0)] := by kernel_rfl
@[simp] theorem zr_77 : zerosOf Tryd.prog 77 = some [] := by kernel_rfl
@[simp] theorem sz_78 : szOf Tryd.prog 78 = 0 := by kernel_rfl
@[simp] theorem ag_78 : aggT Tryd.prog 78 = some true := by kernel_rfl
@[simp] theorem by_78 : bytesOf Tryd.prog 78 = 0 := by kernel_rfl
attribute [simp] Tryd.underlying78
@[simp] theorem fl_78_0 : fldOf Tryd.prog 78 0 = some (0, 76) := by kernel_rfl
@[simp] theorem pl_78 : placesOf Tryd.prog 78 = some [(0, 0)] := by kernel_rfl
@[simp] theorem zr_78 : zerosOf Tryd.prog 78 = some [] := by kernel_rfl
@[simp] theorem sz_79 : szOf Tryd.prog 79 = 1 := by kernel_rfl
@[simp] theorem ag_79 : aggT Tryd.prog 79 = some false := by kernel_rfl
@[simp] theorem by_79 : bytesOf Tryd.prog 79 = 8 := by kernel_rfl
attribute [simp] Tryd.underlying79
@[simp] theorem sz_80 : szOf Tryd.prog 80 = 1 := by kernel_rfl
@[simp] theorem ag_80 : aggT Tryd.prog 80 = some false := by kernel_rfl
@[simp] theorem by_80 : bytesOf Tryd.prog 80 = 1 := by kernel_rfl
attribute [simp] Tryd.underlying80
@[simp] theorem zr_80 : zerosOf Tryd.prog 80 = some [(.lit (.int Go.IntKind.u8 (0)))] := by kernel_rfl
@[simp] theorem sz_81 : szOf Tryd.prog 81 = 1 := by kernel_rfl
@[simp] theorem ag_81 : aggT Tryd.prog 81 = some false := by kernel_rfl
@[simp] theorem by_81 : bytesOf Tryd.prog 81 = 1 := by kernel_rfl
attribute [simp] Tryd.underlying81
@[simp] theorem zr_81 : zerosOf Tryd.prog 81 = some [(.lit (.int Go.IntKind.u8 (0)))] := by kernel_rfl
@[simp] theorem sz_82 : szOf Tryd.prog 82 = 1 := by kernel_rfl
@[simp] theorem ag_82 : aggT Tryd.prog 82 = some false := by kernel_rfl
@[simp] theorem by_82 : bytesOf Tryd.prog 82 = 8 := by kernel_rfl
attribute [simp] Tryd.underlying82
@[simp] theorem sz_83 : szOf Tryd.prog 83 = 1 := by kernel_rfl
@[simp] theorem ag_83 : aggT Tryd.prog 83 = some false := by kernel_rfl
@[simp] theorem by_83 : bytesOf Tryd.prog 83 = 4 := by kernel_rfl
attribute [simp] Tryd.underlying83
@[simp] theorem zr_83 : zerosOf Tryd.prog 83 = some [(.lit (.int Go.IntKind.i32 (0)))] := by kernel_rfl
@[simp] theorem sz_84 : szOf Tryd.prog 84 = 1 := by kernel_rfl
@[simp] theorem ag_84 : aggT Tryd.prog 84 = some false := by kernel_rfl
@[simp] theorem by_84 : bytesOf Tryd.prog 84 = 4 := by kernel_rfl
attribute [simp] Tryd.underlying84
@[simp] theorem zr_84 : zerosOf Tryd.prog 84 = some [(.lit (.int Go.IntKind.i32 (0)))] := by kernel_rfl
@[simp] theorem sz_85 : szOf Tryd.prog 85 = 11 := by kernel_rfl
@[simp] theorem ag_85 : aggT Tryd.prog 85 = some true := by kernel_rfl
@[simp] theorem by_85 : bytesOf Tryd.prog 85 = 48 := by kernel_rfl
attribute [simp] Tryd.underlying85
@[simp] theorem fl_85_0 : fldOf Tryd.prog 85 0 = some (0, 12) := by kernel_rfl
@[simp] theorem fl_85_1 : fldOf Tryd.prog 85 1 = some (1, 12) := by kernel_rfl
@[simp] theorem fl_85_2 : fldOf Tryd.prog 85 2 = some (2, 39) := by kernel_rfl
@[simp] theorem fl_85_3 : fldOf Tryd.prog 85 3 = some (3, 80) := by kernel_rfl
@[simp] theorem fl_85_4 : fldOf Tryd.prog 85 4 = some (4, 5) := by kernel_rfl
@[simp] theorem fl_85_5 : fldOf Tryd.prog 85 5 = some (5, 5) := by kernel_rfl
@[simp] theorem fl_85_6 : fldOf Tryd.prog 85 6 = some (6, 81) := by kernel_rfl
@[simp] theorem fl_85_7 : fldOf Tryd.prog 85 7 = some (7, 82) := by kernel_rfl
@[simp] theorem fl_85_8 : fldOf Tryd.prog 85 8 = some (8, 67) := by kernel_rfl
@[simp] theorem fl_85_9 : fldOf Tryd.prog 85 9 = some (9, 83) := by kernel_rfl
@[simp] theorem fl_85_10 : fldOf Tryd.prog 85 10 = some (10, 84) := by kernel_rfl
@[simp] theorem pl_85 : placesOf Tryd.prog 85 = some [(0, 1), (1, 1), (2, 1), (3, 1), (4, 1), (5, 1), (6, 1), (7, 1), (8, 1), (9, 1), (10, 1)] := by kernel_rfl
@[simp] theorem sz_86 : szOf Tryd.prog 86 = 11 := by kernel_rfl
@[simp] theorem ag_86 : aggT Tryd.prog 86 = some true := by kernel_rfl
@[simp] theorem by_86 : bytesOf Tryd.prog 86 = 48 := by kernel_rfl
attribute [simp] Tryd.underlying86
@[simp] theorem fl_86_0 : fldOf Tryd.prog 86 0 = some (0, 12) := by kernel_rfl
@[simp] theorem fl_86_1 : fldOf Tryd.prog 86 1 = some (1, 12) := by kernel_rfl
@[simp] theorem fl_86_2 : fldOf Tryd.prog 86 2 = some (2, 39) := by kernel_rfl
@[simp] theorem fl_86_3 : fldOf Tryd.prog 86 3 = some (3, 80) := by kernel_rfl
@[simp] theorem fl_86_4 : fldOf Tryd.prog 86 4 = some (4, 5) := by kernel_rfl
@[simp] theorem fl_86_5 : fldOf Tryd.prog 86 5 = some (5, 5) := by kernel_rfl
@[simp] theorem fl_86_6 : fldOf Tryd.prog 86 6 = some (6, 81) := by kernel_rfl
@[simp] theorem fl_86_7 : fldOf Tryd.prog 86 7 = some (7, 82) := by kernel_rfl
@[simp] theorem fl_86_8 : fldOf Tryd.prog 86 8 = some (8, 67) := by kernel_rfl
@[simp] theorem fl_86_9 : fldOf Tryd.prog 86 9 = some (9, 83) := by kernel_rfl
@[simp] theorem fl_86_10 : fldOf Tryd.prog 86 10 = some (10, 84) := by kernel_rfl
@[simp] theorem pl_86 : placesOf Tryd.prog 86 = some [(0, 1), (1, 1), (2, 1), (3, 1), (4, 1), (5, 1), (6, 1), (7, 1), (8, 1), (9, 1), (10, 1)] := by kernel_rfl

end Go.Proofs.YtlbbkaeohpaaiaaDoor
